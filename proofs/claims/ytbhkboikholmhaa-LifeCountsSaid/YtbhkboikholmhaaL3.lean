/- By hand: the closure of LifeCounts as a function, its contract, and a law of lived that tells each act's own answer. -/
import Derived.Test.YtbhkboikholmhaaCC
namespace Go.Proofs.Ytbhkboikholmhaa.LP
set_option linter.unusedVariables false
set_option linter.unusedSimpArgs false
open Go.RowKit Go.Proofs.Ytbhkboikholmhaa.B Go.Proofs.YtbhkboikholmhaaW.PrintWords Go.Proofs.YtbhkboikholmhaaW.PrintLast Go.Proofs.YtbhkboikholmhaaW.PrintMore

def seeC (m : Int) (_k : Nat) (s c d t r1 r2 r3 r4 x0 x1 x2 x3 e : Int) : Option Bool :=
  if (0 ≤ c ∧ c ≤ m ∧ m ≤ 9223372036854775807 ∧ 1 ≤ m ∧ ((s = 1 ∨ s = 2) → c < m)) ∧ (0 ≤ x2 ∧ x2 < 18446744073709551616) ∧ (0 ≤ x3 ∧ x3 < 18446744073709551616) ∧ tumbrellaw09_do.f s c d t x0 x1 x2 x3 m = some (r1, r2, r3, r4, e) then some true else none
set_option maxHeartbeats 4000000 in
set_option maxRecDepth 100000 in
theorem seeC_calls (g : Nat) (m : Int) (k : Nat) (s c d t r1 r2 r3 r4 x0 x1 x2 x3 e : Int) (w : World) (hm : w.heap[g]? = some (.cells #[.int .i64 m] 3 (0, 0))) (h : seeC m k s c d t r1 r2 r3 r4 x0 x1 x2 x3 e = some true) :
    Calls Try.prog 16 #[.agg #[.int .i64 s, .int .i64 c, .int .u64 d, .int .u64 t], .agg #[.int .i64 r1, .int .i64 r2, .int .u64 r3, .int .u64 r4], .agg #[.int .i64 x0, .int .u64 x1, .int .u64 x2, .int .u64 x3], .int .i64 e, .pointer (some ⟨g, 0, none⟩)] w fun e w' => e = .returned (.bool true) ∧ Below w.heap.size w w' := by
  unfold seeC at h
  split at h
  case isFalse => exact absurd h (by simp)
  rename_i hh
  obtain ⟨hI, ha, hb, hd⟩ := hh
  obtain ⟨q1, q2, q3, q4, q5, hq, hs⟩ := do_res s c d t x0 x1 m ha hb
  rw [hq] at hd
  simp only [Option.some.injEq, Prod.mk.injEq] at hd
  obtain ⟨rfl, rfl, rfl, rfl, rfl⟩ := hd
  have hI' : InvC m s c := hI
  cases hs with
  | err e he h9 => exact seeC_err g m s c d t x0 x1 x2 x3 _ w hm hI' he
  | lease a b => subst a; subst b; exact seeC_lease g m c d t x1 x2 x3 _ _ w hm hI'
  | ack a b cc =>
    subst a; subst b
    by_cases hz : c = 0
    · exact seeC_ack_z g m c d t x1 x2 x3 w hm hI' hz
    · exact seeC_ack_n g m c d t x1 x2 x3 w hm hI' hz
  | dead a b cc =>
    have hx : x0 ≠ 0 ∧ x0 ≠ 1 ∧ x0 ≠ 5 ∧ x0 ≠ 6 := by unfold Else at a; omega
    by_cases hz : c = 0
    · exact seeC_keep_z g m s 4 0 0 x0 c d t x1 x2 x3 w hm hI' hz hx (by decide)
    · exact seeC_keep_n g m s 4 0 0 x0 c d t x1 x2 x3 w hm hI' hz hx (by decide)
  | back a b cc =>
    have hx : x0 ≠ 0 ∧ x0 ≠ 1 ∧ x0 ≠ 5 ∧ x0 ≠ 6 := by unfold Else at a; omega
    by_cases hz : c = 0
    · exact seeC_keep1_z g m s 0 0 x0 c d t x1 x2 x3 w hm hI' hz hx (by omega)
    · exact seeC_keep1_n g m s 0 0 x0 c d t x1 x2 x3 w hm hI' hz hx (by omega)
  | later a b cc dd =>
    have hx : x0 ≠ 0 ∧ x0 ≠ 1 ∧ x0 ≠ 5 ∧ x0 ≠ 6 := by omega
    by_cases hz : c = 0
    · exact seeC_keep_z g m s 2 _ _ x0 c d t x1 x2 x3 w hm hI' hz hx (by decide)
    · exact seeC_keep_n g m s 2 _ _ x0 c d t x1 x2 x3 w hm hI' hz hx (by decide)
  | extend a b cc =>
    have hx : x0 ≠ 0 ∧ x0 ≠ 1 ∧ x0 ≠ 5 ∧ x0 ≠ 6 := by omega
    by_cases hz : c = 0
    · exact seeC_keep_z g m s 3 _ _ x0 c d t x1 x2 x3 w hm hI' hz hx (by decide)
    · exact seeC_keep_n g m s 3 _ _ x0 c d t x1 x2 x3 w hm hI' hz hx (by decide)
  | comes a b cc =>
    have hx : x0 ≠ 0 ∧ x0 ≠ 1 ∧ x0 ≠ 5 ∧ x0 ≠ 6 := by omega
    have hlt : c < m := hI.2.2.2.2 (.inr b)
    by_cases hz : c = 0
    · exact seeC_keep1_z g m s _ _ x0 c d t x1 x2 x3 w hm hI' hz hx hlt
    · exact seeC_keep1_n g m s _ _ x0 c d t x1 x2 x3 w hm hI' hz hx hlt
  | same a =>
    have hx : x0 ≠ 0 ∧ x0 ≠ 1 ∧ x0 ≠ 5 ∧ x0 ≠ 6 := by unfold Else at a; omega
    by_cases hs1 : s = 1
    · have hlt : c < m := hI.2.2.2.2 (.inl hs1)
      subst hs1
      by_cases hz : c = 0
      · exact seeC_keep1_z g m 1 _ _ x0 c d t x1 x2 x3 w hm hI' hz hx hlt
      · exact seeC_keep1_n g m 1 _ _ x0 c d t x1 x2 x3 w hm hI' hz hx hlt
    · by_cases hz : c = 0
      · exact seeC_keep_z g m s s _ _ x0 c d t x1 x2 x3 w hm hI' hz hx hs1
      · exact seeC_keep_n g m s s _ _ x0 c d t x1 x2 x3 w hm hI' hz hx hs1
  | requeue a b =>
    subst a; subst b
    by_cases hz : c = 0
    · exact seeC_requeue_z g m c d t x1 x2 x3 w hm hI' hz
    · exact seeC_requeue_n g m c d t x1 x2 x3 w hm hI' hz
  | purge a b =>
    subst a; subst b
    by_cases hz : c = 0
    · exact seeC_purge_z g m c d t x1 x2 x3 w hm hI' hz
    · exact seeC_purge_n g m c d t x1 x2 x3 w hm hI' hz

theorem counts_inv (s c d t k tok now n m r1 r2 r3 r4 : Int) (hI : InvC m s c) (h : Step s c d t k tok now n m r1 r2 r3 r4 0) : InvC m r1 r2 := by
  unfold InvC at hI ⊢
  obtain ⟨i0, i1, i2, i3, i4⟩ := hI
  cases h with
  | err e he h9 => omega
  | lease a b => have : wrap64 (c + 1) = c + 1 := by unfold wrap64; omega
                 omega
  | ack a b cc => omega
  | dead a b cc => omega
  | back a b cc => omega
  | later a b cc dd => omega
  | extend a b cc => omega
  | comes a b cc => omega
  | same a => omega
  | requeue a b => omega
  | purge a b => omega
theorem counts_loop (m : Int) (l : List S30) (hlen : l.length ≤ 300) (hl : ∀ x ∈ l, wf30 x) :
    ∀ (e i : Nat) (s c d t : Int), i + e = l.length → InvC m s c → tumbrellaw09_lived.l0 (seeC m) (e + 3) m l (l.length : Int) (i : Int) s c d t = some true := by
  intro e
  induction e with
  | zero =>
    intro i s c d t hi _
    rw [tumbrellaw09_lived.l0, if_neg (by omega)]
  | succ e ih =>
    intro i s c d t hi hI
    rw [show e + 1 + 3 = (e + 3) + 1 by omega, tumbrellaw09_lived.l0, if_pos (by omega), if_pos (by omega), if_pos (by omega)]
    have hx : rd_T30 l (i : Int) = l[i]'(by omega) := by
      unfold rd_T30
      rw [Int.toNat_natCast, List.getD_eq_getElem?_getD, List.getElem?_eq_getElem (by omega)]; rfl
    rw [hx]
    obtain ⟨_, w1, w2, w3⟩ := hl _ (List.getElem_mem (show i < l.length by omega))
    obtain ⟨r1, r2, r3, r4, r5, hr, hs⟩ := do_res s c d t (l[i]'(by omega)).f0 (l[i]'(by omega)).f1 m (U_of_wf w2) (U_of_wf w3)
    have h1 : seeC m (e + 3) s c d t r1 r2 r3 r4 (l[i]'(by omega)).f0 (l[i]'(by omega)).f1 (l[i]'(by omega)).f2 (l[i]'(by omega)).f3 r5 = some true := by
      unfold seeC
      rw [if_pos ⟨hI, U_of_wf w2, U_of_wf w3, hr⟩]
    rw [hr, Option.bind_some]
    dsimp only
    rw [h1, Option.bind_some, if_pos rfl, show wrap64 ((i : Int) + 1) = ((i + 1 : Nat) : Int) by unfold wrap64; omega]
    by_cases h5 : r5 = 0
    · rw [if_pos h5]; subst h5; exact ih (i + 1) r1 r2 r3 r4 (by omega) (counts_inv _ _ _ _ _ _ _ _ _ _ _ _ _ hI hs)
    · rw [if_neg h5]; exact ih (i + 1) s c d t (by omega) hI
theorem counts_f (m : Int) (l : List S30) (hlen : l.length ≤ 300) (hl : ∀ x ∈ l, wf30 x) (hm : 1 ≤ m ∧ m ≤ 9223372036854775807) : tumbrellaw09_lived.f (seeC m) (l.length + 3) l m = some true := by
  unfold tumbrellaw09_lived.f
  rw [show life_Born.f 0 0 = some (1, 0, 0, 0, 0) by decide +kernel, Option.bind_some, if_pos rfl]
  exact counts_loop m l hlen hl l.length 0 1 0 0 0 (by omega) (by unfold InvC; omega)
end Go.Proofs.Ytbhkboikholmhaa.LP
