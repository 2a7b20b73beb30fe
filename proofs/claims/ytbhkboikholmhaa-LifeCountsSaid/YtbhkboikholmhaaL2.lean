/- Plain: what an act may bring, and a law of lived from a law of one act. -/
import Derived.Test.YtbhkboikholmhaaL1
import Derived.Test.YtbhkboikholmhaaLV
namespace Go.Proofs.Ytbhkboikholmhaa.LP
set_option linter.unusedVariables false
set_option linter.unusedSimpArgs false
open Go.RowKit Go.Proofs.Ytbhkboikholmhaa.B Go.Proofs.YtbhkboikholmhaaW.PrintWords Go.Proofs.YtbhkboikholmhaaW.PrintLast Go.Proofs.YtbhkboikholmhaaW.PrintMore

def Else (k : Int) : Prop := k < 0 ∨ k > 6
inductive Step (s c d t k tok now n m : Int) : Int → Int → Int → Int → Int → Prop
  | err (e : Int) : e ≠ 0 → (e = 9 ↔ (1 ≤ k ∧ k ≤ 3 ∧ ¬ (s = 3 ∧ t = tok))) → Step s c d t k tok now n m 0 0 0 0 e
  | lease : k = 0 → s = 1 → Step s c d t k tok now n m 3 (wrap64 (c + 1)) (now + n) tok 0
  | ack : k = 1 → s = 3 → t = tok → Step s c d t k tok now n m 5 0 0 0 0
  | dead : (k = 2 ∧ t = tok) ∨ k = 4 ∨ Else k → s = 3 → c ≥ m → Step s c d t k tok now n m 4 c 0 0 0
  | back : (k = 2 ∧ t = tok) ∨ k = 4 ∨ Else k → s = 3 → ¬ c ≥ m → Step s c d t k tok now n m 1 c 0 0 0
  | later : k = 2 → s = 3 → t = tok → ¬ c ≥ m → Step s c d t k tok now n m 2 c (now + n) 0 0
  | extend : k = 3 → s = 3 → t = tok → Step s c d t k tok now n m 3 c (now + n) t 0
  | comes : k = 4 → s = 2 → d ≤ now → Step s c d t k tok now n m 1 c 0 t 0
  | same : k = 4 ∨ Else k → Step s c d t k tok now n m s c d t 0
  | requeue : k = 5 → s = 4 → Step s c d t k tok now n m 1 0 0 0 0
  | purge : k = 6 → s = 4 → Step s c d t k tok now n m 5 0 0 0 0

def Res (P : Int → Int → Int → Int → Int → Prop) (o : Option (Int × Int × Int × Int × Int)) : Prop := ∃ r1 r2 r3 r4 r5, o = some (r1, r2, r3, r4, r5) ∧ P r1 r2 r3 r4 r5
theorem Res.mk {P : Int → Int → Int → Int → Int → Prop} {r1 r2 r3 r4 r5 : Int} (h : P r1 r2 r3 r4 r5) : Res P (some (r1, r2, r3, r4, r5)) := ⟨_, _, _, _, _, rfl, h⟩
theorem Res.bind {P : Int → Int → Int → Int → Int → Prop} {o : Option (Int × Int × Int × Int × Int)} (h : Res P o) : Res P (o.bind fun b => some (b.1, b.2.1, b.2.2.1, b.2.2.2.1, b.2.2.2.2)) := by
  obtain ⟨r1, r2, r3, r4, r5, rfl, hp⟩ := h
  exact Res.mk hp
theorem do_res (s c d t k tok : Int) {now n : Int} (m : Int) (ha : U now) (hb : U n) : Res (Step s c d t k tok now n m) (tumbrellaw09_do.f s c d t k tok now n m) := by
  unfold tumbrellaw09_do.f
  by_cases k0 : k = 0
  · rw [if_pos k0]
    refine Res.bind ?_
    unfold life_Life_Lease.f
    by_cases hs : s = 1
    · rw [if_pos hs]
      refine Res.bind ?_
      unfold life_leased.f
      by_cases hn : n = 0
      · rw [if_pos hn]; exact Res.mk (Step.err 1 (by decide) (by omega))
      · rw [if_neg hn]
        by_cases e5 : now + n < 18446744073709551616
        · rw [sum_ok ha hb e5, Option.bind_some, if_pos rfl]; exact Res.mk (Step.lease k0 hs)
        · rw [sum_no ha hb e5, Option.bind_some, if_neg (by decide)]; exact Res.mk (Step.err 10 (by decide) (by omega))
    · rw [if_neg hs]; exact Res.mk (Step.err 11 (by decide) (by omega))
  rw [if_neg k0]
  by_cases k1 : k = 1
  · rw [if_pos k1]
    refine Res.bind ?_
    unfold life_Life_Ack.f life_Life_holds.f
    rw [Option.bind_some]
    by_cases hh : s = 3 ∧ t = tok
    · rw [if_pos (by simp [hh])]; exact Res.mk (Step.ack k1 hh.1 hh.2)
    · rw [if_neg (by simpa using hh)]; exact Res.mk (Step.err 9 (by decide) (by omega))
  rw [if_neg k1]
  by_cases k2 : k = 2
  · rw [if_pos k2]
    refine Res.bind ?_
    unfold life_Life_Nack.f life_Life_holds.f
    rw [Option.bind_some]
    by_cases hh : s = 3 ∧ t = tok
    · rw [if_pos (by simp [hh])]
      by_cases hc : c ≥ m
      · rw [if_pos hc]; unfold life_Life_ended.f; rw [if_pos hc]; exact Res.mk (Step.dead (.inl ⟨k2, hh.2⟩) hh.1 hc)
      · rw [if_neg hc]
        refine Res.bind ?_
        unfold life_later.f
        by_cases hn : n = 0
        · rw [if_pos hn]; exact Res.mk (Step.back (.inl ⟨k2, hh.2⟩) hh.1 hc)
        · rw [if_neg hn]
          by_cases e5 : now + n < 18446744073709551616
          · rw [sum_ok ha hb e5, Option.bind_some, if_pos rfl]; exact Res.mk (Step.later k2 hh.1 hh.2 hc)
          · rw [sum_no ha hb e5, Option.bind_some, if_neg (by decide)]; exact Res.mk (Step.err 10 (by decide) (by omega))
    · rw [if_neg (by simpa using hh)]; exact Res.mk (Step.err 9 (by decide) (by omega))
  rw [if_neg k2]
  by_cases k3 : k = 3
  · rw [if_pos k3]
    refine Res.bind ?_
    unfold life_Life_Extend.f life_Life_holds.f
    rw [Option.bind_some]
    by_cases hh : s = 3 ∧ t = tok
    · rw [if_pos (by simp [hh])]
      refine Res.bind ?_
      unfold life_leased.f
      by_cases hn : n = 0
      · rw [if_pos hn]; exact Res.mk (Step.err 1 (by decide) (by omega))
      · rw [if_neg hn]
        by_cases e5 : now + n < 18446744073709551616
        · rw [sum_ok ha hb e5, Option.bind_some, if_pos rfl]; exact Res.mk (Step.extend k3 hh.1 hh.2)
        · rw [sum_no ha hb e5, Option.bind_some, if_neg (by decide)]; exact Res.mk (Step.err 10 (by decide) (by omega))
    · rw [if_neg (by simpa using hh)]; exact Res.mk (Step.err 9 (by decide) (by omega))
  rw [if_neg k3]
  by_cases k4 : k = 4
  · rw [if_pos k4]
    unfold life_Life_Pass.f
    by_cases hd : d > now
    · rw [if_pos hd]; exact Res.mk (Step.same (.inl k4))
    · rw [if_neg hd]
      by_cases h2 : s = 2
      · rw [if_pos h2]; exact Res.mk (Step.comes k4 h2 (by omega))
      · rw [if_neg h2]
        by_cases h3 : s = 3
        · rw [if_pos h3]
          by_cases hc : c ≥ m
          · rw [if_pos hc]; exact Res.mk (Step.dead (.inr (.inl k4)) h3 hc)
          · rw [if_neg hc]; exact Res.mk (Step.back (.inr (.inl k4)) h3 hc)
        · rw [if_neg h3]; exact Res.mk (Step.same (.inl k4))
  rw [if_neg k4]
  by_cases k5 : k = 5
  · rw [if_pos k5]
    refine Res.bind ?_
    unfold life_Life_Requeue.f
    by_cases h4 : s = 4
    · rw [if_pos h4]; exact Res.mk (Step.requeue k5 h4)
    · rw [if_neg h4]; exact Res.mk (Step.err 5 (by decide) (by omega))
  rw [if_neg k5]
  by_cases k6 : k = 6
  · rw [if_pos k6]
    refine Res.bind ?_
    unfold life_Life_Purge.f
    by_cases h4 : s = 4
    · rw [if_pos h4]; exact Res.mk (Step.purge k6 h4)
    · rw [if_neg h4]; exact Res.mk (Step.err 5 (by decide) (by omega))
  rw [if_neg k6]
  have he : Else k := by unfold Else; omega
  unfold life_Life_Reset.f
  by_cases h3 : s = 3
  · rw [if_pos h3]
    unfold life_Life_ended.f
    by_cases hc : c ≥ m
    · rw [if_pos hc]; exact Res.mk (Step.dead (.inr (.inr he)) h3 hc)
    · rw [if_neg hc]; exact Res.mk (Step.back (.inr (.inr he)) h3 hc)
  · rw [if_neg h3]; exact Res.mk (Step.same (.inr he))

def wf30 (x : S30) : Prop := (Lit.int .i64 x.f0).wf = true ∧ (Lit.int .u64 x.f1).wf = true ∧ (Lit.int .u64 x.f2).wf = true ∧ (Lit.int .u64 x.f3).wf = true

theorem lived_loop (see : Nat → Int → Int → Int → Int → Int → Int → Int → Int → Int → Int → Int → Int → Int → Option Bool) (m : Int) (l : List S30) (hlen : l.length ≤ 300) (hl : ∀ x ∈ l, wf30 x) (Inv : Int → Int → Int → Int → Prop)
    (hstep : ∀ s c d t (x : S30), Inv s c d t → ∀ r1 r2 r3 r4 r5, Step s c d t x.f0 x.f1 x.f2 x.f3 m r1 r2 r3 r4 r5 → (∀ k, 2 ≤ k → see k s c d t r1 r2 r3 r4 x.f0 x.f1 x.f2 x.f3 r5 = some true) ∧ (r5 = 0 → Inv r1 r2 r3 r4)) :
    ∀ (e i : Nat) (s c d t : Int), i + e = l.length → Inv s c d t → tumbrellaw09_lived.l0 see (e + 3) m l (l.length : Int) (i : Int) s c d t = some true := by
  intro e
  induction e with
  | zero =>
    intro i s c d t hi _
    rw [tumbrellaw09_lived.l0, if_neg (by omega)]
  | succ e ih =>
    intro i s c d t hi hI
    rw [show e + 1 + 3 = (e + 3) + 1 by omega, tumbrellaw09_lived.l0, if_pos (by omega), if_pos (by omega), if_pos (by omega)]
    have hx : rd_T30 l (i : Int) = l[i]'(by omega) := by
      unfold rd_T30
      rw [Int.toNat_natCast, List.getD_eq_getElem?_getD, List.getElem?_eq_getElem (by omega)]; rfl
    rw [hx]
    obtain ⟨_, w1, w2, w3⟩ := hl _ (List.getElem_mem (show i < l.length by omega))
    obtain ⟨r1, r2, r3, r4, r5, hr, hs⟩ := do_res s c d t (l[i]'(by omega)).f0 (l[i]'(by omega)).f1 m (U_of_wf w2) (U_of_wf w3)
    obtain ⟨h1, h2⟩ := hstep s c d t _ hI r1 r2 r3 r4 r5 hs
    rw [hr, Option.bind_some]
    dsimp only
    rw [h1 _ (by omega), Option.bind_some, if_pos rfl, show wrap64 ((i : Int) + 1) = ((i + 1 : Nat) : Int) by unfold wrap64; omega]
    by_cases h5 : r5 = 0
    · rw [if_pos h5]; exact ih (i + 1) r1 r2 r3 r4 (by omega) (h2 h5)
    · rw [if_neg h5]; exact ih (i + 1) s c d t (by omega) hI
theorem lived_f (see : Nat → Int → Int → Int → Int → Int → Int → Int → Int → Int → Int → Int → Int → Int → Option Bool) (m : Int) (l : List S30) (hlen : l.length ≤ 300) (hl : ∀ x ∈ l, wf30 x) (Inv : Int → Int → Int → Int → Prop) (h0 : Inv 1 0 0 0)
    (hstep : ∀ s c d t (x : S30), Inv s c d t → ∀ r1 r2 r3 r4 r5, Step s c d t x.f0 x.f1 x.f2 x.f3 m r1 r2 r3 r4 r5 → (∀ k, 2 ≤ k → see k s c d t r1 r2 r3 r4 x.f0 x.f1 x.f2 x.f3 r5 = some true) ∧ (r5 = 0 → Inv r1 r2 r3 r4)) :
    tumbrellaw09_lived.f see (l.length + 3) l m = some true := by
  unfold tumbrellaw09_lived.f
  rw [show life_Born.f 0 0 = some (1, 0, 0, 0, 0) by decide +kernel, Option.bind_some, if_pos rfl]
  exact lived_loop see m l hlen hl Inv hstep l.length 0 1 0 0 0 (by omega) h0
end Go.Proofs.Ytbhkboikholmhaa.LP
