/- Plain: vint.All and vint.Split, and the references' Put, Get, All, Split, as functions of lists. -/
import Derived.Test.YtojepleodijdeaaV2
import Derived.Test.YtojepleodijdeaaB3
import Derived.Test.YtojepleodijdeaaB11
namespace Go.Proofs.Ytojepleodijdeaa.VP
set_option linter.unusedVariables false
set_option linter.unusedSimpArgs false
open Go.RowKit Go.Proofs.Ytojepleodijdeaa.B Go.Proofs.YtojepleodijdeaaW.PrintWords Go.Proofs.YtojepleodijdeaaW.PrintLast Go.Proofs.YtojepleodijdeaaW.PrintMore

def isU (l : List Int) : Prop := ∀ x ∈ l, 0 ≤ x ∧ x < 18446744073709551616
theorem isU_of_wf {l : List Int} (h : ∀ x ∈ l, (Lit.int .u64 x).wf = true) : isU l := fun x hx => wf_u64 (h x hx)

/-- the bytes of numbers -/
def vall : List Int → List Int
  | [] => []
  | x :: l => vput x.toNat ++ vall l
theorem vall_append (l m : List Int) : vall (l ++ m) = vall l ++ vall m := by
  induction l with
  | nil => rfl
  | cons x l ih => simp [vall, ih]
theorem vput_len (n : Nat) : 1 ≤ (vput n).length ∧ (vput n).length ≤ 10 := vputF_length 9 n
theorem vall_len (l : List Int) : (vall l).length ≤ 10 * l.length := by
  induction l with
  | nil => simp [vall]
  | cons x l ih => have := (vput_len x.toNat).2; simp only [vall, List.length_append, List.length_cons]; omega
theorem vall_isB {l : List Int} (h : isU l) : isB (vall l) := by
  induction l with
  | nil => intro x hx; cases hx
  | cons x l ih =>
    have hx := h x (List.mem_cons_self ..)
    exact isB_append (vput_isB (by omega)) (ih fun y hy => h y (List.mem_cons_of_mem _ hy))
theorem vput_f' {a : Int} (h : 0 ≤ a ∧ a < 18446744073709551616) : vint_Put.f a = some (vput a.toNat) := vput_f h.1 h.2
theorem drop_cons {l : List Int} {i : Nat} (h : i < l.length) : l.drop i = l[i] :: l.drop (i + 1) := List.drop_eq_getElem_cons h

theorem all_loop (l : List Int) (hu : isU l) (hl : l.length ≤ 1000000000) : ∀ (d i : Nat) (out : List Int), l.length - i = d → out.length ≤ 10 * i →
    Ev (fun k => vint_All.l0 k out l (l.length : Int) (i : Int)) (out ++ vall (l.drop i)) := by
  intro d
  induction d with
  | zero =>
    intro i out hd ho
    refine Ev.step (f := fun _ => some out) (fun k => ?_) ?_
    · simp only [vint_All.l0]; rw [if_neg (by omega)]
    · rw [List.drop_of_length_le (by omega)]; simp only [vall, List.append_nil]; exact Ev.now _
  | succ d ih =>
    intro i out hd ho
    have h1 : i < l.length := by omega
    have hx := hu l[i] (List.getElem_mem h1)
    have hv := vput_len l[i].toNat
    refine Ev.step (f := fun k => vint_All.l0 k (out ++ vput l[i].toNat) l (l.length : Int) ((i + 1 : Nat) : Int)) (fun k => ?_) ?_
    · simp only [vint_All.l0]
      rw [if_pos (by omega), if_pos (by omega), if_pos (by omega), rd_at h1, vput_f' hx]
      simp only [Option.bind_some]
      rw [if_pos (by omega), wrap_succ i (by omega)]
    · rw [drop_cons h1]
      have := ih (i + 1) (out ++ vput l[i].toNat) (by omega) (by rw [List.length_append]; omega)
      rw [List.append_assoc] at this
      exact this
theorem all_ev (l : List Int) (hu : isU l) (hl : l.length ≤ 1000000000) : Ev (fun k => vint_All.f k l) (vall l) := by
  have := all_loop l hu hl l.length 0 [] (by omega) (by simp)
  simpa [vint_All.f] using this

/-- the numbers of bytes -/
def gsplit : Nat → List Int → List Int → List Int × Int
  | 0, acc, _ => (acc, 0)
  | d + 1, acc, l =>
    if l = [] then (acc, 0)
    else if (gget 0 0 l).2.2 = 0 then gsplit d (acc ++ [(gget 0 0 l).1]) (l.drop (gget 0 0 l).2.1.toNat)
    else ([], (gget 0 0 l).2.2)
theorem gget_used {l : List Int} (hb : isB l) (h : (gget 0 0 l).2.2 = 0) : 1 ≤ (gget 0 0 l).2.1 ∧ (gget 0 0 l).2.1 ≤ l.length := by
  obtain ⟨n, _, h2, h3, h4, _⟩ := gget_back l 0 0 (gget 0 0 l).1 (gget 0 0 l).2.1 hb (by omega) (Prod.ext rfl (Prod.ext rfl h))
  have := vputF_length (9 - 0) n
  omega

theorem split_loop : ∀ (d : Nat) (l out : List Int), l.length ≤ d → isB l → out.length + l.length ≤ 1000000000 → Ev (fun k => vint_Split.l0 k l out) (gsplit d out l) := by
  intro d
  induction d with
  | zero =>
    intro l out hd hb ho
    refine Ev.step (f := fun _ => some (out, 0)) (fun k => ?_) ?_
    · simp only [vint_Split.l0]; rw [if_neg (by omega)]
    · rw [gsplit]; exact Ev.now _
  | succ d ih =>
    intro l out hd hb ho
    rw [gsplit]
    by_cases he : l = []
    · rw [if_pos he]
      refine Ev.step (f := fun _ => some (out, 0)) (fun k => ?_) (Ev.now _)
      simp only [vint_Split.l0]; rw [if_neg (by subst he; simp)]
    · rw [if_neg he]
      have hpos : 0 < l.length := List.length_pos_iff.2 he
      refine Ev.step (f := fun k => (vint_Get.f k l).bind fun b => if b.2.2 = 0 then (if out.length < 17592186044416 then (if 0 ≤ b.2.1 then (if b.2.1 ≤ (l.length : Int) then (vint_Split.l0 k (l.drop (b.2.1 : Int).toNat) (out ++ [b.1])) else none) else none) else none) else some (([] : List Int), b.2.2)) (fun k => ?_) ?_
      · simp only [vint_Split.l0]; rw [if_pos (by omega)]
      · refine Ev.bind (f := fun k b => if b.2.2 = 0 then (if out.length < 17592186044416 then (if 0 ≤ b.2.1 then (if b.2.1 ≤ (l.length : Int) then (vint_Split.l0 k (l.drop (b.2.1 : Int).toNat) (out ++ [b.1])) else none) else none) else none) else some (([] : List Int), b.2.2)) (get_ev l hb (by omega)) ?_
        by_cases h0 : (gget 0 0 l).2.2 = 0
        · have hu := gget_used hb h0
          rw [if_pos h0]
          refine Ev.congr (f := fun k => vint_Split.l0 k (l.drop (gget 0 0 l).2.1.toNat) (out ++ [(gget 0 0 l).1])) (fun k => ?_) (ih _ _ ?_ (isB_drop hb _) ?_)
          · rw [if_pos h0, if_pos (by omega), if_pos (by omega), if_pos (by omega)]
          · rw [List.length_drop]; omega
          · rw [List.length_drop, List.length_append, List.length_singleton]; omega
        · rw [if_neg h0]
          refine Ev.congr (f := fun _ => some (([] : List Int), (gget 0 0 l).2.2)) (fun k => ?_) (Ev.now _)
          rw [if_neg h0]
theorem split_ev (l : List Int) (hb : isB l) (hl : l.length ≤ 1000000000) : Ev (fun k => vint_Split.f k l) (gsplit l.length [] l) := by
  have := split_loop l.length l [] (Nat.le_refl _) hb (by simpa using hl)
  simpa [vint_Split.f] using this

/-- numbers come back from their bytes -/
theorem gsplit_all (l : List Int) : ∀ (d : Nat) (acc : List Int), isU l → (vall l).length ≤ d → gsplit d acc (vall l) = (acc ++ l, 0) := by
  induction l with
  | nil =>
    intro d acc _ _
    cases d <;> simp [gsplit, vall]
  | cons x l ih =>
    intro d acc hu hd
    have hx := hu x (List.mem_cons_self ..)
    have hv := vput_len x.toNat
    simp only [vall, List.length_append] at hd
    obtain ⟨d, rfl⟩ : ∃ e, d = e + 1 := ⟨d - 1, by omega⟩
    have hg := get_put (n := x.toNat) (by omega) (vall l)
    rw [gsplit, if_neg (fun h => by have := congrArg List.length h; simp only [vall, List.length_append, List.length_nil] at this; omega)]
    simp only [vall, hg, if_true]
    rw [Int.toNat_natCast, List.drop_left, ih d _ (fun y hy => hu y (List.mem_cons_of_mem _ hy)) (by omega)]
    rw [show ((x.toNat : Nat) : Int) = x by omega]
    simp

/-- bytes come back from their numbers -/
theorem gsplit_back : ∀ (d : Nat) (l acc p : List Int) (c : Int), l.length ≤ d → isB l → gsplit d acc l = (p, c) → c ≠ 0 ∧ p = [] ∨ c = 0 ∧ ∃ q, p = acc ++ q ∧ vall q = l ∧ isU q ∧ q.length ≤ l.length := by
  intro d
  induction d with
  | zero =>
    intro l acc p c hd hb h
    rw [gsplit] at h
    have : l = [] := List.eq_nil_of_length_eq_zero (by omega)
    subst this
    simp only [Prod.mk.injEq] at h
    exact .inr ⟨h.2.symm, [], by rw [← h.1]; simp, rfl, (fun x hx => by cases hx), by simp⟩
  | succ d ih =>
    intro l acc p c hd hb h
    rw [gsplit] at h
    by_cases he : l = []
    · rw [if_pos he] at h
      subst he
      simp only [Prod.mk.injEq] at h
      exact .inr ⟨h.2.symm, [], by rw [← h.1]; simp, rfl, (fun x hx => by cases hx), by simp⟩
    · rw [if_neg he] at h
      by_cases h0 : (gget 0 0 l).2.2 = 0
      · rw [if_pos h0] at h
        have hu := gget_used hb h0
        obtain ⟨n, h1, h2, h3, h4, _, h6⟩ := gget_back l 0 0 (gget 0 0 l).1 (gget 0 0 l).2.1 hb (by omega) (Prod.ext rfl (Prod.ext rfl h0))
        have hn : n < 18446744073709551616 := Nat.lt_of_lt_of_eq h6 (by decide)
        have h2' : (gget 0 0 l).2.1 = ((vput n).length : Int) := by rw [h2]; simp [vput]
        have hlen : (gget 0 0 l).2.1.toNat = (vput n).length := by omega
        have h3' : l.take (vput n).length = vput n := h3
        have e1 : (gget 0 0 l).1 = (n : Int) := by rw [h1]; simp
        rw [hlen, e1] at h
        have hv := vput_len n
        rcases ih _ _ _ _ (by rw [List.length_drop]; omega) (isB_drop hb _) h with hh | ⟨hc, q, hp, hq, hq', hq2⟩
        · exact .inl hh
        · refine .inr ⟨hc, (n : Int) :: q, by rw [hp]; simp, ?_, ?_, ?_⟩
          · simp only [vall, Int.toNat_natCast, hq]
            have h5 := List.take_append_drop (vput n).length l
            rwa [h3'] at h5
          · intro x hx
            rcases List.mem_cons.1 hx with rfl | hx
            · omega
            · exact hq' x hx
          · rw [List.length_drop] at hq2; rw [List.length_cons]; omega
      · rw [if_neg h0] at h
        simp only [Prod.mk.injEq] at h
        exact .inl ⟨by rw [← h.2]; exact h0, h.1.symm⟩
end Go.Proofs.Ytojepleodijdeaa.VP
