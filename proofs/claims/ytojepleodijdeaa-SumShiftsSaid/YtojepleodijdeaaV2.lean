/- Plain: numbers come back from their bytes and bytes from their numbers; Split, All, Same as functions of lists. -/
import Derived.Test.YtojepleodijdeaaV1
namespace Go.Proofs.Ytojepleodijdeaa.VP
set_option linter.unusedVariables false
set_option linter.unusedSimpArgs false
open Go.RowKit Go.Proofs.Ytojepleodijdeaa.B Go.Proofs.YtojepleodijdeaaW.PrintWords Go.Proofs.YtojepleodijdeaaW.PrintLast Go.Proofs.YtojepleodijdeaaW.PrintMore

/-- behind its bytes, whatever is behind, the number -/
theorem gget_put (k : Nat) : ∀ (n i : Nat) (acc : Int) (more : List Int), i + k ≤ 9 → n < 128 ^ (k + 1) → (i + k = 9 → n < 2 * 128 ^ k) → (0 < i → 0 < n) →
    gget i acc (vputF k n ++ more) = (acc + (n : Int) * 128 ^ i, ((i + (vputF k n).length : Nat) : Int), 0) := by
  induction k with
  | zero =>
    intro n i acc more hi hn h9 hz
    simp only [vputF, List.singleton_append, gget, List.length_singleton]
    rw [if_neg, if_neg (by omega), if_neg (by omega)]
    · rw [show (n : Int) % 128 = n by omega]; rfl
    · rintro ⟨h1, h2⟩
      have := h9 (by omega)
      omega
  | succ k ih =>
    intro n i acc more hi hn h9 hz
    unfold vputF
    by_cases h : n < 128
    · rw [if_pos h]
      simp only [List.singleton_append, gget, List.length_singleton]
      rw [if_neg (by rintro ⟨h1, h2⟩; omega), if_neg (by omega), if_neg (by omega)]
      rw [show (n : Int) % 128 = n by omega]; rfl
    · rw [if_neg h]
      simp only [List.cons_append, gget, List.length_cons]
      rw [if_neg (by rintro ⟨h1, h2⟩; omega), if_pos (by omega)]
      have e1 : n / 128 < 128 ^ (k + 1) := by
        rw [Nat.div_lt_iff_lt_mul (by decide)]
        rw [Nat.pow_succ] at hn; exact hn
      have e2 : i + 1 + k = 9 → n / 128 < 2 * 128 ^ k := by
        intro hh
        have := h9 (by omega)
        rw [Nat.div_lt_iff_lt_mul (by decide)]
        rw [Nat.pow_succ] at this; omega
      rw [ih (n / 128) (i + 1) _ more (by omega) e1 e2 (by omega)]
      refine Prod.ext ?_ (Prod.ext ?_ rfl)
      · simp only
        have e3 : (((n % 128 + 128 : Nat) : Int)) % 128 = ((n % 128 : Nat) : Int) := by omega
        rw [e3, Int.pow_succ, Int.add_assoc, ← Int.mul_assoc, Int.mul_right_comm, ← Int.add_mul]
        congr 2
        omega
      · simp only; omega

/-- a beginning of them is too short -/
theorem gget_cut (k : Nat) : ∀ (n i : Nat) (acc : Int) (cut : Nat), i + k ≤ 9 → cut < (vputF k n).length → gget i acc ((vputF k n).take cut) = (0, 0, 3) := by
  induction k with
  | zero =>
    intro n i acc cut hi hc
    simp only [vputF, List.length_singleton] at hc
    have : cut = 0 := by omega
    subst this
    simp [gget]
  | succ k ih =>
    intro n i acc cut hi hc
    unfold vputF at hc ⊢
    by_cases h : n < 128
    · rw [if_pos h] at hc ⊢
      simp only [List.length_singleton] at hc
      have : cut = 0 := by omega
      subst this
      simp [gget]
    · rw [if_neg h] at hc ⊢
      cases cut with
      | zero => simp [gget]
      | succ cut =>
        simp only [List.take_succ_cons, gget]
        rw [if_neg (by rintro ⟨h1, h2⟩; omega), if_pos (by omega)]
        exact ih _ _ _ _ (by omega) (by simpa using hc)

/-- bytes that are a number's are just those that it has -/
theorem gget_back (l : List Int) : ∀ (i : Nat) (acc m u : Int), isB l → i ≤ 9 → gget i acc l = (m, u, 0) →
    ∃ n : Nat, m = acc + (n : Int) * 128 ^ i ∧ u = ((i + (vputF (9 - i) n).length : Nat) : Int) ∧ l.take (vputF (9 - i) n).length = vputF (9 - i) n ∧ (vputF (9 - i) n).length ≤ l.length ∧ (0 < i → 0 < n) ∧ n < 128 ^ (9 - i) * 2 := by
  induction l with
  | nil => intro i acc m u _ _ h; simp [gget] at h
  | cons c l ih =>
    intro i acc m u hb hi h
    have hc := hb c (List.mem_cons_self ..)
    have hb' : isB l := fun x hx => hb x (List.mem_cons_of_mem _ hx)
    have hp : 0 < 128 ^ (9 - i) := Nat.pow_pos (by decide)
    rw [gget] at h
    by_cases h1 : i = 9 ∧ c > 1
    · rw [if_pos h1] at h; simp at h
    rw [if_neg h1] at h
    by_cases h2 : c ≥ 128
    · rw [if_pos h2] at h
      have hi8 : i ≤ 8 := by
        rcases Nat.lt_or_ge i 9 with h | h
        · omega
        · exact absurd ⟨by omega, by omega⟩ h1
      obtain ⟨n, e1, e2, e3, e4, e5, e6⟩ := ih (i + 1) _ _ _ hb' (by omega) h
      have hn := e5 (by omega)
      refine ⟨128 * n + (c % 128).toNat, ?_, ?_, ?_, ?_, by omega, ?_⟩
      all_goals
        have e9 : 9 - i = (9 - (i + 1)) + 1 := by omega
        have hv : vputF (9 - i) (128 * n + (c % 128).toNat) = c :: vputF (9 - (i + 1)) n := by
          rw [e9, vputF, if_neg (by omega)]
          have q1 : (128 * n + (c % 128).toNat) / 128 = n := by omega
          have q2 : (((128 * n + (c % 128).toNat) % 128 + 128 : Nat) : Int) = c := by omega
          rw [q1, q2]
      · rw [e1, Int.pow_succ]
        have : ((128 * n + (c % 128).toNat : Nat) : Int) = 128 * (n : Int) + c % 128 := by omega
        rw [this, Int.add_mul, Int.mul_comm (128 ^ i) 128, ← Int.mul_assoc, Int.mul_comm (n : Int) 128]
        omega
      · rw [e2, hv, List.length_cons]; omega
      · rw [hv, List.length_cons, List.take_succ_cons, e3]
      · rw [hv, List.length_cons, List.length_cons]; omega
      · rw [e9, Nat.pow_succ]; omega
    · rw [if_neg h2] at h
      by_cases h3 : c = 0 ∧ 0 < i
      · rw [if_pos h3] at h; simp at h
      rw [if_neg h3] at h
      simp only [Prod.mk.injEq, and_true] at h
      have hv : vputF (9 - i) c.toNat = [c] := by
        have q : ((c.toNat : Nat) : Int) = c := by omega
        cases h9 : 9 - i with
        | zero => simp [vputF, q]
        | succ j => rw [vputF, if_pos (by omega), q]
      refine ⟨c.toNat, ?_, ?_, ?_, ?_, by omega, ?_⟩
      · rw [← h.1]
        have q : c % 128 = ((c.toNat : Nat) : Int) := by omega
        rw [q]
      · rw [hv, ← h.2]; simp
      · rw [hv]; rfl
      · rw [hv]; simp
      · rcases Nat.lt_or_ge i 9 with h9 | h9
        · have : 128 ^ 1 ≤ 128 ^ (9 - i) := Nat.pow_le_pow_right (by decide) (by omega)
          omega
        · have : i = 9 := by omega
          subst this
          simp
          omega

theorem vputF_isB (k : Nat) : ∀ n, n < 128 ^ (k + 1) → isB (vputF k n) := by
  induction k with
  | zero => intro n hn x hx; simp [vputF] at hx; subst hx; omega
  | succ k ih =>
    intro n hn x hx
    unfold vputF at hx
    split at hx
    · simp at hx; subst hx; omega
    · rcases List.mem_cons.1 hx with rfl | hx
      · omega
      · exact ih _ (by rw [Nat.div_lt_iff_lt_mul (by decide)]; rw [Nat.pow_succ] at hn; exact hn) x hx

/-- the bytes of a number -/
def vput (n : Nat) : List Int := vputF 9 n
theorem vput_f {a : Int} (h0 : 0 ≤ a) (h1 : a < 18446744073709551616) : vint_Put.f a = some (vput a.toNat) := by
  unfold vint_Put.f vput; rw [if_pos ⟨h0, h1⟩]
theorem wf_u64 {a : Int} (h : (Lit.int .u64 a).wf = true) : 0 ≤ a ∧ a < 18446744073709551616 := by
  simp [Lit.wf, IntKind.min, IntKind.max, IntKind.signed, IntKind.bits] at h
  omega
theorem vput_isB {n : Nat} (h : n < 18446744073709551616) : isB (vput n) := vputF_isB 9 n (Nat.lt_trans h (by decide))
theorem get_put {n : Nat} (h : n < 18446744073709551616) (more : List Int) : gget 0 0 (vput n ++ more) = ((n : Int), ((vput n).length : Int), 0) := by
  have := gget_put 9 n 0 0 more (by omega) (Nat.lt_trans h (by decide)) (fun _ => h) (by omega)
  simpa [vput] using this

/-! Same -/
theorem dec_cons {x y : Int} {l m : List Int} (h : x = y) : decide (x :: l = y :: m) = decide (l = m) := by subst h; simp
theorem dec_cons_ne {x y : Int} {l m : List Int} (h : x ≠ y) : decide (x :: l = y :: m) = false := by simp [h]
theorem same_loop (a b : List Int) (hl : a.length = b.length) (h : a.length ≤ 140737488355328) : ∀ (d i : Nat), a.length - i = d → Ev (fun k => tumbrelref01_Same.l0 k a b (i : Int)) (decide (a.drop i = b.drop i)) := by
  intro d
  induction d with
  | zero =>
    intro i hd
    refine Ev.step (f := fun _ => some true) (fun k => ?_) ?_
    · simp only [tumbrelref01_Same.l0]; rw [if_neg (by omega)]
    · rw [List.drop_of_length_le (by omega), List.drop_of_length_le (by omega)]; exact Ev.now _
  | succ d ih =>
    intro i hd
    have h1 : i < a.length := by omega
    have h2 : i < b.length := by omega
    rw [List.drop_eq_getElem_cons h1, List.drop_eq_getElem_cons h2]
    by_cases he : a[i] = b[i]
    · refine Ev.step (f := fun k => tumbrelref01_Same.l0 k a b ((i + 1 : Nat) : Int)) (fun k => ?_) ?_
      · simp only [tumbrelref01_Same.l0]
        rw [if_pos (by omega), if_pos (by omega), if_pos (by omega), rd_at h1, rd_at h2, if_pos he, wrap_succ i (by omega)]
      · rw [dec_cons he]; exact ih (i + 1) (by omega)
    · refine Ev.step (f := fun _ => some false) (fun k => ?_) ?_
      · simp only [tumbrelref01_Same.l0]
        rw [if_pos (by omega), if_pos (by omega), if_pos (by omega), rd_at h1, rd_at h2, if_neg he]
      · rw [dec_cons_ne he]; exact Ev.now _
theorem same_ev (a b : List Int) (h : a.length ≤ 140737488355328) : Ev (fun k => tumbrelref01_Same.f k a b) (decide (a = b)) := by
  by_cases hl : a.length = b.length
  · refine Ev.congr (f := fun k => tumbrelref01_Same.l0 k a b ((0 : Nat) : Int)) (fun k => ?_) ?_
    · simp only [tumbrelref01_Same.f]; rw [if_pos (by omega)]; rfl
    · have := same_loop a b hl h a.length 0 (by omega)
      simpa using this
  · refine Ev.congr (f := fun _ => some false) (fun k => ?_) ?_
    · simp only [tumbrelref01_Same.f]; rw [if_neg (by omega)]
    · have : decide (a = b) = false := by simp; intro e; exact hl (by rw [e])
      rw [this]; exact Ev.now _
theorem same2_loop (a b : List Int) (hl : a.length = b.length) (h : a.length ≤ 140737488355328) : ∀ (d i : Nat), a.length - i = d → Ev (fun k => tumbrelref02_Same.l0 k a b (i : Int)) (decide (a.drop i = b.drop i)) := by
  intro d
  induction d with
  | zero =>
    intro i hd
    refine Ev.step (f := fun _ => some true) (fun k => ?_) ?_
    · simp only [tumbrelref02_Same.l0]; rw [if_neg (by omega)]
    · rw [List.drop_of_length_le (by omega), List.drop_of_length_le (by omega)]; exact Ev.now _
  | succ d ih =>
    intro i hd
    have h1 : i < a.length := by omega
    have h2 : i < b.length := by omega
    rw [List.drop_eq_getElem_cons h1, List.drop_eq_getElem_cons h2]
    by_cases he : a[i] = b[i]
    · refine Ev.step (f := fun k => tumbrelref02_Same.l0 k a b ((i + 1 : Nat) : Int)) (fun k => ?_) ?_
      · simp only [tumbrelref02_Same.l0]
        rw [if_pos (by omega), if_pos (by omega), if_pos (by omega), rd_at h1, rd_at h2, if_pos he, wrap_succ i (by omega)]
      · rw [dec_cons he]; exact ih (i + 1) (by omega)
    · refine Ev.step (f := fun _ => some false) (fun k => ?_) ?_
      · simp only [tumbrelref02_Same.l0]
        rw [if_pos (by omega), if_pos (by omega), if_pos (by omega), rd_at h1, rd_at h2, if_neg he]
      · rw [dec_cons_ne he]; exact Ev.now _
theorem same2_ev (a b : List Int) (h : a.length ≤ 140737488355328) : Ev (fun k => tumbrelref02_Same.f k a b) (decide (a = b)) := by
  by_cases hl : a.length = b.length
  · refine Ev.congr (f := fun k => tumbrelref02_Same.l0 k a b ((0 : Nat) : Int)) (fun k => ?_) ?_
    · simp only [tumbrelref02_Same.f]; rw [if_pos (by omega)]; rfl
    · have := same2_loop a b hl h a.length 0 (by omega)
      simpa using this
  · refine Ev.congr (f := fun _ => some false) (fun k => ?_) ?_
    · simp only [tumbrelref02_Same.f]; rw [if_neg (by omega)]
    · have : decide (a = b) = false := by simp; intro e; exact hl (by rw [e])
      rw [this]; exact Ev.now _
end Go.Proofs.Ytojepleodijdeaa.VP
