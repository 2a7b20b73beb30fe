/- Plain: what vint.Get, vint.Split, the references' Same tell, as functions of lists; the number comes back from its bytes. -/
import Derived.Test.YtojepleodijdeaaB1
import Derived.Test.YtojepleodijdeaaGVint
namespace Go.Proofs.Ytojepleodijdeaa.VP
set_option linter.unusedVariables false
set_option linter.unusedSimpArgs false
open Go.RowKit Go.Proofs.Ytojepleodijdeaa.B Go.Proofs.YtojepleodijdeaaW.PrintWords Go.Proofs.YtojepleodijdeaaW.PrintLast Go.Proofs.YtojepleodijdeaaW.PrintMore

def isB (l : List Int) : Prop := ∀ x ∈ l, 0 ≤ x ∧ x ≤ 255
theorem isB_of_wf {l : List Int} (h : ∀ x ∈ l, (Lit.int .u8 x).wf = true) : isB l := fun x hx => by
  have := h x hx
  simp [Lit.wf, IntKind.min, IntKind.max, IntKind.signed, IntKind.bits] at this
  omega
theorem isB_drop {l : List Int} (h : isB l) (n : Nat) : isB (l.drop n) := fun x hx => h x (List.mem_of_mem_drop hx)
theorem isB_take {l : List Int} (h : isB l) (n : Nat) : isB (l.take n) := fun x hx => h x (List.mem_of_mem_take hx)
theorem isB_append {l m : List Int} (h : isB l) (h' : isB m) : isB (l ++ m) := fun x hx => (List.mem_append.1 hx).elim (h x) (h' x)

/-- the number that bytes begin with, from the i-th on -/
def gget : Nat → Int → List Int → Int × Int × Int
  | _, _, [] => (0, 0, 3)
  | i, acc, c :: l =>
    if i = 9 ∧ c > 1 then (0, 0, 2)
    else if c ≥ 128 then gget (i + 1) (acc + (c % 128) * 128 ^ i) l
    else if c = 0 ∧ 0 < i then (0, 0, 2)
    else (acc + (c % 128) * 128 ^ i, (i : Int) + 1, 0)

theorem or_comm64 (x y : Int) : bits .or .u64 x y = bits .or .u64 y x := by
  simp only [bits]; rw [BitVec.or_comm]
theorem pow_128 (i : Nat) : (128 : Int) ^ i = 2 ^ (7 * i) := by
  rw [show (128 : Int) = 2 ^ 7 from rfl, ← Int.pow_mul]
theorem wraps_u64 (n : Int) (h₀ : 0 ≤ n) (h₁ : n < 2 ^ 64) : IntKind.u64.wrap n = n := by rw [IntKind.wrap_u64]; omega
theorem pow_le8 (i : Nat) (hi : i ≤ 8) : (128 : Int) ^ i ≤ 72057594037927936 := by
  rw [show (72057594037927936 : Int) = 128 ^ 8 from rfl]
  exact_mod_cast Nat.pow_le_pow_right (show 0 < 128 by decide) hi
theorem pow_pos128 (i : Nat) : (0 : Int) < 128 ^ i := Int.pow_pos (by decide)
theorem pow_le9 (i : Nat) (hi : i ≤ 9) : (128 : Int) ^ i ≤ 9223372036854775808 := by
  rw [show (9223372036854775808 : Int) = 128 ^ 9 from rfl]
  exact_mod_cast Nat.pow_le_pow_right (show 0 < 128 by decide) hi
theorem part_lt (i : Nat) (hi : i ≤ 9) (c : Int) (h0 : 0 ≤ c) (h1 : i = 9 → c ≤ 1) : 0 ≤ (c % 128) * 128 ^ i ∧ (c % 128) * 128 ^ i ≤ 9223372036854775808 := by
  have hp := pow_pos128 i
  refine ⟨Int.mul_nonneg (by omega) (by omega), ?_⟩
  rcases Nat.lt_or_ge i 9 with h9 | h9
  · have h8 := pow_le8 i (by omega)
    calc (c % 128) * 128 ^ i ≤ 127 * 128 ^ i := Int.mul_le_mul_of_nonneg_right (by omega) (by omega)
      _ ≤ 9223372036854775808 := by omega
  · have : i = 9 := by omega
    subst this
    have := h1 rfl
    have h2 : c % 128 ≤ 1 := by omega
    omega
theorem or_step (i : Nat) (hi : i ≤ 9) (acc c : Int) (h0 : 0 ≤ acc) (h1 : acc < 128 ^ i) (hc0 : 0 ≤ c) (hc : i = 9 → c ≤ 1) :
    bits .or .u64 acc (shl .u64 (IntKind.u64.wrap (Int.tmod c 128)) (7 * (i : Int))) = acc + (c % 128) * 128 ^ i := by
  have hp := part_lt i hi c hc0 hc
  have h9 := pow_le9 i hi
  rw [Int.tmod_eq_emod_of_nonneg hc0, wraps_u64 (c % 128) (by omega) (by omega)]
  have e : min (7 * (i : Int)).toNat IntKind.u64.bits = 7 * i := by
    have : (7 * (i : Int)).toNat = 7 * i := by omega
    rw [this]; simp [IntKind.bits]; omega
  rw [shl, e, ← pow_128, wraps_u64 _ hp.1 (by omega), or_comm64]
  have hw : ∀ n : Int, 0 ≤ n → n < 2 ^ 64 → IntKind.u64.wrap n = n := wraps_u64
  rw [bits_join .u64 64 (by decide) hw (7 * i) _ acc hp.1 (by rw [← pow_128]; exact Int.mul_emod_left _ _) (by omega) h0 (by rw [← pow_128]; exact h1) (by omega)]
  omega

theorem rd_at {l : List Int} {i : Nat} (h : i < l.length) : rd l (i : Int) = l[i] := by
  simp [rd, List.getD_eq_getElem?_getD, List.getElem?_eq_getElem h]
theorem wrap_succ (i : Nat) (h : i < 9223372036854775807) : wrap64 ((i : Int) + 1) = ((i + 1 : Nat) : Int) := by
  unfold wrap64; omega
theorem wrap_7 (i : Nat) (h : i ≤ 9) : wrap64 (7 * (i : Int)) = 7 * (i : Int) := by
  unfold wrap64; omega

theorem get_loop (l : List Int) (hb : isB l) (hl : l.length ≤ 140737488355328) : ∀ (d i : Nat) (acc : Int), l.length - i = d → i ≤ 9 → 0 ≤ acc → acc < 128 ^ i →
    Ev (fun k => vint_Get.l0 k acc l (l.length : Int) (i : Int)) (gget i acc (l.drop i)) := by
  intro d
  induction d with
  | zero =>
    intro i acc hd hi h0 h1
    rw [List.drop_of_length_le (by omega)]
    refine Ev.step (f := fun _ => some (0, 0, 3)) (fun k => ?_) (Ev.now _)
    simp only [vint_Get.l0]
    rw [if_neg (by omega)]
  | succ d ih =>
    intro i acc hd hi h0 h1
    have hlt : i < l.length := by omega
    have hc := hb l[i] (List.getElem_mem hlt)
    rw [List.drop_eq_getElem_cons hlt]
    refine Ev.step (f := fun k => vint_Get.j1 k acc i l[i] l (l.length : Int) i (decide (i = 9) && decide (l[i] > 1))) (fun k => ?_) ?_
    · simp only [vint_Get.l0]
      rw [if_pos (by omega), if_pos (by omega), if_pos (by omega), rd_at hlt]
      by_cases h9 : i = 9
      · subst h9; simp
      · rw [if_neg (by omega)]; simp [h9]
    · have hw7 := wrap_7 i hi
      by_cases hbad : i = 9 ∧ l[i] > 1
      · refine Ev.step (f := fun _ => some (0, 0, 2)) (fun k => ?_) (by rw [gget, if_pos hbad]; exact Ev.now _)
        simp only [vint_Get.j1]
        rw [if_pos (by rw [Bool.and_eq_true]; exact ⟨decide_eq_true hbad.1, decide_eq_true hbad.2⟩)]
      · have hcond : (decide (i = 9) && decide (l[i] > 1)) = false := by
          simp only [Bool.and_eq_false_iff, decide_eq_false_iff_not]
          by_cases h9 : i = 9
          · exact .inr (fun h => hbad ⟨h9, h⟩)
          · exact .inl h9
        have hor := or_step i hi acc l[i] h0 h1 hc.1 (fun h9 => by have := fun h => hbad ⟨h9, h⟩; omega)
        rw [hcond, gget, if_neg hbad]
        by_cases h128 : l[i] ≥ 128
        · rw [if_pos h128]
          have hi8 : i ≤ 8 := by
            rcases Nat.lt_or_ge i 9 with h | h
            · omega
            · exact absurd ⟨by omega, by omega⟩ hbad
          refine Ev.step (f := fun k => vint_Get.l0 k (acc + (l[i] % 128) * 128 ^ i) l (l.length : Int) ((i + 1 : Nat) : Int)) (fun k => ?_) ?_
          · simp only [vint_Get.j1]
            rw [if_neg (by decide), hw7, if_pos (by omega), if_pos h128, hor, wrap_succ i (by omega)]
          · refine ih (i + 1) _ (by omega) (by omega) ?_ ?_
            · have := part_lt i hi l[i] hc.1 (fun h => by omega)
              omega
            · have hp := pow_pos128 i
              rw [Int.pow_succ]
              have : (l[i] % 128) * 128 ^ i ≤ 127 * 128 ^ i := Int.mul_le_mul_of_nonneg_right (by omega) (by omega)
              omega
        · rw [if_neg h128]
          by_cases hz : l[i] = 0 ∧ 0 < i
          · rw [if_pos hz]
            refine Ev.step (f := fun _ => some (0, 0, 2)) (fun k => ?_) (Ev.now _)
            simp only [vint_Get.j1]
            rw [if_neg (by decide), hw7, if_pos (by omega), if_neg h128, if_pos hz.1, if_pos (by omega)]
          · rw [if_neg hz]
            refine Ev.step (f := fun _ => some (acc + (l[i] % 128) * 128 ^ i, (i : Int) + 1, 0)) (fun k => ?_) (Ev.now _)
            simp only [vint_Get.j1]
            rw [if_neg (by decide), hw7, if_pos (by omega), if_neg h128, hor, wrap_succ i (by omega)]
            by_cases h0' : l[i] = 0
            · rw [if_pos h0', if_neg (by omega)]; rfl
            · rw [if_neg h0']; rfl

theorem get_ev (l : List Int) (hb : isB l) (hl : l.length ≤ 140737488355328) : Ev (fun k => vint_Get.f k l) (gget 0 0 l) := by
  have := get_loop l hb hl l.length 0 0 (by omega) (by omega) (by omega) (by decide)
  simpa [vint_Get.f] using this
end Go.Proofs.Ytojepleodijdeaa.VP
