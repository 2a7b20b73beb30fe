/- Plain: sum.entry and the reference's Entry are eight divisions; words of 32 bits as Ints. -/
import Derived.Test.YtojepleodijdeaaB3
import Derived.Test.YtojepleodijdeaaCrc
namespace Go.Proofs.Ytojepleodijdeaa.VP
set_option linter.unusedVariables false
set_option linter.unusedSimpArgs false
open Go.RowKit Go.Proofs.Ytojepleodijdeaa.B Go.Proofs.Ytojepleodijdeaa.Crc Go.Proofs.YtojepleodijdeaaW.PrintWords Go.Proofs.YtojepleodijdeaaW.PrintLast Go.Proofs.YtojepleodijdeaaW.PrintMore

abbrev w32 (x : BitVec 32) : Int := (x.toNat : Int)
theorem w32_lt (x : BitVec 32) : 0 ≤ w32 x ∧ w32 x < 4294967296 := by have := x.isLt; unfold w32; omega
theorem ofInt32 (z : BitVec 32) : BitVec.ofInt 32 (w32 z) = z := by
  apply BitVec.eq_of_toNat_eq
  unfold w32
  rw [BitVec.ofInt_natCast, BitVec.toNat_ofNat]
  exact Nat.mod_eq_of_lt z.isLt
theorem wrap32 (z : BitVec 32) : IntKind.u32.wrap (w32 z) = w32 z := by
  have := w32_lt z
  rw [IntKind.wrap_u32]; omega
theorem xor32 (x y : BitVec 32) : bits .xor .u32 (w32 x) (w32 y) = w32 (x ^^^ y) := by
  show IntKind.u32.wrap (((BitVec.ofInt 32 (w32 x) ^^^ BitVec.ofInt 32 (w32 y)).toNat : Nat) : Int) = _
  rw [ofInt32, ofInt32]; exact wrap32 _
theorem and32 (x y : BitVec 32) : bits .and .u32 (w32 x) (w32 y) = w32 (x &&& y) := by
  show IntKind.u32.wrap (((BitVec.ofInt 32 (w32 x) &&& BitVec.ofInt 32 (w32 y)).toNat : Nat) : Int) = _
  rw [ofInt32, ofInt32]; exact wrap32 _
theorem half32 (x : BitVec 32) : (w32 x) / (2 : Int) = w32 (x >>> 1) := by
  simp only [w32, BitVec.toNat_ushiftRight, Nat.shiftRight_eq_div_pow]; omega
theorem odd32 (x : BitVec 32) : x.getLsbD 0 = decide (x.toNat % 2 = 1) := by
  rw [BitVec.getLsbD, Nat.testBit_zero]
theorem and1_32 (x : BitVec 32) : (bits .and .u32 (w32 x) 1 = 1) ↔ x.getLsbD 0 = true := by
  have h := and32 x 1#32
  have e1 : w32 1#32 = 1 := by decide
  rw [e1] at h
  rw [h, odd32]
  have h2 : (x &&& 1#32).toNat = x.toNat % 2 := by
    rw [BitVec.toNat_and]; simp [Nat.and_one_is_mod]
  simp only [w32, h2, decide_eq_true_eq]; omega
theorem poly32 : (2197175160 : Int) = w32 0x82f63b78#32 := by decide

theorem entry_loop : ∀ (d : Nat) (i : Nat) (x : BitVec 32), i + d = 8 → sum_entry.l0 (d + 1) (w32 x) (i : Int) = some (w32 (steps d x)) := by
  intro d
  induction d with
  | zero =>
    intro i x hi
    simp only [sum_entry.l0]
    rw [if_neg (by omega)]; rfl
  | succ d ih =>
    intro i x hi
    have hw : wrap64 ((i : Int) + 1) = ((i + 1 : Nat) : Int) := by unfold wrap64; omega
    rw [sum_entry.l0, if_pos (by omega), hw]
    simp only [steps]
    by_cases h : x.getLsbD 0 = true
    · rw [if_pos ((and1_32 x).2 h), half32, poly32, xor32, ih (i + 1) _ (by omega)]
      simp only [Crc.step, h, if_true]
    · rw [if_neg (fun hh => h ((and1_32 x).1 hh)), half32, ih (i + 1) _ (by omega)]
      simp only [Crc.step, h, if_false]
      rfl
theorem entry_at (x : BitVec 32) : sum_entry.f 9 (w32 x) = some (w32 (steps 8 x)) := entry_loop 8 0 x rfl

theorem rentry_loop : ∀ (d : Nat) (i : Nat) (x : BitVec 32), i + d = 8 → Ev (fun k => tumbrelref01_Entry.l0 k (w32 x) (i : Int)) (w32 (steps d x)) := by
  intro d
  induction d with
  | zero =>
    intro i x hi
    refine Ev.step (f := fun _ => some (w32 x)) (fun k => ?_) (Ev.now _)
    simp only [tumbrelref01_Entry.l0]
    rw [if_neg (by omega)]
  | succ d ih =>
    intro i x hi
    have hw : wrap64 ((i : Int) + 1) = ((i + 1 : Nat) : Int) := by unfold wrap64; omega
    have hx := w32_lt x
    refine Ev.step (f := fun k => tumbrelref01_Entry.l0 k (w32 (Crc.step x)) ((i + 1 : Nat) : Int)) (fun k => ?_) (ih (i + 1) (Crc.step x) (by omega))
    simp only [tumbrelref01_Entry.l0]
    have e2 : (Int.tdiv (w32 x) 2) % (4294967296 : Int) = w32 (x >>> 1) := by
      rw [Int.tdiv_eq_ediv_of_nonneg hx.1, ← half32]; omega
    have e1 : (Int.tmod (w32 x) 2 = 1) ↔ x.getLsbD 0 = true := by
      rw [Int.tmod_eq_emod_of_nonneg hx.1, odd32, decide_eq_true_eq]; unfold w32; omega
    rw [if_pos (by omega), hw, e2]
    by_cases h : x.getLsbD 0 = true
    · rw [if_pos (e1.2 h), poly32, xor32]
      simp only [Crc.step, h, if_true]
    · rw [if_neg (fun hh => h (e1.1 hh))]
      simp only [Crc.step, h, if_false]
      rfl
theorem rentry_ev (x : BitVec 32) : Ev (fun k => tumbrelref01_Entry.f k (w32 x)) (w32 (steps 8 x)) := rentry_loop 8 0 x rfl

/-! bytes -/
def b32 (c : Int) : BitVec 32 := BitVec.ofNat 32 c.toNat
theorem b32_val {c : Int} (h : 0 ≤ c ∧ c ≤ 255) : w32 (b32 c) = c := by
  unfold w32 b32; rw [BitVec.toNat_ofNat]; omega
/-- one byte more -/
def crcByte (s : BitVec 32) (c : Int) : BitVec 32 := steps 8 (s ^^^ b32 c)
def crcL (s : BitVec 32) (l : List Int) : BitVec 32 := l.foldl crcByte s
theorem crcL_append (s : BitVec 32) (l m : List Int) : crcL s (l ++ m) = crcL (crcL s l) m := by simp [crcL]
theorem shl8 : ∀ (n : Nat) (x : BitVec 32), (∀ i, 32 - n ≤ i → x.getLsbD i = false) → steps n (x <<< n) = x := by
  intro n
  induction n with
  | zero => intro x _; simp [steps]
  | succ n ih =>
    intro x hx
    by_cases h32 : n < 32
    · have e : x <<< (n + 1) = (x <<< n) <<< 1 := by rw [← BitVec.shiftLeft_add]
      rw [steps, e, step_shl]
      · exact ih x (fun i hi => hx i (by omega))
      · rw [BitVec.getLsbD_shiftLeft]
        simp only [Bool.and_eq_false_iff]
        exact .inr (hx _ (by omega))
    · have : x = 0#32 := by
        apply BitVec.eq_of_getLsbD_eq; intro i _; rw [hx i (by omega)]; simp
      subst this
      simp [steps_zero]
theorem split8 (x : BitVec 32) : x = ((x >>> 8) <<< 8) ^^^ (x &&& 255#32) := by
  apply BitVec.eq_of_getLsbD_eq
  intro i hi
  simp only [BitVec.getLsbD_xor, BitVec.getLsbD_shiftLeft, BitVec.getLsbD_ushiftRight, BitVec.getLsbD_and]
  have h255 : (255#32).getLsbD i = decide (i < 8) := by
    have : (255#32) = BitVec.ofNat 32 (2 ^ 8 - 1) := rfl
    rw [this, BitVec.getLsbD_ofNat, Nat.testBit_two_pow_sub_one]
    simp [hi]
  rw [h255]
  by_cases h8 : i < 8
  · simp [h8]
  · have e : 8 + (i - 8) = i := by omega
    simp [h8, hi, e]
/-- by a table of the bytes -/
theorem steps_table (x : BitVec 32) : steps 8 x = (x >>> 8) ^^^ steps 8 (x &&& 255#32) := by
  conv => lhs; rw [split8 x]
  rw [steps_xor, shl8]
  intro i hi
  rw [BitVec.getLsbD_ushiftRight]
  exact BitVec.getLsbD_of_ge _ _ (by omega)
theorem b32_high {c : Int} (h : 0 ≤ c ∧ c ≤ 255) (i : Nat) (hi : 8 ≤ i) : (b32 c).getLsbD i = false := by
  unfold b32
  rw [BitVec.getLsbD_ofNat]
  have : c.toNat < 2 ^ i := Nat.lt_of_lt_of_le (by omega : c.toNat < 2 ^ 8) (Nat.pow_le_pow_right (by decide) hi)
  simp [Nat.testBit_lt_two_pow this]
theorem crcByte_table (s : BitVec 32) {c : Int} (h : 0 ≤ c ∧ c ≤ 255) : crcByte s c = (s >>> 8) ^^^ steps 8 ((s ^^^ b32 c) &&& 255#32) := by
  unfold crcByte
  rw [steps_table]
  congr 1
  apply BitVec.eq_of_getLsbD_eq
  intro i hi
  simp only [BitVec.getLsbD_ushiftRight, BitVec.getLsbD_xor, b32_high h (8 + i) (by omega), Bool.xor_false]
end Go.Proofs.Ytojepleodijdeaa.VP
