/- Own texts and printed ones, those declarations alone that this claim needs, laid into one text by a program of this session. -/
import Derived.Test.YtojepleodijdeaaXB1
import Derived.Test.YtojepleodijdeaaXB2
import Derived.Test.YtojepleodijdeaaXB3
import Derived.Test.YtojepleodijdeaaXB4
import Derived.WalkKit
import Derived.ProofKit
import Derived.OpenShut
import Derived.ChangeOld
import Derived.Deep.Slices
import Derived.ChangeSame
import Derived.Lib.SmallJoins
import Derived.Deep.Strs
namespace Go.Proofs.Ytojepleodijdeaa.VP
open Go.RowKit Go.Proofs.Ytojepleodijdeaa.B Go.Proofs.YtojepleodijdeaaW.PrintWords
theorem aw5_40 : aw5.f 40 = some true := by decide +kernel
theorem awake5_ev : Ev (fun k => tumbrellaw05_awake.f k) true := by
  refine Ev.of (fun k => tumbrellaw05_awake.mono k) (k := 40) ?_
  unfold tumbrellaw05_awake.f
  rw [if_pos aw5_40]
end Go.Proofs.Ytojepleodijdeaa.VP
namespace Go.Proofs.Ytojepleodijdeaa.VP
set_option linter.unusedVariables false
set_option linter.unusedSimpArgs false
open Go.RowKit Go.Proofs.Ytojepleodijdeaa.B Go.Proofs.YtojepleodijdeaaW.PrintWords Go.Proofs.YtojepleodijdeaaW.PrintLast Go.Proofs.YtojepleodijdeaaW.PrintMore
def isB (l : List Int) : Prop := ∀ x ∈ l, 0 ≤ x ∧ x ≤ 255
theorem isB_of_wf {l : List Int} (h : ∀ x ∈ l, (Lit.int .u8 x).wf = true) : isB l := fun x hx => by
  have := h x hx
  simp [Lit.wf, IntKind.min, IntKind.max, IntKind.signed, IntKind.bits] at this
  omega
theorem isB_drop {l : List Int} (h : isB l) (n : Nat) : isB (l.drop n) := fun x hx => h x (List.mem_of_mem_drop hx)
theorem isB_take {l : List Int} (h : isB l) (n : Nat) : isB (l.take n) := fun x hx => h x (List.mem_of_mem_take hx)
theorem isB_append {l m : List Int} (h : isB l) (h' : isB m) : isB (l ++ m) := fun x hx => (List.mem_append.1 hx).elim (h x) (h' x)
/-- the number that bytes begin with, from the i-th on -/
def gget : Nat → Int → List Int → Int × Int × Int
  | _, _, [] => (0, 0, 3)
  | i, acc, c :: l =>
    if i = 9 ∧ c > 1 then (0, 0, 2)
    else if c ≥ 128 then gget (i + 1) (acc + (c % 128) * 128 ^ i) l
    else if c = 0 ∧ 0 < i then (0, 0, 2)
    else (acc + (c % 128) * 128 ^ i, (i : Int) + 1, 0)
theorem or_comm64 (x y : Int) : bits .or .u64 x y = bits .or .u64 y x := by
  simp only [bits]; rw [BitVec.or_comm]
theorem pow_128 (i : Nat) : (128 : Int) ^ i = 2 ^ (7 * i) := by
  rw [show (128 : Int) = 2 ^ 7 from rfl, ← Int.pow_mul]
theorem wraps_u64 (n : Int) (h₀ : 0 ≤ n) (h₁ : n < 2 ^ 64) : IntKind.u64.wrap n = n := by rw [IntKind.wrap_u64]; omega
theorem pow_le8 (i : Nat) (hi : i ≤ 8) : (128 : Int) ^ i ≤ 72057594037927936 := by
  rw [show (72057594037927936 : Int) = 128 ^ 8 from rfl]
  exact_mod_cast Nat.pow_le_pow_right (show 0 < 128 by decide) hi
theorem pow_pos128 (i : Nat) : (0 : Int) < 128 ^ i := Int.pow_pos (by decide)
theorem pow_le9 (i : Nat) (hi : i ≤ 9) : (128 : Int) ^ i ≤ 9223372036854775808 := by
  rw [show (9223372036854775808 : Int) = 128 ^ 9 from rfl]
  exact_mod_cast Nat.pow_le_pow_right (show 0 < 128 by decide) hi
theorem part_lt (i : Nat) (hi : i ≤ 9) (c : Int) (h0 : 0 ≤ c) (h1 : i = 9 → c ≤ 1) : 0 ≤ (c % 128) * 128 ^ i ∧ (c % 128) * 128 ^ i ≤ 9223372036854775808 := by
  have hp := pow_pos128 i
  refine ⟨Int.mul_nonneg (by omega) (by omega), ?_⟩
  rcases Nat.lt_or_ge i 9 with h9 | h9
  · have h8 := pow_le8 i (by omega)
    calc (c % 128) * 128 ^ i ≤ 127 * 128 ^ i := Int.mul_le_mul_of_nonneg_right (by omega) (by omega)
      _ ≤ 9223372036854775808 := by omega
  · have : i = 9 := by omega
    subst this
    have := h1 rfl
    have h2 : c % 128 ≤ 1 := by omega
    omega
theorem or_step (i : Nat) (hi : i ≤ 9) (acc c : Int) (h0 : 0 ≤ acc) (h1 : acc < 128 ^ i) (hc0 : 0 ≤ c) (hc : i = 9 → c ≤ 1) :
    bits .or .u64 acc (shl .u64 (IntKind.u64.wrap (Int.tmod c 128)) (7 * (i : Int))) = acc + (c % 128) * 128 ^ i := by
  have hp := part_lt i hi c hc0 hc
  have h9 := pow_le9 i hi
  rw [Int.tmod_eq_emod_of_nonneg hc0, wraps_u64 (c % 128) (by omega) (by omega)]
  have e : min (7 * (i : Int)).toNat IntKind.u64.bits = 7 * i := by
    have : (7 * (i : Int)).toNat = 7 * i := by omega
    rw [this]; simp [IntKind.bits]; omega
  rw [shl, e, ← pow_128, wraps_u64 _ hp.1 (by omega), or_comm64]
  have hw : ∀ n : Int, 0 ≤ n → n < 2 ^ 64 → IntKind.u64.wrap n = n := wraps_u64
  rw [bits_join .u64 64 (by decide) hw (7 * i) _ acc hp.1 (by rw [← pow_128]; exact Int.mul_emod_left _ _) (by omega) h0 (by rw [← pow_128]; exact h1) (by omega)]
  omega
theorem rd_at {l : List Int} {i : Nat} (h : i < l.length) : rd l (i : Int) = l[i] := by
  simp [rd, List.getD_eq_getElem?_getD, List.getElem?_eq_getElem h]
theorem wrap_succ (i : Nat) (h : i < 9223372036854775807) : wrap64 ((i : Int) + 1) = ((i + 1 : Nat) : Int) := by
  unfold wrap64; omega
theorem wrap_7 (i : Nat) (h : i ≤ 9) : wrap64 (7 * (i : Int)) = 7 * (i : Int) := by
  unfold wrap64; omega
theorem get_loop (l : List Int) (hb : isB l) (hl : l.length ≤ 140737488355328) : ∀ (d i : Nat) (acc : Int), l.length - i = d → i ≤ 9 → 0 ≤ acc → acc < 128 ^ i →
    Ev (fun k => vint_Get.l0 k acc l (l.length : Int) (i : Int)) (gget i acc (l.drop i)) := by
  intro d
  induction d with
  | zero =>
    intro i acc hd hi h0 h1
    rw [List.drop_of_length_le (by omega)]
    refine Ev.step (f := fun _ => some (0, 0, 3)) (fun k => ?_) (Ev.now _)
    simp only [vint_Get.l0]
    rw [if_neg (by omega)]
  | succ d ih =>
    intro i acc hd hi h0 h1
    have hlt : i < l.length := by omega
    have hc := hb l[i] (List.getElem_mem hlt)
    rw [List.drop_eq_getElem_cons hlt]
    refine Ev.step (f := fun k => vint_Get.j1 k acc i l[i] l (l.length : Int) i (decide (i = 9) && decide (l[i] > 1))) (fun k => ?_) ?_
    · simp only [vint_Get.l0]
      rw [if_pos (by omega), if_pos (by omega), if_pos (by omega), rd_at hlt]
      by_cases h9 : i = 9
      · subst h9; simp
      · rw [if_neg (by omega)]; simp [h9]
    · have hw7 := wrap_7 i hi
      by_cases hbad : i = 9 ∧ l[i] > 1
      · refine Ev.step (f := fun _ => some (0, 0, 2)) (fun k => ?_) (by rw [gget, if_pos hbad]; exact Ev.now _)
        simp only [vint_Get.j1]
        rw [if_pos (by rw [Bool.and_eq_true]; exact ⟨decide_eq_true hbad.1, decide_eq_true hbad.2⟩)]
      · have hcond : (decide (i = 9) && decide (l[i] > 1)) = false := by
          simp only [Bool.and_eq_false_iff, decide_eq_false_iff_not]
          by_cases h9 : i = 9
          · exact .inr (fun h => hbad ⟨h9, h⟩)
          · exact .inl h9
        have hor := or_step i hi acc l[i] h0 h1 hc.1 (fun h9 => by have := fun h => hbad ⟨h9, h⟩; omega)
        rw [hcond, gget, if_neg hbad]
        by_cases h128 : l[i] ≥ 128
        · rw [if_pos h128]
          have hi8 : i ≤ 8 := by
            rcases Nat.lt_or_ge i 9 with h | h
            · omega
            · exact absurd ⟨by omega, by omega⟩ hbad
          refine Ev.step (f := fun k => vint_Get.l0 k (acc + (l[i] % 128) * 128 ^ i) l (l.length : Int) ((i + 1 : Nat) : Int)) (fun k => ?_) ?_
          · simp only [vint_Get.j1]
            rw [if_neg (by decide), hw7, if_pos (by omega), if_pos h128, hor, wrap_succ i (by omega)]
          · refine ih (i + 1) _ (by omega) (by omega) ?_ ?_
            · have := part_lt i hi l[i] hc.1 (fun h => by omega)
              omega
            · have hp := pow_pos128 i
              rw [Int.pow_succ]
              have : (l[i] % 128) * 128 ^ i ≤ 127 * 128 ^ i := Int.mul_le_mul_of_nonneg_right (by omega) (by omega)
              omega
        · rw [if_neg h128]
          by_cases hz : l[i] = 0 ∧ 0 < i
          · rw [if_pos hz]
            refine Ev.step (f := fun _ => some (0, 0, 2)) (fun k => ?_) (Ev.now _)
            simp only [vint_Get.j1]
            rw [if_neg (by decide), hw7, if_pos (by omega), if_neg h128, if_pos hz.1, if_pos (by omega)]
          · rw [if_neg hz]
            refine Ev.step (f := fun _ => some (acc + (l[i] % 128) * 128 ^ i, (i : Int) + 1, 0)) (fun k => ?_) (Ev.now _)
            simp only [vint_Get.j1]
            rw [if_neg (by decide), hw7, if_pos (by omega), if_neg h128, hor, wrap_succ i (by omega)]
            by_cases h0' : l[i] = 0
            · rw [if_pos h0', if_neg (by omega)]; rfl
            · rw [if_neg h0']; rfl
theorem get_ev (l : List Int) (hb : isB l) (hl : l.length ≤ 140737488355328) : Ev (fun k => vint_Get.f k l) (gget 0 0 l) := by
  have := get_loop l hb hl l.length 0 0 (by omega) (by omega) (by omega) (by decide)
  simpa [vint_Get.f] using this
end Go.Proofs.Ytojepleodijdeaa.VP
namespace Go.Proofs.Ytojepleodijdeaa.VP
set_option linter.unusedVariables false
set_option linter.unusedSimpArgs false
open Go.RowKit Go.Proofs.Ytojepleodijdeaa.B Go.Proofs.YtojepleodijdeaaW.PrintWords Go.Proofs.YtojepleodijdeaaW.PrintLast Go.Proofs.YtojepleodijdeaaW.PrintMore
/-- behind its bytes, whatever is behind, the number -/
theorem gget_put (k : Nat) : ∀ (n i : Nat) (acc : Int) (more : List Int), i + k ≤ 9 → n < 128 ^ (k + 1) → (i + k = 9 → n < 2 * 128 ^ k) → (0 < i → 0 < n) →
    gget i acc (vputF k n ++ more) = (acc + (n : Int) * 128 ^ i, ((i + (vputF k n).length : Nat) : Int), 0) := by
  induction k with
  | zero =>
    intro n i acc more hi hn h9 hz
    simp only [vputF, List.singleton_append, gget, List.length_singleton]
    rw [if_neg, if_neg (by omega), if_neg (by omega)]
    · rw [show (n : Int) % 128 = n by omega]; rfl
    · rintro ⟨h1, h2⟩
      have := h9 (by omega)
      omega
  | succ k ih =>
    intro n i acc more hi hn h9 hz
    unfold vputF
    by_cases h : n < 128
    · rw [if_pos h]
      simp only [List.singleton_append, gget, List.length_singleton]
      rw [if_neg (by rintro ⟨h1, h2⟩; omega), if_neg (by omega), if_neg (by omega)]
      rw [show (n : Int) % 128 = n by omega]; rfl
    · rw [if_neg h]
      simp only [List.cons_append, gget, List.length_cons]
      rw [if_neg (by rintro ⟨h1, h2⟩; omega), if_pos (by omega)]
      have e1 : n / 128 < 128 ^ (k + 1) := by
        rw [Nat.div_lt_iff_lt_mul (by decide)]
        rw [Nat.pow_succ] at hn; exact hn
      have e2 : i + 1 + k = 9 → n / 128 < 2 * 128 ^ k := by
        intro hh
        have := h9 (by omega)
        rw [Nat.div_lt_iff_lt_mul (by decide)]
        rw [Nat.pow_succ] at this; omega
      rw [ih (n / 128) (i + 1) _ more (by omega) e1 e2 (by omega)]
      refine Prod.ext ?_ (Prod.ext ?_ rfl)
      · simp only
        have e3 : (((n % 128 + 128 : Nat) : Int)) % 128 = ((n % 128 : Nat) : Int) := by omega
        rw [e3, Int.pow_succ, Int.add_assoc, ← Int.mul_assoc, Int.mul_right_comm, ← Int.add_mul]
        congr 2
        omega
      · simp only; omega
/-- bytes that are a number's are just those that it has -/
theorem gget_back (l : List Int) : ∀ (i : Nat) (acc m u : Int), isB l → i ≤ 9 → gget i acc l = (m, u, 0) →
    ∃ n : Nat, m = acc + (n : Int) * 128 ^ i ∧ u = ((i + (vputF (9 - i) n).length : Nat) : Int) ∧ l.take (vputF (9 - i) n).length = vputF (9 - i) n ∧ (vputF (9 - i) n).length ≤ l.length ∧ (0 < i → 0 < n) ∧ n < 128 ^ (9 - i) * 2 := by
  induction l with
  | nil => intro i acc m u _ _ h; simp [gget] at h
  | cons c l ih =>
    intro i acc m u hb hi h
    have hc := hb c (List.mem_cons_self ..)
    have hb' : isB l := fun x hx => hb x (List.mem_cons_of_mem _ hx)
    have hp : 0 < 128 ^ (9 - i) := Nat.pow_pos (by decide)
    rw [gget] at h
    by_cases h1 : i = 9 ∧ c > 1
    · rw [if_pos h1] at h; simp at h
    rw [if_neg h1] at h
    by_cases h2 : c ≥ 128
    · rw [if_pos h2] at h
      have hi8 : i ≤ 8 := by
        rcases Nat.lt_or_ge i 9 with h | h
        · omega
        · exact absurd ⟨by omega, by omega⟩ h1
      obtain ⟨n, e1, e2, e3, e4, e5, e6⟩ := ih (i + 1) _ _ _ hb' (by omega) h
      have hn := e5 (by omega)
      refine ⟨128 * n + (c % 128).toNat, ?_, ?_, ?_, ?_, by omega, ?_⟩
      all_goals
        have e9 : 9 - i = (9 - (i + 1)) + 1 := by omega
        have hv : vputF (9 - i) (128 * n + (c % 128).toNat) = c :: vputF (9 - (i + 1)) n := by
          rw [e9, vputF, if_neg (by omega)]
          have q1 : (128 * n + (c % 128).toNat) / 128 = n := by omega
          have q2 : (((128 * n + (c % 128).toNat) % 128 + 128 : Nat) : Int) = c := by omega
          rw [q1, q2]
      · rw [e1, Int.pow_succ]
        have : ((128 * n + (c % 128).toNat : Nat) : Int) = 128 * (n : Int) + c % 128 := by omega
        rw [this, Int.add_mul, Int.mul_comm (128 ^ i) 128, ← Int.mul_assoc, Int.mul_comm (n : Int) 128]
        omega
      · rw [e2, hv, List.length_cons]; omega
      · rw [hv, List.length_cons, List.take_succ_cons, e3]
      · rw [hv, List.length_cons, List.length_cons]; omega
      · rw [e9, Nat.pow_succ]; omega
    · rw [if_neg h2] at h
      by_cases h3 : c = 0 ∧ 0 < i
      · rw [if_pos h3] at h; simp at h
      rw [if_neg h3] at h
      simp only [Prod.mk.injEq, and_true] at h
      have hv : vputF (9 - i) c.toNat = [c] := by
        have q : ((c.toNat : Nat) : Int) = c := by omega
        cases h9 : 9 - i with
        | zero => simp [vputF, q]
        | succ j => rw [vputF, if_pos (by omega), q]
      refine ⟨c.toNat, ?_, ?_, ?_, ?_, by omega, ?_⟩
      · rw [← h.1]
        have q : c % 128 = ((c.toNat : Nat) : Int) := by omega
        rw [q]
      · rw [hv, ← h.2]; simp
      · rw [hv]; rfl
      · rw [hv]; simp
      · rcases Nat.lt_or_ge i 9 with h9 | h9
        · have : 128 ^ 1 ≤ 128 ^ (9 - i) := Nat.pow_le_pow_right (by decide) (by omega)
          omega
        · have : i = 9 := by omega
          subst this
          simp
          omega
theorem vputF_isB (k : Nat) : ∀ n, n < 128 ^ (k + 1) → isB (vputF k n) := by
  induction k with
  | zero => intro n hn x hx; simp [vputF] at hx; subst hx; omega
  | succ k ih =>
    intro n hn x hx
    unfold vputF at hx
    split at hx
    · simp at hx; subst hx; omega
    · rcases List.mem_cons.1 hx with rfl | hx
      · omega
      · exact ih _ (by rw [Nat.div_lt_iff_lt_mul (by decide)]; rw [Nat.pow_succ] at hn; exact hn) x hx
/-- the bytes of a number -/
def vput (n : Nat) : List Int := vputF 9 n
theorem vput_f {a : Int} (h0 : 0 ≤ a) (h1 : a < 18446744073709551616) : vint_Put.f a = some (vput a.toNat) := by
  unfold vint_Put.f vput; rw [if_pos ⟨h0, h1⟩]
theorem wf_u64 {a : Int} (h : (Lit.int .u64 a).wf = true) : 0 ≤ a ∧ a < 18446744073709551616 := by
  simp [Lit.wf, IntKind.min, IntKind.max, IntKind.signed, IntKind.bits] at h
  omega
theorem vput_isB {n : Nat} (h : n < 18446744073709551616) : isB (vput n) := vputF_isB 9 n (Nat.lt_trans h (by decide))
theorem get_put {n : Nat} (h : n < 18446744073709551616) (more : List Int) : gget 0 0 (vput n ++ more) = ((n : Int), ((vput n).length : Int), 0) := by
  have := gget_put 9 n 0 0 more (by omega) (Nat.lt_trans h (by decide)) (fun _ => h) (by omega)
  simpa [vput] using this
theorem dec_cons {x y : Int} {l m : List Int} (h : x = y) : decide (x :: l = y :: m) = decide (l = m) := by subst h; simp
theorem dec_cons_ne {x y : Int} {l m : List Int} (h : x ≠ y) : decide (x :: l = y :: m) = false := by simp [h]
end Go.Proofs.Ytojepleodijdeaa.VP
namespace Go.Proofs.Ytojepleodijdeaa.VP
set_option linter.unusedVariables false
set_option linter.unusedSimpArgs false
open Go.RowKit Go.Proofs.Ytojepleodijdeaa.B Go.Proofs.YtojepleodijdeaaW.PrintWords Go.Proofs.YtojepleodijdeaaW.PrintLast Go.Proofs.YtojepleodijdeaaW.PrintMore
open Go.Proofs.Ytojepleodijdeaa.Crc (steps)
/-- the sum of more bytes -/
def moreL (a : Int) (l : List Int) : Int := w32 (~~~ crcL (~~~ BitVec.ofNat 32 a.toNat) l)
theorem more_f {a : Int} {l : List Int} (h : 0 ≤ a ∧ a < 4294967296) (hb : isB l) : sum_More.f a l = some (moreL a l) := by
  unfold sum_More.f; rw [if_pos ⟨h, hb⟩]; rfl
theorem of_f {l : List Int} (hb : isB l) : sum_Of.f l = some (ofL l) := by
  unfold sum_Of.f; rw [more_f (by decide) hb]; rfl
theorem put_f {l : List Int} (hb : isB l) (hl : l.length ≤ 1000000000) : sum_Put.f l = some (putL l) := by
  unfold sum_Put.f; rw [if_pos ⟨hb, by omega⟩]
theorem fourL_len (a : Int) : (fourL a).length = 4 := rfl
theorem putL_len (l : List Int) : (putL l).length = l.length + 4 := by simp [putL, fourL_len]
theorem fourL_isB {a : Int} : isB (fourL a) := by
  intro x hx
  simp only [fourL, List.mem_cons, List.not_mem_nil, or_false] at hx
  omega
theorem putL_isB {l : List Int} (hb : isB l) : isB (putL l) := isB_append hb fourL_isB
/-- without the sum -/
def cutL (l : List Int) : List Int × Bool :=
  if l.length < 4 then ([], false)
  else if l.drop (l.length - 4) = fourL (ofL (l.take (l.length - 4))) then (l.take (l.length - 4), true) else ([], false)
theorem eq_loop (a b : List Int) (hl : a.length = b.length) (h : a.length ≤ 140737488355328) : ∀ (d i : Nat), a.length - i = d → Ev (fun k => slices_Equal_byte_byte.l0 k a b (a.length : Int) (i : Int)) (decide (a.drop i = b.drop i)) := by
  intro d
  induction d with
  | zero =>
    intro i hd
    refine Ev.step (f := fun _ => some true) (fun k => ?_) ?_
    · simp only [slices_Equal_byte_byte.l0]; rw [if_neg (by omega)]
    · rw [List.drop_of_length_le (by omega), List.drop_of_length_le (by omega)]; exact Ev.now _
  | succ d ih =>
    intro i hd
    have h1 : i < a.length := by omega
    have h2 : i < b.length := by omega
    rw [List.drop_eq_getElem_cons h1, List.drop_eq_getElem_cons h2]
    by_cases he : a[i] = b[i]
    · refine Ev.step (f := fun k => slices_Equal_byte_byte.l0 k a b (a.length : Int) ((i + 1 : Nat) : Int)) (fun k => ?_) ?_
      · simp only [slices_Equal_byte_byte.l0]
        rw [if_pos (by omega), if_pos (by omega), if_pos (by omega), if_pos (by omega), rd_at h1, rd_at h2, if_pos he, wrap_succ i (by omega)]
      · rw [dec_cons he]; exact ih (i + 1) (by omega)
    · refine Ev.step (f := fun _ => some false) (fun k => ?_) ?_
      · simp only [slices_Equal_byte_byte.l0]
        rw [if_pos (by omega), if_pos (by omega), if_pos (by omega), if_pos (by omega), rd_at h1, rd_at h2, if_neg he]
      · rw [dec_cons_ne he]; exact Ev.now _
theorem eq_ev (a b : List Int) (h : a.length ≤ 140737488355328) : Ev (fun k => slices_Equal_byte_byte.f k a b) (decide (a = b)) := by
  by_cases hl : a.length = b.length
  · refine Ev.congr (f := fun k => slices_Equal_byte_byte.l0 k a b (a.length : Int) ((0 : Nat) : Int)) (fun k => ?_) ?_
    · simp only [slices_Equal_byte_byte.f]; rw [if_pos (by omega)]; rfl
    · have := eq_loop a b hl h a.length 0 (by omega)
      simpa using this
  · refine Ev.congr (f := fun _ => some false) (fun k => ?_) ?_
    · simp only [slices_Equal_byte_byte.f]; rw [if_neg (by omega)]
    · have : decide (a = b) = false := by simp; intro e; exact hl (by rw [e])
      rw [this]; exact Ev.now _
theorem cut_ev {l : List Int} (hb : isB l) (hl : l.length ≤ 1000000000) : Ev (fun k => sum_Cut.f k l) (cutL l) := by
  unfold cutL
  by_cases h4 : l.length < 4
  · rw [if_pos h4]
    refine Ev.congr (f := fun _ => some (([] : List Int), false)) (fun k => ?_) (Ev.now _)
    simp only [sum_Cut.f]
    rw [if_pos (by unfold wrap64; omega)]
  · rw [if_neg h4]
    have hw : wrap64 ((l.length : Int) - 4) = ((l.length - 4 : Nat) : Int) := by unfold wrap64; omega
    have hbt := isB_take hb (l.length - 4)
    obtain ⟨K, hK⟩ := eq_ev (l.drop (l.length - 4)) (fourL (ofL (l.take (l.length - 4)))) (by rw [List.length_drop]; omega)
    dsimp only at hK
    refine ⟨K, fun k hk => ?_⟩
    simp only [sum_Cut.f, hw]
    rw [if_neg (by omega), if_pos (by omega), if_pos (by omega)]
    simp only [Int.toNat_natCast, of_f hbt, Option.bind_some]
    have hf : sum_four.f (ofL (l.take (l.length - 4))) = some (fourL (ofL (l.take (l.length - 4)))) := rfl
    rw [hf]
    simp only [Option.bind_some]
    rw [hK k hk]
    simp only [Option.bind_some]
    by_cases he : l.drop (l.length - 4) = fourL (ofL (l.take (l.length - 4)))
    · rw [if_pos he, if_pos (decide_eq_true he)]
      have hc : slices_Clone_byte_byte.f (l.take (l.length - 4)) = some (l.take (l.length - 4)) := by
        unfold slices_Clone_byte_byte.f
        rw [if_pos (by rw [List.length_take]; omega)]
      rw [hc]; rfl
    · rw [if_neg he, if_neg (by simpa using he)]
theorem cutL_put {l : List Int} : cutL (putL l) = (l, true) := by
  unfold cutL
  rw [if_neg (by rw [putL_len]; omega)]
  have e : (putL l).length - 4 = l.length := by rw [putL_len]; omega
  rw [e]
  have e1 : (putL l).take l.length = l := by simp [putL]
  have e2 : (putL l).drop l.length = fourL (ofL l) := by simp [putL]
  rw [e1, e2, if_pos rfl]
end Go.Proofs.Ytojepleodijdeaa.VP
namespace Go.Proofs.Ytojepleodijdeaa.VP
set_option linter.unusedVariables false
set_option linter.unusedSimpArgs false
open Go.RowKit Go.Proofs.Ytojepleodijdeaa.B Go.Proofs.YtojepleodijdeaaW.PrintWords Go.Proofs.YtojepleodijdeaaW.PrintLast Go.Proofs.YtojepleodijdeaaW.PrintMore
open Go.Proofs.Ytojepleodijdeaa.Crc (steps feed word feed_word feed_append feed_xor burst steps_xor steps_eq_zero)
theorem cutL_false {q : List Int} (h : (cutL q).2 = false) : cutL q = ([], false) := by
  unfold cutL at h ⊢
  split
  · rfl
  · rename_i h4
    rw [if_neg h4] at h
    split
    · rename_i he; rw [if_pos he] at h; cases h
    · rfl
end Go.Proofs.Ytojepleodijdeaa.VP
namespace Go.Proofs.Ytojepleodijdeaa.VP
set_option linter.unusedVariables false
set_option linter.unusedSimpArgs false
open Go.RowKit Go.Proofs.Ytojepleodijdeaa.B Go.Proofs.YtojepleodijdeaaW.PrintWords Go.Proofs.YtojepleodijdeaaW.PrintLast Go.Proofs.YtojepleodijdeaaW.PrintMore
/-- the number of two bytes -/
def two (h : List Int) : Int := h.getD 1 0 + 256 * h.getD 2 0
/-- the frame that bytes begin with -/
def fread (l : List Int) : Int × List Int × Int × Int :=
  if l.length < 7 then (0, [], 0, 3)
  else if (cutL (l.take 7)).2 = false then (0, [], 0, 8)
  else if two (cutL (l.take 7)).1 > 400 then (0, [], 0, 2)
  else if (l.length : Int) < 11 + two (cutL (l.take 7)).1 then (0, [], 0, 3)
  else if (cutL ((l.take (11 + two (cutL (l.take 7)).1).toNat).drop 7)).2 = false then (0, [], 0, 8)
  else ((cutL (l.take 7)).1.getD 0 0, (cutL ((l.take (11 + two (cutL (l.take 7)).1).toNat).drop 7)).1, 11 + two (cutL (l.take 7)).1, 0)
theorem cutL_true {l : List Int} (h : (cutL l).2 = true) : cutL l = (l.take (l.length - 4), true) ∧ 4 ≤ l.length := by
  unfold cutL at *
  split at h <;> rename_i h4
  · cases h
  rw [if_neg h4]
  split at h <;> rename_i h5
  · rw [if_pos h5]; exact ⟨rfl, by omega⟩
  · cases h
theorem cutL_isB {l : List Int} (hb : isB l) : isB (cutL l).1 := by
  cases h : (cutL l).2
  · rw [cutL_false h]; intro x hx; cases hx
  · rw [(cutL_true h).1]; exact isB_take hb _
theorem getD_isB {l : List Int} (hb : isB l) (i : Nat) : 0 ≤ l.getD i 0 ∧ l.getD i 0 ≤ 255 := by
  by_cases h : i < l.length
  · have : l.getD i 0 = l[i] := by simp [h]
    rw [this]; exact hb _ (List.getElem_mem h)
  · have : l.getD i 0 = 0 := by simp [List.getD_eq_getElem?_getD, List.getElem?_eq_none (by omega : l.length ≤ i)]
    rw [this]; omega
theorem or_two {a b : Int} (ha : 0 ≤ a ∧ a ≤ 255) (hb : 0 ≤ b ∧ b ≤ 255) : bits .or .i64 a (b * 256) = a + 256 * b := by
  have hc : bits .or .i64 a (b * 256) = bits .or .i64 (b * 256) a := by simp only [bits]; rw [BitVec.or_comm]
  have hw : ∀ n : Int, 0 ≤ n → n < 2 ^ 63 → IntKind.i64.wrap n = n := fun n h0 h1 => by
    rw [IntKind.wrap_i64]; omega
  rw [hc, bits_join .i64 63 (by decide) hw 8 _ a (by omega) (by omega) (by omega) (by omega) (by omega) (by omega)]
  omega
theorem read_ev {l : List Int} (hb : isB l) (hl : l.length ≤ 1000000000) : Ev (fun k => frame_Read.f k l) (fread l) := by
  obtain ⟨K1, h1⟩ := cut_ev (isB_take hb 7) (by rw [List.length_take]; omega)
  dsimp only at h1
  have hn1 := getD_isB (cutL_isB (isB_take hb 7)) 1
  have hn2 := getD_isB (cutL_isB (isB_take hb 7)) 2
  obtain ⟨K2, h2⟩ := cut_ev (isB_drop (isB_take hb (11 + two (cutL (l.take 7)).1).toNat) 7) (by rw [List.length_drop, List.length_take]; omega)
  dsimp only at h2
  refine ⟨K1 + K2, fun k hk => ?_⟩
  unfold fread
  simp only [frame_Read.f]
  by_cases h7 : l.length < 7
  · rw [if_pos (by omega), if_pos h7]
  rw [if_neg (by omega), if_neg h7, if_pos (by omega), h1 k (by omega)]
  simp only [Option.bind_some]
  by_cases hc : (cutL (l.take 7)).2 = false
  · rw [if_pos hc, if_neg (by rw [hc]; decide)]
  have hc' : (cutL (l.take 7)).2 = true := by simpa using hc
  rw [if_neg hc, if_pos hc']
  have h3 : (cutL (l.take 7)).1.length = 3 := by rw [(cutL_true hc').1]; simp; omega
  rw [if_pos (by omega), if_pos (by omega)]
  have hr : ∀ i : Nat, rd (cutL (l.take 7)).1 (i : Int) = (cutL (l.take 7)).1.getD i 0 := fun i => rfl
  have e1 : rd (cutL (l.take 7)).1 1 = (cutL (l.take 7)).1.getD 1 0 := hr 1
  have e2 : rd (cutL (l.take 7)).1 2 = (cutL (l.take 7)).1.getD 2 0 := hr 2
  have w1 : ∀ x : Int, 0 ≤ x ∧ x ≤ 1000000000 → wrap64 x = x := fun x hx => by unfold wrap64; omega
  rw [e1, e2, w1 _ (by omega), w1 ((cutL (l.take 7)).1.getD 2 0) (by omega), w1 _ (by omega), or_two hn1 hn2]
  change (if two (cutL (l.take 7)).1 > 400 then _ else _) = _
  have ht : 0 ≤ two (cutL (l.take 7)).1 := by unfold two; omega
  by_cases h400 : two (cutL (l.take 7)).1 > 400
  · rw [if_pos h400, if_pos h400]
  rw [if_neg h400, if_neg h400]
  have e3 : (cutL (l.take 7)).1.getD 1 0 + 256 * (cutL (l.take 7)).1.getD 2 0 = two (cutL (l.take 7)).1 := rfl
  rw [e3, w1 (7 + _) (by omega), w1 _ (by omega), show 7 + two (cutL (l.take 7)).1 + 4 = 11 + two (cutL (l.take 7)).1 by omega]
  by_cases hs : (l.length : Int) < 11 + two (cutL (l.take 7)).1
  · rw [if_pos hs, if_pos hs]
  rw [if_neg hs, if_neg hs, if_pos (by omega), if_pos (by omega), h2 k (by omega)]
  simp only [Option.bind_some]
  by_cases hd : (cutL ((l.take (11 + two (cutL (l.take 7)).1).toNat).drop 7)).2 = false
  · rw [if_pos hd, if_neg (by rw [hd]; decide)]
  · rw [if_neg hd, if_pos (by simpa using hd), if_pos (by omega)]
    rfl
end Go.Proofs.Ytojepleodijdeaa.VP
namespace Go.Proofs.Ytojepleodijdeaa.VP
set_option linter.unusedVariables false
set_option linter.unusedSimpArgs false
open Go.RowKit Go.Proofs.Ytojepleodijdeaa.B Go.Proofs.YtojepleodijdeaaW.PrintWords Go.Proofs.YtojepleodijdeaaW.PrintLast Go.Proofs.YtojepleodijdeaaW.PrintMore
theorem map_u8_inj : ∀ {l m : List Int}, isB l → isB m → l.map (fun n => UInt8.ofNat n.toNat) = m.map (fun n => UInt8.ofNat n.toNat) → l = m
  | [], [], _, _, _ => rfl
  | [], _ :: _, _, _, h => by simp at h
  | _ :: _, [], _, _, h => by simp at h
  | x :: l, y :: m, hl, hm, h => by
    simp only [List.map_cons, List.cons.injEq] at h
    have hx := hl x (List.mem_cons_self ..)
    have hy := hm y (List.mem_cons_self ..)
    have e := congrArg UInt8.toNat h.1
    simp only [UInt8.toNat_ofNat'] at e
    rw [map_u8_inj (fun z hz => hl z (List.mem_cons_of_mem _ hz)) (fun z hz => hm z (List.mem_cons_of_mem _ hz)) h.2]
    congr 1
    omega
theorem bytesEqual_f {l m : List Int} (hl : isB l) (hm : isB m) : bytes_Equal.f l m = some (decide (l = m)) := by
  unfold bytes_Equal.f
  rw [ByteArray.toList_eq, ByteArray.toList_eq, strOfNums_data, strOfNums_data]
  by_cases h : l = m
  · subst h; simp
  · rw [decide_eq_false h]
    congr 1
    rw [beq_eq_false_iff_ne]
    exact fun e => h (map_u8_inj hl hm e)
theorem fsame_f {a b : Int} {l m : List Int} (hl : isB l) (hm : isB m) : frame_Same.f a l b m = some (decide (a = b ∧ l = m)) := by
  unfold frame_Same.f
  rw [bytesEqual_f hl hm]
  by_cases h : a = b
  · rw [if_pos h]; simp [h]
  · rw [if_neg h]; simp [h]
end Go.Proofs.Ytojepleodijdeaa.VP
namespace Go.Proofs.Ytojepleodijdeaa.VP
set_option linter.unusedVariables false
set_option linter.unusedSimpArgs false
open Go.RowKit Go.Proofs.Ytojepleodijdeaa.B Go.Proofs.YtojepleodijdeaaW.PrintWords Go.Proofs.YtojepleodijdeaaW.PrintLast Go.Proofs.YtojepleodijdeaaW.PrintMore
def isU (l : List Int) : Prop := ∀ x ∈ l, 0 ≤ x ∧ x < 18446744073709551616
theorem isU_of_wf {l : List Int} (h : ∀ x ∈ l, (Lit.int .u64 x).wf = true) : isU l := fun x hx => wf_u64 (h x hx)
/-- the bytes of numbers -/
def vall : List Int → List Int
  | [] => []
  | x :: l => vput x.toNat ++ vall l
theorem vput_len (n : Nat) : 1 ≤ (vput n).length ∧ (vput n).length ≤ 10 := vputF_length 9 n
theorem vall_len (l : List Int) : (vall l).length ≤ 10 * l.length := by
  induction l with
  | nil => simp [vall]
  | cons x l ih => have := (vput_len x.toNat).2; simp only [vall, List.length_append, List.length_cons]; omega
theorem vall_isB {l : List Int} (h : isU l) : isB (vall l) := by
  induction l with
  | nil => intro x hx; cases hx
  | cons x l ih =>
    have hx := h x (List.mem_cons_self ..)
    exact isB_append (vput_isB (by omega)) (ih fun y hy => h y (List.mem_cons_of_mem _ hy))
theorem vput_f' {a : Int} (h : 0 ≤ a ∧ a < 18446744073709551616) : vint_Put.f a = some (vput a.toNat) := vput_f h.1 h.2
theorem drop_cons {l : List Int} {i : Nat} (h : i < l.length) : l.drop i = l[i] :: l.drop (i + 1) := List.drop_eq_getElem_cons h
theorem all_loop (l : List Int) (hu : isU l) (hl : l.length ≤ 1000000000) : ∀ (d i : Nat) (out : List Int), l.length - i = d → out.length ≤ 10 * i →
    Ev (fun k => vint_All.l0 k out l (l.length : Int) (i : Int)) (out ++ vall (l.drop i)) := by
  intro d
  induction d with
  | zero =>
    intro i out hd ho
    refine Ev.step (f := fun _ => some out) (fun k => ?_) ?_
    · simp only [vint_All.l0]; rw [if_neg (by omega)]
    · rw [List.drop_of_length_le (by omega)]; simp only [vall, List.append_nil]; exact Ev.now _
  | succ d ih =>
    intro i out hd ho
    have h1 : i < l.length := by omega
    have hx := hu l[i] (List.getElem_mem h1)
    have hv := vput_len l[i].toNat
    refine Ev.step (f := fun k => vint_All.l0 k (out ++ vput l[i].toNat) l (l.length : Int) ((i + 1 : Nat) : Int)) (fun k => ?_) ?_
    · simp only [vint_All.l0]
      rw [if_pos (by omega), if_pos (by omega), if_pos (by omega), rd_at h1, vput_f' hx]
      simp only [Option.bind_some]
      rw [if_pos (by omega), wrap_succ i (by omega)]
    · rw [drop_cons h1]
      have := ih (i + 1) (out ++ vput l[i].toNat) (by omega) (by rw [List.length_append]; omega)
      rw [List.append_assoc] at this
      exact this
theorem all_ev (l : List Int) (hu : isU l) (hl : l.length ≤ 1000000000) : Ev (fun k => vint_All.f k l) (vall l) := by
  have := all_loop l hu hl l.length 0 [] (by omega) (by simp)
  simpa [vint_All.f] using this
theorem gget_used {l : List Int} (hb : isB l) (h : (gget 0 0 l).2.2 = 0) : 1 ≤ (gget 0 0 l).2.1 ∧ (gget 0 0 l).2.1 ≤ l.length := by
  obtain ⟨n, _, h2, h3, h4, _⟩ := gget_back l 0 0 (gget 0 0 l).1 (gget 0 0 l).2.1 hb (by omega) (Prod.ext rfl (Prod.ext rfl h))
  have := vputF_length (9 - 0) n
  omega
end Go.Proofs.Ytojepleodijdeaa.VP
namespace Go.Proofs.Ytojepleodijdeaa.VP
set_option linter.unusedVariables false
set_option linter.unusedSimpArgs false
open Go.RowKit Go.Proofs.Ytojepleodijdeaa.B Go.Proofs.YtojepleodijdeaaW.PrintWords Go.Proofs.YtojepleodijdeaaW.PrintLast Go.Proofs.YtojepleodijdeaaW.PrintMore
/-- a frame's head -/
def fhead (a : Int) (n : Nat) : List Int := [a, (n : Int) % 256, (n : Int) / 256]
/-- a frame's bytes -/
def fb (a : Int) (body : List Int) : List Int := putL (fhead a body.length) ++ putL body
theorem and255 {a : Int} (h0 : 0 ≤ a) (h1 : a ≤ 1000000000) : bits .and .i64 a 255 = a % 256 := by
  have hw : ∀ n : Int, 0 ≤ n → n < 2 ^ 63 → IntKind.i64.wrap n = n := fun n h0 h1 => by rw [IntKind.wrap_i64]; omega
  exact bits_mask .i64 63 (by decide) hw 8 (by decide) a h0 (by omega)
theorem low_f {a : Int} (h0 : 0 ≤ a) (h1 : a ≤ 1000000000) : frame_low_int.f a = some (a % 256, a / 256) := by
  unfold frame_low_int.f
  rw [and255 h0 h1]
  congr 2
  omega
theorem fhead_isB {a : Int} (ha : 0 ≤ a ∧ a ≤ 255) {n : Nat} (hn : n ≤ 400) : isB (fhead a n) := by
  intro x hx
  simp only [fhead, List.mem_cons, List.not_mem_nil, or_false] at hx
  omega
theorem fb_len (a : Int) (body : List Int) : (fb a body).length = body.length + 11 := by
  unfold fb
  rw [List.length_append, putL_len, putL_len]
  simp [fhead]
  omega
theorem fb_isB {a : Int} (ha : 0 ≤ a ∧ a ≤ 255) {body : List Int} (hb : isB body) (hn : body.length ≤ 400) : isB (fb a body) := isB_append (putL_isB (fhead_isB ha hn)) (putL_isB hb)
theorem fbytes_f {a : Int} (ha : 0 ≤ a ∧ a ≤ 255) {body : List Int} (hb : isB body) (hn : body.length ≤ 400) : frame_Bytes.f a body = some (fb a body, 0) := by
  have hh := fhead_isB ha hn
  unfold frame_Bytes.f
  rw [if_neg (by omega), low_f (by omega) (by omega)]
  simp only [Option.bind_some]
  rw [low_f (by omega) (by omega)]
  simp only [Option.bind_some]
  have e : ([a, (body.length : Int) % 256, (body.length : Int) / 256 % 256] : List Int) = fhead a body.length := by
    unfold fhead
    rw [show (body.length : Int) / 256 % 256 = (body.length : Int) / 256 by omega]
  rw [e, put_f hh (by simp [fhead]), Option.bind_some, put_f hb (by omega), Option.bind_some, if_pos (by rw [putL_len, putL_len]; simp [fhead]; omega)]
  rfl
theorem head_len (a : Int) (n : Nat) : (putL (fhead a n)).length = 7 := by rw [putL_len]; rfl
theorem take7 (a : Int) (n : Nat) (m : List Int) : (putL (fhead a n) ++ m).take 7 = putL (fhead a n) := by
  rw [← head_len a n, List.take_left]
theorem two_head (a : Int) (n : Nat) : two (fhead a n) = n := by
  unfold two fhead
  simp
  omega
theorem fread_fb {a : Int} {body : List Int} (hn : body.length ≤ 400) (more : List Int) : fread (fb a body ++ more) = (a, body, (body.length : Int) + 11, 0) := by
  have e7 : (fb a body ++ more).take 7 = putL (fhead a body.length) := by unfold fb; rw [List.append_assoc, take7]
  have el : (fb a body ++ more).length = body.length + 11 + more.length := by rw [List.length_append, fb_len]
  unfold fread
  rw [e7, cutL_put]
  dsimp only
  rw [two_head]
  have ed : ((fb a body ++ more).take (11 + (body.length : Int)).toNat).drop 7 = putL body := by
    rw [show (11 + (body.length : Int)).toNat = (fb a body).length by rw [fb_len]; omega, List.take_left]
    unfold fb
    rw [← head_len a body.length, List.drop_left]
  rw [ed, cutL_put, if_neg (by omega), if_neg (by simp), if_neg (by omega), if_neg (by omega), if_neg (by simp)]
  refine Prod.ext rfl (Prod.ext rfl (Prod.ext ?_ rfl))
  dsimp only
  omega
end Go.Proofs.Ytojepleodijdeaa.VP
namespace Go.Proofs.Ytojepleodijdeaa.VP
set_option linter.unusedVariables false
set_option linter.unusedSimpArgs false
open Go.RowKit Go.Proofs.Ytojepleodijdeaa.B Go.Proofs.YtojepleodijdeaaW.PrintWords Go.Proofs.YtojepleodijdeaaW.PrintLast Go.Proofs.YtojepleodijdeaaW.PrintMore
/-- n numbers of bytes: they, and what is left -/
def gnums : Nat → List Int → List Int → List Int × List Int × Int
  | 0, acc, l => (acc, l, 0)
  | n + 1, acc, l => if (gget 0 0 l).2.2 = 0 then gnums n (acc ++ [(gget 0 0 l).1]) (l.drop (gget 0 0 l).2.1.toNat) else ([], [], (gget 0 0 l).2.2)
def isKind (k : Int) : Prop := 1 ≤ k ∧ k ≤ 17
instance (k : Int) : Decidable (isKind k) := by unfold isKind; infer_instance
def fit (k : Int) (n : Nat) : Bool := decide (n = 0 ∨ ((k = 10 ∨ k = 11 ∨ k = 16) ∧ n ≤ 64))
/-- a frame's record -/
def rread (k : Int) (l : List Int) : Int × List Int × ByteArray × Int :=
  if isKind k then (if (gnums (numE k.toNat).toNat [] l).2.2 = 0 then (if fit k (gnums (numE k.toNat).toNat [] l).2.1.length = true then (k, (gnums (numE k.toNat).toNat [] l).1, strOfNums (gnums (numE k.toNat).toNat [] l).2.1, 0) else (0, [], ⟨#[]⟩, 2)) else (0, [], ⟨#[]⟩, (gnums (numE k.toNat).toNat [] l).2.2)) else (0, [], ⟨#[]⟩, 2)
theorem known_f (k : Int) : record_known.f k = some (decide (isKind k)) := by
  unfold record_known.f
  by_cases h : k ≥ 1
  · rw [if_pos h]; congr 1; apply decide_eq_decide.mpr; unfold isKind; omega
  · rw [if_neg h]; congr 1; symm; apply decide_eq_false; unfold isKind; omega
theorem fits_f (k : Int) (n : Nat) : record_fits.f k (n : Int) = some (fit k n) := by
  unfold record_fits.f record_worded.f fit
  by_cases h0 : (n : Int) = 0
  · rw [if_pos h0]; congr 1; symm; apply decide_eq_true; left; omega
  rw [if_neg h0]
  by_cases h1 : k = 10
  · rw [if_pos h1, Option.bind_some, if_pos rfl]; congr 1; apply decide_eq_decide.mpr; omega
  rw [if_neg h1]
  by_cases h2 : k = 11
  · rw [if_pos h2, Option.bind_some, if_pos rfl]; congr 1; apply decide_eq_decide.mpr; omega
  rw [if_neg h2, Option.bind_some]
  by_cases h3 : k = 16
  · rw [if_pos (by simp [h3])]; congr 1; apply decide_eq_decide.mpr; omega
  · rw [if_neg (by simp [h3])]; congr 1; symm; apply decide_eq_false; omega
theorem numE_at (k : Int) (h : isKind k) : 0 ≤ numE k.toNat ∧ numE k.toNat ≤ 10 ∧ rd ([(-1), 0, 5, 2, 1, 2, 2, 1, 1, 1, 1, 1, 5, 7, 10, 2, 1, 1] : List Int) k = numE k.toNat := by
  obtain ⟨h1, h2⟩ := h
  obtain ⟨j, rfl⟩ := Int.eq_ofNat_of_zero_le (show 0 ≤ k by omega)
  have hj : j = 1 ∨ j = 2 ∨ j = 3 ∨ j = 4 ∨ j = 5 ∨ j = 6 ∨ j = 7 ∨ j = 8 ∨ j = 9 ∨ j = 10 ∨ j = 11 ∨ j = 12 ∨ j = 13 ∨ j = 14 ∨ j = 15 ∨ j = 16 ∨ j = 17 := by omega
  rcases hj with rfl | rfl | rfl | rfl | rfl | rfl | rfl | rfl | rfl | rfl | rfl | rfl | rfl | rfl | rfl | rfl | rfl <;> exact ⟨by decide, by decide, rfl⟩
theorem recread_loop (ki : Int) (N : Nat) (hN : N ≤ 10) : ∀ (d i : Nat) (l acc : List Int), i + d = N → isB l → l.length ≤ 1000000000 → acc.length ≤ 10 →  acc.length ≤ i →
    Ev (fun k => record_Read.l0 k l (N : Int) (i : Int) ki acc (⟨#[]⟩ : ByteArray)) (if (gnums d acc l).2.2 = 0 then (if fit ki (gnums d acc l).2.1.length = true then (ki, (gnums d acc l).1, strOfNums (gnums d acc l).2.1, 0) else (0, [], ⟨#[]⟩, 2)) else (0, [], ⟨#[]⟩, (gnums d acc l).2.2)) := by
  intro d
  induction d with
  | zero =>
    intro i l acc hi hb hl ha hai
    refine Ev.step (f := fun _ => (record_fits.f ki (l.length : Int)).bind fun t722 => (if t722 = true then (some (ki, acc, strOfNums l, 0)) else (some (0, ([] : List Int), (⟨#[]⟩ : ByteArray), 2)))) (fun k => ?_) ?_
    · simp only [record_Read.l0]; rw [if_neg (by omega)]
    · show Ev _ (if (0 : Int) = 0 then (if fit ki l.length = true then (ki, acc, strOfNums l, 0) else (0, [], ⟨#[]⟩, 2)) else (0, [], ⟨#[]⟩, 0))
      rw [if_pos rfl, fits_f, Option.bind_some]
      by_cases hf : fit ki l.length = true
      · rw [if_pos hf, if_pos hf]; exact Ev.now _
      · rw [if_neg hf, if_neg hf]; exact Ev.now _
  | succ d ih =>
    intro i l acc hi hb hl ha hai
    refine Ev.step (f := fun k => (vint_Get.f k l).bind fun bt => (if bt.2.2 = 0 then (if acc.length < 17592186044416 then (if 0 ≤ bt.2.1 then (if bt.2.1 ≤ (l.length : Int) then (record_Read.l0 k (l.drop (bt.2.1 : Int).toNat) (N : Int) (wrap64 ((i : Int) + 1)) ki (acc ++ [bt.1]) (⟨#[]⟩ : ByteArray)) else (none)) else (none)) else (none)) else (some (0, ([] : List Int), (⟨#[]⟩ : ByteArray), bt.2.2)))) (fun k => ?_) ?_
    · simp only [record_Read.l0]; rw [if_pos (by omega)]
    · refine Ev.bind (f := fun k bt => (if bt.2.2 = 0 then (if acc.length < 17592186044416 then (if 0 ≤ bt.2.1 then (if bt.2.1 ≤ (l.length : Int) then (record_Read.l0 k (l.drop (bt.2.1 : Int).toNat) (N : Int) (wrap64 ((i : Int) + 1)) ki (acc ++ [bt.1]) (⟨#[]⟩ : ByteArray)) else (none)) else (none)) else (none)) else (some (0, ([] : List Int), (⟨#[]⟩ : ByteArray), bt.2.2)))) (get_ev l hb (by omega)) ?_
      rw [gnums]
      by_cases h0 : (gget 0 0 l).2.2 = 0
      · have hu := gget_used hb h0
        rw [if_pos h0]
        refine Ev.congr (f := fun k => record_Read.l0 k (l.drop (gget 0 0 l).2.1.toNat) (N : Int) ((i + 1 : Nat) : Int) ki (acc ++ [(gget 0 0 l).1]) (⟨#[]⟩ : ByteArray)) (fun k => ?_) ?_
        · rw [if_pos h0, if_pos (by omega), if_pos (by omega), if_pos hu.2, wrap_succ i (by omega)]
        · exact ih (i + 1) _ _ (by omega) (isB_drop hb _) (by rw [List.length_drop]; omega) (by rw [List.length_append, List.length_singleton]; omega) (by rw [List.length_append, List.length_singleton]; omega)
      · rw [if_neg h0]
        refine Ev.congr (f := fun _ => some (0, [], (⟨#[]⟩ : ByteArray), (gget 0 0 l).2.2)) (fun k => ?_) ?_
        · rw [if_neg h0]
        · rw [if_neg h0]; exact Ev.now _
theorem recread_ev {ki : Int} (hk : 0 ≤ ki ∧ ki ≤ 255) {l : List Int} (hb : isB l) (hl : l.length ≤ 1000000000) : Ev (fun k => record_Read.f k ki l) (rread ki l) := by
  have hw : wrap64 ki = ki := by unfold wrap64; omega
  unfold rread
  refine Ev.congr (f := fun k => if decide (isKind ki) = true then (record_Read.l0 k l (numE ki.toNat) 0 ki ([] : List Int) (⟨#[]⟩ : ByteArray)) else some (0, ([] : List Int), (⟨#[]⟩ : ByteArray), 2)) (fun k => ?_) ?_
  · unfold record_Read.f
    rw [hw, known_f, Option.bind_some, show record_numbers.f = some () from rfl, Option.bind_some]
    by_cases h : isKind ki
    · have h' := h
      unfold isKind at h'
      rw [if_pos (by simp [h]), if_pos (by omega), if_pos (by omega), if_pos (by simp [h])]
    · rw [if_neg (by simp [h]), if_neg (by simp [h])]
  · by_cases h : isKind ki
    · have hn := numE_at ki h
      rw [if_pos h]
      have hc : ((numE ki.toNat).toNat : Int) = numE ki.toNat := by omega
      have := recread_loop ki (numE ki.toNat).toNat (by omega) (numE ki.toNat).toNat 0 l [] (by omega) hb hl (by simp) (by simp)
      refine Ev.congr (fun k => ?_) this
      rw [if_pos (by simp [h]), hc]; rfl
    · rw [if_neg h]
      refine Ev.congr (f := fun _ => some (0, [], (⟨#[]⟩ : ByteArray), 2)) (fun k => ?_) (Ev.now _)
      rw [if_neg (by simp [h])]
end Go.Proofs.Ytojepleodijdeaa.VP
namespace Go.Proofs.Ytojepleodijdeaa.VP
set_option linter.unusedVariables false
set_option linter.unusedSimpArgs false
open Go.RowKit Go.Proofs.Ytojepleodijdeaa.B Go.Proofs.YtojepleodijdeaaW.PrintWords Go.Proofs.YtojepleodijdeaaW.PrintLast Go.Proofs.YtojepleodijdeaaW.PrintMore
def rightR (k : Int) (N : List Int) (t : ByteArray) : Prop := isKind k ∧ (N.length : Int) = numE k.toNat ∧ fit k t.size = true
instance (k : Int) (N : List Int) (t : ByteArray) : Decidable (rightR k N t) := by unfold rightR; infer_instance
theorem right_f (k : Int) (N : List Int) (t : ByteArray) : record_Right.f k N t = some (decide (rightR k N t)) := by
  unfold record_Right.f
  rw [known_f, Option.bind_some]
  by_cases h : isKind k
  · have h2 := h
    unfold isKind at h2
    rw [if_pos (by simp [h]), show record_numbers.f = some () from rfl, Option.bind_some, if_pos (by omega), if_pos (by omega)]
    by_cases hn : (N.length : Int) = numE k.toNat
    · rw [if_pos hn, fits_f, Option.bind_some]
      congr 1
      unfold rightR
      simp [h, hn]
    · rw [if_neg hn]; congr 1; symm; apply decide_eq_false; unfold rightR; simp [hn]
  · rw [if_neg (by simp [h])]; congr 1; symm; apply decide_eq_false; unfold rightR; simp [h]
theorem bytesOf_isB (t : ByteArray) : isB (bytesOf t) := by
  intro x hx
  unfold bytesOf at hx
  obtain ⟨b, _, rfl⟩ := List.mem_map.1 hx
  have := b.toNat_lt
  omega
theorem fit_le {k : Int} {n : Nat} (h : fit k n = true) : n ≤ 64 := by
  unfold fit at h
  have := of_decide_eq_true h
  omega
theorem right_len {k : Int} {N : List Int} {t : ByteArray} (h : rightR k N t) : (vall N ++ bytesOf t).length ≤ 400 ∧ N.length ≤ 10 := by
  obtain ⟨h1, h2, h3⟩ := h
  have h4 := numE_at k h1
  have h5 := fit_le h3
  have h6 := vall_len N
  rw [List.length_append, bytesOf_length]
  omega
theorem recbytes_ev {k : Int} {N : List Int} {t : ByteArray} (hu : isU N) (h : rightR k N t) : Ev (fun n => record_Bytes.f n k N t) (fb k (vall N ++ bytesOf t), 0) := by
  obtain ⟨hl, hN⟩ := right_len h
  have hk := h.1
  unfold isKind at hk
  have hl2 := hl
  rw [List.length_append, bytesOf_length] at hl2
  refine Ev.congr (f := fun n => (vint_All.f n N).bind fun t696 => (if t696.length + t.size < 140737488355328 then ((frame_Bytes.f (k % 256) (t696 ++ bytesOf t)).bind fun bt702 => (some (bt702.1, bt702.2))) else (none))) (fun n => ?_) ?_
  · unfold record_Bytes.f
    rw [right_f, Option.bind_some, if_pos (decide_eq_true h)]
  · refine Ev.bind (f := fun n t696 => (if t696.length + t.size < 140737488355328 then ((frame_Bytes.f (k % 256) (t696 ++ bytesOf t)).bind fun bt702 => (some (bt702.1, bt702.2))) else (none))) (all_ev N hu (by omega)) ?_
    refine Ev.congr (f := fun _ => some (fb k (vall N ++ bytesOf t), 0)) (fun n => ?_) (Ev.now _)
    rw [if_pos (by omega), show k % 256 = k by omega, fbytes_f (by omega) (isB_append (vall_isB hu) (bytesOf_isB t)) hl, Option.bind_some]
theorem recbytes_no (n : Nat) {k : Int} {N : List Int} {t : ByteArray} (h : ¬ rightR k N t) : record_Bytes.f n k N t = some ([], 1) := by
  unfold record_Bytes.f
  rw [right_f, Option.bind_some, if_neg (by simp [h])]
theorem gnums_all : ∀ (N acc rest : List Int), isU N → gnums N.length acc (vall N ++ rest) = (acc ++ N, rest, 0) := by
  intro N
  induction N with
  | nil => intro acc rest _; simp [gnums, vall]
  | cons x N ih =>
    intro acc rest hu
    have hx := hu x (List.mem_cons_self ..)
    have hg := get_put (n := x.toNat) (by omega) (vall N ++ rest)
    rw [List.length_cons, gnums, vall, List.append_assoc, hg]
    dsimp only
    rw [if_pos rfl, Int.toNat_natCast, List.drop_left, show ((x.toNat : Nat) : Int) = x by omega, ih (acc ++ [x]) rest (fun y hy => hu y (List.mem_cons_of_mem _ hy))]
    simp
theorem gnums_inv : ∀ (n : Nat) (acc l : List Int), isB l → (gnums n acc l).2.2 = 0 → ∃ q, (gnums n acc l).1 = acc ++ q ∧ q.length = n ∧ isU q ∧ l = vall q ++ (gnums n acc l).2.1 := by
  intro n
  induction n with
  | zero => intro acc l _ _; exact ⟨[], by simp [gnums], rfl, fun x hx => by simp at hx, by simp [gnums, vall]⟩
  | succ n ih =>
    intro acc l hb h
    rw [gnums] at h ⊢
    by_cases h0 : (gget 0 0 l).2.2 = 0
    · rw [if_pos h0] at h ⊢
      obtain ⟨m, e1, e2, e3, e4, _, e5⟩ := gget_back l 0 0 (gget 0 0 l).1 (gget 0 0 l).2.1 hb (by omega) (Prod.ext rfl (Prod.ext rfl h0))
      obtain ⟨q, h1, h2, h3, h4⟩ := ih _ _ (isB_drop hb _) h
      have em : (gget 0 0 l).1 = (m : Int) := by rw [e1]; simp
      have eu : (gget 0 0 l).2.1.toNat = (vputF 9 m).length := by
        rw [e2, Int.toNat_natCast]; simp
      refine ⟨(gget 0 0 l).1 :: q, ?_, by simp [h2], ?_, ?_⟩
      · rw [h1]; simp
      · intro y hy
        rcases List.mem_cons.1 hy with rfl | hy
        · rw [em]; simp only [Nat.sub_zero] at e5; omega
        · exact h3 y hy
      · rw [vall, List.append_assoc, ← h4, em, Int.toNat_natCast, eu]
        have e3' : l.take (vputF 9 m).length = vputF 9 m := e3
        show l = vputF 9 m ++ l.drop (vputF 9 m).length
        conv => lhs; rw [← List.take_append_drop (vputF 9 m).length l]
        rw [e3']
    · rw [if_neg h0] at h; exact absurd h h0
theorem str_back (t : ByteArray) : strOfNums (bytesOf t) = t := by
  apply ByteArray.ext
  apply Array.ext'
  rw [strOfNums_data]
  unfold bytesOf
  rw [List.map_map]
  conv => rhs; rw [← List.map_id t.data.toList]
  apply List.map_congr_left
  intro b _
  simp
theorem nums_back {l : List Int} (hb : isB l) : bytesOf (strOfNums l) = l := by
  unfold bytesOf
  rw [strOfNums_data, List.map_map]
  conv => rhs; rw [← List.map_id l]
  apply List.map_congr_left
  intro x hx
  have := hb x hx
  simp only [Function.comp, id]
  rw [UInt8.toNat_ofNat']
  omega
theorem rread_back {k : Int} {N : List Int} {t : ByteArray} (hu : isU N) (h : rightR k N t) : rread k (vall N ++ bytesOf t) = (k, N, t, 0) := by
  obtain ⟨h1, h2, h3⟩ := h
  have hn : (numE k.toNat).toNat = N.length := by omega
  unfold rread
  rw [if_pos h1, hn, gnums_all N [] (bytesOf t) hu]
  dsimp only
  rw [if_pos rfl, if_pos (by rw [bytesOf_length]; exact h3), str_back, List.nil_append]
theorem rread_inv {k : Int} {l : List Int} (hb : isB l) (h : (rread k l).2.2.2 = 0) : (rread k l).1 = k ∧ rightR k (rread k l).2.1 (rread k l).2.2.1 ∧ isU (rread k l).2.1 ∧ l = vall (rread k l).2.1 ++ bytesOf (rread k l).2.2.1 := by
  unfold rread at h ⊢
  by_cases h1 : isKind k
  · rw [if_pos h1] at h ⊢
    by_cases h2 : (gnums (numE k.toNat).toNat [] l).2.2 = 0
    · rw [if_pos h2] at h ⊢
      by_cases h3 : fit k (gnums (numE k.toNat).toNat [] l).2.1.length = true
      · rw [if_pos h3]
        obtain ⟨q, e1, e2, e3, e4⟩ := gnums_inv _ [] l hb h2
        have hn := numE_at k h1
        rw [List.nil_append] at e1
        have hb2 : isB (gnums (numE k.toNat).toNat [] l).2.1 := by
          intro x hx
          exact hb x (by rw [e4]; exact List.mem_append_right _ hx)
        dsimp only
        refine ⟨rfl, ⟨h1, by rw [e1]; omega, by rw [strOfNums_size]; exact h3⟩, by rw [e1]; exact e3, ?_⟩
        rw [nums_back hb2, e1]; exact e4
      · rw [if_neg h3] at h; exact absurd h (by decide)
    · rw [if_neg h2] at h; exact absurd h h2
  · rw [if_neg h1] at h; exact absurd h (by decide)
theorem rread_bad {k : Int} {l : List Int} (h : (rread k l).2.2.2 ≠ 0) : (rread k l).1 = 0 ∧ (rread k l).2.1 = [] ∧ (rread k l).2.2.1 = ⟨#[]⟩ := by
  unfold rread at h ⊢
  by_cases h1 : isKind k
  · rw [if_pos h1] at h ⊢
    by_cases h2 : (gnums (numE k.toNat).toNat [] l).2.2 = 0
    · rw [if_pos h2] at h ⊢
      by_cases h3 : fit k (gnums (numE k.toNat).toNat [] l).2.1.length = true
      · rw [if_pos h3] at h; exact absurd rfl h
      · rw [if_neg h3]; exact ⟨rfl, rfl, rfl⟩
    · rw [if_neg h2]; exact ⟨rfl, rfl, rfl⟩
  · rw [if_neg h1]; exact ⟨rfl, rfl, rfl⟩
theorem eq64_loop (l : List Int) (hl : l.length ≤ 1000000) : ∀ (d i : Nat), l.length - i = d → Ev (fun k => slices_Equal_uint64_uint64.l0 k l l (l.length : Int) (i : Int)) true := by
  intro d
  induction d with
  | zero =>
    intro i hd
    refine Ev.step (f := fun _ => some true) (fun k => ?_) (Ev.now _)
    simp only [slices_Equal_uint64_uint64.l0]; rw [if_neg (by omega)]
  | succ d ih =>
    intro i hd
    refine Ev.step (f := fun k => slices_Equal_uint64_uint64.l0 k l l (l.length : Int) ((i + 1 : Nat) : Int)) (fun k => ?_) (ih (i + 1) (by omega))
    simp only [slices_Equal_uint64_uint64.l0]
    rw [if_pos (by omega), if_pos (by omega), if_pos (by omega), if_pos (by omega), if_pos trivial, wrap_succ i (by omega)]
theorem recsame_ev (k : Int) (N : List Int) (t : ByteArray) (hl : N.length ≤ 1000000) : Ev (fun n => record_Same.f n k N t k N t) true := by
  have h1 : Ev (fun n => slices_Equal_uint64_uint64.f n N N) true := by
    have := eq64_loop N hl N.length 0 (by omega)
    simpa [slices_Equal_uint64_uint64.f] using this
  refine Ev.congr (f := fun n => (slices_Equal_uint64_uint64.f n N N).bind fun t691 => (if t691 = true then (some (t.toList == t.toList)) else (some false))) (fun n => ?_) ?_
  · unfold record_Same.f; rw [if_pos rfl]
  · refine Ev.bind (f := fun n t691 => (if t691 = true then (some (t.toList == t.toList)) else (some false))) h1 ?_
    refine Ev.congr (f := fun _ => some true) (fun n => ?_) (Ev.now _)
    rw [if_pos rfl]; simp
end Go.Proofs.Ytojepleodijdeaa.VP
namespace Go.Proofs.Ytojepleodijdeaa.Pure
set_option linter.unusedVariables false
set_option linter.unusedSimpArgs false
open Go.RowKit Go.Proofs.Ytojepleodijdeaa.B Go.Proofs.Ytojepleodijdeaa.VP Go.Proofs.YtojepleodijdeaaW.PrintWords Go.Proofs.YtojepleodijdeaaW.PrintLast Go.Proofs.YtojepleodijdeaaW.PrintMore
theorem empty_list : (⟨#[]⟩ : ByteArray).toList = [] := by
  unfold ByteArray.toList
  rw [ByteArray.toList.loop]
  rfl
theorem back_j1 (xk : Int) (hk : 0 ≤ xk ∧ xk ≤ 255) (xb : List Int) (hb : isB xb) (hl : xb.length ≤ 1200) : Ev (fun k => tumbrellaw05_RecordBack.j1 k false xk xb) true := by
  obtain ⟨K1, h1⟩ := recread_ev hk hb (by omega)
  dsimp only at h1
  by_cases h0 : (rread xk xb).2.2.2 = 0
  · obtain ⟨i1, i2, i3, i4⟩ := rread_inv hb h0
    obtain ⟨K2, h2⟩ := recbytes_ev i3 i2
    have hlen := (right_len i2).1
    have hbb := isB_append (vall_isB i3) (bytesOf_isB (rread xk xb).2.2.1)
    obtain ⟨K3, h3⟩ := read_ev (fb_isB hk hbb hlen) (by rw [fb_len]; omega)
    have hfr := fread_fb (a := xk) hlen []
    rw [List.append_nil] at hfr
    rw [hfr] at h3
    dsimp only at h2 h3
    refine ⟨K1 + K2 + K3 + 1, fun k hk1 => ?_⟩
    obtain ⟨k, rfl⟩ : ∃ m, k = m + 1 := ⟨k - 1, by omega⟩
    dsimp only
    rw [tumbrellaw05_RecordBack.j1, if_neg Bool.false_ne_true, h1 _ (by omega), Option.bind_some, if_pos h0, i1, h2 _ (by omega), Option.bind_some]
    dsimp only
    rw [h3 _ (by omega), Option.bind_some, right_f, Option.bind_some, if_pos (decide_eq_true i2), if_pos rfl]
    dsimp only
    rw [if_pos rfl, ← i4, fsame_f hb hb, Option.bind_some]
    simp
  · obtain ⟨j1, j2, j3⟩ := rread_bad h0
    refine ⟨K1 + 1, fun k hk1 => ?_⟩
    obtain ⟨k, rfl⟩ : ∃ m, k = m + 1 := ⟨k - 1, by omega⟩
    dsimp only
    rw [tumbrellaw05_RecordBack.j1, if_neg Bool.false_ne_true, h1 _ (by omega), Option.bind_some, if_neg h0, if_pos j1, j2, j3, if_pos (by simp), empty_list]
    rfl
theorem back_j0 (rk : Int) (N : List Int) (hu : isU N) (t : ByteArray) (xk : Int) (hk : 0 ≤ xk ∧ xk ≤ 255) (xb : List Int) (hb : isB xb) (hl : xb.length ≤ 1200) : Ev (fun k => tumbrellaw05_RecordBack.j0 k false rk N t xk xb) true := by
  by_cases hr : rightR rk N t
  · obtain ⟨K1, h1⟩ := recbytes_ev hu hr
    obtain ⟨hlen, hN⟩ := right_len hr
    have hrk : 0 ≤ rk ∧ rk ≤ 255 := by have := hr.1; unfold isKind at this; omega
    have hbb := isB_append (vall_isB hu) (bytesOf_isB t)
    obtain ⟨K2, h2⟩ := read_ev (fb_isB hrk hbb hlen) (by rw [fb_len]; omega)
    have hfr := fread_fb (a := rk) hlen []
    rw [List.append_nil] at hfr
    rw [hfr] at h2
    obtain ⟨K3, h3⟩ := recread_ev hrk hbb (by omega)
    rw [rread_back hu hr] at h3
    obtain ⟨K4, h4⟩ := recsame_ev rk N t (by omega)
    obtain ⟨K5, h5⟩ := back_j1 xk hk xb hb hl
    dsimp only at h1 h2 h3 h4 h5
    refine ⟨K1 + K2 + K3 + K4 + K5 + 1, fun k hk1 => ?_⟩
    obtain ⟨k, rfl⟩ : ∃ m, k = m + 1 := ⟨k - 1, by omega⟩
    dsimp only
    rw [tumbrellaw05_RecordBack.j0, if_neg Bool.false_ne_true, h1 _ (by omega), Option.bind_some, right_f, Option.bind_some, if_pos (decide_eq_true hr)]
    dsimp only
    rw [h2 _ (by omega), Option.bind_some]
    dsimp only
    rw [h3 _ (by omega), Option.bind_some, if_pos rfl, if_pos rfl, if_pos (by rw [fb_len]; omega), if_pos rfl]
    dsimp only
    rw [h4 _ (by omega), Option.bind_some]
    exact h5 _ (by omega)
  · refine ⟨1, fun k hk1 => ?_⟩
    obtain ⟨k, rfl⟩ : ∃ m, k = m + 1 := ⟨k - 1, by omega⟩
    dsimp only
    rw [tumbrellaw05_RecordBack.j0, if_neg Bool.false_ne_true, recbytes_no _ hr, Option.bind_some, right_f, Option.bind_some, if_neg (by simp [hr]), if_pos rfl]
    rfl
theorem back_long (rk : Int) (N : List Int) (t : ByteArray) (xk : Int) (xb : List Int) : Ev (fun k => tumbrellaw05_RecordBack.j0 k true rk N t xk xb) true := by
  refine ⟨1, fun k hk1 => ?_⟩
  obtain ⟨k, rfl⟩ : ∃ m, k = m + 1 := ⟨k - 1, by omega⟩
  dsimp only
  rw [tumbrellaw05_RecordBack.j0, if_pos rfl]
theorem RecordBack (rk : Int) (_ : (Lit.int .i64 rk).wf = true) (N : List Int) (_ : N.length ≤ maxLen) (hu : ∀ x ∈ N, (Lit.int .u64 x).wf = true) (t : ByteArray) (xk : Int) (hxk : (Lit.int .u8 xk).wf = true) (xb : List Int) (_ : xb.length ≤ maxLen) (hxb : ∀ x ∈ xb, (Lit.int .u8 x).wf = true) :
    ∃ k, tumbrellaw05_RecordBack.f k rk N t xk xb = some true := by
  have hk : 0 ≤ xk ∧ xk ≤ 255 := isB_of_wf (l := [xk]) (fun y hy => by rw [List.mem_singleton.1 hy]; exact hxk) xk (List.mem_singleton.2 rfl)
  have hb := isB_of_wf hxb
  have huu := isU_of_wf hu
  obtain ⟨K0, h0⟩ := awake5_ev
  dsimp only at h0
  have key : ∃ L, tumbrelref05_Large.f rk N t = some L := by unfold tumbrelref05_Large.f; split <;> exact ⟨_, rfl⟩
  obtain ⟨L, hL⟩ := key
  have main : Ev (fun k => if L = true then (tumbrellaw05_RecordBack.j0 k true rk N t xk xb) else (tumbrellaw05_RecordBack.j0 k (decide ((xb.length : Int) > 1200)) rk N t xk xb)) true := by
    cases L with
    | true => exact Ev.congr (fun k => by rw [if_pos rfl]) (back_long rk N t xk xb)
    | false =>
      by_cases hlong : (xb.length : Int) > 1200
      · exact Ev.congr (fun k => by rw [if_neg Bool.false_ne_true, decide_eq_true hlong]) (back_long rk N t xk xb)
      · exact Ev.congr (fun k => by rw [if_neg Bool.false_ne_true, decide_eq_false hlong]) (back_j0 rk N huu t xk hk xb hb (by omega))
  obtain ⟨K1, h1⟩ := main
  refine ⟨K0 + K1, ?_⟩
  unfold tumbrellaw05_RecordBack.f
  rw [h0 _ (by omega), Option.bind_some, if_pos rfl, hL, Option.bind_some]
  exact h1 _ (by omega)
end Go.Proofs.Ytojepleodijdeaa.Pure
namespace Go.Proofs.Ytojepleodijdeaa.B
open Go Go.ChangeShapes Go.WideShapes Go.ChangeAt Go.RowKit Go.Joins Go.Proofs.YtojepleodijdeaaW.PrintWords Go.Proofs.YtojepleodijdeaaW.PrintLast Go.Proofs.YtojepleodijdeaaW.PrintMore
set_option linter.unusedVariables false
set_option linter.unusedSimpArgs false
variable {H : Type} {enc : TypeId × Value → H} {w : World} {fuel : Nat} {cs : List Value} {x : DataW H × List MemPlace}
theorem cells56 : Try.prog.cellsOf 56 = 2 := by kernel_rfl
end Go.Proofs.Ytojepleodijdeaa.B
namespace Go.Proofs.Ytojepleodijdeaa.B
open Go Go.ChangeShapes Go.WideShapes Go.ChangeAt Go.RowKit Go.Joins Go.Proofs.YtojepleodijdeaaW.PrintWords Go.Proofs.YtojepleodijdeaaW.PrintLast Go.Proofs.YtojepleodijdeaaW.PrintMore
set_option linter.unusedVariables false
set_option linter.unusedSimpArgs false
variable {H : Type} {enc : TypeId × Value → H} {w : World} {fuel : Nat} {cs : List Value} {x : DataW H × List MemPlace}
/-- numbers, opened -/
theorem open_nums (h : DataW.trod enc Try.prog w 0 (fun _ => true) true fuel 32 cs = some x) :
    ∃ (A : Option Addr) (c : Nat) (l : List Int), cs = [.slice A l.length c] ∧ l.length ≤ c ∧ l.length ≤ maxLen ∧ (Kd.int .u64).C w A l.length l ∧ ∀ n ∈ l, (Lit.int .u64 n).wf = true := by
  obtain ⟨a, len, cap, z, hcs, w0⟩ : ∃ (a : Option Addr) (len cap : Nat) (zs : List Int), cs = [.slice a len cap] ∧ ((a = none ∧ len = 0 ∧ cap = 0 ∧ zs = []) ∨
    ∃ x, a = some x ∧ len ≤ cap ∧ cap ≤ maxLen ∧ zs.length = cap ∧ (∀ i, i < zs.length → w.cell? (x.add i) = some (.int .u64 (zs.getD i 0))) ∧ ∀ n ∈ zs, (Lit.int .u64 n).wf = true) := by
    rcases open_ints Try.underlying32 Try.underlying22 (by kernel_rfl) h with ⟨hcs, _⟩ | ⟨x, l, c, zs, hcs, _, hl, hm, hz, _, hcell, hwz⟩
    · exact ⟨none, 0, 0, [], hcs, .inl ⟨rfl, rfl, rfl, rfl⟩⟩
    · exact ⟨some x, l, c, zs, hcs, .inr ⟨_, rfl, hl, hm, by simpa using hz, hcell, hwz⟩⟩
  obtain ⟨l, rfl, hr, hm, hw, hc⟩ := ReadsInt.ofRowC w0
  exact ⟨a, cap, l, hcs, hc, hm, Kd.C_of_reads (d := (0 : Int)) (h1 := fun _ => rfl) hr, hw⟩
theorem cells80 : Try.prog.cellsOf 80 = 3 := by kernel_rfl
end Go.Proofs.Ytojepleodijdeaa.B
