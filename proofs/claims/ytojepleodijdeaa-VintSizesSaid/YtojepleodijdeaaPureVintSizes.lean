/- Proved: of any two numbers of 64 bits the lesser has no more bytes, and a number of 128 or more has one byte more than its 128th part. No conditions. -/
import Derived.Test.YtojepleodijdeaaB10
import Derived.Test.YtojepleodijdeaaV2
namespace Go.Proofs.Ytojepleodijdeaa.Pure
set_option linter.unusedVariables false
set_option linter.unusedSimpArgs false
open Go.RowKit Go.Proofs.Ytojepleodijdeaa.B Go.Proofs.Ytojepleodijdeaa.VP Go.Proofs.YtojepleodijdeaaW.PrintWords Go.Proofs.YtojepleodijdeaaW.PrintLast Go.Proofs.YtojepleodijdeaaW.PrintMore

theorem awake2s : tumbrellaw02_awake.f 40 = some true := by decide +kernel

theorem vputF_len_mono (k : Nat) : ∀ n m, n ≤ m → (vputF k n).length ≤ (vputF k m).length := by
  induction k with
  | zero => intro n m h; simp [vputF]
  | succ k ih =>
    intro n m h
    unfold vputF
    by_cases h1 : n < 128
    · rw [if_pos h1]
      have := vputF_length (k + 1) m
      unfold vputF at this
      simp only [List.length_singleton]
      exact this.1
    · rw [if_neg h1, if_neg (by omega)]
      have := ih (n / 128) (m / 128) (Nat.div_le_div_right h)
      simp only [List.length_cons]
      omega
theorem vputF_more (k j : Nat) : ∀ n, n < 128 ^ (k + 1) → vputF (k + j) n = vputF k n := by
  induction k with
  | zero =>
    intro n h
    cases j with
    | zero => rfl
    | succ j => simp only [Nat.zero_add, vputF]; rw [if_pos (by omega)]
  | succ k ih =>
    intro n h
    rw [show k + 1 + j = (k + j) + 1 by omega]
    unfold vputF
    split
    · rfl
    · rw [ih _ (by rw [Nat.div_lt_iff_lt_mul (by decide)]; rw [Nat.pow_succ] at h; exact h)]
theorem vput_eq (n : Nat) : vput n = if n < 128 then [(n : Int)] else ((n % 128 + 128 : Nat) : Int) :: vputF 8 (n / 128) := rfl
theorem vput_eight {m : Nat} (h : m < 9223372036854775808) : vput m = vputF 8 m := vputF_more 8 1 m (by have e : 128 ^ (8 + 1) = 9223372036854775808 := by decide
                                                                                                        rw [e]; exact h)
theorem vput_step {n : Nat} (h : 128 ≤ n) (hn : n < 18446744073709551616) : (vput n).length = (vput (n / 128)).length + 1 := by
  rw [vput_eq n, if_neg (by omega), List.length_cons, vput_eight (by omega)]
theorem vput_one {n : Nat} (h : n < 128) : (vput n).length = 1 := by
  rw [vput_eq, if_pos h]; rfl

theorem size_f {n : Nat} (h : n < 18446744073709551616) : vint_Size.f (n : Int) = some ((vput n).length : Int) := by
  have p0 := vput_f (a := (n : Int)) (by omega) (by omega)
  rw [Int.toNat_natCast] at p0
  simp only [vint_Size.f, p0, Option.bind_some]
theorem tdiv_128 {n : Nat} (h : n < 18446744073709551616) : IntKind.u64.wrap (Int.tdiv (n : Int) 128) = ((n / 128 : Nat) : Int) := by
  rw [Int.tdiv_eq_ediv_of_nonneg (by omega), wraps_u64 _ (by omega) (by omega)]
  omega
theorem wrap_len {a b : Nat} (h : a = b + 1) (ha : a ≤ 10) : wrap64 ((b : Int) + 1) = (a : Int) := by
  subst h; unfold wrap64; omega
theorem sizes_j0 {n : Nat} (hn : n < 18446744073709551616) (k : Nat) : tumbrellaw02_VintSizes.j0 (k + 1) (n : Int) false = some true := by
  have hl : 1 ≤ (vput n).length ∧ (vput n).length ≤ 10 := vputF_length 9 n
  have s0 := size_f hn
  simp only [tumbrellaw02_VintSizes.j0]
  rw [if_neg (by decide)]
  by_cases h : (n : Int) < 128
  · have e1 : ((vput n).length : Int) = 1 := by have := vput_one (n := n) (by omega); omega
    rw [if_pos h, s0, e1]
    rfl
  · rw [if_neg h, if_pos (by omega), s0, tdiv_128 hn, size_f (n := n / 128) (by omega)]
    simp only [Option.bind_some]
    rw [wrap_len (vput_step (n := n) (by omega) hn) hl.2]
    simp
theorem ne_self (a : Int) : (a != a) = false := by simp

theorem VintSizes : tumbrellaw02_VintSizes.Pure := by
  intro a0 a1 h0 h1
  have r0 := wf_u64 h0
  have r1 := wf_u64 h1
  obtain ⟨n, rfl⟩ := Int.eq_ofNat_of_zero_le r0.1
  obtain ⟨m, rfl⟩ := Int.eq_ofNat_of_zero_le r1.1
  have hn : n < 18446744073709551616 := by omega
  have hm : m < 18446744073709551616 := by omega
  have p0 := vput_f (a := (n : Int)) (by omega) (by omega)
  rw [Int.toNat_natCast] at p0
  have s0 := size_f hn
  have s1 := size_f hm
  have hj := sizes_j0 hn 39
  refine ⟨39 + 1, ?_⟩
  have hA : tumbrellaw02_awake.f (39 + 1) = some true := awake2s
  simp only [tumbrellaw02_VintSizes.f]
  rw [hA, s0, s1, p0]
  simp only [Option.bind_some, if_true]
  by_cases h : (n : Int) ≤ m
  · have hle := vputF_len_mono 9 n m (by omega)
    rw [if_pos h, if_neg (fun hh => by have e1 : (vputF 9 n).length = (vput n).length := rfl; have e2 : (vputF 9 m).length = (vput m).length := rfl; omega), ne_self]
    exact hj
  · rw [if_neg h, ne_self]
    exact hj
end Go.Proofs.Ytojepleodijdeaa.Pure
