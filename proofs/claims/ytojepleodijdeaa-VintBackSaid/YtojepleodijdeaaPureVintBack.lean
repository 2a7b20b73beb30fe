/- Proved: for every number, every row of up to 400 bytes behind its bytes and every cut, vint.Get gives the number back from its bytes, and a beginning of them is too short. No conditions beyond those of the given statement. -/
import Derived.Test.YtojepleodijdeaaB10
import Derived.Test.YtojepleodijdeaaV2
namespace Go.Proofs.Ytojepleodijdeaa.Pure
set_option linter.unusedVariables false
set_option linter.unusedSimpArgs false
open Go.RowKit Go.Proofs.Ytojepleodijdeaa.B Go.Proofs.Ytojepleodijdeaa.VP Go.Proofs.YtojepleodijdeaaW.PrintWords Go.Proofs.YtojepleodijdeaaW.PrintLast Go.Proofs.YtojepleodijdeaaW.PrintMore

theorem awake2 : tumbrellaw02_awake.f 40 = some true := by decide +kernel
theorem awake2_ev {k : Nat} (h : 40 ≤ k) : tumbrellaw02_awake.f k = some true := at_rounds tumbrellaw02_awake.mono h awake2

theorem VintBack : tumbrellaw02_VintBack.Pure := by
  intro a0 l1 a2 ha hl1 _ hb1 hc
  have hr := wf_u64 ha
  have hB := isB_of_wf hb1
  by_cases hlong : (l1.length : Int) > 400
  · exact ⟨40, by simp only [tumbrellaw02_VintBack.f, awake2, Option.bind_some, if_true]; rw [if_pos hlong]⟩
  have hput := vput_f hr.1 hr.2
  obtain ⟨n, rfl⟩ := Int.eq_ofNat_of_zero_le hr.1
  rw [Int.toNat_natCast] at hput
  have hn : n < 18446744073709551616 := by omega
  have hlen := vputF_length 9 n
  have hlv : 1 ≤ (vput n).length ∧ (vput n).length ≤ 10 := hlen
  obtain ⟨K1, h1⟩ := get_ev (vput n ++ l1) (isB_append (vput_isB hn) hB) (by rw [List.length_append]; omega)
  obtain ⟨K2, h2⟩ := get_ev ((vput n).take a2.toNat) (isB_take (vput_isB hn) _) (by rw [List.length_take]; omega)
  rw [get_put hn] at h1; dsimp only at h1 h2
  refine ⟨40 + K1 + K2 + 1, ?_⟩
  have hA := awake2_ev (k := 40 + K1 + K2 + 1) (by omega)
  simp only [tumbrellaw02_VintBack.f, hA, hput, Option.bind_some, if_true, List.nil_append, List.length_nil, Nat.zero_add]
  rw [if_neg hlong, if_pos (by omega), if_pos (by omega), h1 _ (by omega)]
  simp only [Option.bind_some, if_true]
  rw [if_neg (by omega), show decide (((vput n).length : Int) > 10) = false from decide_eq_false (by omega)]
  simp only [tumbrellaw02_VintBack.j0]
  rw [if_neg (by decide)]
  by_cases c1 : a2 < 0
  · rw [if_pos c1]
  rw [if_neg c1]
  by_cases c2 : a2 ≥ ((vput n).length : Int)
  · rw [if_pos c2]
  rw [if_neg c2, if_pos (by omega), if_pos (by omega), h2 _ (by omega)]
  have hcut := gget_cut 9 n 0 0 a2.toNat (by omega) (by have : (vputF 9 n).length = (vput n).length := rfl; omega)
  rw [show gget 0 0 ((vput n).take a2.toNat) = (0, 0, 3) from hcut]
  rfl
end Go.Proofs.Ytojepleodijdeaa.Pure
