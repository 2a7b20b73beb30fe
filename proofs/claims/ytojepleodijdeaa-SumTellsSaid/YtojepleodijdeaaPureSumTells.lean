/- Proved: the program's sums, of any bytes, of more behind any sum, with the sum and without it, and the table, are those of the document's reference, for any row of up to 600 bytes and any number. No conditions beyond the statement's. -/
import Derived.Test.YtojepleodijdeaaBT
import Derived.Test.YtojepleodijdeaaC2
namespace Go.Proofs.Ytojepleodijdeaa.Pure
set_option linter.unusedVariables false
set_option linter.unusedSimpArgs false
open Go.RowKit Go.Proofs.Ytojepleodijdeaa.B Go.Proofs.Ytojepleodijdeaa.VP Go.Proofs.YtojepleodijdeaaW.PrintWords Go.Proofs.YtojepleodijdeaaW.PrintLast Go.Proofs.YtojepleodijdeaaW.PrintMore

theorem rentry_tab (j : Nat) (hj : j < 256) : Ev (fun k => tumbrelref01_Entry.f k (j : Int)) (tabE j) := by
  have := rentry_ev (BitVec.ofNat 32 j)
  rwa [show w32 (BitVec.ofNat 32 j) = (j : Int) by unfold w32; rw [BitVec.toNat_ofNat]; omega] at this

theorem wfu32 {a : Int} (h : (Lit.int .u32 a).wf = true) : 0 ≤ a ∧ a < 4294967296 := by
  simp [Lit.wf, IntKind.min, IntKind.max, IntKind.signed, IntKind.bits] at h
  omega

theorem SumTells : tumbrellaw01_SumTells.Pure := by
  intro a0 l1 ha0 _ _ hb1'
  have hb1 := isB_of_wf hb1'
  have r0 := wfu32 ha0
  have hA : tumbrellaw01_awake.f = some true := rfl
  by_cases hlong : (l1.length : Int) > 600
  · refine ⟨0, ?_⟩
    simp only [tumbrellaw01_SumTells.f, hA, Option.bind_some, if_true]
    rw [if_pos hlong]
  have hle : l1.length ≤ 1000000000 := by omega
  have hpl := putL_len l1
  obtain ⟨K1, h1⟩ := cut_ev hb1 hle
  obtain ⟨K2, h2⟩ := rcut_ev hb1 hle
  obtain ⟨K3, h3⟩ := rof_ev hb1 hle
  obtain ⟨K4, h4⟩ := rmore_ev r0 hb1 hle
  obtain ⟨K5, h5⟩ := rput_ev1 hb1 hle
  obtain ⟨K6, h6⟩ := same_ev (putL l1) (putL l1) (by omega)
  have hxl : (cutL l1).1.length ≤ l1.length := by unfold cutL; split <;> (try split) <;> simp <;> omega
  obtain ⟨K7, h7⟩ := same_ev (cutL l1).1 (cutL l1).1 (by omega)
  have ht : Int.tmod a0 256 = a0 % 256 := Int.tmod_eq_emod_of_nonneg r0.1
  obtain ⟨j, hj⟩ : ∃ j : Nat, Int.tmod a0 256 = (j : Int) := Int.eq_ofNat_of_zero_le (by rw [ht]; omega)
  have hj2 : j < 256 := by rw [ht] at hj; omega
  obtain ⟨K8, h8⟩ := rentry_tab j hj2
  dsimp only at h1 h2 h3 h4 h5 h6 h7 h8
  have hT : sum_Table.f = some () := rfl
  refine ⟨K1 + K2 + K3 + K4 + K5 + K6 + K7 + K8, ?_⟩
  simp only [tumbrellaw01_SumTells.f, hA, Option.bind_some, if_true]
  rw [if_neg hlong, h1 _ (by omega), Option.bind_some, h2 _ (by omega), Option.bind_some, of_f hb1, Option.bind_some, h3 _ (by omega), Option.bind_some, if_pos rfl, more_f r0 hb1, Option.bind_some, h4 _ (by omega), Option.bind_some, if_pos rfl, put_f hb1 hle, Option.bind_some, h5 _ (by omega), Option.bind_some, h6 _ (by omega), Option.bind_some, if_pos (by simp), h7 _ (by omega), Option.bind_some, if_pos (by simp), if_pos (by simp), hT, Option.bind_some, hj, if_pos (by omega), if_pos (by omega), h8 _ (by omega), Option.bind_some, Int.toNat_natCast]
  simp
end Go.Proofs.Ytojepleodijdeaa.Pure
