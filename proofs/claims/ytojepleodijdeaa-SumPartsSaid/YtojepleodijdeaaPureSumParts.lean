/- Proved: sums of parts, one behind the other, are that of all, and what has its sum behind it comes back, for any two rows of up to 600 bytes. No conditions beyond the statement's. -/
import Derived.Test.YtojepleodijdeaaB14
import Derived.Test.YtojepleodijdeaaC2
namespace Go.Proofs.Ytojepleodijdeaa.Pure
set_option linter.unusedVariables false
set_option linter.unusedSimpArgs false
open Go.RowKit Go.Proofs.Ytojepleodijdeaa.B Go.Proofs.Ytojepleodijdeaa.VP Go.Proofs.YtojepleodijdeaaW.PrintWords Go.Proofs.YtojepleodijdeaaW.PrintLast Go.Proofs.YtojepleodijdeaaW.PrintMore

theorem SumParts : tumbrellaw01_SumParts.Pure := by
  intro l0 l1 _ _ hb0' _ _ hb1'
  have hb0 := isB_of_wf hb0'
  have hb1 := isB_of_wf hb1'
  have hA : tumbrellaw01_awake.f = some true := rfl
  have hlongs : ∀ k x, x = true → tumbrellaw01_SumParts.j0 (k + 1) l0 l1 x = some true := by
    intro k x hx; subst hx; simp only [tumbrellaw01_SumParts.j0, if_true]
  by_cases hlong : (l0.length : Int) > 600
  · refine ⟨0 + 1, ?_⟩
    simp only [tumbrellaw01_SumParts.f, hA, Option.bind_some, if_true]
    rw [if_pos hlong]
    exact hlongs _ _ rfl
  by_cases hlong1 : (l1.length : Int) > 600
  · refine ⟨0 + 1, ?_⟩
    simp only [tumbrellaw01_SumParts.f, hA, Option.bind_some, if_true]
    rw [if_neg hlong]
    exact hlongs _ _ (decide_eq_true hlong1)
  have hb := isB_append hb0 hb1
  have hl : (l0 ++ l1).length ≤ 1200 := by rw [List.length_append]; omega
  have hp := put_f hb (by omega)
  have hpl := putL_len (l0 ++ l1)
  obtain ⟨K1, h1⟩ := cut_ev (putL_isB hb) (by omega)
  obtain ⟨K2, h2⟩ := same_ev (l0 ++ l1) (l0 ++ l1) (by omega)
  dsimp only at h1 h2
  rw [cutL_put] at h1
  refine ⟨K1 + K2 + 1, ?_⟩
  simp only [tumbrellaw01_SumParts.f, hA, Option.bind_some, if_true]
  rw [if_neg hlong, decide_eq_false hlong1]
  simp only [tumbrellaw01_SumParts.j0, Option.bind_some, List.nil_append, List.length_nil]
  rw [if_neg (by decide), if_pos (by omega), if_pos (by omega), hp]
  simp only [Option.bind_some]
  rw [h1 _ (by omega), Option.bind_some, of_f hb0, Option.bind_some, more_f (ofL_lt l0) hb1, Option.bind_some, of_f hb, Option.bind_some, moreL_append, if_pos rfl]
  simp only [if_true]
  rw [h2 _ (by omega)]
  simp only [Option.bind_some, decide_true, if_true]
  have hw : wrap64 (((l0 ++ l1).length : Int) + 4) = ((putL (l0 ++ l1)).length : Int) := by rw [hpl]; unfold wrap64; omega
  rw [hw]
  simp
end Go.Proofs.Ytojepleodijdeaa.Pure
