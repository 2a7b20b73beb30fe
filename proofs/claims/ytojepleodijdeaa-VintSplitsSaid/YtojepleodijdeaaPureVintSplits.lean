/- Proved: numbers come back from their bytes (vint.Split of vint.All), and bytes from their numbers, up to 400 of them. No conditions beyond the statement's. -/
import Derived.Test.YtojepleodijdeaaV3
namespace Go.Proofs.Ytojepleodijdeaa.Pure
set_option linter.unusedVariables false
set_option linter.unusedSimpArgs false
open Go.RowKit Go.Proofs.Ytojepleodijdeaa.B Go.Proofs.Ytojepleodijdeaa.VP Go.Proofs.YtojepleodijdeaaW.PrintWords Go.Proofs.YtojepleodijdeaaW.PrintLast Go.Proofs.YtojepleodijdeaaW.PrintMore

theorem awake2t : tumbrellaw02_awake.f 40 = some true := by decide +kernel
theorem awake2t_ev {k : Nat} (h : 40 ≤ k) : tumbrellaw02_awake.f k = some true := at_rounds tumbrellaw02_awake.mono h awake2t

theorem splits_j1 (l1 : List Int) (hb : isB l1) (hl : l1.length ≤ 400) : Ev (fun k => tumbrellaw02_VintSplits.j1 k l1 false) true := by
  obtain ⟨K1, h1⟩ := split_ev l1 hb (by omega)
  dsimp only at h1
  rcases gsplit_back l1.length l1 [] (gsplit l1.length [] l1).1 (gsplit l1.length [] l1).2 (Nat.le_refl _) hb rfl with ⟨hc, hp⟩ | ⟨hc, q, hp, hq, hu, hlen⟩
  · refine ⟨K1 + 1, fun k hk => ?_⟩
    obtain ⟨k, rfl⟩ : ∃ m, k = m + 1 := ⟨k - 1, by omega⟩
    simp only [tumbrellaw02_VintSplits.j1]
    rw [if_neg (by decide), h1 k (by omega)]
    simp only [Option.bind_some]
    rw [if_neg hc, if_pos (by rw [hp]; rfl)]
  · rw [List.nil_append] at hp
    obtain ⟨K2, h2⟩ := all_ev q hu (by omega)
    obtain ⟨K3, h3⟩ := same_ev l1 l1 (by omega)
    dsimp only at h2 h3
    refine ⟨K1 + K2 + K3 + 1, fun k hk => ?_⟩
    obtain ⟨k, rfl⟩ : ∃ m, k = m + 1 := ⟨k - 1, by omega⟩
    simp only [tumbrellaw02_VintSplits.j1]
    rw [if_neg (by decide), h1 k (by omega)]
    simp only [Option.bind_some]
    rw [if_pos hc, hp, h2 k (by omega)]
    simp only [Option.bind_some]
    rw [hq, h3 k (by omega)]
    simp

theorem VintSplits : tumbrellaw02_VintSplits.Pure := by
  intro l0 l1 _ _ hu0 _ _ hb1
  have hU := isU_of_wf hu0
  have hB := isB_of_wf hb1
  by_cases hlong : (l0.length : Int) > 400
  · refine ⟨39 + 1, ?_⟩
    have hA : tumbrellaw02_awake.f (39 + 1) = some true := awake2t
    simp only [tumbrellaw02_VintSplits.f, hA, Option.bind_some, if_true]
    rw [if_pos hlong]
    simp only [tumbrellaw02_VintSplits.j0, if_true]
  by_cases hlong1 : (l1.length : Int) > 400
  · refine ⟨39 + 1, ?_⟩
    have hA : tumbrellaw02_awake.f (39 + 1) = some true := awake2t
    simp only [tumbrellaw02_VintSplits.f, hA, Option.bind_some, if_true]
    rw [if_neg hlong, decide_eq_true hlong1]
    simp only [tumbrellaw02_VintSplits.j0, if_true]
  have hvl := vall_len l0
  obtain ⟨K1, h1⟩ := all_ev l0 hU (by omega)
  obtain ⟨K2, h2⟩ := split_ev (vall l0) (vall_isB hU) (by omega)
  obtain ⟨K3, h3⟩ := same2_ev l0 l0 (by omega)
  obtain ⟨K4, h4⟩ := splits_j1 l1 hB (by omega)
  dsimp only at h1 h2 h3 h4
  rw [gsplit_all l0 _ [] hU (Nat.le_refl _), List.nil_append] at h2
  refine ⟨40 + K1 + K2 + K3 + K4 + 1, ?_⟩
  have hA := awake2t_ev (k := 40 + K1 + K2 + K3 + K4 + 1) (by omega)
  simp only [tumbrellaw02_VintSplits.f, hA, Option.bind_some, if_true]
  rw [if_neg hlong, decide_eq_false hlong1]
  simp only [tumbrellaw02_VintSplits.j0]
  rw [if_neg (by decide), h1 _ (by omega)]
  simp only [Option.bind_some]
  rw [h2 _ (by omega)]
  simp only [Option.bind_some, if_true]
  rw [h3 _ (by omega)]
  simp only [Option.bind_some, decide_true, Bool.not_true]
  exact h4 _ (by omega)
end Go.Proofs.Ytojepleodijdeaa.Pure
