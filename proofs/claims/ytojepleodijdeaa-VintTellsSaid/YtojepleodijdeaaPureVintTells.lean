/- Proved: vint's Put, Size, Get, Split and All tell what the document's reference tells, for every number, every row of bytes and every row of numbers up to 400. No conditions beyond the statement's. -/
import Derived.Test.YtojepleodijdeaaV4
namespace Go.Proofs.Ytojepleodijdeaa.Pure
set_option linter.unusedVariables false
set_option linter.unusedSimpArgs false
open Go.RowKit Go.Proofs.Ytojepleodijdeaa.B Go.Proofs.Ytojepleodijdeaa.VP Go.Proofs.YtojepleodijdeaaW.PrintWords Go.Proofs.YtojepleodijdeaaW.PrintLast Go.Proofs.YtojepleodijdeaaW.PrintMore

theorem awake2u : tumbrellaw02_awake.f 40 = some true := by decide +kernel
theorem awake2u_ev {k : Nat} (h : 40 ≤ k) : tumbrellaw02_awake.f k = some true := at_rounds tumbrellaw02_awake.mono h awake2u

theorem VintTells : tumbrellaw02_VintTells.Pure := by
  intro a0 l1 l2 ha _ _ hb1 _ _ hu2
  have hr := wf_u64 ha
  have hU := isU_of_wf hu2
  have hB := isB_of_wf hb1
  have hlongs : ∀ x, x = true → tumbrellaw02_VintTells.j0 (39 + 1) a0 l1 l2 x = some true := by
    intro x hx; subst hx; simp only [tumbrellaw02_VintTells.j0, if_true]
  by_cases hlong : (l1.length : Int) > 400
  · refine ⟨39 + 1, ?_⟩
    have hA : tumbrellaw02_awake.f (39 + 1) = some true := awake2u
    simp only [tumbrellaw02_VintTells.f, hA, Option.bind_some, if_true]
    rw [if_pos hlong]
    exact hlongs _ rfl
  by_cases hlong1 : (l2.length : Int) > 400
  · refine ⟨39 + 1, ?_⟩
    have hA : tumbrellaw02_awake.f (39 + 1) = some true := awake2u
    simp only [tumbrellaw02_VintTells.f, hA, Option.bind_some, if_true]
    rw [if_neg hlong, decide_eq_true hlong1]
    exact hlongs _ rfl
  have hvl := vall_len l2
  have hv := vput_len a0.toNat
  have hput := vput_f' hr
  obtain ⟨K1, h1⟩ := get_ev l1 hB (by omega)
  obtain ⟨K2, h2⟩ := rget_ev l1 hB (by omega)
  obtain ⟨K3, h3⟩ := split_ev l1 hB (by omega)
  obtain ⟨K4, h4⟩ := rsplit_ev l1 hB (by omega)
  obtain ⟨K5, h5⟩ := rput_ev hr
  obtain ⟨K6, h6⟩ := same_ev (vput a0.toNat) (vput a0.toNat) (by omega)
  have hgl : ((gsplit l1.length [] l1).1).length ≤ 140737488355328 := by
    rcases gsplit_back l1.length l1 [] (gsplit l1.length [] l1).1 (gsplit l1.length [] l1).2 (Nat.le_refl _) hB rfl with ⟨_, hp⟩ | ⟨_, q, hp, _, _, hlen⟩
    · rw [hp]; simp
    · rw [hp]; simp only [List.nil_append]; omega
  obtain ⟨K7, h7⟩ := same2_ev (gsplit l1.length [] l1).1 (gsplit l1.length [] l1).1 hgl
  obtain ⟨K8, h8⟩ := all_ev l2 hU (by omega)
  obtain ⟨K9, h9⟩ := rall_ev l2 hU (by omega)
  obtain ⟨K10, h10⟩ := same_ev (vall l2) (vall l2) (by omega)
  dsimp only at h1 h2 h3 h4 h5 h6 h7 h8 h9 h10
  refine ⟨40 + K1 + K2 + K3 + K4 + K5 + K6 + K7 + K8 + K9 + K10 + 1, ?_⟩
  have hA := awake2u_ev (k := 40 + K1 + K2 + K3 + K4 + K5 + K6 + K7 + K8 + K9 + K10 + 1) (by omega)
  simp only [tumbrellaw02_VintTells.f, hA, Option.bind_some, if_true]
  rw [if_neg hlong, decide_eq_false hlong1]
  simp only [tumbrellaw02_VintTells.j0]
  rw [if_neg (by decide), h1 _ (by omega), h2 _ (by omega), h3 _ (by omega), h4 _ (by omega), hput, h5 _ (by omega)]
  simp only [Option.bind_some]
  rw [h6 _ (by omega)]
  simp only [Option.bind_some, decide_true, if_true, vint_Size.f, hput]
  rw [h7 _ (by omega)]
  simp only [Option.bind_some, decide_true, if_true]
  rw [h8 _ (by omega), h9 _ (by omega)]
  simp only [Option.bind_some]
  rw [h10 _ (by omega)]
  simp
end Go.Proofs.Ytojepleodijdeaa.Pure
