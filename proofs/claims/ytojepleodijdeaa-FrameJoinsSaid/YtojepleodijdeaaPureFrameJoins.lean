/- Proved: the frames of two rows, one behind the other, are those of both, if the first row is whole, for any two rows of up to 1200 bytes. No conditions beyond the statement's. -/
import Derived.Test.YtojepleodijdeaaB18
import Derived.Test.YtojepleodijdeaaF2
namespace Go.Proofs.Ytojepleodijdeaa.Pure
set_option linter.unusedVariables false
set_option linter.unusedSimpArgs false
open Go.RowKit Go.Proofs.Ytojepleodijdeaa.B Go.Proofs.Ytojepleodijdeaa.VP Go.Proofs.YtojepleodijdeaaW.PrintWords Go.Proofs.YtojepleodijdeaaW.PrintLast Go.Proofs.YtojepleodijdeaaW.PrintMore

theorem joins_loop (L : List S56) (hL : ∀ x ∈ L, isB x.f1) (hl : L.length ≤ 1000000000) : ∀ (d i : Nat), L.length - i = d → Ev (fun k => tumbrellaw04_FrameJoins.l0 k L L (L.length : Int) (i : Int)) true := by
  intro d
  induction d with
  | zero =>
    intro i hd
    refine Ev.step (f := fun _ => some true) (fun k => ?_) (Ev.now _)
    simp only [tumbrellaw04_FrameJoins.l0]; rw [if_neg (by omega)]
  | succ d ih =>
    intro i hd
    have h1 : i < L.length := by omega
    have hx : rd_T56 L (i : Int) = L[i] := by unfold rd_T56; simp [h1]
    have hb := hL L[i] (List.getElem_mem h1)
    refine Ev.step (f := fun k => tumbrellaw04_FrameJoins.l0 k L L (L.length : Int) ((i + 1 : Nat) : Int)) (fun k => ?_) (ih (i + 1) (by omega))
    simp only [tumbrellaw04_FrameJoins.l0]
    rw [if_pos (by omega), if_pos (by omega), if_pos (by omega), if_pos (by omega), hx, fsame_f hb hb]
    simp only [and_self, decide_true, Option.bind_some, if_true]
    rw [wrap_succ i (by omega)]

theorem FrameJoins : tumbrellaw04_FrameJoins.Pure := by
  intro l0 l1 _ _ hb0' _ _ hb1'
  have hb0 := isB_of_wf hb0'
  have hb1 := isB_of_wf hb1'
  have hA : tumbrellaw04_awake.f = some true := rfl
  have hlongs : ∀ k x, x = true → tumbrellaw04_FrameJoins.j0 (k + 1) l0 l1 x = some true := by
    intro k x hx; subst hx; simp only [tumbrellaw04_FrameJoins.j0, if_true]
  by_cases hlong : (l0.length : Int) > 1200
  · refine ⟨0 + 1, ?_⟩
    simp only [tumbrellaw04_FrameJoins.f, hA, Option.bind_some, if_true]
    rw [if_pos hlong]
    exact hlongs _ _ rfl
  by_cases hlong1 : (l1.length : Int) > 1200
  · refine ⟨0 + 1, ?_⟩
    simp only [tumbrellaw04_FrameJoins.f, hA, Option.bind_some, if_true]
    rw [if_neg hlong]
    exact hlongs _ _ (decide_eq_true hlong1)
  have hb := isB_append hb0 hb1
  obtain ⟨K1, h1⟩ := fall_ev l0 hb0 (by omega)
  obtain ⟨K2, h2⟩ := fall_ev l1 hb1 (by omega)
  obtain ⟨K3, h3⟩ := fall_ev (l0 ++ l1) hb (by rw [List.length_append]; omega)
  dsimp only at h1 h2 h3
  have g0 := gall_at l0.length l0 (Nat.le_refl _) hb0
  have g1 := gall_at l1.length l1 (Nat.le_refl _) hb1
  by_cases he : (gall l0.length l0).2.2 = 0
  · have ha := gall_append l0.length l0 l1 (Nat.le_refl _) hb0 hb1 he
    rw [← List.length_append] at ha
    rw [ha] at h3
    dsimp only at h3
    have hall : ∀ x ∈ (gall l0.length l0).1 ++ (gall l1.length l1).1, isB x.f1 := fun x hx => (List.mem_append.1 hx).elim (fun h => (gall_isB _ _ hb0 x h).1) (fun h => (gall_isB _ _ hb1 x h).1)
    obtain ⟨K4, h4⟩ := joins_loop ((gall l0.length l0).1 ++ (gall l1.length l1).1) hall (by rw [List.length_append]; omega) _ 0 rfl
    dsimp only at h4
    have hat : (gall l0.length l0).2.1 = l0.length := g0.2.2.1 he
    refine ⟨(K1 + K2 + K3 + K4 + 1) + 1, ?_⟩
    simp only [tumbrellaw04_FrameJoins.f, hA, Option.bind_some, if_true]
    rw [if_neg hlong, decide_eq_false hlong1]
    simp only [tumbrellaw04_FrameJoins.j0]
    rw [if_neg (by decide), h1 _ (by omega), Option.bind_some, h2 _ (by omega), Option.bind_some]
    dsimp only
    rw [if_pos he]
    simp only [Option.bind_some, List.nil_append, List.length_nil]
    rw [if_pos (by omega), if_pos (by omega), h3 _ (by omega)]
    simp only [Option.bind_some, if_true]
    rw [if_pos (by unfold wrap64; omega), if_pos (by omega)]
    have hne : (((((gall l0.length l0).1 ++ (gall l1.length l1).1).length : Nat) : Int) != wrap64 (((gall l0.length l0).1.length : Int) + ((gall l1.length l1).1.length : Int))) = false := by
      rw [List.length_append]
      have : wrap64 (((gall l0.length l0).1.length : Int) + ((gall l1.length l1).1.length : Int)) = (((gall l0.length l0).1.length + (gall l1.length l1).1.length : Nat) : Int) := by unfold wrap64; omega
      rw [this]; simp
    rw [hne]
    simp only [tumbrellaw04_FrameJoins.j1]
    rw [if_neg (by decide)]
    simp only [Option.bind_some, List.nil_append, List.length_nil]
    rw [if_pos (by omega), if_pos (by omega)]
    exact h4 _ (by omega)
  · refine ⟨(K1 + K2 + 1), ?_⟩
    simp only [tumbrellaw04_FrameJoins.f, hA, Option.bind_some, if_true]
    rw [if_neg hlong, decide_eq_false hlong1]
    simp only [tumbrellaw04_FrameJoins.j0]
    rw [if_neg (by decide), h1 _ (by omega), Option.bind_some, h2 _ (by omega), Option.bind_some]
    dsimp only
    rw [if_neg he]
    have : (gall l0.length l0).2.1 < l0.length := by
      rcases Nat.lt_or_ge (gall l0.length l0).2.1 l0.length with h | h
      · exact h
      · exact absurd (g0.2.2.2 (by omega)) he
    simp
    exact this
end Go.Proofs.Ytojepleodijdeaa.Pure
