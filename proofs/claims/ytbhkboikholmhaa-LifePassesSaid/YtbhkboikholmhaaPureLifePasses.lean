/- Proved: time that passes in parts is time that passes at once, and a lease that has ended has ended, for any life, any two times of which the second is not earlier, and any number most. No conditions beyond the statement's. -/
import Derived.Test.YtbhkboikholmhaaB5
namespace Go.Proofs.Ytbhkboikholmhaa.Pure
set_option linter.unusedVariables false
set_option linter.unusedSimpArgs false
open Go.RowKit Go.Proofs.Ytbhkboikholmhaa.B Go.Proofs.YtbhkboikholmhaaW.PrintWords Go.Proofs.YtbhkboikholmhaaW.PrintLast Go.Proofs.YtbhkboikholmhaaW.PrintMore

theorem pass_pass (s c d t now later most : Int) (h : now ≤ later) (x1 x2 x3 x4 : Int) (h1 : life_Life_Pass.f s c d t now most = some (x1, x2, x3, x4)) (hd : 0 ≤ later) :
    life_Life_Pass.f x1 x2 x3 x4 later most = life_Life_Pass.f s c d t later most := by
  unfold life_Life_Pass.f at h1 ⊢
  by_cases e1 : d > now
  · rw [if_pos e1] at h1
    simp only [Option.some.injEq, Prod.mk.injEq] at h1
    obtain ⟨rfl, rfl, rfl, rfl⟩ := h1
    rfl
  rw [if_neg e1] at h1
  have e2 : ¬ d > later := by omega
  by_cases e3 : s = 2
  · rw [if_pos e3] at h1
    simp only [Option.some.injEq, Prod.mk.injEq] at h1
    obtain ⟨rfl, rfl, rfl, rfl⟩ := h1
    rw [if_neg (by omega), if_neg (by decide), if_neg (by decide), if_neg e2, if_pos e3]
  rw [if_neg e3] at h1
  by_cases e4 : s = 3
  · rw [if_pos e4] at h1
    by_cases e5 : c ≥ most
    · rw [if_pos e5] at h1
      simp only [Option.some.injEq, Prod.mk.injEq] at h1
      obtain ⟨rfl, rfl, rfl, rfl⟩ := h1
      rw [if_neg (by omega), if_neg (by decide), if_neg (by decide), if_neg e2, if_neg e3, if_pos e4, if_pos e5]
    · rw [if_neg e5] at h1
      simp only [Option.some.injEq, Prod.mk.injEq] at h1
      obtain ⟨rfl, rfl, rfl, rfl⟩ := h1
      rw [if_neg (by omega), if_neg (by decide), if_neg (by decide), if_neg e2, if_neg e3, if_pos e4, if_neg e5]
  · rw [if_neg e4] at h1
    simp only [Option.some.injEq, Prod.mk.injEq] at h1
    obtain ⟨rfl, rfl, rfl, rfl⟩ := h1
    rfl
theorem pass_some (s c d t now most : Int) : ∃ x1 x2 x3 x4, life_Life_Pass.f s c d t now most = some (x1, x2, x3, x4) := by
  unfold life_Life_Pass.f
  repeat' split
  all_goals exact ⟨_, _, _, _, rfl⟩
theorem ended_eq (s c d t most : Int) : life_Life_ended.f s c d t most = some ((if c ≥ most then 4 else 1), c, 0, 0) := by
  unfold life_Life_ended.f
  split <;> rfl
theorem LifePasses (a0_0 : Int) (_ : (Lit.int .i64 a0_0).wf = true) (a0_1 : Int) (_ : (Lit.int .i64 a0_1).wf = true) (a0_2 : Int) (_ : (Lit.int .u64 a0_2).wf = true) (a0_3 : Int) (_ : (Lit.int .u64 a0_3).wf = true) (a1 : Int) (_ : (Lit.int .u64 a1).wf = true) (a2 : Int) (h2 : (Lit.int .u64 a2).wf = true) (a3 : Int) (_ : (Lit.int .i64 a3).wf = true) : tumbrellaw09_LifePasses.f a0_0 a0_1 a0_2 a0_3 a1 a2 a3 = some true := by
  have r2 : 0 ≤ a2 := by
    simp [Lit.wf, IntKind.min, IntKind.max, IntKind.signed, IntKind.bits] at h2
    omega
  unfold tumbrellaw09_LifePasses.f
  rw [show tumbrellaw09_awake.f = some true from rfl, Option.bind_some, if_pos rfl]
  by_cases e0 : a1 > a2
  · rw [if_pos e0]
  rw [if_neg e0]
  obtain ⟨x1, x2, x3, x4, hx⟩ := pass_some a0_0 a0_1 a0_2 a0_3 a1 a3
  obtain ⟨y1, y2, y3, y4, hy⟩ := pass_some a0_0 a0_1 a0_2 a0_3 a2 a3
  rw [hx, Option.bind_some]
  dsimp only
  rw [pass_pass a0_0 a0_1 a0_2 a0_3 a1 a2 a3 (by omega) x1 x2 x3 x4 hx r2, hy, Option.bind_some, Option.bind_some, if_pos (by simp)]
  by_cases e3 : a0_0 = 3
  · have hr : life_Life_Reset.f a0_0 a0_1 a0_2 a0_3 a3 = some ((if a0_1 ≥ a3 then 4 else 1), a0_1, 0, 0) := by
      unfold life_Life_Reset.f
      rw [if_pos e3, ended_eq]; rfl
    have hr2 : life_Life_Reset.f (if a0_1 ≥ a3 then 4 else 1) a0_1 0 0 a3 = some ((if a0_1 ≥ a3 then 4 else 1), a0_1, 0, 0) := by
      unfold life_Life_Reset.f
      rw [if_neg (by split <;> decide)]
    have hp : life_Life_Pass.f a0_0 a0_1 a0_2 a0_3 (mx a1 a0_2) a3 = some ((if a0_1 ≥ a3 then 4 else 1), a0_1, 0, 0) := by
      unfold life_Life_Pass.f
      rw [if_neg (by unfold mx; split <;> omega), if_neg (by omega), if_pos e3]
      split <;> rfl
    rw [hr, Option.bind_some]
    dsimp only
    rw [hr2, Option.bind_some, Option.bind_some, if_pos (by simp), if_pos e3, Option.bind_some, hp, Option.bind_some]
    simp
  · have hr : life_Life_Reset.f a0_0 a0_1 a0_2 a0_3 a3 = some (a0_0, a0_1, a0_2, a0_3) := by
      unfold life_Life_Reset.f
      rw [if_neg e3]
    rw [hr, Option.bind_some, hr, Option.bind_some, Option.bind_some, if_pos (by simp), if_neg e3]
end Go.Proofs.Ytbhkboikholmhaa.Pure
