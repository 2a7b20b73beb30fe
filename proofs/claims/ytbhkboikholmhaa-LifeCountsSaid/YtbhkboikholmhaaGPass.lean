/- By hand: life.Pass (a method value). -/
import Derived.Test.YtbhkboikholmhaaB0
namespace Go.Proofs.Ytbhkboikholmhaa.B
open Go.RowKit Go.Proofs.YtbhkboikholmhaaW.PrintWords Go.Proofs.YtbhkboikholmhaaW.PrintLast Go.Proofs.YtbhkboikholmhaaW.PrintMore
set_option linter.unusedVariables false
set_option linter.unusedSimpArgs false

def life_Life_Pass.f (a0_0 : Int) (a0_1 : Int) (a0_2 : Int) (a0_3 : Int) (a1 : Int) (a2 : Int) : Option (Int × Int × Int × Int) :=
  if a0_2 > a1 then some (a0_0, a0_1, a0_2, a0_3) else if a0_0 = 2 then some (1, a0_1, 0, a0_3) else if a0_0 = 3 then (if a0_1 ≥ a2 then some (4, a0_1, 0, 0) else some (1, a0_1, 0, 0)) else some (a0_0, a0_1, a0_2, a0_3)
set_option maxRecDepth 100000 in
set_option maxHeartbeats 1000000 in
theorem life_Life_Pass.calls (a0_0 : Int) (a0_1 : Int) (a0_2 : Int) (a0_3 : Int) (a1 : Int) (a2 : Int) (r1 : Int) (r2 : Int) (r3 : Int) (r4 : Int) (w : World) (h : life_Life_Pass.f a0_0 a0_1 a0_2 a0_3 a1 a2 = some (r1, r2, r3, r4)) :
    Calls Try.prog 9 #[.agg #[.int .i64 a0_0, .int .i64 a0_1, .int .u64 a0_2, .int .u64 a0_3], .int .u64 a1, .int .i64 a2] w fun e w' => e = .returned (.agg #[.int .i64 r1, .int .i64 r2, .int .u64 r3, .int .u64 r4]) ∧ Below w.heap.size w w' := by
  have hmf : ∀ (fn : Fn) (first cap : Array Value) (w : World), (Instr.makeFunc fn first cap).run Try.prog w = .ok (.func fn first cap) w := fun _ _ _ _ => rfl
  unfold life_Life_Pass.f at h
  by_cases c1 : a0_2 > a1
  · rw [if_pos c1] at h
    simp only [Option.some.injEq, Prod.mk.injEq] at h
    obtain ⟨rfl, rfl, rfl, rfl⟩ := h
    have hd1 : decide (a1 < a0_2) = true := decide_eq_true c1
    go_enter Try.func9, Try.ntmps9
    go_wp2
    simp [bodyPost, results, Try.results9, go_sem]
    repeat (first | exact Below.refl _ _ | refine below_alloc ?_ _ | refine below_set ?_ (by simp [go_sem]; try omega))
  rw [if_neg c1] at h
  have hd1 : decide (a1 < a0_2) = false := decide_eq_false c1
  by_cases c2 : a0_0 = 2
  · rw [if_pos c2] at h
    simp only [Option.some.injEq, Prod.mk.injEq] at h
    obtain ⟨rfl, rfl, rfl, rfl⟩ := h
    have hd2 : (a0_0 == 2) = true := beq_iff_eq.mpr c2
    go_enter Try.func9, Try.ntmps9
    go_wp2
    simp [bodyPost, results, Try.results9, go_sem]
    repeat (first | exact Below.refl _ _ | refine below_alloc ?_ _ | refine below_set ?_ (by simp [go_sem]; try omega))
  rw [if_neg c2] at h
  have hd2 : (a0_0 == 2) = false := beq_eq_false_iff_ne.mpr c2
  by_cases c3 : a0_0 = 3
  · rw [if_pos c3] at h
    have hd3 : (a0_0 == 3) = true := beq_iff_eq.mpr c3
    by_cases c4 : a0_1 ≥ a2
    · rw [if_pos c4] at h
      simp only [Option.some.injEq, Prod.mk.injEq] at h
      obtain ⟨rfl, rfl, rfl, rfl⟩ := h
      have hd4 : decide (a2 ≤ a0_1) = true := decide_eq_true c4
      go_enter Try.func9, Try.ntmps9
      go_wp2
      simp [bodyPost, results, Try.results23, go_sem]
      go_wp2
      simp [bodyPost, results, Try.results9, go_sem]
      repeat (first | exact Below.refl _ _ | refine below_alloc ?_ _ | refine below_set ?_ (by simp [go_sem]; try omega))
    · rw [if_neg c4] at h
      simp only [Option.some.injEq, Prod.mk.injEq] at h
      obtain ⟨rfl, rfl, rfl, rfl⟩ := h
      have hd4 : decide (a2 ≤ a0_1) = false := decide_eq_false c4
      go_enter Try.func9, Try.ntmps9
      go_wp2
      simp [bodyPost, results, Try.results23, go_sem]
      go_wp2
      simp [bodyPost, results, Try.results9, go_sem]
      repeat (first | exact Below.refl _ _ | refine below_alloc ?_ _ | refine below_set ?_ (by simp [go_sem]; try omega))
  · rw [if_neg c3] at h
    have hd3 : (a0_0 == 3) = false := beq_eq_false_iff_ne.mpr c3
    simp only [Option.some.injEq, Prod.mk.injEq] at h
    obtain ⟨rfl, rfl, rfl, rfl⟩ := h
    go_enter Try.func9, Try.ntmps9
    go_wp2
    simp [bodyPost, results, Try.results9, go_sem]
    repeat (first | exact Below.refl _ _ | refine below_alloc ?_ _ | refine below_set ?_ (by simp [go_sem]; try omega))
end Go.Proofs.Ytbhkboikholmhaa.B
