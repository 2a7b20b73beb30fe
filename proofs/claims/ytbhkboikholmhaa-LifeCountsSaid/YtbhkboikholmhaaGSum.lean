/- By hand: life.sum (math/bits.Add64): a sum of times, or 10 where it is over. -/
import Derived.Test.YtbhkboikholmhaaB0
import Derived.Laws.Externs
namespace Go.Proofs.Ytbhkboikholmhaa.B
open Go.RowKit Go.Proofs.YtbhkboikholmhaaW.PrintWords Go.Proofs.YtbhkboikholmhaaW.PrintLast Go.Proofs.YtbhkboikholmhaaW.PrintMore
set_option linter.unusedVariables false
set_option linter.unusedSimpArgs false

theorem add64_0 (x y : Int) (hx : 0 ≤ x) (hy : 0 ≤ y) (w : World) : (callFunc 40 #[.int .u64 x, .int .u64 y, .int .u64 0]).run Try.prog w =
    .ok (.value (.tuple #[.int .u64 ((x + y) % 18446744073709551616), .int .u64 ((x + y) / 18446744073709551616)])) w := by
  rw [run_callFunc_extern Try.func40 (by kernel_rfl) (by kernel_rfl) (by kernel_rfl) (e := add64Entry) (by kernel_rfl), run_add64 x y 0 hx hy (by omega) (by omega)]
  simp only [Result.andThen, Int.add_zero]
def life_sum.f (a0 : Int) (a1 : Int) : Option (Int × Int) := if 0 ≤ a0 ∧ a0 < 18446744073709551616 ∧ 0 ≤ a1 ∧ a1 < 18446744073709551616 then (if a0 + a1 < 18446744073709551616 then some (a0 + a1, 0) else some (0, 10)) else none
set_option maxRecDepth 100000 in
theorem life_sum.calls (a0 : Int) (a1 : Int) (r1 : Int) (r2 : Int) (w : World) (h : life_sum.f a0 a1 = some (r1, r2)) :
    Calls Try.prog 39 #[.int .u64 a0, .int .u64 a1] w fun e w' => e = .returned (.tuple #[.int .u64 r1, .int .i64 r2]) ∧ Below w.heap.size w w' := by
  unfold life_sum.f at h
  split at h
  case isFalse => exact absurd h (by simp)
  rename_i hr
  obtain ⟨h0, h1, h2, h3⟩ := hr
  have HB := Below.refl w.heap.size w
  by_cases hs : a0 + a1 < 18446744073709551616
  · rw [if_pos hs] at h
    simp only [Option.some.injEq, Prod.mk.injEq] at h
    obtain ⟨rfl, rfl⟩ := h
    have e1 : (a0 + a1) % 18446744073709551616 = a0 + a1 := by omega
    have e2 : (a0 + a1) / 18446744073709551616 = 0 := by omega
    go_enter Try.func39, Try.ntmps39
    go_wp2_with (simp only [add64_0 a0 a1 h0 h2, e1, e2])
    go_ret2
    exact ⟨rfl, HB⟩
  · rw [if_neg hs] at h
    simp only [Option.some.injEq, Prod.mk.injEq] at h
    obtain ⟨rfl, rfl⟩ := h
    have e2 : (a0 + a1) / 18446744073709551616 = 1 := by omega
    go_enter Try.func39, Try.ntmps39
    go_wp2_with (simp only [add64_0 a0 a1 h0 h2, e2])
    go_ret2
    exact ⟨rfl, HB⟩
end Go.Proofs.Ytbhkboikholmhaa.B
