/- Proved: whatever happens, Count never rises above the number most; it rises by a Lease alone, by 1: for any up to 300 acts and any number most. No conditions beyond the statement's. -/
import Derived.Test.YtbhkboikholmhaaL3
namespace Go.Proofs.Ytbhkboikholmhaa.Pure
set_option linter.unusedVariables false
open Go.RowKit Go.Proofs.Ytbhkboikholmhaa.B Go.Proofs.Ytbhkboikholmhaa.LP Go.Proofs.YtbhkboikholmhaaW.PrintWords Go.Proofs.YtbhkboikholmhaaW.PrintLast Go.Proofs.YtbhkboikholmhaaW.PrintMore

theorem LifeCounts (l : List S30) (hw : ∀ x ∈ l, wf30 x) (m : Int) (hm : (Lit.int .i64 m).wf = true) : ∃ k, (l.length : Int) > 300 ∨ m < 1 ∨ tumbrellaw09_lived.f (seeC m) k l m = some true := by
  by_cases h1 : (l.length : Int) > 300
  · exact ⟨0, .inl h1⟩
  by_cases h2 : m < 1
  · exact ⟨0, .inr (.inl h2)⟩
  have r : m ≤ 9223372036854775807 := by
    simp [Lit.wf, IntKind.min, IntKind.max, IntKind.signed, IntKind.bits] at hm
    omega
  exact ⟨l.length + 3, .inr (.inr (counts_f m l (by omega) hw ⟨by omega, r⟩))⟩
end Go.Proofs.Ytbhkboikholmhaa.Pure
