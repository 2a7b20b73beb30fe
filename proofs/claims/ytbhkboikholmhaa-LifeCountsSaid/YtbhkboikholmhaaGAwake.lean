/- By hand: tumbrellaw09.awake answers true. -/
import Derived.Test.YtbhkboikholmhaaAW
namespace Go.Proofs.Ytbhkboikholmhaa.B
open Go.RowKit Go.Proofs.YtbhkboikholmhaaW.PrintWords Go.Proofs.YtbhkboikholmhaaW.PrintLast Go.Proofs.YtbhkboikholmhaaW.PrintMore
theorem aw9_true : aw9.f = some true := by decide +kernel
def tumbrellaw09_awake.f : Option Bool := some true
theorem tumbrellaw09_awake.calls (r : Bool) (w : World) (h : tumbrellaw09_awake.f = some r) :
    Calls Try.prog 8 #[] w fun e w' => e = .returned (.bool r) ∧ Below w.heap.size w w' := by
  obtain rfl := Option.some.inj h
  exact aw9.calls true w aw9_true rfl
end Go.Proofs.Ytbhkboikholmhaa.B
