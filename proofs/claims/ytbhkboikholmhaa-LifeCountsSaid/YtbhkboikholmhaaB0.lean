-- Printed by a program of this session.
import Derived.Test.YtbhkboikholmhaaProg
import Derived.Below
import Derived.Deep.Draws
import Derived.Deep.AppendLies
import Derived.Maps.AppendAt
import Derived.OwnWalk
import Derived.Laws.BytesArg
import Derived.Laws.MakeOwn
import Derived.Laws.OwnMore
import Derived.Deep.OwnRows
import Derived.Tactics
import Derived.Lib.ConvBytes
import Derived.Laws.Slices
import Derived.WalkKit
import Derived.KernelRfl
import Derived.RowKit3
import Derived.Deep.LoopGhost
import Derived.Deep.QuietTactic
import Derived.BigQuiet
import Derived.WideLaws
import Derived.Deep.DeepCutAuto
import Derived.Deep.CutBlock
import Derived.Deep.RegionHeld3
import Derived.Laws.Rows
import Derived.Lib.AppendStr
import Derived.ArgAppend
import Derived.Laws.IdiomCopy
import Derived.OrdersHeld
import Derived.Laws.BitsLemmas
import Derived.RowKit
import Derived.Test.YtbhkboikholmhaaWWords
import Derived.Test.YtbhkboikholmhaaWLast
import Derived.Test.YtbhkboikholmhaaWTab
import Derived.Test.YtbhkboikholmhaaWFour
import Derived.Test.YtbhkboikholmhaaWQPut
import Derived.Test.YtbhkboikholmhaaWApart
import Derived.Test.YtbhkboikholmhaaWArr
import Derived.Test.YtbhkboikholmhaaWZeros
import Derived.Test.YtbhkboikholmhaaWFoot
import Derived.Test.YtbhkboikholmhaaWKept
import Derived.Test.YtbhkboikholmhaaWShare
import Derived.Test.YtbhkboikholmhaaWN
import Derived.Test.YtbhkboikholmhaaWFootNe
import Derived.Test.YtbhkboikholmhaaWAt
import Derived.Test.YtbhkboikholmhaaWEqStruct
import Derived.Test.YtbhkboikholmhaaWRepsOne
import Derived.Test.YtbhkboikholmhaaWInv
import Derived.Test.YtbhkboikholmhaaWInvWords
import Derived.Test.YtbhkboikholmhaaWGuard
import Derived.Test.YtbhkboikholmhaaWNEv
import Derived.Test.YtbhkboikholmhaaWMore
namespace Go.Proofs.Ytbhkboikholmhaa.B
open Go.RowKit Go.Proofs.YtbhkboikholmhaaW.PrintWords Go.Proofs.YtbhkboikholmhaaW.PrintLast Go.Proofs.YtbhkboikholmhaaW.PrintMore
attribute [local go_sem] max2_int min2_int max_two min_two max_three min_three max_four min_four   -- for this text's walks alone
set_option linter.unusedVariables false
set_option linter.unusedSimpArgs false



def errW : Option Int → Value
  | none => .nilIface
  | some c => .iface 0 (.int .i64 c)
theorem errW_none : errW none = .nilIface := rfl
theorem errW_some (c : Int) : errW (some c) = .iface 0 (.int .i64 c) := rfl

-- the values' own types

end Go.Proofs.Ytbhkboikholmhaa.B
