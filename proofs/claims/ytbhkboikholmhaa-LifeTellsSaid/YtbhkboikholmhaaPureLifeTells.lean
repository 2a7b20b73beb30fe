/- Proved: what becomes of any life by any act, or why nothing does, and of any that is born, is as the document's reference says, for any life, act and number. No conditions beyond the statement's. -/
import Derived.Test.YtbhkboikholmhaaLT
import Derived.Test.YtbhkboikholmhaaL1
namespace Go.Proofs.Ytbhkboikholmhaa.Pure
set_option linter.unusedVariables false
set_option linter.unusedSimpArgs false
open Go.RowKit Go.Proofs.Ytbhkboikholmhaa.B Go.Proofs.Ytbhkboikholmhaa.LP Go.Proofs.YtbhkboikholmhaaW.PrintWords Go.Proofs.YtbhkboikholmhaaW.PrintLast Go.Proofs.YtbhkboikholmhaaW.PrintMore

theorem LifeTells (s : Int) (_ : (Lit.int .i64 s).wf = true) (c : Int) (_ : (Lit.int .i64 c).wf = true) (d : Int) (_ : (Lit.int .u64 d).wf = true) (t : Int) (_ : (Lit.int .u64 t).wf = true) (k : Int) (_ : (Lit.int .i64 k).wf = true) (tok : Int) (_ : (Lit.int .u64 tok).wf = true) (now : Int) (h1 : (Lit.int .u64 now).wf = true) (n : Int) (h2 : (Lit.int .u64 n).wf = true) (m : Int) (_ : (Lit.int .i64 m).wf = true) : ∃ K, tumbrellaw09_LifeTells.f K s c d t k tok now n m = some true := by
  refine ⟨2, ?_⟩
  have ha := U_of_wf h1
  have hb := U_of_wf h2
  obtain ⟨r1, r2, r3, r4, r5, hr⟩ := do_some s c d t k tok m ha hb
  obtain ⟨b1, b2, b3, b4, b5, hbo⟩ := born_some ha hb
  unfold tumbrellaw09_LifeTells.f
  rw [show tumbrellaw09_awake.f = some true from rfl, Option.bind_some, if_pos rfl, ← do_own s c d t k tok m ha hb, hr, Option.bind_some, Option.bind_some, ← born_eq ha hb, hbo, Option.bind_some, Option.bind_some]
  simp
end Go.Proofs.Ytbhkboikholmhaa.Pure
