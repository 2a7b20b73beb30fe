/- By hand: sum.Table, and an index into what it hands back. -/
import Derived.Test.YtojepleodijdeaaGSum
import Derived.Laws.PanicsMore
namespace Go.Proofs.Ytojepleodijdeaa.B
open Go.RowKit Go.Proofs.YtojepleodijdeaaW.PrintWords Go.Proofs.YtojepleodijdeaaW.PrintLast Go.Proofs.YtojepleodijdeaaW.PrintMore
set_option linter.unusedVariables false
set_option linter.unusedSimpArgs false

set_option maxRecDepth 100000 in
theorem idx_any (k : IntKind) (j : Nat) (hj : j < 256) (W : World) : (Instr.index 47 (.agg (tabN 256).toArray) (.int k (j : Int))).run Try.prog W = .ok (.int .u32 (tabE j)) W := by
  have ht := tab_at j hj
  generalize (tabN 256).toArray = T at ht
  simp [Instr.index, run_underlying Try.underlying47, asIntOf, hj, go_sem]
  simp [ht, go_sem]
/-- the table's value: it never varies -/
def tabV (_ : Unit) : Value := .agg (tabN 256).toArray
def sum_Table.f : Option Unit := some ()
theorem sum_Table.calls (r : Unit) (w : World) (h : sum_Table.f = some r) : Calls Try.prog 41 #[] w fun e w' => e = .returned (tabV r) ∧ Below w.heap.size w w' := table_calls w
theorem tab_idx (x : Unit) (i : Int) (h0 : 0 ≤ i) (h1 : i < (256 : Int)) : ∀ (k : IntKind) (W : World), (Instr.index 47 (tabV x) (.int k i)).run Try.prog W = .ok (.int .u32 (tabE i.toNat)) W := by
  intro k W
  have := idx_any k i.toNat (by omega) W
  rwa [show ((i.toNat : Nat) : Int) = i by omega] at this
end Go.Proofs.Ytojepleodijdeaa.B
