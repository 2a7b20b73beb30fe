/-
  No cell of these rows narrows 'for every input' (looked for: loops, veiled, ifaces, maps, wideKeys, modest, calm, conditions, laid).
  DERIVED. THE GIVEN ROWS OF THIS SEAT. 5 by the template 'for every input the law returns true; each argument reads behind the call as it read before'; 0 by the template 'total and deterministic' (their statements: YtbhkboikholmhaaTotals.lean).
  GIVEN WITH THE SEED: the statements are not yours to turn. If you find one false, say at which input.
  Laid BY PROGRAM, IN A SANDBOX (cutbox-rows.mjs): the forced cells as the released guide's own fill.sh prints them over the translation 063144ca1e45f971… (all of the seat's roots in one cut). By AI agents, Wed Nov 11 2026. No macro, syntax, notation, axiom, sorry.
-/
import Derived.Test.YtbhkboikholmhaaChecked
import GoSem.Claim
import GoSem.ClaimJoined
import GoSem.ClaimMapViews
import Derived.JoinedTies
import Derived.KernelRfl
namespace Go.Proofs.Ytbhkboikholmhaa
/- THE CELL 'sum', in the pinned program and in every row, IS THE sha256 OF THE DUMP (.gsa) THAT YtbhkboikholmhaaProg.lean LOADS. Nothing in Lean hashes anything: it is a label: what it is worth is what the hold of that sum in a sandbox is worth. -/
noncomputable def Try.pinned : Pinned := { name := "ytbhkboikholmhaa", sum := "063144ca1e45f971d2fb942acff8dfaffde27bfa8e31b95f50b5f4dceca87266", checked := Try.checked }
namespace Rows
def none {H : Type} : Left H := { results := [], args := [] }

/-- 'tumbrellaw09.LifePasses': WHATEVER THE INPUT: true; the input reads as it did. -/
def lifePassesSpec : ChangeSpec := { name := "lifePasses", fn := fun _ => fun
  | [d1, d2, d3, d4] => { results := [.lit (.bool true)], args := [d1, d2, d3, d4] }
  | _ => none }
def lifePassesRow : OpenClaim := { program := "ytbhkboikholmhaa", sum := "063144ca1e45f971d2fb942acff8dfaffde27bfa8e31b95f50b5f4dceca87266", func := "tumbrel/tumbrellaw09.LifePasses", spec := "lifePasses", inPlace := ["math/bits.Add64"], unfollowed := true, recurses := true, apart := false }
def LifePassesSaid : Prop := lifePassesRow.holds Try.pinned (OpenSpec.ofChange lifePassesSpec)

/-- ITS FALSE NEIGHBOUR: 'it returns false'. Refute it at one input. -/
def lifePassesWrong : ChangeSpec := { name := "lifePasses", fn := fun _ => fun
  | [d1, d2, d3, d4] => { results := [.lit (.bool false)], args := [d1, d2, d3, d4] }
  | _ => none }
def LifePassesWrongFalsely : Prop := lifePassesRow.holds Try.pinned (OpenSpec.ofChange lifePassesWrong)

/-- 'tumbrellaw09.LifeTells': WHATEVER THE INPUT: true; the input reads as it did. -/
def lifeTellsSpec : ChangeSpec := { name := "lifeTells", fn := fun _ => fun
  | [d1, d2, d3] => { results := [.lit (.bool true)], args := [d1, d2, d3] }
  | _ => none }
def lifeTellsRow : OpenClaim := { program := "ytbhkboikholmhaa", sum := "063144ca1e45f971d2fb942acff8dfaffde27bfa8e31b95f50b5f4dceca87266", func := "tumbrel/tumbrellaw09.LifeTells", spec := "lifeTells", inPlace := ["math/bits.Add64"], unfollowed := true, recurses := true, apart := false }
def LifeTellsSaid : Prop := lifeTellsRow.holds Try.pinned (OpenSpec.ofChange lifeTellsSpec)

/-- ITS FALSE NEIGHBOUR: 'it returns false'. Refute it at one input. -/
def lifeTellsWrong : ChangeSpec := { name := "lifeTells", fn := fun _ => fun
  | [d1, d2, d3] => { results := [.lit (.bool false)], args := [d1, d2, d3] }
  | _ => none }
def LifeTellsWrongFalsely : Prop := lifeTellsRow.holds Try.pinned (OpenSpec.ofChange lifeTellsWrong)

/-- 'tumbrellaw09.LifeCounts': WHATEVER THE INPUT: true; the input reads as it did. -/
def lifeCountsSpec : ChangeSpec := { name := "lifeCounts", fn := fun _ => fun
  | [d1, d2] => { results := [.lit (.bool true)], args := [d1, d2] }
  | _ => none }
def lifeCountsRow : OpenClaim := { program := "ytbhkboikholmhaa", sum := "063144ca1e45f971d2fb942acff8dfaffde27bfa8e31b95f50b5f4dceca87266", func := "tumbrel/tumbrellaw09.LifeCounts", spec := "lifeCounts", inPlace := ["math/bits.Add64"], unfollowed := true, recurses := true, apart := false }
def LifeCountsSaid : Prop := lifeCountsRow.holds Try.pinned (OpenSpec.ofChange lifeCountsSpec)

/-- ITS FALSE NEIGHBOUR: 'it returns false'. Refute it at one input. -/
def lifeCountsWrong : ChangeSpec := { name := "lifeCounts", fn := fun _ => fun
  | [d1, d2] => { results := [.lit (.bool false)], args := [d1, d2] }
  | _ => none }
def LifeCountsWrongFalsely : Prop := lifeCountsRow.holds Try.pinned (OpenSpec.ofChange lifeCountsWrong)

/-- 'tumbrellaw09.LifeEnds': WHATEVER THE INPUT: true; the input reads as it did. -/
def lifeEndsSpec : ChangeSpec := { name := "lifeEnds", fn := fun _ => fun
  | [d1, d2] => { results := [.lit (.bool true)], args := [d1, d2] }
  | _ => none }
def lifeEndsRow : OpenClaim := { program := "ytbhkboikholmhaa", sum := "063144ca1e45f971d2fb942acff8dfaffde27bfa8e31b95f50b5f4dceca87266", func := "tumbrel/tumbrellaw09.LifeEnds", spec := "lifeEnds", inPlace := ["math/bits.Add64"], unfollowed := true, recurses := true, apart := false }
def LifeEndsSaid : Prop := lifeEndsRow.holds Try.pinned (OpenSpec.ofChange lifeEndsSpec)

/-- ITS FALSE NEIGHBOUR: 'it returns false'. Refute it at one input. -/
def lifeEndsWrong : ChangeSpec := { name := "lifeEnds", fn := fun _ => fun
  | [d1, d2] => { results := [.lit (.bool false)], args := [d1, d2] }
  | _ => none }
def LifeEndsWrongFalsely : Prop := lifeEndsRow.holds Try.pinned (OpenSpec.ofChange lifeEndsWrong)

/-- 'tumbrellaw09.LifeTokens': WHATEVER THE INPUT: true; the input reads as it did. -/
def lifeTokensSpec : ChangeSpec := { name := "lifeTokens", fn := fun _ => fun
  | [d1, d2] => { results := [.lit (.bool true)], args := [d1, d2] }
  | _ => none }
def lifeTokensRow : OpenClaim := { program := "ytbhkboikholmhaa", sum := "063144ca1e45f971d2fb942acff8dfaffde27bfa8e31b95f50b5f4dceca87266", func := "tumbrel/tumbrellaw09.LifeTokens", spec := "lifeTokens", inPlace := ["math/bits.Add64"], unfollowed := true, recurses := true, apart := false }
def LifeTokensSaid : Prop := lifeTokensRow.holds Try.pinned (OpenSpec.ofChange lifeTokensSpec)

/-- ITS FALSE NEIGHBOUR: 'it returns false'. Refute it at one input. -/
def lifeTokensWrong : ChangeSpec := { name := "lifeTokens", fn := fun _ => fun
  | [d1, d2] => { results := [.lit (.bool false)], args := [d1, d2] }
  | _ => none }
def LifeTokensWrongFalsely : Prop := lifeTokensRow.holds Try.pinned (OpenSpec.ofChange lifeTokensWrong)

/- THE SECOND FORM. 'bulk': how many values and letters a reading holds, each counted each time it is reached (what is shared counts as often as it is met; a slice's spare places count too). A statement '..UptoSaid' is the law's where the arguments, and the package variables that the reading takes, are together of bulk at most 1048576: NARROWER than '..Said'. Prove '..Said' where nothing that the law and all that it calls make is longer than what came in: it says more and counts as full. Else prove '..UptoSaid'. A law counts once. -/
mutual
def uptoBulk {H : Type} : DataW H → Nat
  | .lit (.string bytes) => bytes.length + 1
  | .lit _ => 1
  | .nil => 1
  | .ptr d => uptoBulk d + 1
  | .slice elems spare => uptoBulkAll elems + uptoBulkAll spare + 1
  | .agg parts => uptoBulkAll parts + 1
  | .iface _ d => uptoBulk d + 1
  | .map entries => uptoBulkEntries entries + 1
  | .held _ => 1
def uptoBulkAll {H : Type} : List (DataW H) → Nat
  | [] => 0
  | d :: r => uptoBulk d + uptoBulkAll r
def uptoBulkEntries {H : Type} : List (Lit × DataW H) → Nat
  | [] => 0
  | x :: r => uptoBulkEntry x + uptoBulkEntries r
def uptoBulkEntry {H : Type} : Lit × DataW H → Nat
  | (.string bytes, d) => bytes.length + uptoBulk d + 1
  | (_, d) => uptoBulk d + 1
 end
def uptoSmall : (H : Type) → List (DataW H) → Bool := fun _ ds => decide (uptoBulkAll ds ≤ 1048576)
def OpenSpec.upto (s : _root_.Go.ChangeSpec) : _root_.Go.OpenSpec := { _root_.Go.OpenSpec.ofChange s with cond := some uptoSmall }

/-- 'tumbrellaw09.LifePasses', WHERE WHAT IT READS IS OF BULK AT MOST 1048576: true; the input reads as it did. -/
def lifePassesUptoRow : OpenClaim := { program := "ytbhkboikholmhaa", sum := "063144ca1e45f971d2fb942acff8dfaffde27bfa8e31b95f50b5f4dceca87266", func := "tumbrel/tumbrellaw09.LifePasses", spec := "lifePasses", inPlace := ["math/bits.Add64"], unfollowed := true, recurses := true, apart := false, narrowed := true }
def LifePassesUptoSaid : Prop := lifePassesUptoRow.holds Try.pinned (OpenSpec.upto lifePassesSpec)

/-- 'tumbrellaw09.LifeTells', WHERE WHAT IT READS IS OF BULK AT MOST 1048576: true; the input reads as it did. -/
def lifeTellsUptoRow : OpenClaim := { program := "ytbhkboikholmhaa", sum := "063144ca1e45f971d2fb942acff8dfaffde27bfa8e31b95f50b5f4dceca87266", func := "tumbrel/tumbrellaw09.LifeTells", spec := "lifeTells", inPlace := ["math/bits.Add64"], unfollowed := true, recurses := true, apart := false, narrowed := true }
def LifeTellsUptoSaid : Prop := lifeTellsUptoRow.holds Try.pinned (OpenSpec.upto lifeTellsSpec)

/-- 'tumbrellaw09.LifeCounts', WHERE WHAT IT READS IS OF BULK AT MOST 1048576: true; the input reads as it did. -/
def lifeCountsUptoRow : OpenClaim := { program := "ytbhkboikholmhaa", sum := "063144ca1e45f971d2fb942acff8dfaffde27bfa8e31b95f50b5f4dceca87266", func := "tumbrel/tumbrellaw09.LifeCounts", spec := "lifeCounts", inPlace := ["math/bits.Add64"], unfollowed := true, recurses := true, apart := false, narrowed := true }
def LifeCountsUptoSaid : Prop := lifeCountsUptoRow.holds Try.pinned (OpenSpec.upto lifeCountsSpec)

/-- 'tumbrellaw09.LifeEnds', WHERE WHAT IT READS IS OF BULK AT MOST 1048576: true; the input reads as it did. -/
def lifeEndsUptoRow : OpenClaim := { program := "ytbhkboikholmhaa", sum := "063144ca1e45f971d2fb942acff8dfaffde27bfa8e31b95f50b5f4dceca87266", func := "tumbrel/tumbrellaw09.LifeEnds", spec := "lifeEnds", inPlace := ["math/bits.Add64"], unfollowed := true, recurses := true, apart := false, narrowed := true }
def LifeEndsUptoSaid : Prop := lifeEndsUptoRow.holds Try.pinned (OpenSpec.upto lifeEndsSpec)

/-- 'tumbrellaw09.LifeTokens', WHERE WHAT IT READS IS OF BULK AT MOST 1048576: true; the input reads as it did. -/
def lifeTokensUptoRow : OpenClaim := { program := "ytbhkboikholmhaa", sum := "063144ca1e45f971d2fb942acff8dfaffde27bfa8e31b95f50b5f4dceca87266", func := "tumbrel/tumbrellaw09.LifeTokens", spec := "lifeTokens", inPlace := ["math/bits.Add64"], unfollowed := true, recurses := true, apart := false, narrowed := true }
def LifeTokensUptoSaid : Prop := lifeTokensUptoRow.holds Try.pinned (OpenSpec.upto lifeTokensSpec)

end Rows
end Go.Proofs.Ytbhkboikholmhaa
