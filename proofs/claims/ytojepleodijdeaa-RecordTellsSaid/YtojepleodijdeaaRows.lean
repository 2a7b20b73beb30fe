/-
  No cell of these rows narrows 'for every input' (looked for: loops, veiled, ifaces, maps, wideKeys, modest, calm, conditions, laid).
  DERIVED. THE GIVEN ROWS OF THIS SEAT. 17 by the template 'for every input the law returns true; each argument reads behind the call as it read before'; 0 by the template 'total and deterministic' (their statements: YtojepleodijdeaaTotals.lean).
  GIVEN WITH THE SEED: the statements are not yours to turn. If you find one false, say at which input.
  Laid BY PROGRAM, IN A SANDBOX (cutbox-rows.mjs): the forced cells as the released guide's own fill.sh prints them over the translation a095614351f9d457… (all of the seat's roots in one cut). By AI agents, Wed Nov 11 2026. No macro, syntax, notation, axiom, sorry.
-/
import Derived.Test.YtojepleodijdeaaChecked
import GoSem.Claim
import GoSem.ClaimJoined
import GoSem.ClaimMapViews
import Derived.JoinedTies
import Derived.KernelRfl
namespace Go.Proofs.Ytojepleodijdeaa
/- THE CELL 'sum', in the pinned program and in every row, IS THE sha256 OF THE DUMP (.gsa) THAT YtojepleodijdeaaProg.lean LOADS. Nothing in Lean hashes anything: it is a label: what it is worth is what the hold of that sum in a sandbox is worth. -/
noncomputable def Try.pinned : Pinned := { name := "ytojepleodijdeaa", sum := "a095614351f9d45704210d93a46d6b3462d43f7b6807da11e274cd2d2f83db67", checked := Try.checked }
namespace Rows
def none {H : Type} : Left H := { results := [], args := [] }

/-- 'tumbrellaw02.VintBack': WHATEVER THE INPUT: true; the input reads as it did. -/
def vintBackSpec : ChangeSpec := { name := "vintBack", fn := fun _ => fun
  | [d1, d2, d3] => { results := [.lit (.bool true)], args := [d1, d2, d3] }
  | _ => none }
def vintBackRow : OpenClaim := { program := "ytojepleodijdeaa", sum := "a095614351f9d45704210d93a46d6b3462d43f7b6807da11e274cd2d2f83db67", func := "tumbrel/tumbrellaw02.VintBack", spec := "vintBack", apart := false }
def VintBackSaid : Prop := vintBackRow.holds Try.pinned (OpenSpec.ofChange vintBackSpec)

/-- ITS FALSE NEIGHBOUR: 'it returns false'. Refute it at one input. -/
def vintBackWrong : ChangeSpec := { name := "vintBack", fn := fun _ => fun
  | [d1, d2, d3] => { results := [.lit (.bool false)], args := [d1, d2, d3] }
  | _ => none }
def VintBackWrongFalsely : Prop := vintBackRow.holds Try.pinned (OpenSpec.ofChange vintBackWrong)

/-- 'tumbrellaw02.VintSizes': WHATEVER THE INPUT: true; the input reads as it did. -/
def vintSizesSpec : ChangeSpec := { name := "vintSizes", fn := fun _ => fun
  | [d1, d2] => { results := [.lit (.bool true)], args := [d1, d2] }
  | _ => none }
def vintSizesRow : OpenClaim := { program := "ytojepleodijdeaa", sum := "a095614351f9d45704210d93a46d6b3462d43f7b6807da11e274cd2d2f83db67", func := "tumbrel/tumbrellaw02.VintSizes", spec := "vintSizes", apart := false }
def VintSizesSaid : Prop := vintSizesRow.holds Try.pinned (OpenSpec.ofChange vintSizesSpec)

/-- ITS FALSE NEIGHBOUR: 'it returns false'. Refute it at one input. -/
def vintSizesWrong : ChangeSpec := { name := "vintSizes", fn := fun _ => fun
  | [d1, d2] => { results := [.lit (.bool false)], args := [d1, d2] }
  | _ => none }
def VintSizesWrongFalsely : Prop := vintSizesRow.holds Try.pinned (OpenSpec.ofChange vintSizesWrong)

/-- 'tumbrellaw02.VintTells': WHATEVER THE INPUT: true; the input reads as it did. -/
def vintTellsSpec : ChangeSpec := { name := "vintTells", fn := fun _ => fun
  | [d1, d2, d3] => { results := [.lit (.bool true)], args := [d1, d2, d3] }
  | _ => none }
def vintTellsRow : OpenClaim := { program := "ytojepleodijdeaa", sum := "a095614351f9d45704210d93a46d6b3462d43f7b6807da11e274cd2d2f83db67", func := "tumbrel/tumbrellaw02.VintTells", spec := "vintTells", recurses := true, apart := false }
def VintTellsSaid : Prop := vintTellsRow.holds Try.pinned (OpenSpec.ofChange vintTellsSpec)

/-- ITS FALSE NEIGHBOUR: 'it returns false'. Refute it at one input. -/
def vintTellsWrong : ChangeSpec := { name := "vintTells", fn := fun _ => fun
  | [d1, d2, d3] => { results := [.lit (.bool false)], args := [d1, d2, d3] }
  | _ => none }
def VintTellsWrongFalsely : Prop := vintTellsRow.holds Try.pinned (OpenSpec.ofChange vintTellsWrong)

/-- 'tumbrellaw02.VintSplits': WHATEVER THE INPUT: true; the input reads as it did. -/
def vintSplitsSpec : ChangeSpec := { name := "vintSplits", fn := fun _ => fun
  | [d1, d2] => { results := [.lit (.bool true)], args := [d1, d2] }
  | _ => none }
def vintSplitsRow : OpenClaim := { program := "ytojepleodijdeaa", sum := "a095614351f9d45704210d93a46d6b3462d43f7b6807da11e274cd2d2f83db67", func := "tumbrel/tumbrellaw02.VintSplits", spec := "vintSplits", apart := false }
def VintSplitsSaid : Prop := vintSplitsRow.holds Try.pinned (OpenSpec.ofChange vintSplitsSpec)

/-- ITS FALSE NEIGHBOUR: 'it returns false'. Refute it at one input. -/
def vintSplitsWrong : ChangeSpec := { name := "vintSplits", fn := fun _ => fun
  | [d1, d2] => { results := [.lit (.bool false)], args := [d1, d2] }
  | _ => none }
def VintSplitsWrongFalsely : Prop := vintSplitsRow.holds Try.pinned (OpenSpec.ofChange vintSplitsWrong)

/-- 'tumbrellaw01.SumTells': WHATEVER THE INPUT: true; the input reads as it did. -/
def sumTellsSpec : ChangeSpec := { name := "sumTells", fn := fun _ => fun
  | [d1, d2] => { results := [.lit (.bool true)], args := [d1, d2] }
  | _ => none }
def sumTellsRow : OpenClaim := { program := "ytojepleodijdeaa", sum := "a095614351f9d45704210d93a46d6b3462d43f7b6807da11e274cd2d2f83db67", func := "tumbrel/tumbrellaw01.SumTells", spec := "sumTells", apart := false }
def SumTellsSaid : Prop := sumTellsRow.holds Try.pinned (OpenSpec.ofChange sumTellsSpec)

/-- ITS FALSE NEIGHBOUR: 'it returns false'. Refute it at one input. -/
def sumTellsWrong : ChangeSpec := { name := "sumTells", fn := fun _ => fun
  | [d1, d2] => { results := [.lit (.bool false)], args := [d1, d2] }
  | _ => none }
def SumTellsWrongFalsely : Prop := sumTellsRow.holds Try.pinned (OpenSpec.ofChange sumTellsWrong)

/-- 'tumbrellaw01.SumParts': WHATEVER THE INPUT: true; the input reads as it did. -/
def sumPartsSpec : ChangeSpec := { name := "sumParts", fn := fun _ => fun
  | [d1, d2] => { results := [.lit (.bool true)], args := [d1, d2] }
  | _ => none }
def sumPartsRow : OpenClaim := { program := "ytojepleodijdeaa", sum := "a095614351f9d45704210d93a46d6b3462d43f7b6807da11e274cd2d2f83db67", func := "tumbrel/tumbrellaw01.SumParts", spec := "sumParts", apart := false }
def SumPartsSaid : Prop := sumPartsRow.holds Try.pinned (OpenSpec.ofChange sumPartsSpec)

/-- ITS FALSE NEIGHBOUR: 'it returns false'. Refute it at one input. -/
def sumPartsWrong : ChangeSpec := { name := "sumParts", fn := fun _ => fun
  | [d1, d2] => { results := [.lit (.bool false)], args := [d1, d2] }
  | _ => none }
def SumPartsWrongFalsely : Prop := sumPartsRow.holds Try.pinned (OpenSpec.ofChange sumPartsWrong)

/-- 'tumbrellaw01.SumTurned': WHATEVER THE INPUT: true; the input reads as it did. -/
def sumTurnedSpec : ChangeSpec := { name := "sumTurned", fn := fun _ => fun
  | [d1, d2, d3] => { results := [.lit (.bool true)], args := [d1, d2, d3] }
  | _ => none }
def sumTurnedRow : OpenClaim := { program := "ytojepleodijdeaa", sum := "a095614351f9d45704210d93a46d6b3462d43f7b6807da11e274cd2d2f83db67", func := "tumbrel/tumbrellaw01.SumTurned", spec := "sumTurned", apart := false }
def SumTurnedSaid : Prop := sumTurnedRow.holds Try.pinned (OpenSpec.ofChange sumTurnedSpec)

/-- ITS FALSE NEIGHBOUR: 'it returns false'. Refute it at one input. -/
def sumTurnedWrong : ChangeSpec := { name := "sumTurned", fn := fun _ => fun
  | [d1, d2, d3] => { results := [.lit (.bool false)], args := [d1, d2, d3] }
  | _ => none }
def SumTurnedWrongFalsely : Prop := sumTurnedRow.holds Try.pinned (OpenSpec.ofChange sumTurnedWrong)

/-- 'tumbrellaw01.SumShifts': WHATEVER THE INPUT: true; the input reads as it did. -/
def sumShiftsSpec : ChangeSpec := { name := "sumShifts", fn := fun _ => fun
  | [d1, d2, d3] => { results := [.lit (.bool true)], args := [d1, d2, d3] }
  | _ => none }
def sumShiftsRow : OpenClaim := { program := "ytojepleodijdeaa", sum := "a095614351f9d45704210d93a46d6b3462d43f7b6807da11e274cd2d2f83db67", func := "tumbrel/tumbrellaw01.SumShifts", spec := "sumShifts", apart := false }
def SumShiftsSaid : Prop := sumShiftsRow.holds Try.pinned (OpenSpec.ofChange sumShiftsSpec)

/-- ITS FALSE NEIGHBOUR: 'it returns false'. Refute it at one input. -/
def sumShiftsWrong : ChangeSpec := { name := "sumShifts", fn := fun _ => fun
  | [d1, d2, d3] => { results := [.lit (.bool false)], args := [d1, d2, d3] }
  | _ => none }
def SumShiftsWrongFalsely : Prop := sumShiftsRow.holds Try.pinned (OpenSpec.ofChange sumShiftsWrong)

/-- 'tumbrellaw04.FrameTells': WHATEVER THE INPUT: true; the input reads as it did. -/
def frameTellsSpec : ChangeSpec := { name := "frameTells", fn := fun _ => fun
  | [d1, d2, d3] => { results := [.lit (.bool true)], args := [d1, d2, d3] }
  | _ => none }
def frameTellsRow : OpenClaim := { program := "ytojepleodijdeaa", sum := "a095614351f9d45704210d93a46d6b3462d43f7b6807da11e274cd2d2f83db67", func := "tumbrel/tumbrellaw04.FrameTells", spec := "frameTells", apart := false }
def FrameTellsSaid : Prop := frameTellsRow.holds Try.pinned (OpenSpec.ofChange frameTellsSpec)

/-- ITS FALSE NEIGHBOUR: 'it returns false'. Refute it at one input. -/
def frameTellsWrong : ChangeSpec := { name := "frameTells", fn := fun _ => fun
  | [d1, d2, d3] => { results := [.lit (.bool false)], args := [d1, d2, d3] }
  | _ => none }
def FrameTellsWrongFalsely : Prop := frameTellsRow.holds Try.pinned (OpenSpec.ofChange frameTellsWrong)

/-- 'tumbrellaw04.FrameBack': WHATEVER THE INPUT: true; the input reads as it did. -/
def frameBackSpec : ChangeSpec := { name := "frameBack", fn := fun _ => fun
  | [d1, d2, d3] => { results := [.lit (.bool true)], args := [d1, d2, d3] }
  | _ => none }
def frameBackRow : OpenClaim := { program := "ytojepleodijdeaa", sum := "a095614351f9d45704210d93a46d6b3462d43f7b6807da11e274cd2d2f83db67", func := "tumbrel/tumbrellaw04.FrameBack", spec := "frameBack", apart := false }
def FrameBackSaid : Prop := frameBackRow.holds Try.pinned (OpenSpec.ofChange frameBackSpec)

/-- ITS FALSE NEIGHBOUR: 'it returns false'. Refute it at one input. -/
def frameBackWrong : ChangeSpec := { name := "frameBack", fn := fun _ => fun
  | [d1, d2, d3] => { results := [.lit (.bool false)], args := [d1, d2, d3] }
  | _ => none }
def FrameBackWrongFalsely : Prop := frameBackRow.holds Try.pinned (OpenSpec.ofChange frameBackWrong)

/-- 'tumbrellaw04.FrameTorn': WHATEVER THE INPUT: true; the input reads as it did. -/
def frameTornSpec : ChangeSpec := { name := "frameTorn", fn := fun _ => fun
  | [d1, d2] => { results := [.lit (.bool true)], args := [d1, d2] }
  | _ => none }
def frameTornRow : OpenClaim := { program := "ytojepleodijdeaa", sum := "a095614351f9d45704210d93a46d6b3462d43f7b6807da11e274cd2d2f83db67", func := "tumbrel/tumbrellaw04.FrameTorn", spec := "frameTorn", apart := false }
def FrameTornSaid : Prop := frameTornRow.holds Try.pinned (OpenSpec.ofChange frameTornSpec)

/-- ITS FALSE NEIGHBOUR: 'it returns false'. Refute it at one input. -/
def frameTornWrong : ChangeSpec := { name := "frameTorn", fn := fun _ => fun
  | [d1, d2] => { results := [.lit (.bool false)], args := [d1, d2] }
  | _ => none }
def FrameTornWrongFalsely : Prop := frameTornRow.holds Try.pinned (OpenSpec.ofChange frameTornWrong)

/-- 'tumbrellaw04.FrameTurned': WHATEVER THE INPUT: true; the input reads as it did. -/
def frameTurnedSpec : ChangeSpec := { name := "frameTurned", fn := fun _ => fun
  | [d1, d2, d3, d4] => { results := [.lit (.bool true)], args := [d1, d2, d3, d4] }
  | _ => none }
def frameTurnedRow : OpenClaim := { program := "ytojepleodijdeaa", sum := "a095614351f9d45704210d93a46d6b3462d43f7b6807da11e274cd2d2f83db67", func := "tumbrel/tumbrellaw04.FrameTurned", spec := "frameTurned", apart := false }
def FrameTurnedSaid : Prop := frameTurnedRow.holds Try.pinned (OpenSpec.ofChange frameTurnedSpec)

/-- ITS FALSE NEIGHBOUR: 'it returns false'. Refute it at one input. -/
def frameTurnedWrong : ChangeSpec := { name := "frameTurned", fn := fun _ => fun
  | [d1, d2, d3, d4] => { results := [.lit (.bool false)], args := [d1, d2, d3, d4] }
  | _ => none }
def FrameTurnedWrongFalsely : Prop := frameTurnedRow.holds Try.pinned (OpenSpec.ofChange frameTurnedWrong)

/-- 'tumbrellaw04.FrameJoins': WHATEVER THE INPUT: true; the input reads as it did. -/
def frameJoinsSpec : ChangeSpec := { name := "frameJoins", fn := fun _ => fun
  | [d1, d2] => { results := [.lit (.bool true)], args := [d1, d2] }
  | _ => none }
def frameJoinsRow : OpenClaim := { program := "ytojepleodijdeaa", sum := "a095614351f9d45704210d93a46d6b3462d43f7b6807da11e274cd2d2f83db67", func := "tumbrel/tumbrellaw04.FrameJoins", spec := "frameJoins", apart := false }
def FrameJoinsSaid : Prop := frameJoinsRow.holds Try.pinned (OpenSpec.ofChange frameJoinsSpec)

/-- ITS FALSE NEIGHBOUR: 'it returns false'. Refute it at one input. -/
def frameJoinsWrong : ChangeSpec := { name := "frameJoins", fn := fun _ => fun
  | [d1, d2] => { results := [.lit (.bool false)], args := [d1, d2] }
  | _ => none }
def FrameJoinsWrongFalsely : Prop := frameJoinsRow.holds Try.pinned (OpenSpec.ofChange frameJoinsWrong)

/-- 'tumbrellaw05.RecordTells': WHATEVER THE INPUT: true; the input reads as it did. -/
def recordTellsSpec : ChangeSpec := { name := "recordTells", fn := fun _ => fun
  | [d1, d2, d3] => { results := [.lit (.bool true)], args := [d1, d2, d3] }
  | _ => none }
def recordTellsRow : OpenClaim := { program := "ytojepleodijdeaa", sum := "a095614351f9d45704210d93a46d6b3462d43f7b6807da11e274cd2d2f83db67", func := "tumbrel/tumbrellaw05.RecordTells", spec := "recordTells", recurses := true, apart := false }
def RecordTellsSaid : Prop := recordTellsRow.holds Try.pinned (OpenSpec.ofChange recordTellsSpec)

/-- ITS FALSE NEIGHBOUR: 'it returns false'. Refute it at one input. -/
def recordTellsWrong : ChangeSpec := { name := "recordTells", fn := fun _ => fun
  | [d1, d2, d3] => { results := [.lit (.bool false)], args := [d1, d2, d3] }
  | _ => none }
def RecordTellsWrongFalsely : Prop := recordTellsRow.holds Try.pinned (OpenSpec.ofChange recordTellsWrong)

/-- 'tumbrellaw05.RecordLists': WHATEVER THE INPUT: true; the input reads as it did. -/
def recordListsSpec : ChangeSpec := { name := "recordLists", fn := fun _ => fun
  | [d] => { results := [.lit (.bool true)], args := [d] }
  | _ => none }
def recordListsRow : OpenClaim := { program := "ytojepleodijdeaa", sum := "a095614351f9d45704210d93a46d6b3462d43f7b6807da11e274cd2d2f83db67", func := "tumbrel/tumbrellaw05.RecordLists", spec := "recordLists", apart := false }
def RecordListsSaid : Prop := recordListsRow.holds Try.pinned (OpenSpec.ofChange recordListsSpec)

/-- ITS FALSE NEIGHBOUR: 'it returns false'. Refute it at one input. -/
def recordListsWrong : ChangeSpec := { name := "recordLists", fn := fun _ => fun
  | [d] => { results := [.lit (.bool false)], args := [d] }
  | _ => none }
def RecordListsWrongFalsely : Prop := recordListsRow.holds Try.pinned (OpenSpec.ofChange recordListsWrong)

/-- 'tumbrellaw05.RecordTorn': WHATEVER THE INPUT: true; the input reads as it did. -/
def recordTornSpec : ChangeSpec := { name := "recordTorn", fn := fun _ => fun
  | [d1, d2] => { results := [.lit (.bool true)], args := [d1, d2] }
  | _ => none }
def recordTornRow : OpenClaim := { program := "ytojepleodijdeaa", sum := "a095614351f9d45704210d93a46d6b3462d43f7b6807da11e274cd2d2f83db67", func := "tumbrel/tumbrellaw05.RecordTorn", spec := "recordTorn", apart := false }
def RecordTornSaid : Prop := recordTornRow.holds Try.pinned (OpenSpec.ofChange recordTornSpec)

/-- ITS FALSE NEIGHBOUR: 'it returns false'. Refute it at one input. -/
def recordTornWrong : ChangeSpec := { name := "recordTorn", fn := fun _ => fun
  | [d1, d2] => { results := [.lit (.bool false)], args := [d1, d2] }
  | _ => none }
def RecordTornWrongFalsely : Prop := recordTornRow.holds Try.pinned (OpenSpec.ofChange recordTornWrong)

/-- 'tumbrellaw05.RecordBack': WHATEVER THE INPUT: true; the input reads as it did. -/
def recordBackSpec : ChangeSpec := { name := "recordBack", fn := fun _ => fun
  | [d1, d2] => { results := [.lit (.bool true)], args := [d1, d2] }
  | _ => none }
def recordBackRow : OpenClaim := { program := "ytojepleodijdeaa", sum := "a095614351f9d45704210d93a46d6b3462d43f7b6807da11e274cd2d2f83db67", func := "tumbrel/tumbrellaw05.RecordBack", spec := "recordBack", apart := false }
def RecordBackSaid : Prop := recordBackRow.holds Try.pinned (OpenSpec.ofChange recordBackSpec)

/-- ITS FALSE NEIGHBOUR: 'it returns false'. Refute it at one input. -/
def recordBackWrong : ChangeSpec := { name := "recordBack", fn := fun _ => fun
  | [d1, d2] => { results := [.lit (.bool false)], args := [d1, d2] }
  | _ => none }
def RecordBackWrongFalsely : Prop := recordBackRow.holds Try.pinned (OpenSpec.ofChange recordBackWrong)

/- THE SECOND FORM. 'bulk': how many values and letters a reading holds, each counted each time it is reached (what is shared counts as often as it is met; a slice's spare places count too). A statement '..UptoSaid' is the law's where the arguments, and the package variables that the reading takes, are together of bulk at most 1048576: NARROWER than '..Said'. Prove '..Said' where nothing that the law and all that it calls make is longer than what came in: it says more and counts as full. Else prove '..UptoSaid'. A law counts once. -/
mutual
def uptoBulk {H : Type} : DataW H → Nat
  | .lit (.string bytes) => bytes.length + 1
  | .lit _ => 1
  | .nil => 1
  | .ptr d => uptoBulk d + 1
  | .slice elems spare => uptoBulkAll elems + uptoBulkAll spare + 1
  | .agg parts => uptoBulkAll parts + 1
  | .iface _ d => uptoBulk d + 1
  | .map entries => uptoBulkEntries entries + 1
  | .held _ => 1
def uptoBulkAll {H : Type} : List (DataW H) → Nat
  | [] => 0
  | d :: r => uptoBulk d + uptoBulkAll r
def uptoBulkEntries {H : Type} : List (Lit × DataW H) → Nat
  | [] => 0
  | x :: r => uptoBulkEntry x + uptoBulkEntries r
def uptoBulkEntry {H : Type} : Lit × DataW H → Nat
  | (.string bytes, d) => bytes.length + uptoBulk d + 1
  | (_, d) => uptoBulk d + 1
 end
def uptoSmall : (H : Type) → List (DataW H) → Bool := fun _ ds => decide (uptoBulkAll ds ≤ 1048576)
def OpenSpec.upto (s : _root_.Go.ChangeSpec) : _root_.Go.OpenSpec := { _root_.Go.OpenSpec.ofChange s with cond := some uptoSmall }

/-- 'tumbrellaw02.VintBack', WHERE WHAT IT READS IS OF BULK AT MOST 1048576: true; the input reads as it did. -/
def vintBackUptoRow : OpenClaim := { program := "ytojepleodijdeaa", sum := "a095614351f9d45704210d93a46d6b3462d43f7b6807da11e274cd2d2f83db67", func := "tumbrel/tumbrellaw02.VintBack", spec := "vintBack", apart := false, narrowed := true }
def VintBackUptoSaid : Prop := vintBackUptoRow.holds Try.pinned (OpenSpec.upto vintBackSpec)

/-- 'tumbrellaw02.VintSizes', WHERE WHAT IT READS IS OF BULK AT MOST 1048576: true; the input reads as it did. -/
def vintSizesUptoRow : OpenClaim := { program := "ytojepleodijdeaa", sum := "a095614351f9d45704210d93a46d6b3462d43f7b6807da11e274cd2d2f83db67", func := "tumbrel/tumbrellaw02.VintSizes", spec := "vintSizes", apart := false, narrowed := true }
def VintSizesUptoSaid : Prop := vintSizesUptoRow.holds Try.pinned (OpenSpec.upto vintSizesSpec)

/-- 'tumbrellaw02.VintTells', WHERE WHAT IT READS IS OF BULK AT MOST 1048576: true; the input reads as it did. -/
def vintTellsUptoRow : OpenClaim := { program := "ytojepleodijdeaa", sum := "a095614351f9d45704210d93a46d6b3462d43f7b6807da11e274cd2d2f83db67", func := "tumbrel/tumbrellaw02.VintTells", spec := "vintTells", recurses := true, apart := false, narrowed := true }
def VintTellsUptoSaid : Prop := vintTellsUptoRow.holds Try.pinned (OpenSpec.upto vintTellsSpec)

/-- 'tumbrellaw02.VintSplits', WHERE WHAT IT READS IS OF BULK AT MOST 1048576: true; the input reads as it did. -/
def vintSplitsUptoRow : OpenClaim := { program := "ytojepleodijdeaa", sum := "a095614351f9d45704210d93a46d6b3462d43f7b6807da11e274cd2d2f83db67", func := "tumbrel/tumbrellaw02.VintSplits", spec := "vintSplits", apart := false, narrowed := true }
def VintSplitsUptoSaid : Prop := vintSplitsUptoRow.holds Try.pinned (OpenSpec.upto vintSplitsSpec)

/-- 'tumbrellaw01.SumTells', WHERE WHAT IT READS IS OF BULK AT MOST 1048576: true; the input reads as it did. -/
def sumTellsUptoRow : OpenClaim := { program := "ytojepleodijdeaa", sum := "a095614351f9d45704210d93a46d6b3462d43f7b6807da11e274cd2d2f83db67", func := "tumbrel/tumbrellaw01.SumTells", spec := "sumTells", apart := false, narrowed := true }
def SumTellsUptoSaid : Prop := sumTellsUptoRow.holds Try.pinned (OpenSpec.upto sumTellsSpec)

/-- 'tumbrellaw01.SumParts', WHERE WHAT IT READS IS OF BULK AT MOST 1048576: true; the input reads as it did. -/
def sumPartsUptoRow : OpenClaim := { program := "ytojepleodijdeaa", sum := "a095614351f9d45704210d93a46d6b3462d43f7b6807da11e274cd2d2f83db67", func := "tumbrel/tumbrellaw01.SumParts", spec := "sumParts", apart := false, narrowed := true }
def SumPartsUptoSaid : Prop := sumPartsUptoRow.holds Try.pinned (OpenSpec.upto sumPartsSpec)

/-- 'tumbrellaw01.SumTurned', WHERE WHAT IT READS IS OF BULK AT MOST 1048576: true; the input reads as it did. -/
def sumTurnedUptoRow : OpenClaim := { program := "ytojepleodijdeaa", sum := "a095614351f9d45704210d93a46d6b3462d43f7b6807da11e274cd2d2f83db67", func := "tumbrel/tumbrellaw01.SumTurned", spec := "sumTurned", apart := false, narrowed := true }
def SumTurnedUptoSaid : Prop := sumTurnedUptoRow.holds Try.pinned (OpenSpec.upto sumTurnedSpec)

/-- 'tumbrellaw01.SumShifts', WHERE WHAT IT READS IS OF BULK AT MOST 1048576: true; the input reads as it did. -/
def sumShiftsUptoRow : OpenClaim := { program := "ytojepleodijdeaa", sum := "a095614351f9d45704210d93a46d6b3462d43f7b6807da11e274cd2d2f83db67", func := "tumbrel/tumbrellaw01.SumShifts", spec := "sumShifts", apart := false, narrowed := true }
def SumShiftsUptoSaid : Prop := sumShiftsUptoRow.holds Try.pinned (OpenSpec.upto sumShiftsSpec)

/-- 'tumbrellaw04.FrameTells', WHERE WHAT IT READS IS OF BULK AT MOST 1048576: true; the input reads as it did. -/
def frameTellsUptoRow : OpenClaim := { program := "ytojepleodijdeaa", sum := "a095614351f9d45704210d93a46d6b3462d43f7b6807da11e274cd2d2f83db67", func := "tumbrel/tumbrellaw04.FrameTells", spec := "frameTells", apart := false, narrowed := true }
def FrameTellsUptoSaid : Prop := frameTellsUptoRow.holds Try.pinned (OpenSpec.upto frameTellsSpec)

/-- 'tumbrellaw04.FrameBack', WHERE WHAT IT READS IS OF BULK AT MOST 1048576: true; the input reads as it did. -/
def frameBackUptoRow : OpenClaim := { program := "ytojepleodijdeaa", sum := "a095614351f9d45704210d93a46d6b3462d43f7b6807da11e274cd2d2f83db67", func := "tumbrel/tumbrellaw04.FrameBack", spec := "frameBack", apart := false, narrowed := true }
def FrameBackUptoSaid : Prop := frameBackUptoRow.holds Try.pinned (OpenSpec.upto frameBackSpec)

/-- 'tumbrellaw04.FrameTorn', WHERE WHAT IT READS IS OF BULK AT MOST 1048576: true; the input reads as it did. -/
def frameTornUptoRow : OpenClaim := { program := "ytojepleodijdeaa", sum := "a095614351f9d45704210d93a46d6b3462d43f7b6807da11e274cd2d2f83db67", func := "tumbrel/tumbrellaw04.FrameTorn", spec := "frameTorn", apart := false, narrowed := true }
def FrameTornUptoSaid : Prop := frameTornUptoRow.holds Try.pinned (OpenSpec.upto frameTornSpec)

/-- 'tumbrellaw04.FrameTurned', WHERE WHAT IT READS IS OF BULK AT MOST 1048576: true; the input reads as it did. -/
def frameTurnedUptoRow : OpenClaim := { program := "ytojepleodijdeaa", sum := "a095614351f9d45704210d93a46d6b3462d43f7b6807da11e274cd2d2f83db67", func := "tumbrel/tumbrellaw04.FrameTurned", spec := "frameTurned", apart := false, narrowed := true }
def FrameTurnedUptoSaid : Prop := frameTurnedUptoRow.holds Try.pinned (OpenSpec.upto frameTurnedSpec)

/-- 'tumbrellaw04.FrameJoins', WHERE WHAT IT READS IS OF BULK AT MOST 1048576: true; the input reads as it did. -/
def frameJoinsUptoRow : OpenClaim := { program := "ytojepleodijdeaa", sum := "a095614351f9d45704210d93a46d6b3462d43f7b6807da11e274cd2d2f83db67", func := "tumbrel/tumbrellaw04.FrameJoins", spec := "frameJoins", apart := false, narrowed := true }
def FrameJoinsUptoSaid : Prop := frameJoinsUptoRow.holds Try.pinned (OpenSpec.upto frameJoinsSpec)

/-- 'tumbrellaw05.RecordTells', WHERE WHAT IT READS IS OF BULK AT MOST 1048576: true; the input reads as it did. -/
def recordTellsUptoRow : OpenClaim := { program := "ytojepleodijdeaa", sum := "a095614351f9d45704210d93a46d6b3462d43f7b6807da11e274cd2d2f83db67", func := "tumbrel/tumbrellaw05.RecordTells", spec := "recordTells", recurses := true, apart := false, narrowed := true }
def RecordTellsUptoSaid : Prop := recordTellsUptoRow.holds Try.pinned (OpenSpec.upto recordTellsSpec)

/-- 'tumbrellaw05.RecordLists', WHERE WHAT IT READS IS OF BULK AT MOST 1048576: true; the input reads as it did. -/
def recordListsUptoRow : OpenClaim := { program := "ytojepleodijdeaa", sum := "a095614351f9d45704210d93a46d6b3462d43f7b6807da11e274cd2d2f83db67", func := "tumbrel/tumbrellaw05.RecordLists", spec := "recordLists", apart := false, narrowed := true }
def RecordListsUptoSaid : Prop := recordListsUptoRow.holds Try.pinned (OpenSpec.upto recordListsSpec)

/-- 'tumbrellaw05.RecordTorn', WHERE WHAT IT READS IS OF BULK AT MOST 1048576: true; the input reads as it did. -/
def recordTornUptoRow : OpenClaim := { program := "ytojepleodijdeaa", sum := "a095614351f9d45704210d93a46d6b3462d43f7b6807da11e274cd2d2f83db67", func := "tumbrel/tumbrellaw05.RecordTorn", spec := "recordTorn", apart := false, narrowed := true }
def RecordTornUptoSaid : Prop := recordTornUptoRow.holds Try.pinned (OpenSpec.upto recordTornSpec)

/-- 'tumbrellaw05.RecordBack', WHERE WHAT IT READS IS OF BULK AT MOST 1048576: true; the input reads as it did. -/
def recordBackUptoRow : OpenClaim := { program := "ytojepleodijdeaa", sum := "a095614351f9d45704210d93a46d6b3462d43f7b6807da11e274cd2d2f83db67", func := "tumbrel/tumbrellaw05.RecordBack", spec := "recordBack", apart := false, narrowed := true }
def RecordBackUptoSaid : Prop := recordBackUptoRow.holds Try.pinned (OpenSpec.upto recordBackSpec)

end Rows
end Go.Proofs.Ytojepleodijdeaa
