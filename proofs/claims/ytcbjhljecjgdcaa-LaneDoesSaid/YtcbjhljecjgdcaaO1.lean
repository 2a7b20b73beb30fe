/- Own text: a row's parameters: a slice of ids, a slice of acts, opened. -/
import Derived.Test.YtcbjhljecjgdcaaN5
import Derived.ProofKit
import Derived.OpenShut
import Derived.ChangeOld
import Derived.Deep.Slices
import Derived.ChangeSame
import Derived.Lib.SmallJoins
set_option linter.unusedVariables false
set_option linter.unusedSimpArgs false
namespace Go.Proofs.Ytcbjhljecjgdcaa.L
open Go Go.ChangeShapes Go.WideShapes Go.ChangeAt Go.RowKit Go.Joins
variable {H : Type} {enc : TypeId × Value → H} {w : World} {fuel : Nat} {cs : List Value} {x : DataW H × List MemPlace}

theorem addr_plain {w : World} {a : Addr} {v : Value} (h : w.cell? a = some v) : a = ⟨a.block, a.off, none⟩ ∧ a.block < w.heap.size := by
  obtain ⟨b, o, s⟩ := a
  unfold World.cell? at h
  split at h
  · rename_i hb
    refine ⟨?_, (Array.getElem?_eq_some_iff.1 hb).1⟩
    split at h
    · cases h
    · rename_i hs
      cases s with
      | none => rfl
      | some s => simp at hs
  · cases h
theorem add_plain (r o n : Nat) : (⟨r, o, none⟩ : Addr).add n = ⟨r, o + n, none⟩ := by
  unfold Addr.add
  split
  · subst_vars; rfl
  · rfl
theorem cells32 : Try.prog.cellsOf 32 = 2 := by kernel_rfl
set_option maxRecDepth 100000 in
/-- an act's cells, opened -/
theorem open_act (h : DataW.trod enc Try.prog w 0 (fun _ => true) true fuel 32 cs = some x) :
    ∃ p : Int × Int, cs = [.int .i64 p.1, .int .u64 p.2] ∧ (Lit.int .u64 p.2).wf = true := by
  obtain ⟨y0, y1, n, _, hl, h0, h1⟩ := trod_struct2 Try.underlying32 h
  rw [cells32] at hl
  match cs, hl with
  | [v0, v1], _ =>
    have c3 : Try.prog.cellsOf 3 = 1 := by kernel_rfl
    have c23 : Try.prog.cellsOf 23 = 1 := by kernel_rfl
    simp only [c3, c23, List.drop, List.take] at h0 h1
    obtain ⟨a, e0, _, wa⟩ := DataW.trod_int Try.underlying3 h0
    obtain ⟨b, e1, _, wb⟩ := DataW.trod_int Try.underlying23 h1
    injection e0 with e0
    injection e1 with e1
    subst e0 e1
    exact ⟨(a, b), rfl, wb⟩
/-- a slice of acts, opened -/
theorem open_acts (h : DataW.trod enc Try.prog w 0 (fun _ => true) true fuel 22 cs = some x) :
    ∃ (A : Option Addr) (c : Nat) (L : List (Int × Int)), cs = [.slice A L.length c] ∧ L.length ≤ maxLen ∧ ActsIs w A L ∧ ∀ p ∈ L, (Lit.int .u64 p.2).wf = true := by
  rcases Go.Deep.open_slice Try.underlying22 h with ⟨hcs, _⟩ | ⟨a, len, cap, m, n, D, Pl, hcs, _, hl, hm, hmm, _, hel⟩
  · exact ⟨none, 0, [], hcs, by decide, .inl rfl, fun f hf => by simp at hf⟩
  · have hlm : len ≤ m := by simp at hmm; omega
    have hx : ∀ i, ∃ p : Int × Int, i < len → (w.cell? (a.add (i * 2)) = some (.int .i64 p.1) ∧ w.cell? ((a.add (i * 2)).add 1) = some (.int .u64 p.2)) ∧ (Lit.int .u64 p.2).wf = true := by
      intro i
      by_cases hi : i < len
      · obtain ⟨cs', h1, h2⟩ := hel i (by omega)
        rw [cells32] at h1
        obtain ⟨p, rfl, w1⟩ := open_act h2
        obtain ⟨_, _, h3⟩ := World.cells?_some h1
        exact ⟨p, fun _ => ⟨⟨h3 0 (by decide), h3 1 (by decide)⟩, w1⟩⟩
      · exact ⟨(0, 0), fun h => absurd h hi⟩
    obtain ⟨F, hF⟩ := Classical.axiomOfChoice hx
    have hL : ((List.range len).map F).length = len := by simp
    have hg : ∀ j, j < len → ((List.range len).map F).getD j (0, 0) = F j := fun j hj => by simp [List.getD_eq_getElem?_getD, hj]
    refine ⟨some a, cap, (List.range len).map F, by rw [hL]; exact hcs, by rw [hL]; omega, ?_, ?_⟩
    · by_cases h0 : len = 0
      · exact .inl (by rw [h0]; rfl)
      · have := (hF 0 (by omega)).1.1
        rw [Nat.zero_mul, show a.add 0 = a from rfl] at this
        obtain ⟨ea, hb⟩ := addr_plain this
        refine .inr ⟨a.block, a.off, by rw [← ea], hb, fun j hj => ?_⟩
        rw [hL] at hj
        have h1 := (hF j hj).1
        rw [ea, add_plain, add_plain] at h1
        rw [hg j hj]
        exact h1
    · intro p hp
      obtain ⟨i, hi, rfl⟩ := List.mem_map.1 hp
      exact (hF i (List.mem_range.1 hi)).2
/-- a slice of ids, opened -/
theorem open_ids (h : DataW.trod enc Try.prog w 0 (fun _ => true) true fuel 28 cs = some x) :
    ∃ (A : Option Addr) (c : Nat) (L : List Int), cs = [.slice A L.length c] ∧ L.length ≤ maxLen ∧ ArgIs w A L ∧ wfs L := by
  rcases open_ints Try.underlying28 Try.underlying23 (by kernel_rfl) h with ⟨hcs, _⟩ | ⟨a, len, cap, zs, hcs, _, hl, hm, hz, _, hcell, hwz⟩
  · exact ⟨none, 0, [], hcs, by decide, .inl rfl, fun f hf => by simp at hf⟩
  · have hzl : zs.length = cap := by simpa using hz
    have hL : (zs.take len).length = len := by simp; omega
    refine ⟨some a, cap, zs.take len, by rw [hL]; exact hcs, by rw [hL]; omega, ?_, fun p hp => hwz p (List.mem_of_mem_take hp)⟩
    by_cases h0 : len = 0
    · exact .inl (by rw [h0]; rfl)
    · have := hcell 0 (by omega)
      rw [show a.add 0 = a from rfl] at this
      obtain ⟨ea, hb⟩ := addr_plain this
      refine .inr ⟨a.block, a.off, by rw [← ea], hb, fun j hj => ?_⟩
      rw [hL] at hj
      have h1 := hcell j (by omega)
      rw [ea, add_plain] at h1
      rw [h1]
      congr 2
      simp [List.getD_eq_getElem?_getD, hj]
end Go.Proofs.Ytcbjhljecjgdcaa.L
