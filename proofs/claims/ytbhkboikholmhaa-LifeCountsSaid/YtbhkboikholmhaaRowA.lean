/- A row's parameters: a slice of acts, opened. -/
import Derived.Test.YtbhkboikholmhaaL2
import Derived.WalkKit
import Derived.ProofKit
import Derived.OpenShut
import Derived.ChangeOld
import Derived.Deep.Slices
import Derived.ChangeSame
import Derived.Lib.SmallJoins
namespace Go.Proofs.Ytbhkboikholmhaa.B
open Go Go.ChangeShapes Go.WideShapes Go.ChangeAt Go.RowKit Go.Joins Go.Proofs.YtbhkboikholmhaaW.PrintWords Go.Proofs.YtbhkboikholmhaaW.PrintLast Go.Proofs.YtbhkboikholmhaaW.PrintMore
set_option linter.unusedVariables false
set_option linter.unusedSimpArgs false
variable {H : Type} {enc : TypeId × Value → H} {w : World} {fuel : Nat} {cs : List Value} {x : DataW H × List MemPlace}

theorem cells30 : Try.prog.cellsOf 30 = 4 := by kernel_rfl
set_option maxRecDepth 100000 in
/-- an act's cells, opened -/
theorem open_act (h : DataW.trod enc Try.prog w 0 (fun _ => true) true fuel 30 cs = some x) :
    ∃ f : S30, k30.K w f cs ∧ LP.wf30 f := by
  obtain ⟨y0, y1, y2, y3, n, _, hl, h0, h1, h2, h3⟩ := trod_struct4 Try.underlying30 h
  rw [cells30] at hl
  match cs, hl with
  | [v0, v1, v2, v3], _ =>
    have c3 : Try.prog.cellsOf 3 = 1 := by kernel_rfl
    have c22 : Try.prog.cellsOf 22 = 1 := by kernel_rfl
    simp only [c3, c22, List.drop, List.take] at h0 h1 h2 h3
    obtain ⟨a, e0, _, wa⟩ := DataW.trod_int Try.underlying3 h0
    obtain ⟨b, e1, _, wb⟩ := DataW.trod_int Try.underlying22 h1
    obtain ⟨c, e2, _, wc⟩ := DataW.trod_int Try.underlying22 h2
    obtain ⟨d, e3, _, wd⟩ := DataW.trod_int Try.underlying22 h3
    injection e0 with e0
    injection e1 with e1
    injection e2 with e2
    injection e3 with e3
    subst e0 e1 e2 e3
    exact ⟨⟨a, b, c, d⟩, k30_mk w ⟨a, b, c, d⟩, wa, wb, wc, wd⟩
/-- a slice of acts, opened -/
theorem open_acts (h : DataW.trod enc Try.prog w 0 (fun _ => true) true fuel 40 cs = some x) :
    ∃ (A : Option Addr) (c : Nat) (L : List S30), cs = [.slice A L.length c] ∧ L.length ≤ c ∧ k30.C w A L.length L ∧ ∀ f ∈ L, LP.wf30 f := by
  rcases Go.Deep.open_slice Try.underlying40 h with ⟨hcs, _⟩ | ⟨a, len, cap, m, n, D, Pl, hcs, _, hl, hm, hmm, _, hel⟩
  · exact ⟨none, 0, [], hcs, Nat.le_refl _, ⟨rfl, by simp, fun hn => absurd hn (by simp)⟩, fun f hf => by simp at hf⟩
  · have hlm : len ≤ m := by simp at hmm; omega
    have hx : ∀ i, ∃ f : S30, i < len → (∃ cs', w.cells? 0 (a.add (i * 4)) 4 = some cs' ∧ k30.K w f cs') ∧ LP.wf30 f := by
      intro i
      by_cases hi : i < len
      · obtain ⟨cs', h1, h2⟩ := hel i (by omega)
        rw [cells30] at h1
        obtain ⟨f, hf, w1⟩ := open_act h2
        exact ⟨f, fun _ => ⟨⟨cs', h1, hf⟩, w1⟩⟩
      · exact ⟨z30, fun h => absurd h hi⟩
    obtain ⟨F, hF⟩ := Classical.axiomOfChoice hx
    have hL : ((List.range len).map F).length = len := by simp
    refine ⟨some a, cap, (List.range len).map F, by rw [hL]; exact hcs, by omega, ⟨rfl, by rw [hL]; simp only [maxLen] at hm; omega, fun _ => ⟨a, rfl, ?_⟩⟩, ?_⟩
    · intro j p hj
      rw [List.getElem?_map] at hj
      obtain ⟨i, hi, rfl⟩ := Option.map_eq_some_iff.1 hj
      obtain ⟨hlt, hg⟩ := List.getElem?_eq_some_iff.1 hi
      rw [List.getElem_range] at hg
      subst hg
      rw [List.length_range] at hlt
      obtain ⟨⟨cs', hc, hK⟩, _⟩ := hF j hlt
      refine ⟨cs', k30.K_len hK, hK, fun i u hu => ?_⟩
      have hlen : cs'.length = 4 := k30.K_len hK
      have hs := (World.cells?_some hc).2
      have hi2 : i < 4 := by have := (List.getElem?_eq_some_iff.1 hu).1; omega
      have := hs.2 i hi2
      rw [hu] at this
      rw [← this]
      rw [_root_.Go.Addr.add_add]; rfl
    · intro f hf
      obtain ⟨i, hi, rfl⟩ := List.mem_map.1 hf
      exact (hF i (List.mem_range.1 hi)).2
end Go.Proofs.Ytbhkboikholmhaa.B
