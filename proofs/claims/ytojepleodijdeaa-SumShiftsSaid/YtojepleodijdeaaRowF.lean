/- A row's parameters: a slice of frames, opened. -/
import Derived.Test.YtojepleodijdeaaB0
import Derived.WalkKit
import Derived.ProofKit
import Derived.OpenShut
import Derived.ChangeOld
import Derived.Deep.Slices
import Derived.ChangeSame
import Derived.Lib.SmallJoins
namespace Go.Proofs.Ytojepleodijdeaa.B
open Go Go.ChangeShapes Go.WideShapes Go.ChangeAt Go.RowKit Go.Joins Go.Proofs.YtojepleodijdeaaW.PrintWords Go.Proofs.YtojepleodijdeaaW.PrintLast Go.Proofs.YtojepleodijdeaaW.PrintMore
set_option linter.unusedVariables false
set_option linter.unusedSimpArgs false
variable {H : Type} {enc : TypeId × Value → H} {w : World} {fuel : Nat} {cs : List Value} {x : DataW H × List MemPlace}

/-- bytes, opened -/
theorem open_bytes (h : DataW.trod enc Try.prog w 0 (fun _ => true) true fuel 23 cs = some x) :
    ∃ (A : Option Addr) (c : Nat) (l : List Int), cs = [.slice A l.length c] ∧ l.length ≤ c ∧ l.length ≤ maxLen ∧ (Kd.int .u8).C w A l.length l ∧ ∀ n ∈ l, (Lit.int .u8 n).wf = true := by
  obtain ⟨a, len, cap, z, hcs, w0⟩ : ∃ (a : Option Addr) (len cap : Nat) (zs : List Int), cs = [.slice a len cap] ∧ ((a = none ∧ len = 0 ∧ cap = 0 ∧ zs = []) ∨
    ∃ x, a = some x ∧ len ≤ cap ∧ cap ≤ maxLen ∧ zs.length = cap ∧ (∀ i, i < zs.length → w.cell? (x.add i) = some (.int .u8 (zs.getD i 0))) ∧ ∀ n ∈ zs, (Lit.int .u8 n).wf = true) := by
    rcases open_ints Try.underlying23 Try.underlying5 (by kernel_rfl) h with ⟨hcs, _⟩ | ⟨x, l, c, zs, hcs, _, hl, hm, hz, _, hcell, hwz⟩
    · exact ⟨none, 0, 0, [], hcs, .inl ⟨rfl, rfl, rfl, rfl⟩⟩
    · exact ⟨some x, l, c, zs, hcs, .inr ⟨_, rfl, hl, hm, by simpa using hz, hcell, hwz⟩⟩
  obtain ⟨l, rfl, hr, hm, hw, hc⟩ := ReadsInt.ofRowC w0
  exact ⟨a, cap, l, hcs, hc, hm, Kd.C_of_reads (d := (0 : Int)) (h1 := fun _ => rfl) hr, hw⟩
theorem cells56 : Try.prog.cellsOf 56 = 2 := by kernel_rfl
set_option maxRecDepth 100000 in
/-- a frame's cells, opened -/
theorem open_frame (h : DataW.trod enc Try.prog w 0 (fun _ => true) true fuel 56 cs = some x) :
    ∃ f : S56, k56.K w f cs ∧ (Lit.int .u8 f.f0).wf = true ∧ ∀ n ∈ f.f1, (Lit.int .u8 n).wf = true := by
  obtain ⟨y0, y1, n, _, hl, h0, h1⟩ := trod_struct2 Try.underlying56 h
  rw [cells56] at hl
  match cs, hl with
  | [v0, v1], _ =>
    have c5 : Try.prog.cellsOf 5 = 1 := by kernel_rfl
    have c23 : Try.prog.cellsOf 23 = 1 := by kernel_rfl
    simp only [c5, c23, List.drop, List.take] at h0 h1
    obtain ⟨a, e0, _, wa⟩ := DataW.trod_int Try.underlying5 h0
    obtain ⟨A, c, l, e1, hc, _, hC, hw⟩ := open_bytes h1
    injection e0 with e0
    injection e1 with e1
    subst e0 e1
    exact ⟨⟨a, l⟩, k56_mk w ⟨a, l⟩ hc hC, wa, hw⟩
/-- a slice of frames, opened -/
theorem open_frames (h : DataW.trod enc Try.prog w 0 (fun _ => true) true fuel 65 cs = some x) :
    ∃ (A : Option Addr) (c : Nat) (L : List S56), cs = [.slice A L.length c] ∧ L.length ≤ c ∧ k56.C w A L.length L ∧ ∀ f ∈ L, (Lit.int .u8 f.f0).wf = true ∧ ∀ n ∈ f.f1, (Lit.int .u8 n).wf = true := by
  rcases Go.Deep.open_slice Try.underlying65 h with ⟨hcs, _⟩ | ⟨a, len, cap, m, n, D, Pl, hcs, _, hl, hm, hmm, _, hel⟩
  · exact ⟨none, 0, [], hcs, Nat.le_refl _, ⟨rfl, by simp, fun hn => absurd hn (by simp)⟩, fun f hf => by simp at hf⟩
  · have hlm : len ≤ m := by simp at hmm; omega
    have hx : ∀ i, ∃ f : S56, i < len → (∃ cs', w.cells? 0 (a.add (i * 2)) 2 = some cs' ∧ k56.K w f cs') ∧ (Lit.int .u8 f.f0).wf = true ∧ ∀ n ∈ f.f1, (Lit.int .u8 n).wf = true := by
      intro i
      by_cases hi : i < len
      · obtain ⟨cs', h1, h2⟩ := hel i (by omega)
        rw [cells56] at h1
        obtain ⟨f, hf, w1, w2⟩ := open_frame h2
        exact ⟨f, fun _ => ⟨⟨cs', h1, hf⟩, w1, w2⟩⟩
      · exact ⟨z56, fun h => absurd h hi⟩
    obtain ⟨F, hF⟩ := Classical.axiomOfChoice hx
    have hL : ((List.range len).map F).length = len := by simp
    refine ⟨some a, cap, (List.range len).map F, by rw [hL]; exact hcs, by omega, ⟨rfl, by rw [hL]; simp only [maxLen] at hm; omega, fun _ => ⟨a, rfl, ?_⟩⟩, ?_⟩
    · intro j p hj
      rw [List.getElem?_map] at hj
      obtain ⟨i, hi, rfl⟩ := Option.map_eq_some_iff.1 hj
      obtain ⟨hlt, hg⟩ := List.getElem?_eq_some_iff.1 hi
      rw [List.getElem_range] at hg
      subst hg
      rw [List.length_range] at hlt
      obtain ⟨⟨cs', hc, hK⟩, _, _⟩ := hF j hlt
      refine ⟨cs', k56.K_len hK, hK, fun i u hu => ?_⟩
      have hlen : cs'.length = 2 := k56.K_len hK
      have hs := (World.cells?_some hc).2
      have hi2 : i < 2 := by have := (List.getElem?_eq_some_iff.1 hu).1; omega
      have := hs.2 i hi2
      rw [hu] at this
      rw [← this]
      rw [_root_.Go.Addr.add_add]; rfl
    · intro f hf
      obtain ⟨i, hi, rfl⟩ := List.mem_map.1 hf
      exact (hF i (List.mem_range.1 hi)).2
end Go.Proofs.Ytojepleodijdeaa.B
