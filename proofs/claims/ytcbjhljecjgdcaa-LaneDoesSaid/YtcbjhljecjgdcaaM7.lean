/- Own text: the reference's lane (a row of ids behind a pointer): Has, First; Same: the walks. -/
import Derived.Test.YtcbjhljecjgdcaaM6
import Derived.Deep.LoopGhost
set_option linter.unusedVariables false
set_option linter.unusedSimpArgs false
namespace Go.Proofs.Ytcbjhljecjgdcaa.L
open Go Go.RowKit Go.MapKept
open Go.ChangeMaps (setBlock)

def ints (l : List Int) : List Value := l.map (Value.int .u64)
/-- A slice of one's own that holds the numbers of l. -/
def Own64 (w : World) (base : Nat) (v : Value) (l : List Int) : Prop := w.ownsRow base 23 1 v l.length (ints l)
theorem Own64.form {w : World} {base : Nat} {v : Value} {l : List Int} (h : Own64 w base v l) :
    (v = .slice none 0 0 ∧ l = []) ∨ ∃ r c, v = .slice (some ⟨r, 0, none⟩) l.length c ∧ base ≤ r ∧ r < w.heap.size ∧ ∀ j, j < l.length → w.cell? ⟨r, j, none⟩ = some (.int .u64 (l.getD j 0)) := by
  have hc := h
  rcases h.2 with ⟨rfl, h0⟩ | ⟨r, c, cur, rfl, hb, hg, _⟩
  · exact .inl ⟨rfl, List.eq_nil_of_length_eq_zero h0⟩
  · refine .inr ⟨r, c, rfl, hb, (Array.getElem?_eq_some_iff.1 hg).1, fun j hj => ?_⟩
    have := World.ownsRow.cellAt hc j (by omega)
    rw [this]
    simp [ints, hj]
theorem Own64.frame {w w' : World} {base : Nat} {v : Value} {l : List Int} (h : Own64 w base v l) (hf : ∀ k, v.ownBlock = some k → w'.heap[k]? = w.heap[k]?) : Own64 w' base v l := by
  refine ⟨h.1, ?_⟩
  rcases h.2 with h2 | ⟨g, cap, cur, rfl, hb, hg, rest⟩
  · exact .inl h2
  · exact .inr ⟨g, cap, cur, rfl, hb, (hf g rfl).trans hg, rest⟩
theorem Own64.lt {w : World} {base : Nat} {v : Value} {l : List Int} (h : Own64 w base v l) : ∀ k, v.ownBlock = some k → base ≤ k ∧ k < w.heap.size := World.ownsRow.lt h
/-- The reference's lane: block g holds a slice of one's own. -/
structure Ref (w : World) (base g : Nat) (v : Value) (l : List Int) : Prop where
  box : Boxed w g 30 v
  own : Own64 w base v l
  base : base ≤ g
def rfoot (g : Nat) (v : Value) (k : Nat) : Prop := k = g ∨ v.ownBlock = some k
theorem Ref.lt {w : World} {base g : Nat} {v : Value} {l : List Int} (h : Ref w base g v l) {k : Nat} (hk : rfoot g v k) : base ≤ k ∧ k < w.heap.size := by
  rcases hk with rfl | hk
  · exact ⟨h.base, h.box.lt⟩
  · exact h.own.lt k hk
theorem Ref.frame {w w' : World} {base g : Nat} {v : Value} {l : List Int} (h : Ref w base g v l) (hf : ∀ k, rfoot g v k → w'.heap[k]? = w.heap[k]?) : Ref w' base g v l :=
  ⟨(hf g (.inl rfl)).trans h.box, h.own.frame fun k hk => hf k (.inr hk), h.base⟩
set_option maxHeartbeats 1000000 in
theorem rhas_calls (w : World) (base g : Nat) (v : Value) (l : List Int) (i : Int) (h : Ref w base g v l) (hl : l.length ≤ 100000) :
    Calls Try.prog 19 #[.pointer (some ⟨g, 0, none⟩), .int .u64 i] w fun e w' => e = .returned (.bool (decide (i ∈ l))) ∧ w' = w := by
  obtain ⟨R, hR⟩ : ∃ R, decide (i ∈ l) = R := ⟨_, rfl⟩
  rw [hR]
  have HR := Lib.hid hR
  clear hR
  have hb := h.box.cell
  rcases h.own.form with ⟨rfl, rfl⟩ | ⟨r, c, rfl, _, _, hc⟩
  · clear h
    go_enter Try.func19, Try.ntmps19
    go_wp2
    go_loop [5] (fun k => k = .int .i64 0) (fun _ => 0)
    case atStart => rfl
    case round =>
      obtain rfl := hrel
      go_wp2
      go_ret
      exact ⟨by rw [← HR.out]; rfl, rfl⟩
  · clear h
    have HC := Lib.hid hc
    clear hc
    go_enter Try.func19, Try.ntmps19
    go_wp2
    go_loop [5] (fun k => ∃ j : Nat, j ≤ l.length ∧ k = .int .i64 j ∧ i ∉ l.take j) (fun k => l.length - (intOf k).toNat)
    case atStart => exact ⟨0, by omega, rfl, by simp⟩
    case round =>
      obtain ⟨j, hj, rfl, hn⟩ := hrel
      have HN := Lib.hid hn
      clear hn
      by_cases hlt : j < l.length
      · have hcj := HC.out j hlt
        by_cases he : l.getD j 0 = i
        · have hin : i ∈ l := by rw [← he, List.getD_eq_getElem?_getD, List.getElem?_eq_getElem hlt]; simp
          have hb1 : (l.getD j 0 == i) = true := beq_iff_eq.2 he
          have HE := Lib.hid he
          clear he
          have HIN := Lib.hid hin
          clear hin
          generalize l.getD j 0 = u at *
          go_wp2
          go_ret
          exact ⟨by rw [← HR.out, decide_eq_true HIN.out]; rfl, rfl⟩
        · have hb1 : (l.getD j 0 == i) = false := beq_eq_false_iff_ne.2 he
          have hn2 : i ∉ l.take (j + 1) := by
            rw [List.take_succ_eq_append_getElem hlt]
            intro hm
            rcases List.mem_append.1 hm with hm | hm
            · exact HN.out hm
            · simp at hm; exact he (by rw [List.getD_eq_getElem?_getD, List.getElem?_eq_getElem hlt]; exact hm.symm)
          have HN2 := Lib.hid hn2
          clear hn2 he
          generalize l.getD j 0 = u at *
          go_wp2
          go_round
          case rel => exact ⟨j + 1, by omega, by go_num, HN2.out⟩
          case measure => simp [intOf]; omega
      · have hin : i ∉ l := by have := HN.out; rwa [List.take_of_length_le (by omega)] at this
        have HIN := Lib.hid hin
        clear hin
        go_wp2
        go_ret
        exact ⟨by rw [← HR.out, decide_eq_false HIN.out]; rfl, rfl⟩
set_option maxHeartbeats 1000000 in
theorem rfirst_calls (w : World) (base g : Nat) (v : Value) (l : List Int) (h : Ref w base g v l) :
    Calls Try.prog 15 #[.pointer (some ⟨g, 0, none⟩)] w fun e w' => e = .returned (.tuple #[.int .u64 (l.headD 0), .bool (!l.isEmpty)]) ∧ w' = w := by
  have hb := h.box.cell
  rcases h.own.form with ⟨rfl, rfl⟩ | ⟨r, c, rfl, _, _, hc⟩
  · clear h
    go_enter Try.func15, Try.ntmps15
    go_wp2
    go_ret2
    exact ⟨rfl, rfl⟩
  · clear h
    cases l with
    | nil =>
      clear hc
      go_enter Try.func15, Try.ntmps15
      go_wp2
      go_ret2
      exact ⟨rfl, rfl⟩
    | cons a l =>
      have hc0 : w.cell? ⟨r, 0, none⟩ = some (.int .u64 a) := hc 0 (by simp)
      have hd : 0 < (a :: l).length := by simp
      have hdi : (0 : Int) < ((a :: l).length : Int) := by simp
      have hd1 : (((a :: l).length : Int) == 0) = false := by simp; omega
      clear hc
      generalize (a :: l).length = n at *
      go_enter Try.func15, Try.ntmps15
      go_wp2
      go_ret2
      exact ⟨rfl, rfl⟩
end Go.Proofs.Ytcbjhljecjgdcaa.L
