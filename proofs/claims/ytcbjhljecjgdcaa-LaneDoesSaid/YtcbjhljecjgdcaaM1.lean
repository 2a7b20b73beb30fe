/- Own text: a map from numbers to nodes, told by the pairs that stand in it; a ring of nodes, told by its links. -/
import Derived.Test.YtcbjhljecjgdcaaProg
import Derived.Maps.Keyed
import Derived.Maps.Own
import Derived.Carry
import Derived.WalkKit
import Derived.OwnWalk
set_option linter.unusedVariables false
set_option linter.unusedSimpArgs false
namespace Go.Proofs.Ytcbjhljecjgdcaa.L
open Go Go.RowKit Go.MapKept
open Go.ChangeMaps (setBlock)

/-- A node's address. -/
def nd (x : Nat) : Value := .pointer (some ⟨x, 0, none⟩)
def pr (p : Int × Nat) : Value × Value := (.int .u64 p.1, nd p.2)
/-- Block m of w is a map in which just the pairs of L stand. -/
def MapIs (w : World) (m : Nat) (L : List (Int × Nat)) : Prop :=
  ∃ es clock, w.heap[m]? = some (.map es clock) ∧ (es.toList.map fun e => (e.key, e.val)).Perm (L.map pr) ∧ ∀ p ∈ L, (Lit.int .u64 p.1).wf = true
theorem MapIs.of_block {w w' : World} {m : Nat} {L : List (Int × Nat)} (h : MapIs w m L) (hb : w'.heap[m]? = w.heap[m]?) : MapIs w' m L := by
  obtain ⟨es, c, h1, h2, h3⟩ := h
  exact ⟨es, c, hb.trans h1, h2, h3⟩
theorem MapIs.lt {w : World} {m : Nat} {L : List (Int × Nat)} (h : MapIs w m L) : m < w.heap.size := by
  obtain ⟨es, c, h1, _⟩ := h
  exact (Array.getElem?_eq_some_iff.1 h1).1
theorem keyed23 : Maps.Keyed Try.prog 23 := Maps.int_keyed Try.underlying23
theorem key23 {i : Int} (h : (Lit.int .u64 i).wf = true) : keyOf Try.prog 23 (.int .u64 i) = some (.int .u64 i) := Maps.keyOf_int_mk Try.underlying23 h
theorem keys_wf {L : List (Int × Nat)} {es : Array MapEntry} (h2 : (es.toList.map fun e => (e.key, e.val)).Perm (L.map pr)) (h3 : ∀ p ∈ L, (Lit.int .u64 p.1).wf = true) : ∀ e ∈ es.toList, ∃ l, keyOf Try.prog 23 e.key = some l := by
  intro e he
  have : (e.key, e.val) ∈ L.map pr := h2.mem_iff.1 (List.mem_map.2 ⟨e, he, rfl⟩)
  obtain ⟨p, hp, e1⟩ := List.mem_map.1 this
  have : e.key = .int .u64 p.1 := by rw [← (Prod.mk.inj e1).1]
  rw [this]
  exact ⟨_, key23 (h3 p hp)⟩
theorem find_none {L : List (Int × Nat)} {es : Array MapEntry} (h2 : (es.toList.map fun e => (e.key, e.val)).Perm (L.map pr)) (h3 : ∀ p ∈ L, (Lit.int .u64 p.1).wf = true) (w : World) {i : Int} (hi : (Lit.int .u64 i).wf = true) (hn : i ∉ L.map Prod.fst) :
    (Instr.findKey 23 (.int .u64 i) es.toList).run Try.prog w = .ok none w := by
  rcases keyed23.find w (key23 hi) es.toList (keys_wf h2 h3) with ⟨h, _⟩ | ⟨j, e, _, h, hk⟩
  · exact h
  · exfalso
    have : (e.key, e.val) ∈ L.map pr := h2.mem_iff.1 (List.mem_map.2 ⟨e, List.mem_of_getElem? h, rfl⟩)
    obtain ⟨p, hp, e1⟩ := List.mem_map.1 this
    have e2 : Value.int .u64 p.1 = .int .u64 i := by rw [← hk, ← (Prod.mk.inj e1).1]
    injection e2 with _ e3
    exact hn (List.mem_map.2 ⟨p, hp, e3⟩)
theorem fst_inj : ∀ {L : List (Int × Nat)} (hu : (L.map Prod.fst).Nodup) {i : Int} {x y : Nat} (hx : (i, x) ∈ L) (hy : (i, y) ∈ L), x = y
  | [], _, _, _, _, hx, _ => by cases hx
  | p :: L, hu, i, x, y, hx, hy => by
    rw [List.map_cons, List.nodup_cons] at hu
    by_cases h1 : (i, x) = p
    · by_cases h2 : (i, y) = p
      · exact (Prod.mk.inj (h1.trans h2.symm)).2
      · exact absurd (List.mem_map.2 ⟨(i, y), (List.mem_cons.1 hy).resolve_left h2, by rw [← h1]⟩) hu.1
    · by_cases h2 : (i, y) = p
      · exact absurd (List.mem_map.2 ⟨(i, x), (List.mem_cons.1 hx).resolve_left h1, by rw [← h2]⟩) hu.1
      · exact fst_inj hu.2 ((List.mem_cons.1 hx).resolve_left h1) ((List.mem_cons.1 hy).resolve_left h2)
theorem find_some {L : List (Int × Nat)} {es : Array MapEntry} (h2 : (es.toList.map fun e => (e.key, e.val)).Perm (L.map pr)) (h3 : ∀ p ∈ L, (Lit.int .u64 p.1).wf = true) (hu : (L.map Prod.fst).Nodup) (w : World) {i : Int} {x : Nat} (hx : (i, x) ∈ L) :
    ∃ j e, (Instr.findKey 23 (.int .u64 i) es.toList).run Try.prog w = .ok (some (j, nd x)) w ∧ es.toList[j]? = some e ∧ e.key = .int .u64 i ∧ e.val = nd x := by
  have hi := h3 _ hx
  rcases keyed23.find w (key23 hi) es.toList (keys_wf h2 h3) with ⟨_, h⟩ | ⟨j, e, hr, h, hk⟩
  · exfalso
    have : pr (i, x) ∈ es.toList.map fun e => (e.key, e.val) := h2.mem_iff.2 (List.mem_map.2 ⟨_, hx, rfl⟩)
    obtain ⟨e, he, e1⟩ := List.mem_map.1 this
    exact h e he (Prod.mk.inj e1).1
  · have : (e.key, e.val) ∈ L.map pr := h2.mem_iff.1 (List.mem_map.2 ⟨e, List.mem_of_getElem? h, rfl⟩)
    obtain ⟨p, hp, e1⟩ := List.mem_map.1 this
    obtain ⟨e2, e3⟩ := Prod.mk.inj e1
    have e4 : Value.int .u64 p.1 = .int .u64 i := by rw [← hk, ← e2]
    injection e4 with _ e5
    obtain ⟨p1, p2⟩ := p
    subst e5
    obtain rfl := fst_inj hu hx hp
    exact ⟨j, e, by rw [hr, ← e3], h, hk, e3.symm⟩
/-- 'v, ok := m[i]', i not there. -/
theorem look_none {w : World} {m : Nat} {L : List (Int × Nat)} (h : MapIs w m L) {i : Int} (hi : (Lit.int .u64 i).wf = true) (hn : i ∉ L.map Prod.fst) :
    (Instr.lookup 41 (.map (some m)) (.int .u64 i) true).run Try.prog w = .ok (.tuple #[.pointer none, .bool false]) w := by
  obtain ⟨es, c, h1, h2, h3⟩ := h
  have hz : (zeroValue 42).run Try.prog w = .ok (.pointer none) w := Try.zeroValue42 w
  simp [Instr.lookup, run_underlying Try.underlying41, MapKept.run_getObj_map h1, keyed23.check w _ (key23 hi), find_none h2 h3 w hi hn, hz, Result.andThen]
/-- 'v, ok := m[i]', i there. -/
theorem look_some {w : World} {m : Nat} {L : List (Int × Nat)} (h : MapIs w m L) (hu : (L.map Prod.fst).Nodup) {i : Int} {x : Nat} (hx : (i, x) ∈ L) :
    (Instr.lookup 41 (.map (some m)) (.int .u64 i) true).run Try.prog w = .ok (.tuple #[nd x, .bool true]) w := by
  obtain ⟨es, c, h1, h2, h3⟩ := h
  obtain ⟨j, e, hr, _⟩ := find_some h2 h3 hu w hx
  simp [Instr.lookup, run_underlying Try.underlying41, MapKept.run_getObj_map h1, keyed23.check w _ (key23 (h3 _ hx)), hr, Result.andThen]
theorem heap_setBlock {w : World} {b : Nat} {o : Obj} (h : b < w.heap.size) : (setBlock w b o).heap[b]? = some o := by
  simp [setBlock, h]
theorem heap_setBlock_ne {w : World} {b : Nat} {o : Obj} {k : Nat} (h : k ≠ b) : (setBlock w b o).heap[k]? = w.heap[k]? := by
  simp [setBlock, Array.getElem?_setIfInBounds, Ne.symm h]
/-- 'm[i] = x', i not there. -/
theorem store_new {w : World} {m : Nat} {L : List (Int × Nat)} (h : MapIs w m L) {i : Int} (hi : (Lit.int .u64 i).wf = true) (hn : i ∉ L.map Prod.fst) (x : Nat) :
    ∃ o, (Instr.mapUpdate 41 (.map (some m)) (.int .u64 i) (nd x)).run Try.prog w = .ok () (setBlock w m o) ∧ MapIs (setBlock w m o) m (L ++ [(i, x)]) := by
  have hlt := h.lt
  obtain ⟨es, c, h1, h2, h3⟩ := h
  refine ⟨.map (es.push { key := .int .u64 i, val := nd x, born := c }) (c + 1), ?_, ⟨_, _, heap_setBlock hlt, ?_, ?_⟩⟩
  · simp [Instr.mapUpdate, run_underlying Try.underlying41, MapKept.run_getObj_map h1, keyed23.check w false (key23 hi), find_none h2 h3 w hi hn, MapKept.run_setObj_map _ h1, Result.andThen, setBlock]
  · simp only [Array.toList_push, List.map_append, List.map_cons, List.map_nil]
    exact h2.append (List.Perm.refl _)
  · intro p hp
    rcases List.mem_append.1 hp with hp | hp
    · exact h3 p hp
    · simp at hp; subst hp; exact hi
theorem perm_erase {α : Type} : ∀ (l : List α) (j : Nat) (h : j < l.length), l.Perm (l[j] :: l.eraseIdx j)
  | [], j, h => by simp at h
  | a :: l, 0, h => by simp
  | a :: l, j + 1, h => by
    have := perm_erase l j (by simpa using h)
    simp only [List.getElem_cons_succ, List.eraseIdx_cons_succ]
    exact (this.cons a).trans (List.Perm.swap _ _ _)
/-- 'delete(m, i)', i there. -/
theorem drop_some' {w : World} {m : Nat} {L1 L2 : List (Int × Nat)} {i : Int} {x : Nat} (h : MapIs w m (L1 ++ (i, x) :: L2)) (hu : ((L1 ++ (i, x) :: L2).map Prod.fst).Nodup) :
    ∃ o, (∀ ty, (Builtin.delete_ #[41, 23] ty #[.map (some m), .int .u64 i]).run Try.prog w = .ok (.tuple #[]) (setBlock w m o)) ∧ MapIs (setBlock w m o) m (L1 ++ L2) := by
  have hlt := h.lt
  obtain ⟨es, c, h1, h2, h3⟩ := h
  have hx : (i, x) ∈ L1 ++ (i, x) :: L2 := by simp
  obtain ⟨j, e, hr, hj, hk, hv⟩ := find_some h2 h3 hu w hx
  have hjl : j < es.toList.length := (List.getElem?_eq_some_iff.1 hj).1
  have hjs : j < es.size := by simpa using hjl
  have hsub : (es.eraseIdxIfInBounds j).toList = es.toList.eraseIdx j := by
    unfold Array.eraseIdxIfInBounds
    rw [dif_pos hjs]
    simp
  refine ⟨.map (es.eraseIdxIfInBounds j) c, ?_, ⟨_, _, heap_setBlock hlt, ?_, fun p hp => h3 p (by simp at hp ⊢; rcases hp with hp | hp <;> simp [hp])⟩⟩
  · intro ty
    simp [Builtin.delete_, run_underlying Try.underlying41, MapKept.run_getObj_map h1, keyed23.check w _ (key23 (h3 _ hx)), hr, MapKept.run_setObj_map _ h1, Result.andThen, setBlock]
  · rw [hsub]
    have e1 : (es.toList.map fun e => (e.key, e.val)).Perm (pr (i, x) :: (es.toList.eraseIdx j).map fun e => (e.key, e.val)) := by
      have := ((perm_erase es.toList j hjl).map fun e : MapEntry => (e.key, e.val))
      rw [List.map_cons] at this
      have e2 : es.toList[j] = e := (List.getElem?_eq_some_iff.1 hj).2
      rw [e2] at this
      have e3 : (e.key, e.val) = pr (i, x) := by rw [hk, hv]; rfl
      rw [e3] at this
      exact this
    have e2 : ((L1 ++ (i, x) :: L2).map pr).Perm (pr (i, x) :: (L1 ++ L2).map pr) := by
      rw [List.map_append, List.map_cons, List.map_append]
      exact List.perm_middle
    exact (e1.symm.trans (h2.trans e2)).cons_inv
theorem len_map {w : World} {m : Nat} {L : List (Int × Nat)} (h : MapIs w m L) (ty : TypeId) : (Builtin.len_ #[41] ty #[.map (some m)]).run Try.prog w = .ok (.int .i64 (L.length : Int)) w := by
  obtain ⟨es, c, h1, h2, h3⟩ := h
  have e1 : es.size = L.length := by have := h2.length_eq; simpa using this
  simp [Builtin.len_, run_underlying Try.underlying41, MapKept.run_getObj_map h1, Result.andThen, goInt, e1]
theorem made (w : World) : MapIs (w.alloc (.map #[] 0)) w.heap.size [] := ⟨#[], 0, (heap_alloc w _).1, by simp, by simp⟩
end Go.Proofs.Ytcbjhljecjgdcaa.L
