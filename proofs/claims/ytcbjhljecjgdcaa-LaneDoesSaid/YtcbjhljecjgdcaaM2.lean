/- Own text: a lane in memory: a ring of nodes with a map beside it. -/
import Derived.Test.YtcbjhljecjgdcaaM1
set_option linter.unusedVariables false
set_option linter.unusedSimpArgs false
namespace Go.Proofs.Ytcbjhljecjgdcaa.L
open Go Go.RowKit Go.MapKept
open Go.ChangeMaps (setBlock)

def Link (w : World) (u v : Nat) : Prop := w.cell? ⟨u, 1, none⟩ = some (nd v) ∧ w.cell? ⟨v, 0, none⟩ = some (nd u)
/-- From u on the nodes of the list, one behind the other. -/
def Ch (w : World) : Nat → List Nat → Prop
  | _, [] => True
  | u, v :: r => Link w u v ∧ Ch w v r
theorem Ch.append {w : World} : ∀ {A : List Nat} {u : Nat} {B : List Nat}, Ch w u (A ++ B) ↔ Ch w u A ∧ Ch w (A.getLastD u) B
  | [], u, B => by simp [Ch]
  | v :: A, u, B => by
    have := Ch.append (w := w) (A := A) (u := v) (B := B)
    simp only [List.cons_append, Ch, this, List.getLastD_cons, and_assoc]
theorem Ch.frame {w w' : World} : ∀ {A : List Nat} {u : Nat}, Ch w u A → (∀ s ∈ (u :: A).dropLast, w'.cell? ⟨s, 1, none⟩ = w.cell? ⟨s, 1, none⟩) → (∀ t ∈ A, w'.cell? ⟨t, 0, none⟩ = w.cell? ⟨t, 0, none⟩) → Ch w' u A
  | [], _, _, _, _ => trivial
  | v :: A, u, h, h1, h2 => by
    refine ⟨⟨(h1 u (by simp)).trans h.1.1, (h2 v (by simp)).trans h.1.2⟩, Ch.frame h.2 (fun s hs => h1 s ?_) (fun t ht => h2 t (by simp [ht]))⟩
    rw [List.dropLast_cons_of_ne_nil (by simp)]
    exact List.mem_cons_of_mem _ hs
/-- Block u of w is a row of cells, three at least, none of them frozen. -/
def Good (w : World) (u : Nat) : Prop := ∃ c T, w.heap[u]? = some (.cells c T (0, 0)) ∧ 3 ≤ c.size
theorem Good.lt {w : World} {u : Nat} (h : Good w u) : u < w.heap.size := by
  obtain ⟨c, T, h, _⟩ := h
  exact (Array.getElem?_eq_some_iff.1 h).1
theorem Good.frozen {w : World} {u : Nat} (h : Good w u) (o : Nat) : w.frozen? ⟨u, o, none⟩ = false := by
  obtain ⟨c, T, h, _⟩ := h
  simp [World.frozen?, h]
theorem Good.of_block {w w' : World} {u : Nat} (h : Good w u) (hb : w'.heap[u]? = w.heap[u]?) : Good w' u := by
  obtain ⟨c, T, h, hs⟩ := h
  exact ⟨c, T, hb.trans h, hs⟩
theorem Good.setCell {w : World} {u : Nat} (h : Good w u) (a : Addr) (v : Value) : Good (w.setCell a v) u := by
  obtain ⟨c, T, h, hs⟩ := h
  by_cases e : u = a.block
  · subst e
    obtain ⟨hlt, hk⟩ := Array.getElem?_eq_some_iff.1 h
    refine ⟨if a.spot.isSome = true then c else c.setIfInBounds a.off v, T, ?_, by split <;> simpa using hs⟩
    show (w.heap.modify a.block _)[a.block]? = _
    rw [Array.getElem?_eq_getElem (by rw [Array.size_modify]; exact hlt), Array.getElem_modify_self, hk]
  · exact ⟨c, T, (Below.heap_setCell _ _ _ _ e).trans h, hs⟩
theorem Good.cell {w : World} {u : Nat} (h : Good w u) {o : Nat} (ho : o < 3) : ∃ v, w.cell? ⟨u, o, none⟩ = some v := by
  obtain ⟨c, T, h, hs⟩ := h
  refine ⟨c[o], ?_⟩
  simp [World.cell?, h]
/-- A lane: block b its head, block m its map, L its ids and their nodes. -/
structure Lane (w : World) (b m : Nat) (L : List (Int × Nat)) : Prop where
  ring : Ch w b (L.map Prod.snd ++ [b])
  nodup : (b :: L.map Prod.snd).Nodup
  mb : m ∉ b :: L.map Prod.snd
  good : ∀ u ∈ b :: L.map Prod.snd, Good w u
  map : w.cell? ⟨b, 3, none⟩ = some (.map (some m))
  ids : ∀ p ∈ L, w.cell? ⟨p.2, 2, none⟩ = some (.int .u64 p.1)
  ents : MapIs w m L
  uniq : (L.map Prod.fst).Nodup
/-- Its blocks. -/
def foot (b m : Nat) (L : List (Int × Nat)) (k : Nat) : Prop := k = m ∨ k ∈ b :: L.map Prod.snd
theorem Lane.lt {w : World} {b m : Nat} {L : List (Int × Nat)} (h : Lane w b m L) {k : Nat} (hk : foot b m L k) : k < w.heap.size := by
  rcases hk with rfl | hk
  · exact h.ents.lt
  · exact (h.good k hk).lt
theorem Lane.frame {w w' : World} {b m : Nat} {L : List (Int × Nat)} (h : Lane w b m L) (hf : ∀ k, foot b m L k → w'.heap[k]? = w.heap[k]?) : Lane w' b m L := by
  have hc : ∀ u ∈ b :: L.map Prod.snd, ∀ o, w'.cell? ⟨u, o, none⟩ = w.cell? ⟨u, o, none⟩ := fun u hu o => World.cell?_of_block (hf u (.inr hu))
  refine ⟨h.ring.frame (fun s hs => hc s ?_ 1) (fun t ht => hc t ?_ 0), h.nodup, h.mb, fun u hu => (h.good u hu).of_block (hf u (.inr hu)), (hc b (by simp) 3).trans h.map, fun p hp => (hc p.2 ?_ 2).trans (h.ids p hp), h.ents.of_block (hf m (.inl rfl)), h.uniq⟩
  · have := List.dropLast_subset _ hs
    simp at this ⊢
    rcases this with h | h | h <;> simp [h]
  · simp at ht ⊢
    rcases ht with h | h <;> simp [h]
  · exact List.mem_cons_of_mem _ (List.mem_map.2 ⟨p, hp, rfl⟩)
/-- Nothing but the blocks of S has turned. -/
structure Only (S : Nat → Prop) (w w' : World) : Prop where
  os : w'.os = w.os
  tape : w'.tape = w.tape
  output : w'.output = w.output
  size : w.heap.size ≤ w'.heap.size
  block : ∀ k, k < w.heap.size → ¬ S k → w'.heap[k]? = w.heap[k]?
theorem Only.refl (S : Nat → Prop) (w : World) : Only S w w := ⟨rfl, rfl, rfl, Nat.le_refl _, fun _ _ _ => rfl⟩
theorem Only.trans {S : Nat → Prop} {a b c : World} (h : Only S a b) (k : Only S b c) : Only S a c :=
  ⟨k.os.trans h.os, k.tape.trans h.tape, k.output.trans h.output, Nat.le_trans h.size k.size, fun i hi hn => (k.block i (Nat.lt_of_lt_of_le hi h.size) hn).trans (h.block i hi hn)⟩
theorem Only.mono {S T : Nat → Prop} {w w' : World} (h : Only S w w') (hs : ∀ k, k < w.heap.size → S k → T k) : Only T w w' := ⟨h.os, h.tape, h.output, h.size, fun k hk hn => h.block k hk fun hs' => hn (hs k hk hs')⟩
theorem Only.drew {S : Nat → Prop} {a w : World} (h : Only S a w) : Only S a w.drew := ⟨h.os, h.tape, h.output, h.size, h.block⟩
theorem Only.alloc {S : Nat → Prop} {a w : World} (h : Only S a w) (o : Obj) : Only S a (w.alloc o) :=
  ⟨h.os, h.tape, h.output, Nat.le_trans h.size (by simp), fun k hk hn => (Below.heap_alloc _ _ _ (Nat.lt_of_lt_of_le hk h.size)).trans (h.block k hk hn)⟩
theorem Only.setCell {S : Nat → Prop} {a w : World} (h : Only S a w) {p : Addr} (hp : p.block < a.heap.size → S p.block) (u : Value) : Only S a (w.setCell p u) :=
  ⟨h.os, h.tape, h.output, by simpa [World.setCell] using h.size, fun k hk hn => (Below.heap_setCell _ _ _ _ (fun e => by subst e; exact hn (hp hk))).trans (h.block k hk hn)⟩
theorem Only.setBlock {S : Nat → Prop} {a w : World} (h : Only S a w) {m : Nat} (hm : m < a.heap.size → S m) (o : Obj) : Only S a (setBlock w m o) :=
  ⟨h.os, h.tape, h.output, by simpa [ChangeMaps.setBlock] using h.size, fun k hk hn => (heap_setBlock_ne (fun e => by subst e; exact hn (hm hk))).trans (h.block k hk hn)⟩
theorem Only.below {S : Nat → Prop} {w w' : World} (h : Only S w w') {B : Nat} (hB : B ≤ w.heap.size) (hS : ∀ k, k < B → ¬ S k) : Below B w w' := ⟨h.os, h.tape, h.output, h.size, fun k hk => h.block k (by omega) (hS k hk)⟩
theorem Below.only {w w' : World} (h : Below w.heap.size w w') (S : Nat → Prop) : Only S w w' := ⟨h.os, h.tape, h.output, h.size, fun k hk _ => h.block k hk⟩
theorem Only.lane {S : Nat → Prop} {w w' : World} (h : Only S w w') {b m : Nat} {L : List (Int × Nat)} (hl : Lane w b m L) (hS : ∀ k, foot b m L k → ¬ S k) : Lane w' b m L :=
  hl.frame fun k hk => h.block k (hl.lt hk) (hS k hk)
/-- A store: the cell itself, and any other. -/
theorem set_same {w : World} {u o : Nat} {v : Value} (h : Good w u) (ho : o < 3) : (w.setCell ⟨u, o, none⟩ v).cell? ⟨u, o, none⟩ = some v := by
  obtain ⟨x, hx⟩ := h.cell ho
  exact World.cell?_setCell_same' _ _ _ (by rw [hx]; rfl)
theorem set_ne {w : World} {u o u' o' : Nat} {v : Value} (h : u ≠ u' ∨ o ≠ o') : (w.setCell ⟨u, o, none⟩ v).cell? ⟨u', o', none⟩ = w.cell? ⟨u', o', none⟩ := by
  by_cases e : u' = u
  · subst e
    have ho : o ≠ o' := h.resolve_left (fun h => h rfl)
    simp only [World.cell?, World.setCell, Array.getElem?_modify]
    simp only [if_true]
    cases w.heap[u']? with
    | none => rfl
    | some x => cases x <;> simp [Option.map, Array.getElem?_setIfInBounds, ho]
  · exact World.cell?_of_block (Below.heap_setCell _ _ _ _ e)
end Go.Proofs.Ytcbjhljecjgdcaa.L
