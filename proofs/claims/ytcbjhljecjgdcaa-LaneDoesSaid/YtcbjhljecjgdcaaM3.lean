/- Own text: lane.New, Has, Len, Put, Drop: the walks. -/
import Derived.Test.YtcbjhljecjgdcaaM2
import Derived.BigRegion
import Derived.BigQuiet
import Derived.Deep.QuietTactic
import Derived.Deep.RegionHeld3
import Derived.Lib.Hide
import Derived.StillTailTactics
set_option linter.unusedVariables false
set_option linter.unusedSimpArgs false
namespace Go.Proofs.Ytcbjhljecjgdcaa.L
open Go Go.RowKit Go.MapKept
open Go.ChangeMaps (setBlock)

set_option maxHeartbeats 1000000 in
theorem has_calls (w : World) (b m : Nat) (L : List (Int × Nat)) (i : Int) (hi : (Lit.int .u64 i).wf = true) (h : Lane w b m L) :
    Calls Try.prog 18 #[.pointer (some ⟨b, 0, none⟩), .int .u64 i] w fun e w' => e = .returned (.bool (decide (i ∈ L.map Prod.fst))) ∧ w' = w := by
  have hm := h.map
  by_cases hin : i ∈ L.map Prod.fst
  · obtain ⟨⟨j, x⟩, hp, rfl⟩ := List.mem_map.1 hin
    have hl := look_some h.ents h.uniq hp
    rw [decide_eq_true hin]
    clear h hin hp hi
    go_enter Try.func18, Try.ntmps18
    go_wp2
    go_ret
    exact ⟨rfl, rfl⟩
  · have hl := look_none h.ents hi hin
    rw [decide_eq_false hin]
    clear h hin hi
    go_enter Try.func18, Try.ntmps18
    go_wp2
    go_ret
    exact ⟨rfl, rfl⟩
set_option maxHeartbeats 1000000 in
theorem len_calls (w : World) (b m : Nat) (L : List (Int × Nat)) (h : Lane w b m L) :
    Calls Try.prog 20 #[.pointer (some ⟨b, 0, none⟩)] w fun e w' => e = .returned (.int .i64 L.length) ∧ w' = w := by
  have hm := h.map
  have hl := len_map h.ents
  clear h
  go_enter Try.func20, Try.ntmps20
  go_wp2
  go_ret
  exact ⟨rfl, rfl⟩
theorem new_lane (w : World) : Lane ((w.alloc (.map #[] 0)).alloc (.cells #[.pointer (some ⟨w.heap.size + 1, 0, none⟩), .pointer (some ⟨w.heap.size + 1, 0, none⟩), .int .u64 0, .map (some w.heap.size)] 48)).drew (w.heap.size + 1) w.heap.size [] := by
  have hb : ((w.alloc (.map #[] 0)).alloc (.cells #[.pointer (some ⟨w.heap.size + 1, 0, none⟩), .pointer (some ⟨w.heap.size + 1, 0, none⟩), .int .u64 0, .map (some w.heap.size)] 48)).drew.heap[w.heap.size + 1]? = some (.cells #[.pointer (some ⟨w.heap.size + 1, 0, none⟩), .pointer (some ⟨w.heap.size + 1, 0, none⟩), .int .u64 0, .map (some w.heap.size)] 48) := by
    have := (heap_alloc (w.alloc (.map #[] 0)) (.cells #[.pointer (some ⟨w.heap.size + 1, 0, none⟩), .pointer (some ⟨w.heap.size + 1, 0, none⟩), .int .u64 0, .map (some w.heap.size)] 48)).1
    rw [World.size_alloc] at this
    exact this
  have hc : ∀ o v, (#[Value.pointer (some ⟨w.heap.size + 1, 0, none⟩), .pointer (some ⟨w.heap.size + 1, 0, none⟩), .int .u64 0, .map (some w.heap.size)] : Array Value)[o]? = some v → ((w.alloc (.map #[] 0)).alloc (.cells #[.pointer (some ⟨w.heap.size + 1, 0, none⟩), .pointer (some ⟨w.heap.size + 1, 0, none⟩), .int .u64 0, .map (some w.heap.size)] 48)).drew.cell? ⟨w.heap.size + 1, o, none⟩ = some v := by
    intro o v ho
    unfold World.cell?
    simp only [show ((w.alloc (.map #[] 0)).alloc (.cells #[.pointer (some ⟨w.heap.size + 1, 0, none⟩), .pointer (some ⟨w.heap.size + 1, 0, none⟩), .int .u64 0, .map (some w.heap.size)] 48)).drew.heap[w.heap.size + 1]? = _ from hb]
    exact ho
  refine ⟨⟨⟨?_, ?_⟩, trivial⟩, by simp, by simp, ?_, ?_, by simp, (made w).of_block ?_, by simp⟩
  · exact hc 1 _ rfl
  · exact hc 0 _ rfl
  · intro u hu
    simp at hu
    subst hu
    exact ⟨_, _, hb, by simp⟩
  · exact hc 3 _ rfl
  · exact Below.heap_alloc _ _ _ (by simp)
set_option maxHeartbeats 1000000 in
theorem new_calls (w : World) :
    Calls Try.prog 7 #[] w fun e w' => ∃ b m, e = .returned (.pointer (some ⟨b, 0, none⟩)) ∧ Lane w' b m [] ∧ Only (fun _ => False) w w' ∧ w.heap.size ≤ b ∧ w.heap.size ≤ m := by
  go_enter Try.func7, Try.ntmps7
  have hmm := @run_makeMap Try.prog
  go_wp2
  go_region
  all_goals go_wp2
  go_ret
  refine ⟨w.heap.size + 1, w.heap.size, rfl, new_lane w, (((Only.refl _ w).alloc _).alloc _).drew, by omega, by omega⟩
theorem put_old (w : World) (b m : Nat) (L : List (Int × Nat)) (i : Int) (hi : (Lit.int .u64 i).wf = true) (h : Lane w b m L) (hin : i ∈ L.map Prod.fst) :
    Calls Try.prog 8 #[.pointer (some ⟨b, 0, none⟩), .int .u64 i] w fun e w' => e = .returned (.bool false) ∧ w' = w := by
  have HC := has_calls w b m L i hi h
  rw [decide_eq_true hin] at HC
  clear h hin hi
  go_enter Try.func8, Try.ntmps8
  go_wp2_with (go_at_call 18; refine HC.mono ?_; rintro e w' ⟨rfl, rfl⟩)
  go_ret
  exact ⟨rfl, rfl⟩
/-- The last node, or the head. -/
def lastB (b : Nat) (L : List (Int × Nat)) : Nat := (L.map Prod.snd).getLastD b
theorem lastD_mem : ∀ (A : List Nat) (b : Nat), A.getLastD b ∈ b :: A
  | [], b => by simp
  | a :: A, b => by
    rw [List.getLastD_cons]
    exact List.mem_cons_of_mem _ (lastD_mem A a)
theorem cons_lastD : ∀ (A : List Nat) (b : Nat), (b :: A).dropLast ++ [A.getLastD b] = b :: A
  | [], b => rfl
  | a :: A, b => by
    rw [List.dropLast_cons_of_ne_nil (by simp), List.getLastD_cons, List.cons_append, cons_lastD A a]
theorem lastB_mem (b : Nat) (L : List (Int × Nat)) : lastB b L ∈ b :: L.map Prod.snd := lastD_mem _ _
/-- What heads a lane: its last node. -/
theorem Lane.last {w : World} {b m : Nat} {L : List (Int × Nat)} (h : Lane w b m L) : w.cell? ⟨b, 0, none⟩ = some (nd (lastB b L)) := (Ch.append.1 h.ring).2.1.2
theorem not_dropLast {A : List Nat} {b : Nat} (h : (b :: A).Nodup) : A.getLastD b ∉ (b :: A).dropLast := by
  rw [← cons_lastD A b] at h
  have := (List.nodup_append.1 h).2.2
  intro hm
  exact this _ hm _ (by simp) rfl
theorem put_lane {w W1 : World} {b m : Nat} {L : List (Int × Nat)} {i : Int} (h : Lane w b m L)
    (hb : ∀ k, k < w.heap.size → W1.heap[k]? = w.heap[k]?) (hX : W1.heap[w.heap.size]? = some (.cells #[nd (lastB b L), nd b, .int .u64 i] 46)) {W4 : World}
    (hM : MapIs W4 m (L ++ [(i, w.heap.size)])) (hin : i ∉ L.map Prod.fst)
    (h4 : ∀ k, k ≠ m → W4.heap[k]? = ((W1.setCell ⟨lastB b L, 1, none⟩ (nd w.heap.size)).setCell ⟨b, 0, none⟩ (nd w.heap.size)).heap[k]?) : Lane W4 b m (L ++ [(i, w.heap.size)]) := by
  have hl : Lane W1 b m L := h.frame fun k hk => hb k (h.lt hk)
  have hne : ∀ k, foot b m L k → k ≠ w.heap.size := fun k hk => Nat.ne_of_lt (h.lt hk)
  have hxm : w.heap.size ≠ m := (hne m (.inl rfl)).symm
  have hxb : w.heap.size ≠ b := (hne b (.inr (by simp))).symm
  have hx4 : ∀ u o, u ≠ m → W4.cell? ⟨u, o, none⟩ = ((W1.setCell ⟨lastB b L, 1, none⟩ (nd w.heap.size)).setCell ⟨b, 0, none⟩ (nd w.heap.size)).cell? ⟨u, o, none⟩ := fun u o hu => World.cell?_of_block (h4 u hu)
  have hnm : ∀ u ∈ b :: L.map Prod.snd, u ≠ m := fun u hu e => h.mb (e ▸ hu)
  have hlm := lastB_mem b L
  have gx : Good W1 w.heap.size := ⟨_, _, hX, by simp⟩
  have hx0 : W1.cell? ⟨w.heap.size, 0, none⟩ = some (nd (lastB b L)) := by simp [World.cell?, show W1.heap[w.heap.size]? = _ from hX]
  have hx1 : W1.cell? ⟨w.heap.size, 1, none⟩ = some (nd b) := by simp [World.cell?, show W1.heap[w.heap.size]? = _ from hX]
  have hx2 : W1.cell? ⟨w.heap.size, 2, none⟩ = some (.int .u64 i) := by simp [World.cell?, show W1.heap[w.heap.size]? = _ from hX]
  have gl := hl.good _ hlm
  have gb := hl.good b (by simp)
  have good4 : ∀ u, u ≠ m → Good W1 u → Good W4 u := fun u hu hg => ((hg.setCell _ _).setCell _ _).of_block (h4 u hu)
  have hA : ∀ u ∈ L.map Prod.snd, u ≠ b := fun u hu e => (List.nodup_cons.1 h.nodup).1 (e ▸ hu)
  refine ⟨?_, ?_, ?_, ?_, ?_, ?_, hM, ?_⟩
  · rw [List.map_append, List.append_assoc]
    refine Ch.append.2 ⟨(Ch.append.1 hl.ring).1.frame ?_ ?_, ⟨?_, ?_⟩, ⟨?_, ?_⟩, trivial⟩
    · intro s hs
      have hsm := List.dropLast_subset _ hs
      have hsl : s ≠ lastB b L := fun e => not_dropLast h.nodup (by rw [e] at hs; exact hs)
      rw [hx4 s 1 (hnm s hsm), set_ne (.inr (by decide)), set_ne (.inl (Ne.symm hsl))]
    · intro t ht
      rw [hx4 t 0 (hnm t (by simp [ht])), set_ne (.inl (Ne.symm (hA t ht))), set_ne (.inr (by decide))]
    · show W4.cell? ⟨lastB b L, 1, none⟩ = _
      rw [hx4 _ 1 (hnm _ hlm), set_ne (.inr (by decide)), set_same gl (by decide)]
    · show W4.cell? ⟨w.heap.size, 0, none⟩ = _
      rw [hx4 _ 0 hxm, set_ne (.inl (Ne.symm hxb)), set_ne (.inr (by decide)), hx0]; rfl
    · rw [hx4 _ 1 hxm, set_ne (.inr (by decide)), set_ne (.inl (hne _ (.inr hlm))), hx1]
    · rw [hx4 _ 0 (hnm b (by simp)), set_same (gb.setCell _ _) (by decide)]
  · rw [List.map_append, ← List.cons_append]
    refine List.nodup_append.2 ⟨h.nodup, by simp, fun u hu v hv e => ?_⟩
    simp at hv
    subst hv
    exact hne u (.inr hu) e
  · rw [List.map_append, ← List.cons_append]
    intro hm
    rcases List.mem_append.1 hm with hm | hm
    · exact h.mb hm
    · simp at hm; exact hxm hm.symm
  · intro u hu
    rw [List.map_append, ← List.cons_append] at hu
    rcases List.mem_append.1 hu with hu | hu
    · exact good4 u (hnm u hu) (hl.good u hu)
    · simp at hu; subst hu; exact good4 _ hxm gx
  · rw [hx4 b 3 (hnm b (by simp)), set_ne (.inr (by decide)), set_ne (.inr (by decide)), hl.map]
  · intro p hp
    rcases List.mem_append.1 hp with hp | hp
    · rw [hx4 p.2 2 (hnm _ (List.mem_cons_of_mem _ (List.mem_map.2 ⟨p, hp, rfl⟩))), set_ne (.inr (by decide)), set_ne (.inr (by decide)), hl.ids p hp]
    · simp at hp; subst hp
      rw [hx4 _ 2 hxm, set_ne (.inr (by decide)), set_ne (.inr (by decide)), hx2]
  · rw [List.map_append]
    refine List.nodup_append.2 ⟨h.uniq, by simp, fun u hu v hv e => ?_⟩
    simp at hv
    subst hv
    subst e
    exact hin hu
set_option maxHeartbeats 4000000 in
theorem put_new (w : World) (b m : Nat) (L : List (Int × Nat)) (i : Int) (hi : (Lit.int .u64 i).wf = true) (h : Lane w b m L) (hin : i ∉ L.map Prod.fst) :
    Calls Try.prog 8 #[.pointer (some ⟨b, 0, none⟩), .int .u64 i] w fun e w' => ∃ x, e = .returned (.bool true) ∧ w.heap.size ≤ x ∧ Lane w' b m (L ++ [(i, x)]) ∧ Only (foot b m L) w w' := by
  have HC := has_calls w b m L i hi h
  rw [decide_eq_false hin] at HC
  have hp := h.last
  have hlm := lastB_mem b L
  have hgl := h.good _ hlm
  have hgb := h.good b (by simp)
  obtain ⟨W1, hW1⟩ : ∃ W1, (w.alloc (.cells #[.pointer (some ⟨lastB b L, 0, none⟩), .pointer (some ⟨b, 0, none⟩), .int .u64 i] 46)).drew = W1 := ⟨_, rfl⟩
  have hb1 : ∀ k, k < w.heap.size → W1.heap[k]? = w.heap[k]? := fun k hk => by rw [← hW1]; exact Below.heap_alloc _ _ _ hk
  have hx1 : W1.heap[w.heap.size]? = some (.cells #[nd (lastB b L), nd b, .int .u64 i] 46) := by rw [← hW1]; exact (heap_alloc _ _).1
  have ho1 : Only (foot b m L) w W1 := by rw [← hW1]; exact ((Only.refl _ w).alloc _).drew
  obtain ⟨x, hx⟩ : ∃ x, w.heap.size = x := ⟨_, rfl⟩
  have hgl1 : Good W1 (lastB b L) := hgl.of_block (hb1 _ hgl.lt)
  have hgb1 : Good W1 b := hgb.of_block (hb1 _ hgb.lt)
  have hc0 : W1.cell? ⟨x, 0, none⟩ = some (.pointer (some ⟨lastB b L, 0, none⟩)) := by rw [← hx]; simp [World.cell?, show W1.heap[w.heap.size]? = _ from hx1, nd]
  obtain ⟨v1, hv1⟩ := hgl1.cell (o := 1) (by omega)
  have hf1 := hgl1.frozen 1
  have hgb2 := hgb1.setCell ⟨lastB b L, 1, none⟩ (nd x)
  obtain ⟨v2, hv2⟩ := hgb2.cell (o := 0) (by omega)
  have hf2 := hgb2.frozen 0
  have hm3 : ((W1.setCell ⟨lastB b L, 1, none⟩ (nd x)).setCell ⟨b, 0, none⟩ (nd x)).cell? ⟨b, 3, none⟩ = some (.map (some m)) := by
    rw [set_ne (.inr (by decide)), set_ne (.inr (by decide)), World.cell?_of_block (w := w) (hb1 b hgb.lt)]; exact h.map
  have hM3 : MapIs ((W1.setCell ⟨lastB b L, 1, none⟩ (nd x)).setCell ⟨b, 0, none⟩ (nd x)) m L := by
    refine h.ents.of_block ?_
    rw [Below.heap_setCell _ _ _ _ (fun e => h.mb (by rw [e]; simp)), Below.heap_setCell _ _ _ _ (fun e => h.mb (by rw [e]; exact hlm)), hb1 m h.ents.lt]
  obtain ⟨o, hrun, hM4⟩ := store_new hM3 hi hin x
  have HF : Hid (Lane (setBlock ((W1.setCell ⟨lastB b L, 1, none⟩ (nd x)).setCell ⟨b, 0, none⟩ (nd x)) m o) b m (L ++ [(i, x)]) ∧ Only (foot b m L) w (setBlock ((W1.setCell ⟨lastB b L, 1, none⟩ (nd x)).setCell ⟨b, 0, none⟩ (nd x)) m o)) := by
    subst hx
    exact ⟨put_lane h hb1 hx1 hM4 hin (fun k hk => heap_setBlock_ne hk), ((ho1.setCell (fun _ => .inr hlm) _).setCell (fun _ => .inr (by simp)) _).setBlock (fun _ => .inl rfl) _⟩
  clear h hin hi hlm hgl hgb hgl1 hgb1 hgb2 hM3 hM4 hb1 hx1 ho1
  have HX := Lib.hid hx
  have HW := Lib.hid hW1
  clear hx hW1
  unfold nd at *
  go_enter Try.func8, Try.ntmps8
  go_wp2_with (go_at_call 18; refine HC.mono ?_; rintro e w' ⟨rfl, rfl⟩)
  go_region
  rw [HW.out, HX.out]
  go_wp2
  go_ret
  exact ⟨x, rfl, Nat.le_of_eq HX.out, HF.out⟩
end Go.Proofs.Ytcbjhljecjgdcaa.L
