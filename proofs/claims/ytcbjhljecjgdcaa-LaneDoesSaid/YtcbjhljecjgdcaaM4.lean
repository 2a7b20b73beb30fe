/- Own text: lane.Drop: the walk. -/
import Derived.Test.YtcbjhljecjgdcaaM3
set_option linter.unusedVariables false
set_option linter.unusedSimpArgs false
namespace Go.Proofs.Ytcbjhljecjgdcaa.L
open Go Go.RowKit Go.MapKept
open Go.ChangeMaps (setBlock)

theorem drop_none (w : World) (b m : Nat) (L : List (Int × Nat)) (i : Int) (hi : (Lit.int .u64 i).wf = true) (h : Lane w b m L) (hin : i ∉ L.map Prod.fst) :
    Calls Try.prog 12 #[.pointer (some ⟨b, 0, none⟩), .int .u64 i] w fun e w' => e = .returned (.bool false) ∧ w' = w := by
  have hm := h.map
  have hl := look_none h.ents hi hin
  clear h hin hi
  go_enter Try.func12, Try.ntmps12
  go_wp2
  go_ret
  exact ⟨rfl, rfl⟩
/-- The first node, or the head. -/
def headB (b : Nat) (L : List (Int × Nat)) : Nat := (L.map Prod.snd).headD b
theorem headB_mem (b : Nat) (L : List (Int × Nat)) : headB b L ∈ L.map Prod.snd ++ [b] := by
  cases L with
  | nil => simp [headB]
  | cons p L => simp [headB]
/-- What a lane says about one of its nodes. -/
theorem Lane.node {w : World} {b m : Nat} {L1 L2 : List (Int × Nat)} {i : Int} {x : Nat} (h : Lane w b m (L1 ++ (i, x) :: L2)) :
    w.cell? ⟨x, 0, none⟩ = some (nd (lastB b L1)) ∧ w.cell? ⟨x, 1, none⟩ = some (nd (headB b L2)) ∧ Good w (lastB b L1) ∧ Good w (headB b L2) := by
  have hr := h.ring
  rw [List.map_append, List.map_cons, List.append_assoc, List.cons_append] at hr
  obtain ⟨r1, r2, r3⟩ := Ch.append.1 hr
  refine ⟨r2.2, ?_, h.good _ ?_, h.good _ ?_⟩
  · cases L2 with
    | nil => exact r3.1.1
    | cons p L2 => exact r3.1.1
  · have := lastB_mem b L1
    rw [List.map_append]
    rcases List.mem_cons.1 this with e | e
    · rw [e]; simp
    · exact List.mem_cons_of_mem _ (List.mem_append.2 (.inl e))
  · have := headB_mem b L2
    simp only [List.map_append, List.map_cons, List.mem_cons, List.mem_append, List.not_mem_nil, or_false] at this ⊢
    rcases this with e | e
    · exact .inr (.inr (.inr e))
    · exact .inl e
theorem drop_lane {w : World} {b m : Nat} {L1 L2 : List (Int × Nat)} {i : Int} {x : Nat} (h : Lane w b m (L1 ++ (i, x) :: L2)) {W4 : World}
    (hM : MapIs W4 m (L1 ++ L2))
    (h4 : ∀ k, k ≠ m → W4.heap[k]? = ((w.setCell ⟨lastB b L1, 1, none⟩ (nd (headB b L2))).setCell ⟨headB b L2, 0, none⟩ (nd (lastB b L1))).heap[k]?) : Lane W4 b m (L1 ++ L2) := by
  obtain ⟨_, _, gp, gq⟩ := h.node
  have hnod := h.nodup
  have hmb := h.mb
  have hr := h.ring
  have hu := h.uniq
  simp only [List.map_append, List.map_cons] at hnod hmb hr hu
  have hsub : (L1.map Prod.snd ++ L2.map Prod.snd).Sublist (L1.map Prod.snd ++ x :: L2.map Prod.snd) := List.Sublist.append_left (List.sublist_cons_self _ _) _
  have hsub1 : (L1.map Prod.fst ++ L2.map Prod.fst).Sublist (L1.map Prod.fst ++ i :: L2.map Prod.fst) := List.Sublist.append_left (List.sublist_cons_self _ _) _
  have hin : ∀ u ∈ b :: (L1.map Prod.snd ++ L2.map Prod.snd), u ∈ b :: (L1.map Prod.snd ++ x :: L2.map Prod.snd) := fun u hu => (List.Sublist.cons_cons b hsub).subset hu
  have hnm : ∀ u ∈ b :: (L1.map Prod.snd ++ x :: L2.map Prod.snd), u ≠ m := fun u hu e => hmb (e ▸ hu)
  have hx4 : ∀ u o, u ≠ m → W4.cell? ⟨u, o, none⟩ = ((w.setCell ⟨lastB b L1, 1, none⟩ (nd (headB b L2))).setCell ⟨headB b L2, 0, none⟩ (nd (lastB b L1))).cell? ⟨u, o, none⟩ := fun u o hu => World.cell?_of_block (h4 u hu)
  have hpm : lastB b L1 ∈ b :: L1.map Prod.snd := lastB_mem b L1
  have hqm : headB b L2 ∈ L2.map Prod.snd ++ [b] := headB_mem b L2
  obtain ⟨nb, nl⟩ := List.nodup_cons.1 hnod
  obtain ⟨n1, n2, n3⟩ := List.nodup_append.1 nl
  obtain ⟨n4, n5⟩ := List.nodup_cons.1 n2
  have hb1 : b ∉ L1.map Prod.snd := fun e => nb (List.mem_append.2 (.inl e))
  have hb2 : b ∉ L2.map Prod.snd := fun e => nb (List.mem_append.2 (.inr (List.mem_cons_of_mem _ e)))
  have d12 : ∀ u ∈ L1.map Prod.snd, u ∉ L2.map Prod.snd := fun u hu hv => n3 u hu u (List.mem_cons_of_mem _ hv) rfl
  -- the last one ahead stands in no later place, the first one behind in no earlier one
  have pn2 : lastB b L1 ∉ L2.map Prod.snd := by
    rcases List.mem_cons.1 hpm with e | e
    · rw [e]; exact hb2
    · exact d12 _ e
  have qn1 : headB b L2 ∉ L1.map Prod.snd := by
    rcases List.mem_append.1 hqm with e | e
    · exact fun e' => d12 _ e' e
    · simp at e; rw [e]; exact hb1
  rw [List.append_assoc, List.cons_append] at hr
  obtain ⟨r1, r2, r3⟩ := Ch.append.1 hr
  have link : W4.cell? ⟨lastB b L1, 1, none⟩ = some (nd (headB b L2)) ∧ W4.cell? ⟨headB b L2, 0, none⟩ = some (nd (lastB b L1)) := by
    constructor
    · rw [hx4 _ 1 (hnm _ (hin _ (by simp only [List.mem_cons, List.mem_append] at hpm ⊢; rcases hpm with e | e <;> simp [e]))), set_ne (.inr (by decide)), set_same gp (by decide)]
    · rw [hx4 _ 0 (hnm _ (hin _ (by simp only [List.mem_cons, List.mem_append, List.not_mem_nil, or_false] at hqm ⊢; rcases hqm with e | e <;> simp [e]))), set_same (gq.setCell _ _) (by decide)]
  refine ⟨?_, ?_, ?_, ?_, ?_, ?_, hM, ?_⟩
  · rw [List.map_append, List.append_assoc]
    refine Ch.append.2 ⟨r1.frame ?_ ?_, ?_⟩
    · intro s hs
      have hsm := List.dropLast_subset _ hs
      have hsl : s ≠ lastB b L1 := fun e => not_dropLast (List.nodup_cons.2 ⟨hb1, n1⟩) (by rw [e] at hs; exact hs)
      rw [hx4 s 1 (hnm s (by simp only [List.mem_cons, List.mem_append] at hsm ⊢; rcases hsm with e | e <;> simp [e])), set_ne (.inr (by decide)), set_ne (.inl (Ne.symm hsl))]
    · intro t ht
      rw [hx4 t 0 (hnm t (by simp only [List.mem_cons, List.mem_append]; simp [ht])), set_ne (.inl (fun e => qn1 (by rw [e]; exact ht))), set_ne (.inr (by decide))]
    · show Ch W4 (lastB b L1) _
      cases L2 with
      | nil => exact ⟨link, trivial⟩
      | cons q L2 =>
        refine ⟨link, ?_⟩
        have n6 : q.2 ∉ L2.map Prod.snd := (List.nodup_cons.1 n5).1
        have r4 : Ch w q.2 (L2.map Prod.snd ++ [b]) := r3.2
        show Ch W4 q.2 (L2.map Prod.snd ++ [b])
        refine Ch.frame r4 ?_ ?_
        · intro s hs
          have hs' : s ∈ q.2 :: L2.map Prod.snd := by
            have e := hs
            rw [← List.cons_append, List.dropLast_concat] at e
            exact e
          have hsl : s ≠ lastB b L1 := fun e => pn2 (by rw [← e]; exact hs')
          rw [hx4 s 1 (hnm s (by simp only [List.mem_cons, List.mem_append] at hs' ⊢; rcases hs' with e | e <;> simp [e])), set_ne (.inr (by decide)), set_ne (.inl (Ne.symm hsl))]
        · intro t ht
          have htq : t ≠ q.2 := by
            rintro rfl
            rcases List.mem_append.1 ht with e | e
            · exact n6 e
            · simp at e; exact hb2 (by rw [← e]; simp)
          rw [hx4 t 0 (hnm t (by simp only [List.mem_cons, List.mem_append, List.not_mem_nil, or_false, List.map_cons] at ht ⊢; rcases ht with e | e <;> simp [e])), set_ne (.inl (fun e => htq e.symm : headB b (q :: L2) ≠ t)), set_ne (.inr (by decide))]
  · rw [List.map_append]
    exact List.Nodup.sublist (List.Sublist.cons_cons b hsub) hnod
  · rw [List.map_append]
    exact fun e => hmb (hin m e)
  · intro u hu
    rw [List.map_append] at hu
    have hu' := hin u hu
    refine Good.of_block (((h.good u (by simpa using hu')).setCell _ _).setCell _ _) (h4 u (hnm u hu'))
  · rw [hx4 b 3 (hnm b (by simp)), set_ne (.inr (by decide)), set_ne (.inr (by decide)), h.map]
  · intro p hp
    have hp' : p.2 ∈ b :: (L1.map Prod.snd ++ L2.map Prod.snd) := List.mem_cons_of_mem _ (by rw [← List.map_append]; exact List.mem_map.2 ⟨p, hp, rfl⟩)
    rw [hx4 p.2 2 (hnm _ (hin _ hp')), set_ne (.inr (by decide)), set_ne (.inr (by decide)), h.ids p (by rcases List.mem_append.1 hp with e | e <;> simp [e])]
  · rw [List.map_append]
    exact hu.sublist hsub1
set_option maxHeartbeats 4000000 in
theorem drop_yes (w : World) (b m : Nat) (L1 L2 : List (Int × Nat)) (i : Int) (x : Nat) (h : Lane w b m (L1 ++ (i, x) :: L2)) :
    Calls Try.prog 12 #[.pointer (some ⟨b, 0, none⟩), .int .u64 i] w fun e w' => e = .returned (.bool true) ∧ Lane w' b m (L1 ++ L2) ∧ Only (foot b m (L1 ++ (i, x) :: L2)) w w' := by
  have hm := h.map
  have hl := look_some h.ents h.uniq (i := i) (x := x) (by simp)
  have hmem1 : lastB b L1 ∈ b :: (L1 ++ (i, x) :: L2).map Prod.snd := by
    have := lastB_mem b L1
    simp only [List.map_append, List.map_cons, List.mem_cons, List.mem_append] at this ⊢
    rcases this with e | e <;> simp [e]
  have hmem2 : headB b L2 ∈ b :: (L1 ++ (i, x) :: L2).map Prod.snd := by
    have := headB_mem b L2
    simp only [List.map_append, List.map_cons, List.mem_cons, List.mem_append, List.not_mem_nil, or_false] at this ⊢
    rcases this with e | e <;> simp [e]
  have hfoot1 : foot b m (L1 ++ (i, x) :: L2) (lastB b L1) := .inr hmem1
  have hfoot2 : foot b m (L1 ++ (i, x) :: L2) (headB b L2) := .inr hmem2
  have hpm : lastB b L1 ≠ m := fun e => h.mb (e ▸ hmem1)
  have hqm : headB b L2 ≠ m := fun e => h.mb (e ▸ hmem2)
  clear hmem1 hmem2
  have hnode := h.node
  have hdl : ∀ W4, MapIs W4 m (L1 ++ L2) → _ → _ := fun W4 hM h4 => drop_lane h hM h4
  obtain ⟨p, hp⟩ : ∃ p, lastB b L1 = p := ⟨_, rfl⟩
  obtain ⟨q, hq⟩ : ∃ q, headB b L2 = q := ⟨_, rfl⟩
  rw [hp, hq] at hnode hdl
  rw [hp] at hfoot1 hpm
  rw [hq] at hfoot2 hqm
  obtain ⟨hc0, hc1, gp, gq⟩ := hnode
  obtain ⟨v1, hv1⟩ := gp.cell (o := 1) (by omega)
  have hf1 := gp.frozen 1
  have gq2 := gq.setCell ⟨p, 1, none⟩ (nd q)
  obtain ⟨v2, hv2⟩ := gq2.cell (o := 0) (by omega)
  have hf2 := gq2.frozen 0
  obtain ⟨W3, hW3⟩ : ∃ W3, ((w.setCell ⟨p, 1, none⟩ (nd q)).setCell ⟨q, 0, none⟩ (nd p)).drew = W3 := ⟨_, rfl⟩
  have hbm : b ≠ m := fun e => h.mb (by rw [e]; simp)
  have hm3 : W3.cell? ⟨b, 3, none⟩ = some (.map (some m)) := by
    rw [← hW3]
    show World.cell? ((w.setCell ⟨p, 1, none⟩ (nd q)).setCell ⟨q, 0, none⟩ (nd p)) _ = _
    rw [set_ne (.inr (by decide)), set_ne (.inr (by decide))]
    exact hm
  have hM3 : MapIs W3 m (L1 ++ (i, x) :: L2) := by
    refine h.ents.of_block ?_
    rw [← hW3]
    show ((w.setCell ⟨p, 1, none⟩ (nd q)).setCell ⟨q, 0, none⟩ (nd p)).heap[m]? = _
    rw [Below.heap_setCell _ _ _ _ (Ne.symm hqm), Below.heap_setCell _ _ _ _ (Ne.symm hpm)]
  obtain ⟨o, hrun, hM4⟩ : ∃ o, (∀ ty, (Builtin.delete_ #[41, 23] ty #[.map (some m), .int .u64 i]).run Try.prog W3 = .ok (.tuple #[]) (setBlock W3 m o)) ∧ MapIs (setBlock W3 m o) m (L1 ++ L2) := drop_some' hM3 h.uniq
  have HF : Hid (Lane (setBlock W3 m o) b m (L1 ++ L2) ∧ Only (foot b m (L1 ++ (i, x) :: L2)) w (setBlock W3 m o)) := by
    refine ⟨hdl _ hM4 (fun k hk => ?_), ?_⟩
    · rw [heap_setBlock_ne hk, ← hW3]; rfl
    · refine Only.setBlock ?_ (fun _ => .inl rfl) _
      rw [← hW3]
      exact (((Only.refl _ w).setCell (fun _ => hfoot1) _).setCell (fun _ => hfoot2) _).drew
  have HW := Lib.hid hW3
  clear h gp gq gq2 hp hq hM3 hM4 hW3 hdl hfoot1 hfoot2 hpm hqm hbm
  unfold nd at *
  go_enter Try.func12, Try.ntmps12
  go_wp2
  go_region
  rw [HW.out]
  go_wp2
  go_ret
  exact ⟨rfl, HF.out⟩
end Go.Proofs.Ytcbjhljecjgdcaa.L
