-- Printed by a program of this session.
import Derived.Test.YtbhkboikholmhaaB1
import Derived.Test.YtbhkboikholmhaaB3
namespace Go.Proofs.Ytbhkboikholmhaa.B
open Go.RowKit Go.Proofs.YtbhkboikholmhaaW.PrintWords Go.Proofs.YtbhkboikholmhaaW.PrintLast Go.Proofs.YtbhkboikholmhaaW.PrintMore
attribute [local go_sem] max2_int min2_int max_two min_two max_three min_three max_four min_four   -- for this text's walks alone
set_option linter.unusedVariables false
set_option linter.unusedSimpArgs false

attribute [local go_sem high] eqA24
/-! ### seeT: function 18 -/
mutual
def seeT.j0 : Nat → Int → Bool → Int → Int → Int → Int → Int → Int → Int → Int → Int → Int → Int → Int → Option (Bool)
  | 0, _, _, _, _, _, _, _, _, _, _, _, _, _, _ => none
  | k + 1, x3, x19, x109000, x109001, x109002, x109003, x110000, x110001, x110002, x110003, x111000, x111001, x111002, x111003 => if x19 = true then (some true) else (if x109000 = 3 then (seeT.j1 k x3 (x109003 == x111001) x110000 x110001 x110002 x110003 x111000 x111001 x111002 x111003) else (seeT.j1 k x3 false x110000 x110001 x110002 x110003 x111000 x111001 x111002 x111003))
def seeT.j1 : Nat → Int → Bool → Int → Int → Int → Int → Int → Int → Int → Int → Option (Bool)
  | 0, _, _, _, _, _, _, _, _, _, _ => none
  | k + 1, x3, x9, x110000, x110001, x110002, x110003, x111000, x111001, x111002, x111003 => if ((x3 == 9) == x9) = true then (some false) else (if x3 = 0 then (if x111000 = 3 then (if x110000 = 3 then (some (x110003 == x111001)) else (some false)) else ((life_Life_Ack.f x110000 x110001 x110002 x110003 x111001).bind fun bt111 => (some (bt111.2.2.2.2 == 9)))) else (some true))
end
def seeT.f (k : Nat) (a0_0 : Int) (a0_1 : Int) (a0_2 : Int) (a0_3 : Int) (a1_0 : Int) (a1_1 : Int) (a1_2 : Int) (a1_3 : Int) (a2_0 : Int) (a2_1 : Int) (a2_2 : Int) (a2_3 : Int) (a3 : Int) : Option (Bool) := if a2_0 < 1 then (seeT.j0 k a3 true a0_0 a0_1 a0_2 a0_3 a1_0 a1_1 a1_2 a1_3 a2_0 a2_1 a2_2 a2_3) else (seeT.j0 k a3 (decide (a2_0 > 3)) a0_0 a0_1 a0_2 a0_3 a1_0 a1_1 a1_2 a1_3 a2_0 a2_1 a2_2 a2_3)
theorem seeT.mono_l : ∀ k, (∀ y0 y1 y2 y3 y4 y5 y6 y7 y8 y9 y10 y11 y12 y13, LeO (seeT.j0 k y0 y1 y2 y3 y4 y5 y6 y7 y8 y9 y10 y11 y12 y13) (seeT.j0 (k + 1) y0 y1 y2 y3 y4 y5 y6 y7 y8 y9 y10 y11 y12 y13)) ∧ (∀ y0 y1 y2 y3 y4 y5 y6 y7 y8 y9, LeO (seeT.j1 k y0 y1 y2 y3 y4 y5 y6 y7 y8 y9) (seeT.j1 (k + 1) y0 y1 y2 y3 y4 y5 y6 y7 y8 y9))
  | 0 => ⟨fun _ _ _ _ _ _ _ _ _ _ _ _ _ _ r h => by simp [seeT.j0] at h, fun _ _ _ _ _ _ _ _ _ _ r h => by simp [seeT.j1] at h⟩
  | k + 1 => by
    obtain ⟨ih0, ih1⟩ := seeT.mono_l k
    refine ⟨?_, ?_⟩
    · intro y0 y1 y2 y3 y4 y5 y6 y7 y8 y9 y10 y11 y12 y13
      unfold seeT.j0
      repeat' first
      | (with_reducible exact ih0 _ _ _ _ _ _ _ _ _ _ _ _ _ _)
      | (with_reducible exact ih1 _ _ _ _ _ _ _ _ _ _)
      | (with_reducible exact LeO.refl _)
      | (with_reducible exact LeO.none _)
      | (with_reducible refine LeO.ite ?_ ?_)
      | (with_reducible refine LeO.bind ?_ (fun _ => ?_))
      | exact ih0 _ _ _ _ _ _ _ _ _ _ _ _ _ _
      | exact ih1 _ _ _ _ _ _ _ _ _ _
      | exact LeO.none _
      | refine LeO.ite ?_ ?_
      | refine LeO.bind ?_ (fun _ => ?_)
    · intro y0 y1 y2 y3 y4 y5 y6 y7 y8 y9
      unfold seeT.j1
      repeat' first
      | (with_reducible exact ih0 _ _ _ _ _ _ _ _ _ _ _ _ _ _)
      | (with_reducible exact ih1 _ _ _ _ _ _ _ _ _ _)
      | (with_reducible exact LeO.refl _)
      | (with_reducible exact LeO.none _)
      | (with_reducible refine LeO.ite ?_ ?_)
      | (with_reducible refine LeO.bind ?_ (fun _ => ?_))
      | exact ih0 _ _ _ _ _ _ _ _ _ _ _ _ _ _
      | exact ih1 _ _ _ _ _ _ _ _ _ _
      | exact LeO.none _
      | refine LeO.ite ?_ ?_
      | refine LeO.bind ?_ (fun _ => ?_)
theorem seeT.mono : ∀ a0 a1 a2 a3 a4 a5 a6 a7 a8 a9 a10 a11 a12 k, LeO (seeT.f k a0 a1 a2 a3 a4 a5 a6 a7 a8 a9 a10 a11 a12) (seeT.f (k + 1) a0 a1 a2 a3 a4 a5 a6 a7 a8 a9 a10 a11 a12) := by
  intro a0 a1 a2 a3 a4 a5 a6 a7 a8 a9 a10 a11 a12 k
  obtain ⟨ih0, ih1⟩ := seeT.mono_l k
  unfold seeT.f
  repeat' first
      | (with_reducible exact ih0 _ _ _ _ _ _ _ _ _ _ _ _ _ _)
      | (with_reducible exact ih1 _ _ _ _ _ _ _ _ _ _)
      | (with_reducible exact LeO.refl _)
      | (with_reducible exact LeO.none _)
      | (with_reducible refine LeO.ite ?_ ?_)
      | (with_reducible refine LeO.bind ?_ (fun _ => ?_))
      | exact ih0 _ _ _ _ _ _ _ _ _ _ _ _ _ _
      | exact ih1 _ _ _ _ _ _ _ _ _ _
      | exact LeO.none _
      | refine LeO.ite ?_ ?_
      | refine LeO.bind ?_ (fun _ => ?_)
set_option maxHeartbeats 8000000 in
set_option maxRecDepth 100000 in
theorem seeT.calls (k : Nat) (a0_0 : Int) (a0_1 : Int) (a0_2 : Int) (a0_3 : Int) (a1_0 : Int) (a1_1 : Int) (a1_2 : Int) (a1_3 : Int) (a2_0 : Int) (a2_1 : Int) (a2_2 : Int) (a2_3 : Int) (a3 : Int) (r : Bool) (w : World) (h : seeT.f k a0_0 a0_1 a0_2 a0_3 a1_0 a1_1 a1_2 a1_3 a2_0 a2_1 a2_2 a2_3 a3 = some r) (hr_ : r = true) :
    Calls Try.prog 18 #[.agg #[.int .i64 a0_0, .int .i64 a0_1, .int .u64 a0_2, .int .u64 a0_3], .agg #[.int .i64 a1_0, .int .i64 a1_1, .int .u64 a1_2, .int .u64 a1_3], .agg #[.int .i64 a2_0, .int .u64 a2_1, .int .u64 a2_2, .int .u64 a2_3], .int .i64 a3] w fun e w' => e = .returned (.bool r) ∧ Below w.heap.size w w' := by
  have hu24 := Try.underlying24
  have hu30 := Try.underlying30
  have HB := Aside0.mk (Below.refl w.heap.size w)
  have H : (if a2_0 < 1 then (seeT.j0 k a3 true a0_0 a0_1 a0_2 a0_3 a1_0 a1_1 a1_2 a1_3 a2_0 a2_1 a2_2 a2_3) else (seeT.j0 k a3 (decide (a2_0 > 3)) a0_0 a0_1 a0_2 a0_3 a1_0 a1_1 a1_2 a1_3 a2_0 a2_1 a2_2 a2_3)) = some r := h
  clear h
  have HC5 := Aside0.mk H
  clear H
  go_enter Try.func18, Try.ntmps18
  go_upto_region 1 with (first | ((with_reducible refine gate_dst (N := 4) rfl ?_); refine box_event ?hg (N := 4) ?hd (cs := #[.int .i64 a0_0, .int .i64 a0_1, .int .u64 a0_2, .int .u64 a0_3]) (t := 24) ?hr ?_; (case hd => rfl); (case hg => rfl); (case hr => first | (go_simp; done) | (go_simp; rfl)); intro gb108 hg w6 hbox hb; have n0_ := Aside0.mk (below_step (by repeat (first | (with_reducible first | exact HB.out | apply below_alloc | apply pw_below_drewN | apply below_drew1) | exact HB.out)) hb); have n1_ := Aside0.mk (hbox); have n2_ := Aside0.mk ((by rw [hg]; exact (below_size (by repeat (first | (with_reducible first | exact HB.out | apply below_alloc | apply pw_below_drewN | apply below_drew1) | exact HB.out))) : w.heap.size ≤ gb108)); have n3_ := Aside0.mk ((by rw [hg]; exact (below_size (by repeat (first | (with_reducible first | exact HB.out | apply below_alloc | apply pw_below_drewN | apply below_drew1) | exact HB.out))) : w.heap.size ≤ gb108)); clear HB; have HB := n0_; have BK108 := n1_; have GW108 := n2_; have GE108 := n3_; clear n0_ n1_ n2_ n3_; clear hb hbox hg) | ((with_reducible refine gate_dst (N := 5) rfl ?_); refine box_event ?hg (N := 5) ?hd (cs := #[.int .i64 a1_0, .int .i64 a1_1, .int .u64 a1_2, .int .u64 a1_3]) (t := 24) ?hr ?_; (case hd => rfl); (case hg => rfl); (case hr => first | (go_simp; done) | (go_simp; rfl)); intro gb109 hg w7 hbox hb; have n0_ := Aside0.mk (blk_below (g := gb108) (o := .cells #[.int .i64 a0_0, .int .i64 a0_1, .int .u64 a0_2, .int .u64 a0_3] 24 (0, 0)) (by (with_reducible repeat (first | refine blk_drewN ?_ _ | refine blk_drew ?_ | refine blk_alloc ?_ _)); exact BK108.out) hb); have n1_ := Aside0.mk (below_step (by repeat (first | (with_reducible first | exact HB.out | apply below_alloc | apply pw_below_drewN | apply below_drew1 | refine below_set ?_ GE108.out) | exact HB.out)) hb); have n2_ := Aside0.mk (hbox); have n3_ := Aside0.mk ((by rw [hg]; exact (below_size (by repeat (first | (with_reducible first | exact HB.out | apply below_alloc | apply pw_below_drewN | apply below_drew1 | refine below_set ?_ GE108.out) | exact HB.out))) : w.heap.size ≤ gb109)); have n4_ := Aside0.mk ((by rw [hg]; exact (below_size (by repeat (first | (with_reducible first | exact HB.out | apply below_alloc | apply pw_below_drewN | apply below_drew1 | refine below_set ?_ GE108.out) | exact HB.out))) : w.heap.size ≤ gb109)); have n5_ := Aside0.mk ((by rw [hg]; exact Nat.ne_of_lt (blk_lt (g := gb108) (o := .cells #[.int .i64 a0_0, .int .i64 a0_1, .int .u64 a0_2, .int .u64 a0_3] 24 (0, 0)) (by (with_reducible repeat (first | refine blk_drewN ?_ _ | refine blk_drew ?_ | refine blk_alloc ?_ _)); exact BK108.out)) : gb108 ≠ gb109)); have n6_ := Aside0.mk ((by rw [hg]; exact Nat.ne_of_gt (blk_lt (g := gb108) (o := .cells #[.int .i64 a0_0, .int .i64 a0_1, .int .u64 a0_2, .int .u64 a0_3] 24 (0, 0)) (by (with_reducible repeat (first | refine blk_drewN ?_ _ | refine blk_drew ?_ | refine blk_alloc ?_ _)); exact BK108.out)) : gb109 ≠ gb108)); clear BK108; clear HB; have BK108 := n0_; have HB := n1_; have BK109 := n2_; have GW109 := n3_; have GE109 := n4_; have NB108_109 := n5_; have NB109_108 := n6_; clear n0_ n1_ n2_ n3_ n4_ n5_ n6_; clear hb hbox hg) | ((with_reducible refine gate_dst (N := 6) rfl ?_); refine box_event ?hg (N := 6) ?hd (cs := #[.int .i64 a2_0, .int .u64 a2_1, .int .u64 a2_2, .int .u64 a2_3]) (t := 30) ?hr ?_; (case hd => rfl); (case hg => rfl); (case hr => first | (go_simp; done) | (go_simp; rfl)); intro gb110 hg w8 hbox hb; have n0_ := Aside0.mk (blk_below (g := gb108) (o := .cells #[.int .i64 a0_0, .int .i64 a0_1, .int .u64 a0_2, .int .u64 a0_3] 24 (0, 0)) (by (with_reducible repeat (first | refine blk_drewN ?_ _ | refine blk_drew ?_ | refine blk_alloc ?_ _)); exact BK108.out) hb); have n1_ := Aside0.mk (blk_below (g := gb109) (o := .cells #[.int .i64 a1_0, .int .i64 a1_1, .int .u64 a1_2, .int .u64 a1_3] 24 (0, 0)) (by (with_reducible repeat (first | refine blk_drewN ?_ _ | refine blk_drew ?_ | refine blk_alloc ?_ _)); exact BK109.out) hb); have n2_ := Aside0.mk (below_step (by repeat (first | (with_reducible first | exact HB.out | apply below_alloc | apply pw_below_drewN | apply below_drew1 | refine below_set ?_ GE108.out | refine below_set ?_ GE109.out) | exact HB.out)) hb); have n3_ := Aside0.mk (hbox); have n4_ := Aside0.mk ((by rw [hg]; exact (below_size (by repeat (first | (with_reducible first | exact HB.out | apply below_alloc | apply pw_below_drewN | apply below_drew1 | refine below_set ?_ GE108.out | refine below_set ?_ GE109.out) | exact HB.out))) : w.heap.size ≤ gb110)); have n5_ := Aside0.mk ((by rw [hg]; exact (below_size (by repeat (first | (with_reducible first | exact HB.out | apply below_alloc | apply pw_below_drewN | apply below_drew1 | refine below_set ?_ GE108.out | refine below_set ?_ GE109.out) | exact HB.out))) : w.heap.size ≤ gb110)); have n6_ := Aside0.mk ((by rw [hg]; exact Nat.ne_of_lt (blk_lt (g := gb108) (o := .cells #[.int .i64 a0_0, .int .i64 a0_1, .int .u64 a0_2, .int .u64 a0_3] 24 (0, 0)) (by (with_reducible repeat (first | refine blk_drewN ?_ _ | refine blk_drew ?_ | refine blk_alloc ?_ _)); exact BK108.out)) : gb108 ≠ gb110)); have n7_ := Aside0.mk ((by rw [hg]; exact Nat.ne_of_gt (blk_lt (g := gb108) (o := .cells #[.int .i64 a0_0, .int .i64 a0_1, .int .u64 a0_2, .int .u64 a0_3] 24 (0, 0)) (by (with_reducible repeat (first | refine blk_drewN ?_ _ | refine blk_drew ?_ | refine blk_alloc ?_ _)); exact BK108.out)) : gb110 ≠ gb108)); have n8_ := Aside0.mk ((by rw [hg]; exact Nat.ne_of_lt (blk_lt (g := gb109) (o := .cells #[.int .i64 a1_0, .int .i64 a1_1, .int .u64 a1_2, .int .u64 a1_3] 24 (0, 0)) (by (with_reducible repeat (first | refine blk_drewN ?_ _ | refine blk_drew ?_ | refine blk_alloc ?_ _)); exact BK109.out)) : gb109 ≠ gb110)); have n9_ := Aside0.mk ((by rw [hg]; exact Nat.ne_of_gt (blk_lt (g := gb109) (o := .cells #[.int .i64 a1_0, .int .i64 a1_1, .int .u64 a1_2, .int .u64 a1_3] 24 (0, 0)) (by (with_reducible repeat (first | refine blk_drewN ?_ _ | refine blk_drew ?_ | refine blk_alloc ?_ _)); exact BK109.out)) : gb110 ≠ gb109)); clear BK108; clear BK109; clear HB; have BK108 := n0_; have BK109 := n1_; have HB := n2_; have BK110 := n3_; have GW110 := n4_; have GE110 := n5_; have NB108_110 := n6_; have NB110_108 := n7_; have NB109_110 := n8_; have NB110_109 := n9_; clear n0_ n1_ n2_ n3_ n4_ n5_ n6_ n7_ n8_ n9_; clear hb hbox hg))
  (try simp only [Act.put, List.setIfInBounds_toArray, List.set_cons_zero, List.set_cons_succ])
  go_cut [19] (fun v19 wc => ∃ (kq : Nat) (x19_4 : Bool), v19 = .bool x19_4 ∧ Aside0 (seeT.j0 kq a3 x19_4 a0_0 a0_1 a0_2 a0_3 a1_0 a1_1 a1_2 a1_3 a2_0 a2_1 a2_2 a2_3 = some r) ∧ Aside0 (kq ≤ k) ∧ Aside0 (wc.heap[gb108]? = some (.cells #[.int .i64 a0_0, .int .i64 a0_1, .int .u64 a0_2, .int .u64 a0_3] 24 (0, 0))) ∧ Aside0 (wc.heap[gb109]? = some (.cells #[.int .i64 a1_0, .int .i64 a1_1, .int .u64 a1_2, .int .u64 a1_3] 24 (0, 0))) ∧ Aside0 (wc.heap[gb110]? = some (.cells #[.int .i64 a2_0, .int .u64 a2_1, .int .u64 a2_2, .int .u64 a2_3] 30 (0, 0))) ∧ Aside0 (Below w.heap.size w wc))
  case first =>
    have H := HC5.out
    clear HC5
    by_cases c9 : a2_0 < 1
    · rw [if_pos c9] at H
      have c9b0 : decide (a2_0 < 1) = true := decide_eq_true c9
      clear c9
      (first | rw [c9b0] | (simp only [i64_w, i32_w]; rw [c9b0]) | skip)
      have H' := Aside0.mk H
      clear H
      have hnb10 := NB110_108.out
      have hnc10 := NB108_110.out
      have hnb11 := NB110_109.out
      have hnc11 := NB109_110.out
      have hcz12_0 : w8.cell? ⟨gb110, 0, none⟩ = some (.int .i64 a2_0) := (blk_cell BK110.out 0).trans rfl
      have hcz12_1 : w8.cell? ⟨gb110, 1, none⟩ = some (.int .u64 a2_1) := (blk_cell BK110.out 1).trans rfl
      have hcz12_2 : w8.cell? ⟨gb110, 2, none⟩ = some (.int .u64 a2_2) := (blk_cell BK110.out 2).trans rfl
      have hcz12_3 : w8.cell? ⟨gb110, 3, none⟩ = some (.int .u64 a2_3) := (blk_cell BK110.out 3).trans rfl
      have hfz12_0 := blk_frozen BK110.out 0
      have hfz12_1 := blk_frozen BK110.out 1
      have hfz12_2 := blk_frozen BK110.out 2
      have hfz12_3 := blk_frozen BK110.out 3
      go_wp2
      go_meet
      case rel => exact ⟨_, (true), (by first | rfl | (simp; done) | (simp [*]; done)), H', ⟨by first | omega | exact Nat.le_refl _⟩, ⟨by (with_reducible repeat (first | refine blk_drewN ?_ _ | refine blk_drew ?_ | refine blk_alloc ?_ _)); exact BK108.out⟩, ⟨by (with_reducible repeat (first | refine blk_drewN ?_ _ | refine blk_drew ?_ | refine blk_alloc ?_ _)); exact BK109.out⟩, ⟨by (with_reducible repeat (first | refine blk_drewN ?_ _ | refine blk_drew ?_ | refine blk_alloc ?_ _)); exact BK110.out⟩, ⟨by repeat (first | (with_reducible first | exact HB.out | apply below_alloc | apply pw_below_drewN | apply below_drew1 | refine below_set ?_ GE108.out | refine below_set ?_ GE109.out | refine below_set ?_ GE110.out) | exact HB.out)⟩⟩
    · rw [if_neg c9] at H
      have c9b0 : decide (a2_0 < 1) = false := decide_eq_false c9
      clear c9
      (first | rw [c9b0] | (simp only [i64_w, i32_w]; rw [c9b0]) | skip)
      have H' := Aside0.mk H
      clear H
      have hnb13 := NB110_108.out
      have hnc13 := NB108_110.out
      have hnb14 := NB110_109.out
      have hnc14 := NB109_110.out
      have hcz15_0 : w8.cell? ⟨gb110, 0, none⟩ = some (.int .i64 a2_0) := (blk_cell BK110.out 0).trans rfl
      have hcz15_1 : w8.cell? ⟨gb110, 1, none⟩ = some (.int .u64 a2_1) := (blk_cell BK110.out 1).trans rfl
      have hcz15_2 : w8.cell? ⟨gb110, 2, none⟩ = some (.int .u64 a2_2) := (blk_cell BK110.out 2).trans rfl
      have hcz15_3 : w8.cell? ⟨gb110, 3, none⟩ = some (.int .u64 a2_3) := (blk_cell BK110.out 3).trans rfl
      have hfz15_0 := blk_frozen BK110.out 0
      have hfz15_1 := blk_frozen BK110.out 1
      have hfz15_2 := blk_frozen BK110.out 2
      have hfz15_3 := blk_frozen BK110.out 3
      go_wp2
      go_meet
      case rel => exact ⟨_, (decide (a2_0 > 3)), (by first | rfl | (simp; done) | (simp [*]; done)), H', ⟨by first | omega | exact Nat.le_refl _⟩, ⟨by (with_reducible repeat (first | refine blk_drewN ?_ _ | refine blk_drew ?_ | refine blk_alloc ?_ _)); exact BK108.out⟩, ⟨by (with_reducible repeat (first | refine blk_drewN ?_ _ | refine blk_drew ?_ | refine blk_alloc ?_ _)); exact BK109.out⟩, ⟨by (with_reducible repeat (first | refine blk_drewN ?_ _ | refine blk_drew ?_ | refine blk_alloc ?_ _)); exact BK110.out⟩, ⟨by repeat (first | (with_reducible first | exact HB.out | apply below_alloc | apply pw_below_drewN | apply below_drew1 | refine below_set ?_ GE108.out | refine below_set ?_ GE109.out | refine below_set ?_ GE110.out) | exact HB.out)⟩⟩
  case rest =>
    clear HC5
    try clear c1
    try clear p2
    try clear c9
    try clear c9b0
    try clear c10
    try clear c11
    try clear c13
    try clear c14
    try clear hcz12_0
    try clear hcz12_1
    try clear hcz12_2
    try clear hcz12_3
    try clear hcz15_0
    try clear hcz15_1
    try clear hcz15_2
    try clear hcz15_3
    try clear hfz12_0
    try clear hfz12_1
    try clear hfz12_2
    try clear hfz12_3
    try clear hfz15_0
    try clear hfz15_1
    try clear hfz15_2
    try clear hfz15_3
    obtain ⟨kq, x19_4, rfl, HA, HJ4, BK108, BK109, BK110, HB⟩ := hcut
    cases kq with
    | zero => exact absurd HA.out (by simp [seeT.j0])
    | succ kj4 =>
      have H := HA.out
      clear HA
      simp only [seeT.j0] at H
      by_cases c16 : x19_4 = true
      · subst c16
        have H1 : (some true) = some r := by rw [if_pos rfl] at H; exact H
        clear H
        have H := H1
        clear H1
        obtain rfl := Option.some.inj H
        go_wp2
        go_ret
        exact ⟨by first | rfl | (simp [errW_none, errW_some] <;> rfl) | (simp [*, errW_none, errW_some] <;> rfl), by repeat (first | (with_reducible first | exact HB.out | apply below_alloc | apply pw_below_drewN | apply below_drew1 | refine below_set ?_ GE108.out | refine below_set ?_ GE109.out | refine below_set ?_ GE110.out) | exact HB.out)⟩
      · replace c16 := Bool.eq_false_iff.mpr c16
        subst c16
        have H1 : (if a0_0 = 3 then (seeT.j1 kj4 a3 (a0_3 == a2_1) a1_0 a1_1 a1_2 a1_3 a2_0 a2_1 a2_2 a2_3) else (seeT.j1 kj4 a3 false a1_0 a1_1 a1_2 a1_3 a2_0 a2_1 a2_2 a2_3)) = some r := by rw [if_neg (show ¬ (false = true) by decide)] at H; exact H
        clear H
        have H := H1
        clear H1
        have HC17 := Aside0.mk H
        clear H
        go_upto_region 3 with (fail)
        go_cut [9] (fun v9 wc => ∃ (kq : Nat) (x9_16 : Bool), v9 = .bool x9_16 ∧ Aside0 (seeT.j1 kq a3 x9_16 a1_0 a1_1 a1_2 a1_3 a2_0 a2_1 a2_2 a2_3 = some r) ∧ Aside0 (kq ≤ kj4) ∧ Aside0 (wc.heap[gb108]? = some (.cells #[.int .i64 a0_0, .int .i64 a0_1, .int .u64 a0_2, .int .u64 a0_3] 24 (0, 0))) ∧ Aside0 (wc.heap[gb109]? = some (.cells #[.int .i64 a1_0, .int .i64 a1_1, .int .u64 a1_2, .int .u64 a1_3] 24 (0, 0))) ∧ Aside0 (wc.heap[gb110]? = some (.cells #[.int .i64 a2_0, .int .u64 a2_1, .int .u64 a2_2, .int .u64 a2_3] 30 (0, 0))) ∧ Aside0 (Below w.heap.size w wc))
        case first =>
          have H := HC17.out
          clear HC17
          by_cases c18 : a0_0 = 3
          · rw [if_pos c18] at H
            have c18b0 : (a0_0 == 3) = true := beq_iff_eq.mpr c18
            have c18b1 : (a0_0 != 3) = false := bne_eq_false_iff_eq.mpr c18
            clear c18
            (first | rw [c18b0] | (simp only [i64_w, i32_w]; rw [c18b0]) | skip)
            have H' := Aside0.mk H
            clear H
            have hnb19 := NB108_109.out
            have hnc19 := NB109_108.out
            have hnb20 := NB108_110.out
            have hnc20 := NB110_108.out
            have hcz21_0 : wc.cell? ⟨gb108, 0, none⟩ = some (.int .i64 a0_0) := (blk_cell BK108.out 0).trans rfl
            have hcz21_1 : wc.cell? ⟨gb108, 1, none⟩ = some (.int .i64 a0_1) := (blk_cell BK108.out 1).trans rfl
            have hcz21_2 : wc.cell? ⟨gb108, 2, none⟩ = some (.int .u64 a0_2) := (blk_cell BK108.out 2).trans rfl
            have hcz21_3 : wc.cell? ⟨gb108, 3, none⟩ = some (.int .u64 a0_3) := (blk_cell BK108.out 3).trans rfl
            have hfz21_0 := blk_frozen BK108.out 0
            have hfz21_1 := blk_frozen BK108.out 1
            have hfz21_2 := blk_frozen BK108.out 2
            have hfz21_3 := blk_frozen BK108.out 3
            have hnb22 := NB110_109.out
            have hnc22 := NB109_110.out
            have hcz23_0 : wc.cell? ⟨gb110, 0, none⟩ = some (.int .i64 a2_0) := (blk_cell BK110.out 0).trans rfl
            have hcz23_1 : wc.cell? ⟨gb110, 1, none⟩ = some (.int .u64 a2_1) := (blk_cell BK110.out 1).trans rfl
            have hcz23_2 : wc.cell? ⟨gb110, 2, none⟩ = some (.int .u64 a2_2) := (blk_cell BK110.out 2).trans rfl
            have hcz23_3 : wc.cell? ⟨gb110, 3, none⟩ = some (.int .u64 a2_3) := (blk_cell BK110.out 3).trans rfl
            have hfz23_0 := blk_frozen BK110.out 0
            have hfz23_1 := blk_frozen BK110.out 1
            have hfz23_2 := blk_frozen BK110.out 2
            have hfz23_3 := blk_frozen BK110.out 3
            go_wp2
            go_meet
            case rel => exact ⟨_, ((a0_3 == a2_1)), (by first | rfl | (simp; done) | (simp [*]; done)), H', ⟨by have := HJ4.out; first | omega | exact Nat.le_refl _⟩, ⟨by (with_reducible repeat (first | refine blk_drewN ?_ _ | refine blk_drew ?_ | refine blk_alloc ?_ _)); exact BK108.out⟩, ⟨by (with_reducible repeat (first | refine blk_drewN ?_ _ | refine blk_drew ?_ | refine blk_alloc ?_ _)); exact BK109.out⟩, ⟨by (with_reducible repeat (first | refine blk_drewN ?_ _ | refine blk_drew ?_ | refine blk_alloc ?_ _)); exact BK110.out⟩, ⟨by repeat (first | (with_reducible first | exact HB.out | apply below_alloc | apply pw_below_drewN | apply below_drew1 | refine below_set ?_ GE108.out | refine below_set ?_ GE109.out | refine below_set ?_ GE110.out) | exact HB.out)⟩⟩
          · rw [if_neg c18] at H
            have c18b0 : (a0_0 == 3) = false := beq_eq_false_iff_ne.mpr c18
            have c18b1 : (a0_0 != 3) = true := bne_iff_ne.mpr c18
            (first | rw [c18b0] | (simp only [i64_w, i32_w]; rw [c18b0]) | skip)
            have H' := Aside0.mk H
            clear H
            have hnb24 := NB108_109.out
            have hnc24 := NB109_108.out
            have hnb25 := NB108_110.out
            have hnc25 := NB110_108.out
            have hcz26_0 : wc.cell? ⟨gb108, 0, none⟩ = some (.int .i64 a0_0) := (blk_cell BK108.out 0).trans rfl
            have hcz26_1 : wc.cell? ⟨gb108, 1, none⟩ = some (.int .i64 a0_1) := (blk_cell BK108.out 1).trans rfl
            have hcz26_2 : wc.cell? ⟨gb108, 2, none⟩ = some (.int .u64 a0_2) := (blk_cell BK108.out 2).trans rfl
            have hcz26_3 : wc.cell? ⟨gb108, 3, none⟩ = some (.int .u64 a0_3) := (blk_cell BK108.out 3).trans rfl
            have hfz26_0 := blk_frozen BK108.out 0
            have hfz26_1 := blk_frozen BK108.out 1
            have hfz26_2 := blk_frozen BK108.out 2
            have hfz26_3 := blk_frozen BK108.out 3
            go_wp2
            go_meet
            case rel => exact ⟨_, (false), (by first | rfl | (simp; done) | (simp [*]; done)), H', ⟨by have := HJ4.out; first | omega | exact Nat.le_refl _⟩, ⟨by (with_reducible repeat (first | refine blk_drewN ?_ _ | refine blk_drew ?_ | refine blk_alloc ?_ _)); exact BK108.out⟩, ⟨by (with_reducible repeat (first | refine blk_drewN ?_ _ | refine blk_drew ?_ | refine blk_alloc ?_ _)); exact BK109.out⟩, ⟨by (with_reducible repeat (first | refine blk_drewN ?_ _ | refine blk_drew ?_ | refine blk_alloc ?_ _)); exact BK110.out⟩, ⟨by repeat (first | (with_reducible first | exact HB.out | apply below_alloc | apply pw_below_drewN | apply below_drew1 | refine below_set ?_ GE108.out | refine below_set ?_ GE109.out | refine below_set ?_ GE110.out) | exact HB.out)⟩⟩
        case rest =>
          clear HC17
          try clear c1
          try clear c2
          try clear p2
          try clear c9
          try clear c9b0
          try clear c10
          try clear c11
          try clear c13
          try clear c14
          try clear c16
          try clear c18
          try clear c18b0
          try clear c18b1
          try clear c19
          try clear c20
          try clear c22
          try clear c24
          try clear c25
          try clear hcz12_0
          try clear hcz12_1
          try clear hcz12_2
          try clear hcz12_3
          try clear hcz15_0
          try clear hcz15_1
          try clear hcz15_2
          try clear hcz15_3
          try clear hcz21_0
          try clear hcz21_1
          try clear hcz21_2
          try clear hcz21_3
          try clear hcz23_0
          try clear hcz23_1
          try clear hcz23_2
          try clear hcz23_3
          try clear hcz26_0
          try clear hcz26_1
          try clear hcz26_2
          try clear hcz26_3
          try clear hfz12_0
          try clear hfz12_1
          try clear hfz12_2
          try clear hfz12_3
          try clear hfz15_0
          try clear hfz15_1
          try clear hfz15_2
          try clear hfz15_3
          try clear hfz21_0
          try clear hfz21_1
          try clear hfz21_2
          try clear hfz21_3
          try clear hfz23_0
          try clear hfz23_1
          try clear hfz23_2
          try clear hfz23_3
          try clear hfz26_0
          try clear hfz26_1
          try clear hfz26_2
          try clear hfz26_3
          try clear p2
          obtain ⟨kq, x9_16, rfl, HA, HJ16, BK108, BK109, BK110, HB⟩ := hcut
          cases kq with
          | zero => exact absurd HA.out (by simp [seeT.j1])
          | succ kj16 =>
            have H := HA.out
            clear HA
            simp only [seeT.j1] at H
            by_cases c27 : ((a3 == 9) == x9_16) = true
            · rw [if_pos c27] at H
              have c27b0 : ((a3 == 9) == x9_16) = true := c27
              (try (have c27b1 : decide ((a3 == 9) = x9_16) = true := by simpa using c27))
              (try (have c27b2 : ((a3 == 9) == x9_16) = true := by simpa using c27))
              clear c27
              exact absurd (hr_.symm.trans (Option.some.inj H).symm) (by decide)
            · rw [if_neg c27] at H
              have c27b0 : ((a3 == 9) == x9_16) = false := by simpa using c27
              (try (have c27b1 : decide ((a3 == 9) = x9_16) = false := by simpa using c27))
              (try (have c27b2 : ((a3 == 9) == x9_16) = false := by simpa using c27))
              (try (have c27b3 : ¬ ((a3 == 9) = x9_16) := by simpa using c27))
              clear c27
              by_cases c28 : a3 = 0
              · rw [if_pos c28] at H
                have c28b0 : (a3 == 0) = true := beq_iff_eq.mpr c28
                have c28b1 : (a3 != 0) = false := bne_eq_false_iff_eq.mpr c28
                clear c28
                by_cases c29 : a2_0 = 3
                · rw [if_pos c29] at H
                  have c29b0 : (a2_0 == 3) = true := beq_iff_eq.mpr c29
                  have c29b1 : (a2_0 != 3) = false := bne_eq_false_iff_eq.mpr c29
                  clear c29
                  by_cases c30 : a1_0 = 3
                  · rw [if_pos c30] at H
                    have c30b0 : (a1_0 == 3) = true := beq_iff_eq.mpr c30
                    have c30b1 : (a1_0 != 3) = false := bne_eq_false_iff_eq.mpr c30
                    clear c30
                    obtain rfl := Option.some.inj H
                    have hnb31 := NB110_108.out
                    have hnc31 := NB108_110.out
                    have hnb32 := NB110_109.out
                    have hnc32 := NB109_110.out
                    have hcz33_0 : wc.cell? ⟨gb110, 0, none⟩ = some (.int .i64 a2_0) := (blk_cell BK110.out 0).trans rfl
                    have hcz33_1 : wc.cell? ⟨gb110, 1, none⟩ = some (.int .u64 a2_1) := (blk_cell BK110.out 1).trans rfl
                    have hcz33_2 : wc.cell? ⟨gb110, 2, none⟩ = some (.int .u64 a2_2) := (blk_cell BK110.out 2).trans rfl
                    have hcz33_3 : wc.cell? ⟨gb110, 3, none⟩ = some (.int .u64 a2_3) := (blk_cell BK110.out 3).trans rfl
                    have hfz33_0 := blk_frozen BK110.out 0
                    have hfz33_1 := blk_frozen BK110.out 1
                    have hfz33_2 := blk_frozen BK110.out 2
                    have hfz33_3 := blk_frozen BK110.out 3
                    have hnb34 := NB109_108.out
                    have hnc34 := NB108_109.out
                    have hcz35_0 : wc.cell? ⟨gb109, 0, none⟩ = some (.int .i64 a1_0) := (blk_cell BK109.out 0).trans rfl
                    have hcz35_1 : wc.cell? ⟨gb109, 1, none⟩ = some (.int .i64 a1_1) := (blk_cell BK109.out 1).trans rfl
                    have hcz35_2 : wc.cell? ⟨gb109, 2, none⟩ = some (.int .u64 a1_2) := (blk_cell BK109.out 2).trans rfl
                    have hcz35_3 : wc.cell? ⟨gb109, 3, none⟩ = some (.int .u64 a1_3) := (blk_cell BK109.out 3).trans rfl
                    have hfz35_0 := blk_frozen BK109.out 0
                    have hfz35_1 := blk_frozen BK109.out 1
                    have hfz35_2 := blk_frozen BK109.out 2
                    have hfz35_3 := blk_frozen BK109.out 3
                    go_wp2
                    go_ret
                    exact ⟨by first | rfl | (simp [errW_none, errW_some] <;> rfl) | (simp [*, errW_none, errW_some] <;> rfl), by repeat (first | (with_reducible first | exact HB.out | apply below_alloc | apply pw_below_drewN | apply below_drew1 | refine below_set ?_ GE108.out | refine below_set ?_ GE109.out | refine below_set ?_ GE110.out) | exact HB.out)⟩
                  · rw [if_neg c30] at H
                    have c30b0 : (a1_0 == 3) = false := beq_eq_false_iff_ne.mpr c30
                    have c30b1 : (a1_0 != 3) = true := bne_iff_ne.mpr c30
                    exact absurd (hr_.symm.trans (Option.some.inj H).symm) (by decide)
                · rw [if_neg c29] at H
                  have c29b0 : (a2_0 == 3) = false := beq_eq_false_iff_ne.mpr c29
                  have c29b1 : (a2_0 != 3) = true := bne_iff_ne.mpr c29
                  replace H := Option.bind_eq_some_iff.mp H
                  obtain ⟨⟨t111, t112, t113, t114, t115⟩, A360, H⟩ := H
                  replace H : (some (t115 == 9)) = some r := H
                  have A36 := Aside0.mk A360
                  clear A360
                  obtain rfl := Option.some.inj H
                  have hnb37 := NB110_108.out
                  have hnc37 := NB108_110.out
                  have hnb38 := NB110_109.out
                  have hnc38 := NB109_110.out
                  have hcz39_0 : wc.cell? ⟨gb110, 0, none⟩ = some (.int .i64 a2_0) := (blk_cell BK110.out 0).trans rfl
                  have hcz39_1 : wc.cell? ⟨gb110, 1, none⟩ = some (.int .u64 a2_1) := (blk_cell BK110.out 1).trans rfl
                  have hcz39_2 : wc.cell? ⟨gb110, 2, none⟩ = some (.int .u64 a2_2) := (blk_cell BK110.out 2).trans rfl
                  have hcz39_3 : wc.cell? ⟨gb110, 3, none⟩ = some (.int .u64 a2_3) := (blk_cell BK110.out 3).trans rfl
                  have hfz39_0 := blk_frozen BK110.out 0
                  have hfz39_1 := blk_frozen BK110.out 1
                  have hfz39_2 := blk_frozen BK110.out 2
                  have hfz39_3 := blk_frozen BK110.out 3
                  have hnb40 := NB109_108.out
                  have hnc40 := NB108_109.out
                  have hcz41_0 : wc.cell? ⟨gb109, 0, none⟩ = some (.int .i64 a1_0) := (blk_cell BK109.out 0).trans rfl
                  have hcz41_1 : wc.cell? ⟨gb109, 1, none⟩ = some (.int .i64 a1_1) := (blk_cell BK109.out 1).trans rfl
                  have hcz41_2 : wc.cell? ⟨gb109, 2, none⟩ = some (.int .u64 a1_2) := (blk_cell BK109.out 2).trans rfl
                  have hcz41_3 : wc.cell? ⟨gb109, 3, none⟩ = some (.int .u64 a1_3) := (blk_cell BK109.out 3).trans rfl
                  have hfz41_0 := blk_frozen BK109.out 0
                  have hfz41_1 := blk_frozen BK109.out 1
                  have hfz41_2 := blk_frozen BK109.out 2
                  have hfz41_3 := blk_frozen BK109.out 3
                  go_wp2_with (first | ((with_reducible refine gate_callee (f := 19) rfl ?_); refine goesL_ (some 59) rfl rfl Try.func19 (by kernel_rfl) rfl #[.agg #[.int .i64 a1_0, .int .i64 a1_1, .int .u64 a1_2, .int .u64 a1_3], .int .u64 a2_1] rfl (by (try simp only [List.map_toArray, List.map_cons, List.map_nil]); first | done | rfl | (simp only [List.length_drop, List.length_take]; rfl)) ?_; (with_reducible refine (life_Life_Ack.calls a1_0 a1_1 a1_2 a1_3 a2_1 t111 t112 t113 t114 t115 _ A36.out).mono ?_); rintro e w42 ⟨rfl, hb⟩; refine ⟨_, rfl, ?_⟩; have n0_ := Aside0.mk (blk_below (g := gb108) (o := .cells #[.int .i64 a0_0, .int .i64 a0_1, .int .u64 a0_2, .int .u64 a0_3] 24 (0, 0)) (by (with_reducible repeat (first | refine blk_drewN ?_ _ | refine blk_drew ?_ | refine blk_alloc ?_ _)); exact BK108.out) hb); have n1_ := Aside0.mk (blk_below (g := gb109) (o := .cells #[.int .i64 a1_0, .int .i64 a1_1, .int .u64 a1_2, .int .u64 a1_3] 24 (0, 0)) (by (with_reducible repeat (first | refine blk_drewN ?_ _ | refine blk_drew ?_ | refine blk_alloc ?_ _)); exact BK109.out) hb); have n2_ := Aside0.mk (blk_below (g := gb110) (o := .cells #[.int .i64 a2_0, .int .u64 a2_1, .int .u64 a2_2, .int .u64 a2_3] 30 (0, 0)) (by (with_reducible repeat (first | refine blk_drewN ?_ _ | refine blk_drew ?_ | refine blk_alloc ?_ _)); exact BK110.out) hb); have n3_ := Aside0.mk (below_step (by repeat (first | (with_reducible first | exact HB.out | apply below_alloc | apply pw_below_drewN | apply below_drew1 | refine below_set ?_ GE108.out | refine below_set ?_ GE109.out | refine below_set ?_ GE110.out) | exact HB.out)) hb); clear BK108; clear BK109; clear BK110; clear HB; have BK108 := n0_; have BK109 := n1_; have BK110 := n2_; have HB := n3_; clear n0_ n1_ n2_ n3_; (try clear hb); (try clear hb2); (try clear hk); (try clear hi)) | ((with_reducible refine gate_dst (N := 10) rfl ?_); refine box_event ?hg (N := 10) ?hd (cs := #[.int .i64 0, .int .i64 0, .int .u64 0, .int .u64 0]) (t := 24) ?hr ?_; (case hd => rfl); (case hg => rfl); (case hr => first | (go_simp; done) | (go_simp; rfl)); intro gb116 hg w43 hbox hb; have n0_ := Aside0.mk (blk_below (g := gb108) (o := .cells #[.int .i64 a0_0, .int .i64 a0_1, .int .u64 a0_2, .int .u64 a0_3] 24 (0, 0)) (by (with_reducible repeat (first | refine blk_drewN ?_ _ | refine blk_drew ?_ | refine blk_alloc ?_ _)); exact BK108.out) hb); have n1_ := Aside0.mk (blk_below (g := gb109) (o := .cells #[.int .i64 a1_0, .int .i64 a1_1, .int .u64 a1_2, .int .u64 a1_3] 24 (0, 0)) (by (with_reducible repeat (first | refine blk_drewN ?_ _ | refine blk_drew ?_ | refine blk_alloc ?_ _)); exact BK109.out) hb); have n2_ := Aside0.mk (blk_below (g := gb110) (o := .cells #[.int .i64 a2_0, .int .u64 a2_1, .int .u64 a2_2, .int .u64 a2_3] 30 (0, 0)) (by (with_reducible repeat (first | refine blk_drewN ?_ _ | refine blk_drew ?_ | refine blk_alloc ?_ _)); exact BK110.out) hb); have n3_ := Aside0.mk (below_step (by repeat (first | (with_reducible first | exact HB.out | apply below_alloc | apply pw_below_drewN | apply below_drew1 | refine below_set ?_ GE108.out | refine below_set ?_ GE109.out | refine below_set ?_ GE110.out) | exact HB.out)) hb); have n4_ := Aside0.mk (hbox); have n5_ := Aside0.mk ((by rw [hg]; exact (below_size (by repeat (first | (with_reducible first | exact HB.out | apply below_alloc | apply pw_below_drewN | apply below_drew1 | refine below_set ?_ GE108.out | refine below_set ?_ GE109.out | refine below_set ?_ GE110.out) | exact HB.out))) : w.heap.size ≤ gb116)); have n6_ := Aside0.mk ((by rw [hg]; exact (below_size (by repeat (first | (with_reducible first | exact HB.out | apply below_alloc | apply pw_below_drewN | apply below_drew1 | refine below_set ?_ GE108.out | refine below_set ?_ GE109.out | refine below_set ?_ GE110.out) | exact HB.out))) : w.heap.size ≤ gb116)); have n7_ := Aside0.mk ((by rw [hg]; exact Nat.ne_of_lt (blk_lt (g := gb108) (o := .cells #[.int .i64 a0_0, .int .i64 a0_1, .int .u64 a0_2, .int .u64 a0_3] 24 (0, 0)) (by (with_reducible repeat (first | refine blk_drewN ?_ _ | refine blk_drew ?_ | refine blk_alloc ?_ _)); exact BK108.out)) : gb108 ≠ gb116)); have n8_ := Aside0.mk ((by rw [hg]; exact Nat.ne_of_gt (blk_lt (g := gb108) (o := .cells #[.int .i64 a0_0, .int .i64 a0_1, .int .u64 a0_2, .int .u64 a0_3] 24 (0, 0)) (by (with_reducible repeat (first | refine blk_drewN ?_ _ | refine blk_drew ?_ | refine blk_alloc ?_ _)); exact BK108.out)) : gb116 ≠ gb108)); have n9_ := Aside0.mk ((by rw [hg]; exact Nat.ne_of_lt (blk_lt (g := gb109) (o := .cells #[.int .i64 a1_0, .int .i64 a1_1, .int .u64 a1_2, .int .u64 a1_3] 24 (0, 0)) (by (with_reducible repeat (first | refine blk_drewN ?_ _ | refine blk_drew ?_ | refine blk_alloc ?_ _)); exact BK109.out)) : gb109 ≠ gb116)); have n10_ := Aside0.mk ((by rw [hg]; exact Nat.ne_of_gt (blk_lt (g := gb109) (o := .cells #[.int .i64 a1_0, .int .i64 a1_1, .int .u64 a1_2, .int .u64 a1_3] 24 (0, 0)) (by (with_reducible repeat (first | refine blk_drewN ?_ _ | refine blk_drew ?_ | refine blk_alloc ?_ _)); exact BK109.out)) : gb116 ≠ gb109)); have n11_ := Aside0.mk ((by rw [hg]; exact Nat.ne_of_lt (blk_lt (g := gb110) (o := .cells #[.int .i64 a2_0, .int .u64 a2_1, .int .u64 a2_2, .int .u64 a2_3] 30 (0, 0)) (by (with_reducible repeat (first | refine blk_drewN ?_ _ | refine blk_drew ?_ | refine blk_alloc ?_ _)); exact BK110.out)) : gb110 ≠ gb116)); have n12_ := Aside0.mk ((by rw [hg]; exact Nat.ne_of_gt (blk_lt (g := gb110) (o := .cells #[.int .i64 a2_0, .int .u64 a2_1, .int .u64 a2_2, .int .u64 a2_3] 30 (0, 0)) (by (with_reducible repeat (first | refine blk_drewN ?_ _ | refine blk_drew ?_ | refine blk_alloc ?_ _)); exact BK110.out)) : gb116 ≠ gb110)); clear BK108; clear BK109; clear BK110; clear HB; have BK108 := n0_; have BK109 := n1_; have BK110 := n2_; have HB := n3_; have BK116 := n4_; have GW116 := n5_; have GE116 := n6_; have NB108_116 := n7_; have NB116_108 := n8_; have NB109_116 := n9_; have NB116_109 := n10_; have NB110_116 := n11_; have NB116_110 := n12_; clear n0_ n1_ n2_ n3_ n4_ n5_ n6_ n7_ n8_ n9_ n10_ n11_ n12_; clear hb hbox hg; have hnb44 := NB116_108.out; have hnc44 := NB108_116.out; have hnb45 := NB116_109.out; have hnc45 := NB109_116.out; have hnb46 := NB116_110.out; have hnc46 := NB110_116.out; have hcz47_0 : w43.cell? ⟨gb116, 0, none⟩ = some (.int .i64 0) := (blk_cell BK116.out 0).trans rfl; have hcz47_1 : w43.cell? ⟨gb116, 1, none⟩ = some (.int .i64 0) := (blk_cell BK116.out 1).trans rfl; have hcz47_2 : w43.cell? ⟨gb116, 2, none⟩ = some (.int .u64 0) := (blk_cell BK116.out 2).trans rfl; have hcz47_3 : w43.cell? ⟨gb116, 3, none⟩ = some (.int .u64 0) := (blk_cell BK116.out 3).trans rfl; have hfz47_0 := blk_frozen BK116.out 0; have hfz47_1 := blk_frozen BK116.out 1; have hfz47_2 := blk_frozen BK116.out 2; have hfz47_3 := blk_frozen BK116.out 3))
                  go_ret
                  exact ⟨by first | rfl | (simp [errW_none, errW_some] <;> rfl) | (simp [*, errW_none, errW_some] <;> rfl), by repeat (first | (with_reducible first | exact HB.out | apply below_alloc | apply pw_below_drewN | apply below_drew1 | refine below_set ?_ GE108.out | refine below_set ?_ GE109.out | refine below_set ?_ GE110.out | refine below_set ?_ GE116.out) | exact HB.out)⟩
              · rw [if_neg c28] at H
                have c28b0 : (a3 == 0) = false := beq_eq_false_iff_ne.mpr c28
                have c28b1 : (a3 != 0) = true := bne_iff_ne.mpr c28
                obtain rfl := Option.some.inj H
                go_wp2
                go_ret
                exact ⟨by first | rfl | (simp [errW_none, errW_some] <;> rfl) | (simp [*, errW_none, errW_some] <;> rfl), by repeat (first | (with_reducible first | exact HB.out | apply below_alloc | apply pw_below_drewN | apply below_drew1 | refine below_set ?_ GE108.out | refine below_set ?_ GE109.out | refine below_set ?_ GE110.out) | exact HB.out)⟩

end Go.Proofs.Ytbhkboikholmhaa.B
