/- Own texts and printed ones, those declarations alone that this claim needs, laid into one text by a program of this session. -/
import Derived.Test.YtojepleodijdeaaXL1
import Derived.Test.YtojepleodijdeaaXL2
namespace Go.Proofs.Ytojepleodijdeaa.B
open Go.RowKit Go.Proofs.YtojepleodijdeaaW.PrintWords Go.Proofs.YtojepleodijdeaaW.PrintLast Go.Proofs.YtojepleodijdeaaW.PrintMore
attribute [local go_sem] max2_int min2_int max_two min_two max_three min_three max_four min_four   -- for this text's walks alone
set_option linter.unusedVariables false
set_option linter.unusedSimpArgs false
def tumbrelref05_Read.l0 : Nat → Int → Int → Int → Int → List Int → Int → List Int → ByteArray → Option (Int × List Int × ByteArray × Int)
  | 0, _, _, _, _, _, _, _, _ => none
  | k + 1, x4, x6, x7, x767000, x767001, x770000, x770001, x770002 => if x7 < x4 then (if 0 ≤ x6 then (if x6 ≤ (x767001.length : Int) then ((tumbrelref02_Get.f k (x767001.drop (x6 : Int).toNat)).bind fun bt771 => (if bt771.2.2 = 0 then (if x770001.length < 17592186044416 then (tumbrelref05_Read.l0 k x4 (wrap64 (x6 + bt771.2.1)) (wrap64 (x7 + 1)) x767000 x767001 x770000 (x770001 ++ [bt771.1]) x770002) else (none)) else (some (0, ([] : List Int), (⟨#[]⟩ : ByteArray), bt771.2.2)))) else (none)) else (none)) else ((tumbrelref05_texts.f x770000 (wrap64 ((x767001.length : Int) - x6))).bind fun t777 => (if t777 = true then (if 0 ≤ x6 then (if x6 ≤ (x767001.length : Int) then (some (x770000, x770001, strOfNums (x767001.drop (x6 : Int).toNat), 0)) else (none)) else (none)) else (some (0, ([] : List Int), (⟨#[]⟩ : ByteArray), 2))))
def tumbrelref05_Read.f (k : Nat) (a0_0 : Int) (l0_1 : List Int) : Option (Int × List Int × ByteArray × Int) := (tumbrelref05_many.f (wrap64 (a0_0))).bind fun t768 => (if t768 < 0 then (some (0, ([] : List Int), (⟨#[]⟩ : ByteArray), 2)) else (tumbrelref05_Read.l0 k t768 0 0 a0_0 l0_1 (wrap64 (a0_0)) ([] : List Int) (⟨#[]⟩ : ByteArray)))
set_option maxHeartbeats 8000000 in
set_option maxRecDepth 100000 in
theorem tumbrelref05_Read.calls (k : Nat) (a0_0 : Int) (A0_1 : Option Addr) (c0_1 : Nat) (l0_1 : List Int) (r1 : Int) (r2 : List Int) (r3 : ByteArray) (r4 : Int) (w : World) (hr0_1 : Kd.C (Kd.int .u8) w A0_1 l0_1.length l0_1) (hc0_1 : l0_1.length ≤ c0_1) (h : tumbrelref05_Read.f k a0_0 l0_1 = some (r1, r2, r3, r4)) :
    Calls Try.prog 59 #[.agg #[.int .u8 a0_0, .slice A0_1 l0_1.length c0_1]] w fun e w' => ∃ v1_ : Value, e = .returned (.tuple #[.agg #[.int .i64 r1, v1_, .string r3], .int .i64 r4]) ∧ Kd.R (Kd.int .u64) 22 w' w.heap.size (fun _ => True) v1_ r2 ∧ Below w.heap.size w w' := by
  have hu60 := Try.underlying60
  have hu82 := Try.underlying82
  have HR0_1 := Aside0.mk hr0_1
  have HC0_1 := Aside0.mk hc0_1
  clear hr0_1 hc0_1
  have HB := Aside0.mk (Below.refl w.heap.size w)
  have H : ((tumbrelref05_many.f (wrap64 (a0_0))).bind fun t768 => (if t768 < 0 then (some (0, ([] : List Int), (⟨#[]⟩ : ByteArray), 2)) else (tumbrelref05_Read.l0 k t768 0 0 a0_0 l0_1 (wrap64 (a0_0)) ([] : List Int) (⟨#[]⟩ : ByteArray)))) = some (r1, r2, r3, r4) := h
  clear h
  replace H := Option.bind_eq_some_iff.mp H
  obtain ⟨t768, A20, H⟩ := H
  replace H : (if t768 < 0 then (some (0, ([] : List Int), (⟨#[]⟩ : ByteArray), 2)) else (tumbrelref05_Read.l0 k t768 0 0 a0_0 l0_1 (wrap64 (a0_0)) ([] : List Int) (⟨#[]⟩ : ByteArray))) = some (r1, r2, r3, r4) := H
  have A2 := Aside0.mk A20
  clear A20
  by_cases c3 : t768 < 0
  · rw [if_pos c3] at H
    have c3b0 : decide (t768 < 0) = true := decide_eq_true c3
    clear c3
    simp only [Option.some.injEq, Prod.mk.injEq] at H
    obtain ⟨rfl, rfl, rfl, rfl⟩ := H
    go_enter Try.func59, Try.ntmps59
    go_wp2_with (first | ((with_reducible refine gate_dst (N := 1) rfl ?_); refine box_event ?hg (N := 1) ?hd (cs := #[.int .u8 a0_0, .slice A0_1 l0_1.length c0_1]) (t := 60) ?hr ?_; (case hd => rfl); (case hg => rfl); (case hr => first | (go_simp; done) | (go_simp; rfl)); intro gb766 hg w4 hbox hb; have n0_ := Aside0.mk (below_step (by repeat (first | (with_reducible first | exact HB.out | apply below_alloc | apply pw_below_drewN | apply below_drew1) | exact HB.out)) hb); have n1_ := Aside0.mk (hbox); have n2_ := Aside0.mk ((by rw [hg]; exact (below_size (by repeat (first | (with_reducible first | exact HB.out | apply below_alloc | apply pw_below_drewN | apply below_drew1) | exact HB.out))) : w.heap.size ≤ gb766)); have n3_ := Aside0.mk ((by rw [hg]; exact (below_size (by repeat (first | (with_reducible first | exact HB.out | apply below_alloc | apply pw_below_drewN | apply below_drew1) | exact HB.out))) : w.heap.size ≤ gb766)); clear HB; have HB := n0_; have BK766 := n1_; have GW766 := n2_; have GE766 := n3_; clear n0_ n1_ n2_ n3_; clear hb hbox hg) | ((with_reducible refine gate_dst (N := 2) rfl ?_); refine box_event ?hg (N := 2) ?hd (cs := #[.int .i64 0, .slice none 0 0, .string (⟨#[]⟩ : ByteArray)]) (t := 82) ?hr ?_; (case hd => rfl); (case hg => rfl); (case hr => first | (go_simp; done) | (go_simp; rfl)); intro gb767 hg w5 hbox hb; have n0_ := Aside0.mk (blk_below (g := gb766) (o := .cells #[.int .u8 a0_0, .slice A0_1 l0_1.length c0_1] 60 (0, 0)) (by (with_reducible repeat (first | refine blk_drewN ?_ _ | refine blk_drew ?_ | refine blk_alloc ?_ _)); exact BK766.out) hb); have n1_ := Aside0.mk (below_step (by repeat (first | (with_reducible first | exact HB.out | apply below_alloc | apply pw_below_drewN | apply below_drew1 | refine below_set ?_ GE766.out) | exact HB.out)) hb); have n2_ := Aside0.mk (hbox); have n3_ := Aside0.mk ((by rw [hg]; exact (below_size (by repeat (first | (with_reducible first | exact HB.out | apply below_alloc | apply pw_below_drewN | apply below_drew1 | refine below_set ?_ GE766.out) | exact HB.out))) : w.heap.size ≤ gb767)); have n4_ := Aside0.mk ((by rw [hg]; exact (below_size (by repeat (first | (with_reducible first | exact HB.out | apply below_alloc | apply pw_below_drewN | apply below_drew1 | refine below_set ?_ GE766.out) | exact HB.out))) : w.heap.size ≤ gb767)); have n5_ := Aside0.mk ((by rw [hg]; exact Nat.ne_of_lt (blk_lt (g := gb766) (o := .cells #[.int .u8 a0_0, .slice A0_1 l0_1.length c0_1] 60 (0, 0)) (by (with_reducible repeat (first | refine blk_drewN ?_ _ | refine blk_drew ?_ | refine blk_alloc ?_ _)); exact BK766.out)) : gb766 ≠ gb767)); have n6_ := Aside0.mk ((by rw [hg]; exact Nat.ne_of_gt (blk_lt (g := gb766) (o := .cells #[.int .u8 a0_0, .slice A0_1 l0_1.length c0_1] 60 (0, 0)) (by (with_reducible repeat (first | refine blk_drewN ?_ _ | refine blk_drew ?_ | refine blk_alloc ?_ _)); exact BK766.out)) : gb767 ≠ gb766)); clear BK766; clear HB; have BK766 := n0_; have HB := n1_; have BK767 := n2_; have GW767 := n3_; have GE767 := n4_; have NB766_767 := n5_; have NB767_766 := n6_; clear n0_ n1_ n2_ n3_ n4_ n5_ n6_; clear hb hbox hg; have hnb6 := NB766_767.out; have hnc6 := NB767_766.out; have hcz7_0 : w5.cell? ⟨gb766, 0, none⟩ = some (.int .u8 a0_0) := (blk_cell BK766.out 0).trans rfl; have hcz7_1 : w5.cell? ⟨gb766, 1, none⟩ = some (.slice A0_1 l0_1.length c0_1) := (blk_cell BK766.out 1).trans rfl; have hfz7_0 := blk_frozen BK766.out 0; have hfz7_1 := blk_frozen BK766.out 1) | ((with_reducible refine gate_callee (f := 80) rfl ?_); refine goesL_ (some 14) rfl rfl Try.func80 (by kernel_rfl) rfl #[.int .i64 (wrap64 (a0_0))] rfl (by (try simp only [List.map_toArray, List.map_cons, List.map_nil]); first | done | rfl | (simp only [List.length_drop, List.length_take]; rfl)) ?_; (with_reducible refine (tumbrelref05_many.calls (wrap64 (a0_0)) t768 _ A2.out).mono ?_); rintro e w8 ⟨rfl, hb⟩; refine ⟨_, rfl, ?_⟩; have n0_ := Aside0.mk (blk_below (g := gb766) (o := .cells #[.int .u8 a0_0, .slice A0_1 l0_1.length c0_1] 60 (0, 0)) (by (with_reducible repeat (first | refine blk_drewN ?_ _ | refine blk_drew ?_ | refine blk_alloc ?_ _)); exact BK766.out) hb); have n1_ := Aside0.mk (blk_below (g := gb767) (o := .cells #[.int .i64 0, .slice none 0 0, .string (⟨#[]⟩ : ByteArray)] 82 (0, 0)) (by (with_reducible repeat (first | refine blk_drewN ?_ _ | refine blk_drew ?_ | refine blk_alloc ?_ _)); exact BK767.out) hb); have n2_ := Aside0.mk (below_step (by repeat (first | (with_reducible first | exact HB.out | apply below_alloc | apply pw_below_drewN | apply below_drew1 | refine below_set ?_ GE766.out | refine below_set ?_ GE767.out) | exact HB.out)) hb); clear BK766; clear BK767; clear HB; have BK766 := n0_; have BK767 := n1_; have HB := n2_; clear n0_ n1_ n2_; (try clear hb); (try clear hb2); (try clear hk); (try clear hi); have hcz9_0 : w8.cell? ⟨gb767, 0, none⟩ = some (.int .i64 0) := (blk_cell BK767.out 0).trans rfl; have hcz9_1 : w8.cell? ⟨gb767, 1, none⟩ = some (.slice none 0 0) := (blk_cell BK767.out 1).trans rfl; have hcz9_2 : w8.cell? ⟨gb767, 2, none⟩ = some (.string (⟨#[]⟩ : ByteArray)) := (blk_cell BK767.out 2).trans rfl; have hfz9_0 := blk_frozen BK767.out 0; have hfz9_1 := blk_frozen BK767.out 1; have hfz9_2 := blk_frozen BK767.out 2))
    refine bodyPost_ret (results_ct rfl _ _ gb767 82 #[.int .i64 0, .slice none 0 0, .string (⟨#[]⟩ : ByteArray)] (0, 0) _ rfl (by (with_reducible repeat (first | refine blk_drewN ?_ _ | refine blk_drew ?_ | refine blk_alloc ?_ _)); refine blk_put (cs := #[.int .i64 0, .slice none 0 0, .string (⟨#[]⟩ : ByteArray)]) ?_ 2 _ rfl; (with_reducible repeat (first | refine blk_drewN ?_ _ | refine blk_drew ?_ | refine blk_alloc ?_ _)); refine blk_put (cs := #[.int .i64 0, .slice none 0 0, .string (⟨#[]⟩ : ByteArray)]) ?_ 1 _ rfl; (with_reducible repeat (first | refine blk_drewN ?_ _ | refine blk_drew ?_ | refine blk_alloc ?_ _)); refine blk_put (cs := #[.int .i64 0, .slice none 0 0, .string (⟨#[]⟩ : ByteArray)]) ?_ 0 _ rfl; (with_reducible repeat (first | refine blk_drewN ?_ _ | refine blk_drew ?_ | refine blk_alloc ?_ _)); exact BK767.out) Try.underlying82 rfl (by kernel_rfl)) rfl ?_
    exact ⟨_, by first | rfl | (simp [errW_none, errW_some] <;> rfl) | (simp [*, errW_none, errW_some] <;> rfl), by first | exact Kd.R_nil _ _ _ _ _ | exact Kd.N_nil _ _ _ _ _ | exact Kd.V_nil _ _ _ _ _ | exact Kd.Q_nil _ _ _ _ _ | exact Kd.S_nil _ _ _ _ _, by repeat (first | (with_reducible first | exact HB.out | apply below_alloc | apply pw_below_drewN | apply below_drew1 | refine below_set ?_ GE766.out | refine below_set ?_ GE767.out) | exact HB.out)⟩
  · rw [if_neg c3] at H
    have c3b0 : decide (t768 < 0) = false := decide_eq_false c3
    clear c3
    have H' := Aside0.mk H
    clear H
    go_enter Try.func59, Try.ntmps59
    go_wp2_with (first | ((with_reducible refine gate_dst (N := 1) rfl ?_); refine box_event ?hg (N := 1) ?hd (cs := #[.int .u8 a0_0, .slice A0_1 l0_1.length c0_1]) (t := 60) ?hr ?_; (case hd => rfl); (case hg => rfl); (case hr => first | (go_simp; done) | (go_simp; rfl)); intro gb766 hg w10 hbox hb; have n0_ := Aside0.mk (below_step (by repeat (first | (with_reducible first | exact HB.out | apply below_alloc | apply pw_below_drewN | apply below_drew1) | exact HB.out)) hb); have n1_ := Aside0.mk (hbox); have n2_ := Aside0.mk ((by rw [hg]; exact (below_size (by repeat (first | (with_reducible first | exact HB.out | apply below_alloc | apply pw_below_drewN | apply below_drew1) | exact HB.out))) : w.heap.size ≤ gb766)); have n3_ := Aside0.mk ((by rw [hg]; exact (below_size (by repeat (first | (with_reducible first | exact HB.out | apply below_alloc | apply pw_below_drewN | apply below_drew1) | exact HB.out))) : w.heap.size ≤ gb766)); clear HB; have HB := n0_; have BK766 := n1_; have GW766 := n2_; have GE766 := n3_; clear n0_ n1_ n2_ n3_; clear hb hbox hg) | ((with_reducible refine gate_dst (N := 2) rfl ?_); refine box_event ?hg (N := 2) ?hd (cs := #[.int .i64 0, .slice none 0 0, .string (⟨#[]⟩ : ByteArray)]) (t := 82) ?hr ?_; (case hd => rfl); (case hg => rfl); (case hr => first | (go_simp; done) | (go_simp; rfl)); intro gb767 hg w11 hbox hb; have n0_ := Aside0.mk (blk_below (g := gb766) (o := .cells #[.int .u8 a0_0, .slice A0_1 l0_1.length c0_1] 60 (0, 0)) (by (with_reducible repeat (first | refine blk_drewN ?_ _ | refine blk_drew ?_ | refine blk_alloc ?_ _)); exact BK766.out) hb); have n1_ := Aside0.mk (below_step (by repeat (first | (with_reducible first | exact HB.out | apply below_alloc | apply pw_below_drewN | apply below_drew1 | refine below_set ?_ GE766.out) | exact HB.out)) hb); have n2_ := Aside0.mk (hbox); have n3_ := Aside0.mk ((by rw [hg]; exact (below_size (by repeat (first | (with_reducible first | exact HB.out | apply below_alloc | apply pw_below_drewN | apply below_drew1 | refine below_set ?_ GE766.out) | exact HB.out))) : w.heap.size ≤ gb767)); have n4_ := Aside0.mk ((by rw [hg]; exact (below_size (by repeat (first | (with_reducible first | exact HB.out | apply below_alloc | apply pw_below_drewN | apply below_drew1 | refine below_set ?_ GE766.out) | exact HB.out))) : w.heap.size ≤ gb767)); have n5_ := Aside0.mk ((by rw [hg]; exact Nat.ne_of_lt (blk_lt (g := gb766) (o := .cells #[.int .u8 a0_0, .slice A0_1 l0_1.length c0_1] 60 (0, 0)) (by (with_reducible repeat (first | refine blk_drewN ?_ _ | refine blk_drew ?_ | refine blk_alloc ?_ _)); exact BK766.out)) : gb766 ≠ gb767)); have n6_ := Aside0.mk ((by rw [hg]; exact Nat.ne_of_gt (blk_lt (g := gb766) (o := .cells #[.int .u8 a0_0, .slice A0_1 l0_1.length c0_1] 60 (0, 0)) (by (with_reducible repeat (first | refine blk_drewN ?_ _ | refine blk_drew ?_ | refine blk_alloc ?_ _)); exact BK766.out)) : gb767 ≠ gb766)); clear BK766; clear HB; have BK766 := n0_; have HB := n1_; have BK767 := n2_; have GW767 := n3_; have GE767 := n4_; have NB766_767 := n5_; have NB767_766 := n6_; clear n0_ n1_ n2_ n3_ n4_ n5_ n6_; clear hb hbox hg; have hnb12 := NB766_767.out; have hnc12 := NB767_766.out; have hcz13_0 : w11.cell? ⟨gb766, 0, none⟩ = some (.int .u8 a0_0) := (blk_cell BK766.out 0).trans rfl; have hcz13_1 : w11.cell? ⟨gb766, 1, none⟩ = some (.slice A0_1 l0_1.length c0_1) := (blk_cell BK766.out 1).trans rfl; have hfz13_0 := blk_frozen BK766.out 0; have hfz13_1 := blk_frozen BK766.out 1) | ((with_reducible refine gate_callee (f := 80) rfl ?_); refine goesL_ (some 14) rfl rfl Try.func80 (by kernel_rfl) rfl #[.int .i64 (wrap64 (a0_0))] rfl (by (try simp only [List.map_toArray, List.map_cons, List.map_nil]); first | done | rfl | (simp only [List.length_drop, List.length_take]; rfl)) ?_; (with_reducible refine (tumbrelref05_many.calls (wrap64 (a0_0)) t768 _ A2.out).mono ?_); rintro e w14 ⟨rfl, hb⟩; refine ⟨_, rfl, ?_⟩; have n0_ := Aside0.mk (blk_below (g := gb766) (o := .cells #[.int .u8 a0_0, .slice A0_1 l0_1.length c0_1] 60 (0, 0)) (by (with_reducible repeat (first | refine blk_drewN ?_ _ | refine blk_drew ?_ | refine blk_alloc ?_ _)); exact BK766.out) hb); have n1_ := Aside0.mk (blk_below (g := gb767) (o := .cells #[.int .i64 0, .slice none 0 0, .string (⟨#[]⟩ : ByteArray)] 82 (0, 0)) (by (with_reducible repeat (first | refine blk_drewN ?_ _ | refine blk_drew ?_ | refine blk_alloc ?_ _)); exact BK767.out) hb); have n2_ := Aside0.mk (below_step (by repeat (first | (with_reducible first | exact HB.out | apply below_alloc | apply pw_below_drewN | apply below_drew1 | refine below_set ?_ GE766.out | refine below_set ?_ GE767.out) | exact HB.out)) hb); clear BK766; clear BK767; clear HB; have BK766 := n0_; have BK767 := n1_; have HB := n2_; clear n0_ n1_ n2_; (try clear hb); (try clear hb2); (try clear hk); (try clear hi); have hcz15_0 : w14.cell? ⟨gb766, 0, none⟩ = some (.int .u8 a0_0) := (blk_cell BK766.out 0).trans rfl; have hcz15_1 : w14.cell? ⟨gb766, 1, none⟩ = some (.slice A0_1 l0_1.length c0_1) := (blk_cell BK766.out 1).trans rfl; have hfz15_0 := blk_frozen BK766.out 0; have hfz15_1 := blk_frozen BK766.out 1) | ((with_reducible refine gate_dst (N := 5) rfl ?_); refine box_event ?hg (N := 5) ?hd (cs := #[.int .i64 0, .slice none 0 0, .string (⟨#[]⟩ : ByteArray)]) (t := 82) ?hr ?_; (case hd => rfl); (case hg => rfl); (case hr => first | (go_simp; done) | (go_simp; rfl)); intro gb769 hg w16 hbox hb; have n0_ := Aside0.mk (blk_below (g := gb766) (o := .cells #[.int .u8 a0_0, .slice A0_1 l0_1.length c0_1] 60 (0, 0)) (by (with_reducible repeat (first | refine blk_drewN ?_ _ | refine blk_drew ?_ | refine blk_alloc ?_ _)); exact BK766.out) hb); have n1_ := Aside0.mk (blk_below (g := gb767) (o := .cells #[.int .i64 0, .slice none 0 0, .string (⟨#[]⟩ : ByteArray)] 82 (0, 0)) (by (with_reducible repeat (first | refine blk_drewN ?_ _ | refine blk_drew ?_ | refine blk_alloc ?_ _)); exact BK767.out) hb); have n2_ := Aside0.mk (below_step (by repeat (first | (with_reducible first | exact HB.out | apply below_alloc | apply pw_below_drewN | apply below_drew1 | refine below_set ?_ GE766.out | refine below_set ?_ GE767.out) | exact HB.out)) hb); have n3_ := Aside0.mk (hbox); have n4_ := Aside0.mk ((by rw [hg]; exact (below_size (by repeat (first | (with_reducible first | exact HB.out | apply below_alloc | apply pw_below_drewN | apply below_drew1 | refine below_set ?_ GE766.out | refine below_set ?_ GE767.out) | exact HB.out))) : w.heap.size ≤ gb769)); have n5_ := Aside0.mk ((by rw [hg]; exact (below_size (by repeat (first | (with_reducible first | exact HB.out | apply below_alloc | apply pw_below_drewN | apply below_drew1 | refine below_set ?_ GE766.out | refine below_set ?_ GE767.out) | exact HB.out))) : w.heap.size ≤ gb769)); have n6_ := Aside0.mk ((by rw [hg]; exact Nat.ne_of_lt (blk_lt (g := gb766) (o := .cells #[.int .u8 a0_0, .slice A0_1 l0_1.length c0_1] 60 (0, 0)) (by (with_reducible repeat (first | refine blk_drewN ?_ _ | refine blk_drew ?_ | refine blk_alloc ?_ _)); exact BK766.out)) : gb766 ≠ gb769)); have n7_ := Aside0.mk ((by rw [hg]; exact Nat.ne_of_gt (blk_lt (g := gb766) (o := .cells #[.int .u8 a0_0, .slice A0_1 l0_1.length c0_1] 60 (0, 0)) (by (with_reducible repeat (first | refine blk_drewN ?_ _ | refine blk_drew ?_ | refine blk_alloc ?_ _)); exact BK766.out)) : gb769 ≠ gb766)); have n8_ := Aside0.mk ((by rw [hg]; exact Nat.ne_of_lt (blk_lt (g := gb767) (o := .cells #[.int .i64 0, .slice none 0 0, .string (⟨#[]⟩ : ByteArray)] 82 (0, 0)) (by (with_reducible repeat (first | refine blk_drewN ?_ _ | refine blk_drew ?_ | refine blk_alloc ?_ _)); exact BK767.out)) : gb767 ≠ gb769)); have n9_ := Aside0.mk ((by rw [hg]; exact Nat.ne_of_gt (blk_lt (g := gb767) (o := .cells #[.int .i64 0, .slice none 0 0, .string (⟨#[]⟩ : ByteArray)] 82 (0, 0)) (by (with_reducible repeat (first | refine blk_drewN ?_ _ | refine blk_drew ?_ | refine blk_alloc ?_ _)); exact BK767.out)) : gb769 ≠ gb767)); clear BK766; clear BK767; clear HB; have BK766 := n0_; have BK767 := n1_; have HB := n2_; have BK769 := n3_; have GW769 := n4_; have GE769 := n5_; have NB766_769 := n6_; have NB769_766 := n7_; have NB767_769 := n8_; have NB769_767 := n9_; clear n0_ n1_ n2_ n3_ n4_ n5_ n6_ n7_ n8_ n9_; clear hb hbox hg; have hnb17 := NB769_766.out; have hnc17 := NB766_769.out; have hnb18 := NB769_767.out; have hnc18 := NB767_769.out; have hcz19_0 : w16.cell? ⟨gb769, 0, none⟩ = some (.int .i64 0) := (blk_cell BK769.out 0).trans rfl; have hcz19_1 : w16.cell? ⟨gb769, 1, none⟩ = some (.slice none 0 0) := (blk_cell BK769.out 1).trans rfl; have hcz19_2 : w16.cell? ⟨gb769, 2, none⟩ = some (.string (⟨#[]⟩ : ByteArray)) := (blk_cell BK769.out 2).trans rfl; have hfz19_0 := blk_frozen BK769.out 0; have hfz19_1 := blk_frozen BK769.out 1; have hfz19_2 := blk_frozen BK769.out 2))
    go_loopg [6, 7] k (fun kq v6 v7 w' => ∃ (x6_1 : Int) (x7_1 : Int) (x768000_1 : Int) (x768002_1 : ByteArray) (x770001_1 : List Int) (u770001 : Value), v6 = .int .i64 x6_1 ∧ v7 = .int .i64 x7_1 ∧ Aside0 (tumbrelref05_Read.l0 kq t768 x6_1 x7_1 a0_0 l0_1 (wrap64 (a0_0)) x770001_1 (⟨#[]⟩ : ByteArray) = some (r1, r2, r3, r4)) ∧ Aside0 (kq ≤ k) ∧ Aside0 (Kd.R (Kd.int .u64) 22 w' w.heap.size (fun _ => True) u770001 x770001_1) ∧ Aside0 (w'.heap[gb766]? = some (.cells #[.int .u8 a0_0, (.slice A0_1 l0_1.length c0_1)] 60 (0, 0))) ∧ Aside0 (w'.heap[gb767]? = some (.cells #[.int .i64 x768000_1, (.slice none 0 0), .string x768002_1] 82 (0, 0))) ∧ Aside0 (w'.heap[gb769]? = some (.cells #[.int .i64 (wrap64 (a0_0)), u770001, .string (⟨#[]⟩ : ByteArray)] 82 (0, 0))) ∧ Aside0 (Below w.heap.size w w'))
    case atStart => exact ⟨(0), (0), (0), ((⟨#[]⟩ : ByteArray)), (([] : List Int)), (.slice none 0 0), (by first | rfl | (simp; done) | (simp [*]; done)), (by first | rfl | (simp; done) | (simp [*]; done)), H', ⟨Nat.le_refl _⟩, ⟨by first | exact Kd.R_nil _ _ _ _ _ | exact Kd.N_nil _ _ _ _ _ | exact Kd.V_nil _ _ _ _ _ | exact Kd.Q_nil _ _ _ _ _ | exact Kd.S_nil _ _ _ _ _⟩, ⟨by (with_reducible repeat (first | refine blk_drewN ?_ _ | refine blk_drew ?_ | refine blk_alloc ?_ _)); refine blk_far ?_ NB766_769.out _; (with_reducible repeat (first | refine blk_drewN ?_ _ | refine blk_drew ?_ | refine blk_alloc ?_ _)); refine blk_far ?_ NB766_769.out _; (with_reducible repeat (first | refine blk_drewN ?_ _ | refine blk_drew ?_ | refine blk_alloc ?_ _)); refine blk_far ?_ NB766_769.out _; (with_reducible repeat (first | refine blk_drewN ?_ _ | refine blk_drew ?_ | refine blk_alloc ?_ _)); exact BK766.out⟩, ⟨by (with_reducible repeat (first | refine blk_drewN ?_ _ | refine blk_drew ?_ | refine blk_alloc ?_ _)); refine blk_far ?_ NB767_769.out _; (with_reducible repeat (first | refine blk_drewN ?_ _ | refine blk_drew ?_ | refine blk_alloc ?_ _)); refine blk_far ?_ NB767_769.out _; (with_reducible repeat (first | refine blk_drewN ?_ _ | refine blk_drew ?_ | refine blk_alloc ?_ _)); refine blk_far ?_ NB767_769.out _; (with_reducible repeat (first | refine blk_drewN ?_ _ | refine blk_drew ?_ | refine blk_alloc ?_ _)); exact BK767.out⟩, ⟨by (with_reducible repeat (first | refine blk_drewN ?_ _ | refine blk_drew ?_ | refine blk_alloc ?_ _)); refine blk_put (cs := #[.int .i64 (wrap64 (a0_0)), .slice none 0 0, .string (⟨#[]⟩ : ByteArray)]) ?_ 2 _ rfl; (with_reducible repeat (first | refine blk_drewN ?_ _ | refine blk_drew ?_ | refine blk_alloc ?_ _)); refine blk_put (cs := #[.int .i64 (wrap64 (a0_0)), .slice none 0 0, .string (⟨#[]⟩ : ByteArray)]) ?_ 1 _ rfl; (with_reducible repeat (first | refine blk_drewN ?_ _ | refine blk_drew ?_ | refine blk_alloc ?_ _)); refine blk_put (cs := #[.int .i64 0, .slice none 0 0, .string (⟨#[]⟩ : ByteArray)]) ?_ 0 _ rfl; (with_reducible repeat (first | refine blk_drewN ?_ _ | refine blk_drew ?_ | refine blk_alloc ?_ _)); exact BK769.out⟩, ⟨by repeat (first | (with_reducible first | exact HB.out | apply below_alloc | apply pw_below_drewN | apply below_drew1 | refine below_set ?_ GE766.out | refine below_set ?_ GE767.out | refine below_set ?_ GE769.out) | exact HB.out)⟩⟩
    case round =>
      clear H'
      try clear c1
      try clear p2
      try clear c3
      try clear c3b0
      try clear c5
      try clear c6
      try clear p6
      try clear c8
      try clear c12
      try clear c17
      try clear c18
      try clear hcz13_0
      try clear hcz13_1
      try clear hcz15_0
      try clear hcz15_1
      try clear hcz19_0
      try clear hcz19_1
      try clear hcz19_2
      try clear hcz7_0
      try clear hcz7_1
      try clear hcz9_0
      try clear hcz9_1
      try clear hcz9_2
      try clear hfz13_0
      try clear hfz13_1
      try clear hfz15_0
      try clear hfz15_1
      try clear hfz19_0
      try clear hfz19_1
      try clear hfz19_2
      try clear hfz7_0
      try clear hfz7_1
      try clear hfz9_0
      try clear hfz9_1
      try clear hfz9_2
      obtain ⟨x6_1, x7_1, x768000_1, x768002_1, x770001_1, u770001, rfl, rfl, HA, HK1, HO_770001, BK766, BK767, BK769, HB⟩ := hrel
      cases gk with
      | zero => exact absurd HA.out (by simp [tumbrelref05_Read.l0])
      | succ k1 =>
        have H := HA.out
        clear HA
        simp only [tumbrelref05_Read.l0] at H
        by_cases c20 : x7_1 < t768
        · rw [if_pos c20] at H
          have c20b0 : decide (x7_1 < t768) = true := decide_eq_true c20
          clear c20
          by_cases c21 : 0 ≤ x6_1
          · rw [if_pos c21] at H
            have c21b0 := eq_true c21
            have c21b1 : decide (0 ≤ x6_1) = true := decide_eq_true c21
            clear c21
            by_cases c22 : x6_1 ≤ (l0_1.length : Int)
            · rw [if_pos c22] at H
              have c22b0 := eq_true c22
              have c22b1 : decide (x6_1 ≤ (l0_1.length : Int)) = true := decide_eq_true c22
              clear c22
              replace H := Option.bind_eq_some_iff.mp H
              obtain ⟨⟨t771, t772, t773⟩, A230, H⟩ := H
              replace H : (if t773 = 0 then (if x770001_1.length < 17592186044416 then (tumbrelref05_Read.l0 k1 t768 (wrap64 (x6_1 + t772)) (wrap64 (x7_1 + 1)) a0_0 l0_1 (wrap64 (a0_0)) (x770001_1 ++ [t771]) (⟨#[]⟩ : ByteArray)) else (none)) else (some (0, ([] : List Int), (⟨#[]⟩ : ByteArray), t773))) = some (r1, r2, r3, r4) := H
              have A23 := Aside0.mk A230
              clear A230
              by_cases c24 : t773 = 0
              · rw [if_pos c24] at H
                have c24b0 : (t773 == 0) = true := beq_iff_eq.mpr c24
                have c24b1 : (t773 != 0) = false := bne_eq_false_iff_eq.mpr c24
                clear c24
                by_cases c25 : x770001_1.length < 17592186044416
                · rw [if_pos c25] at H
                  have LMc25 := Aside0.mk c25
                  clear c25
                  obtain ⟨y774, hy774⟩ : ∃ y_ : List Int, y_ = (x770001_1 ++ [t771]) := ⟨_, rfl⟩
                  replace H : (tumbrelref05_Read.l0 k1 t768 (wrap64 (x6_1 + t772)) (wrap64 (x7_1 + 1)) a0_0 l0_1 (wrap64 (a0_0)) y774 (⟨#[]⟩ : ByteArray)) = some (r1, r2, r3, r4) := by first | (rw [hy774]; with_reducible exact H) | (have H2_ := (Option.bind_some _ _).symm.trans H; rw [hy774]; with_reducible exact H2_) | (have H2_ := (Option.bind_some _ _).symm.trans H; with_reducible exact H2_) | with_reducible exact H | (rw [hy774]; exact H) | exact H
                  have Ny774 := Aside0.mk hy774
                  clear hy774
                  have H' := Aside0.mk H
                  clear H
                  have hnb26 := NB766_767.out
                  have hnc26 := NB767_766.out
                  have hnb27 := NB766_769.out
                  have hnc27 := NB769_766.out
                  have hcz28_0 : wr.cell? ⟨gb766, 0, none⟩ = some (.int .u8 a0_0) := (blk_cell BK766.out 0).trans rfl
                  have hcz28_1 : wr.cell? ⟨gb766, 1, none⟩ = some (.slice A0_1 l0_1.length c0_1) := (blk_cell BK766.out 1).trans rfl
                  have hfz28_0 := blk_frozen BK766.out 0
                  have hfz28_1 := blk_frozen BK766.out 1
                  obtain ⟨i029, hi029, _, hsz29, _⟩ := info_parts info5
                  obtain ⟨A29, hcut29, hA29, hC29⟩ := print_drop_of (P := Try.prog) (Value.int .u8) 0 23 5 .i64 Try.underlying23 hi029 hsz29 A0_1 c0_1 l0_1 x6_1 (of_decide_eq_true (by first | (with_reducible assumption) | assumption)) (of_decide_eq_true (by first | (with_reducible assumption) | assumption)) HC0_1.out
                  have HR770 := Aside0.mk (Kd.C_of_reads (h1 := fun _ => rfl) (hA29 _ (Kd.reads_of_C HR0_1.out)))
                  have HC770 := Aside0.mk hC29
                  clear hA29 hC29 hi029 hsz29
                  go_wp2_with (first | ((with_reducible refine gate_callee (f := 24) rfl ?_); refine goesL_ (some 32) rfl rfl Try.func24 (by kernel_rfl) rfl #[.slice A29 (l0_1.drop (x6_1 : Int).toNat).length (c0_1 - x6_1.toNat)] rfl (by (try simp only [List.map_toArray, List.map_cons, List.map_nil]); first | done | (rw [show (l0_1.drop (x6_1 : Int).toNat).length = (l0_1.length - x6_1.toNat) from List.length_drop] <;> rfl) | rfl | (simp only [List.length_drop, List.length_take]; rfl)) ?_; (with_reducible refine (tumbrelref02_Get.calls k1 _ _ (l0_1.drop (x6_1 : Int).toNat) t771 t772 t773 _ ?side1 ?side2 A23.out).mono ?_); (case side1 => repeat (first | exact (Kd.C_below HR770.out HB.out) | (with_reducible refine Kd.C_alloc ?_ _) | (with_reducible refine Kd.C_drewN ?_ _) | (with_reducible refine Kd.C_drew ?_))); (case side2 => exact HC770.out); rintro e w' ⟨rfl, ⟨nd, rfl⟩⟩; refine ⟨_, rfl, ?_⟩; (try (rw [drewN_self wr]; generalize hq_ : World.drewN wr _ = wr; have n0_ : Aside0 (Kd.R (Kd.int .u64) 22 wr w.heap.size (fun _ => True) u770001 x770001_1) := ⟨by rw [← hq_]; exact (by (with_reducible repeat (first | apply Kd.R_alloc | apply Kd.R_drewN | apply Kd.R_drew)); exact HO_770001.out)⟩; have n1_ : Aside0 (wr.heap[gb766]? = some (.cells #[.int .u8 a0_0, .slice A0_1 l0_1.length c0_1] 60 (0, 0))) := ⟨by rw [← hq_]; exact (by (with_reducible repeat (first | refine blk_drewN ?_ _ | refine blk_drew ?_ | refine blk_alloc ?_ _)); exact BK766.out)⟩; have n2_ : Aside0 (wr.heap[gb767]? = some (.cells #[.int .i64 x768000_1, .slice none 0 0, .string x768002_1] 82 (0, 0))) := ⟨by rw [← hq_]; exact (by (with_reducible repeat (first | refine blk_drewN ?_ _ | refine blk_drew ?_ | refine blk_alloc ?_ _)); exact BK767.out)⟩; have n3_ : Aside0 (wr.heap[gb769]? = some (.cells #[.int .i64 (wrap64 (a0_0)), u770001, .string (⟨#[]⟩ : ByteArray)] 82 (0, 0))) := ⟨by rw [← hq_]; exact (by (with_reducible repeat (first | refine blk_drewN ?_ _ | refine blk_drew ?_ | refine blk_alloc ?_ _)); exact BK769.out)⟩; have n4_ : Aside0 (Below w.heap.size w wr) := ⟨by rw [← hq_]; exact (by repeat (first | (with_reducible first | exact HB.out | apply below_alloc | apply pw_below_drewN | apply below_drew1 | refine below_set ?_ GE766.out | refine below_set ?_ GE767.out | refine below_set ?_ GE769.out) | exact HB.out))⟩; clear HO_770001 BK766 BK767 BK769 HB hq_; have HO_770001 := n0_; have BK766 := n1_; have BK767 := n2_; have BK769 := n3_; have HB := n4_; clear n0_ n1_ n2_ n3_ n4_)); have hnb30 := NB769_767.out; have hnc30 := NB767_769.out; have hcz31_0 : wr.cell? ⟨gb769, 0, none⟩ = some (.int .i64 (wrap64 (a0_0))) := (blk_cell BK769.out 0).trans rfl; have hcz31_1 : wr.cell? ⟨gb769, 1, none⟩ = some (u770001) := (blk_cell BK769.out 1).trans rfl; have hcz31_2 : wr.cell? ⟨gb769, 2, none⟩ = some (.string (⟨#[]⟩ : ByteArray)) := (blk_cell BK769.out 2).trans rfl; have hfz31_0 := blk_frozen BK769.out 0; have hfz31_1 := blk_frozen BK769.out 1; have hfz31_2 := blk_frozen BK769.out 2) | ((with_reducible refine gate_builtin (b := .append) (xs := #[.tmp 41, .tmp 43]) rfl ?_); at_builtin; refine Kd.R_append (Kd.int .u64) (w0 := w) w.heap.size rfl (.tmp 41) (.tmp 43) 32 22 (.int .u64 0) 8 rfl Try.underlying32 info22 rfl (by decide) (by omega) u770001 x770001_1 t771 [.int .u64 t771] (fun _ => True) (fun _ => False) rfl rfl ?aP (fun _ hk => hk.elim) ?aF ?aO ?aB ?aS ?aL ?_; (case aP => exact rfl); (case aB => exact (by repeat (first | (with_reducible first | exact HB.out | apply below_alloc | apply pw_below_drewN | apply below_drew1 | refine below_set ?_ GE766.out | refine below_set ?_ GE767.out | refine below_set ?_ GE769.out) | exact HB.out))); (case aF => exact (fun _ _ => trivial)); (case aO => exact (by (with_reducible repeat (first | apply Kd.R_alloc | apply Kd.R_drewN | apply Kd.R_drew)); exact HO_770001.out)); (case aS => exact (below_size (by repeat (first | (with_reducible first | exact HB.out | apply below_alloc | apply pw_below_drewN | apply below_drew1 | refine below_set ?_ GE766.out | refine below_set ?_ GE767.out | refine below_set ?_ GE769.out) | exact HB.out)))); (case aL => have := LMc25.out; omega); intro v775 w32 ho hb hg hat; rw [← Ny774.out] at ho; have n0_ := Aside0.mk (blk_grown (g := gb766) (o := .cells #[.int .u8 a0_0, .slice A0_1 l0_1.length c0_1] 60 (0, 0)) (by (with_reducible repeat (first | refine blk_drewN ?_ _ | refine blk_drew ?_ | refine blk_alloc ?_ _)); exact BK766.out) hg (Kd.R_ne HO_770001.out BK766.out (by decide))); have n1_ := Aside0.mk (blk_grown (g := gb767) (o := .cells #[.int .i64 x768000_1, .slice none 0 0, .string x768002_1] 82 (0, 0)) (by (with_reducible repeat (first | refine blk_drewN ?_ _ | refine blk_drew ?_ | refine blk_alloc ?_ _)); exact BK767.out) hg (Kd.R_ne HO_770001.out BK767.out (by decide))); have n2_ := Aside0.mk (blk_grown (g := gb769) (o := .cells #[.int .i64 (wrap64 (a0_0)), u770001, .string (⟨#[]⟩ : ByteArray)] 82 (0, 0)) (by (with_reducible repeat (first | refine blk_drewN ?_ _ | refine blk_drew ?_ | refine blk_alloc ?_ _)); exact BK769.out) hg (Kd.R_ne HO_770001.out BK769.out (by decide))); have n3_ := Aside0.mk (hb); have n4_ := Aside0.mk (ho); clear BK766; clear BK767; clear BK769; clear HB; clear HO_770001; have BK766 := n0_; have BK767 := n1_; have BK769 := n2_; have HB := n3_; have HO776 := n4_; clear n0_ n1_ n2_ n3_ n4_; clear ho hb hg hat; obtain ⟨Ao33, co33, eo33⟩ := Kd.R_slice HO776.out; subst eo33; have hcz34_0 : w32.cell? ⟨gb769, 0, none⟩ = some (.int .i64 (wrap64 (a0_0))) := (blk_cell BK769.out 0).trans rfl; have hcz34_1 : w32.cell? ⟨gb769, 1, none⟩ = some (u770001) := (blk_cell BK769.out 1).trans rfl; have hcz34_2 : w32.cell? ⟨gb769, 2, none⟩ = some (.string (⟨#[]⟩ : ByteArray)) := (blk_cell BK769.out 2).trans rfl; have hfz34_0 := blk_frozen BK769.out 0; have hfz34_1 := blk_frozen BK769.out 1; have hfz34_2 := blk_frozen BK769.out 2))
                  go_roundg k1
                  case measure => have := HK1.out; omega
                  case rel => exact ⟨(wrap64 (x6_1 + t772)), (wrap64 (x7_1 + 1)), (x768000_1), (x768002_1), (y774), (.slice Ao33 y774.length co33), (by first | rfl | (simp; done) | (simp [*]; done)), (by first | rfl | (simp; done) | (simp [*]; done)), H', ⟨by have := HK1.out; omega⟩, ⟨by (with_reducible repeat (first | apply Kd.R_alloc | apply Kd.R_drewN | apply Kd.R_drew)); exact Kd.R_mono (Kd.R_far (p := ⟨gb769, 1, none⟩) (Kd.R_types HO776.out BK769.out (by decide)) (fun _ hk => hk.2) (.slice Ao33 y774.length co33)) (fun _ hk => trivial)⟩, ⟨by (with_reducible repeat (first | refine blk_drewN ?_ _ | refine blk_drew ?_ | refine blk_alloc ?_ _)); refine blk_far ?_ NB766_769.out _; (with_reducible repeat (first | refine blk_drewN ?_ _ | refine blk_drew ?_ | refine blk_alloc ?_ _)); exact BK766.out⟩, ⟨by (with_reducible repeat (first | refine blk_drewN ?_ _ | refine blk_drew ?_ | refine blk_alloc ?_ _)); refine blk_far ?_ NB767_769.out _; (with_reducible repeat (first | refine blk_drewN ?_ _ | refine blk_drew ?_ | refine blk_alloc ?_ _)); exact BK767.out⟩, ⟨by (with_reducible repeat (first | refine blk_drewN ?_ _ | refine blk_drew ?_ | refine blk_alloc ?_ _)); refine blk_put (cs := #[.int .i64 (wrap64 (a0_0)), u770001, .string (⟨#[]⟩ : ByteArray)]) ?_ 1 _ rfl; (with_reducible repeat (first | refine blk_drewN ?_ _ | refine blk_drew ?_ | refine blk_alloc ?_ _)); exact BK769.out⟩, ⟨by repeat (first | (with_reducible first | exact HB.out | apply below_alloc | apply pw_below_drewN | apply below_drew1 | refine below_set ?_ GE766.out | refine below_set ?_ GE767.out | refine below_set ?_ GE769.out) | exact HB.out)⟩⟩
                · rw [if_neg c25] at H
                  exact absurd H (by simp)
              · rw [if_neg c24] at H
                have c24b0 : (t773 == 0) = false := beq_eq_false_iff_ne.mpr c24
                have c24b1 : (t773 != 0) = true := bne_iff_ne.mpr c24
                simp only [Option.some.injEq, Prod.mk.injEq] at H
                obtain ⟨rfl, rfl, rfl, rfl⟩ := H
                have hnb35 := NB766_767.out
                have hnc35 := NB767_766.out
                have hnb36 := NB766_769.out
                have hnc36 := NB769_766.out
                have hcz37_0 : wr.cell? ⟨gb766, 0, none⟩ = some (.int .u8 a0_0) := (blk_cell BK766.out 0).trans rfl
                have hcz37_1 : wr.cell? ⟨gb766, 1, none⟩ = some (.slice A0_1 l0_1.length c0_1) := (blk_cell BK766.out 1).trans rfl
                have hfz37_0 := blk_frozen BK766.out 0
                have hfz37_1 := blk_frozen BK766.out 1
                obtain ⟨i038, hi038, _, hsz38, _⟩ := info_parts info5
                obtain ⟨A38, hcut38, hA38, hC38⟩ := print_drop_of (P := Try.prog) (Value.int .u8) 0 23 5 .i64 Try.underlying23 hi038 hsz38 A0_1 c0_1 l0_1 x6_1 (of_decide_eq_true (by first | (with_reducible assumption) | assumption)) (of_decide_eq_true (by first | (with_reducible assumption) | assumption)) HC0_1.out
                have HR770 := Aside0.mk (Kd.C_of_reads (h1 := fun _ => rfl) (hA38 _ (Kd.reads_of_C HR0_1.out)))
                have HC770 := Aside0.mk hC38
                clear hA38 hC38 hi038 hsz38
                go_wp2_with (first | ((with_reducible refine gate_callee (f := 24) rfl ?_); refine goesL_ (some 32) rfl rfl Try.func24 (by kernel_rfl) rfl #[.slice A38 (l0_1.drop (x6_1 : Int).toNat).length (c0_1 - x6_1.toNat)] rfl (by (try simp only [List.map_toArray, List.map_cons, List.map_nil]); first | done | (rw [show (l0_1.drop (x6_1 : Int).toNat).length = (l0_1.length - x6_1.toNat) from List.length_drop] <;> rfl) | rfl | (simp only [List.length_drop, List.length_take]; rfl)) ?_; (with_reducible refine (tumbrelref02_Get.calls k1 _ _ (l0_1.drop (x6_1 : Int).toNat) t771 t772 t773 _ ?side1 ?side2 A23.out).mono ?_); (case side1 => repeat (first | exact (Kd.C_below HR770.out HB.out) | (with_reducible refine Kd.C_alloc ?_ _) | (with_reducible refine Kd.C_drewN ?_ _) | (with_reducible refine Kd.C_drew ?_))); (case side2 => exact HC770.out); rintro e w' ⟨rfl, ⟨nd, rfl⟩⟩; refine ⟨_, rfl, ?_⟩; (try (rw [drewN_self wr]; generalize hq_ : World.drewN wr _ = wr; have n0_ : Aside0 (Kd.R (Kd.int .u64) 22 wr w.heap.size (fun _ => True) u770001 x770001_1) := ⟨by rw [← hq_]; exact (by (with_reducible repeat (first | apply Kd.R_alloc | apply Kd.R_drewN | apply Kd.R_drew)); exact HO_770001.out)⟩; have n1_ : Aside0 (wr.heap[gb766]? = some (.cells #[.int .u8 a0_0, .slice A0_1 l0_1.length c0_1] 60 (0, 0))) := ⟨by rw [← hq_]; exact (by (with_reducible repeat (first | refine blk_drewN ?_ _ | refine blk_drew ?_ | refine blk_alloc ?_ _)); exact BK766.out)⟩; have n2_ : Aside0 (wr.heap[gb767]? = some (.cells #[.int .i64 x768000_1, .slice none 0 0, .string x768002_1] 82 (0, 0))) := ⟨by rw [← hq_]; exact (by (with_reducible repeat (first | refine blk_drewN ?_ _ | refine blk_drew ?_ | refine blk_alloc ?_ _)); exact BK767.out)⟩; have n3_ : Aside0 (wr.heap[gb769]? = some (.cells #[.int .i64 (wrap64 (a0_0)), u770001, .string (⟨#[]⟩ : ByteArray)] 82 (0, 0))) := ⟨by rw [← hq_]; exact (by (with_reducible repeat (first | refine blk_drewN ?_ _ | refine blk_drew ?_ | refine blk_alloc ?_ _)); exact BK769.out)⟩; have n4_ : Aside0 (Below w.heap.size w wr) := ⟨by rw [← hq_]; exact (by repeat (first | (with_reducible first | exact HB.out | apply below_alloc | apply pw_below_drewN | apply below_drew1 | refine below_set ?_ GE766.out | refine below_set ?_ GE767.out | refine below_set ?_ GE769.out) | exact HB.out))⟩; clear HO_770001 BK766 BK767 BK769 HB hq_; have HO_770001 := n0_; have BK766 := n1_; have BK767 := n2_; have BK769 := n3_; have HB := n4_; clear n0_ n1_ n2_ n3_ n4_)); have hnb39 := NB767_769.out; have hnc39 := NB769_767.out; have hcz40_0 : wr.cell? ⟨gb767, 0, none⟩ = some (.int .i64 x768000_1) := (blk_cell BK767.out 0).trans rfl; have hcz40_1 : wr.cell? ⟨gb767, 1, none⟩ = some (.slice none 0 0) := (blk_cell BK767.out 1).trans rfl; have hcz40_2 : wr.cell? ⟨gb767, 2, none⟩ = some (.string x768002_1) := (blk_cell BK767.out 2).trans rfl; have hfz40_0 := blk_frozen BK767.out 0; have hfz40_1 := blk_frozen BK767.out 1; have hfz40_2 := blk_frozen BK767.out 2))
                refine bodyPost_ret (results_ct rfl _ _ gb767 82 #[.int .i64 0, .slice none 0 0, .string (⟨#[]⟩ : ByteArray)] (0, 0) _ rfl (by (with_reducible repeat (first | refine blk_drewN ?_ _ | refine blk_drew ?_ | refine blk_alloc ?_ _)); refine blk_put (cs := #[.int .i64 0, .slice none 0 0, .string x768002_1]) ?_ 2 _ rfl; (with_reducible repeat (first | refine blk_drewN ?_ _ | refine blk_drew ?_ | refine blk_alloc ?_ _)); refine blk_put (cs := #[.int .i64 0, .slice none 0 0, .string x768002_1]) ?_ 1 _ rfl; (with_reducible repeat (first | refine blk_drewN ?_ _ | refine blk_drew ?_ | refine blk_alloc ?_ _)); refine blk_put (cs := #[.int .i64 x768000_1, .slice none 0 0, .string x768002_1]) ?_ 0 _ rfl; (with_reducible repeat (first | refine blk_drewN ?_ _ | refine blk_drew ?_ | refine blk_alloc ?_ _)); exact BK767.out) Try.underlying82 rfl (by kernel_rfl)) rfl ?_
                exact ⟨_, by first | rfl | (simp [errW_none, errW_some] <;> rfl) | (simp [*, errW_none, errW_some] <;> rfl), by first | exact Kd.R_nil _ _ _ _ _ | exact Kd.N_nil _ _ _ _ _ | exact Kd.V_nil _ _ _ _ _ | exact Kd.Q_nil _ _ _ _ _ | exact Kd.S_nil _ _ _ _ _, by repeat (first | (with_reducible first | exact HB.out | apply below_alloc | apply pw_below_drewN | apply below_drew1 | refine below_set ?_ GE766.out | refine below_set ?_ GE767.out | refine below_set ?_ GE769.out) | exact HB.out)⟩
            · rw [if_neg c22] at H
              exact absurd H (by simp)
          · rw [if_neg c21] at H
            exact absurd H (by simp)
        · rw [if_neg c20] at H
          have c20b0 : decide (x7_1 < t768) = false := decide_eq_false c20
          clear c20
          replace H := Option.bind_eq_some_iff.mp H
          obtain ⟨t777, A410, H⟩ := H
          replace H : (if t777 = true then (if 0 ≤ x6_1 then (if x6_1 ≤ (l0_1.length : Int) then (some ((wrap64 (a0_0)), x770001_1, strOfNums (l0_1.drop (x6_1 : Int).toNat), 0)) else (none)) else (none)) else (some (0, ([] : List Int), (⟨#[]⟩ : ByteArray), 2))) = some (r1, r2, r3, r4) := H
          have A41 := Aside0.mk A410
          clear A410
          by_cases c42 : t777 = true
          · subst c42
            have H1 : (if 0 ≤ x6_1 then (if x6_1 ≤ (l0_1.length : Int) then (some ((wrap64 (a0_0)), x770001_1, strOfNums (l0_1.drop (x6_1 : Int).toNat), 0)) else (none)) else (none)) = some (r1, r2, r3, r4) := by rw [if_pos rfl] at H; exact H
            clear H
            have H := H1
            clear H1
            by_cases c43 : 0 ≤ x6_1
            · rw [if_pos c43] at H
              have c43b0 := eq_true c43
              have c43b1 : decide (0 ≤ x6_1) = true := decide_eq_true c43
              clear c43
              by_cases c44 : x6_1 ≤ (l0_1.length : Int)
              · rw [if_pos c44] at H
                have c44b0 := eq_true c44
                have c44b1 : decide (x6_1 ≤ (l0_1.length : Int)) = true := decide_eq_true c44
                clear c44
                simp only [Option.some.injEq, Prod.mk.injEq] at H
                obtain ⟨rfl, rfl, rfl, rfl⟩ := H
                have hnb45 := NB769_766.out
                have hnc45 := NB766_769.out
                have hnb46 := NB769_767.out
                have hnc46 := NB767_769.out
                have hcz47_0 : wr.cell? ⟨gb769, 0, none⟩ = some (.int .i64 (wrap64 (a0_0))) := (blk_cell BK769.out 0).trans rfl
                have hcz47_1 : wr.cell? ⟨gb769, 1, none⟩ = some (u770001) := (blk_cell BK769.out 1).trans rfl
                have hcz47_2 : wr.cell? ⟨gb769, 2, none⟩ = some (.string (⟨#[]⟩ : ByteArray)) := (blk_cell BK769.out 2).trans rfl
                have hfz47_0 := blk_frozen BK769.out 0
                have hfz47_1 := blk_frozen BK769.out 1
                have hfz47_2 := blk_frozen BK769.out 2
                have hnb48 := NB766_767.out
                have hnc48 := NB767_766.out
                have hcz49_0 : wr.cell? ⟨gb766, 0, none⟩ = some (.int .u8 a0_0) := (blk_cell BK766.out 0).trans rfl
                have hcz49_1 : wr.cell? ⟨gb766, 1, none⟩ = some (.slice A0_1 l0_1.length c0_1) := (blk_cell BK766.out 1).trans rfl
                have hfz49_0 := blk_frozen BK766.out 0
                have hfz49_1 := blk_frozen BK766.out 1
                go_wp2_with (first | ((with_reducible refine gate_callee (f := 81) rfl ?_); refine goesL_ (some 56) rfl rfl Try.func81 (by kernel_rfl) rfl #[.int .i64 (wrap64 (a0_0)), .int .i64 (wrap64 ((l0_1.length : Int) - x6_1))] rfl (by (try simp only [List.map_toArray, List.map_cons, List.map_nil]); first | done | rfl | (simp only [List.length_drop, List.length_take]; rfl)) ?_; (with_reducible refine (tumbrelref05_texts.calls (wrap64 (a0_0)) (wrap64 ((l0_1.length : Int) - x6_1)) true _ A41.out).mono ?_); rintro e w' ⟨rfl, ⟨nd, rfl⟩⟩; refine ⟨_, rfl, ?_⟩; (try (rw [drewN_self wr]; generalize hq_ : World.drewN wr _ = wr; have n0_ : Aside0 (Kd.R (Kd.int .u64) 22 wr w.heap.size (fun _ => True) u770001 x770001_1) := ⟨by rw [← hq_]; exact (by (with_reducible repeat (first | apply Kd.R_alloc | apply Kd.R_drewN | apply Kd.R_drew)); exact HO_770001.out)⟩; have n1_ : Aside0 (wr.heap[gb766]? = some (.cells #[.int .u8 a0_0, .slice A0_1 l0_1.length c0_1] 60 (0, 0))) := ⟨by rw [← hq_]; exact (by (with_reducible repeat (first | refine blk_drewN ?_ _ | refine blk_drew ?_ | refine blk_alloc ?_ _)); exact BK766.out)⟩; have n2_ : Aside0 (wr.heap[gb767]? = some (.cells #[.int .i64 x768000_1, .slice none 0 0, .string x768002_1] 82 (0, 0))) := ⟨by rw [← hq_]; exact (by (with_reducible repeat (first | refine blk_drewN ?_ _ | refine blk_drew ?_ | refine blk_alloc ?_ _)); exact BK767.out)⟩; have n3_ : Aside0 (wr.heap[gb769]? = some (.cells #[.int .i64 (wrap64 (a0_0)), u770001, .string (⟨#[]⟩ : ByteArray)] 82 (0, 0))) := ⟨by rw [← hq_]; exact (by (with_reducible repeat (first | refine blk_drewN ?_ _ | refine blk_drew ?_ | refine blk_alloc ?_ _)); exact BK769.out)⟩; have n4_ : Aside0 (Below w.heap.size w wr) := ⟨by rw [← hq_]; exact (by repeat (first | (with_reducible first | exact HB.out | apply below_alloc | apply pw_below_drewN | apply below_drew1 | refine below_set ?_ GE766.out | refine below_set ?_ GE767.out | refine below_set ?_ GE769.out) | exact HB.out))⟩; clear HO_770001 BK766 BK767 BK769 HB hq_; have HO_770001 := n0_; have BK766 := n1_; have BK767 := n2_; have BK769 := n3_; have HB := n4_; clear n0_ n1_ n2_ n3_ n4_)); obtain ⟨i050, hi050, _, hsz50, _⟩ := info_parts info5; obtain ⟨A50, hcut50, hA50, hC50⟩ := print_drop_of (P := Try.prog) (Value.int .u8) 0 23 5 .i64 Try.underlying23 hi050 hsz50 A0_1 c0_1 l0_1 x6_1 (of_decide_eq_true (by first | (with_reducible assumption) | assumption)) (of_decide_eq_true (by first | (with_reducible assumption) | assumption)) HC0_1.out; have HR778 := Aside0.mk (Kd.C_of_reads (h1 := fun _ => rfl) (hA50 _ (Kd.reads_of_C HR0_1.out))); have HC778 := Aside0.mk hC50; clear hA50 hC50 hi050 hsz50; have hcv51 := Kd.C_string (P := Try.prog) (A := A50) (c := (c0_1 - x6_1.toNat)) Try.underlying23 Try.underlying5 Try.underlying9 (Kd.C_below HR778.out HB.out); simp only [List.length_drop] at hcv51; have hcz99_1 : wr.cell? ⟨gb766, 1, none⟩ = some (.slice A0_1 l0_1.length c0_1) := (blk_cell BK766.out 1).trans rfl; have hcz52_0 : wr.cell? ⟨gb767, 0, none⟩ = some (.int .i64 x768000_1) := (blk_cell BK767.out 0).trans rfl; have hcz52_1 : wr.cell? ⟨gb767, 1, none⟩ = some (.slice none 0 0) := (blk_cell BK767.out 1).trans rfl; have hcz52_2 : wr.cell? ⟨gb767, 2, none⟩ = some (.string x768002_1) := (blk_cell BK767.out 2).trans rfl; have hfz52_0 := blk_frozen BK767.out 0; have hfz52_1 := blk_frozen BK767.out 1; have hfz52_2 := blk_frozen BK767.out 2; obtain ⟨Ao53, co53, eo53⟩ := Kd.R_slice HO_770001.out; subst eo53; have hcy99_0 : wr.cell? ⟨gb769, 0, none⟩ = some (.int .i64 (wrap64 (a0_0))) := (blk_cell BK769.out 0).trans rfl; have hcy99_1 : wr.cell? ⟨gb769, 1, none⟩ = some (.slice Ao53 x770001_1.length co53) := (blk_cell BK769.out 1).trans rfl; have hcy99_2 : wr.cell? ⟨gb769, 2, none⟩ = some (.string (⟨#[]⟩ : ByteArray)) := (blk_cell BK769.out 2).trans rfl; have hfy99_0 := blk_frozen BK769.out 0; have hfy99_1 := blk_frozen BK769.out 1; have hfy99_2 := blk_frozen BK769.out 2))
                refine bodyPost_ret (results_ct rfl _ _ gb767 82 #[.int .i64 (wrap64 (a0_0)), .slice Ao53 x770001_1.length co53, .string (strOfNums (l0_1.drop (x6_1 : Int).toNat))] (0, 0) _ rfl (by (with_reducible repeat (first | refine blk_drewN ?_ _ | refine blk_drew ?_ | refine blk_alloc ?_ _)); refine blk_put (cs := #[.int .i64 (wrap64 (a0_0)), .slice Ao53 x770001_1.length co53, .string x768002_1]) ?_ 2 _ rfl; (with_reducible repeat (first | refine blk_drewN ?_ _ | refine blk_drew ?_ | refine blk_alloc ?_ _)); refine blk_put (cs := #[.int .i64 (wrap64 (a0_0)), .slice none 0 0, .string x768002_1]) ?_ 1 _ rfl; (with_reducible repeat (first | refine blk_drewN ?_ _ | refine blk_drew ?_ | refine blk_alloc ?_ _)); refine blk_put (cs := #[.int .i64 x768000_1, .slice none 0 0, .string x768002_1]) ?_ 0 _ rfl; (with_reducible repeat (first | refine blk_drewN ?_ _ | refine blk_drew ?_ | refine blk_alloc ?_ _)); refine blk_far ?_ NB767_769.out _; (with_reducible repeat (first | refine blk_drewN ?_ _ | refine blk_drew ?_ | refine blk_alloc ?_ _)); exact BK767.out) Try.underlying82 rfl (by kernel_rfl)) rfl ?_
                exact ⟨_, by first | rfl | (simp [errW_none, errW_some] <;> rfl) | (simp [*, errW_none, errW_some] <;> rfl), by (with_reducible repeat (first | apply Kd.R_alloc | apply Kd.R_drewN | apply Kd.R_drew)); exact Kd.R_mono (Kd.R_far (p := ⟨gb767, 2, none⟩) (Kd.R_far (p := ⟨gb767, 1, none⟩) (Kd.R_far (p := ⟨gb767, 0, none⟩) (Kd.R_far (p := ⟨gb769, 2, none⟩) (Kd.R_types (Kd.R_types HO_770001.out BK769.out (by decide)) BK767.out (by decide)) (fun _ hk => hk.1.2) (.string (strOfNums (l0_1.drop (x6_1 : Int).toNat)))) (fun _ hk => hk.2) (.int .i64 (wrap64 (a0_0)))) (fun _ hk => hk.2) (.slice Ao53 x770001_1.length co53)) (fun _ hk => hk.2) (.string (strOfNums (l0_1.drop (x6_1 : Int).toNat)))) (fun _ hk => trivial), by repeat (first | (with_reducible first | exact HB.out | apply below_alloc | apply pw_below_drewN | apply below_drew1 | refine below_set ?_ GE766.out | refine below_set ?_ GE767.out | refine below_set ?_ GE769.out) | exact HB.out)⟩
              · rw [if_neg c44] at H
                exact absurd H (by simp)
            · rw [if_neg c43] at H
              exact absurd H (by simp)
          · replace c42 := Bool.eq_false_iff.mpr c42
            subst c42
            have H1 : (some (0, ([] : List Int), (⟨#[]⟩ : ByteArray), 2)) = some (r1, r2, r3, r4) := by rw [if_neg (show ¬ (false = true) by decide)] at H; exact H
            clear H
            have H := H1
            clear H1
            simp only [Option.some.injEq, Prod.mk.injEq] at H
            obtain ⟨rfl, rfl, rfl, rfl⟩ := H
            have hnb54 := NB769_766.out
            have hnc54 := NB766_769.out
            have hnb55 := NB769_767.out
            have hnc55 := NB767_769.out
            have hcz56_0 : wr.cell? ⟨gb769, 0, none⟩ = some (.int .i64 (wrap64 (a0_0))) := (blk_cell BK769.out 0).trans rfl
            have hcz56_1 : wr.cell? ⟨gb769, 1, none⟩ = some (u770001) := (blk_cell BK769.out 1).trans rfl
            have hcz56_2 : wr.cell? ⟨gb769, 2, none⟩ = some (.string (⟨#[]⟩ : ByteArray)) := (blk_cell BK769.out 2).trans rfl
            have hfz56_0 := blk_frozen BK769.out 0
            have hfz56_1 := blk_frozen BK769.out 1
            have hfz56_2 := blk_frozen BK769.out 2
            have hnb57 := NB766_767.out
            have hnc57 := NB767_766.out
            have hcz58_0 : wr.cell? ⟨gb766, 0, none⟩ = some (.int .u8 a0_0) := (blk_cell BK766.out 0).trans rfl
            have hcz58_1 : wr.cell? ⟨gb766, 1, none⟩ = some (.slice A0_1 l0_1.length c0_1) := (blk_cell BK766.out 1).trans rfl
            have hfz58_0 := blk_frozen BK766.out 0
            have hfz58_1 := blk_frozen BK766.out 1
            go_wp2_with (first | ((with_reducible refine gate_callee (f := 81) rfl ?_); refine goesL_ (some 56) rfl rfl Try.func81 (by kernel_rfl) rfl #[.int .i64 (wrap64 (a0_0)), .int .i64 (wrap64 ((l0_1.length : Int) - x6_1))] rfl (by (try simp only [List.map_toArray, List.map_cons, List.map_nil]); first | done | rfl | (simp only [List.length_drop, List.length_take]; rfl)) ?_; (with_reducible refine (tumbrelref05_texts.calls (wrap64 (a0_0)) (wrap64 ((l0_1.length : Int) - x6_1)) false _ A41.out).mono ?_); rintro e w' ⟨rfl, ⟨nd, rfl⟩⟩; refine ⟨_, rfl, ?_⟩; (try (rw [drewN_self wr]; generalize hq_ : World.drewN wr _ = wr; have n0_ : Aside0 (Kd.R (Kd.int .u64) 22 wr w.heap.size (fun _ => True) u770001 x770001_1) := ⟨by rw [← hq_]; exact (by (with_reducible repeat (first | apply Kd.R_alloc | apply Kd.R_drewN | apply Kd.R_drew)); exact HO_770001.out)⟩; have n1_ : Aside0 (wr.heap[gb766]? = some (.cells #[.int .u8 a0_0, .slice A0_1 l0_1.length c0_1] 60 (0, 0))) := ⟨by rw [← hq_]; exact (by (with_reducible repeat (first | refine blk_drewN ?_ _ | refine blk_drew ?_ | refine blk_alloc ?_ _)); exact BK766.out)⟩; have n2_ : Aside0 (wr.heap[gb767]? = some (.cells #[.int .i64 x768000_1, .slice none 0 0, .string x768002_1] 82 (0, 0))) := ⟨by rw [← hq_]; exact (by (with_reducible repeat (first | refine blk_drewN ?_ _ | refine blk_drew ?_ | refine blk_alloc ?_ _)); exact BK767.out)⟩; have n3_ : Aside0 (wr.heap[gb769]? = some (.cells #[.int .i64 (wrap64 (a0_0)), u770001, .string (⟨#[]⟩ : ByteArray)] 82 (0, 0))) := ⟨by rw [← hq_]; exact (by (with_reducible repeat (first | refine blk_drewN ?_ _ | refine blk_drew ?_ | refine blk_alloc ?_ _)); exact BK769.out)⟩; have n4_ : Aside0 (Below w.heap.size w wr) := ⟨by rw [← hq_]; exact (by repeat (first | (with_reducible first | exact HB.out | apply below_alloc | apply pw_below_drewN | apply below_drew1 | refine below_set ?_ GE766.out | refine below_set ?_ GE767.out | refine below_set ?_ GE769.out) | exact HB.out))⟩; clear HO_770001 BK766 BK767 BK769 HB hq_; have HO_770001 := n0_; have BK766 := n1_; have BK767 := n2_; have BK769 := n3_; have HB := n4_; clear n0_ n1_ n2_ n3_ n4_)); have hcz59_0 : wr.cell? ⟨gb767, 0, none⟩ = some (.int .i64 x768000_1) := (blk_cell BK767.out 0).trans rfl; have hcz59_1 : wr.cell? ⟨gb767, 1, none⟩ = some (.slice none 0 0) := (blk_cell BK767.out 1).trans rfl; have hcz59_2 : wr.cell? ⟨gb767, 2, none⟩ = some (.string x768002_1) := (blk_cell BK767.out 2).trans rfl; have hfz59_0 := blk_frozen BK767.out 0; have hfz59_1 := blk_frozen BK767.out 1; have hfz59_2 := blk_frozen BK767.out 2))
            refine bodyPost_ret (results_ct rfl _ _ gb767 82 #[.int .i64 0, .slice none 0 0, .string (⟨#[]⟩ : ByteArray)] (0, 0) _ rfl (by (with_reducible repeat (first | refine blk_drewN ?_ _ | refine blk_drew ?_ | refine blk_alloc ?_ _)); refine blk_put (cs := #[.int .i64 0, .slice none 0 0, .string x768002_1]) ?_ 2 _ rfl; (with_reducible repeat (first | refine blk_drewN ?_ _ | refine blk_drew ?_ | refine blk_alloc ?_ _)); refine blk_put (cs := #[.int .i64 0, .slice none 0 0, .string x768002_1]) ?_ 1 _ rfl; (with_reducible repeat (first | refine blk_drewN ?_ _ | refine blk_drew ?_ | refine blk_alloc ?_ _)); refine blk_put (cs := #[.int .i64 x768000_1, .slice none 0 0, .string x768002_1]) ?_ 0 _ rfl; (with_reducible repeat (first | refine blk_drewN ?_ _ | refine blk_drew ?_ | refine blk_alloc ?_ _)); exact BK767.out) Try.underlying82 rfl (by kernel_rfl)) rfl ?_
            exact ⟨_, by first | rfl | (simp [errW_none, errW_some] <;> rfl) | (simp [*, errW_none, errW_some] <;> rfl), by first | exact Kd.R_nil _ _ _ _ _ | exact Kd.N_nil _ _ _ _ _ | exact Kd.V_nil _ _ _ _ _ | exact Kd.Q_nil _ _ _ _ _ | exact Kd.S_nil _ _ _ _ _, by repeat (first | (with_reducible first | exact HB.out | apply below_alloc | apply pw_below_drewN | apply below_drew1 | refine below_set ?_ GE766.out | refine below_set ?_ GE767.out | refine below_set ?_ GE769.out) | exact HB.out)⟩
end Go.Proofs.Ytojepleodijdeaa.B
namespace Go.Proofs.Ytojepleodijdeaa.B
open Go.RowKit Go.Proofs.YtojepleodijdeaaW.PrintWords Go.Proofs.YtojepleodijdeaaW.PrintLast Go.Proofs.YtojepleodijdeaaW.PrintMore
attribute [local go_sem] max2_int min2_int max_two min_two max_three min_three max_four min_four   -- for this text's walks alone
set_option linter.unusedVariables false
set_option linter.unusedSimpArgs false
def tumbrellaw05_own.l0 : Nat → List (S82) → List (S80) → Int → Int → Option ((List (S82)))
  | 0, _, _, _, _ => none
  | k + 1, x3, x7, x8, x9 => if x9 < x8 then (if 0 ≤ x9 then (if x9 < (x7.length : Int) then (if x3.length < 2932031007402 then (tumbrellaw05_own.l0 k (x3 ++ [(⟨(rd_T80 x7 x9).f0, (rd_T80 x7 x9).f1, (rd_T80 x7 x9).f2⟩ : S82)]) x7 x8 (wrap64 (x9 + 1))) else (none)) else (none)) else (none)) else (some x3)
def tumbrellaw05_own.f (k : Nat) (l0 : List (S80)) : Option ((List (S82))) := tumbrellaw05_own.l0 k (([] : List (S82))) l0 (l0.length : Int) 0
set_option maxHeartbeats 8000000 in
set_option maxRecDepth 100000 in
theorem tumbrellaw05_own.calls (k : Nat) (P0_ : Nat → Prop) (A0 : Option Addr) (c0 : Nat) (l0 : List (S80)) (r : List (S82)) (w : World) (hs0 : Kd.V k80 80 w w.heap.size (fun k_ => P0_ k_) (.slice A0 l0.length c0) l0) (h : tumbrellaw05_own.f k l0 = some r) :
    Calls Try.prog 63 #[.slice A0 l0.length c0] w fun e w' => ∃ v0_ : Value, e = .returned (v0_) ∧ Kd.N k82 82 w' w.heap.size (fun k_ => (P0_ k_ ∨ w.heap.size ≤ k_)) v0_ r ∧ Below w.heap.size w w' := by
  have hu80 := Try.underlying80
  have HO0 := Aside0.mk (show Kd.V k80 80 w w.heap.size (fun k_ => (P0_ k_ ∨ w.heap.size ≤ k_)) (.slice A0 l0.length c0) l0 from Kd.V_mono hs0 (fun k_ hk => .inl hk))
  have HB := Aside0.mk (Below.refl w.heap.size w)
  have H : (tumbrellaw05_own.l0 k (([] : List (S82))) l0 (l0.length : Int) 0) = some r := h
  clear h
  obtain ⟨y786, hy786⟩ : ∃ y_ : List (S82), y_ = (([] : List (S82))) := ⟨_, rfl⟩
  replace H : (tumbrellaw05_own.l0 k y786 l0 (l0.length : Int) 0) = some r := by first | (rw [hy786]; with_reducible exact H) | (have H2_ := (Option.bind_some _ _).symm.trans H; rw [hy786]; with_reducible exact H2_) | (have H2_ := (Option.bind_some _ _).symm.trans H; with_reducible exact H2_) | with_reducible exact H | (rw [hy786]; exact H) | exact H
  have Ny786 := Aside0.mk hy786
  clear hy786
  have H' := Aside0.mk H
  clear H
  go_enter Try.func63, Try.ntmps63
  go_wp2_with (first | ((with_reducible refine gate_dst (N := 6) rfl ?_); refine Kd.N_lit k82 _ 82 ?hg (N' := 6) ?hd (xs := ([] : List (S82))) (inner := []) (ok := (fun k_ => (P0_ k_ ∨ w.heap.size ≤ k_))) (okp := (fun k_ => (P0_ k_ ∨ w.heap.size ≤ k_))) ?hr ?hp (fun _ hk => hk) ((show ∀ k_, w.heap.size ≤ k_ → (fun k_ => (P0_ k_ ∨ w.heap.size ≤ k_)) k_ from fun k_ hk => (.inr (Nat.le_trans (below_size (by repeat (first | (with_reducible first | exact HB.out | apply below_alloc | apply pw_below_drewN | apply below_drew1) | exact HB.out))) hk))) _ (Nat.le_refl _)) (Below.refl _ _) (Nat.le_refl _) (by simp) ?_; (case hd => rfl); (case hg => rfl); (case hr => first | (go_simp; done) | (go_simp; rfl)); (case hp => exact (Reps.none _ _)); intro v787 w2 ho3 hb hg_ hnew_; clear hg_ hnew_; (first | rw [← Ny786.out] at ho3 | (simp only [Int.reduceToNat] at ho3; rw [← Ny786.out] at ho3)); have n0_ := Aside0.mk (Kd.V_elder' (by (with_reducible repeat (first | apply Kd.V_alloc | apply Kd.V_drewN | apply Kd.V_drew)); exact HO0.out) (Kd.N_base ho3) hb); have n1_ := Aside0.mk (Kd.N_lower ho3 (below_size (by repeat (first | (with_reducible first | exact HB.out | apply below_alloc | apply pw_below_drewN | apply below_drew1) | exact HB.out)))); have n2_ := Aside0.mk (below_step (by repeat (first | (with_reducible first | exact HB.out | apply below_alloc | apply pw_below_drewN | apply below_drew1) | exact HB.out)) hb); clear HO0; clear HB; have HO0 := n0_; have HO788 := n1_; have HB := n2_; clear n0_ n1_ n2_; clear hb ho3))
  go_loopg [3, 9] k (fun kq v3 v9 w' => ∃ (x3_1 : List (S82)) (x9_1 : Int), v9 = .int .i64 x9_1 ∧ Aside0 (tumbrellaw05_own.l0 kq x3_1 l0 (l0.length : Int) x9_1 = some r) ∧ Aside0 (kq ≤ k) ∧ Aside0 (Kd.N k82 82 w' w.heap.size (fun k_ => (P0_ k_ ∨ w.heap.size ≤ k_)) v3 x3_1) ∧ Aside0 (Kd.V k80 80 w' w.heap.size (fun k_ => (P0_ k_ ∨ w.heap.size ≤ k_) ∧ some k_ ≠ (v3 : Value).ownBlock) (.slice A0 l0.length c0) l0) ∧ Aside0 (Below w.heap.size w w'))
  case atStart => exact ⟨(y786), (0), (by first | rfl | (simp; done) | (simp [*]; done)), H', ⟨Nat.le_refl _⟩, ⟨by (with_reducible repeat (first | apply Kd.N_alloc | apply Kd.N_drewN | apply Kd.N_drew)); exact HO788.out⟩, ⟨by (with_reducible repeat (first | apply Kd.V_alloc | apply Kd.V_drewN | apply Kd.V_drew)); exact HO0.out⟩, ⟨by repeat (first | (with_reducible first | exact HB.out | apply below_alloc | apply pw_below_drewN | apply below_drew1) | exact HB.out)⟩⟩
  case round =>
    clear H'
    try clear p2
    obtain ⟨x3_1, x9_1, rfl, HA, HK1, HO_3, HO_7, HB⟩ := hrel
    cases gk with
    | zero => exact absurd HA.out (by simp [tumbrellaw05_own.l0])
    | succ k1 =>
      have H := HA.out
      clear HA
      simp only [tumbrellaw05_own.l0] at H
      by_cases c4 : x9_1 < (l0.length : Int)
      · rw [if_pos c4] at H
        have c4b0 : decide (x9_1 < (l0.length : Int)) = true := decide_eq_true c4
        clear c4
        by_cases c5 : 0 ≤ x9_1
        · rw [if_pos c5] at H
          have c5b0 : decide (0 ≤ x9_1) = true := decide_eq_true c5
          clear c5
          by_cases c6 : x9_1 < (l0.length : Int)
          · rw [if_pos c6] at H
            have c6b0 : decide (x9_1 < (l0.length : Int)) = true := decide_eq_true c6
            clear c6
            by_cases c7 : x3_1.length < 2932031007402
            · rw [if_pos c7] at H
              have LMc7 := Aside0.mk c7
              clear c7
              obtain ⟨y791, hy791⟩ : ∃ y_ : List (S82), y_ = (x3_1 ++ [(⟨(rd_T80 l0 x9_1).f0, (rd_T80 l0 x9_1).f1, (rd_T80 l0 x9_1).f2⟩ : S82)]) := ⟨_, rfl⟩
              replace H : (tumbrellaw05_own.l0 k1 y791 l0 (l0.length : Int) (wrap64 (x9_1 + 1))) = some r := by first | (rw [hy791]; with_reducible exact H) | (have H2_ := (Option.bind_some _ _).symm.trans H; rw [hy791]; with_reducible exact H2_) | (have H2_ := (Option.bind_some _ _).symm.trans H; with_reducible exact H2_) | with_reducible exact H | (rw [hy791]; exact H) | exact H
              have Ny791 := Aside0.mk hy791
              clear hy791
              have H' := Aside0.mk H
              clear H
              have p789 : 0 ≤ (x9_1 : Int) := of_decide_eq_true (by first | (with_reducible assumption) | assumption)
              have q789 : x9_1 < (l0.length : Int) := of_decide_eq_true (by first | (with_reducible assumption) | assumption)
              obtain ⟨ad789, A789_1, c789_1, e789, hx789_0, hx789_1, hx789_2, hl789_1, hi789_1⟩ := at_T80 (Kd.V_reads' HO_7.out).2.2 x9_1 p789 q789
              cases e789
              obtain ⟨ce789, hce789, hMe789, hcc789⟩ := Kd.V_get HO_7.out z80 x9_1 p789 (by first | exact q789 | exact of_decide_eq_true (by first | (with_reducible assumption) | assumption) | (have e_ := (Kd.V_reads' HO_7.out).1; omega))
              obtain ⟨ua789_1, uc789_1, rfl, ul789_1, ge789_1⟩ := k80_openF hMe789
              have hv789_1 := hcc789 1 _ rfl
              rw [add_field _ _ 1 (by omega)] at hv789_1
              replace hv789_1 := Option.some.inj (hv789_1.symm.trans hx789_1)
              injection hv789_1 with hva_ hvn_ hvc_
              rw [hva_] at ge789_1
              rw [hvc_] at ul789_1
              have HL789_1 := Aside0.mk (show Kd.V (Kd.int .u64) 22 _ w.heap.size _ _ ((rd_T80 l0 x9_1).f1) from Kd.V_mk ul789_1 ge789_1)
              clear hva_ hvn_ hvc_ ge789_1 ul789_1
              clear hcc789 hce789
              have HR789_1 := Aside0.mk hi789_1
              have HC789_1 := Aside0.mk hl789_1
              clear hi789_1 hl789_1
              replace p789 := eq_true p789
              replace q789 := eq_true q789
              go_wp2_with (first | ((with_reducible refine gate_dst (N := 5) rfl ?_); refine box_event ?hg (N := 5) ?hd (cs := #[.int .i64 0, .slice none 0 0, .string (⟨#[]⟩ : ByteArray)]) (t := 80) ?hr ?_; (case hd => rfl); (case hg => rfl); (case hr => first | (go_simp; done) | (go_simp; rfl)); intro gb790 hg w8 hbox hb; have n0_ := Aside0.mk (Kd.N_below (Kd.N_elderB (by (with_reducible repeat (first | apply Kd.N_alloc | apply Kd.N_drewN | apply Kd.N_drew)); exact HO_3.out) gb790 (Nat.le_of_eq hg.symm)) hb); have n1_ := Aside0.mk (Kd.V_below (Kd.V_elderB (by (with_reducible repeat (first | apply Kd.V_alloc | apply Kd.V_drewN | apply Kd.V_drew)); exact HO_7.out) gb790 (Nat.le_of_eq hg.symm)) hb); have n2_ := Aside0.mk (Kd.V_below (Kd.V_elderB (by (with_reducible repeat (first | apply Kd.V_alloc | apply Kd.V_drewN | apply Kd.V_drew)); exact HL789_1.out) gb790 (Nat.le_of_eq hg.symm)) hb); have n3_ := Aside0.mk (Kd.C_below (by repeat (first | (with_reducible exact HR789_1.out) | (with_reducible refine Kd.C_alloc ?_ _) | (with_reducible refine Kd.C_drewN ?_ _) | (with_reducible refine Kd.C_drew ?_) | exact HR789_1.out)) hb); have n4_ := Aside0.mk (below_step (by repeat (first | (with_reducible first | exact HB.out | apply below_alloc | apply pw_below_drewN | apply below_drew1) | exact HB.out)) hb); have n5_ := Aside0.mk (hbox); have n6_ := Aside0.mk ((by rw [hg]; exact (below_size (by repeat (first | (with_reducible first | exact HB.out | apply below_alloc | apply pw_below_drewN | apply below_drew1) | exact HB.out))) : w.heap.size ≤ gb790)); have n7_ := Aside0.mk ((by rw [hg]; exact (below_size (by repeat (first | (with_reducible first | exact HB.out | apply below_alloc | apply pw_below_drewN | apply below_drew1) | exact HB.out))) : w.heap.size ≤ gb790)); clear HO_3; clear HO_7; clear HL789_1; clear HR789_1; clear HB; have HO_3 := n0_; have HO_7 := n1_; have HL789_1 := n2_; have HR789_1 := n3_; have HB := n4_; have BK790 := n5_; have GW790 := n6_; have GE790 := n7_; clear n0_ n1_ n2_ n3_ n4_ n5_ n6_ n7_; clear hb hbox hg; have hcz9_0 : w8.cell? ⟨gb790, 0, none⟩ = some (.int .i64 0) := (blk_cell BK790.out 0).trans rfl; have hcz9_1 : w8.cell? ⟨gb790, 1, none⟩ = some (.slice none 0 0) := (blk_cell BK790.out 1).trans rfl; have hcz9_2 : w8.cell? ⟨gb790, 2, none⟩ = some (.string (⟨#[]⟩ : ByteArray)) := (blk_cell BK790.out 2).trans rfl; have hfz9_0 := blk_frozen BK790.out 0; have hfz9_1 := blk_frozen BK790.out 1; have hfz9_2 := blk_frozen BK790.out 2) | ((with_reducible refine gate_store (t := 80) (p := 5) rfl ?_); refine store_event (t := 80) (p := 5) (v := ?vo_w10) (w1 := (((w8.setCell ⟨gb790, 0, none⟩ (.int .i64 ((rd_T80 l0 x9_1).f0))).setCell ⟨gb790, 1, none⟩ (.slice A789_1 ((rd_T80 l0 x9_1).f1).length c789_1)).setCell ⟨gb790, 2, none⟩ (.string ((rd_T80 l0 x9_1).f2)))) ?hg ?ho ?hn ?hr ?_; (case ho => rfl); (case hg => rfl); (case hn => rfl); (case hr => first | (go_simp; done) | (go_simp; rfl)); intro w10 hw; have n0_ : Aside0 (Kd.N k82 82 w10 w.heap.size (fun k_ => (P0_ k_ ∨ w.heap.size ≤ k_) ∧ k_ ≠ gb790) u3 x3_1) := ⟨(by rw [hw]; exact (by (with_reducible repeat (first | apply Kd.N_alloc | apply Kd.N_drewN | apply Kd.N_drew)); exact Kd.N_mono (Kd.N_far (p := ⟨gb790, 2, none⟩) (Kd.N_far (p := ⟨gb790, 1, none⟩) (Kd.N_far (p := ⟨gb790, 0, none⟩) (Kd.N_mono HO_3.out (fun k_ hk => (⟨hk, hk.2⟩ : _ ∧ k_ ≠ gb790))) (fun _ hk => hk.2) (.int .i64 ((rd_T80 l0 x9_1).f0))) (fun _ hk => hk.2) (.slice A789_1 ((rd_T80 l0 x9_1).f1).length c789_1)) (fun _ hk => hk.2) (.string ((rd_T80 l0 x9_1).f2))) (fun _ hk => ⟨hk.1.1, hk.1.2⟩)))⟩; have n1_ : Aside0 (Kd.V k80 80 w10 w.heap.size (fun k_ => (P0_ k_ ∨ w.heap.size ≤ k_) ∧ some k_ ≠ (u3 : Value).ownBlock ∧ k_ ≠ gb790) (.slice (some ad789) l0.length c0) l0) := ⟨(by rw [hw]; exact (by (with_reducible repeat (first | apply Kd.V_alloc | apply Kd.V_drewN | apply Kd.V_drew)); exact Kd.V_mono (Kd.V_far (p := ⟨gb790, 2, none⟩) (Kd.V_far (p := ⟨gb790, 1, none⟩) (Kd.V_far (p := ⟨gb790, 0, none⟩) (Kd.V_mono HO_7.out (fun k_ hk => (⟨hk, hk.2⟩ : _ ∧ k_ ≠ gb790))) (fun _ hk => hk.2) (.int .i64 ((rd_T80 l0 x9_1).f0))) (fun _ hk => hk.2) (.slice A789_1 ((rd_T80 l0 x9_1).f1).length c789_1)) (fun _ hk => hk.2) (.string ((rd_T80 l0 x9_1).f2))) (fun _ hk => ⟨hk.1.1.1, ⟨hk.1.1.2, hk.1.2⟩⟩)))⟩; have n2_ : Aside0 (Kd.V (Kd.int .u64) 22 w10 w.heap.size (fun k_ => (P0_ k_ ∨ w.heap.size ≤ k_) ∧ some k_ ≠ (u3 : Value).ownBlock ∧ k_ ≠ gb790) (.slice A789_1 ((rd_T80 l0 x9_1).f1).length c789_1) ((rd_T80 l0 x9_1).f1)) := ⟨(by rw [hw]; exact (by (with_reducible repeat (first | apply Kd.V_alloc | apply Kd.V_drewN | apply Kd.V_drew)); exact Kd.V_mono (Kd.V_far (p := ⟨gb790, 2, none⟩) (Kd.V_far (p := ⟨gb790, 1, none⟩) (Kd.V_far (p := ⟨gb790, 0, none⟩) (Kd.V_mono HL789_1.out (fun k_ hk => (⟨hk, hk.2⟩ : _ ∧ k_ ≠ gb790))) (fun _ hk => hk.2) (.int .i64 ((rd_T80 l0 x9_1).f0))) (fun _ hk => hk.2) (.slice A789_1 ((rd_T80 l0 x9_1).f1).length c789_1)) (fun _ hk => hk.2) (.string ((rd_T80 l0 x9_1).f2))) (fun _ hk => ⟨hk.1.1.1, ⟨hk.1.1.2, hk.1.2⟩⟩)))⟩; have n3_ : Aside0 (w10.heap[gb790]? = some (.cells #[.int .i64 ((rd_T80 l0 x9_1).f0), .slice A789_1 ((rd_T80 l0 x9_1).f1).length c789_1, .string ((rd_T80 l0 x9_1).f2)] 80 (0, 0))) := ⟨(by rw [hw]; exact (by (with_reducible repeat (first | refine blk_drewN ?_ _ | refine blk_drew ?_ | refine blk_alloc ?_ _)); refine blk_put (cs := #[.int .i64 ((rd_T80 l0 x9_1).f0), .slice A789_1 ((rd_T80 l0 x9_1).f1).length c789_1, .string (⟨#[]⟩ : ByteArray)]) ?_ 2 _ rfl; (with_reducible repeat (first | refine blk_drewN ?_ _ | refine blk_drew ?_ | refine blk_alloc ?_ _)); refine blk_put (cs := #[.int .i64 ((rd_T80 l0 x9_1).f0), .slice none 0 0, .string (⟨#[]⟩ : ByteArray)]) ?_ 1 _ rfl; (with_reducible repeat (first | refine blk_drewN ?_ _ | refine blk_drew ?_ | refine blk_alloc ?_ _)); refine blk_put (cs := #[.int .i64 0, .slice none 0 0, .string (⟨#[]⟩ : ByteArray)]) ?_ 0 _ rfl; (with_reducible repeat (first | refine blk_drewN ?_ _ | refine blk_drew ?_ | refine blk_alloc ?_ _)); exact BK790.out))⟩; have n4_ : Aside0 (Below w.heap.size w w10) := ⟨(by rw [hw]; exact (by repeat (first | (with_reducible first | exact HB.out | apply below_alloc | apply pw_below_drewN | apply below_drew1 | refine below_set ?_ GE790.out) | exact HB.out)))⟩; clear hw; clear HO_3; clear HO_7; clear HL789_1; clear BK790; clear HB; have HO_3 := n0_; have HO_7 := n1_; have HL789_1 := n2_; have BK790 := n3_; have HB := n4_; clear n0_ n1_ n2_ n3_ n4_; have hcz11_0 : w10.cell? ⟨gb790, 0, none⟩ = some (.int .i64 ((rd_T80 l0 x9_1).f0)) := (blk_cell BK790.out 0).trans rfl; have hcz11_1 : w10.cell? ⟨gb790, 1, none⟩ = some (.slice A789_1 ((rd_T80 l0 x9_1).f1).length c789_1) := (blk_cell BK790.out 1).trans rfl; have hcz11_2 : w10.cell? ⟨gb790, 2, none⟩ = some (.string ((rd_T80 l0 x9_1).f2)) := (blk_cell BK790.out 2).trans rfl; have hfz11_0 := blk_frozen BK790.out 0; have hfz11_1 := blk_frozen BK790.out 1; have hfz11_2 := blk_frozen BK790.out 2) | ((with_reducible refine gate_builtin (b := .append) (xs := #[.tmp 13, .tmp 15]) rfl ?_); at_builtin; refine Kd.N_append k82 (w0 := w) w.heap.size rfl (.tmp 13) (.tmp 15) 91 82 (.agg #[(.int .i64 0), (.slice none 0 0), (.string ⟨#[]⟩)]) 48 rfl Try.underlying91 info82 rfl (by decide) (by omega) u3 x3_1 (⟨(rd_T80 l0 x9_1).f0, (rd_T80 l0 x9_1).f1, (rd_T80 l0 x9_1).f2⟩ : S82) [.int .i64 ((rd_T80 l0 x9_1).f0), .slice A789_1 ((rd_T80 l0 x9_1).f1).length c789_1, .string ((rd_T80 l0 x9_1).f2)] (fun k_ => (P0_ k_ ∨ w.heap.size ≤ k_) ∧ k_ ≠ gb790) (fun k_ => ((fun k_ => (P0_ k_ ∨ w.heap.size ≤ k_) ∧ k_ ≠ gb790)) k_ ∧ some k_ ≠ (u3 : Value).ownBlock) rfl rfl ?aP (fun _ hk => hk) ?aF ?aO ?aB ?aS ?aL ?_; (case aP => exact (k82_mkF _ _ (⟨(rd_T80 l0 x9_1).f0, (rd_T80 l0 x9_1).f1, (rd_T80 l0 x9_1).f2⟩ : S82) (Kd.V_reads' (Kd.V_mono (ok' := (fun k_ => ((fun k_ => (P0_ k_ ∨ w.heap.size ≤ k_) ∧ k_ ≠ gb790)) k_ ∧ some k_ ≠ (u3 : Value).ownBlock)) (HL789_1.out) (fun k_ hk => ⟨⟨hk.1, hk.2.2⟩, hk.2.1⟩))).2.1 (Kd.V_F (Kd.V_mono (ok' := (fun k_ => ((fun k_ => (P0_ k_ ∨ w.heap.size ≤ k_) ∧ k_ ≠ gb790)) k_ ∧ some k_ ≠ (u3 : Value).ownBlock)) (HL789_1.out) (fun k_ hk => ⟨⟨hk.1, hk.2.2⟩, hk.2.1⟩))))); (case aB => exact (by repeat (first | (with_reducible first | exact HB.out | apply below_alloc | apply pw_below_drewN | apply below_drew1 | refine below_set ?_ GE790.out) | exact HB.out))); (case aF => exact (fun k_ hk => ⟨(.inr (Nat.le_trans (below_size (by repeat (first | (with_reducible first | exact HB.out | apply below_alloc | apply pw_below_drewN | apply below_drew1 | refine below_set ?_ GE790.out) | exact HB.out))) hk)), Kd.freshB (g := gb790) (o := .cells #[.int .i64 ((rd_T80 l0 x9_1).f0), .slice A789_1 ((rd_T80 l0 x9_1).f1).length c789_1, .string ((rd_T80 l0 x9_1).f2)] 80 (0, 0)) (by (with_reducible repeat (first | refine blk_drewN ?_ _ | refine blk_drew ?_ | refine blk_alloc ?_ _)); exact BK790.out) k_ hk⟩)); (case aO => exact (by (with_reducible repeat (first | apply Kd.N_alloc | apply Kd.N_drewN | apply Kd.N_drew)); exact HO_3.out)); (case aS => exact (below_size (by repeat (first | (with_reducible first | exact HB.out | apply below_alloc | apply pw_below_drewN | apply below_drew1 | refine below_set ?_ GE790.out) | exact HB.out)))); (case aL => have := LMc7.out; omega); intro v792 w12 ho hb hg hat; rw [← Ny791.out] at ho; have n0_ := Aside0.mk (Kd.V_afterv (ok := (fun k_ => (P0_ k_ ∨ w.heap.size ≤ k_) ∧ k_ ≠ gb790)) (by (with_reducible repeat (first | apply Kd.V_alloc | apply Kd.V_drewN | apply Kd.V_drew)); exact Kd.V_mono HO_7.out (fun _ hk => ⟨⟨hk.1, hk.2.2⟩, hk.2.1⟩)) hg hat); have n1_ := Aside0.mk (Kd.V_afterv (ok := (fun k_ => (P0_ k_ ∨ w.heap.size ≤ k_) ∧ k_ ≠ gb790)) (by (with_reducible repeat (first | apply Kd.V_alloc | apply Kd.V_drewN | apply Kd.V_drew)); exact Kd.V_mono HL789_1.out (fun _ hk => ⟨⟨hk.1, hk.2.2⟩, hk.2.1⟩)) hg hat); have n2_ := Aside0.mk (blk_grown (g := gb790) (o := .cells #[.int .i64 ((rd_T80 l0 x9_1).f0), .slice A789_1 ((rd_T80 l0 x9_1).f1).length c789_1, .string ((rd_T80 l0 x9_1).f2)] 80 (0, 0)) (by (with_reducible repeat (first | refine blk_drewN ?_ _ | refine blk_drew ?_ | refine blk_alloc ?_ _)); exact BK790.out) hg (Kd.N_ne HO_3.out BK790.out (by decide))); have n3_ := Aside0.mk (hb); have n4_ := Aside0.mk (ho); clear HO_7; clear HL789_1; clear BK790; clear HB; clear HO_3; have HO_7 := n0_; have HL789_1 := n1_; have BK790 := n2_; have HB := n3_; have HO793 := n4_; clear n0_ n1_ n2_ n3_ n4_; clear ho hb hg hat))
              go_roundg k1
              case measure => have := HK1.out; omega
              case rel => exact ⟨(y791), (wrap64 (x9_1 + 1)), (by first | rfl | (simp; done) | (simp [*]; done)), H', ⟨by have := HK1.out; omega⟩, ⟨by (with_reducible repeat (first | apply Kd.N_alloc | apply Kd.N_drewN | apply Kd.N_drew)); exact Kd.N_mono HO793.out (fun _ hk => hk.1)⟩, ⟨by (with_reducible repeat (first | apply Kd.V_alloc | apply Kd.V_drewN | apply Kd.V_drew)); exact Kd.V_mono HO_7.out (fun _ hk => ⟨hk.1.1, hk.2⟩)⟩, ⟨by repeat (first | (with_reducible first | exact HB.out | apply below_alloc | apply pw_below_drewN | apply below_drew1 | refine below_set ?_ GE790.out) | exact HB.out)⟩⟩
            · rw [if_neg c7] at H
              exact absurd H (by simp)
          · rw [if_neg c6] at H
            exact absurd H (by simp)
        · rw [if_neg c5] at H
          exact absurd H (by simp)
      · rw [if_neg c4] at H
        have c4b0 : decide (x9_1 < (l0.length : Int)) = false := decide_eq_false c4
        clear c4
        obtain rfl := Option.some.inj H
        go_wp2
        go_ret
        exact ⟨_, by first | rfl | (simp [errW_none, errW_some] <;> rfl) | (simp [*, errW_none, errW_some] <;> rfl), by (with_reducible repeat (first | apply Kd.N_alloc | apply Kd.N_drewN | apply Kd.N_drew)); exact HO_3.out, by repeat (first | (with_reducible first | exact HB.out | apply below_alloc | apply pw_below_drewN | apply below_drew1) | exact HB.out)⟩
def tumbrelref05_All.l0 : Nat → List (S82) → List Int → List (S60) → Int → Int → Int → Option ((List (S82)) × List Int × Int)
  | 0, _, _, _, _, _, _ => none
  | k + 1, x5, x6, x7, x9, x10, x11 => if x11 < (x7.length : Int) then (if 0 ≤ x11 then ((tumbrelref05_Read.f k ((rd_T60 x7 x11).f0) ((rd_T60 x7 x11).f1)).bind fun bt848 => (if bt848.2.2.2 = 0 then (if x5.length < 2932031007402 then (if x6.length < 17592186044416 then (tumbrelref05_All.l0 k (x5 ++ [(⟨bt848.1, bt848.2.1, bt848.2.2.1⟩ : S82)]) (x6 ++ [wrap64 ((wrap64 (x10 + (((rd_T60 x7 x11).f1).length : Int))) + 11)]) x7 x9 (wrap64 ((wrap64 (x10 + (((rd_T60 x7 x11).f1).length : Int))) + 11)) (wrap64 (x11 + 1))) else (none)) else (none)) else (some (x5, x6, bt848.2.2.2)))) else (none)) else (some (x5, x6, x9))
def tumbrelref05_All.f (k : Nat) (l0 : List Int) : Option ((List (S82)) × List Int × Int) := (tumbrelref04_All.f k l0).bind fun bt842 => (tumbrelref05_All.l0 k (([] : List (S82))) (([] : List Int)) bt842.1 bt842.2.2 0 0)
set_option maxHeartbeats 8000000 in
set_option maxRecDepth 100000 in
theorem tumbrelref05_All.calls (k : Nat) (A0 : Option Addr) (c0 : Nat) (l0 : List Int) (r1 : List (S82)) (r2 : List Int) (r3 : Int) (w : World) (hr0 : Kd.C (Kd.int .u8) w A0 l0.length l0) (hc0 : l0.length ≤ c0) (h : tumbrelref05_All.f k l0 = some (r1, r2, r3)) :
    Calls Try.prog 66 #[.slice A0 l0.length c0] w fun e w' => ∃ v0_ v1_ : Value, e = .returned (.tuple #[v0_, v1_, .int .i64 r3]) ∧ Kd.S k82 82 w' w.heap.size (fun _ => True) v0_ r1 ∧ Kd.R (Kd.int .i64) 3 w' w.heap.size (fun _ => True) v1_ r2 ∧ Below w.heap.size w w' := by
  have hu60 := Try.underlying60
  have hu82 := Try.underlying82
  have HR0 := Aside0.mk hr0
  have HC0 := Aside0.mk hc0
  clear hr0 hc0
  have HB := Aside0.mk (Below.refl w.heap.size w)
  have H : ((tumbrelref04_All.f k l0).bind fun bt842 => (tumbrelref05_All.l0 k (([] : List (S82))) (([] : List Int)) bt842.1 bt842.2.2 0 0)) = some (r1, r2, r3) := h
  clear h
  obtain ⟨y836, hy836⟩ : ∃ y_ : List (S82), y_ = (([] : List (S82))) := ⟨_, rfl⟩
  replace H : ((tumbrelref04_All.f k l0).bind fun bt842 => (tumbrelref05_All.l0 k y836 (([] : List Int)) bt842.1 bt842.2.2 0 0)) = some (r1, r2, r3) := by first | (rw [hy836]; with_reducible exact H) | (have H2_ := (Option.bind_some _ _).symm.trans H; rw [hy836]; with_reducible exact H2_) | (have H2_ := (Option.bind_some _ _).symm.trans H; with_reducible exact H2_) | with_reducible exact H | (rw [hy836]; exact H) | exact H
  have Ny836 := Aside0.mk hy836
  clear hy836
  obtain ⟨y839, hy839⟩ : ∃ y_ : List Int, y_ = (([] : List Int)) := ⟨_, rfl⟩
  replace H : ((tumbrelref04_All.f k l0).bind fun bt842 => (tumbrelref05_All.l0 k y836 y839 bt842.1 bt842.2.2 0 0)) = some (r1, r2, r3) := by first | (rw [hy839]; with_reducible exact H) | (have H2_ := (Option.bind_some _ _).symm.trans H; rw [hy839]; with_reducible exact H2_) | (have H2_ := (Option.bind_some _ _).symm.trans H; with_reducible exact H2_) | with_reducible exact H | (rw [hy839]; exact H) | exact H
  have Ny839 := Aside0.mk hy839
  clear hy839
  replace H := Option.bind_eq_some_iff.mp H
  obtain ⟨⟨t842, t843, t844⟩, A20, H⟩ := H
  replace H : (tumbrelref05_All.l0 k y836 y839 t842 t844 0 0) = some (r1, r2, r3) := H
  have A2 := Aside0.mk A20
  clear A20
  have H' := Aside0.mk H
  clear H
  go_enter Try.func66, Try.ntmps66
  go_wp2_with (first | ((with_reducible refine gate_dst (N := 14) rfl ?_); refine Kd.S_lit k82 _ 82 ?hg (N := 14) ?hd (xs := ([] : List (S82))) (inner := []) (ok := fun _ => True) (okp := fun _ => True) ?hr ?hp (fun _ hk => hk) trivial (Below.refl _ _) (Nat.le_refl _) (by simp) ?_; (case hd => rfl); (case hg => rfl); (case hr => first | (go_simp; done) | (go_simp; rfl)); (case hp => exact (Reps.none _ _)); intro v837 w3 ho4 hb hg_ hnew_; clear hg_ hnew_; (first | rw [← Ny836.out] at ho4 | (simp only [Int.reduceToNat] at ho4; rw [← Ny836.out] at ho4)); have n0_ := Aside0.mk (Kd.S_lower ho4 (below_size (by repeat (first | (with_reducible first | exact HB.out | apply below_alloc | apply pw_below_drewN | apply below_drew1) | exact HB.out)))); have n1_ := Aside0.mk (below_step (by repeat (first | (with_reducible first | exact HB.out | apply below_alloc | apply pw_below_drewN | apply below_drew1) | exact HB.out)) hb); clear HB; have HO838 := n0_; have HB := n1_; clear n0_ n1_; clear hb ho4) | ((with_reducible refine gate_dst (N := 15) rfl ?_); refine Kd.R_lit (Kd.int .i64) _ 3 ?hg (N := 15) ?hd (xs := ([] : List Int)) (inner := []) (ok := fun _ => True) (okp := fun _ => True) ?hr ?hp (fun _ hk => hk) trivial (Below.refl _ _) (Nat.le_refl _) (by simp) ?_; (case hd => rfl); (case hg => rfl); (case hr => first | (go_simp; done) | (go_simp; rfl)); (case hp => exact (Reps.none _ _)); intro v840 w5 ho6 hb hg_ hnew_; clear hg_ hnew_; (first | rw [← Ny839.out] at ho6 | (simp only [Int.reduceToNat] at ho6; rw [← Ny839.out] at ho6)); have n0_ := Aside0.mk (Kd.S_below (by (with_reducible repeat (first | apply Kd.S_alloc | apply Kd.S_drewN | apply Kd.S_drew)); exact HO838.out) hb); have n1_ := Aside0.mk (Kd.R_lower ho6 (below_size (by repeat (first | (with_reducible first | exact HB.out | apply below_alloc | apply pw_below_drewN | apply below_drew1) | exact HB.out)))); have n2_ := Aside0.mk (below_step (by repeat (first | (with_reducible first | exact HB.out | apply below_alloc | apply pw_below_drewN | apply below_drew1) | exact HB.out)) hb); clear HO838; clear HB; have HO838 := n0_; have HO841 := n1_; have HB := n2_; clear n0_ n1_ n2_; clear hb ho6) | ((with_reducible refine gate_callee (f := 50) rfl ?_); refine goesL_ (some 18) rfl rfl Try.func50 (by kernel_rfl) rfl #[.slice A0 l0.length c0] rfl (by (try simp only [List.map_toArray, List.map_cons, List.map_nil]); first | done | rfl | (simp only [List.length_drop, List.length_take]; rfl)) ?_; (with_reducible refine (tumbrelref04_All.calls k _ _ l0 t842 t843 t844 _ ?side1 ?side2 A2.out).mono ?_); (case side1 => repeat (first | exact (Kd.C_below HR0.out HB.out) | (with_reducible refine Kd.C_alloc ?_ _) | (with_reducible refine Kd.C_drewN ?_ _) | (with_reducible refine Kd.C_drew ?_))); (case side2 => exact HC0.out); rintro e w7 ⟨v845, rfl, ho0, hb⟩; refine ⟨_, rfl, ?_⟩; have n0_ := Aside0.mk (Kd.S_below (by (with_reducible repeat (first | apply Kd.S_alloc | apply Kd.S_drewN | apply Kd.S_drew)); exact HO838.out) hb); have n1_ := Aside0.mk (Kd.R_below (by (with_reducible repeat (first | apply Kd.R_alloc | apply Kd.R_drewN | apply Kd.R_drew)); exact HO841.out) hb); have n2_ := Aside0.mk (Kd.S_lower ho0 (below_size (by repeat (first | (with_reducible first | exact HB.out | apply below_alloc | apply pw_below_drewN | apply below_drew1) | exact HB.out)))); have n3_ := Aside0.mk (below_step (by repeat (first | (with_reducible first | exact HB.out | apply below_alloc | apply pw_below_drewN | apply below_drew1) | exact HB.out)) hb); clear HO838; clear HO841; clear HB; have HO838 := n0_; have HO841 := n1_; have HO846 := n2_; have HB := n3_; clear n0_ n1_ n2_ n3_; (try clear hb); (try clear hb2); (try clear hk); (try clear hi); (try clear ho0)))
  go_loopg [5, 6, 10, 11] k (fun kq v5 v6 v10 v11 w' => ∃ (x5_1 : List (S82)) (x6_1 : List Int) (x10_1 : Int) (x11_1 : Int), v10 = .int .i64 x10_1 ∧ v11 = .int .i64 x11_1 ∧ Aside0 (tumbrelref05_All.l0 kq x5_1 x6_1 t842 t844 x10_1 x11_1 = some (r1, r2, r3)) ∧ Aside0 (kq ≤ k) ∧ Aside0 (Kd.S k82 82 w' w.heap.size (fun _ => True) v5 x5_1) ∧ Aside0 (Kd.R (Kd.int .i64) 3 w' w.heap.size (fun _ => True) v6 x6_1) ∧ Aside0 (Kd.S k60 60 w' w.heap.size (fun _ => True) v845 t842) ∧ Aside0 (Below w.heap.size w w'))
  case atStart => exact ⟨(y836), (y839), (0), (0), (by first | rfl | (simp; done) | (simp [*]; done)), (by first | rfl | (simp; done) | (simp [*]; done)), H', ⟨Nat.le_refl _⟩, ⟨by (with_reducible repeat (first | apply Kd.S_alloc | apply Kd.S_drewN | apply Kd.S_drew)); exact HO838.out⟩, ⟨by (with_reducible repeat (first | apply Kd.R_alloc | apply Kd.R_drewN | apply Kd.R_drew)); exact HO841.out⟩, ⟨by (with_reducible repeat (first | apply Kd.S_alloc | apply Kd.S_drewN | apply Kd.S_drew)); exact HO846.out⟩, ⟨by repeat (first | (with_reducible first | exact HB.out | apply below_alloc | apply pw_below_drewN | apply below_drew1) | exact HB.out)⟩⟩
  case round =>
    clear H'
    try clear p2
    try clear c5
    try clear c6
    obtain ⟨x5_1, x6_1, x10_1, x11_1, rfl, rfl, HA, HK1, HO_5, HO_6, HO_7, HB⟩ := hrel
    cases gk with
    | zero => exact absurd HA.out (by simp [tumbrelref05_All.l0])
    | succ k1 =>
      have H := HA.out
      clear HA
      simp only [tumbrelref05_All.l0] at H
      by_cases c8 : x11_1 < (t842.length : Int)
      · rw [if_pos c8] at H
        have c8b0 : decide (x11_1 < (t842.length : Int)) = true := decide_eq_true c8
        clear c8
        by_cases c9 : 0 ≤ x11_1
        · rw [if_pos c9] at H
          have c9b0 : decide (0 ≤ x11_1) = true := decide_eq_true c9
          clear c9
          replace H := Option.bind_eq_some_iff.mp H
          obtain ⟨⟨t848, t849, t852, t853⟩, A100, H⟩ := H
          replace H : (if t853 = 0 then (if x5_1.length < 2932031007402 then (if x6_1.length < 17592186044416 then (tumbrelref05_All.l0 k1 (x5_1 ++ [(⟨t848, t849, t852⟩ : S82)]) (x6_1 ++ [wrap64 ((wrap64 (x10_1 + (((rd_T60 t842 x11_1).f1).length : Int))) + 11)]) t842 t844 (wrap64 ((wrap64 (x10_1 + (((rd_T60 t842 x11_1).f1).length : Int))) + 11)) (wrap64 (x11_1 + 1))) else (none)) else (none)) else (some (x5_1, x6_1, t853))) = some (r1, r2, r3) := H
          have A10 := Aside0.mk A100
          clear A100
          by_cases c11 : t853 = 0
          · rw [if_pos c11] at H
            have c11b0 : (t853 == 0) = true := beq_iff_eq.mpr c11
            have c11b1 : (t853 != 0) = false := bne_eq_false_iff_eq.mpr c11
            clear c11
            by_cases c12 : x5_1.length < 2932031007402
            · rw [if_pos c12] at H
              have LMc12 := Aside0.mk c12
              clear c12
              obtain ⟨y856, hy856⟩ : ∃ y_ : List (S82), y_ = (x5_1 ++ [(⟨t848, t849, t852⟩ : S82)]) := ⟨_, rfl⟩
              replace H : (if x6_1.length < 17592186044416 then (tumbrelref05_All.l0 k1 y856 (x6_1 ++ [wrap64 ((wrap64 (x10_1 + (((rd_T60 t842 x11_1).f1).length : Int))) + 11)]) t842 t844 (wrap64 ((wrap64 (x10_1 + (((rd_T60 t842 x11_1).f1).length : Int))) + 11)) (wrap64 (x11_1 + 1))) else (none)) = some (r1, r2, r3) := by first | (rw [hy856]; with_reducible exact H) | (have H2_ := (Option.bind_some _ _).symm.trans H; rw [hy856]; with_reducible exact H2_) | (have H2_ := (Option.bind_some _ _).symm.trans H; with_reducible exact H2_) | with_reducible exact H | (rw [hy856]; exact H) | exact H
              have Ny856 := Aside0.mk hy856
              clear hy856
              by_cases c13 : x6_1.length < 17592186044416
              · rw [if_pos c13] at H
                have LMc13 := Aside0.mk c13
                clear c13
                obtain ⟨y859, hy859⟩ : ∃ y_ : List Int, y_ = (x6_1 ++ [wrap64 ((wrap64 (x10_1 + (((rd_T60 t842 x11_1).f1).length : Int))) + 11)]) := ⟨_, rfl⟩
                replace H : (tumbrelref05_All.l0 k1 y856 y859 t842 t844 (wrap64 ((wrap64 (x10_1 + (((rd_T60 t842 x11_1).f1).length : Int))) + 11)) (wrap64 (x11_1 + 1))) = some (r1, r2, r3) := by first | (rw [hy859]; with_reducible exact H) | (have H2_ := (Option.bind_some _ _).symm.trans H; rw [hy859]; with_reducible exact H2_) | (have H2_ := (Option.bind_some _ _).symm.trans H; with_reducible exact H2_) | with_reducible exact H | (rw [hy859]; exact H) | exact H
                have Ny859 := Aside0.mk hy859
                clear hy859
                have H' := Aside0.mk H
                clear H
                obtain ⟨Ao14, co14, eo14⟩ := Kd.S_slice HO_7.out
                subst eo14
                have p847 : 0 ≤ (x11_1 : Int) := of_decide_eq_true (by first | (with_reducible assumption) | assumption)
                have q847 : x11_1 < (t842.length : Int) := of_decide_eq_true (by first | (with_reducible assumption) | assumption)
                obtain ⟨ad847, A847_1, c847_1, e847, hx847_0, hx847_1, hl847_1, hi847_1⟩ := at_T60 (Kd.S_reads' HO_7.out).2.2 x11_1 p847 q847
                cases e847
                obtain ⟨ce847, hce847, hMe847, hcc847⟩ := Kd.S_get HO_7.out z60 x11_1 p847 (by first | exact q847 | exact of_decide_eq_true (by first | (with_reducible assumption) | assumption) | (have e_ := (Kd.S_reads' HO_7.out).1; omega))
                obtain ⟨ve847_1, rfl, ge847_1⟩ := k60_openM hMe847
                have hv847_1 := hcc847 1 _ rfl
                rw [add_field _ _ 1 (by omega)] at hv847_1
                replace hv847_1 := Option.some.inj (hv847_1.symm.trans hx847_1)
                rw [hv847_1] at ge847_1
                have HL847_1 := Aside0.mk (show Kd.R (Kd.int .u8) 5 _ _ _ _ ((rd_T60 t842 x11_1).f1) from ge847_1)
                clear hv847_1 ge847_1
                clear hcc847 hce847
                have HR847_1 := Aside0.mk hi847_1
                have HC847_1 := Aside0.mk hl847_1
                clear hi847_1 hl847_1
                replace p847 := eq_true p847
                replace q847 := eq_true q847
                go_wp2_with (first | ((with_reducible refine gate_callee (f := 59) rfl ?_); refine goesL_ (some 33) rfl rfl Try.func59 (by kernel_rfl) rfl #[.agg #[.int .u8 ((rd_T60 t842 x11_1).f0), .slice A847_1 ((rd_T60 t842 x11_1).f1).length c847_1]] rfl (by (try simp only [List.map_toArray, List.map_cons, List.map_nil]); first | done | rfl | (simp only [List.length_drop, List.length_take]; rfl)) ?_; (with_reducible refine (tumbrelref05_Read.calls k1 ((rd_T60 t842 x11_1).f0) _ _ ((rd_T60 t842 x11_1).f1) t848 t849 t852 t853 _ ?side1 ?side2 A10.out).mono ?_); (case side1 => repeat (first | exact (by repeat (first | (with_reducible exact HR847_1.out) | (with_reducible refine Kd.C_alloc ?_ _) | (with_reducible refine Kd.C_drewN ?_ _) | (with_reducible refine Kd.C_drew ?_) | exact HR847_1.out)) | (with_reducible refine Kd.C_alloc ?_ _) | (with_reducible refine Kd.C_drewN ?_ _) | (with_reducible refine Kd.C_drew ?_))); (case side2 => exact HC847_1.out); rintro e w15 ⟨v850, rfl, ho0, hb⟩; refine ⟨_, rfl, ?_⟩; have n0_ := Aside0.mk (Kd.S_elder' (by (with_reducible repeat (first | apply Kd.S_alloc | apply Kd.S_drewN | apply Kd.S_drew)); exact HO_5.out) (Kd.R_base ho0) hb); have n1_ := Aside0.mk (Kd.R_below (by (with_reducible repeat (first | apply Kd.R_alloc | apply Kd.R_drewN | apply Kd.R_drew)); exact HO_6.out) hb); have n2_ := Aside0.mk (Kd.S_below (by (with_reducible repeat (first | apply Kd.S_alloc | apply Kd.S_drewN | apply Kd.S_drew)); exact HO_7.out) hb); have n3_ := Aside0.mk (Kd.R_below (by (with_reducible repeat (first | apply Kd.R_alloc | apply Kd.R_drewN | apply Kd.R_drew)); exact HL847_1.out) hb); have n4_ := Aside0.mk (Kd.R_lower ho0 (below_size (by repeat (first | (with_reducible first | exact HB.out | apply below_alloc | apply pw_below_drewN | apply below_drew1) | exact HB.out)))); have n5_ := Aside0.mk (Kd.C_below (by repeat (first | (with_reducible exact HR847_1.out) | (with_reducible refine Kd.C_alloc ?_ _) | (with_reducible refine Kd.C_drewN ?_ _) | (with_reducible refine Kd.C_drew ?_) | exact HR847_1.out)) hb); have n6_ := Aside0.mk (below_step (by repeat (first | (with_reducible first | exact HB.out | apply below_alloc | apply pw_below_drewN | apply below_drew1) | exact HB.out)) hb); clear HO_5; clear HO_6; clear HO_7; clear HL847_1; clear HR847_1; clear HB; have HO_5 := n0_; have HO_6 := n1_; have HO_7 := n2_; have HL847_1 := n3_; have HO851 := n4_; have HR847_1 := n5_; have HB := n6_; clear n0_ n1_ n2_ n3_ n4_ n5_ n6_; (try clear hb); (try clear hb2); (try clear hk); (try clear hi); (try clear ho0)) | ((with_reducible refine gate_dst (N := 12) rfl ?_); refine box_event ?hg (N := 12) ?hd (cs := #[.int .i64 0, .slice none 0 0, .string (⟨#[]⟩ : ByteArray)]) (t := 82) ?hr ?_; (case hd => rfl); (case hg => rfl); (case hr => first | (go_simp; done) | (go_simp; rfl)); intro gb854 hg w16 hbox hb; have n0_ := Aside0.mk (Kd.S_below (Kd.S_elderB (by (with_reducible repeat (first | apply Kd.S_alloc | apply Kd.S_drewN | apply Kd.S_drew)); exact HO_5.out) gb854 (Nat.le_of_eq hg.symm)) hb); have n1_ := Aside0.mk (Kd.R_below (by (with_reducible repeat (first | apply Kd.R_alloc | apply Kd.R_drewN | apply Kd.R_drew)); exact HO_6.out) hb); have n2_ := Aside0.mk (Kd.S_below (by (with_reducible repeat (first | apply Kd.S_alloc | apply Kd.S_drewN | apply Kd.S_drew)); exact HO_7.out) hb); have n3_ := Aside0.mk (Kd.R_below (by (with_reducible repeat (first | apply Kd.R_alloc | apply Kd.R_drewN | apply Kd.R_drew)); exact HL847_1.out) hb); have n4_ := Aside0.mk (Kd.R_below (by (with_reducible repeat (first | apply Kd.R_alloc | apply Kd.R_drewN | apply Kd.R_drew)); exact HO851.out) hb); have n5_ := Aside0.mk (Kd.C_below (by repeat (first | (with_reducible exact HR847_1.out) | (with_reducible refine Kd.C_alloc ?_ _) | (with_reducible refine Kd.C_drewN ?_ _) | (with_reducible refine Kd.C_drew ?_) | exact HR847_1.out)) hb); have n6_ := Aside0.mk (below_step (by repeat (first | (with_reducible first | exact HB.out | apply below_alloc | apply pw_below_drewN | apply below_drew1) | exact HB.out)) hb); have n7_ := Aside0.mk (hbox); have n8_ := Aside0.mk ((by rw [hg]; exact (below_size (by repeat (first | (with_reducible first | exact HB.out | apply below_alloc | apply pw_below_drewN | apply below_drew1) | exact HB.out))) : w.heap.size ≤ gb854)); have n9_ := Aside0.mk ((by rw [hg]; exact (below_size (by repeat (first | (with_reducible first | exact HB.out | apply below_alloc | apply pw_below_drewN | apply below_drew1) | exact HB.out))) : w.heap.size ≤ gb854)); clear HO_5; clear HO_6; clear HO_7; clear HL847_1; clear HO851; clear HR847_1; clear HB; have HO_5 := n0_; have HO_6 := n1_; have HO_7 := n2_; have HL847_1 := n3_; have HO851 := n4_; have HR847_1 := n5_; have HB := n6_; have BK854 := n7_; have GW854 := n8_; have GE854 := n9_; clear n0_ n1_ n2_ n3_ n4_ n5_ n6_ n7_ n8_ n9_; clear hb hbox hg; have hcz17_0 : w16.cell? ⟨gb854, 0, none⟩ = some (.int .i64 0) := (blk_cell BK854.out 0).trans rfl; have hcz17_1 : w16.cell? ⟨gb854, 1, none⟩ = some (.slice none 0 0) := (blk_cell BK854.out 1).trans rfl; have hcz17_2 : w16.cell? ⟨gb854, 2, none⟩ = some (.string (⟨#[]⟩ : ByteArray)) := (blk_cell BK854.out 2).trans rfl; have hfz17_0 := blk_frozen BK854.out 0; have hfz17_1 := blk_frozen BK854.out 1; have hfz17_2 := blk_frozen BK854.out 2; obtain ⟨Ao18, co18, eo18⟩ := Kd.R_slice HO851.out; subst eo18) | ((with_reducible refine gate_store (t := 82) (p := 12) rfl ?_); refine store_event (t := 82) (p := 12) (v := ?vo_w19) (w1 := (((w16.setCell ⟨gb854, 0, none⟩ (.int .i64 t848)).setCell ⟨gb854, 1, none⟩ (.slice Ao18 t849.length co18)).setCell ⟨gb854, 2, none⟩ (.string t852))) ?hg ?ho ?hn ?hr ?_; (case ho => rfl); (case hg => rfl); (case hn => rfl); (case hr => first | (go_simp; done) | (go_simp; rfl)); intro w19 hw; have n0_ : Aside0 (Kd.S k82 82 w19 w.heap.size (fun k_ => some k_ ≠ (.slice Ao18 t849.length co18 : Value).ownBlock ∧ k_ ≠ gb854) u5 x5_1) := ⟨(by rw [hw]; exact (by (with_reducible repeat (first | apply Kd.S_alloc | apply Kd.S_drewN | apply Kd.S_drew)); exact Kd.S_mono (Kd.S_far (p := ⟨gb854, 2, none⟩) (Kd.S_far (p := ⟨gb854, 1, none⟩) (Kd.S_far (p := ⟨gb854, 0, none⟩) (Kd.S_mono HO_5.out (fun k_ hk => (⟨hk, hk.2⟩ : _ ∧ k_ ≠ gb854))) (fun _ hk => hk.2) (.int .i64 t848)) (fun _ hk => hk.2) (.slice Ao18 t849.length co18)) (fun _ hk => hk.2) (.string t852)) (fun _ hk => ⟨hk.1.1.2, hk.1.2⟩)))⟩; have n1_ : Aside0 (Kd.R (Kd.int .i64) 3 w19 w.heap.size (fun _ => True) u6 x6_1) := ⟨(by rw [hw]; exact (by (with_reducible repeat (first | apply Kd.R_alloc | apply Kd.R_drewN | apply Kd.R_drew)); exact Kd.R_mono (Kd.R_far (p := ⟨gb854, 2, none⟩) (Kd.R_far (p := ⟨gb854, 1, none⟩) (Kd.R_far (p := ⟨gb854, 0, none⟩) (Kd.R_types HO_6.out BK854.out (by decide)) (fun _ hk => hk.2) (.int .i64 t848)) (fun _ hk => hk.2) (.slice Ao18 t849.length co18)) (fun _ hk => hk.2) (.string t852)) (fun _ hk => trivial)))⟩; have n2_ : Aside0 (Kd.S k60 60 w19 w.heap.size (fun _ => True) (.slice (some ad847) t842.length co14) t842) := ⟨(by rw [hw]; exact (by (with_reducible repeat (first | apply Kd.S_alloc | apply Kd.S_drewN | apply Kd.S_drew)); exact Kd.S_mono (Kd.S_far (p := ⟨gb854, 2, none⟩) (Kd.S_far (p := ⟨gb854, 1, none⟩) (Kd.S_far (p := ⟨gb854, 0, none⟩) (Kd.S_types HO_7.out BK854.out (by decide)) (fun _ hk => hk.2) (.int .i64 t848)) (fun _ hk => hk.2) (.slice Ao18 t849.length co18)) (fun _ hk => hk.2) (.string t852)) (fun _ hk => trivial)))⟩; have n3_ : Aside0 (Kd.R (Kd.int .u8) 5 w19 w.heap.size (fun k_ => some k_ ≠ (.slice (some ad847) t842.length co14 : Value).ownBlock) (.slice A847_1 ((rd_T60 t842 x11_1).f1).length c847_1) ((rd_T60 t842 x11_1).f1)) := ⟨(by rw [hw]; exact (by (with_reducible repeat (first | apply Kd.R_alloc | apply Kd.R_drewN | apply Kd.R_drew)); exact Kd.R_mono (Kd.R_far (p := ⟨gb854, 2, none⟩) (Kd.R_far (p := ⟨gb854, 1, none⟩) (Kd.R_far (p := ⟨gb854, 0, none⟩) (Kd.R_types HL847_1.out BK854.out (by decide)) (fun _ hk => hk.2) (.int .i64 t848)) (fun _ hk => hk.2) (.slice Ao18 t849.length co18)) (fun _ hk => hk.2) (.string t852)) (fun _ hk => hk.1.2)))⟩; have n4_ : Aside0 (Kd.R (Kd.int .u64) 22 w19 w.heap.size (fun _ => True) (.slice Ao18 t849.length co18) t849) := ⟨(by rw [hw]; exact (by (with_reducible repeat (first | apply Kd.R_alloc | apply Kd.R_drewN | apply Kd.R_drew)); exact Kd.R_mono (Kd.R_far (p := ⟨gb854, 2, none⟩) (Kd.R_far (p := ⟨gb854, 1, none⟩) (Kd.R_far (p := ⟨gb854, 0, none⟩) (Kd.R_types HO851.out BK854.out (by decide)) (fun _ hk => hk.2) (.int .i64 t848)) (fun _ hk => hk.2) (.slice Ao18 t849.length co18)) (fun _ hk => hk.2) (.string t852)) (fun _ hk => trivial)))⟩; have n5_ : Aside0 (w19.heap[gb854]? = some (.cells #[.int .i64 t848, .slice Ao18 t849.length co18, .string t852] 82 (0, 0))) := ⟨(by rw [hw]; exact (by (with_reducible repeat (first | refine blk_drewN ?_ _ | refine blk_drew ?_ | refine blk_alloc ?_ _)); refine blk_put (cs := #[.int .i64 t848, .slice Ao18 t849.length co18, .string (⟨#[]⟩ : ByteArray)]) ?_ 2 _ rfl; (with_reducible repeat (first | refine blk_drewN ?_ _ | refine blk_drew ?_ | refine blk_alloc ?_ _)); refine blk_put (cs := #[.int .i64 t848, .slice none 0 0, .string (⟨#[]⟩ : ByteArray)]) ?_ 1 _ rfl; (with_reducible repeat (first | refine blk_drewN ?_ _ | refine blk_drew ?_ | refine blk_alloc ?_ _)); refine blk_put (cs := #[.int .i64 0, .slice none 0 0, .string (⟨#[]⟩ : ByteArray)]) ?_ 0 _ rfl; (with_reducible repeat (first | refine blk_drewN ?_ _ | refine blk_drew ?_ | refine blk_alloc ?_ _)); exact BK854.out))⟩; have n6_ : Aside0 (Below w.heap.size w w19) := ⟨(by rw [hw]; exact (by repeat (first | (with_reducible first | exact HB.out | apply below_alloc | apply pw_below_drewN | apply below_drew1 | refine below_set ?_ GE854.out) | exact HB.out)))⟩; clear hw; clear HO_5; clear HO_6; clear HO_7; clear HL847_1; clear HO851; clear BK854; clear HB; have HO_5 := n0_; have HO_6 := n1_; have HO_7 := n2_; have HL847_1 := n3_; have HO851 := n4_; have BK854 := n5_; have HB := n6_; clear n0_ n1_ n2_ n3_ n4_ n5_ n6_; have p855 : 0 ≤ (x11_1 : Int) := of_decide_eq_true (by first | (with_reducible assumption) | assumption); have q855 : x11_1 < (t842.length : Int) := of_decide_eq_true (by first | (with_reducible assumption) | assumption); obtain ⟨ad855, A855_1, c855_1, e855, hx855_0, hx855_1, hl855_1, hi855_1⟩ := at_T60 (Kd.S_reads' HO_7.out).2.2 x11_1 p855 q855; obtain rfl : ad847 = ad855 := (by injection e855); obtain ⟨ce855, hce855, hMe855, hcc855⟩ := Kd.S_get HO_7.out z60 x11_1 p855 (by first | exact q855 | exact of_decide_eq_true (by first | (with_reducible assumption) | assumption) | (have e_ := (Kd.S_reads' HO_7.out).1; omega)); obtain ⟨ve855_1, rfl, ge855_1⟩ := k60_openM hMe855; have hv855_1 := hcc855 1 _ rfl; rw [add_field _ _ 1 (by omega)] at hv855_1; replace hv855_1 := Option.some.inj (hv855_1.symm.trans hx855_1); rw [hv855_1] at ge855_1; have HL855_1 := Aside0.mk (show Kd.R (Kd.int .u8) 5 _ _ _ _ ((rd_T60 t842 x11_1).f1) from ge855_1); clear hv855_1 ge855_1; clear hcc855 hce855; have HR855_1 := Aside0.mk hi855_1; have HC855_1 := Aside0.mk hl855_1; clear hi855_1 hl855_1; replace p855 := eq_true p855; replace q855 := eq_true q855; have hcz20_0 : w19.cell? ⟨gb854, 0, none⟩ = some (.int .i64 t848) := (blk_cell BK854.out 0).trans rfl; have hcz20_1 : w19.cell? ⟨gb854, 1, none⟩ = some (.slice Ao18 t849.length co18) := (blk_cell BK854.out 1).trans rfl; have hcz20_2 : w19.cell? ⟨gb854, 2, none⟩ = some (.string t852) := (blk_cell BK854.out 2).trans rfl; have hfz20_0 := blk_frozen BK854.out 0; have hfz20_1 := blk_frozen BK854.out 1; have hfz20_2 := blk_frozen BK854.out 2) | ((with_reducible refine gate_builtin (b := .append) (xs := #[.tmp 50, .tmp 52]) rfl ?_); at_builtin; refine Kd.S_append k82 (w0 := w) w.heap.size rfl (.tmp 50) (.tmp 52) 91 82 (.agg #[(.int .i64 0), (.slice none 0 0), (.string ⟨#[]⟩)]) 48 rfl Try.underlying91 info82 rfl (by decide) (by omega) u5 x5_1 (⟨t848, t849, t852⟩ : S82) [.int .i64 t848, .slice Ao18 t849.length co18, .string t852] (fun k_ => k_ ≠ gb854) (fun k_ => some k_ = (.slice Ao18 t849.length co18 : Value).ownBlock) rfl rfl ?aP (fun k_ hk_ => ((Kd.R_mono (ok' := fun k_ => ((fun k_ => k_ ≠ gb854)) k_ ∧ some k_ ≠ (u5 : Value).ownBlock) (Kd.R_types (Kd.R_apart' (HO851.out) (Kd.S_typed HO_5.out) (by decide)) BK854.out (by decide)) (fun k_ hk => ⟨hk.2, hk.1.2⟩))).1 k_ hk_.symm) ?aF ?aO ?aB ?aS ?aL ?_; (case aP => exact k82_mkM _ _ _ (⟨t848, t849, t852⟩ : S82) (Kd.R_mono (Kd.R_tight rfl (Kd.R_mono (ok' := fun k_ => ((fun k_ => k_ ≠ gb854)) k_ ∧ some k_ ≠ (u5 : Value).ownBlock) (Kd.R_types (Kd.R_apart' (HO851.out) (Kd.S_typed HO_5.out) (by decide)) BK854.out (by decide)) (fun k_ hk => ⟨hk.2, hk.1.2⟩))) (fun _ h_ => h_))); (case aB => exact (by repeat (first | (with_reducible first | exact HB.out | apply below_alloc | apply pw_below_drewN | apply below_drew1 | refine below_set ?_ GE854.out) | exact HB.out))); (case aF => exact (fun k_ hk => Kd.freshB (g := gb854) (o := .cells #[.int .i64 t848, .slice Ao18 t849.length co18, .string t852] 82 (0, 0)) (by (with_reducible repeat (first | refine blk_drewN ?_ _ | refine blk_drew ?_ | refine blk_alloc ?_ _)); exact BK854.out) k_ hk)); (case aO => exact (by (with_reducible repeat (first | apply Kd.S_alloc | apply Kd.S_drewN | apply Kd.S_drew)); exact Kd.S_mono HO_5.out (fun k_ hk => ⟨hk.2, fun e_ => hk.1 e_⟩))); (case aS => exact (below_size (by repeat (first | (with_reducible first | exact HB.out | apply below_alloc | apply pw_below_drewN | apply below_drew1 | refine below_set ?_ GE854.out) | exact HB.out)))); (case aL => have := LMc12.out; omega); intro v857 w21 ho hb hg hat; rw [← Ny856.out] at ho; have n0_ := Aside0.mk (Kd.R_over' (by (with_reducible repeat (first | apply Kd.R_alloc | apply Kd.R_drewN | apply Kd.R_drew)); exact HO_6.out) (Kd.S_typed (by (with_reducible repeat (first | apply Kd.S_alloc | apply Kd.S_drewN | apply Kd.S_drew)); exact HO_5.out)) (by decide) hg); have n1_ := Aside0.mk (Kd.S_over' (by (with_reducible repeat (first | apply Kd.S_alloc | apply Kd.S_drewN | apply Kd.S_drew)); exact HO_7.out) (Kd.S_typed (by (with_reducible repeat (first | apply Kd.S_alloc | apply Kd.S_drewN | apply Kd.S_drew)); exact HO_5.out)) (by decide) hg); have n2_ := Aside0.mk (Kd.R_over' (by (with_reducible repeat (first | apply Kd.R_alloc | apply Kd.R_drewN | apply Kd.R_drew)); exact HL847_1.out) (Kd.S_typed (by (with_reducible repeat (first | apply Kd.S_alloc | apply Kd.S_drewN | apply Kd.S_drew)); exact HO_5.out)) (by decide) hg); have n3_ := Aside0.mk (blk_grown (g := gb854) (o := .cells #[.int .i64 t848, .slice Ao18 t849.length co18, .string t852] 82 (0, 0)) (by (with_reducible repeat (first | refine blk_drewN ?_ _ | refine blk_drew ?_ | refine blk_alloc ?_ _)); exact BK854.out) hg (Kd.S_away HO_5.out (fun _ hk => hk.2))); have n4_ := Aside0.mk (Kd.R_over' (by (with_reducible repeat (first | apply Kd.R_alloc | apply Kd.R_drewN | apply Kd.R_drew)); exact HL855_1.out) (Kd.S_typed (by (with_reducible repeat (first | apply Kd.S_alloc | apply Kd.S_drewN | apply Kd.S_drew)); exact HO_5.out)) (by decide) hg); have n5_ := Aside0.mk (hb); have n6_ := Aside0.mk (ho); clear HO_6; clear HO_7; clear HL847_1; clear BK854; clear HL855_1; clear HB; clear HO_5; clear HO851; have HO_6 := n0_; have HO_7 := n1_; have HL847_1 := n2_; have BK854 := n3_; have HL855_1 := n4_; have HB := n5_; have HO858 := n6_; clear n0_ n1_ n2_ n3_ n4_ n5_ n6_; clear ho hb hg hat) | ((with_reducible refine gate_builtin (b := .append) (xs := #[.tmp 54, .tmp 56]) rfl ?_); at_builtin; refine Kd.R_append (Kd.int .i64) (w0 := w) w.heap.size rfl (.tmp 54) (.tmp 56) 76 3 (.int .i64 0) 8 rfl Try.underlying76 info3 rfl (by decide) (by omega) u6 x6_1 (wrap64 ((wrap64 (x10_1 + (((rd_T60 t842 x11_1).f1).length : Int))) + 11)) [.int .i64 (wrap64 ((wrap64 (x10_1 + (((rd_T60 t842 x11_1).f1).length : Int))) + 11))] (fun _ => True) (fun _ => False) rfl rfl ?aP (fun _ hk => hk.elim) ?aF ?aO ?aB ?aS ?aL ?_; (case aP => exact rfl); (case aB => exact (by repeat (first | (with_reducible first | exact HB.out | apply below_alloc | apply pw_below_drewN | apply below_drew1 | refine below_set ?_ GE854.out) | exact HB.out))); (case aF => exact (fun _ _ => trivial)); (case aO => exact (by (with_reducible repeat (first | apply Kd.R_alloc | apply Kd.R_drewN | apply Kd.R_drew)); exact HO_6.out)); (case aS => exact (below_size (by repeat (first | (with_reducible first | exact HB.out | apply below_alloc | apply pw_below_drewN | apply below_drew1 | refine below_set ?_ GE854.out) | exact HB.out)))); (case aL => have := LMc13.out; omega); intro v860 w22 ho hb hg hat; rw [← Ny859.out] at ho; have n0_ := Aside0.mk (Kd.S_over' (by (with_reducible repeat (first | apply Kd.S_alloc | apply Kd.S_drewN | apply Kd.S_drew)); exact HO_7.out) (Kd.R_typed (by (with_reducible repeat (first | apply Kd.R_alloc | apply Kd.R_drewN | apply Kd.R_drew)); exact HO_6.out)) (by decide) hg); have n1_ := Aside0.mk (Kd.R_over' (by (with_reducible repeat (first | apply Kd.R_alloc | apply Kd.R_drewN | apply Kd.R_drew)); exact HL847_1.out) (Kd.R_typed (by (with_reducible repeat (first | apply Kd.R_alloc | apply Kd.R_drewN | apply Kd.R_drew)); exact HO_6.out)) (by decide) hg); have n2_ := Aside0.mk (blk_grown (g := gb854) (o := .cells #[.int .i64 t848, .slice Ao18 t849.length co18, .string t852] 82 (0, 0)) (by (with_reducible repeat (first | refine blk_drewN ?_ _ | refine blk_drew ?_ | refine blk_alloc ?_ _)); exact BK854.out) hg (Kd.R_ne HO_6.out BK854.out (by decide))); have n3_ := Aside0.mk (Kd.R_over' (by (with_reducible repeat (first | apply Kd.R_alloc | apply Kd.R_drewN | apply Kd.R_drew)); exact HL855_1.out) (Kd.R_typed (by (with_reducible repeat (first | apply Kd.R_alloc | apply Kd.R_drewN | apply Kd.R_drew)); exact HO_6.out)) (by decide) hg); have n4_ := Aside0.mk (Kd.S_over' (by (with_reducible repeat (first | apply Kd.S_alloc | apply Kd.S_drewN | apply Kd.S_drew)); exact HO858.out) (Kd.R_typed (by (with_reducible repeat (first | apply Kd.R_alloc | apply Kd.R_drewN | apply Kd.R_drew)); exact HO_6.out)) (by decide) hg); have n5_ := Aside0.mk (hb); have n6_ := Aside0.mk (ho); clear HO_7; clear HL847_1; clear BK854; clear HL855_1; clear HO858; clear HB; clear HO_6; have HO_7 := n0_; have HL847_1 := n1_; have BK854 := n2_; have HL855_1 := n3_; have HO858 := n4_; have HB := n5_; have HO861 := n6_; clear n0_ n1_ n2_ n3_ n4_ n5_ n6_; clear ho hb hg hat))
                go_roundg k1
                case measure => have := HK1.out; omega
                case rel => exact ⟨(y856), (y859), (wrap64 ((wrap64 (x10_1 + (((rd_T60 t842 x11_1).f1).length : Int))) + 11)), (wrap64 (x11_1 + 1)), (by first | rfl | (simp; done) | (simp [*]; done)), (by first | rfl | (simp; done) | (simp [*]; done)), H', ⟨by have := HK1.out; omega⟩, ⟨by (with_reducible repeat (first | apply Kd.S_alloc | apply Kd.S_drewN | apply Kd.S_drew)); exact Kd.S_mono HO858.out (fun _ hk => trivial)⟩, ⟨by (with_reducible repeat (first | apply Kd.R_alloc | apply Kd.R_drewN | apply Kd.R_drew)); exact HO861.out⟩, ⟨by (with_reducible repeat (first | apply Kd.S_alloc | apply Kd.S_drewN | apply Kd.S_drew)); exact HO_7.out⟩, ⟨by repeat (first | (with_reducible first | exact HB.out | apply below_alloc | apply pw_below_drewN | apply below_drew1 | refine below_set ?_ GE854.out) | exact HB.out)⟩⟩
              · rw [if_neg c13] at H
                exact absurd H (by simp)
            · rw [if_neg c12] at H
              exact absurd H (by simp)
          · rw [if_neg c11] at H
            have c11b0 : (t853 == 0) = false := beq_eq_false_iff_ne.mpr c11
            have c11b1 : (t853 != 0) = true := bne_iff_ne.mpr c11
            simp only [Option.some.injEq, Prod.mk.injEq] at H
            obtain ⟨rfl, rfl, rfl⟩ := H
            obtain ⟨Ao23, co23, eo23⟩ := Kd.S_slice HO_7.out
            subst eo23
            have p847 : 0 ≤ (x11_1 : Int) := of_decide_eq_true (by first | (with_reducible assumption) | assumption)
            have q847 : x11_1 < (t842.length : Int) := of_decide_eq_true (by first | (with_reducible assumption) | assumption)
            obtain ⟨ad847, A847_1, c847_1, e847, hx847_0, hx847_1, hl847_1, hi847_1⟩ := at_T60 (Kd.S_reads' HO_7.out).2.2 x11_1 p847 q847
            cases e847
            obtain ⟨ce847, hce847, hMe847, hcc847⟩ := Kd.S_get HO_7.out z60 x11_1 p847 (by first | exact q847 | exact of_decide_eq_true (by first | (with_reducible assumption) | assumption) | (have e_ := (Kd.S_reads' HO_7.out).1; omega))
            obtain ⟨ve847_1, rfl, ge847_1⟩ := k60_openM hMe847
            have hv847_1 := hcc847 1 _ rfl
            rw [add_field _ _ 1 (by omega)] at hv847_1
            replace hv847_1 := Option.some.inj (hv847_1.symm.trans hx847_1)
            rw [hv847_1] at ge847_1
            have HL847_1 := Aside0.mk (show Kd.R (Kd.int .u8) 5 _ _ _ _ ((rd_T60 t842 x11_1).f1) from ge847_1)
            clear hv847_1 ge847_1
            clear hcc847 hce847
            have HR847_1 := Aside0.mk hi847_1
            have HC847_1 := Aside0.mk hl847_1
            clear hi847_1 hl847_1
            replace p847 := eq_true p847
            replace q847 := eq_true q847
            go_wp2_with (first | ((with_reducible refine gate_callee (f := 59) rfl ?_); refine goesL_ (some 33) rfl rfl Try.func59 (by kernel_rfl) rfl #[.agg #[.int .u8 ((rd_T60 t842 x11_1).f0), .slice A847_1 ((rd_T60 t842 x11_1).f1).length c847_1]] rfl (by (try simp only [List.map_toArray, List.map_cons, List.map_nil]); first | done | rfl | (simp only [List.length_drop, List.length_take]; rfl)) ?_; (with_reducible refine (tumbrelref05_Read.calls k1 ((rd_T60 t842 x11_1).f0) _ _ ((rd_T60 t842 x11_1).f1) t848 t849 t852 t853 _ ?side1 ?side2 A10.out).mono ?_); (case side1 => repeat (first | exact (by repeat (first | (with_reducible exact HR847_1.out) | (with_reducible refine Kd.C_alloc ?_ _) | (with_reducible refine Kd.C_drewN ?_ _) | (with_reducible refine Kd.C_drew ?_) | exact HR847_1.out)) | (with_reducible refine Kd.C_alloc ?_ _) | (with_reducible refine Kd.C_drewN ?_ _) | (with_reducible refine Kd.C_drew ?_))); (case side2 => exact HC847_1.out); rintro e w24 ⟨v850, rfl, ho0, hb⟩; refine ⟨_, rfl, ?_⟩; have n0_ := Aside0.mk (Kd.S_elder' (by (with_reducible repeat (first | apply Kd.S_alloc | apply Kd.S_drewN | apply Kd.S_drew)); exact HO_5.out) (Kd.R_base ho0) hb); have n1_ := Aside0.mk (Kd.R_below (by (with_reducible repeat (first | apply Kd.R_alloc | apply Kd.R_drewN | apply Kd.R_drew)); exact HO_6.out) hb); have n2_ := Aside0.mk (Kd.S_below (by (with_reducible repeat (first | apply Kd.S_alloc | apply Kd.S_drewN | apply Kd.S_drew)); exact HO_7.out) hb); have n3_ := Aside0.mk (Kd.R_below (by (with_reducible repeat (first | apply Kd.R_alloc | apply Kd.R_drewN | apply Kd.R_drew)); exact HL847_1.out) hb); have n4_ := Aside0.mk (Kd.R_lower ho0 (below_size (by repeat (first | (with_reducible first | exact HB.out | apply below_alloc | apply pw_below_drewN | apply below_drew1) | exact HB.out)))); have n5_ := Aside0.mk (Kd.C_below (by repeat (first | (with_reducible exact HR847_1.out) | (with_reducible refine Kd.C_alloc ?_ _) | (with_reducible refine Kd.C_drewN ?_ _) | (with_reducible refine Kd.C_drew ?_) | exact HR847_1.out)) hb); have n6_ := Aside0.mk (below_step (by repeat (first | (with_reducible first | exact HB.out | apply below_alloc | apply pw_below_drewN | apply below_drew1) | exact HB.out)) hb); clear HO_5; clear HO_6; clear HO_7; clear HL847_1; clear HR847_1; clear HB; have HO_5 := n0_; have HO_6 := n1_; have HO_7 := n2_; have HL847_1 := n3_; have HO851 := n4_; have HR847_1 := n5_; have HB := n6_; clear n0_ n1_ n2_ n3_ n4_ n5_ n6_; (try clear hb); (try clear hb2); (try clear hk); (try clear hi); (try clear ho0)) | ((with_reducible refine gate_dst (N := 12) rfl ?_); refine box_event ?hg (N := 12) ?hd (cs := #[.int .i64 0, .slice none 0 0, .string (⟨#[]⟩ : ByteArray)]) (t := 82) ?hr ?_; (case hd => rfl); (case hg => rfl); (case hr => first | (go_simp; done) | (go_simp; rfl)); intro gb854 hg w25 hbox hb; have n0_ := Aside0.mk (Kd.S_below (Kd.S_elderB (by (with_reducible repeat (first | apply Kd.S_alloc | apply Kd.S_drewN | apply Kd.S_drew)); exact HO_5.out) gb854 (Nat.le_of_eq hg.symm)) hb); have n1_ := Aside0.mk (Kd.R_below (by (with_reducible repeat (first | apply Kd.R_alloc | apply Kd.R_drewN | apply Kd.R_drew)); exact HO_6.out) hb); have n2_ := Aside0.mk (Kd.S_below (by (with_reducible repeat (first | apply Kd.S_alloc | apply Kd.S_drewN | apply Kd.S_drew)); exact HO_7.out) hb); have n3_ := Aside0.mk (Kd.R_below (by (with_reducible repeat (first | apply Kd.R_alloc | apply Kd.R_drewN | apply Kd.R_drew)); exact HL847_1.out) hb); have n4_ := Aside0.mk (Kd.R_below (by (with_reducible repeat (first | apply Kd.R_alloc | apply Kd.R_drewN | apply Kd.R_drew)); exact HO851.out) hb); have n5_ := Aside0.mk (Kd.C_below (by repeat (first | (with_reducible exact HR847_1.out) | (with_reducible refine Kd.C_alloc ?_ _) | (with_reducible refine Kd.C_drewN ?_ _) | (with_reducible refine Kd.C_drew ?_) | exact HR847_1.out)) hb); have n6_ := Aside0.mk (below_step (by repeat (first | (with_reducible first | exact HB.out | apply below_alloc | apply pw_below_drewN | apply below_drew1) | exact HB.out)) hb); have n7_ := Aside0.mk (hbox); have n8_ := Aside0.mk ((by rw [hg]; exact (below_size (by repeat (first | (with_reducible first | exact HB.out | apply below_alloc | apply pw_below_drewN | apply below_drew1) | exact HB.out))) : w.heap.size ≤ gb854)); have n9_ := Aside0.mk ((by rw [hg]; exact (below_size (by repeat (first | (with_reducible first | exact HB.out | apply below_alloc | apply pw_below_drewN | apply below_drew1) | exact HB.out))) : w.heap.size ≤ gb854)); clear HO_5; clear HO_6; clear HO_7; clear HL847_1; clear HO851; clear HR847_1; clear HB; have HO_5 := n0_; have HO_6 := n1_; have HO_7 := n2_; have HL847_1 := n3_; have HO851 := n4_; have HR847_1 := n5_; have HB := n6_; have BK854 := n7_; have GW854 := n8_; have GE854 := n9_; clear n0_ n1_ n2_ n3_ n4_ n5_ n6_ n7_ n8_ n9_; clear hb hbox hg; have hcz26_0 : w25.cell? ⟨gb854, 0, none⟩ = some (.int .i64 0) := (blk_cell BK854.out 0).trans rfl; have hcz26_1 : w25.cell? ⟨gb854, 1, none⟩ = some (.slice none 0 0) := (blk_cell BK854.out 1).trans rfl; have hcz26_2 : w25.cell? ⟨gb854, 2, none⟩ = some (.string (⟨#[]⟩ : ByteArray)) := (blk_cell BK854.out 2).trans rfl; have hfz26_0 := blk_frozen BK854.out 0; have hfz26_1 := blk_frozen BK854.out 1; have hfz26_2 := blk_frozen BK854.out 2; obtain ⟨Ao27, co27, eo27⟩ := Kd.R_slice HO851.out; subst eo27))
            go_ret3
            exact ⟨_, _, by first | rfl | (simp [errW_none, errW_some] <;> rfl) | (simp [*, errW_none, errW_some] <;> rfl), by (with_reducible repeat (first | apply Kd.S_alloc | apply Kd.S_drewN | apply Kd.S_drew)); exact Kd.S_mono (Kd.S_far (p := ⟨gb854, 2, none⟩) (Kd.S_far (p := ⟨gb854, 1, none⟩) (Kd.S_far (p := ⟨gb854, 0, none⟩) (Kd.S_mono HO_5.out (fun k_ hk => (⟨hk, hk.2⟩ : _ ∧ k_ ≠ gb854))) (fun _ hk => hk.2) (.int .i64 t848)) (fun _ hk => hk.2) (.slice Ao27 t849.length co27)) (fun _ hk => hk.2) (.string t852)) (fun _ hk => trivial), by (with_reducible repeat (first | apply Kd.R_alloc | apply Kd.R_drewN | apply Kd.R_drew)); exact Kd.R_mono (Kd.R_far (p := ⟨gb854, 2, none⟩) (Kd.R_far (p := ⟨gb854, 1, none⟩) (Kd.R_far (p := ⟨gb854, 0, none⟩) (Kd.R_types HO_6.out BK854.out (by decide)) (fun _ hk => hk.2) (.int .i64 t848)) (fun _ hk => hk.2) (.slice Ao27 t849.length co27)) (fun _ hk => hk.2) (.string t852)) (fun _ hk => trivial), by repeat (first | (with_reducible first | exact HB.out | apply below_alloc | apply pw_below_drewN | apply below_drew1 | refine below_set ?_ GE854.out) | exact HB.out)⟩
        · rw [if_neg c9] at H
          exact absurd H (by simp)
      · rw [if_neg c8] at H
        have c8b0 : decide (x11_1 < (t842.length : Int)) = false := decide_eq_false c8
        clear c8
        simp only [Option.some.injEq, Prod.mk.injEq] at H
        obtain ⟨rfl, rfl, rfl⟩ := H
        obtain ⟨Ao28, co28, eo28⟩ := Kd.S_slice HO_7.out
        subst eo28
        go_wp2
        go_ret3
        exact ⟨_, _, by first | rfl | (simp [errW_none, errW_some] <;> rfl) | (simp [*, errW_none, errW_some] <;> rfl), by (with_reducible repeat (first | apply Kd.S_alloc | apply Kd.S_drewN | apply Kd.S_drew)); exact HO_5.out, by (with_reducible repeat (first | apply Kd.R_alloc | apply Kd.R_drewN | apply Kd.R_drew)); exact HO_6.out, by repeat (first | (with_reducible first | exact HB.out | apply below_alloc | apply pw_below_drewN | apply below_drew1) | exact HB.out)⟩
end Go.Proofs.Ytojepleodijdeaa.B
namespace Go.Proofs.Ytojepleodijdeaa.B
open Go.RowKit Go.Proofs.YtojepleodijdeaaW.PrintWords Go.Proofs.YtojepleodijdeaaW.PrintLast Go.Proofs.YtojepleodijdeaaW.PrintMore
attribute [local go_sem] max2_int min2_int max_two min_two max_three min_three max_four min_four   -- for this text's walks alone
set_option linter.unusedVariables false
set_option linter.unusedSimpArgs false
def tumbrelref05_Same.l0 : Nat → List (S82) → List (S82) → Int → Option (Bool)
  | 0, _, _, _ => none
  | k + 1, x0, x1, x5 => if x5 < (x0.length : Int) then (if 0 ≤ x5 then (if x5 < (x1.length : Int) then (if ((rd_T82 x0 x5).f0) = ((rd_T82 x1 x5).f0) then (if ((rd_T82 x0 x5).f2).toList = ((rd_T82 x1 x5).f2).toList then ((tumbrelref02_Same.f k ((rd_T82 x0 x5).f1) ((rd_T82 x1 x5).f1)).bind fun t785 => (if t785 = true then (tumbrelref05_Same.l0 k x0 x1 (wrap64 (x5 + 1))) else (some false))) else (some false)) else (some false)) else (none)) else (none)) else (some true)
def tumbrelref05_Same.f (k : Nat) (l0 : List (S82)) (l1 : List (S82)) : Option (Bool) := if (l0.length : Int) = (l1.length : Int) then (tumbrelref05_Same.l0 k l0 l1 0) else (some false)
def tumbrelref05_Same.T6 : Bool × List (List Nat × List Nat) := (true, [([], []), ([], []), ([0, 1], [0, 1]), ([2], [2]), ([3], [3]), ([], []), ([], []), ([5, 6], [5, 6]), ([7], [7]), ([8], [8]), ([4, 9], [4, 9]), ([10], [10]), ([11], [11]), ([11], [11]), ([12, 13, 11], [11, 12, 13]), ([14, 11], [11, 14]), ([15, 11], [11, 15]), ([11], [11]), ([11], [11]), ([17, 18, 11], [11, 17, 18]), ([19, 11], [11, 19]), ([20, 11], [11, 20]), ([16, 21, 11], [11, 16, 21]), ([11, 22], [11, 22]), ([23, 11], [23]), ([24], [24]), ([24], [24]), ([25, 26, 24], [24, 25, 26]), ([27, 24], [24, 27]), ([28, 24], [24, 28]), ([24], [24]), ([24], [24]), ([30, 31, 24], [24, 30, 31]), ([32, 24], [24, 32]), ([33, 24], [24, 33]), ([29, 34, 24, 24], [24, 29, 34]), ([35, 24], [24, 35]), ([24, 36], [24, 36])])
def tumbrelref05_Same.B6 : List Nat := [0, 0, 3, 7, 15, 0, 0, 96, 224, 480, 1023, 2047, 4095, 4095, 16383, 32767, 65535, 4095, 4095, 397311, 921599, 1970175, 4194303, 8388607, 16777215, 33554431, 33554431, 134217727, 268435455, 536870911, 33554431, 33554431, 3254779903, 7549747199, 16139681791, 34359738367, 68719476735, 137438953471]
theorem tumbrelref05_Same.tab6 : rtab .any (opsOf Try.f62 6) = tumbrelref05_Same.T6 := by kernel_rfl
theorem tumbrelref05_Same.bits6 : waitsOk tumbrelref05_Same.T6.2 tumbrelref05_Same.B6 = true := by kernel_rfl
set_option maxHeartbeats 8000000 in
set_option maxRecDepth 100000 in
theorem tumbrelref05_Same.calls (k : Nat) (A0 : Option Addr) (c0 : Nat) (l0 : List (S82)) (A1 : Option Addr) (c1 : Nat) (l1 : List (S82)) (r : Bool) (w : World) (hr0 : Kd.C k82 w A0 l0.length l0) (hc0 : l0.length ≤ c0) (hr1 : Kd.C k82 w A1 l1.length l1) (hc1 : l1.length ≤ c1) (h : tumbrelref05_Same.f k l0 l1 = some r) :
    Calls Try.prog 62 #[.slice A0 l0.length c0, .slice A1 l1.length c1] w fun e w' => e = .returned (.bool r) ∧ Below w.heap.size w w' := by
  have HR0 := Aside0.mk hr0
  have HC0 := Aside0.mk hc0
  clear hr0 hc0
  have HR1 := Aside0.mk hr1
  have HC1 := Aside0.mk hc1
  clear hr1 hc1
  have HB := Aside0.mk (Below.refl w.heap.size w)
  have H : (if (l0.length : Int) = (l1.length : Int) then (tumbrelref05_Same.l0 k l0 l1 0) else (some false)) = some r := h
  clear h
  by_cases c3 : (l0.length : Int) = (l1.length : Int)
  · rw [if_pos c3] at H
    have c3b0 : ((l0.length : Int) == (l1.length : Int)) = true := beq_iff_eq.mpr c3
    have c3b1 : ((l0.length : Int) != (l1.length : Int)) = false := bne_eq_false_iff_eq.mpr c3
    have c3b2 : (l0.length == l1.length) = true := by first | simpa using c3 | (simp at c3 ⊢; omega)
    clear c3
    have H' := Aside0.mk H
    clear H
    go_enter Try.func62, Try.ntmps62
    go_wp2
    go_loopg [5] k (fun kq v5 w' => ∃ (x5_1 : Int), v5 = .int .i64 x5_1 ∧ Aside0 (tumbrelref05_Same.l0 kq l0 l1 x5_1 = some r) ∧ Aside0 (kq ≤ k) ∧ Aside0 (Below w.heap.size w w'))
    case atStart => exact ⟨(0), (by first | rfl | (simp; done) | (simp [*]; done)), H', ⟨Nat.le_refl _⟩, ⟨by repeat (first | (with_reducible first | exact HB.out | apply below_alloc | apply pw_below_drewN | apply below_drew1) | exact HB.out)⟩⟩
    case round =>
      clear H'
      try clear c1
      try clear p2
      try clear c3
      try clear c3b0
      try clear c3b1
      try clear c3b2
      obtain ⟨x5_1, rfl, HA, HK1, HB⟩ := hrel
      cases gk with
      | zero => exact absurd HA.out (by simp [tumbrelref05_Same.l0])
      | succ k1 =>
        have H := HA.out
        clear HA
        simp only [tumbrelref05_Same.l0] at H
        by_cases c4 : x5_1 < (l0.length : Int)
        · rw [if_pos c4] at H
          have c4b0 : decide (x5_1 < (l0.length : Int)) = true := decide_eq_true c4
          clear c4
          by_cases c5 : 0 ≤ x5_1
          · rw [if_pos c5] at H
            have c5b0 : decide (0 ≤ x5_1) = true := decide_eq_true c5
            clear c5
            by_cases c6 : x5_1 < (l1.length : Int)
            · rw [if_pos c6] at H
              have c6b0 : decide (x5_1 < (l1.length : Int)) = true := decide_eq_true c6
              clear c6
              by_cases c7 : ((rd_T82 l0 x5_1).f0) = ((rd_T82 l1 x5_1).f0)
              · rw [if_pos c7] at H
                have c7b0 : (((rd_T82 l0 x5_1).f0) == ((rd_T82 l1 x5_1).f0)) = true := beq_iff_eq.mpr c7
                have c7b1 : (((rd_T82 l0 x5_1).f0) != ((rd_T82 l1 x5_1).f0)) = false := bne_eq_false_iff_eq.mpr c7
                clear c7
                by_cases c8 : ((rd_T82 l0 x5_1).f2).toList = ((rd_T82 l1 x5_1).f2).toList
                · rw [if_pos c8] at H
                  have c8b0 : (((rd_T82 l0 x5_1).f2).toList == ((rd_T82 l1 x5_1).f2).toList) = true := beq_iff_eq.mpr c8
                  have c8b1 : (((rd_T82 l0 x5_1).f2).toList != ((rd_T82 l1 x5_1).f2).toList) = false := bne_eq_false_iff_eq.mpr c8
                  clear c8
                  replace H := Option.bind_eq_some_iff.mp H
                  obtain ⟨t785, A90, H⟩ := H
                  replace H : (if t785 = true then (tumbrelref05_Same.l0 k1 l0 l1 (wrap64 (x5_1 + 1))) else (some false)) = some r := H
                  have A9 := Aside0.mk A90
                  clear A90
                  by_cases c10 : t785 = true
                  · subst c10
                    have H1 : (tumbrelref05_Same.l0 k1 l0 l1 (wrap64 (x5_1 + 1))) = some r := by rw [if_pos rfl] at H; exact H
                    clear H
                    have H := H1
                    clear H1
                    have H' := Aside0.mk H
                    clear H
                    try go_wp2
                    have n0_ := Aside0.mk (below_drew1 HB.out)
                    clear HB
                    have HB := n0_
                    clear n0_
                    have p779 : 0 ≤ (x5_1 : Int) := of_decide_eq_true (by first | (with_reducible assumption) | assumption)
                    have q779 : x5_1 < (l0.length : Int) := of_decide_eq_true (by first | (with_reducible assumption) | assumption)
                    obtain ⟨ad779, A779_1, c779_1, e779, hx779_0, hx779_1, hx779_2, hl779_1, hi779_1⟩ := at_T82 HR0.out x5_1 p779 q779
                    have hw779_2 := hx779_2
                    have hw779_1 := hx779_1
                    have hw779_0 := hx779_0
                    cases e779
                    replace hx779_0 := (HB.out.cell (World.block_lt_of_cell? w _ hx779_0)).trans hx779_0
                    replace hx779_1 := (HB.out.cell (World.block_lt_of_cell? w _ hx779_1)).trans hx779_1
                    replace hx779_2 := (HB.out.cell (World.block_lt_of_cell? w _ hx779_2)).trans hx779_2
                    have HR779_1 := Aside0.mk hi779_1
                    have HC779_1 := Aside0.mk hl779_1
                    clear hi779_1 hl779_1
                    replace p779 := eq_true p779
                    replace q779 := eq_true q779
                    have p780 : 0 ≤ (x5_1 : Int) := of_decide_eq_true (by first | (with_reducible assumption) | assumption)
                    have q780 : x5_1 < (l1.length : Int) := of_decide_eq_true (by first | (with_reducible assumption) | assumption)
                    obtain ⟨ad780, A780_1, c780_1, e780, hx780_0, hx780_1, hx780_2, hl780_1, hi780_1⟩ := at_T82 HR1.out x5_1 p780 q780
                    have hw780_2 := hx780_2
                    have hw780_1 := hx780_1
                    have hw780_0 := hx780_0
                    cases e780
                    replace hx780_0 := (HB.out.cell (World.block_lt_of_cell? w _ hx780_0)).trans hx780_0
                    replace hx780_1 := (HB.out.cell (World.block_lt_of_cell? w _ hx780_1)).trans hx780_1
                    replace hx780_2 := (HB.out.cell (World.block_lt_of_cell? w _ hx780_2)).trans hx780_2
                    have HR780_1 := Aside0.mk hi780_1
                    have HC780_1 := Aside0.mk hl780_1
                    clear hi780_1 hl780_1
                    replace p780 := eq_true p780
                    replace q780 := eq_true q780
                    have p781 : 0 ≤ (x5_1 : Int) := of_decide_eq_true (by first | (with_reducible assumption) | assumption)
                    have q781 : x5_1 < (l0.length : Int) := of_decide_eq_true (by first | (with_reducible assumption) | assumption)
                    obtain ⟨ad781, A781_1, c781_1, e781, hx781_0, hx781_1, hx781_2, hl781_1, hi781_1⟩ := at_T82 HR0.out x5_1 p781 q781
                    have hw781_2 := hx781_2
                    have hw781_1 := hx781_1
                    have hw781_0 := hx781_0
                    obtain rfl : ad779 = ad781 := (by injection e781)
                    replace hx781_0 := (HB.out.cell (World.block_lt_of_cell? w _ hx781_0)).trans hx781_0
                    replace hx781_1 := (HB.out.cell (World.block_lt_of_cell? w _ hx781_1)).trans hx781_1
                    replace hx781_2 := (HB.out.cell (World.block_lt_of_cell? w _ hx781_2)).trans hx781_2
                    have HR781_1 := Aside0.mk hi781_1
                    have HC781_1 := Aside0.mk hl781_1
                    clear hi781_1 hl781_1
                    replace p781 := eq_true p781
                    replace q781 := eq_true q781
                    have ea_ := Option.some.inj (hx779_1.symm.trans hx781_1)
                    injection ea_ with ea_ en_ ec_
                    subst ea_
                    subst ec_
                    clear en_
                    have p782 : 0 ≤ (x5_1 : Int) := of_decide_eq_true (by first | (with_reducible assumption) | assumption)
                    have q782 : x5_1 < (l1.length : Int) := of_decide_eq_true (by first | (with_reducible assumption) | assumption)
                    obtain ⟨ad782, A782_1, c782_1, e782, hx782_0, hx782_1, hx782_2, hl782_1, hi782_1⟩ := at_T82 HR1.out x5_1 p782 q782
                    have hw782_2 := hx782_2
                    have hw782_1 := hx782_1
                    have hw782_0 := hx782_0
                    obtain rfl : ad780 = ad782 := (by injection e782)
                    replace hx782_0 := (HB.out.cell (World.block_lt_of_cell? w _ hx782_0)).trans hx782_0
                    replace hx782_1 := (HB.out.cell (World.block_lt_of_cell? w _ hx782_1)).trans hx782_1
                    replace hx782_2 := (HB.out.cell (World.block_lt_of_cell? w _ hx782_2)).trans hx782_2
                    have HR782_1 := Aside0.mk hi782_1
                    have HC782_1 := Aside0.mk hl782_1
                    clear hi782_1 hl782_1
                    replace p782 := eq_true p782
                    replace q782 := eq_true q782
                    have ea_ := Option.some.inj (hx780_1.symm.trans hx782_1)
                    injection ea_ with ea_ en_ ec_
                    subst ea_
                    subst ec_
                    clear en_
                    have p783 : 0 ≤ (x5_1 : Int) := of_decide_eq_true (by first | (with_reducible assumption) | assumption)
                    have q783 : x5_1 < (l0.length : Int) := of_decide_eq_true (by first | (with_reducible assumption) | assumption)
                    obtain ⟨ad783, A783_1, c783_1, e783, hx783_0, hx783_1, hx783_2, hl783_1, hi783_1⟩ := at_T82 HR0.out x5_1 p783 q783
                    have hw783_2 := hx783_2
                    have hw783_1 := hx783_1
                    have hw783_0 := hx783_0
                    obtain rfl : ad779 = ad783 := (by injection e783)
                    replace hx783_0 := (HB.out.cell (World.block_lt_of_cell? w _ hx783_0)).trans hx783_0
                    replace hx783_1 := (HB.out.cell (World.block_lt_of_cell? w _ hx783_1)).trans hx783_1
                    replace hx783_2 := (HB.out.cell (World.block_lt_of_cell? w _ hx783_2)).trans hx783_2
                    have HR783_1 := Aside0.mk hi783_1
                    have HC783_1 := Aside0.mk hl783_1
                    clear hi783_1 hl783_1
                    replace p783 := eq_true p783
                    replace q783 := eq_true q783
                    have ea_ := Option.some.inj (hx779_1.symm.trans hx783_1)
                    injection ea_ with ea_ en_ ec_
                    subst ea_
                    subst ec_
                    clear en_
                    have p784 : 0 ≤ (x5_1 : Int) := of_decide_eq_true (by first | (with_reducible assumption) | assumption)
                    have q784 : x5_1 < (l1.length : Int) := of_decide_eq_true (by first | (with_reducible assumption) | assumption)
                    obtain ⟨ad784, A784_1, c784_1, e784, hx784_0, hx784_1, hx784_2, hl784_1, hi784_1⟩ := at_T82 HR1.out x5_1 p784 q784
                    have hw784_2 := hx784_2
                    have hw784_1 := hx784_1
                    have hw784_0 := hx784_0
                    obtain rfl : ad780 = ad784 := (by injection e784)
                    replace hx784_0 := (HB.out.cell (World.block_lt_of_cell? w _ hx784_0)).trans hx784_0
                    replace hx784_1 := (HB.out.cell (World.block_lt_of_cell? w _ hx784_1)).trans hx784_1
                    replace hx784_2 := (HB.out.cell (World.block_lt_of_cell? w _ hx784_2)).trans hx784_2
                    have HR784_1 := Aside0.mk hi784_1
                    have HC784_1 := Aside0.mk hl784_1
                    clear hi784_1 hl784_1
                    replace p784 := eq_true p784
                    replace q784 := eq_true q784
                    have ea_ := Option.some.inj (hx780_1.symm.trans hx784_1)
                    injection ea_ with ea_ en_ ec_
                    subst ea_
                    subst ec_
                    clear en_
                    refine start_ (n := 38) (S := fun w' => w'.cell? (ad779.add ((x5_1).toNat * 3)) = some (.int .i64 ((rd_T82 l0 x5_1).f0)) ∧ w'.cell? ⟨(ad779.add ((x5_1).toNat * 3)).block, (ad779.add ((x5_1).toNat * 3)).off + 1, none⟩ = some (.slice A779_1 ((rd_T82 l0 x5_1).f1).length c779_1) ∧ w'.cell? ⟨(ad779.add ((x5_1).toNat * 3)).block, (ad779.add ((x5_1).toNat * 3)).off + 2, none⟩ = some (.string ((rd_T82 l0 x5_1).f2)) ∧ w'.cell? (ad780.add ((x5_1).toNat * 3)) = some (.int .i64 ((rd_T82 l1 x5_1).f0)) ∧ w'.cell? ⟨(ad780.add ((x5_1).toNat * 3)).block, (ad780.add ((x5_1).toNat * 3)).off + 1, none⟩ = some (.slice A780_1 ((rd_T82 l1 x5_1).f1).length c780_1) ∧ w'.cell? ⟨(ad780.add ((x5_1).toNat * 3)).block, (ad780.add ((x5_1).toNat * 3)).off + 2, none⟩ = some (.string ((rd_T82 l1 x5_1).f2)) ∧ w'.cell? (ad779.add ((x5_1).toNat * 3)) = some (.int .i64 ((rd_T82 l0 x5_1).f0)) ∧ w'.cell? ⟨(ad779.add ((x5_1).toNat * 3)).block, (ad779.add ((x5_1).toNat * 3)).off + 1, none⟩ = some (.slice A779_1 ((rd_T82 l0 x5_1).f1).length c779_1) ∧ w'.cell? ⟨(ad779.add ((x5_1).toNat * 3)).block, (ad779.add ((x5_1).toNat * 3)).off + 2, none⟩ = some (.string ((rd_T82 l0 x5_1).f2)) ∧ w'.cell? (ad780.add ((x5_1).toNat * 3)) = some (.int .i64 ((rd_T82 l1 x5_1).f0)) ∧ w'.cell? ⟨(ad780.add ((x5_1).toNat * 3)).block, (ad780.add ((x5_1).toNat * 3)).off + 1, none⟩ = some (.slice A780_1 ((rd_T82 l1 x5_1).f1).length c780_1) ∧ w'.cell? ⟨(ad780.add ((x5_1).toNat * 3)).block, (ad780.add ((x5_1).toNat * 3)).off + 2, none⟩ = some (.string ((rd_T82 l1 x5_1).f2)) ∧ w'.cell? (ad779.add ((x5_1).toNat * 3)) = some (.int .i64 ((rd_T82 l0 x5_1).f0)) ∧ w'.cell? ⟨(ad779.add ((x5_1).toNat * 3)).block, (ad779.add ((x5_1).toNat * 3)).off + 1, none⟩ = some (.slice A779_1 ((rd_T82 l0 x5_1).f1).length c779_1) ∧ w'.cell? ⟨(ad779.add ((x5_1).toNat * 3)).block, (ad779.add ((x5_1).toNat * 3)).off + 2, none⟩ = some (.string ((rd_T82 l0 x5_1).f2)) ∧ w'.cell? (ad780.add ((x5_1).toNat * 3)) = some (.int .i64 ((rd_T82 l1 x5_1).f0)) ∧ w'.cell? ⟨(ad780.add ((x5_1).toNat * 3)).block, (ad780.add ((x5_1).toNat * 3)).off + 1, none⟩ = some (.slice A780_1 ((rd_T82 l1 x5_1).f1).length c780_1) ∧ w'.cell? ⟨(ad780.add ((x5_1).toNat * 3)).block, (ad780.add ((x5_1).toNat * 3)).off + 2, none⟩ = some (.string ((rd_T82 l1 x5_1).f2))) (ds := []) #[false, false, false, false, false, false, false, false, false, false, false, false, false, false, false, false, false, false, false, false, false, false, false, false, false, false, false, false, false, false, false, false, false, false, false, false, false, false] (by kernel_rfl) rfl rfl ⟨((HB.out.cell (World.block_lt_of_cell? w _ hw779_0)).trans hw779_0), ((HB.out.cell (World.block_lt_of_cell? w _ hw779_1)).trans hw779_1), ((HB.out.cell (World.block_lt_of_cell? w _ hw779_2)).trans hw779_2), ((HB.out.cell (World.block_lt_of_cell? w _ hw780_0)).trans hw780_0), ((HB.out.cell (World.block_lt_of_cell? w _ hw780_1)).trans hw780_1), ((HB.out.cell (World.block_lt_of_cell? w _ hw780_2)).trans hw780_2), ((HB.out.cell (World.block_lt_of_cell? w _ hw781_0)).trans hw781_0), ((HB.out.cell (World.block_lt_of_cell? w _ hw781_1)).trans hw781_1), ((HB.out.cell (World.block_lt_of_cell? w _ hw781_2)).trans hw781_2), ((HB.out.cell (World.block_lt_of_cell? w _ hw782_0)).trans hw782_0), ((HB.out.cell (World.block_lt_of_cell? w _ hw782_1)).trans hw782_1), ((HB.out.cell (World.block_lt_of_cell? w _ hw782_2)).trans hw782_2), ((HB.out.cell (World.block_lt_of_cell? w _ hw783_0)).trans hw783_0), ((HB.out.cell (World.block_lt_of_cell? w _ hw783_1)).trans hw783_1), ((HB.out.cell (World.block_lt_of_cell? w _ hw783_2)).trans hw783_2), ((HB.out.cell (World.block_lt_of_cell? w _ hw784_0)).trans hw784_0), ((HB.out.cell (World.block_lt_of_cell? w _ hw784_1)).trans hw784_1), ((HB.out.cell (World.block_lt_of_cell? w _ hw784_2)).trans hw784_2)⟩ (fun hHeld => ?_); refine with_tabW tumbrelref05_Same.tab6 tumbrelref05_Same.bits6 (fun HT_ HW_ => ?_)
                    generalize wr.drew = w11 at HB HR779_1 HR780_1 HR781_1 HR782_1 HR783_1 HR784_1 hx779_0 hx779_1 hx779_2 hx780_0 hx780_1 hx780_2 hx781_0 hx781_1 hx781_2 hx782_0 hx782_1 hx782_2 hx783_0 hx783_1 hx783_2 hx784_0 hx784_1 hx784_2 hHeld ⊢
                    refine pure_ (i := 0) (N := some 17) (v := ?_) (a' := ?_) #[true, false, false, false, false, false, false, false, false, false, false, false, false, false, false, false, false, false, false, false, false, false, false, false, false, false, false, false, false, false, false, false, false, false, false, false, false, false] rfl rfl (any_of HT_.out (by kernel_rfl)) (fun _ _ _ h => h) (Or.inl ⟨by rfl, ?_⟩) ?_ ?_
                    rotate_left
                    · intro w'
                      go_simp
                      with_reducible rfl
                    rotate_left
                    · simp only [Act.put, List.setIfInBounds_toArray, List.set_cons_zero, List.set_cons_succ, i64_w, i32_w]
                      rfl
                    refine pure_ (i := 1) (N := some 18) (v := ?_) (a' := ?_) #[true, true, false, false, false, false, false, false, false, false, false, false, false, false, false, false, false, false, false, false, false, false, false, false, false, false, false, false, false, false, false, false, false, false, false, false, false, false] rfl rfl (any_of HT_.out (by kernel_rfl)) (fun _ _ _ h => h) (Or.inl ⟨by rfl, ?_⟩) ?_ ?_
                    rotate_left
                    · intro w'
                      go_simp
                      with_reducible rfl
                    rotate_left
                    · simp only [Act.put, List.setIfInBounds_toArray, List.set_cons_zero, List.set_cons_succ, i64_w, i32_w]
                      rfl
                    refine pure_ (i := 2) (N := some 19) (v := ?_) (a' := ?_) #[true, true, true, false, false, false, false, false, false, false, false, false, false, false, false, false, false, false, false, false, false, false, false, false, false, false, false, false, false, false, false, false, false, false, false, false, false, false] rfl rfl (any_of HT_.out (by kernel_rfl)) (fun _ _ _ h => h) (Or.inl ⟨by rfl, ?_⟩) ?_ ?_
                    rotate_left
                    · intro w'
                      go_simp
                      with_reducible rfl
                    rotate_left
                    · simp only [Act.put, List.setIfInBounds_toArray, List.set_cons_zero, List.set_cons_succ, i64_w, i32_w]
                      rfl
                    refine pure_ (i := 3) (N := some 20) (v := ?_) (a' := ?_) #[true, true, true, true, false, false, false, false, false, false, false, false, false, false, false, false, false, false, false, false, false, false, false, false, false, false, false, false, false, false, false, false, false, false, false, false, false, false] rfl rfl (any_of HT_.out (by kernel_rfl)) (fun _ _ _ h => h) (Or.inl ⟨by rfl, ?_⟩) ?_ ?_
                    rotate_left
                    · intro w'
                      go_simp
                      with_reducible rfl
                    rotate_left
                    · simp only [Act.put, List.setIfInBounds_toArray, List.set_cons_zero, List.set_cons_succ, i64_w, i32_w]
                      rfl
                    refine pure_ (i := 5) (N := some 22) (v := ?_) (a' := ?_) #[true, true, true, true, false, true, false, false, false, false, false, false, false, false, false, false, false, false, false, false, false, false, false, false, false, false, false, false, false, false, false, false, false, false, false, false, false, false] rfl rfl (any_of HT_.out (by kernel_rfl)) (fun _ _ _ h => h) (Or.inl ⟨by rfl, ?_⟩) ?_ ?_
                    rotate_left
                    · intro w'
                      go_simp
                      with_reducible rfl
                    rotate_left
                    · simp only [Act.put, List.setIfInBounds_toArray, List.set_cons_zero, List.set_cons_succ, i64_w, i32_w]
                      rfl
                    refine pure_ (i := 6) (N := some 23) (v := ?_) (a' := ?_) #[true, true, true, true, false, true, true, false, false, false, false, false, false, false, false, false, false, false, false, false, false, false, false, false, false, false, false, false, false, false, false, false, false, false, false, false, false, false] rfl rfl (any_of HT_.out (by kernel_rfl)) (fun _ _ _ h => h) (Or.inl ⟨by rfl, ?_⟩) ?_ ?_
                    rotate_left
                    · intro w'
                      go_simp
                      with_reducible rfl
                    rotate_left
                    · simp only [Act.put, List.setIfInBounds_toArray, List.set_cons_zero, List.set_cons_succ, i64_w, i32_w]
                      rfl
                    refine pure_ (i := 7) (N := some 24) (v := ?_) (a' := ?_) #[true, true, true, true, false, true, true, true, false, false, false, false, false, false, false, false, false, false, false, false, false, false, false, false, false, false, false, false, false, false, false, false, false, false, false, false, false, false] rfl rfl (any_of HT_.out (by kernel_rfl)) (fun _ _ _ h => h) (Or.inl ⟨by rfl, ?_⟩) ?_ ?_
                    rotate_left
                    · intro w'
                      go_simp
                      with_reducible rfl
                    rotate_left
                    · simp only [Act.put, List.setIfInBounds_toArray, List.set_cons_zero, List.set_cons_succ, i64_w, i32_w]
                      rfl
                    refine pure_ (i := 8) (N := some 25) (v := ?_) (a' := ?_) #[true, true, true, true, false, true, true, true, true, false, false, false, false, false, false, false, false, false, false, false, false, false, false, false, false, false, false, false, false, false, false, false, false, false, false, false, false, false] rfl rfl (any_of HT_.out (by kernel_rfl)) (fun _ _ _ h => h) (Or.inl ⟨by rfl, ?_⟩) ?_ ?_
                    rotate_left
                    · intro w'
                      go_simp
                      with_reducible rfl
                    rotate_left
                    · simp only [Act.put, List.setIfInBounds_toArray, List.set_cons_zero, List.set_cons_succ, i64_w, i32_w]
                      rfl
                    refine take_ (i := 4) (N := some 21) (v := ?_) (a' := ?_) #[true, true, true, true, true, true, true, true, true, false, false, false, false, false, false, false, false, false, false, false, false, false, false, false, false, false, false, false, false, false, false, false, false, false, false, false, false, false] rfl rfl (take_ofW HT_.out HW_.out (by kernel_rfl)) (fun _ _ _ h => h) (Or.inl ⟨by rfl, ?_⟩) hHeld ?_ ?_
                    rotate_left
                    · rintro w' ⟨s0, s1, s2, s3, s4, s5, s6, s7, s8, s9, s10, s11, s12, s13, s14, s15, s16, s17⟩
                      go_simp
                      with_reducible rfl
                    rotate_left
                    · simp only [Act.put, List.setIfInBounds_toArray, List.set_cons_zero, List.set_cons_succ, i64_w, i32_w]
                      rfl
                    refine take_ (i := 9) (N := some 26) (v := ?_) (a' := ?_) #[true, true, true, true, true, true, true, true, true, true, false, false, false, false, false, false, false, false, false, false, false, false, false, false, false, false, false, false, false, false, false, false, false, false, false, false, false, false] rfl rfl (take_ofW HT_.out HW_.out (by kernel_rfl)) (fun _ _ _ h => h) (Or.inl ⟨by rfl, ?_⟩) hHeld ?_ ?_
                    rotate_left
                    · rintro w' ⟨s0, s1, s2, s3, s4, s5, s6, s7, s8, s9, s10, s11, s12, s13, s14, s15, s16, s17⟩
                      go_simp
                      with_reducible rfl
                    rotate_left
                    · simp only [Act.put, List.setIfInBounds_toArray, List.set_cons_zero, List.set_cons_succ, i64_w, i32_w]
                      rfl
                    refine pure_ (i := 10) (N := some 27) (v := ?_) (a' := ?_) #[true, true, true, true, true, true, true, true, true, true, true, false, false, false, false, false, false, false, false, false, false, false, false, false, false, false, false, false, false, false, false, false, false, false, false, false, false, false] rfl rfl (any_of HT_.out (by kernel_rfl)) (fun _ _ _ h => h) (Or.inl ⟨by rfl, ?_⟩) ?_ ?_
                    rotate_left
                    · intro w'
                      go_simp
                      with_reducible rfl
                    rotate_left
                    · simp only [Act.put, List.setIfInBounds_toArray, List.set_cons_zero, List.set_cons_succ, i64_w, i32_w]
                      rfl
                    refine pure_ (i := 11) (N := some 28) (v := ?_) (a' := ?_) #[true, true, true, true, true, true, true, true, true, true, true, true, false, false, false, false, false, false, false, false, false, false, false, false, false, false, false, false, false, false, false, false, false, false, false, false, false, false] rfl rfl (any_of HT_.out (by kernel_rfl)) (fun _ _ _ h => h) (Or.inl ⟨by rfl, ?_⟩) ?_ ?_
                    rotate_left
                    · intro w'
                      go_simp
                      with_reducible rfl
                    rotate_left
                    · simp only [Act.put, List.setIfInBounds_toArray, List.set_cons_zero, List.set_cons_succ, i64_w, i32_w]
                      rfl
                    refine pure_ (i := 12) (N := some 29) (v := ?_) (a' := ?_) #[true, true, true, true, true, true, true, true, true, true, true, true, true, false, false, false, false, false, false, false, false, false, false, false, false, false, false, false, false, false, false, false, false, false, false, false, false, false] rfl rfl (any_of HT_.out (by kernel_rfl)) (fun _ _ _ h => h) (Or.inl ⟨by rfl, ?_⟩) ?_ ?_
                    rotate_left
                    · intro w'
                      go_simp
                      with_reducible rfl
                    rotate_left
                    · simp only [Act.put, List.setIfInBounds_toArray, List.set_cons_zero, List.set_cons_succ, i64_w, i32_w]
                      rfl
                    refine pure_ (i := 13) (N := some 30) (v := ?_) (a' := ?_) #[true, true, true, true, true, true, true, true, true, true, true, true, true, true, false, false, false, false, false, false, false, false, false, false, false, false, false, false, false, false, false, false, false, false, false, false, false, false] rfl rfl (any_of HT_.out (by kernel_rfl)) (fun _ _ _ h => h) (Or.inl ⟨by rfl, ?_⟩) ?_ ?_
                    rotate_left
                    · intro w'
                      go_simp
                      with_reducible rfl
                    rotate_left
                    · simp only [Act.put, List.setIfInBounds_toArray, List.set_cons_zero, List.set_cons_succ, i64_w, i32_w]
                      rfl
                    refine pure_ (i := 14) (N := some 31) (v := ?_) (a' := ?_) #[true, true, true, true, true, true, true, true, true, true, true, true, true, true, true, false, false, false, false, false, false, false, false, false, false, false, false, false, false, false, false, false, false, false, false, false, false, false] rfl rfl (any_of HT_.out (by kernel_rfl)) (fun _ _ _ h => h) (Or.inl ⟨by rfl, ?_⟩) ?_ ?_
                    rotate_left
                    · intro w'
                      go_simp
                      with_reducible rfl
                    rotate_left
                    · simp only [Act.put, List.setIfInBounds_toArray, List.set_cons_zero, List.set_cons_succ, i64_w, i32_w]
                      rfl
                    refine pure_ (i := 15) (N := some 32) (v := ?_) (a' := ?_) #[true, true, true, true, true, true, true, true, true, true, true, true, true, true, true, true, false, false, false, false, false, false, false, false, false, false, false, false, false, false, false, false, false, false, false, false, false, false] rfl rfl (any_of HT_.out (by kernel_rfl)) (fun _ _ _ h => h) (Or.inl ⟨by rfl, ?_⟩) ?_ ?_
                    rotate_left
                    · intro w'
                      go_simp
                      with_reducible rfl
                    rotate_left
                    · simp only [Act.put, List.setIfInBounds_toArray, List.set_cons_zero, List.set_cons_succ, i64_w, i32_w]
                      rfl
                    refine pure_ (i := 17) (N := some 34) (v := ?_) (a' := ?_) #[true, true, true, true, true, true, true, true, true, true, true, true, true, true, true, true, false, true, false, false, false, false, false, false, false, false, false, false, false, false, false, false, false, false, false, false, false, false] rfl rfl (any_of HT_.out (by kernel_rfl)) (fun _ _ _ h => h) (Or.inl ⟨by rfl, ?_⟩) ?_ ?_
                    rotate_left
                    · intro w'
                      go_simp
                      with_reducible rfl
                    rotate_left
                    · simp only [Act.put, List.setIfInBounds_toArray, List.set_cons_zero, List.set_cons_succ, i64_w, i32_w]
                      rfl
                    refine pure_ (i := 18) (N := some 35) (v := ?_) (a' := ?_) #[true, true, true, true, true, true, true, true, true, true, true, true, true, true, true, true, false, true, true, false, false, false, false, false, false, false, false, false, false, false, false, false, false, false, false, false, false, false] rfl rfl (any_of HT_.out (by kernel_rfl)) (fun _ _ _ h => h) (Or.inl ⟨by rfl, ?_⟩) ?_ ?_
                    rotate_left
                    · intro w'
                      go_simp
                      with_reducible rfl
                    rotate_left
                    · simp only [Act.put, List.setIfInBounds_toArray, List.set_cons_zero, List.set_cons_succ, i64_w, i32_w]
                      rfl
                    refine pure_ (i := 19) (N := some 36) (v := ?_) (a' := ?_) #[true, true, true, true, true, true, true, true, true, true, true, true, true, true, true, true, false, true, true, true, false, false, false, false, false, false, false, false, false, false, false, false, false, false, false, false, false, false] rfl rfl (any_of HT_.out (by kernel_rfl)) (fun _ _ _ h => h) (Or.inl ⟨by rfl, ?_⟩) ?_ ?_
                    rotate_left
                    · intro w'
                      go_simp
                      with_reducible rfl
                    rotate_left
                    · simp only [Act.put, List.setIfInBounds_toArray, List.set_cons_zero, List.set_cons_succ, i64_w, i32_w]
                      rfl
                    refine pure_ (i := 20) (N := some 37) (v := ?_) (a' := ?_) #[true, true, true, true, true, true, true, true, true, true, true, true, true, true, true, true, false, true, true, true, true, false, false, false, false, false, false, false, false, false, false, false, false, false, false, false, false, false] rfl rfl (any_of HT_.out (by kernel_rfl)) (fun _ _ _ h => h) (Or.inl ⟨by rfl, ?_⟩) ?_ ?_
                    rotate_left
                    · intro w'
                      go_simp
                      with_reducible rfl
                    rotate_left
                    · simp only [Act.put, List.setIfInBounds_toArray, List.set_cons_zero, List.set_cons_succ, i64_w, i32_w]
                      rfl
                    refine take_ (i := 16) (N := some 33) (v := ?_) (a' := ?_) #[true, true, true, true, true, true, true, true, true, true, true, true, true, true, true, true, true, true, true, true, true, false, false, false, false, false, false, false, false, false, false, false, false, false, false, false, false, false] rfl rfl (take_ofW HT_.out HW_.out (by kernel_rfl)) (fun _ _ _ h => h) (Or.inl ⟨by rfl, ?_⟩) hHeld ?_ ?_
                    rotate_left
                    · rintro w' ⟨s0, s1, s2, s3, s4, s5, s6, s7, s8, s9, s10, s11, s12, s13, s14, s15, s16, s17⟩
                      go_simp
                      with_reducible rfl
                    rotate_left
                    · simp only [Act.put, List.setIfInBounds_toArray, List.set_cons_zero, List.set_cons_succ, i64_w, i32_w]
                      rfl
                    refine take_ (i := 21) (N := some 38) (v := ?_) (a' := ?_) #[true, true, true, true, true, true, true, true, true, true, true, true, true, true, true, true, true, true, true, true, true, true, false, false, false, false, false, false, false, false, false, false, false, false, false, false, false, false] rfl rfl (take_ofW HT_.out HW_.out (by kernel_rfl)) (fun _ _ _ h => h) (Or.inl ⟨by rfl, ?_⟩) hHeld ?_ ?_
                    rotate_left
                    · rintro w' ⟨s0, s1, s2, s3, s4, s5, s6, s7, s8, s9, s10, s11, s12, s13, s14, s15, s16, s17⟩
                      go_simp
                      with_reducible rfl
                    rotate_left
                    · simp only [Act.put, List.setIfInBounds_toArray, List.set_cons_zero, List.set_cons_succ, i64_w, i32_w]
                      rfl
                    refine pure_ (i := 22) (N := some 39) (v := ?_) (a' := ?_) #[true, true, true, true, true, true, true, true, true, true, true, true, true, true, true, true, true, true, true, true, true, true, true, false, false, false, false, false, false, false, false, false, false, false, false, false, false, false] rfl rfl (any_of HT_.out (by kernel_rfl)) (fun _ _ _ h => h) (Or.inl ⟨by rfl, ?_⟩) ?_ ?_
                    rotate_left
                    · intro w'
                      go_simp
                      with_reducible rfl
                    rotate_left
                    · simp only [Act.put, List.setIfInBounds_toArray, List.set_cons_zero, List.set_cons_succ, i64_w, i32_w]
                      rfl
                    refine pure_ (i := 23) (N := some 40) (v := ?_) (a' := ?_) #[true, true, true, true, true, true, true, true, true, true, true, true, true, true, true, true, true, true, true, true, true, true, true, true, false, false, false, false, false, false, false, false, false, false, false, false, false, false] rfl rfl (any_of HT_.out (by kernel_rfl)) (fun _ _ _ h => h) (Or.inl ⟨by rfl, ?_⟩) ?_ ?_
                    rotate_left
                    · intro w'
                      go_simp
                      with_reducible rfl
                    rotate_left
                    · simp only [Act.put, List.setIfInBounds_toArray, List.set_cons_zero, List.set_cons_succ, i64_w, i32_w]
                      rfl
                    refine pure_ (i := 24) (N := some 41) (v := ?_) (a' := ?_) #[true, true, true, true, true, true, true, true, true, true, true, true, true, true, true, true, true, true, true, true, true, true, true, true, true, false, false, false, false, false, false, false, false, false, false, false, false, false] rfl rfl (any_of HT_.out (by kernel_rfl)) (fun _ _ _ h => h) (Or.inl ⟨by rfl, ?_⟩) ?_ ?_
                    rotate_left
                    · intro w'
                      go_simp
                      with_reducible rfl
                    rotate_left
                    · simp only [Act.put, List.setIfInBounds_toArray, List.set_cons_zero, List.set_cons_succ, i64_w, i32_w]
                      rfl
                    refine pure_ (i := 25) (N := some 42) (v := ?_) (a' := ?_) #[true, true, true, true, true, true, true, true, true, true, true, true, true, true, true, true, true, true, true, true, true, true, true, true, true, true, false, false, false, false, false, false, false, false, false, false, false, false] rfl rfl (any_of HT_.out (by kernel_rfl)) (fun _ _ _ h => h) (Or.inl ⟨by rfl, ?_⟩) ?_ ?_
                    rotate_left
                    · intro w'
                      go_simp
                      with_reducible rfl
                    rotate_left
                    · simp only [Act.put, List.setIfInBounds_toArray, List.set_cons_zero, List.set_cons_succ, i64_w, i32_w]
                      rfl
                    refine pure_ (i := 26) (N := some 43) (v := ?_) (a' := ?_) #[true, true, true, true, true, true, true, true, true, true, true, true, true, true, true, true, true, true, true, true, true, true, true, true, true, true, true, false, false, false, false, false, false, false, false, false, false, false] rfl rfl (any_of HT_.out (by kernel_rfl)) (fun _ _ _ h => h) (Or.inl ⟨by rfl, ?_⟩) ?_ ?_
                    rotate_left
                    · intro w'
                      go_simp
                      with_reducible rfl
                    rotate_left
                    · simp only [Act.put, List.setIfInBounds_toArray, List.set_cons_zero, List.set_cons_succ, i64_w, i32_w]
                      rfl
                    refine pure_ (i := 27) (N := some 44) (v := ?_) (a' := ?_) #[true, true, true, true, true, true, true, true, true, true, true, true, true, true, true, true, true, true, true, true, true, true, true, true, true, true, true, true, false, false, false, false, false, false, false, false, false, false] rfl rfl (any_of HT_.out (by kernel_rfl)) (fun _ _ _ h => h) (Or.inl ⟨by rfl, ?_⟩) ?_ ?_
                    rotate_left
                    · intro w'
                      go_simp
                      with_reducible rfl
                    rotate_left
                    · simp only [Act.put, List.setIfInBounds_toArray, List.set_cons_zero, List.set_cons_succ, i64_w, i32_w]
                      rfl
                    refine pure_ (i := 28) (N := some 45) (v := ?_) (a' := ?_) #[true, true, true, true, true, true, true, true, true, true, true, true, true, true, true, true, true, true, true, true, true, true, true, true, true, true, true, true, true, false, false, false, false, false, false, false, false, false] rfl rfl (any_of HT_.out (by kernel_rfl)) (fun _ _ _ h => h) (Or.inl ⟨by rfl, ?_⟩) ?_ ?_
                    rotate_left
                    · intro w'
                      go_simp
                      with_reducible rfl
                    rotate_left
                    · simp only [Act.put, List.setIfInBounds_toArray, List.set_cons_zero, List.set_cons_succ, i64_w, i32_w]
                      rfl
                    refine pure_ (i := 30) (N := some 47) (v := ?_) (a' := ?_) #[true, true, true, true, true, true, true, true, true, true, true, true, true, true, true, true, true, true, true, true, true, true, true, true, true, true, true, true, true, false, true, false, false, false, false, false, false, false] rfl rfl (any_of HT_.out (by kernel_rfl)) (fun _ _ _ h => h) (Or.inl ⟨by rfl, ?_⟩) ?_ ?_
                    rotate_left
                    · intro w'
                      go_simp
                      with_reducible rfl
                    rotate_left
                    · simp only [Act.put, List.setIfInBounds_toArray, List.set_cons_zero, List.set_cons_succ, i64_w, i32_w]
                      rfl
                    refine pure_ (i := 31) (N := some 48) (v := ?_) (a' := ?_) #[true, true, true, true, true, true, true, true, true, true, true, true, true, true, true, true, true, true, true, true, true, true, true, true, true, true, true, true, true, false, true, true, false, false, false, false, false, false] rfl rfl (any_of HT_.out (by kernel_rfl)) (fun _ _ _ h => h) (Or.inl ⟨by rfl, ?_⟩) ?_ ?_
                    rotate_left
                    · intro w'
                      go_simp
                      with_reducible rfl
                    rotate_left
                    · simp only [Act.put, List.setIfInBounds_toArray, List.set_cons_zero, List.set_cons_succ, i64_w, i32_w]
                      rfl
                    refine pure_ (i := 32) (N := some 49) (v := ?_) (a' := ?_) #[true, true, true, true, true, true, true, true, true, true, true, true, true, true, true, true, true, true, true, true, true, true, true, true, true, true, true, true, true, false, true, true, true, false, false, false, false, false] rfl rfl (any_of HT_.out (by kernel_rfl)) (fun _ _ _ h => h) (Or.inl ⟨by rfl, ?_⟩) ?_ ?_
                    rotate_left
                    · intro w'
                      go_simp
                      with_reducible rfl
                    rotate_left
                    · simp only [Act.put, List.setIfInBounds_toArray, List.set_cons_zero, List.set_cons_succ, i64_w, i32_w]
                      rfl
                    refine pure_ (i := 33) (N := some 50) (v := ?_) (a' := ?_) #[true, true, true, true, true, true, true, true, true, true, true, true, true, true, true, true, true, true, true, true, true, true, true, true, true, true, true, true, true, false, true, true, true, true, false, false, false, false] rfl rfl (any_of HT_.out (by kernel_rfl)) (fun _ _ _ h => h) (Or.inl ⟨by rfl, ?_⟩) ?_ ?_
                    rotate_left
                    · intro w'
                      go_simp
                      with_reducible rfl
                    rotate_left
                    · simp only [Act.put, List.setIfInBounds_toArray, List.set_cons_zero, List.set_cons_succ, i64_w, i32_w]
                      rfl
                    refine take_ (i := 29) (N := some 46) (v := ?_) (a' := ?_) #[true, true, true, true, true, true, true, true, true, true, true, true, true, true, true, true, true, true, true, true, true, true, true, true, true, true, true, true, true, true, true, true, true, true, false, false, false, false] rfl rfl (take_ofW HT_.out HW_.out (by kernel_rfl)) (fun _ _ _ h => h) (Or.inl ⟨by rfl, ?_⟩) hHeld ?_ ?_
                    rotate_left
                    · rintro w' ⟨s0, s1, s2, s3, s4, s5, s6, s7, s8, s9, s10, s11, s12, s13, s14, s15, s16, s17⟩
                      go_simp
                      with_reducible rfl
                    rotate_left
                    · simp only [Act.put, List.setIfInBounds_toArray, List.set_cons_zero, List.set_cons_succ, i64_w, i32_w]
                      rfl
                    refine take_ (i := 34) (N := some 51) (v := ?_) (a' := ?_) #[true, true, true, true, true, true, true, true, true, true, true, true, true, true, true, true, true, true, true, true, true, true, true, true, true, true, true, true, true, true, true, true, true, true, true, false, false, false] rfl rfl (take_ofW HT_.out HW_.out (by kernel_rfl)) (fun _ _ _ h => h) (Or.inl ⟨by rfl, ?_⟩) hHeld ?_ ?_
                    rotate_left
                    · rintro w' ⟨s0, s1, s2, s3, s4, s5, s6, s7, s8, s9, s10, s11, s12, s13, s14, s15, s16, s17⟩
                      go_simp
                      with_reducible rfl
                    rotate_left
                    · simp only [Act.put, List.setIfInBounds_toArray, List.set_cons_zero, List.set_cons_succ, i64_w, i32_w]
                      rfl
                    refine one_ (i := 35) (N := some 52) #[true, true, true, true, true, true, true, true, true, true, true, true, true, true, true, true, true, true, true, true, true, true, true, true, true, true, true, true, true, true, true, true, true, true, true, true, false, false] rfl rfl (one_of HT_.out (by kernel_rfl)) (by decide) (fun K hK => ?_)
                    refine goes_ Try.func29 (by kernel_rfl) rfl #[.slice A779_1 ((rd_T82 l0 x5_1).f1).length c779_1, .slice A780_1 ((rd_T82 l1 x5_1).f1).length c780_1] (by rfl) rfl rfl (by (try simp only [List.map_toArray, List.map_cons, List.map_nil]); first | done | rfl | (simp only [List.length_drop, List.length_take]; rfl)) ?_
                    with_reducible refine (tumbrelref02_Same.calls k1 _ _ ((rd_T82 l0 x5_1).f1) _ _ ((rd_T82 l1 x5_1).f1) true _ ?side1 ?side2 ?side3 ?side4 A9.out).mono ?_
                    (case side1 => repeat (first | exact (Kd.C_below HR783_1.out HB.out) | (with_reducible refine Kd.C_alloc ?_ _) | (with_reducible refine Kd.C_drewN ?_ _) | (with_reducible refine Kd.C_drew ?_)))
                    (case side2 => exact HC783_1.out)
                    (case side3 => repeat (first | exact (Kd.C_below HR784_1.out HB.out) | (with_reducible refine Kd.C_alloc ?_ _) | (with_reducible refine Kd.C_drewN ?_ _) | (with_reducible refine Kd.C_drew ?_)))
                    (case side4 => exact HC784_1.out)
                    rintro e w' ⟨rfl, ⟨nd, rfl⟩⟩
                    refine ⟨_, rfl, ?_⟩
                    refine hK.out _ _ ⟨((HB.out.cell (World.block_lt_of_cell? w _ hw779_0)).trans hw779_0), ((HB.out.cell (World.block_lt_of_cell? w _ hw779_1)).trans hw779_1), ((HB.out.cell (World.block_lt_of_cell? w _ hw779_2)).trans hw779_2), ((HB.out.cell (World.block_lt_of_cell? w _ hw780_0)).trans hw780_0), ((HB.out.cell (World.block_lt_of_cell? w _ hw780_1)).trans hw780_1), ((HB.out.cell (World.block_lt_of_cell? w _ hw780_2)).trans hw780_2), ((HB.out.cell (World.block_lt_of_cell? w _ hw781_0)).trans hw781_0), ((HB.out.cell (World.block_lt_of_cell? w _ hw781_1)).trans hw781_1), ((HB.out.cell (World.block_lt_of_cell? w _ hw781_2)).trans hw781_2), ((HB.out.cell (World.block_lt_of_cell? w _ hw782_0)).trans hw782_0), ((HB.out.cell (World.block_lt_of_cell? w _ hw782_1)).trans hw782_1), ((HB.out.cell (World.block_lt_of_cell? w _ hw782_2)).trans hw782_2), ((HB.out.cell (World.block_lt_of_cell? w _ hw783_0)).trans hw783_0), ((HB.out.cell (World.block_lt_of_cell? w _ hw783_1)).trans hw783_1), ((HB.out.cell (World.block_lt_of_cell? w _ hw783_2)).trans hw783_2), ((HB.out.cell (World.block_lt_of_cell? w _ hw784_0)).trans hw784_0), ((HB.out.cell (World.block_lt_of_cell? w _ hw784_1)).trans hw784_1), ((HB.out.cell (World.block_lt_of_cell? w _ hw784_2)).trans hw784_2)⟩ (fun hHeld => ?_)
                    clear hK K
                    refine norm_ (a' := ?_) ?_ ?_
                    rotate_left
                    · show Act.put _ (some 52) _ = _
                      simp only [Act.put, List.setIfInBounds_toArray, List.set_cons_zero, List.set_cons_succ, i64_w, i32_w]
                      rfl
                    refine pure_ (i := 36) (N := some 53) (v := ?_) (a' := ?_) #[true, true, true, true, true, true, true, true, true, true, true, true, true, true, true, true, true, true, true, true, true, true, true, true, true, true, true, true, true, true, true, true, true, true, true, true, true, false] rfl rfl (any_of HT_.out (by kernel_rfl)) (fun _ _ _ h => h) (Or.inl ⟨by rfl, ?_⟩) ?_ ?_
                    rotate_left
                    · intro w'
                      go_simp
                      with_reducible rfl
                    rotate_left
                    · simp only [Act.put, List.setIfInBounds_toArray, List.set_cons_zero, List.set_cons_succ, i64_w, i32_w]
                      rfl
                    refine pure_ (i := 37) (N := some 54) (v := ?_) (a' := ?_) #[true, true, true, true, true, true, true, true, true, true, true, true, true, true, true, true, true, true, true, true, true, true, true, true, true, true, true, true, true, true, true, true, true, true, true, true, true, true] rfl rfl (any_of HT_.out (by kernel_rfl)) (fun _ _ _ h => h) (Or.inl ⟨by rfl, ?_⟩) ?_ ?_
                    rotate_left
                    · intro w'
                      go_simp
                      with_reducible rfl
                    rotate_left
                    · simp only [Act.put, List.setIfInBounds_toArray, List.set_cons_zero, List.set_cons_succ, i64_w, i32_w]
                      rfl
                    refine done_ (done_of HT_.out (by kernel_rfl)) ?_
                    try go_wp2
                    go_roundg k1
                    case measure => have := HK1.out; omega
                    case rel => exact ⟨(wrap64 (x5_1 + 1)), (by first | rfl | (simp; done) | (simp [*]; done)), H', ⟨by have := HK1.out; omega⟩, ⟨by repeat (first | (with_reducible first | exact HB.out | apply below_alloc | apply pw_below_drewN | apply below_drew1) | exact HB.out)⟩⟩
                  · replace c10 := Bool.eq_false_iff.mpr c10
                    subst c10
                    have H1 : (some false) = some r := by rw [if_neg (show ¬ (false = true) by decide)] at H; exact H
                    clear H
                    have H := H1
                    clear H1
                    obtain rfl := Option.some.inj H
                    try go_wp2
                    have n0_ := Aside0.mk (below_drew1 HB.out)
                    clear HB
                    have HB := n0_
                    clear n0_
                    have p779 : 0 ≤ (x5_1 : Int) := of_decide_eq_true (by first | (with_reducible assumption) | assumption)
                    have q779 : x5_1 < (l0.length : Int) := of_decide_eq_true (by first | (with_reducible assumption) | assumption)
                    obtain ⟨ad779, A779_1, c779_1, e779, hx779_0, hx779_1, hx779_2, hl779_1, hi779_1⟩ := at_T82 HR0.out x5_1 p779 q779
                    have hw779_2 := hx779_2
                    have hw779_1 := hx779_1
                    have hw779_0 := hx779_0
                    cases e779
                    replace hx779_0 := (HB.out.cell (World.block_lt_of_cell? w _ hx779_0)).trans hx779_0
                    replace hx779_1 := (HB.out.cell (World.block_lt_of_cell? w _ hx779_1)).trans hx779_1
                    replace hx779_2 := (HB.out.cell (World.block_lt_of_cell? w _ hx779_2)).trans hx779_2
                    have HR779_1 := Aside0.mk hi779_1
                    have HC779_1 := Aside0.mk hl779_1
                    clear hi779_1 hl779_1
                    replace p779 := eq_true p779
                    replace q779 := eq_true q779
                    have p780 : 0 ≤ (x5_1 : Int) := of_decide_eq_true (by first | (with_reducible assumption) | assumption)
                    have q780 : x5_1 < (l1.length : Int) := of_decide_eq_true (by first | (with_reducible assumption) | assumption)
                    obtain ⟨ad780, A780_1, c780_1, e780, hx780_0, hx780_1, hx780_2, hl780_1, hi780_1⟩ := at_T82 HR1.out x5_1 p780 q780
                    have hw780_2 := hx780_2
                    have hw780_1 := hx780_1
                    have hw780_0 := hx780_0
                    cases e780
                    replace hx780_0 := (HB.out.cell (World.block_lt_of_cell? w _ hx780_0)).trans hx780_0
                    replace hx780_1 := (HB.out.cell (World.block_lt_of_cell? w _ hx780_1)).trans hx780_1
                    replace hx780_2 := (HB.out.cell (World.block_lt_of_cell? w _ hx780_2)).trans hx780_2
                    have HR780_1 := Aside0.mk hi780_1
                    have HC780_1 := Aside0.mk hl780_1
                    clear hi780_1 hl780_1
                    replace p780 := eq_true p780
                    replace q780 := eq_true q780
                    have p781 : 0 ≤ (x5_1 : Int) := of_decide_eq_true (by first | (with_reducible assumption) | assumption)
                    have q781 : x5_1 < (l0.length : Int) := of_decide_eq_true (by first | (with_reducible assumption) | assumption)
                    obtain ⟨ad781, A781_1, c781_1, e781, hx781_0, hx781_1, hx781_2, hl781_1, hi781_1⟩ := at_T82 HR0.out x5_1 p781 q781
                    have hw781_2 := hx781_2
                    have hw781_1 := hx781_1
                    have hw781_0 := hx781_0
                    obtain rfl : ad779 = ad781 := (by injection e781)
                    replace hx781_0 := (HB.out.cell (World.block_lt_of_cell? w _ hx781_0)).trans hx781_0
                    replace hx781_1 := (HB.out.cell (World.block_lt_of_cell? w _ hx781_1)).trans hx781_1
                    replace hx781_2 := (HB.out.cell (World.block_lt_of_cell? w _ hx781_2)).trans hx781_2
                    have HR781_1 := Aside0.mk hi781_1
                    have HC781_1 := Aside0.mk hl781_1
                    clear hi781_1 hl781_1
                    replace p781 := eq_true p781
                    replace q781 := eq_true q781
                    have ea_ := Option.some.inj (hx779_1.symm.trans hx781_1)
                    injection ea_ with ea_ en_ ec_
                    subst ea_
                    subst ec_
                    clear en_
                    have p782 : 0 ≤ (x5_1 : Int) := of_decide_eq_true (by first | (with_reducible assumption) | assumption)
                    have q782 : x5_1 < (l1.length : Int) := of_decide_eq_true (by first | (with_reducible assumption) | assumption)
                    obtain ⟨ad782, A782_1, c782_1, e782, hx782_0, hx782_1, hx782_2, hl782_1, hi782_1⟩ := at_T82 HR1.out x5_1 p782 q782
                    have hw782_2 := hx782_2
                    have hw782_1 := hx782_1
                    have hw782_0 := hx782_0
                    obtain rfl : ad780 = ad782 := (by injection e782)
                    replace hx782_0 := (HB.out.cell (World.block_lt_of_cell? w _ hx782_0)).trans hx782_0
                    replace hx782_1 := (HB.out.cell (World.block_lt_of_cell? w _ hx782_1)).trans hx782_1
                    replace hx782_2 := (HB.out.cell (World.block_lt_of_cell? w _ hx782_2)).trans hx782_2
                    have HR782_1 := Aside0.mk hi782_1
                    have HC782_1 := Aside0.mk hl782_1
                    clear hi782_1 hl782_1
                    replace p782 := eq_true p782
                    replace q782 := eq_true q782
                    have ea_ := Option.some.inj (hx780_1.symm.trans hx782_1)
                    injection ea_ with ea_ en_ ec_
                    subst ea_
                    subst ec_
                    clear en_
                    have p783 : 0 ≤ (x5_1 : Int) := of_decide_eq_true (by first | (with_reducible assumption) | assumption)
                    have q783 : x5_1 < (l0.length : Int) := of_decide_eq_true (by first | (with_reducible assumption) | assumption)
                    obtain ⟨ad783, A783_1, c783_1, e783, hx783_0, hx783_1, hx783_2, hl783_1, hi783_1⟩ := at_T82 HR0.out x5_1 p783 q783
                    have hw783_2 := hx783_2
                    have hw783_1 := hx783_1
                    have hw783_0 := hx783_0
                    obtain rfl : ad779 = ad783 := (by injection e783)
                    replace hx783_0 := (HB.out.cell (World.block_lt_of_cell? w _ hx783_0)).trans hx783_0
                    replace hx783_1 := (HB.out.cell (World.block_lt_of_cell? w _ hx783_1)).trans hx783_1
                    replace hx783_2 := (HB.out.cell (World.block_lt_of_cell? w _ hx783_2)).trans hx783_2
                    have HR783_1 := Aside0.mk hi783_1
                    have HC783_1 := Aside0.mk hl783_1
                    clear hi783_1 hl783_1
                    replace p783 := eq_true p783
                    replace q783 := eq_true q783
                    have ea_ := Option.some.inj (hx779_1.symm.trans hx783_1)
                    injection ea_ with ea_ en_ ec_
                    subst ea_
                    subst ec_
                    clear en_
                    have p784 : 0 ≤ (x5_1 : Int) := of_decide_eq_true (by first | (with_reducible assumption) | assumption)
                    have q784 : x5_1 < (l1.length : Int) := of_decide_eq_true (by first | (with_reducible assumption) | assumption)
                    obtain ⟨ad784, A784_1, c784_1, e784, hx784_0, hx784_1, hx784_2, hl784_1, hi784_1⟩ := at_T82 HR1.out x5_1 p784 q784
                    have hw784_2 := hx784_2
                    have hw784_1 := hx784_1
                    have hw784_0 := hx784_0
                    obtain rfl : ad780 = ad784 := (by injection e784)
                    replace hx784_0 := (HB.out.cell (World.block_lt_of_cell? w _ hx784_0)).trans hx784_0
                    replace hx784_1 := (HB.out.cell (World.block_lt_of_cell? w _ hx784_1)).trans hx784_1
                    replace hx784_2 := (HB.out.cell (World.block_lt_of_cell? w _ hx784_2)).trans hx784_2
                    have HR784_1 := Aside0.mk hi784_1
                    have HC784_1 := Aside0.mk hl784_1
                    clear hi784_1 hl784_1
                    replace p784 := eq_true p784
                    replace q784 := eq_true q784
                    have ea_ := Option.some.inj (hx780_1.symm.trans hx784_1)
                    injection ea_ with ea_ en_ ec_
                    subst ea_
                    subst ec_
                    clear en_
                    refine start_ (n := 38) (S := fun w' => w'.cell? (ad779.add ((x5_1).toNat * 3)) = some (.int .i64 ((rd_T82 l0 x5_1).f0)) ∧ w'.cell? ⟨(ad779.add ((x5_1).toNat * 3)).block, (ad779.add ((x5_1).toNat * 3)).off + 1, none⟩ = some (.slice A779_1 ((rd_T82 l0 x5_1).f1).length c779_1) ∧ w'.cell? ⟨(ad779.add ((x5_1).toNat * 3)).block, (ad779.add ((x5_1).toNat * 3)).off + 2, none⟩ = some (.string ((rd_T82 l0 x5_1).f2)) ∧ w'.cell? (ad780.add ((x5_1).toNat * 3)) = some (.int .i64 ((rd_T82 l1 x5_1).f0)) ∧ w'.cell? ⟨(ad780.add ((x5_1).toNat * 3)).block, (ad780.add ((x5_1).toNat * 3)).off + 1, none⟩ = some (.slice A780_1 ((rd_T82 l1 x5_1).f1).length c780_1) ∧ w'.cell? ⟨(ad780.add ((x5_1).toNat * 3)).block, (ad780.add ((x5_1).toNat * 3)).off + 2, none⟩ = some (.string ((rd_T82 l1 x5_1).f2)) ∧ w'.cell? (ad779.add ((x5_1).toNat * 3)) = some (.int .i64 ((rd_T82 l0 x5_1).f0)) ∧ w'.cell? ⟨(ad779.add ((x5_1).toNat * 3)).block, (ad779.add ((x5_1).toNat * 3)).off + 1, none⟩ = some (.slice A779_1 ((rd_T82 l0 x5_1).f1).length c779_1) ∧ w'.cell? ⟨(ad779.add ((x5_1).toNat * 3)).block, (ad779.add ((x5_1).toNat * 3)).off + 2, none⟩ = some (.string ((rd_T82 l0 x5_1).f2)) ∧ w'.cell? (ad780.add ((x5_1).toNat * 3)) = some (.int .i64 ((rd_T82 l1 x5_1).f0)) ∧ w'.cell? ⟨(ad780.add ((x5_1).toNat * 3)).block, (ad780.add ((x5_1).toNat * 3)).off + 1, none⟩ = some (.slice A780_1 ((rd_T82 l1 x5_1).f1).length c780_1) ∧ w'.cell? ⟨(ad780.add ((x5_1).toNat * 3)).block, (ad780.add ((x5_1).toNat * 3)).off + 2, none⟩ = some (.string ((rd_T82 l1 x5_1).f2)) ∧ w'.cell? (ad779.add ((x5_1).toNat * 3)) = some (.int .i64 ((rd_T82 l0 x5_1).f0)) ∧ w'.cell? ⟨(ad779.add ((x5_1).toNat * 3)).block, (ad779.add ((x5_1).toNat * 3)).off + 1, none⟩ = some (.slice A779_1 ((rd_T82 l0 x5_1).f1).length c779_1) ∧ w'.cell? ⟨(ad779.add ((x5_1).toNat * 3)).block, (ad779.add ((x5_1).toNat * 3)).off + 2, none⟩ = some (.string ((rd_T82 l0 x5_1).f2)) ∧ w'.cell? (ad780.add ((x5_1).toNat * 3)) = some (.int .i64 ((rd_T82 l1 x5_1).f0)) ∧ w'.cell? ⟨(ad780.add ((x5_1).toNat * 3)).block, (ad780.add ((x5_1).toNat * 3)).off + 1, none⟩ = some (.slice A780_1 ((rd_T82 l1 x5_1).f1).length c780_1) ∧ w'.cell? ⟨(ad780.add ((x5_1).toNat * 3)).block, (ad780.add ((x5_1).toNat * 3)).off + 2, none⟩ = some (.string ((rd_T82 l1 x5_1).f2))) (ds := []) #[false, false, false, false, false, false, false, false, false, false, false, false, false, false, false, false, false, false, false, false, false, false, false, false, false, false, false, false, false, false, false, false, false, false, false, false, false, false] (by kernel_rfl) rfl rfl ⟨((HB.out.cell (World.block_lt_of_cell? w _ hw779_0)).trans hw779_0), ((HB.out.cell (World.block_lt_of_cell? w _ hw779_1)).trans hw779_1), ((HB.out.cell (World.block_lt_of_cell? w _ hw779_2)).trans hw779_2), ((HB.out.cell (World.block_lt_of_cell? w _ hw780_0)).trans hw780_0), ((HB.out.cell (World.block_lt_of_cell? w _ hw780_1)).trans hw780_1), ((HB.out.cell (World.block_lt_of_cell? w _ hw780_2)).trans hw780_2), ((HB.out.cell (World.block_lt_of_cell? w _ hw781_0)).trans hw781_0), ((HB.out.cell (World.block_lt_of_cell? w _ hw781_1)).trans hw781_1), ((HB.out.cell (World.block_lt_of_cell? w _ hw781_2)).trans hw781_2), ((HB.out.cell (World.block_lt_of_cell? w _ hw782_0)).trans hw782_0), ((HB.out.cell (World.block_lt_of_cell? w _ hw782_1)).trans hw782_1), ((HB.out.cell (World.block_lt_of_cell? w _ hw782_2)).trans hw782_2), ((HB.out.cell (World.block_lt_of_cell? w _ hw783_0)).trans hw783_0), ((HB.out.cell (World.block_lt_of_cell? w _ hw783_1)).trans hw783_1), ((HB.out.cell (World.block_lt_of_cell? w _ hw783_2)).trans hw783_2), ((HB.out.cell (World.block_lt_of_cell? w _ hw784_0)).trans hw784_0), ((HB.out.cell (World.block_lt_of_cell? w _ hw784_1)).trans hw784_1), ((HB.out.cell (World.block_lt_of_cell? w _ hw784_2)).trans hw784_2)⟩ (fun hHeld => ?_); refine with_tabW tumbrelref05_Same.tab6 tumbrelref05_Same.bits6 (fun HT_ HW_ => ?_)
                    generalize wr.drew = w12 at HB HR779_1 HR780_1 HR781_1 HR782_1 HR783_1 HR784_1 hx779_0 hx779_1 hx779_2 hx780_0 hx780_1 hx780_2 hx781_0 hx781_1 hx781_2 hx782_0 hx782_1 hx782_2 hx783_0 hx783_1 hx783_2 hx784_0 hx784_1 hx784_2 hHeld ⊢
                    refine pure_ (i := 0) (N := some 17) (v := ?_) (a' := ?_) #[true, false, false, false, false, false, false, false, false, false, false, false, false, false, false, false, false, false, false, false, false, false, false, false, false, false, false, false, false, false, false, false, false, false, false, false, false, false] rfl rfl (any_of HT_.out (by kernel_rfl)) (fun _ _ _ h => h) (Or.inl ⟨by rfl, ?_⟩) ?_ ?_
                    rotate_left
                    · intro w'
                      go_simp
                      with_reducible rfl
                    rotate_left
                    · simp only [Act.put, List.setIfInBounds_toArray, List.set_cons_zero, List.set_cons_succ, i64_w, i32_w]
                      rfl
                    refine pure_ (i := 1) (N := some 18) (v := ?_) (a' := ?_) #[true, true, false, false, false, false, false, false, false, false, false, false, false, false, false, false, false, false, false, false, false, false, false, false, false, false, false, false, false, false, false, false, false, false, false, false, false, false] rfl rfl (any_of HT_.out (by kernel_rfl)) (fun _ _ _ h => h) (Or.inl ⟨by rfl, ?_⟩) ?_ ?_
                    rotate_left
                    · intro w'
                      go_simp
                      with_reducible rfl
                    rotate_left
                    · simp only [Act.put, List.setIfInBounds_toArray, List.set_cons_zero, List.set_cons_succ, i64_w, i32_w]
                      rfl
                    refine pure_ (i := 2) (N := some 19) (v := ?_) (a' := ?_) #[true, true, true, false, false, false, false, false, false, false, false, false, false, false, false, false, false, false, false, false, false, false, false, false, false, false, false, false, false, false, false, false, false, false, false, false, false, false] rfl rfl (any_of HT_.out (by kernel_rfl)) (fun _ _ _ h => h) (Or.inl ⟨by rfl, ?_⟩) ?_ ?_
                    rotate_left
                    · intro w'
                      go_simp
                      with_reducible rfl
                    rotate_left
                    · simp only [Act.put, List.setIfInBounds_toArray, List.set_cons_zero, List.set_cons_succ, i64_w, i32_w]
                      rfl
                    refine pure_ (i := 3) (N := some 20) (v := ?_) (a' := ?_) #[true, true, true, true, false, false, false, false, false, false, false, false, false, false, false, false, false, false, false, false, false, false, false, false, false, false, false, false, false, false, false, false, false, false, false, false, false, false] rfl rfl (any_of HT_.out (by kernel_rfl)) (fun _ _ _ h => h) (Or.inl ⟨by rfl, ?_⟩) ?_ ?_
                    rotate_left
                    · intro w'
                      go_simp
                      with_reducible rfl
                    rotate_left
                    · simp only [Act.put, List.setIfInBounds_toArray, List.set_cons_zero, List.set_cons_succ, i64_w, i32_w]
                      rfl
                    refine pure_ (i := 5) (N := some 22) (v := ?_) (a' := ?_) #[true, true, true, true, false, true, false, false, false, false, false, false, false, false, false, false, false, false, false, false, false, false, false, false, false, false, false, false, false, false, false, false, false, false, false, false, false, false] rfl rfl (any_of HT_.out (by kernel_rfl)) (fun _ _ _ h => h) (Or.inl ⟨by rfl, ?_⟩) ?_ ?_
                    rotate_left
                    · intro w'
                      go_simp
                      with_reducible rfl
                    rotate_left
                    · simp only [Act.put, List.setIfInBounds_toArray, List.set_cons_zero, List.set_cons_succ, i64_w, i32_w]
                      rfl
                    refine pure_ (i := 6) (N := some 23) (v := ?_) (a' := ?_) #[true, true, true, true, false, true, true, false, false, false, false, false, false, false, false, false, false, false, false, false, false, false, false, false, false, false, false, false, false, false, false, false, false, false, false, false, false, false] rfl rfl (any_of HT_.out (by kernel_rfl)) (fun _ _ _ h => h) (Or.inl ⟨by rfl, ?_⟩) ?_ ?_
                    rotate_left
                    · intro w'
                      go_simp
                      with_reducible rfl
                    rotate_left
                    · simp only [Act.put, List.setIfInBounds_toArray, List.set_cons_zero, List.set_cons_succ, i64_w, i32_w]
                      rfl
                    refine pure_ (i := 7) (N := some 24) (v := ?_) (a' := ?_) #[true, true, true, true, false, true, true, true, false, false, false, false, false, false, false, false, false, false, false, false, false, false, false, false, false, false, false, false, false, false, false, false, false, false, false, false, false, false] rfl rfl (any_of HT_.out (by kernel_rfl)) (fun _ _ _ h => h) (Or.inl ⟨by rfl, ?_⟩) ?_ ?_
                    rotate_left
                    · intro w'
                      go_simp
                      with_reducible rfl
                    rotate_left
                    · simp only [Act.put, List.setIfInBounds_toArray, List.set_cons_zero, List.set_cons_succ, i64_w, i32_w]
                      rfl
                    refine pure_ (i := 8) (N := some 25) (v := ?_) (a' := ?_) #[true, true, true, true, false, true, true, true, true, false, false, false, false, false, false, false, false, false, false, false, false, false, false, false, false, false, false, false, false, false, false, false, false, false, false, false, false, false] rfl rfl (any_of HT_.out (by kernel_rfl)) (fun _ _ _ h => h) (Or.inl ⟨by rfl, ?_⟩) ?_ ?_
                    rotate_left
                    · intro w'
                      go_simp
                      with_reducible rfl
                    rotate_left
                    · simp only [Act.put, List.setIfInBounds_toArray, List.set_cons_zero, List.set_cons_succ, i64_w, i32_w]
                      rfl
                    refine take_ (i := 4) (N := some 21) (v := ?_) (a' := ?_) #[true, true, true, true, true, true, true, true, true, false, false, false, false, false, false, false, false, false, false, false, false, false, false, false, false, false, false, false, false, false, false, false, false, false, false, false, false, false] rfl rfl (take_ofW HT_.out HW_.out (by kernel_rfl)) (fun _ _ _ h => h) (Or.inl ⟨by rfl, ?_⟩) hHeld ?_ ?_
                    rotate_left
                    · rintro w' ⟨s0, s1, s2, s3, s4, s5, s6, s7, s8, s9, s10, s11, s12, s13, s14, s15, s16, s17⟩
                      go_simp
                      with_reducible rfl
                    rotate_left
                    · simp only [Act.put, List.setIfInBounds_toArray, List.set_cons_zero, List.set_cons_succ, i64_w, i32_w]
                      rfl
                    refine take_ (i := 9) (N := some 26) (v := ?_) (a' := ?_) #[true, true, true, true, true, true, true, true, true, true, false, false, false, false, false, false, false, false, false, false, false, false, false, false, false, false, false, false, false, false, false, false, false, false, false, false, false, false] rfl rfl (take_ofW HT_.out HW_.out (by kernel_rfl)) (fun _ _ _ h => h) (Or.inl ⟨by rfl, ?_⟩) hHeld ?_ ?_
                    rotate_left
                    · rintro w' ⟨s0, s1, s2, s3, s4, s5, s6, s7, s8, s9, s10, s11, s12, s13, s14, s15, s16, s17⟩
                      go_simp
                      with_reducible rfl
                    rotate_left
                    · simp only [Act.put, List.setIfInBounds_toArray, List.set_cons_zero, List.set_cons_succ, i64_w, i32_w]
                      rfl
                    refine pure_ (i := 10) (N := some 27) (v := ?_) (a' := ?_) #[true, true, true, true, true, true, true, true, true, true, true, false, false, false, false, false, false, false, false, false, false, false, false, false, false, false, false, false, false, false, false, false, false, false, false, false, false, false] rfl rfl (any_of HT_.out (by kernel_rfl)) (fun _ _ _ h => h) (Or.inl ⟨by rfl, ?_⟩) ?_ ?_
                    rotate_left
                    · intro w'
                      go_simp
                      with_reducible rfl
                    rotate_left
                    · simp only [Act.put, List.setIfInBounds_toArray, List.set_cons_zero, List.set_cons_succ, i64_w, i32_w]
                      rfl
                    refine pure_ (i := 11) (N := some 28) (v := ?_) (a' := ?_) #[true, true, true, true, true, true, true, true, true, true, true, true, false, false, false, false, false, false, false, false, false, false, false, false, false, false, false, false, false, false, false, false, false, false, false, false, false, false] rfl rfl (any_of HT_.out (by kernel_rfl)) (fun _ _ _ h => h) (Or.inl ⟨by rfl, ?_⟩) ?_ ?_
                    rotate_left
                    · intro w'
                      go_simp
                      with_reducible rfl
                    rotate_left
                    · simp only [Act.put, List.setIfInBounds_toArray, List.set_cons_zero, List.set_cons_succ, i64_w, i32_w]
                      rfl
                    refine pure_ (i := 12) (N := some 29) (v := ?_) (a' := ?_) #[true, true, true, true, true, true, true, true, true, true, true, true, true, false, false, false, false, false, false, false, false, false, false, false, false, false, false, false, false, false, false, false, false, false, false, false, false, false] rfl rfl (any_of HT_.out (by kernel_rfl)) (fun _ _ _ h => h) (Or.inl ⟨by rfl, ?_⟩) ?_ ?_
                    rotate_left
                    · intro w'
                      go_simp
                      with_reducible rfl
                    rotate_left
                    · simp only [Act.put, List.setIfInBounds_toArray, List.set_cons_zero, List.set_cons_succ, i64_w, i32_w]
                      rfl
                    refine pure_ (i := 13) (N := some 30) (v := ?_) (a' := ?_) #[true, true, true, true, true, true, true, true, true, true, true, true, true, true, false, false, false, false, false, false, false, false, false, false, false, false, false, false, false, false, false, false, false, false, false, false, false, false] rfl rfl (any_of HT_.out (by kernel_rfl)) (fun _ _ _ h => h) (Or.inl ⟨by rfl, ?_⟩) ?_ ?_
                    rotate_left
                    · intro w'
                      go_simp
                      with_reducible rfl
                    rotate_left
                    · simp only [Act.put, List.setIfInBounds_toArray, List.set_cons_zero, List.set_cons_succ, i64_w, i32_w]
                      rfl
                    refine pure_ (i := 14) (N := some 31) (v := ?_) (a' := ?_) #[true, true, true, true, true, true, true, true, true, true, true, true, true, true, true, false, false, false, false, false, false, false, false, false, false, false, false, false, false, false, false, false, false, false, false, false, false, false] rfl rfl (any_of HT_.out (by kernel_rfl)) (fun _ _ _ h => h) (Or.inl ⟨by rfl, ?_⟩) ?_ ?_
                    rotate_left
                    · intro w'
                      go_simp
                      with_reducible rfl
                    rotate_left
                    · simp only [Act.put, List.setIfInBounds_toArray, List.set_cons_zero, List.set_cons_succ, i64_w, i32_w]
                      rfl
                    refine pure_ (i := 15) (N := some 32) (v := ?_) (a' := ?_) #[true, true, true, true, true, true, true, true, true, true, true, true, true, true, true, true, false, false, false, false, false, false, false, false, false, false, false, false, false, false, false, false, false, false, false, false, false, false] rfl rfl (any_of HT_.out (by kernel_rfl)) (fun _ _ _ h => h) (Or.inl ⟨by rfl, ?_⟩) ?_ ?_
                    rotate_left
                    · intro w'
                      go_simp
                      with_reducible rfl
                    rotate_left
                    · simp only [Act.put, List.setIfInBounds_toArray, List.set_cons_zero, List.set_cons_succ, i64_w, i32_w]
                      rfl
                    refine pure_ (i := 17) (N := some 34) (v := ?_) (a' := ?_) #[true, true, true, true, true, true, true, true, true, true, true, true, true, true, true, true, false, true, false, false, false, false, false, false, false, false, false, false, false, false, false, false, false, false, false, false, false, false] rfl rfl (any_of HT_.out (by kernel_rfl)) (fun _ _ _ h => h) (Or.inl ⟨by rfl, ?_⟩) ?_ ?_
                    rotate_left
                    · intro w'
                      go_simp
                      with_reducible rfl
                    rotate_left
                    · simp only [Act.put, List.setIfInBounds_toArray, List.set_cons_zero, List.set_cons_succ, i64_w, i32_w]
                      rfl
                    refine pure_ (i := 18) (N := some 35) (v := ?_) (a' := ?_) #[true, true, true, true, true, true, true, true, true, true, true, true, true, true, true, true, false, true, true, false, false, false, false, false, false, false, false, false, false, false, false, false, false, false, false, false, false, false] rfl rfl (any_of HT_.out (by kernel_rfl)) (fun _ _ _ h => h) (Or.inl ⟨by rfl, ?_⟩) ?_ ?_
                    rotate_left
                    · intro w'
                      go_simp
                      with_reducible rfl
                    rotate_left
                    · simp only [Act.put, List.setIfInBounds_toArray, List.set_cons_zero, List.set_cons_succ, i64_w, i32_w]
                      rfl
                    refine pure_ (i := 19) (N := some 36) (v := ?_) (a' := ?_) #[true, true, true, true, true, true, true, true, true, true, true, true, true, true, true, true, false, true, true, true, false, false, false, false, false, false, false, false, false, false, false, false, false, false, false, false, false, false] rfl rfl (any_of HT_.out (by kernel_rfl)) (fun _ _ _ h => h) (Or.inl ⟨by rfl, ?_⟩) ?_ ?_
                    rotate_left
                    · intro w'
                      go_simp
                      with_reducible rfl
                    rotate_left
                    · simp only [Act.put, List.setIfInBounds_toArray, List.set_cons_zero, List.set_cons_succ, i64_w, i32_w]
                      rfl
                    refine pure_ (i := 20) (N := some 37) (v := ?_) (a' := ?_) #[true, true, true, true, true, true, true, true, true, true, true, true, true, true, true, true, false, true, true, true, true, false, false, false, false, false, false, false, false, false, false, false, false, false, false, false, false, false] rfl rfl (any_of HT_.out (by kernel_rfl)) (fun _ _ _ h => h) (Or.inl ⟨by rfl, ?_⟩) ?_ ?_
                    rotate_left
                    · intro w'
                      go_simp
                      with_reducible rfl
                    rotate_left
                    · simp only [Act.put, List.setIfInBounds_toArray, List.set_cons_zero, List.set_cons_succ, i64_w, i32_w]
                      rfl
                    refine take_ (i := 16) (N := some 33) (v := ?_) (a' := ?_) #[true, true, true, true, true, true, true, true, true, true, true, true, true, true, true, true, true, true, true, true, true, false, false, false, false, false, false, false, false, false, false, false, false, false, false, false, false, false] rfl rfl (take_ofW HT_.out HW_.out (by kernel_rfl)) (fun _ _ _ h => h) (Or.inl ⟨by rfl, ?_⟩) hHeld ?_ ?_
                    rotate_left
                    · rintro w' ⟨s0, s1, s2, s3, s4, s5, s6, s7, s8, s9, s10, s11, s12, s13, s14, s15, s16, s17⟩
                      go_simp
                      with_reducible rfl
                    rotate_left
                    · simp only [Act.put, List.setIfInBounds_toArray, List.set_cons_zero, List.set_cons_succ, i64_w, i32_w]
                      rfl
                    refine take_ (i := 21) (N := some 38) (v := ?_) (a' := ?_) #[true, true, true, true, true, true, true, true, true, true, true, true, true, true, true, true, true, true, true, true, true, true, false, false, false, false, false, false, false, false, false, false, false, false, false, false, false, false] rfl rfl (take_ofW HT_.out HW_.out (by kernel_rfl)) (fun _ _ _ h => h) (Or.inl ⟨by rfl, ?_⟩) hHeld ?_ ?_
                    rotate_left
                    · rintro w' ⟨s0, s1, s2, s3, s4, s5, s6, s7, s8, s9, s10, s11, s12, s13, s14, s15, s16, s17⟩
                      go_simp
                      with_reducible rfl
                    rotate_left
                    · simp only [Act.put, List.setIfInBounds_toArray, List.set_cons_zero, List.set_cons_succ, i64_w, i32_w]
                      rfl
                    refine pure_ (i := 22) (N := some 39) (v := ?_) (a' := ?_) #[true, true, true, true, true, true, true, true, true, true, true, true, true, true, true, true, true, true, true, true, true, true, true, false, false, false, false, false, false, false, false, false, false, false, false, false, false, false] rfl rfl (any_of HT_.out (by kernel_rfl)) (fun _ _ _ h => h) (Or.inl ⟨by rfl, ?_⟩) ?_ ?_
                    rotate_left
                    · intro w'
                      go_simp
                      with_reducible rfl
                    rotate_left
                    · simp only [Act.put, List.setIfInBounds_toArray, List.set_cons_zero, List.set_cons_succ, i64_w, i32_w]
                      rfl
                    refine pure_ (i := 23) (N := some 40) (v := ?_) (a' := ?_) #[true, true, true, true, true, true, true, true, true, true, true, true, true, true, true, true, true, true, true, true, true, true, true, true, false, false, false, false, false, false, false, false, false, false, false, false, false, false] rfl rfl (any_of HT_.out (by kernel_rfl)) (fun _ _ _ h => h) (Or.inl ⟨by rfl, ?_⟩) ?_ ?_
                    rotate_left
                    · intro w'
                      go_simp
                      with_reducible rfl
                    rotate_left
                    · simp only [Act.put, List.setIfInBounds_toArray, List.set_cons_zero, List.set_cons_succ, i64_w, i32_w]
                      rfl
                    refine pure_ (i := 24) (N := some 41) (v := ?_) (a' := ?_) #[true, true, true, true, true, true, true, true, true, true, true, true, true, true, true, true, true, true, true, true, true, true, true, true, true, false, false, false, false, false, false, false, false, false, false, false, false, false] rfl rfl (any_of HT_.out (by kernel_rfl)) (fun _ _ _ h => h) (Or.inl ⟨by rfl, ?_⟩) ?_ ?_
                    rotate_left
                    · intro w'
                      go_simp
                      with_reducible rfl
                    rotate_left
                    · simp only [Act.put, List.setIfInBounds_toArray, List.set_cons_zero, List.set_cons_succ, i64_w, i32_w]
                      rfl
                    refine pure_ (i := 25) (N := some 42) (v := ?_) (a' := ?_) #[true, true, true, true, true, true, true, true, true, true, true, true, true, true, true, true, true, true, true, true, true, true, true, true, true, true, false, false, false, false, false, false, false, false, false, false, false, false] rfl rfl (any_of HT_.out (by kernel_rfl)) (fun _ _ _ h => h) (Or.inl ⟨by rfl, ?_⟩) ?_ ?_
                    rotate_left
                    · intro w'
                      go_simp
                      with_reducible rfl
                    rotate_left
                    · simp only [Act.put, List.setIfInBounds_toArray, List.set_cons_zero, List.set_cons_succ, i64_w, i32_w]
                      rfl
                    refine pure_ (i := 26) (N := some 43) (v := ?_) (a' := ?_) #[true, true, true, true, true, true, true, true, true, true, true, true, true, true, true, true, true, true, true, true, true, true, true, true, true, true, true, false, false, false, false, false, false, false, false, false, false, false] rfl rfl (any_of HT_.out (by kernel_rfl)) (fun _ _ _ h => h) (Or.inl ⟨by rfl, ?_⟩) ?_ ?_
                    rotate_left
                    · intro w'
                      go_simp
                      with_reducible rfl
                    rotate_left
                    · simp only [Act.put, List.setIfInBounds_toArray, List.set_cons_zero, List.set_cons_succ, i64_w, i32_w]
                      rfl
                    refine pure_ (i := 27) (N := some 44) (v := ?_) (a' := ?_) #[true, true, true, true, true, true, true, true, true, true, true, true, true, true, true, true, true, true, true, true, true, true, true, true, true, true, true, true, false, false, false, false, false, false, false, false, false, false] rfl rfl (any_of HT_.out (by kernel_rfl)) (fun _ _ _ h => h) (Or.inl ⟨by rfl, ?_⟩) ?_ ?_
                    rotate_left
                    · intro w'
                      go_simp
                      with_reducible rfl
                    rotate_left
                    · simp only [Act.put, List.setIfInBounds_toArray, List.set_cons_zero, List.set_cons_succ, i64_w, i32_w]
                      rfl
                    refine pure_ (i := 28) (N := some 45) (v := ?_) (a' := ?_) #[true, true, true, true, true, true, true, true, true, true, true, true, true, true, true, true, true, true, true, true, true, true, true, true, true, true, true, true, true, false, false, false, false, false, false, false, false, false] rfl rfl (any_of HT_.out (by kernel_rfl)) (fun _ _ _ h => h) (Or.inl ⟨by rfl, ?_⟩) ?_ ?_
                    rotate_left
                    · intro w'
                      go_simp
                      with_reducible rfl
                    rotate_left
                    · simp only [Act.put, List.setIfInBounds_toArray, List.set_cons_zero, List.set_cons_succ, i64_w, i32_w]
                      rfl
                    refine pure_ (i := 30) (N := some 47) (v := ?_) (a' := ?_) #[true, true, true, true, true, true, true, true, true, true, true, true, true, true, true, true, true, true, true, true, true, true, true, true, true, true, true, true, true, false, true, false, false, false, false, false, false, false] rfl rfl (any_of HT_.out (by kernel_rfl)) (fun _ _ _ h => h) (Or.inl ⟨by rfl, ?_⟩) ?_ ?_
                    rotate_left
                    · intro w'
                      go_simp
                      with_reducible rfl
                    rotate_left
                    · simp only [Act.put, List.setIfInBounds_toArray, List.set_cons_zero, List.set_cons_succ, i64_w, i32_w]
                      rfl
                    refine pure_ (i := 31) (N := some 48) (v := ?_) (a' := ?_) #[true, true, true, true, true, true, true, true, true, true, true, true, true, true, true, true, true, true, true, true, true, true, true, true, true, true, true, true, true, false, true, true, false, false, false, false, false, false] rfl rfl (any_of HT_.out (by kernel_rfl)) (fun _ _ _ h => h) (Or.inl ⟨by rfl, ?_⟩) ?_ ?_
                    rotate_left
                    · intro w'
                      go_simp
                      with_reducible rfl
                    rotate_left
                    · simp only [Act.put, List.setIfInBounds_toArray, List.set_cons_zero, List.set_cons_succ, i64_w, i32_w]
                      rfl
                    refine pure_ (i := 32) (N := some 49) (v := ?_) (a' := ?_) #[true, true, true, true, true, true, true, true, true, true, true, true, true, true, true, true, true, true, true, true, true, true, true, true, true, true, true, true, true, false, true, true, true, false, false, false, false, false] rfl rfl (any_of HT_.out (by kernel_rfl)) (fun _ _ _ h => h) (Or.inl ⟨by rfl, ?_⟩) ?_ ?_
                    rotate_left
                    · intro w'
                      go_simp
                      with_reducible rfl
                    rotate_left
                    · simp only [Act.put, List.setIfInBounds_toArray, List.set_cons_zero, List.set_cons_succ, i64_w, i32_w]
                      rfl
                    refine pure_ (i := 33) (N := some 50) (v := ?_) (a' := ?_) #[true, true, true, true, true, true, true, true, true, true, true, true, true, true, true, true, true, true, true, true, true, true, true, true, true, true, true, true, true, false, true, true, true, true, false, false, false, false] rfl rfl (any_of HT_.out (by kernel_rfl)) (fun _ _ _ h => h) (Or.inl ⟨by rfl, ?_⟩) ?_ ?_
                    rotate_left
                    · intro w'
                      go_simp
                      with_reducible rfl
                    rotate_left
                    · simp only [Act.put, List.setIfInBounds_toArray, List.set_cons_zero, List.set_cons_succ, i64_w, i32_w]
                      rfl
                    refine take_ (i := 29) (N := some 46) (v := ?_) (a' := ?_) #[true, true, true, true, true, true, true, true, true, true, true, true, true, true, true, true, true, true, true, true, true, true, true, true, true, true, true, true, true, true, true, true, true, true, false, false, false, false] rfl rfl (take_ofW HT_.out HW_.out (by kernel_rfl)) (fun _ _ _ h => h) (Or.inl ⟨by rfl, ?_⟩) hHeld ?_ ?_
                    rotate_left
                    · rintro w' ⟨s0, s1, s2, s3, s4, s5, s6, s7, s8, s9, s10, s11, s12, s13, s14, s15, s16, s17⟩
                      go_simp
                      with_reducible rfl
                    rotate_left
                    · simp only [Act.put, List.setIfInBounds_toArray, List.set_cons_zero, List.set_cons_succ, i64_w, i32_w]
                      rfl
                    refine take_ (i := 34) (N := some 51) (v := ?_) (a' := ?_) #[true, true, true, true, true, true, true, true, true, true, true, true, true, true, true, true, true, true, true, true, true, true, true, true, true, true, true, true, true, true, true, true, true, true, true, false, false, false] rfl rfl (take_ofW HT_.out HW_.out (by kernel_rfl)) (fun _ _ _ h => h) (Or.inl ⟨by rfl, ?_⟩) hHeld ?_ ?_
                    rotate_left
                    · rintro w' ⟨s0, s1, s2, s3, s4, s5, s6, s7, s8, s9, s10, s11, s12, s13, s14, s15, s16, s17⟩
                      go_simp
                      with_reducible rfl
                    rotate_left
                    · simp only [Act.put, List.setIfInBounds_toArray, List.set_cons_zero, List.set_cons_succ, i64_w, i32_w]
                      rfl
                    refine one_ (i := 35) (N := some 52) #[true, true, true, true, true, true, true, true, true, true, true, true, true, true, true, true, true, true, true, true, true, true, true, true, true, true, true, true, true, true, true, true, true, true, true, true, false, false] rfl rfl (one_of HT_.out (by kernel_rfl)) (by decide) (fun K hK => ?_)
                    refine goes_ Try.func29 (by kernel_rfl) rfl #[.slice A779_1 ((rd_T82 l0 x5_1).f1).length c779_1, .slice A780_1 ((rd_T82 l1 x5_1).f1).length c780_1] (by rfl) rfl rfl (by (try simp only [List.map_toArray, List.map_cons, List.map_nil]); first | done | rfl | (simp only [List.length_drop, List.length_take]; rfl)) ?_
                    with_reducible refine (tumbrelref02_Same.calls k1 _ _ ((rd_T82 l0 x5_1).f1) _ _ ((rd_T82 l1 x5_1).f1) false _ ?side1 ?side2 ?side3 ?side4 A9.out).mono ?_
                    (case side1 => repeat (first | exact (Kd.C_below HR783_1.out HB.out) | (with_reducible refine Kd.C_alloc ?_ _) | (with_reducible refine Kd.C_drewN ?_ _) | (with_reducible refine Kd.C_drew ?_)))
                    (case side2 => exact HC783_1.out)
                    (case side3 => repeat (first | exact (Kd.C_below HR784_1.out HB.out) | (with_reducible refine Kd.C_alloc ?_ _) | (with_reducible refine Kd.C_drewN ?_ _) | (with_reducible refine Kd.C_drew ?_)))
                    (case side4 => exact HC784_1.out)
                    rintro e w' ⟨rfl, ⟨nd, rfl⟩⟩
                    refine ⟨_, rfl, ?_⟩
                    refine hK.out _ _ ⟨((HB.out.cell (World.block_lt_of_cell? w _ hw779_0)).trans hw779_0), ((HB.out.cell (World.block_lt_of_cell? w _ hw779_1)).trans hw779_1), ((HB.out.cell (World.block_lt_of_cell? w _ hw779_2)).trans hw779_2), ((HB.out.cell (World.block_lt_of_cell? w _ hw780_0)).trans hw780_0), ((HB.out.cell (World.block_lt_of_cell? w _ hw780_1)).trans hw780_1), ((HB.out.cell (World.block_lt_of_cell? w _ hw780_2)).trans hw780_2), ((HB.out.cell (World.block_lt_of_cell? w _ hw781_0)).trans hw781_0), ((HB.out.cell (World.block_lt_of_cell? w _ hw781_1)).trans hw781_1), ((HB.out.cell (World.block_lt_of_cell? w _ hw781_2)).trans hw781_2), ((HB.out.cell (World.block_lt_of_cell? w _ hw782_0)).trans hw782_0), ((HB.out.cell (World.block_lt_of_cell? w _ hw782_1)).trans hw782_1), ((HB.out.cell (World.block_lt_of_cell? w _ hw782_2)).trans hw782_2), ((HB.out.cell (World.block_lt_of_cell? w _ hw783_0)).trans hw783_0), ((HB.out.cell (World.block_lt_of_cell? w _ hw783_1)).trans hw783_1), ((HB.out.cell (World.block_lt_of_cell? w _ hw783_2)).trans hw783_2), ((HB.out.cell (World.block_lt_of_cell? w _ hw784_0)).trans hw784_0), ((HB.out.cell (World.block_lt_of_cell? w _ hw784_1)).trans hw784_1), ((HB.out.cell (World.block_lt_of_cell? w _ hw784_2)).trans hw784_2)⟩ (fun hHeld => ?_)
                    clear hK K
                    refine norm_ (a' := ?_) ?_ ?_
                    rotate_left
                    · show Act.put _ (some 52) _ = _
                      simp only [Act.put, List.setIfInBounds_toArray, List.set_cons_zero, List.set_cons_succ, i64_w, i32_w]
                      rfl
                    refine pure_ (i := 36) (N := some 53) (v := ?_) (a' := ?_) #[true, true, true, true, true, true, true, true, true, true, true, true, true, true, true, true, true, true, true, true, true, true, true, true, true, true, true, true, true, true, true, true, true, true, true, true, true, false] rfl rfl (any_of HT_.out (by kernel_rfl)) (fun _ _ _ h => h) (Or.inl ⟨by rfl, ?_⟩) ?_ ?_
                    rotate_left
                    · intro w'
                      go_simp
                      with_reducible rfl
                    rotate_left
                    · simp only [Act.put, List.setIfInBounds_toArray, List.set_cons_zero, List.set_cons_succ, i64_w, i32_w]
                      rfl
                    refine pure_ (i := 37) (N := some 54) (v := ?_) (a' := ?_) #[true, true, true, true, true, true, true, true, true, true, true, true, true, true, true, true, true, true, true, true, true, true, true, true, true, true, true, true, true, true, true, true, true, true, true, true, true, true] rfl rfl (any_of HT_.out (by kernel_rfl)) (fun _ _ _ h => h) (Or.inl ⟨by rfl, ?_⟩) ?_ ?_
                    rotate_left
                    · intro w'
                      go_simp
                      with_reducible rfl
                    rotate_left
                    · simp only [Act.put, List.setIfInBounds_toArray, List.set_cons_zero, List.set_cons_succ, i64_w, i32_w]
                      rfl
                    refine done_ (done_of HT_.out (by kernel_rfl)) ?_
                    try go_wp2
                    go_ret
                    exact ⟨by first | rfl | (simp [errW_none, errW_some] <;> rfl) | (simp [*, errW_none, errW_some] <;> rfl), by repeat (first | (with_reducible first | exact HB.out | apply below_alloc | apply pw_below_drewN | apply below_drew1) | exact HB.out)⟩
                · rw [if_neg c8] at H
                  have c8b0 : (((rd_T82 l0 x5_1).f2).toList == ((rd_T82 l1 x5_1).f2).toList) = false := beq_eq_false_iff_ne.mpr c8
                  have c8b1 : (((rd_T82 l0 x5_1).f2).toList != ((rd_T82 l1 x5_1).f2).toList) = true := bne_iff_ne.mpr c8
                  obtain rfl := Option.some.inj H
                  try go_wp2
                  have n0_ := Aside0.mk (below_drew1 HB.out)
                  clear HB
                  have HB := n0_
                  clear n0_
                  have p779 : 0 ≤ (x5_1 : Int) := of_decide_eq_true (by first | (with_reducible assumption) | assumption)
                  have q779 : x5_1 < (l0.length : Int) := of_decide_eq_true (by first | (with_reducible assumption) | assumption)
                  obtain ⟨ad779, A779_1, c779_1, e779, hx779_0, hx779_1, hx779_2, hl779_1, hi779_1⟩ := at_T82 HR0.out x5_1 p779 q779
                  have hw779_2 := hx779_2
                  have hw779_1 := hx779_1
                  have hw779_0 := hx779_0
                  cases e779
                  replace hx779_0 := (HB.out.cell (World.block_lt_of_cell? w _ hx779_0)).trans hx779_0
                  replace hx779_1 := (HB.out.cell (World.block_lt_of_cell? w _ hx779_1)).trans hx779_1
                  replace hx779_2 := (HB.out.cell (World.block_lt_of_cell? w _ hx779_2)).trans hx779_2
                  have HR779_1 := Aside0.mk hi779_1
                  have HC779_1 := Aside0.mk hl779_1
                  clear hi779_1 hl779_1
                  replace p779 := eq_true p779
                  replace q779 := eq_true q779
                  have p780 : 0 ≤ (x5_1 : Int) := of_decide_eq_true (by first | (with_reducible assumption) | assumption)
                  have q780 : x5_1 < (l1.length : Int) := of_decide_eq_true (by first | (with_reducible assumption) | assumption)
                  obtain ⟨ad780, A780_1, c780_1, e780, hx780_0, hx780_1, hx780_2, hl780_1, hi780_1⟩ := at_T82 HR1.out x5_1 p780 q780
                  have hw780_2 := hx780_2
                  have hw780_1 := hx780_1
                  have hw780_0 := hx780_0
                  cases e780
                  replace hx780_0 := (HB.out.cell (World.block_lt_of_cell? w _ hx780_0)).trans hx780_0
                  replace hx780_1 := (HB.out.cell (World.block_lt_of_cell? w _ hx780_1)).trans hx780_1
                  replace hx780_2 := (HB.out.cell (World.block_lt_of_cell? w _ hx780_2)).trans hx780_2
                  have HR780_1 := Aside0.mk hi780_1
                  have HC780_1 := Aside0.mk hl780_1
                  clear hi780_1 hl780_1
                  replace p780 := eq_true p780
                  replace q780 := eq_true q780
                  have p781 : 0 ≤ (x5_1 : Int) := of_decide_eq_true (by first | (with_reducible assumption) | assumption)
                  have q781 : x5_1 < (l0.length : Int) := of_decide_eq_true (by first | (with_reducible assumption) | assumption)
                  obtain ⟨ad781, A781_1, c781_1, e781, hx781_0, hx781_1, hx781_2, hl781_1, hi781_1⟩ := at_T82 HR0.out x5_1 p781 q781
                  have hw781_2 := hx781_2
                  have hw781_1 := hx781_1
                  have hw781_0 := hx781_0
                  obtain rfl : ad779 = ad781 := (by injection e781)
                  replace hx781_0 := (HB.out.cell (World.block_lt_of_cell? w _ hx781_0)).trans hx781_0
                  replace hx781_1 := (HB.out.cell (World.block_lt_of_cell? w _ hx781_1)).trans hx781_1
                  replace hx781_2 := (HB.out.cell (World.block_lt_of_cell? w _ hx781_2)).trans hx781_2
                  have HR781_1 := Aside0.mk hi781_1
                  have HC781_1 := Aside0.mk hl781_1
                  clear hi781_1 hl781_1
                  replace p781 := eq_true p781
                  replace q781 := eq_true q781
                  have ea_ := Option.some.inj (hx779_1.symm.trans hx781_1)
                  injection ea_ with ea_ en_ ec_
                  subst ea_
                  subst ec_
                  clear en_
                  have p782 : 0 ≤ (x5_1 : Int) := of_decide_eq_true (by first | (with_reducible assumption) | assumption)
                  have q782 : x5_1 < (l1.length : Int) := of_decide_eq_true (by first | (with_reducible assumption) | assumption)
                  obtain ⟨ad782, A782_1, c782_1, e782, hx782_0, hx782_1, hx782_2, hl782_1, hi782_1⟩ := at_T82 HR1.out x5_1 p782 q782
                  have hw782_2 := hx782_2
                  have hw782_1 := hx782_1
                  have hw782_0 := hx782_0
                  obtain rfl : ad780 = ad782 := (by injection e782)
                  replace hx782_0 := (HB.out.cell (World.block_lt_of_cell? w _ hx782_0)).trans hx782_0
                  replace hx782_1 := (HB.out.cell (World.block_lt_of_cell? w _ hx782_1)).trans hx782_1
                  replace hx782_2 := (HB.out.cell (World.block_lt_of_cell? w _ hx782_2)).trans hx782_2
                  have HR782_1 := Aside0.mk hi782_1
                  have HC782_1 := Aside0.mk hl782_1
                  clear hi782_1 hl782_1
                  replace p782 := eq_true p782
                  replace q782 := eq_true q782
                  have ea_ := Option.some.inj (hx780_1.symm.trans hx782_1)
                  injection ea_ with ea_ en_ ec_
                  subst ea_
                  subst ec_
                  clear en_
                  refine start_ (n := 38) (S := fun w' => w'.cell? (ad779.add ((x5_1).toNat * 3)) = some (.int .i64 ((rd_T82 l0 x5_1).f0)) ∧ w'.cell? ⟨(ad779.add ((x5_1).toNat * 3)).block, (ad779.add ((x5_1).toNat * 3)).off + 1, none⟩ = some (.slice A779_1 ((rd_T82 l0 x5_1).f1).length c779_1) ∧ w'.cell? ⟨(ad779.add ((x5_1).toNat * 3)).block, (ad779.add ((x5_1).toNat * 3)).off + 2, none⟩ = some (.string ((rd_T82 l0 x5_1).f2)) ∧ w'.cell? (ad780.add ((x5_1).toNat * 3)) = some (.int .i64 ((rd_T82 l1 x5_1).f0)) ∧ w'.cell? ⟨(ad780.add ((x5_1).toNat * 3)).block, (ad780.add ((x5_1).toNat * 3)).off + 1, none⟩ = some (.slice A780_1 ((rd_T82 l1 x5_1).f1).length c780_1) ∧ w'.cell? ⟨(ad780.add ((x5_1).toNat * 3)).block, (ad780.add ((x5_1).toNat * 3)).off + 2, none⟩ = some (.string ((rd_T82 l1 x5_1).f2)) ∧ w'.cell? (ad779.add ((x5_1).toNat * 3)) = some (.int .i64 ((rd_T82 l0 x5_1).f0)) ∧ w'.cell? ⟨(ad779.add ((x5_1).toNat * 3)).block, (ad779.add ((x5_1).toNat * 3)).off + 1, none⟩ = some (.slice A779_1 ((rd_T82 l0 x5_1).f1).length c779_1) ∧ w'.cell? ⟨(ad779.add ((x5_1).toNat * 3)).block, (ad779.add ((x5_1).toNat * 3)).off + 2, none⟩ = some (.string ((rd_T82 l0 x5_1).f2)) ∧ w'.cell? (ad780.add ((x5_1).toNat * 3)) = some (.int .i64 ((rd_T82 l1 x5_1).f0)) ∧ w'.cell? ⟨(ad780.add ((x5_1).toNat * 3)).block, (ad780.add ((x5_1).toNat * 3)).off + 1, none⟩ = some (.slice A780_1 ((rd_T82 l1 x5_1).f1).length c780_1) ∧ w'.cell? ⟨(ad780.add ((x5_1).toNat * 3)).block, (ad780.add ((x5_1).toNat * 3)).off + 2, none⟩ = some (.string ((rd_T82 l1 x5_1).f2))) (ds := []) #[false, false, false, false, false, false, false, false, false, false, false, false, false, false, false, false, false, false, false, false, false, false, false, false, false, false, false, false, false, false, false, false, false, false, false, false, false, false] (by kernel_rfl) rfl rfl ⟨((HB.out.cell (World.block_lt_of_cell? w _ hw779_0)).trans hw779_0), ((HB.out.cell (World.block_lt_of_cell? w _ hw779_1)).trans hw779_1), ((HB.out.cell (World.block_lt_of_cell? w _ hw779_2)).trans hw779_2), ((HB.out.cell (World.block_lt_of_cell? w _ hw780_0)).trans hw780_0), ((HB.out.cell (World.block_lt_of_cell? w _ hw780_1)).trans hw780_1), ((HB.out.cell (World.block_lt_of_cell? w _ hw780_2)).trans hw780_2), ((HB.out.cell (World.block_lt_of_cell? w _ hw781_0)).trans hw781_0), ((HB.out.cell (World.block_lt_of_cell? w _ hw781_1)).trans hw781_1), ((HB.out.cell (World.block_lt_of_cell? w _ hw781_2)).trans hw781_2), ((HB.out.cell (World.block_lt_of_cell? w _ hw782_0)).trans hw782_0), ((HB.out.cell (World.block_lt_of_cell? w _ hw782_1)).trans hw782_1), ((HB.out.cell (World.block_lt_of_cell? w _ hw782_2)).trans hw782_2)⟩ (fun hHeld => ?_); refine with_tabW tumbrelref05_Same.tab6 tumbrelref05_Same.bits6 (fun HT_ HW_ => ?_)
                  generalize wr.drew = w13 at HB HR779_1 HR780_1 HR781_1 HR782_1 hx779_0 hx779_1 hx779_2 hx780_0 hx780_1 hx780_2 hx781_0 hx781_1 hx781_2 hx782_0 hx782_1 hx782_2 hHeld ⊢
                  refine pure_ (i := 0) (N := some 17) (v := ?_) (a' := ?_) #[true, false, false, false, false, false, false, false, false, false, false, false, false, false, false, false, false, false, false, false, false, false, false, false, false, false, false, false, false, false, false, false, false, false, false, false, false, false] rfl rfl (any_of HT_.out (by kernel_rfl)) (fun _ _ _ h => h) (Or.inl ⟨by rfl, ?_⟩) ?_ ?_
                  rotate_left
                  · intro w'
                    go_simp
                    with_reducible rfl
                  rotate_left
                  · simp only [Act.put, List.setIfInBounds_toArray, List.set_cons_zero, List.set_cons_succ, i64_w, i32_w]
                    rfl
                  refine pure_ (i := 1) (N := some 18) (v := ?_) (a' := ?_) #[true, true, false, false, false, false, false, false, false, false, false, false, false, false, false, false, false, false, false, false, false, false, false, false, false, false, false, false, false, false, false, false, false, false, false, false, false, false] rfl rfl (any_of HT_.out (by kernel_rfl)) (fun _ _ _ h => h) (Or.inl ⟨by rfl, ?_⟩) ?_ ?_
                  rotate_left
                  · intro w'
                    go_simp
                    with_reducible rfl
                  rotate_left
                  · simp only [Act.put, List.setIfInBounds_toArray, List.set_cons_zero, List.set_cons_succ, i64_w, i32_w]
                    rfl
                  refine pure_ (i := 2) (N := some 19) (v := ?_) (a' := ?_) #[true, true, true, false, false, false, false, false, false, false, false, false, false, false, false, false, false, false, false, false, false, false, false, false, false, false, false, false, false, false, false, false, false, false, false, false, false, false] rfl rfl (any_of HT_.out (by kernel_rfl)) (fun _ _ _ h => h) (Or.inl ⟨by rfl, ?_⟩) ?_ ?_
                  rotate_left
                  · intro w'
                    go_simp
                    with_reducible rfl
                  rotate_left
                  · simp only [Act.put, List.setIfInBounds_toArray, List.set_cons_zero, List.set_cons_succ, i64_w, i32_w]
                    rfl
                  refine pure_ (i := 3) (N := some 20) (v := ?_) (a' := ?_) #[true, true, true, true, false, false, false, false, false, false, false, false, false, false, false, false, false, false, false, false, false, false, false, false, false, false, false, false, false, false, false, false, false, false, false, false, false, false] rfl rfl (any_of HT_.out (by kernel_rfl)) (fun _ _ _ h => h) (Or.inl ⟨by rfl, ?_⟩) ?_ ?_
                  rotate_left
                  · intro w'
                    go_simp
                    with_reducible rfl
                  rotate_left
                  · simp only [Act.put, List.setIfInBounds_toArray, List.set_cons_zero, List.set_cons_succ, i64_w, i32_w]
                    rfl
                  refine pure_ (i := 5) (N := some 22) (v := ?_) (a' := ?_) #[true, true, true, true, false, true, false, false, false, false, false, false, false, false, false, false, false, false, false, false, false, false, false, false, false, false, false, false, false, false, false, false, false, false, false, false, false, false] rfl rfl (any_of HT_.out (by kernel_rfl)) (fun _ _ _ h => h) (Or.inl ⟨by rfl, ?_⟩) ?_ ?_
                  rotate_left
                  · intro w'
                    go_simp
                    with_reducible rfl
                  rotate_left
                  · simp only [Act.put, List.setIfInBounds_toArray, List.set_cons_zero, List.set_cons_succ, i64_w, i32_w]
                    rfl
                  refine pure_ (i := 6) (N := some 23) (v := ?_) (a' := ?_) #[true, true, true, true, false, true, true, false, false, false, false, false, false, false, false, false, false, false, false, false, false, false, false, false, false, false, false, false, false, false, false, false, false, false, false, false, false, false] rfl rfl (any_of HT_.out (by kernel_rfl)) (fun _ _ _ h => h) (Or.inl ⟨by rfl, ?_⟩) ?_ ?_
                  rotate_left
                  · intro w'
                    go_simp
                    with_reducible rfl
                  rotate_left
                  · simp only [Act.put, List.setIfInBounds_toArray, List.set_cons_zero, List.set_cons_succ, i64_w, i32_w]
                    rfl
                  refine pure_ (i := 7) (N := some 24) (v := ?_) (a' := ?_) #[true, true, true, true, false, true, true, true, false, false, false, false, false, false, false, false, false, false, false, false, false, false, false, false, false, false, false, false, false, false, false, false, false, false, false, false, false, false] rfl rfl (any_of HT_.out (by kernel_rfl)) (fun _ _ _ h => h) (Or.inl ⟨by rfl, ?_⟩) ?_ ?_
                  rotate_left
                  · intro w'
                    go_simp
                    with_reducible rfl
                  rotate_left
                  · simp only [Act.put, List.setIfInBounds_toArray, List.set_cons_zero, List.set_cons_succ, i64_w, i32_w]
                    rfl
                  refine pure_ (i := 8) (N := some 25) (v := ?_) (a' := ?_) #[true, true, true, true, false, true, true, true, true, false, false, false, false, false, false, false, false, false, false, false, false, false, false, false, false, false, false, false, false, false, false, false, false, false, false, false, false, false] rfl rfl (any_of HT_.out (by kernel_rfl)) (fun _ _ _ h => h) (Or.inl ⟨by rfl, ?_⟩) ?_ ?_
                  rotate_left
                  · intro w'
                    go_simp
                    with_reducible rfl
                  rotate_left
                  · simp only [Act.put, List.setIfInBounds_toArray, List.set_cons_zero, List.set_cons_succ, i64_w, i32_w]
                    rfl
                  refine take_ (i := 4) (N := some 21) (v := ?_) (a' := ?_) #[true, true, true, true, true, true, true, true, true, false, false, false, false, false, false, false, false, false, false, false, false, false, false, false, false, false, false, false, false, false, false, false, false, false, false, false, false, false] rfl rfl (take_ofW HT_.out HW_.out (by kernel_rfl)) (fun _ _ _ h => h) (Or.inl ⟨by rfl, ?_⟩) hHeld ?_ ?_
                  rotate_left
                  · rintro w' ⟨s0, s1, s2, s3, s4, s5, s6, s7, s8, s9, s10, s11⟩
                    go_simp
                    with_reducible rfl
                  rotate_left
                  · simp only [Act.put, List.setIfInBounds_toArray, List.set_cons_zero, List.set_cons_succ, i64_w, i32_w]
                    rfl
                  refine take_ (i := 9) (N := some 26) (v := ?_) (a' := ?_) #[true, true, true, true, true, true, true, true, true, true, false, false, false, false, false, false, false, false, false, false, false, false, false, false, false, false, false, false, false, false, false, false, false, false, false, false, false, false] rfl rfl (take_ofW HT_.out HW_.out (by kernel_rfl)) (fun _ _ _ h => h) (Or.inl ⟨by rfl, ?_⟩) hHeld ?_ ?_
                  rotate_left
                  · rintro w' ⟨s0, s1, s2, s3, s4, s5, s6, s7, s8, s9, s10, s11⟩
                    go_simp
                    with_reducible rfl
                  rotate_left
                  · simp only [Act.put, List.setIfInBounds_toArray, List.set_cons_zero, List.set_cons_succ, i64_w, i32_w]
                    rfl
                  refine pure_ (i := 10) (N := some 27) (v := ?_) (a' := ?_) #[true, true, true, true, true, true, true, true, true, true, true, false, false, false, false, false, false, false, false, false, false, false, false, false, false, false, false, false, false, false, false, false, false, false, false, false, false, false] rfl rfl (any_of HT_.out (by kernel_rfl)) (fun _ _ _ h => h) (Or.inl ⟨by rfl, ?_⟩) ?_ ?_
                  rotate_left
                  · intro w'
                    go_simp
                    with_reducible rfl
                  rotate_left
                  · simp only [Act.put, List.setIfInBounds_toArray, List.set_cons_zero, List.set_cons_succ, i64_w, i32_w]
                    rfl
                  refine pure_ (i := 11) (N := some 28) (v := ?_) (a' := ?_) #[true, true, true, true, true, true, true, true, true, true, true, true, false, false, false, false, false, false, false, false, false, false, false, false, false, false, false, false, false, false, false, false, false, false, false, false, false, false] rfl rfl (any_of HT_.out (by kernel_rfl)) (fun _ _ _ h => h) (Or.inl ⟨by rfl, ?_⟩) ?_ ?_
                  rotate_left
                  · intro w'
                    go_simp
                    with_reducible rfl
                  rotate_left
                  · simp only [Act.put, List.setIfInBounds_toArray, List.set_cons_zero, List.set_cons_succ, i64_w, i32_w]
                    rfl
                  refine pure_ (i := 12) (N := some 29) (v := ?_) (a' := ?_) #[true, true, true, true, true, true, true, true, true, true, true, true, true, false, false, false, false, false, false, false, false, false, false, false, false, false, false, false, false, false, false, false, false, false, false, false, false, false] rfl rfl (any_of HT_.out (by kernel_rfl)) (fun _ _ _ h => h) (Or.inl ⟨by rfl, ?_⟩) ?_ ?_
                  rotate_left
                  · intro w'
                    go_simp
                    with_reducible rfl
                  rotate_left
                  · simp only [Act.put, List.setIfInBounds_toArray, List.set_cons_zero, List.set_cons_succ, i64_w, i32_w]
                    rfl
                  refine pure_ (i := 13) (N := some 30) (v := ?_) (a' := ?_) #[true, true, true, true, true, true, true, true, true, true, true, true, true, true, false, false, false, false, false, false, false, false, false, false, false, false, false, false, false, false, false, false, false, false, false, false, false, false] rfl rfl (any_of HT_.out (by kernel_rfl)) (fun _ _ _ h => h) (Or.inl ⟨by rfl, ?_⟩) ?_ ?_
                  rotate_left
                  · intro w'
                    go_simp
                    with_reducible rfl
                  rotate_left
                  · simp only [Act.put, List.setIfInBounds_toArray, List.set_cons_zero, List.set_cons_succ, i64_w, i32_w]
                    rfl
                  refine pure_ (i := 14) (N := some 31) (v := ?_) (a' := ?_) #[true, true, true, true, true, true, true, true, true, true, true, true, true, true, true, false, false, false, false, false, false, false, false, false, false, false, false, false, false, false, false, false, false, false, false, false, false, false] rfl rfl (any_of HT_.out (by kernel_rfl)) (fun _ _ _ h => h) (Or.inl ⟨by rfl, ?_⟩) ?_ ?_
                  rotate_left
                  · intro w'
                    go_simp
                    with_reducible rfl
                  rotate_left
                  · simp only [Act.put, List.setIfInBounds_toArray, List.set_cons_zero, List.set_cons_succ, i64_w, i32_w]
                    rfl
                  refine pure_ (i := 15) (N := some 32) (v := ?_) (a' := ?_) #[true, true, true, true, true, true, true, true, true, true, true, true, true, true, true, true, false, false, false, false, false, false, false, false, false, false, false, false, false, false, false, false, false, false, false, false, false, false] rfl rfl (any_of HT_.out (by kernel_rfl)) (fun _ _ _ h => h) (Or.inl ⟨by rfl, ?_⟩) ?_ ?_
                  rotate_left
                  · intro w'
                    go_simp
                    with_reducible rfl
                  rotate_left
                  · simp only [Act.put, List.setIfInBounds_toArray, List.set_cons_zero, List.set_cons_succ, i64_w, i32_w]
                    rfl
                  refine pure_ (i := 17) (N := some 34) (v := ?_) (a' := ?_) #[true, true, true, true, true, true, true, true, true, true, true, true, true, true, true, true, false, true, false, false, false, false, false, false, false, false, false, false, false, false, false, false, false, false, false, false, false, false] rfl rfl (any_of HT_.out (by kernel_rfl)) (fun _ _ _ h => h) (Or.inl ⟨by rfl, ?_⟩) ?_ ?_
                  rotate_left
                  · intro w'
                    go_simp
                    with_reducible rfl
                  rotate_left
                  · simp only [Act.put, List.setIfInBounds_toArray, List.set_cons_zero, List.set_cons_succ, i64_w, i32_w]
                    rfl
                  refine pure_ (i := 18) (N := some 35) (v := ?_) (a' := ?_) #[true, true, true, true, true, true, true, true, true, true, true, true, true, true, true, true, false, true, true, false, false, false, false, false, false, false, false, false, false, false, false, false, false, false, false, false, false, false] rfl rfl (any_of HT_.out (by kernel_rfl)) (fun _ _ _ h => h) (Or.inl ⟨by rfl, ?_⟩) ?_ ?_
                  rotate_left
                  · intro w'
                    go_simp
                    with_reducible rfl
                  rotate_left
                  · simp only [Act.put, List.setIfInBounds_toArray, List.set_cons_zero, List.set_cons_succ, i64_w, i32_w]
                    rfl
                  refine pure_ (i := 19) (N := some 36) (v := ?_) (a' := ?_) #[true, true, true, true, true, true, true, true, true, true, true, true, true, true, true, true, false, true, true, true, false, false, false, false, false, false, false, false, false, false, false, false, false, false, false, false, false, false] rfl rfl (any_of HT_.out (by kernel_rfl)) (fun _ _ _ h => h) (Or.inl ⟨by rfl, ?_⟩) ?_ ?_
                  rotate_left
                  · intro w'
                    go_simp
                    with_reducible rfl
                  rotate_left
                  · simp only [Act.put, List.setIfInBounds_toArray, List.set_cons_zero, List.set_cons_succ, i64_w, i32_w]
                    rfl
                  refine pure_ (i := 20) (N := some 37) (v := ?_) (a' := ?_) #[true, true, true, true, true, true, true, true, true, true, true, true, true, true, true, true, false, true, true, true, true, false, false, false, false, false, false, false, false, false, false, false, false, false, false, false, false, false] rfl rfl (any_of HT_.out (by kernel_rfl)) (fun _ _ _ h => h) (Or.inl ⟨by rfl, ?_⟩) ?_ ?_
                  rotate_left
                  · intro w'
                    go_simp
                    with_reducible rfl
                  rotate_left
                  · simp only [Act.put, List.setIfInBounds_toArray, List.set_cons_zero, List.set_cons_succ, i64_w, i32_w]
                    rfl
                  refine take_ (i := 16) (N := some 33) (v := ?_) (a' := ?_) #[true, true, true, true, true, true, true, true, true, true, true, true, true, true, true, true, true, true, true, true, true, false, false, false, false, false, false, false, false, false, false, false, false, false, false, false, false, false] rfl rfl (take_ofW HT_.out HW_.out (by kernel_rfl)) (fun _ _ _ h => h) (Or.inl ⟨by rfl, ?_⟩) hHeld ?_ ?_
                  rotate_left
                  · rintro w' ⟨s0, s1, s2, s3, s4, s5, s6, s7, s8, s9, s10, s11⟩
                    go_simp
                    with_reducible rfl
                  rotate_left
                  · simp only [Act.put, List.setIfInBounds_toArray, List.set_cons_zero, List.set_cons_succ, i64_w, i32_w]
                    rfl
                  refine take_ (i := 21) (N := some 38) (v := ?_) (a' := ?_) #[true, true, true, true, true, true, true, true, true, true, true, true, true, true, true, true, true, true, true, true, true, true, false, false, false, false, false, false, false, false, false, false, false, false, false, false, false, false] rfl rfl (take_ofW HT_.out HW_.out (by kernel_rfl)) (fun _ _ _ h => h) (Or.inl ⟨by rfl, ?_⟩) hHeld ?_ ?_
                  rotate_left
                  · rintro w' ⟨s0, s1, s2, s3, s4, s5, s6, s7, s8, s9, s10, s11⟩
                    go_simp
                    with_reducible rfl
                  rotate_left
                  · simp only [Act.put, List.setIfInBounds_toArray, List.set_cons_zero, List.set_cons_succ, i64_w, i32_w]
                    rfl
                  refine pure_ (i := 22) (N := some 39) (v := ?_) (a' := ?_) #[true, true, true, true, true, true, true, true, true, true, true, true, true, true, true, true, true, true, true, true, true, true, true, false, false, false, false, false, false, false, false, false, false, false, false, false, false, false] rfl rfl (any_of HT_.out (by kernel_rfl)) (fun _ _ _ h => h) (Or.inl ⟨by rfl, ?_⟩) ?_ ?_
                  rotate_left
                  · intro w'
                    go_simp
                    with_reducible rfl
                  rotate_left
                  · simp only [Act.put, List.setIfInBounds_toArray, List.set_cons_zero, List.set_cons_succ, i64_w, i32_w]
                    rfl
                  refine pure_ (i := 23) (N := some 40) (v := ?_) (a' := ?_) #[true, true, true, true, true, true, true, true, true, true, true, true, true, true, true, true, true, true, true, true, true, true, true, true, false, false, false, false, false, false, false, false, false, false, false, false, false, false] rfl rfl (any_of HT_.out (by kernel_rfl)) (fun _ _ _ h => h) (Or.inl ⟨by rfl, ?_⟩) ?_ ?_
                  rotate_left
                  · intro w'
                    go_simp
                    with_reducible rfl
                  rotate_left
                  · simp only [Act.put, List.setIfInBounds_toArray, List.set_cons_zero, List.set_cons_succ, i64_w, i32_w]
                    rfl
                  refine pure_ (i := 24) (N := some 41) (v := ?_) (a' := ?_) #[true, true, true, true, true, true, true, true, true, true, true, true, true, true, true, true, true, true, true, true, true, true, true, true, true, false, false, false, false, false, false, false, false, false, false, false, false, false] rfl rfl (any_of HT_.out (by kernel_rfl)) (fun _ _ _ h => h) (Or.inl ⟨by rfl, ?_⟩) ?_ ?_
                  rotate_left
                  · intro w'
                    go_simp
                    with_reducible rfl
                  rotate_left
                  · simp only [Act.put, List.setIfInBounds_toArray, List.set_cons_zero, List.set_cons_succ, i64_w, i32_w]
                    rfl
                  refine pure_ (i := 25) (N := some 42) (v := undef) (a' := ?_) #[true, true, true, true, true, true, true, true, true, true, true, true, true, true, true, true, true, true, true, true, true, true, true, true, true, true, false, false, false, false, false, false, false, false, false, false, false, false] rfl rfl (any_of HT_.out (by kernel_rfl)) (fun _ _ _ h => h) (Or.inr ⟨by rfl, rfl⟩) ?_ ?_
                  rotate_left
                  · simp only [Act.put, List.setIfInBounds_toArray, List.set_cons_zero, List.set_cons_succ, i64_w, i32_w]
                    rfl
                  refine pure_ (i := 26) (N := some 43) (v := undef) (a' := ?_) #[true, true, true, true, true, true, true, true, true, true, true, true, true, true, true, true, true, true, true, true, true, true, true, true, true, true, true, false, false, false, false, false, false, false, false, false, false, false] rfl rfl (any_of HT_.out (by kernel_rfl)) (fun _ _ _ h => h) (Or.inr ⟨by rfl, rfl⟩) ?_ ?_
                  rotate_left
                  · simp only [Act.put, List.setIfInBounds_toArray, List.set_cons_zero, List.set_cons_succ, i64_w, i32_w]
                    rfl
                  refine pure_ (i := 27) (N := some 44) (v := undef) (a' := ?_) #[true, true, true, true, true, true, true, true, true, true, true, true, true, true, true, true, true, true, true, true, true, true, true, true, true, true, true, true, false, false, false, false, false, false, false, false, false, false] rfl rfl (any_of HT_.out (by kernel_rfl)) (fun _ _ _ h => h) (Or.inr ⟨by rfl, rfl⟩) ?_ ?_
                  rotate_left
                  · simp only [Act.put, List.setIfInBounds_toArray, List.set_cons_zero, List.set_cons_succ, i64_w, i32_w]
                    rfl
                  refine pure_ (i := 28) (N := some 45) (v := undef) (a' := ?_) #[true, true, true, true, true, true, true, true, true, true, true, true, true, true, true, true, true, true, true, true, true, true, true, true, true, true, true, true, true, false, false, false, false, false, false, false, false, false] rfl rfl (any_of HT_.out (by kernel_rfl)) (fun _ _ _ h => h) (Or.inr ⟨by rfl, rfl⟩) ?_ ?_
                  rotate_left
                  · simp only [Act.put, List.setIfInBounds_toArray, List.set_cons_zero, List.set_cons_succ, i64_w, i32_w]
                    rfl
                  refine pure_ (i := 29) (N := some 46) (v := undef) (a' := ?_) #[true, true, true, true, true, true, true, true, true, true, true, true, true, true, true, true, true, true, true, true, true, true, true, true, true, true, true, true, true, true, false, false, false, false, false, false, false, false] rfl rfl (any_of HT_.out (by kernel_rfl)) (fun _ _ _ h => h) (Or.inr ⟨by rfl, rfl⟩) ?_ ?_
                  rotate_left
                  · simp only [Act.put, List.setIfInBounds_toArray, List.set_cons_zero, List.set_cons_succ, i64_w, i32_w]
                    rfl
                  refine pure_ (i := 30) (N := some 47) (v := undef) (a' := ?_) #[true, true, true, true, true, true, true, true, true, true, true, true, true, true, true, true, true, true, true, true, true, true, true, true, true, true, true, true, true, true, true, false, false, false, false, false, false, false] rfl rfl (any_of HT_.out (by kernel_rfl)) (fun _ _ _ h => h) (Or.inr ⟨by rfl, rfl⟩) ?_ ?_
                  rotate_left
                  · simp only [Act.put, List.setIfInBounds_toArray, List.set_cons_zero, List.set_cons_succ, i64_w, i32_w]
                    rfl
                  refine pure_ (i := 31) (N := some 48) (v := undef) (a' := ?_) #[true, true, true, true, true, true, true, true, true, true, true, true, true, true, true, true, true, true, true, true, true, true, true, true, true, true, true, true, true, true, true, true, false, false, false, false, false, false] rfl rfl (any_of HT_.out (by kernel_rfl)) (fun _ _ _ h => h) (Or.inr ⟨by rfl, rfl⟩) ?_ ?_
                  rotate_left
                  · simp only [Act.put, List.setIfInBounds_toArray, List.set_cons_zero, List.set_cons_succ, i64_w, i32_w]
                    rfl
                  refine pure_ (i := 32) (N := some 49) (v := undef) (a' := ?_) #[true, true, true, true, true, true, true, true, true, true, true, true, true, true, true, true, true, true, true, true, true, true, true, true, true, true, true, true, true, true, true, true, true, false, false, false, false, false] rfl rfl (any_of HT_.out (by kernel_rfl)) (fun _ _ _ h => h) (Or.inr ⟨by rfl, rfl⟩) ?_ ?_
                  rotate_left
                  · simp only [Act.put, List.setIfInBounds_toArray, List.set_cons_zero, List.set_cons_succ, i64_w, i32_w]
                    rfl
                  refine pure_ (i := 33) (N := some 50) (v := undef) (a' := ?_) #[true, true, true, true, true, true, true, true, true, true, true, true, true, true, true, true, true, true, true, true, true, true, true, true, true, true, true, true, true, true, true, true, true, true, false, false, false, false] rfl rfl (any_of HT_.out (by kernel_rfl)) (fun _ _ _ h => h) (Or.inr ⟨by rfl, rfl⟩) ?_ ?_
                  rotate_left
                  · simp only [Act.put, List.setIfInBounds_toArray, List.set_cons_zero, List.set_cons_succ, i64_w, i32_w]
                    rfl
                  refine pure_ (i := 34) (N := some 51) (v := undef) (a' := ?_) #[true, true, true, true, true, true, true, true, true, true, true, true, true, true, true, true, true, true, true, true, true, true, true, true, true, true, true, true, true, true, true, true, true, true, true, false, false, false] rfl rfl (any_of HT_.out (by kernel_rfl)) (fun _ _ _ h => h) (Or.inr ⟨by rfl, rfl⟩) ?_ ?_
                  rotate_left
                  · simp only [Act.put, List.setIfInBounds_toArray, List.set_cons_zero, List.set_cons_succ, i64_w, i32_w]
                    rfl
                  refine pure_ (i := 35) (N := some 52) (v := undef) (a' := ?_) #[true, true, true, true, true, true, true, true, true, true, true, true, true, true, true, true, true, true, true, true, true, true, true, true, true, true, true, true, true, true, true, true, true, true, true, true, false, false] rfl rfl (any_of HT_.out (by kernel_rfl)) (fun _ _ _ h => h) (Or.inr ⟨by rfl, rfl⟩) ?_ ?_
                  rotate_left
                  · simp only [Act.put, List.setIfInBounds_toArray, List.set_cons_zero, List.set_cons_succ, i64_w, i32_w]
                    rfl
                  refine pure_ (i := 36) (N := some 53) (v := undef) (a' := ?_) #[true, true, true, true, true, true, true, true, true, true, true, true, true, true, true, true, true, true, true, true, true, true, true, true, true, true, true, true, true, true, true, true, true, true, true, true, true, false] rfl rfl (any_of HT_.out (by kernel_rfl)) (fun _ _ _ h => h) (Or.inr ⟨by rfl, rfl⟩) ?_ ?_
                  rotate_left
                  · simp only [Act.put, List.setIfInBounds_toArray, List.set_cons_zero, List.set_cons_succ, i64_w, i32_w]
                    rfl
                  refine pure_ (i := 37) (N := some 54) (v := ?_) (a' := ?_) #[true, true, true, true, true, true, true, true, true, true, true, true, true, true, true, true, true, true, true, true, true, true, true, true, true, true, true, true, true, true, true, true, true, true, true, true, true, true] rfl rfl (any_of HT_.out (by kernel_rfl)) (fun _ _ _ h => h) (Or.inl ⟨by rfl, ?_⟩) ?_ ?_
                  rotate_left
                  · intro w'
                    go_simp
                    with_reducible rfl
                  rotate_left
                  · simp only [Act.put, List.setIfInBounds_toArray, List.set_cons_zero, List.set_cons_succ, i64_w, i32_w]
                    rfl
                  refine done_ (done_of HT_.out (by kernel_rfl)) ?_
                  try go_wp2
                  go_ret
                  exact ⟨by first | rfl | (simp [errW_none, errW_some] <;> rfl) | (simp [*, errW_none, errW_some] <;> rfl), by repeat (first | (with_reducible first | exact HB.out | apply below_alloc | apply pw_below_drewN | apply below_drew1) | exact HB.out)⟩
              · rw [if_neg c7] at H
                have c7b0 : (((rd_T82 l0 x5_1).f0) == ((rd_T82 l1 x5_1).f0)) = false := beq_eq_false_iff_ne.mpr c7
                have c7b1 : (((rd_T82 l0 x5_1).f0) != ((rd_T82 l1 x5_1).f0)) = true := bne_iff_ne.mpr c7
                obtain rfl := Option.some.inj H
                try go_wp2
                have n0_ := Aside0.mk (below_drew1 HB.out)
                clear HB
                have HB := n0_
                clear n0_
                have p779 : 0 ≤ (x5_1 : Int) := of_decide_eq_true (by first | (with_reducible assumption) | assumption)
                have q779 : x5_1 < (l0.length : Int) := of_decide_eq_true (by first | (with_reducible assumption) | assumption)
                obtain ⟨ad779, A779_1, c779_1, e779, hx779_0, hx779_1, hx779_2, hl779_1, hi779_1⟩ := at_T82 HR0.out x5_1 p779 q779
                have hw779_2 := hx779_2
                have hw779_1 := hx779_1
                have hw779_0 := hx779_0
                cases e779
                replace hx779_0 := (HB.out.cell (World.block_lt_of_cell? w _ hx779_0)).trans hx779_0
                replace hx779_1 := (HB.out.cell (World.block_lt_of_cell? w _ hx779_1)).trans hx779_1
                replace hx779_2 := (HB.out.cell (World.block_lt_of_cell? w _ hx779_2)).trans hx779_2
                have HR779_1 := Aside0.mk hi779_1
                have HC779_1 := Aside0.mk hl779_1
                clear hi779_1 hl779_1
                replace p779 := eq_true p779
                replace q779 := eq_true q779
                have p780 : 0 ≤ (x5_1 : Int) := of_decide_eq_true (by first | (with_reducible assumption) | assumption)
                have q780 : x5_1 < (l1.length : Int) := of_decide_eq_true (by first | (with_reducible assumption) | assumption)
                obtain ⟨ad780, A780_1, c780_1, e780, hx780_0, hx780_1, hx780_2, hl780_1, hi780_1⟩ := at_T82 HR1.out x5_1 p780 q780
                have hw780_2 := hx780_2
                have hw780_1 := hx780_1
                have hw780_0 := hx780_0
                cases e780
                replace hx780_0 := (HB.out.cell (World.block_lt_of_cell? w _ hx780_0)).trans hx780_0
                replace hx780_1 := (HB.out.cell (World.block_lt_of_cell? w _ hx780_1)).trans hx780_1
                replace hx780_2 := (HB.out.cell (World.block_lt_of_cell? w _ hx780_2)).trans hx780_2
                have HR780_1 := Aside0.mk hi780_1
                have HC780_1 := Aside0.mk hl780_1
                clear hi780_1 hl780_1
                replace p780 := eq_true p780
                replace q780 := eq_true q780
                refine start_ (n := 38) (S := fun w' => w'.cell? (ad779.add ((x5_1).toNat * 3)) = some (.int .i64 ((rd_T82 l0 x5_1).f0)) ∧ w'.cell? ⟨(ad779.add ((x5_1).toNat * 3)).block, (ad779.add ((x5_1).toNat * 3)).off + 1, none⟩ = some (.slice A779_1 ((rd_T82 l0 x5_1).f1).length c779_1) ∧ w'.cell? ⟨(ad779.add ((x5_1).toNat * 3)).block, (ad779.add ((x5_1).toNat * 3)).off + 2, none⟩ = some (.string ((rd_T82 l0 x5_1).f2)) ∧ w'.cell? (ad780.add ((x5_1).toNat * 3)) = some (.int .i64 ((rd_T82 l1 x5_1).f0)) ∧ w'.cell? ⟨(ad780.add ((x5_1).toNat * 3)).block, (ad780.add ((x5_1).toNat * 3)).off + 1, none⟩ = some (.slice A780_1 ((rd_T82 l1 x5_1).f1).length c780_1) ∧ w'.cell? ⟨(ad780.add ((x5_1).toNat * 3)).block, (ad780.add ((x5_1).toNat * 3)).off + 2, none⟩ = some (.string ((rd_T82 l1 x5_1).f2))) (ds := []) #[false, false, false, false, false, false, false, false, false, false, false, false, false, false, false, false, false, false, false, false, false, false, false, false, false, false, false, false, false, false, false, false, false, false, false, false, false, false] (by kernel_rfl) rfl rfl ⟨((HB.out.cell (World.block_lt_of_cell? w _ hw779_0)).trans hw779_0), ((HB.out.cell (World.block_lt_of_cell? w _ hw779_1)).trans hw779_1), ((HB.out.cell (World.block_lt_of_cell? w _ hw779_2)).trans hw779_2), ((HB.out.cell (World.block_lt_of_cell? w _ hw780_0)).trans hw780_0), ((HB.out.cell (World.block_lt_of_cell? w _ hw780_1)).trans hw780_1), ((HB.out.cell (World.block_lt_of_cell? w _ hw780_2)).trans hw780_2)⟩ (fun hHeld => ?_); refine with_tabW tumbrelref05_Same.tab6 tumbrelref05_Same.bits6 (fun HT_ HW_ => ?_)
                generalize wr.drew = w14 at HB HR779_1 HR780_1 hx779_0 hx779_1 hx779_2 hx780_0 hx780_1 hx780_2 hHeld ⊢
                refine pure_ (i := 0) (N := some 17) (v := ?_) (a' := ?_) #[true, false, false, false, false, false, false, false, false, false, false, false, false, false, false, false, false, false, false, false, false, false, false, false, false, false, false, false, false, false, false, false, false, false, false, false, false, false] rfl rfl (any_of HT_.out (by kernel_rfl)) (fun _ _ _ h => h) (Or.inl ⟨by rfl, ?_⟩) ?_ ?_
                rotate_left
                · intro w'
                  go_simp
                  with_reducible rfl
                rotate_left
                · simp only [Act.put, List.setIfInBounds_toArray, List.set_cons_zero, List.set_cons_succ, i64_w, i32_w]
                  rfl
                refine pure_ (i := 1) (N := some 18) (v := ?_) (a' := ?_) #[true, true, false, false, false, false, false, false, false, false, false, false, false, false, false, false, false, false, false, false, false, false, false, false, false, false, false, false, false, false, false, false, false, false, false, false, false, false] rfl rfl (any_of HT_.out (by kernel_rfl)) (fun _ _ _ h => h) (Or.inl ⟨by rfl, ?_⟩) ?_ ?_
                rotate_left
                · intro w'
                  go_simp
                  with_reducible rfl
                rotate_left
                · simp only [Act.put, List.setIfInBounds_toArray, List.set_cons_zero, List.set_cons_succ, i64_w, i32_w]
                  rfl
                refine pure_ (i := 2) (N := some 19) (v := ?_) (a' := ?_) #[true, true, true, false, false, false, false, false, false, false, false, false, false, false, false, false, false, false, false, false, false, false, false, false, false, false, false, false, false, false, false, false, false, false, false, false, false, false] rfl rfl (any_of HT_.out (by kernel_rfl)) (fun _ _ _ h => h) (Or.inl ⟨by rfl, ?_⟩) ?_ ?_
                rotate_left
                · intro w'
                  go_simp
                  with_reducible rfl
                rotate_left
                · simp only [Act.put, List.setIfInBounds_toArray, List.set_cons_zero, List.set_cons_succ, i64_w, i32_w]
                  rfl
                refine pure_ (i := 3) (N := some 20) (v := ?_) (a' := ?_) #[true, true, true, true, false, false, false, false, false, false, false, false, false, false, false, false, false, false, false, false, false, false, false, false, false, false, false, false, false, false, false, false, false, false, false, false, false, false] rfl rfl (any_of HT_.out (by kernel_rfl)) (fun _ _ _ h => h) (Or.inl ⟨by rfl, ?_⟩) ?_ ?_
                rotate_left
                · intro w'
                  go_simp
                  with_reducible rfl
                rotate_left
                · simp only [Act.put, List.setIfInBounds_toArray, List.set_cons_zero, List.set_cons_succ, i64_w, i32_w]
                  rfl
                refine pure_ (i := 5) (N := some 22) (v := ?_) (a' := ?_) #[true, true, true, true, false, true, false, false, false, false, false, false, false, false, false, false, false, false, false, false, false, false, false, false, false, false, false, false, false, false, false, false, false, false, false, false, false, false] rfl rfl (any_of HT_.out (by kernel_rfl)) (fun _ _ _ h => h) (Or.inl ⟨by rfl, ?_⟩) ?_ ?_
                rotate_left
                · intro w'
                  go_simp
                  with_reducible rfl
                rotate_left
                · simp only [Act.put, List.setIfInBounds_toArray, List.set_cons_zero, List.set_cons_succ, i64_w, i32_w]
                  rfl
                refine pure_ (i := 6) (N := some 23) (v := ?_) (a' := ?_) #[true, true, true, true, false, true, true, false, false, false, false, false, false, false, false, false, false, false, false, false, false, false, false, false, false, false, false, false, false, false, false, false, false, false, false, false, false, false] rfl rfl (any_of HT_.out (by kernel_rfl)) (fun _ _ _ h => h) (Or.inl ⟨by rfl, ?_⟩) ?_ ?_
                rotate_left
                · intro w'
                  go_simp
                  with_reducible rfl
                rotate_left
                · simp only [Act.put, List.setIfInBounds_toArray, List.set_cons_zero, List.set_cons_succ, i64_w, i32_w]
                  rfl
                refine pure_ (i := 7) (N := some 24) (v := ?_) (a' := ?_) #[true, true, true, true, false, true, true, true, false, false, false, false, false, false, false, false, false, false, false, false, false, false, false, false, false, false, false, false, false, false, false, false, false, false, false, false, false, false] rfl rfl (any_of HT_.out (by kernel_rfl)) (fun _ _ _ h => h) (Or.inl ⟨by rfl, ?_⟩) ?_ ?_
                rotate_left
                · intro w'
                  go_simp
                  with_reducible rfl
                rotate_left
                · simp only [Act.put, List.setIfInBounds_toArray, List.set_cons_zero, List.set_cons_succ, i64_w, i32_w]
                  rfl
                refine pure_ (i := 8) (N := some 25) (v := ?_) (a' := ?_) #[true, true, true, true, false, true, true, true, true, false, false, false, false, false, false, false, false, false, false, false, false, false, false, false, false, false, false, false, false, false, false, false, false, false, false, false, false, false] rfl rfl (any_of HT_.out (by kernel_rfl)) (fun _ _ _ h => h) (Or.inl ⟨by rfl, ?_⟩) ?_ ?_
                rotate_left
                · intro w'
                  go_simp
                  with_reducible rfl
                rotate_left
                · simp only [Act.put, List.setIfInBounds_toArray, List.set_cons_zero, List.set_cons_succ, i64_w, i32_w]
                  rfl
                refine take_ (i := 4) (N := some 21) (v := ?_) (a' := ?_) #[true, true, true, true, true, true, true, true, true, false, false, false, false, false, false, false, false, false, false, false, false, false, false, false, false, false, false, false, false, false, false, false, false, false, false, false, false, false] rfl rfl (take_ofW HT_.out HW_.out (by kernel_rfl)) (fun _ _ _ h => h) (Or.inl ⟨by rfl, ?_⟩) hHeld ?_ ?_
                rotate_left
                · rintro w' ⟨s0, s1, s2, s3, s4, s5⟩
                  go_simp
                  with_reducible rfl
                rotate_left
                · simp only [Act.put, List.setIfInBounds_toArray, List.set_cons_zero, List.set_cons_succ, i64_w, i32_w]
                  rfl
                refine take_ (i := 9) (N := some 26) (v := ?_) (a' := ?_) #[true, true, true, true, true, true, true, true, true, true, false, false, false, false, false, false, false, false, false, false, false, false, false, false, false, false, false, false, false, false, false, false, false, false, false, false, false, false] rfl rfl (take_ofW HT_.out HW_.out (by kernel_rfl)) (fun _ _ _ h => h) (Or.inl ⟨by rfl, ?_⟩) hHeld ?_ ?_
                rotate_left
                · rintro w' ⟨s0, s1, s2, s3, s4, s5⟩
                  go_simp
                  with_reducible rfl
                rotate_left
                · simp only [Act.put, List.setIfInBounds_toArray, List.set_cons_zero, List.set_cons_succ, i64_w, i32_w]
                  rfl
                refine pure_ (i := 10) (N := some 27) (v := ?_) (a' := ?_) #[true, true, true, true, true, true, true, true, true, true, true, false, false, false, false, false, false, false, false, false, false, false, false, false, false, false, false, false, false, false, false, false, false, false, false, false, false, false] rfl rfl (any_of HT_.out (by kernel_rfl)) (fun _ _ _ h => h) (Or.inl ⟨by rfl, ?_⟩) ?_ ?_
                rotate_left
                · intro w'
                  go_simp
                  with_reducible rfl
                rotate_left
                · simp only [Act.put, List.setIfInBounds_toArray, List.set_cons_zero, List.set_cons_succ, i64_w, i32_w]
                  rfl
                refine pure_ (i := 11) (N := some 28) (v := ?_) (a' := ?_) #[true, true, true, true, true, true, true, true, true, true, true, true, false, false, false, false, false, false, false, false, false, false, false, false, false, false, false, false, false, false, false, false, false, false, false, false, false, false] rfl rfl (any_of HT_.out (by kernel_rfl)) (fun _ _ _ h => h) (Or.inl ⟨by rfl, ?_⟩) ?_ ?_
                rotate_left
                · intro w'
                  go_simp
                  with_reducible rfl
                rotate_left
                · simp only [Act.put, List.setIfInBounds_toArray, List.set_cons_zero, List.set_cons_succ, i64_w, i32_w]
                  rfl
                refine pure_ (i := 12) (N := some 29) (v := undef) (a' := ?_) #[true, true, true, true, true, true, true, true, true, true, true, true, true, false, false, false, false, false, false, false, false, false, false, false, false, false, false, false, false, false, false, false, false, false, false, false, false, false] rfl rfl (any_of HT_.out (by kernel_rfl)) (fun _ _ _ h => h) (Or.inr ⟨by rfl, rfl⟩) ?_ ?_
                rotate_left
                · simp only [Act.put, List.setIfInBounds_toArray, List.set_cons_zero, List.set_cons_succ, i64_w, i32_w]
                  rfl
                refine pure_ (i := 13) (N := some 30) (v := undef) (a' := ?_) #[true, true, true, true, true, true, true, true, true, true, true, true, true, true, false, false, false, false, false, false, false, false, false, false, false, false, false, false, false, false, false, false, false, false, false, false, false, false] rfl rfl (any_of HT_.out (by kernel_rfl)) (fun _ _ _ h => h) (Or.inr ⟨by rfl, rfl⟩) ?_ ?_
                rotate_left
                · simp only [Act.put, List.setIfInBounds_toArray, List.set_cons_zero, List.set_cons_succ, i64_w, i32_w]
                  rfl
                refine pure_ (i := 14) (N := some 31) (v := undef) (a' := ?_) #[true, true, true, true, true, true, true, true, true, true, true, true, true, true, true, false, false, false, false, false, false, false, false, false, false, false, false, false, false, false, false, false, false, false, false, false, false, false] rfl rfl (any_of HT_.out (by kernel_rfl)) (fun _ _ _ h => h) (Or.inr ⟨by rfl, rfl⟩) ?_ ?_
                rotate_left
                · simp only [Act.put, List.setIfInBounds_toArray, List.set_cons_zero, List.set_cons_succ, i64_w, i32_w]
                  rfl
                refine pure_ (i := 15) (N := some 32) (v := undef) (a' := ?_) #[true, true, true, true, true, true, true, true, true, true, true, true, true, true, true, true, false, false, false, false, false, false, false, false, false, false, false, false, false, false, false, false, false, false, false, false, false, false] rfl rfl (any_of HT_.out (by kernel_rfl)) (fun _ _ _ h => h) (Or.inr ⟨by rfl, rfl⟩) ?_ ?_
                rotate_left
                · simp only [Act.put, List.setIfInBounds_toArray, List.set_cons_zero, List.set_cons_succ, i64_w, i32_w]
                  rfl
                refine pure_ (i := 16) (N := some 33) (v := undef) (a' := ?_) #[true, true, true, true, true, true, true, true, true, true, true, true, true, true, true, true, true, false, false, false, false, false, false, false, false, false, false, false, false, false, false, false, false, false, false, false, false, false] rfl rfl (any_of HT_.out (by kernel_rfl)) (fun _ _ _ h => h) (Or.inr ⟨by rfl, rfl⟩) ?_ ?_
                rotate_left
                · simp only [Act.put, List.setIfInBounds_toArray, List.set_cons_zero, List.set_cons_succ, i64_w, i32_w]
                  rfl
                refine pure_ (i := 17) (N := some 34) (v := undef) (a' := ?_) #[true, true, true, true, true, true, true, true, true, true, true, true, true, true, true, true, true, true, false, false, false, false, false, false, false, false, false, false, false, false, false, false, false, false, false, false, false, false] rfl rfl (any_of HT_.out (by kernel_rfl)) (fun _ _ _ h => h) (Or.inr ⟨by rfl, rfl⟩) ?_ ?_
                rotate_left
                · simp only [Act.put, List.setIfInBounds_toArray, List.set_cons_zero, List.set_cons_succ, i64_w, i32_w]
                  rfl
                refine pure_ (i := 18) (N := some 35) (v := undef) (a' := ?_) #[true, true, true, true, true, true, true, true, true, true, true, true, true, true, true, true, true, true, true, false, false, false, false, false, false, false, false, false, false, false, false, false, false, false, false, false, false, false] rfl rfl (any_of HT_.out (by kernel_rfl)) (fun _ _ _ h => h) (Or.inr ⟨by rfl, rfl⟩) ?_ ?_
                rotate_left
                · simp only [Act.put, List.setIfInBounds_toArray, List.set_cons_zero, List.set_cons_succ, i64_w, i32_w]
                  rfl
                refine pure_ (i := 19) (N := some 36) (v := undef) (a' := ?_) #[true, true, true, true, true, true, true, true, true, true, true, true, true, true, true, true, true, true, true, true, false, false, false, false, false, false, false, false, false, false, false, false, false, false, false, false, false, false] rfl rfl (any_of HT_.out (by kernel_rfl)) (fun _ _ _ h => h) (Or.inr ⟨by rfl, rfl⟩) ?_ ?_
                rotate_left
                · simp only [Act.put, List.setIfInBounds_toArray, List.set_cons_zero, List.set_cons_succ, i64_w, i32_w]
                  rfl
                refine pure_ (i := 20) (N := some 37) (v := undef) (a' := ?_) #[true, true, true, true, true, true, true, true, true, true, true, true, true, true, true, true, true, true, true, true, true, false, false, false, false, false, false, false, false, false, false, false, false, false, false, false, false, false] rfl rfl (any_of HT_.out (by kernel_rfl)) (fun _ _ _ h => h) (Or.inr ⟨by rfl, rfl⟩) ?_ ?_
                rotate_left
                · simp only [Act.put, List.setIfInBounds_toArray, List.set_cons_zero, List.set_cons_succ, i64_w, i32_w]
                  rfl
                refine pure_ (i := 21) (N := some 38) (v := undef) (a' := ?_) #[true, true, true, true, true, true, true, true, true, true, true, true, true, true, true, true, true, true, true, true, true, true, false, false, false, false, false, false, false, false, false, false, false, false, false, false, false, false] rfl rfl (any_of HT_.out (by kernel_rfl)) (fun _ _ _ h => h) (Or.inr ⟨by rfl, rfl⟩) ?_ ?_
                rotate_left
                · simp only [Act.put, List.setIfInBounds_toArray, List.set_cons_zero, List.set_cons_succ, i64_w, i32_w]
                  rfl
                refine pure_ (i := 22) (N := some 39) (v := undef) (a' := ?_) #[true, true, true, true, true, true, true, true, true, true, true, true, true, true, true, true, true, true, true, true, true, true, true, false, false, false, false, false, false, false, false, false, false, false, false, false, false, false] rfl rfl (any_of HT_.out (by kernel_rfl)) (fun _ _ _ h => h) (Or.inr ⟨by rfl, rfl⟩) ?_ ?_
                rotate_left
                · simp only [Act.put, List.setIfInBounds_toArray, List.set_cons_zero, List.set_cons_succ, i64_w, i32_w]
                  rfl
                refine pure_ (i := 23) (N := some 40) (v := ?_) (a' := ?_) #[true, true, true, true, true, true, true, true, true, true, true, true, true, true, true, true, true, true, true, true, true, true, true, true, false, false, false, false, false, false, false, false, false, false, false, false, false, false] rfl rfl (any_of HT_.out (by kernel_rfl)) (fun _ _ _ h => h) (Or.inl ⟨by rfl, ?_⟩) ?_ ?_
                rotate_left
                · intro w'
                  go_simp
                  with_reducible rfl
                rotate_left
                · simp only [Act.put, List.setIfInBounds_toArray, List.set_cons_zero, List.set_cons_succ, i64_w, i32_w]
                  rfl
                refine pure_ (i := 24) (N := some 41) (v := ?_) (a' := ?_) #[true, true, true, true, true, true, true, true, true, true, true, true, true, true, true, true, true, true, true, true, true, true, true, true, true, false, false, false, false, false, false, false, false, false, false, false, false, false] rfl rfl (any_of HT_.out (by kernel_rfl)) (fun _ _ _ h => h) (Or.inl ⟨by rfl, ?_⟩) ?_ ?_
                rotate_left
                · intro w'
                  go_simp
                  with_reducible rfl
                rotate_left
                · simp only [Act.put, List.setIfInBounds_toArray, List.set_cons_zero, List.set_cons_succ, i64_w, i32_w]
                  rfl
                refine pure_ (i := 25) (N := some 42) (v := undef) (a' := ?_) #[true, true, true, true, true, true, true, true, true, true, true, true, true, true, true, true, true, true, true, true, true, true, true, true, true, true, false, false, false, false, false, false, false, false, false, false, false, false] rfl rfl (any_of HT_.out (by kernel_rfl)) (fun _ _ _ h => h) (Or.inr ⟨by rfl, rfl⟩) ?_ ?_
                rotate_left
                · simp only [Act.put, List.setIfInBounds_toArray, List.set_cons_zero, List.set_cons_succ, i64_w, i32_w]
                  rfl
                refine pure_ (i := 26) (N := some 43) (v := undef) (a' := ?_) #[true, true, true, true, true, true, true, true, true, true, true, true, true, true, true, true, true, true, true, true, true, true, true, true, true, true, true, false, false, false, false, false, false, false, false, false, false, false] rfl rfl (any_of HT_.out (by kernel_rfl)) (fun _ _ _ h => h) (Or.inr ⟨by rfl, rfl⟩) ?_ ?_
                rotate_left
                · simp only [Act.put, List.setIfInBounds_toArray, List.set_cons_zero, List.set_cons_succ, i64_w, i32_w]
                  rfl
                refine pure_ (i := 27) (N := some 44) (v := undef) (a' := ?_) #[true, true, true, true, true, true, true, true, true, true, true, true, true, true, true, true, true, true, true, true, true, true, true, true, true, true, true, true, false, false, false, false, false, false, false, false, false, false] rfl rfl (any_of HT_.out (by kernel_rfl)) (fun _ _ _ h => h) (Or.inr ⟨by rfl, rfl⟩) ?_ ?_
                rotate_left
                · simp only [Act.put, List.setIfInBounds_toArray, List.set_cons_zero, List.set_cons_succ, i64_w, i32_w]
                  rfl
                refine pure_ (i := 28) (N := some 45) (v := undef) (a' := ?_) #[true, true, true, true, true, true, true, true, true, true, true, true, true, true, true, true, true, true, true, true, true, true, true, true, true, true, true, true, true, false, false, false, false, false, false, false, false, false] rfl rfl (any_of HT_.out (by kernel_rfl)) (fun _ _ _ h => h) (Or.inr ⟨by rfl, rfl⟩) ?_ ?_
                rotate_left
                · simp only [Act.put, List.setIfInBounds_toArray, List.set_cons_zero, List.set_cons_succ, i64_w, i32_w]
                  rfl
                refine pure_ (i := 29) (N := some 46) (v := undef) (a' := ?_) #[true, true, true, true, true, true, true, true, true, true, true, true, true, true, true, true, true, true, true, true, true, true, true, true, true, true, true, true, true, true, false, false, false, false, false, false, false, false] rfl rfl (any_of HT_.out (by kernel_rfl)) (fun _ _ _ h => h) (Or.inr ⟨by rfl, rfl⟩) ?_ ?_
                rotate_left
                · simp only [Act.put, List.setIfInBounds_toArray, List.set_cons_zero, List.set_cons_succ, i64_w, i32_w]
                  rfl
                refine pure_ (i := 30) (N := some 47) (v := undef) (a' := ?_) #[true, true, true, true, true, true, true, true, true, true, true, true, true, true, true, true, true, true, true, true, true, true, true, true, true, true, true, true, true, true, true, false, false, false, false, false, false, false] rfl rfl (any_of HT_.out (by kernel_rfl)) (fun _ _ _ h => h) (Or.inr ⟨by rfl, rfl⟩) ?_ ?_
                rotate_left
                · simp only [Act.put, List.setIfInBounds_toArray, List.set_cons_zero, List.set_cons_succ, i64_w, i32_w]
                  rfl
                refine pure_ (i := 31) (N := some 48) (v := undef) (a' := ?_) #[true, true, true, true, true, true, true, true, true, true, true, true, true, true, true, true, true, true, true, true, true, true, true, true, true, true, true, true, true, true, true, true, false, false, false, false, false, false] rfl rfl (any_of HT_.out (by kernel_rfl)) (fun _ _ _ h => h) (Or.inr ⟨by rfl, rfl⟩) ?_ ?_
                rotate_left
                · simp only [Act.put, List.setIfInBounds_toArray, List.set_cons_zero, List.set_cons_succ, i64_w, i32_w]
                  rfl
                refine pure_ (i := 32) (N := some 49) (v := undef) (a' := ?_) #[true, true, true, true, true, true, true, true, true, true, true, true, true, true, true, true, true, true, true, true, true, true, true, true, true, true, true, true, true, true, true, true, true, false, false, false, false, false] rfl rfl (any_of HT_.out (by kernel_rfl)) (fun _ _ _ h => h) (Or.inr ⟨by rfl, rfl⟩) ?_ ?_
                rotate_left
                · simp only [Act.put, List.setIfInBounds_toArray, List.set_cons_zero, List.set_cons_succ, i64_w, i32_w]
                  rfl
                refine pure_ (i := 33) (N := some 50) (v := undef) (a' := ?_) #[true, true, true, true, true, true, true, true, true, true, true, true, true, true, true, true, true, true, true, true, true, true, true, true, true, true, true, true, true, true, true, true, true, true, false, false, false, false] rfl rfl (any_of HT_.out (by kernel_rfl)) (fun _ _ _ h => h) (Or.inr ⟨by rfl, rfl⟩) ?_ ?_
                rotate_left
                · simp only [Act.put, List.setIfInBounds_toArray, List.set_cons_zero, List.set_cons_succ, i64_w, i32_w]
                  rfl
                refine pure_ (i := 34) (N := some 51) (v := undef) (a' := ?_) #[true, true, true, true, true, true, true, true, true, true, true, true, true, true, true, true, true, true, true, true, true, true, true, true, true, true, true, true, true, true, true, true, true, true, true, false, false, false] rfl rfl (any_of HT_.out (by kernel_rfl)) (fun _ _ _ h => h) (Or.inr ⟨by rfl, rfl⟩) ?_ ?_
                rotate_left
                · simp only [Act.put, List.setIfInBounds_toArray, List.set_cons_zero, List.set_cons_succ, i64_w, i32_w]
                  rfl
                refine pure_ (i := 35) (N := some 52) (v := undef) (a' := ?_) #[true, true, true, true, true, true, true, true, true, true, true, true, true, true, true, true, true, true, true, true, true, true, true, true, true, true, true, true, true, true, true, true, true, true, true, true, false, false] rfl rfl (any_of HT_.out (by kernel_rfl)) (fun _ _ _ h => h) (Or.inr ⟨by rfl, rfl⟩) ?_ ?_
                rotate_left
                · simp only [Act.put, List.setIfInBounds_toArray, List.set_cons_zero, List.set_cons_succ, i64_w, i32_w]
                  rfl
                refine pure_ (i := 36) (N := some 53) (v := undef) (a' := ?_) #[true, true, true, true, true, true, true, true, true, true, true, true, true, true, true, true, true, true, true, true, true, true, true, true, true, true, true, true, true, true, true, true, true, true, true, true, true, false] rfl rfl (any_of HT_.out (by kernel_rfl)) (fun _ _ _ h => h) (Or.inr ⟨by rfl, rfl⟩) ?_ ?_
                rotate_left
                · simp only [Act.put, List.setIfInBounds_toArray, List.set_cons_zero, List.set_cons_succ, i64_w, i32_w]
                  rfl
                refine pure_ (i := 37) (N := some 54) (v := ?_) (a' := ?_) #[true, true, true, true, true, true, true, true, true, true, true, true, true, true, true, true, true, true, true, true, true, true, true, true, true, true, true, true, true, true, true, true, true, true, true, true, true, true] rfl rfl (any_of HT_.out (by kernel_rfl)) (fun _ _ _ h => h) (Or.inl ⟨by rfl, ?_⟩) ?_ ?_
                rotate_left
                · intro w'
                  go_simp
                  with_reducible rfl
                rotate_left
                · simp only [Act.put, List.setIfInBounds_toArray, List.set_cons_zero, List.set_cons_succ, i64_w, i32_w]
                  rfl
                refine done_ (done_of HT_.out (by kernel_rfl)) ?_
                try go_wp2
                go_ret
                exact ⟨by first | rfl | (simp [errW_none, errW_some] <;> rfl) | (simp [*, errW_none, errW_some] <;> rfl), by repeat (first | (with_reducible first | exact HB.out | apply below_alloc | apply pw_below_drewN | apply below_drew1) | exact HB.out)⟩
            · rw [if_neg c6] at H
              exact absurd H (by simp)
          · rw [if_neg c5] at H
            exact absurd H (by simp)
        · rw [if_neg c4] at H
          have c4b0 : decide (x5_1 < (l0.length : Int)) = false := decide_eq_false c4
          clear c4
          obtain rfl := Option.some.inj H
          go_wp2
          go_ret
          exact ⟨by first | rfl | (simp [errW_none, errW_some] <;> rfl) | (simp [*, errW_none, errW_some] <;> rfl), by repeat (first | (with_reducible first | exact HB.out | apply below_alloc | apply pw_below_drewN | apply below_drew1) | exact HB.out)⟩
  · rw [if_neg c3] at H
    have c3b0 : ((l0.length : Int) == (l1.length : Int)) = false := beq_eq_false_iff_ne.mpr c3
    have c3b1 : ((l0.length : Int) != (l1.length : Int)) = true := bne_iff_ne.mpr c3
    have c3b2 : (l0.length == l1.length) = false := by first | simpa using c3 | (simp at c3 ⊢; omega)
    obtain rfl := Option.some.inj H
    go_enter Try.func62, Try.ntmps62
    go_wp2
    go_ret
    exact ⟨by first | rfl | (simp [errW_none, errW_some] <;> rfl) | (simp [*, errW_none, errW_some] <;> rfl), by repeat (first | (with_reducible first | exact HB.out | apply below_alloc | apply pw_below_drewN | apply below_drew1) | exact HB.out)⟩
end Go.Proofs.Ytojepleodijdeaa.B
