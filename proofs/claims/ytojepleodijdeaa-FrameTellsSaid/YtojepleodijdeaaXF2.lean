/- Own texts and printed ones, those declarations alone that this claim needs, laid into one text by a program of this session. -/
import Derived.Test.YtojepleodijdeaaXF1
import Derived.Lib.LazyBuf
import Derived.Lib.AppendZeros
namespace Go.Proofs.Ytojepleodijdeaa.B
open Go.RowKit Go.Proofs.YtojepleodijdeaaW.PrintWords Go.Proofs.YtojepleodijdeaaW.PrintLast Go.Proofs.YtojepleodijdeaaW.PrintMore
attribute [local go_sem] max2_int min2_int max_two min_two max_three min_three max_four min_four   -- for this text's walks alone
set_option linter.unusedVariables false
set_option linter.unusedSimpArgs false
def frame_low_int.f (a0 : Int) : Option (Int × Int) := some ((Go.bits .and .i64 a0 255) % 256, a0 / 256)
set_option maxHeartbeats 8000000 in
set_option maxRecDepth 100000 in
theorem frame_low_int.calls (a0 : Int) (r1 : Int) (r2 : Int) (w : World) (h : frame_low_int.f a0 = some (r1, r2)) :
    Calls Try.prog 75 #[.int .i64 a0] w fun e w' => e = .returned (.tuple #[.int .u8 r1, .int .i64 r2]) ∧ Drawn0 w w' := by
  have H : (some ((Go.bits .and .i64 a0 255) % 256, a0 / 256)) = some (r1, r2) := h
  clear h
  simp only [Option.some.injEq, Prod.mk.injEq] at H
  obtain ⟨rfl, rfl⟩ := H
  go_enter Try.func75, Try.ntmps75
  go_wp2
  go_ret2
  exact ⟨by first | rfl | (simp; done) | (simp [*]; done), by repeat (first | exact Drawn0.refl _ | apply Drawn0.step)⟩
def bytes_Equal.f (l0 : List Int) (l1 : List Int) : Option (Bool) := some ((strOfNums l0).toList == (strOfNums l1).toList)
set_option maxHeartbeats 8000000 in
set_option maxRecDepth 100000 in
theorem bytes_Equal.calls (A0 : Option Addr) (c0 : Nat) (l0 : List Int) (A1 : Option Addr) (c1 : Nat) (l1 : List Int) (r : Bool) (w : World) (hr0 : Kd.C (Kd.int .u8) w A0 l0.length l0) (hc0 : l0.length ≤ c0) (hr1 : Kd.C (Kd.int .u8) w A1 l1.length l1) (hc1 : l1.length ≤ c1) (h : bytes_Equal.f l0 l1 = some r) :
    Calls Try.prog 76 #[.slice A0 l0.length c0, .slice A1 l1.length c1] w fun e w' => e = .returned (.bool r) ∧ Drawn0 w w' := by
  have HR0 := Aside0.mk hr0
  have HC0 := Aside0.mk hc0
  clear hr0 hc0
  have HR1 := Aside0.mk hr1
  have HC1 := Aside0.mk hc1
  clear hr1 hc1
  have H : (some ((strOfNums l0).toList == (strOfNums l1).toList)) = some r := h
  clear h
  obtain rfl := Option.some.inj H
  have hcv3 := Kd.C_string (P := Try.prog) (A := A0) (c := c0) Try.underlying23 Try.underlying5 Try.underlying9 HR0.out
  have hcv4 := Kd.C_string (P := Try.prog) (A := A1) (c := c1) Try.underlying23 Try.underlying5 Try.underlying9 HR1.out
  go_enter Try.func76, Try.ntmps76
  go_wp2
  go_ret
  exact ⟨by first | rfl | (simp; done) | (simp [*]; done), by repeat (first | exact Drawn0.refl _ | apply Drawn0.step)⟩
def frame_Same.f (a0_0 : Int) (l0_1 : List Int) (a1_0 : Int) (l1_1 : List Int) : Option (Bool) := if a0_0 = a1_0 then ((bytes_Equal.f l0_1 l1_1).bind fun t454 => (some t454)) else (some false)
set_option maxHeartbeats 8000000 in
set_option maxRecDepth 100000 in
theorem frame_Same.calls (a0_0 : Int) (A0_1 : Option Addr) (c0_1 : Nat) (l0_1 : List Int) (a1_0 : Int) (A1_1 : Option Addr) (c1_1 : Nat) (l1_1 : List Int) (r : Bool) (w : World) (hr0_1 : Kd.C (Kd.int .u8) w A0_1 l0_1.length l0_1) (hc0_1 : l0_1.length ≤ c0_1) (hr1_1 : Kd.C (Kd.int .u8) w A1_1 l1_1.length l1_1) (hc1_1 : l1_1.length ≤ c1_1) (h : frame_Same.f a0_0 l0_1 a1_0 l1_1 = some r) :
    Calls Try.prog 53 #[.agg #[.int .u8 a0_0, .slice A0_1 l0_1.length c0_1], .agg #[.int .u8 a1_0, .slice A1_1 l1_1.length c1_1]] w fun e w' => e = .returned (.bool r) ∧ Below w.heap.size w w' := by
  have hu56 := Try.underlying56
  have HR0_1 := Aside0.mk hr0_1
  have HC0_1 := Aside0.mk hc0_1
  clear hr0_1 hc0_1
  have HR1_1 := Aside0.mk hr1_1
  have HC1_1 := Aside0.mk hc1_1
  clear hr1_1 hc1_1
  have HB := Aside0.mk (Below.refl w.heap.size w)
  have H : (if a0_0 = a1_0 then ((bytes_Equal.f l0_1 l1_1).bind fun t454 => (some t454)) else (some false)) = some r := h
  clear h
  by_cases c3 : a0_0 = a1_0
  · rw [if_pos c3] at H
    have c3b0 : (a0_0 == a1_0) = true := beq_iff_eq.mpr c3
    have c3b1 : (a0_0 != a1_0) = false := bne_eq_false_iff_eq.mpr c3
    clear c3
    replace H := Option.bind_eq_some_iff.mp H
    obtain ⟨t454, A40, H⟩ := H
    replace H : (some t454) = some r := H
    have A4 := Aside0.mk A40
    clear A40
    obtain rfl := Option.some.inj H
    go_enter Try.func53, Try.ntmps53
    go_wp2_with (first | ((with_reducible refine gate_dst (N := 2) rfl ?_); refine box_event ?hg (N := 2) ?hd (cs := #[.int .u8 a0_0, .slice A0_1 l0_1.length c0_1]) (t := 56) ?hr ?_; (case hd => rfl); (case hg => rfl); (case hr => first | (go_simp; done) | (go_simp; rfl) | (go_simp; simp only [IntKind.wrap_u8]; rw [Int.tmod_eq_emod_of_nonneg (Int.natCast_nonneg _), Int.emod_emod])); intro gb452 hg w5 hbox hb; have n0_ := Aside0.mk (below_step (by repeat (first | (with_reducible first | exact HB.out | apply below_alloc | apply pw_below_drewN | apply below_drew1) | exact HB.out)) hb); have n1_ := Aside0.mk (hbox); have n2_ := Aside0.mk ((by rw [hg]; exact (below_size (by repeat (first | (with_reducible first | exact HB.out | apply below_alloc | apply pw_below_drewN | apply below_drew1) | exact HB.out))) : w.heap.size ≤ gb452)); have n3_ := Aside0.mk ((by rw [hg]; exact (below_size (by repeat (first | (with_reducible first | exact HB.out | apply below_alloc | apply pw_below_drewN | apply below_drew1) | exact HB.out))) : w.heap.size ≤ gb452)); clear HB; have HB := n0_; have BK452 := n1_; have GW452 := n2_; have GE452 := n3_; clear n0_ n1_ n2_ n3_; clear hb hbox hg) | ((with_reducible refine gate_dst (N := 3) rfl ?_); refine box_event ?hg (N := 3) ?hd (cs := #[.int .u8 a1_0, .slice A1_1 l1_1.length c1_1]) (t := 56) ?hr ?_; (case hd => rfl); (case hg => rfl); (case hr => first | (go_simp; done) | (go_simp; rfl) | (go_simp; simp only [IntKind.wrap_u8]; rw [Int.tmod_eq_emod_of_nonneg (Int.natCast_nonneg _), Int.emod_emod])); intro gb453 hg w6 hbox hb; have n0_ := Aside0.mk (blk_below (g := gb452) (o := .cells #[.int .u8 a0_0, .slice A0_1 l0_1.length c0_1] 56 (0, 0)) (by (with_reducible repeat (first | refine blk_drewN ?_ _ | refine blk_drew ?_ | refine blk_alloc ?_ _)); exact BK452.out) hb); have n1_ := Aside0.mk (below_step (by repeat (first | (with_reducible first | exact HB.out | apply below_alloc | apply pw_below_drewN | apply below_drew1 | refine below_set ?_ GE452.out) | exact HB.out)) hb); have n2_ := Aside0.mk (hbox); have n3_ := Aside0.mk ((by rw [hg]; exact (below_size (by repeat (first | (with_reducible first | exact HB.out | apply below_alloc | apply pw_below_drewN | apply below_drew1 | refine below_set ?_ GE452.out) | exact HB.out))) : w.heap.size ≤ gb453)); have n4_ := Aside0.mk ((by rw [hg]; exact (below_size (by repeat (first | (with_reducible first | exact HB.out | apply below_alloc | apply pw_below_drewN | apply below_drew1 | refine below_set ?_ GE452.out) | exact HB.out))) : w.heap.size ≤ gb453)); have n5_ := Aside0.mk ((by rw [hg]; exact Nat.ne_of_lt (blk_lt (g := gb452) (o := .cells #[.int .u8 a0_0, .slice A0_1 l0_1.length c0_1] 56 (0, 0)) (by (with_reducible repeat (first | refine blk_drewN ?_ _ | refine blk_drew ?_ | refine blk_alloc ?_ _)); exact BK452.out)) : gb452 ≠ gb453)); have n6_ := Aside0.mk ((by rw [hg]; exact Nat.ne_of_gt (blk_lt (g := gb452) (o := .cells #[.int .u8 a0_0, .slice A0_1 l0_1.length c0_1] 56 (0, 0)) (by (with_reducible repeat (first | refine blk_drewN ?_ _ | refine blk_drew ?_ | refine blk_alloc ?_ _)); exact BK452.out)) : gb453 ≠ gb452)); clear BK452; clear HB; have BK452 := n0_; have HB := n1_; have BK453 := n2_; have GW453 := n3_; have GE453 := n4_; have NB452_453 := n5_; have NB453_452 := n6_; clear n0_ n1_ n2_ n3_ n4_ n5_ n6_; clear hb hbox hg; have hnb7 := NB452_453.out; have hnc7 := NB453_452.out; have hcz8_0 : w6.cell? ⟨gb452, 0, none⟩ = some (.int .u8 a0_0) := (blk_cell BK452.out 0).trans rfl; have hcz8_1 : w6.cell? ⟨gb452, 1, none⟩ = some (.slice A0_1 l0_1.length c0_1) := (blk_cell BK452.out 1).trans rfl; have hfz8_0 := blk_frozen BK452.out 0; have hfz8_1 := blk_frozen BK452.out 1; have hcz9_0 : w6.cell? ⟨gb453, 0, none⟩ = some (.int .u8 a1_0) := (blk_cell BK453.out 0).trans rfl; have hcz9_1 : w6.cell? ⟨gb453, 1, none⟩ = some (.slice A1_1 l1_1.length c1_1) := (blk_cell BK453.out 1).trans rfl; have hfz9_0 := blk_frozen BK453.out 0; have hfz9_1 := blk_frozen BK453.out 1) | (go_at_call 76; (with_reducible refine (bytes_Equal.calls _ _ l0_1 _ _ l1_1 t454 _ ?side1 ?side2 ?side3 ?side4 A4.out).mono ?_); (case side1 => repeat (first | exact (Kd.C_below HR0_1.out HB.out) | (with_reducible refine Kd.C_alloc ?_ _) | (with_reducible refine Kd.C_drewN ?_ _) | (with_reducible refine Kd.C_drew ?_))); (case side2 => exact HC0_1.out); (case side3 => repeat (first | exact (Kd.C_below HR1_1.out HB.out) | (with_reducible refine Kd.C_alloc ?_ _) | (with_reducible refine Kd.C_drewN ?_ _) | (with_reducible refine Kd.C_drew ?_))); (case side4 => exact HC1_1.out); rintro e w' ⟨rfl, ⟨nd, rfl⟩⟩))
    go_ret
    exact ⟨by first | rfl | (simp [errW_none, errW_some] <;> rfl) | (simp [*, errW_none, errW_some] <;> rfl), by repeat (first | (with_reducible first | exact HB.out | apply below_alloc | apply pw_below_drewN | apply below_drew1 | refine below_set ?_ GE452.out | refine below_set ?_ GE453.out) | exact HB.out)⟩
  · rw [if_neg c3] at H
    have c3b0 : (a0_0 == a1_0) = false := beq_eq_false_iff_ne.mpr c3
    have c3b1 : (a0_0 != a1_0) = true := bne_iff_ne.mpr c3
    obtain rfl := Option.some.inj H
    go_enter Try.func53, Try.ntmps53
    go_wp2_with (first | ((with_reducible refine gate_dst (N := 2) rfl ?_); refine box_event ?hg (N := 2) ?hd (cs := #[.int .u8 a0_0, .slice A0_1 l0_1.length c0_1]) (t := 56) ?hr ?_; (case hd => rfl); (case hg => rfl); (case hr => first | (go_simp; done) | (go_simp; rfl) | (go_simp; simp only [IntKind.wrap_u8]; rw [Int.tmod_eq_emod_of_nonneg (Int.natCast_nonneg _), Int.emod_emod])); intro gb452 hg w10 hbox hb; have n0_ := Aside0.mk (below_step (by repeat (first | (with_reducible first | exact HB.out | apply below_alloc | apply pw_below_drewN | apply below_drew1) | exact HB.out)) hb); have n1_ := Aside0.mk (hbox); have n2_ := Aside0.mk ((by rw [hg]; exact (below_size (by repeat (first | (with_reducible first | exact HB.out | apply below_alloc | apply pw_below_drewN | apply below_drew1) | exact HB.out))) : w.heap.size ≤ gb452)); have n3_ := Aside0.mk ((by rw [hg]; exact (below_size (by repeat (first | (with_reducible first | exact HB.out | apply below_alloc | apply pw_below_drewN | apply below_drew1) | exact HB.out))) : w.heap.size ≤ gb452)); clear HB; have HB := n0_; have BK452 := n1_; have GW452 := n2_; have GE452 := n3_; clear n0_ n1_ n2_ n3_; clear hb hbox hg) | ((with_reducible refine gate_dst (N := 3) rfl ?_); refine box_event ?hg (N := 3) ?hd (cs := #[.int .u8 a1_0, .slice A1_1 l1_1.length c1_1]) (t := 56) ?hr ?_; (case hd => rfl); (case hg => rfl); (case hr => first | (go_simp; done) | (go_simp; rfl) | (go_simp; simp only [IntKind.wrap_u8]; rw [Int.tmod_eq_emod_of_nonneg (Int.natCast_nonneg _), Int.emod_emod])); intro gb453 hg w11 hbox hb; have n0_ := Aside0.mk (blk_below (g := gb452) (o := .cells #[.int .u8 a0_0, .slice A0_1 l0_1.length c0_1] 56 (0, 0)) (by (with_reducible repeat (first | refine blk_drewN ?_ _ | refine blk_drew ?_ | refine blk_alloc ?_ _)); exact BK452.out) hb); have n1_ := Aside0.mk (below_step (by repeat (first | (with_reducible first | exact HB.out | apply below_alloc | apply pw_below_drewN | apply below_drew1 | refine below_set ?_ GE452.out) | exact HB.out)) hb); have n2_ := Aside0.mk (hbox); have n3_ := Aside0.mk ((by rw [hg]; exact (below_size (by repeat (first | (with_reducible first | exact HB.out | apply below_alloc | apply pw_below_drewN | apply below_drew1 | refine below_set ?_ GE452.out) | exact HB.out))) : w.heap.size ≤ gb453)); have n4_ := Aside0.mk ((by rw [hg]; exact (below_size (by repeat (first | (with_reducible first | exact HB.out | apply below_alloc | apply pw_below_drewN | apply below_drew1 | refine below_set ?_ GE452.out) | exact HB.out))) : w.heap.size ≤ gb453)); have n5_ := Aside0.mk ((by rw [hg]; exact Nat.ne_of_lt (blk_lt (g := gb452) (o := .cells #[.int .u8 a0_0, .slice A0_1 l0_1.length c0_1] 56 (0, 0)) (by (with_reducible repeat (first | refine blk_drewN ?_ _ | refine blk_drew ?_ | refine blk_alloc ?_ _)); exact BK452.out)) : gb452 ≠ gb453)); have n6_ := Aside0.mk ((by rw [hg]; exact Nat.ne_of_gt (blk_lt (g := gb452) (o := .cells #[.int .u8 a0_0, .slice A0_1 l0_1.length c0_1] 56 (0, 0)) (by (with_reducible repeat (first | refine blk_drewN ?_ _ | refine blk_drew ?_ | refine blk_alloc ?_ _)); exact BK452.out)) : gb453 ≠ gb452)); clear BK452; clear HB; have BK452 := n0_; have HB := n1_; have BK453 := n2_; have GW453 := n3_; have GE453 := n4_; have NB452_453 := n5_; have NB453_452 := n6_; clear n0_ n1_ n2_ n3_ n4_ n5_ n6_; clear hb hbox hg; have hnb12 := NB452_453.out; have hnc12 := NB453_452.out; have hcz13_0 : w11.cell? ⟨gb452, 0, none⟩ = some (.int .u8 a0_0) := (blk_cell BK452.out 0).trans rfl; have hcz13_1 : w11.cell? ⟨gb452, 1, none⟩ = some (.slice A0_1 l0_1.length c0_1) := (blk_cell BK452.out 1).trans rfl; have hfz13_0 := blk_frozen BK452.out 0; have hfz13_1 := blk_frozen BK452.out 1; have hcz14_0 : w11.cell? ⟨gb453, 0, none⟩ = some (.int .u8 a1_0) := (blk_cell BK453.out 0).trans rfl; have hcz14_1 : w11.cell? ⟨gb453, 1, none⟩ = some (.slice A1_1 l1_1.length c1_1) := (blk_cell BK453.out 1).trans rfl; have hfz14_0 := blk_frozen BK453.out 0; have hfz14_1 := blk_frozen BK453.out 1))
    go_ret
    exact ⟨by first | rfl | (simp [errW_none, errW_some] <;> rfl) | (simp [*, errW_none, errW_some] <;> rfl), by repeat (first | (with_reducible first | exact HB.out | apply below_alloc | apply pw_below_drewN | apply below_drew1 | refine below_set ?_ GE452.out | refine below_set ?_ GE453.out) | exact HB.out)⟩
def tumbrelref04_Bytes.f (k : Nat) (a0_0 : Int) (l0_1 : List Int) : Option (List Int × Int) := if (l0_1.length : Int) > 400 then (some (([] : List Int), 4)) else ((tumbrelref01_Put.f k (([a0_0, (l0_1.length : Int) % 256, (wrap64 ((l0_1.length : Int) / 256)) % 256] : List Int))).bind fun t459 => ((tumbrelref01_Put.f k l0_1).bind fun t462 => (if t459.length + t462.length < 140737488355328 then (some ((t459 ++ t462), 0)) else (none))))
def tumbrelref04_Bytes.T4 : Bool × List (List Nat × List Nat) := (true, [([], []), ([0], [0]), ([], []), ([2], [2]), ([3], [3]), ([], []), ([5], [5]), ([6], [6]), ([1, 4, 7], [1, 4, 7]), ([8], [8]), ([], []), ([10], [10]), ([11, 9], [11]), ([9, 12, 12], [9, 12]), ([13, 13, 0, 1, 2, 3, 4, 5, 6, 7, 8, 9, 10, 11, 12, 13], [13]), ([14, 0, 1, 2, 3, 4, 5, 6, 7, 8, 9, 10, 11, 12, 13, 14], [])])
def tumbrelref04_Bytes.B4 : List Nat := [0, 1, 0, 4, 12, 0, 32, 96, 255, 511, 0, 1024, 4095, 8191, 16383, 32767]
theorem tumbrelref04_Bytes.tab4 : rtab .any (opsOf Try.f46 4) = tumbrelref04_Bytes.T4 := by kernel_rfl
theorem tumbrelref04_Bytes.bits4 : waitsOk tumbrelref04_Bytes.T4.2 tumbrelref04_Bytes.B4 = true := by kernel_rfl
set_option maxHeartbeats 8000000 in
set_option maxRecDepth 100000 in
theorem tumbrelref04_Bytes.calls (k : Nat) (a0_0 : Int) (A0_1 : Option Addr) (c0_1 : Nat) (l0_1 : List Int) (r1 : List Int) (r2 : Int) (w : World) (hr0_1 : Kd.C (Kd.int .u8) w A0_1 l0_1.length l0_1) (hc0_1 : l0_1.length ≤ c0_1) (h : tumbrelref04_Bytes.f k a0_0 l0_1 = some (r1, r2)) :
    Calls Try.prog 46 #[.agg #[.int .u8 a0_0, .slice A0_1 l0_1.length c0_1]] w fun e w' => ∃ v0_ : Value, e = .returned (.tuple #[v0_, .int .i64 r2]) ∧ Kd.R (Kd.int .u8) 5 w' w.heap.size (fun _ => True) v0_ r1 ∧ Below w.heap.size w w' := by
  have hu60 := Try.underlying60
  have HR0_1 := Aside0.mk hr0_1
  have HC0_1 := Aside0.mk hc0_1
  clear hr0_1 hc0_1
  have HB := Aside0.mk (Below.refl w.heap.size w)
  have H : (if (l0_1.length : Int) > 400 then (some (([] : List Int), 4)) else ((tumbrelref01_Put.f k (([a0_0, (l0_1.length : Int) % 256, (wrap64 ((l0_1.length : Int) / 256)) % 256] : List Int))).bind fun t459 => ((tumbrelref01_Put.f k l0_1).bind fun t462 => (if t459.length + t462.length < 140737488355328 then (some ((t459 ++ t462), 0)) else (none))))) = some (r1, r2) := h
  clear h
  by_cases c2 : (l0_1.length : Int) > 400
  · rw [if_pos c2] at H
    have c2b0 : decide (400 < (l0_1.length : Int)) = true := decide_eq_true c2
    have c2b1 : decide (400 < l0_1.length) = true := decide_eq_true (by omega)
    clear c2
    simp only [Option.some.injEq, Prod.mk.injEq] at H
    obtain ⟨rfl, rfl⟩ := H
    go_enter Try.func46, Try.ntmps46
    go_wp2_with (first | ((with_reducible refine gate_dst (N := 1) rfl ?_); refine box_event ?hg (N := 1) ?hd (cs := #[.int .u8 a0_0, .slice A0_1 l0_1.length c0_1]) (t := 60) ?hr ?_; (case hd => rfl); (case hg => rfl); (case hr => first | (go_simp; done) | (go_simp; rfl) | (go_simp; simp only [IntKind.wrap_u8]; rw [Int.tmod_eq_emod_of_nonneg (Int.natCast_nonneg _), Int.emod_emod])); intro gb455 hg w3 hbox hb; have n0_ := Aside0.mk (below_step (by repeat (first | (with_reducible first | exact HB.out | apply below_alloc | apply pw_below_drewN | apply below_drew1) | exact HB.out)) hb); have n1_ := Aside0.mk (hbox); have n2_ := Aside0.mk ((by rw [hg]; exact (below_size (by repeat (first | (with_reducible first | exact HB.out | apply below_alloc | apply pw_below_drewN | apply below_drew1) | exact HB.out))) : w.heap.size ≤ gb455)); have n3_ := Aside0.mk ((by rw [hg]; exact (below_size (by repeat (first | (with_reducible first | exact HB.out | apply below_alloc | apply pw_below_drewN | apply below_drew1) | exact HB.out))) : w.heap.size ≤ gb455)); clear HB; have HB := n0_; have BK455 := n1_; have GW455 := n2_; have GE455 := n3_; clear n0_ n1_ n2_ n3_; clear hb hbox hg; have hcz4_0 : w3.cell? ⟨gb455, 0, none⟩ = some (.int .u8 a0_0) := (blk_cell BK455.out 0).trans rfl; have hcz4_1 : w3.cell? ⟨gb455, 1, none⟩ = some (.slice A0_1 l0_1.length c0_1) := (blk_cell BK455.out 1).trans rfl; have hfz4_0 := blk_frozen BK455.out 0; have hfz4_1 := blk_frozen BK455.out 1))
    go_ret2
    exact ⟨_, by first | rfl | (simp [errW_none, errW_some] <;> rfl) | (simp [*, errW_none, errW_some] <;> rfl), by first | exact Kd.R_nil _ _ _ _ _ | exact Kd.N_nil _ _ _ _ _ | exact Kd.V_nil _ _ _ _ _ | exact Kd.Q_nil _ _ _ _ _ | exact Kd.S_nil _ _ _ _ _, by repeat (first | (with_reducible first | exact HB.out | apply below_alloc | apply pw_below_drewN | apply below_drew1 | refine below_set ?_ GE455.out) | exact HB.out)⟩
  · rw [if_neg c2] at H
    have c2b0 : decide (400 < (l0_1.length : Int)) = false := decide_eq_false c2
    have c2b1 : decide (400 < l0_1.length) = false := decide_eq_false (by omega)
    clear c2
    obtain ⟨y456, hy456⟩ : ∃ y_ : List Int, y_ = (([a0_0, (l0_1.length : Int) % 256, (wrap64 ((l0_1.length : Int) / 256)) % 256] : List Int)) := ⟨_, rfl⟩
    replace H : ((tumbrelref01_Put.f k y456).bind fun t459 => ((tumbrelref01_Put.f k l0_1).bind fun t462 => (if t459.length + t462.length < 140737488355328 then (some ((t459 ++ t462), 0)) else (none)))) = some (r1, r2) := by first | (rw [hy456]; with_reducible exact H) | (have H2_ := (Option.bind_some _ _).symm.trans H; rw [hy456]; with_reducible exact H2_) | (have H2_ := (Option.bind_some _ _).symm.trans H; with_reducible exact H2_) | with_reducible exact H | (rw [hy456]; exact H) | exact H
    have Ny456 := Aside0.mk hy456
    clear hy456
    replace H := Option.bind_eq_some_iff.mp H
    obtain ⟨t459, A50, H⟩ := H
    replace H : ((tumbrelref01_Put.f k l0_1).bind fun t462 => (if t459.length + t462.length < 140737488355328 then (some ((t459 ++ t462), 0)) else (none))) = some (r1, r2) := H
    have A5 := Aside0.mk A50
    clear A50
    replace H := Option.bind_eq_some_iff.mp H
    obtain ⟨t462, A60, H⟩ := H
    replace H : (if t459.length + t462.length < 140737488355328 then (some ((t459 ++ t462), 0)) else (none)) = some (r1, r2) := H
    have A6 := Aside0.mk A60
    clear A60
    by_cases c7 : t459.length + t462.length < 140737488355328
    · rw [if_pos c7] at H
      have LMc7 := Aside0.mk c7
      clear c7
      obtain ⟨y465, hy465⟩ : ∃ y_ : List Int, y_ = (t459 ++ t462) := ⟨_, rfl⟩
      replace H : (some (y465, 0)) = some (r1, r2) := by first | (rw [hy465]; with_reducible exact H) | (have H2_ := (Option.bind_some _ _).symm.trans H; rw [hy465]; with_reducible exact H2_) | (have H2_ := (Option.bind_some _ _).symm.trans H; with_reducible exact H2_) | with_reducible exact H | (rw [hy465]; exact H) | exact H
      have Ny465 := Aside0.mk hy465
      clear hy465
      simp only [Option.some.injEq, Prod.mk.injEq] at H
      obtain ⟨rfl, rfl⟩ := H
      go_enter Try.func46, Try.ntmps46
      try go_wp2_with (first | ((with_reducible refine gate_dst (N := 1) rfl ?_); refine box_event ?hg (N := 1) ?hd (cs := #[.int .u8 a0_0, .slice A0_1 l0_1.length c0_1]) (t := 60) ?hr ?_; (case hd => rfl); (case hg => rfl); (case hr => first | (go_simp; done) | (go_simp; rfl) | (go_simp; simp only [IntKind.wrap_u8]; rw [Int.tmod_eq_emod_of_nonneg (Int.natCast_nonneg _), Int.emod_emod])); intro gb455 hg w8 hbox hb; have n0_ := Aside0.mk (below_step (by repeat (first | (with_reducible first | exact HB.out | apply below_alloc | apply pw_below_drewN | apply below_drew1) | exact HB.out)) hb); have n1_ := Aside0.mk (hbox); have n2_ := Aside0.mk ((by rw [hg]; exact (below_size (by repeat (first | (with_reducible first | exact HB.out | apply below_alloc | apply pw_below_drewN | apply below_drew1) | exact HB.out))) : w.heap.size ≤ gb455)); have n3_ := Aside0.mk ((by rw [hg]; exact (below_size (by repeat (first | (with_reducible first | exact HB.out | apply below_alloc | apply pw_below_drewN | apply below_drew1) | exact HB.out))) : w.heap.size ≤ gb455)); clear HB; have HB := n0_; have BK455 := n1_; have GW455 := n2_; have GE455 := n3_; clear n0_ n1_ n2_ n3_; clear hb hbox hg; have hcz9_0 : w8.cell? ⟨gb455, 0, none⟩ = some (.int .u8 a0_0) := (blk_cell BK455.out 0).trans rfl; have hcz9_1 : w8.cell? ⟨gb455, 1, none⟩ = some (.slice A0_1 l0_1.length c0_1) := (blk_cell BK455.out 1).trans rfl; have hfz9_0 := blk_frozen BK455.out 0; have hfz9_1 := blk_frozen BK455.out 1))
      have n0_ := Aside0.mk (blk_drew BK455.out)
      have n1_ := Aside0.mk (below_drew1 HB.out)
      clear BK455
      clear HB
      have BK455 := n0_
      have HB := n1_
      clear n0_ n1_
      refine start_ (n := 16) (S := fun w' => w'.cell? ⟨gb455, 0, none⟩ = some (.int .u8 a0_0) ∧ w'.cell? ⟨gb455, 1, none⟩ = some (.slice A0_1 l0_1.length c0_1)) (ds := []) #[false, false, false, false, false, false, false, false, false, false, false, false, false, false, false, false] (by kernel_rfl) rfl rfl ⟨(blk_cell BK455.out 0).trans rfl, (blk_cell BK455.out 1).trans rfl⟩ (fun hHeld => ?_); refine with_tabW tumbrelref04_Bytes.tab4 tumbrelref04_Bytes.bits4 (fun HT_ HW_ => ?_)
      generalize w8.drew = w10 at BK455 HB hHeld ⊢
      refine pure_ (i := 0) (N := some 10) (v := ?_) (a' := ?_) #[true, false, false, false, false, false, false, false, false, false, false, false, false, false, false, false] rfl rfl (any_of HT_.out (by kernel_rfl)) (fun _ _ _ h => h) (Or.inl ⟨by rfl, ?_⟩) ?_ ?_
      rotate_left
      · intro w'
        go_simp
        with_reducible rfl
      rotate_left
      · simp only [Act.put, List.setIfInBounds_toArray, List.set_cons_zero, List.set_cons_succ, i64_w, i32_w]
        rfl
      refine pure_ (i := 2) (N := some 12) (v := ?_) (a' := ?_) #[true, false, true, false, false, false, false, false, false, false, false, false, false, false, false, false] rfl rfl (any_of HT_.out (by kernel_rfl)) (fun _ _ _ h => h) (Or.inl ⟨by rfl, ?_⟩) ?_ ?_
      rotate_left
      · intro w'
        go_simp
        with_reducible rfl
      rotate_left
      · simp only [Act.put, List.setIfInBounds_toArray, List.set_cons_zero, List.set_cons_succ, i64_w, i32_w]
        rfl
      refine pure_ (i := 3) (N := some 13) (v := ?_) (a' := ?_) #[true, false, true, true, false, false, false, false, false, false, false, false, false, false, false, false] rfl rfl (any_of HT_.out (by kernel_rfl)) (fun _ _ _ h => h) (Or.inl ⟨by rfl, ?_⟩) ?_ ?_
      rotate_left
      · intro w'
        go_simp
        with_reducible rfl
      rotate_left
      · simp only [Act.put, List.setIfInBounds_toArray, List.set_cons_zero, List.set_cons_succ, i64_w, i32_w]
        rfl
      refine pure_ (i := 4) (N := some 14) (v := ?_) (a' := ?_) #[true, false, true, true, true, false, false, false, false, false, false, false, false, false, false, false] rfl rfl (any_of HT_.out (by kernel_rfl)) (fun _ _ _ h => h) (Or.inl ⟨by rfl, ?_⟩) ?_ ?_
      rotate_left
      · intro w'
        go_simp
        with_reducible rfl
      rotate_left
      · simp only [Act.put, List.setIfInBounds_toArray, List.set_cons_zero, List.set_cons_succ, i64_w, i32_w]
        rfl
      refine pure_ (i := 5) (N := some 15) (v := ?_) (a' := ?_) #[true, false, true, true, true, true, false, false, false, false, false, false, false, false, false, false] rfl rfl (any_of HT_.out (by kernel_rfl)) (fun _ _ _ h => h) (Or.inl ⟨by rfl, ?_⟩) ?_ ?_
      rotate_left
      · intro w'
        go_simp
        with_reducible rfl
      rotate_left
      · simp only [Act.put, List.setIfInBounds_toArray, List.set_cons_zero, List.set_cons_succ, i64_w, i32_w]
        rfl
      refine pure_ (i := 6) (N := some 16) (v := ?_) (a' := ?_) #[true, false, true, true, true, true, true, false, false, false, false, false, false, false, false, false] rfl rfl (any_of HT_.out (by kernel_rfl)) (fun _ _ _ h => h) (Or.inl ⟨by rfl, ?_⟩) ?_ ?_
      rotate_left
      · intro w'
        go_simp
        with_reducible rfl
      rotate_left
      · simp only [Act.put, List.setIfInBounds_toArray, List.set_cons_zero, List.set_cons_succ, i64_w, i32_w]
        rfl
      refine pure_ (i := 7) (N := some 17) (v := ?_) (a' := ?_) #[true, false, true, true, true, true, true, true, false, false, false, false, false, false, false, false] rfl rfl (any_of HT_.out (by kernel_rfl)) (fun _ _ _ h => h) (Or.inl ⟨by rfl, ?_⟩) ?_ ?_
      rotate_left
      · intro w'
        go_simp
        with_reducible rfl
      rotate_left
      · simp only [Act.put, List.setIfInBounds_toArray, List.set_cons_zero, List.set_cons_succ, i64_w, i32_w]
        rfl
      refine pure_ (i := 10) (N := some 20) (v := ?_) (a' := ?_) #[true, false, true, true, true, true, true, true, false, false, true, false, false, false, false, false] rfl rfl (any_of HT_.out (by kernel_rfl)) (fun _ _ _ h => h) (Or.inl ⟨by rfl, ?_⟩) ?_ ?_
      rotate_left
      · intro w'
        go_simp
        with_reducible rfl
      rotate_left
      · simp only [Act.put, List.setIfInBounds_toArray, List.set_cons_zero, List.set_cons_succ, i64_w, i32_w]
        rfl
      refine take_ (i := 1) (N := some 11) (v := ?_) (a' := ?_) #[true, true, true, true, true, true, true, true, false, false, true, false, false, false, false, false] rfl rfl (take_ofW HT_.out HW_.out (by kernel_rfl)) (fun _ _ _ h => h) (Or.inl ⟨by rfl, ?_⟩) hHeld ?_ ?_
      rotate_left
      · rintro w' ⟨s0, s1⟩
        go_simp
        with_reducible rfl
      rotate_left
      · simp only [Act.put, List.setIfInBounds_toArray, List.set_cons_zero, List.set_cons_succ, i64_w, i32_w]
        rfl
      refine take_ (i := 11) (N := some 21) (v := ?_) (a' := ?_) #[true, true, true, true, true, true, true, true, false, false, true, true, false, false, false, false] rfl rfl (take_ofW HT_.out HW_.out (by kernel_rfl)) (fun _ _ _ h => h) (Or.inl ⟨by rfl, ?_⟩) hHeld ?_ ?_
      rotate_left
      · rintro w' ⟨s0, s1⟩
        go_simp
        with_reducible rfl
      rotate_left
      · simp only [Act.put, List.setIfInBounds_toArray, List.set_cons_zero, List.set_cons_succ, i64_w, i32_w]
        rfl
      refine one_ (i := 8) (N := some 18) #[true, true, true, true, true, true, true, true, true, false, true, true, false, false, false, false] rfl rfl (one_of HT_.out (by kernel_rfl)) (by decide) (fun K hK => ?_)
      refine Kd.R_lit_step (Kd.int .u8) _ 5 ?hg (N := 18) ?hd (xs := ([a0_0, (l0_1.length : Int) % 256, (wrap64 ((l0_1.length : Int) / 256)) % 256] : List Int)) (inner := [.int .u8 a0_0, .int .u8 ((l0_1.length : Int) % 256), .int .u8 ((wrap64 ((l0_1.length : Int) / 256)) % 256)]) (ok := fun _ => True) (okp := fun _ => True) ?hr ?hp (fun _ hk => hk) trivial (Below.refl _ _) (Nat.le_refl _) (by simp) ?_; (case hd => rfl); (case hg => rfl); (case hr => first | (go_simp; done) | (go_simp; rfl) | (go_simp; simp only [IntKind.wrap_u8]; rw [Int.tmod_eq_emod_of_nonneg (Int.natCast_nonneg _), Int.emod_emod])); (case hp => exact (Reps.one (show Kd.M (Kd.int .u8) _ _ _ a0_0 [.int .u8 a0_0] from rfl) (Reps.one (show Kd.M (Kd.int .u8) _ _ _ ((l0_1.length : Int) % 256) [.int .u8 ((l0_1.length : Int) % 256)] from rfl) (Reps.one (show Kd.M (Kd.int .u8) _ _ _ ((wrap64 ((l0_1.length : Int) / 256)) % 256) [.int .u8 ((wrap64 ((l0_1.length : Int) / 256)) % 256)] from rfl) (Reps.none _ _)))))
      intro v457 w11 ho12 hb hg_ hnew_
      clear hg_ hnew_
      (first | rw [← Ny456.out] at ho12 | (simp only [Int.reduceToNat] at ho12; rw [← Ny456.out] at ho12))
      have n0_ := Aside0.mk (Kd.R_lower ho12 (below_size (by repeat (first | (with_reducible first | exact HB.out | apply below_alloc | apply pw_below_drewN | apply below_drew1 | refine below_set ?_ GE455.out) | exact HB.out))))
      have n1_ := Aside0.mk (blk_below (g := gb455) (o := .cells #[.int .u8 a0_0, .slice A0_1 l0_1.length c0_1] 60 (0, 0)) (by (with_reducible repeat (first | refine blk_drewN ?_ _ | refine blk_drew ?_ | refine blk_alloc ?_ _)); exact BK455.out) hb)
      have n2_ := Aside0.mk (below_step (by repeat (first | (with_reducible first | exact HB.out | apply below_alloc | apply pw_below_drewN | apply below_drew1 | refine below_set ?_ GE455.out) | exact HB.out)) hb)
      clear BK455
      clear HB
      have HO458 := n0_
      have BK455 := n1_
      have HB := n2_
      clear n0_ n1_ n2_
      clear hb ho12
      obtain ⟨Ao13, co13, eo13⟩ := Kd.R_slice HO458.out
      (first | subst eo13 | (injection eo13 with f1_ f2_ f3_; have f4_ := f1_.symm; have f5_ := f3_.symm; clear f1_ f2_ f3_; subst f4_; subst f5_))
      refine hK.out _ _ ⟨(blk_cell BK455.out 0).trans rfl, (blk_cell BK455.out 1).trans rfl⟩ (fun hHeld => ?_)
      clear hK K
      refine norm_ (a' := ?_) ?_ ?_
      rotate_left
      · show Act.put _ (some 18) _ = _
        simp only [Act.put, List.setIfInBounds_toArray, List.set_cons_zero, List.set_cons_succ, i64_w, i32_w]
        rfl
      refine one_ (i := 9) (N := some 19) #[true, true, true, true, true, true, true, true, true, true, true, true, false, false, false, false] rfl rfl (one_of HT_.out (by kernel_rfl)) (by decide) (fun K hK => ?_)
      refine goes_ Try.func40 (by kernel_rfl) rfl #[.slice Ao13 y456.length co13] (by rfl) rfl rfl (by (try simp only [List.map_toArray, List.map_cons, List.map_nil]); first | done | rfl | (simp only [List.length_drop, List.length_take]; rfl)) ?_
      with_reducible refine (tumbrelref01_Put.calls k _ _ y456 t459 _ ?side1 ?side2 A5.out).mono ?_
      (case side1 => repeat (first | exact (Kd.R_reads' HO458.out).2.2 | (with_reducible refine Kd.C_alloc ?_ _) | (with_reducible refine Kd.C_drewN ?_ _) | (with_reducible refine Kd.C_drew ?_)))
      (case side2 => exact (Kd.R_reads' HO458.out).2.1)
      rintro e w14 ⟨v460, rfl, ho0, hb⟩
      refine ⟨_, rfl, ?_⟩
      have n0_ := Aside0.mk (Kd.R_elder' (by (with_reducible repeat (first | apply Kd.R_alloc | apply Kd.R_drewN | apply Kd.R_drew)); exact HO458.out) (Kd.R_base ho0) hb)
      have n1_ := Aside0.mk (Kd.R_lower (Kd.R_new' ho0 (Kd.R_lt (by (with_reducible repeat (first | apply Kd.R_alloc | apply Kd.R_drewN | apply Kd.R_drew)); exact HO458.out))) (below_size (by repeat (first | (with_reducible first | exact HB.out | apply below_alloc | apply pw_below_drewN | apply below_drew1 | refine below_set ?_ GE455.out) | exact HB.out))))
      have n2_ := Aside0.mk (blk_below (g := gb455) (o := .cells #[.int .u8 a0_0, .slice A0_1 l0_1.length c0_1] 60 (0, 0)) (by (with_reducible repeat (first | refine blk_drewN ?_ _ | refine blk_drew ?_ | refine blk_alloc ?_ _)); exact BK455.out) hb)
      have n3_ := Aside0.mk (below_step (by repeat (first | (with_reducible first | exact HB.out | apply below_alloc | apply pw_below_drewN | apply below_drew1 | refine below_set ?_ GE455.out) | exact HB.out)) hb)
      clear HO458
      clear BK455
      clear HB
      have HO458 := n0_
      have HO461 := n1_
      have BK455 := n2_
      have HB := n3_
      clear n0_ n1_ n2_ n3_
      (try clear hb)
      (try clear hb2)
      (try clear hk)
      (try clear hi)
      (try clear ho0)
      refine hK.out _ _ ⟨(blk_cell BK455.out 0).trans rfl, (blk_cell BK455.out 1).trans rfl⟩ (fun hHeld => ?_)
      clear hK K
      refine norm_ (a' := ?_) ?_ ?_
      rotate_left
      · show Act.put _ (some 19) _ = _
        simp only [Act.put, List.setIfInBounds_toArray, List.set_cons_zero, List.set_cons_succ, i64_w, i32_w]
        rfl
      refine one_ (i := 12) (N := some 22) #[true, true, true, true, true, true, true, true, true, true, true, true, true, false, false, false] rfl rfl (one_of HT_.out (by kernel_rfl)) (by decide) (fun K hK => ?_)
      refine goes_ Try.func40 (by kernel_rfl) rfl #[.slice A0_1 l0_1.length c0_1] (by rfl) rfl rfl (by (try simp only [List.map_toArray, List.map_cons, List.map_nil]); first | done | rfl | (simp only [List.length_drop, List.length_take]; rfl)) ?_
      with_reducible refine (tumbrelref01_Put.calls k _ _ l0_1 t462 _ ?side1 ?side2 A6.out).mono ?_
      (case side1 => repeat (first | exact (Kd.C_below HR0_1.out HB.out) | (with_reducible refine Kd.C_alloc ?_ _) | (with_reducible refine Kd.C_drewN ?_ _) | (with_reducible refine Kd.C_drew ?_)))
      (case side2 => exact HC0_1.out)
      rintro e w15 ⟨v463, rfl, ho0, hb⟩
      refine ⟨_, rfl, ?_⟩
      have n0_ := Aside0.mk (Kd.R_elder' (by (with_reducible repeat (first | apply Kd.R_alloc | apply Kd.R_drewN | apply Kd.R_drew)); exact HO458.out) (Kd.R_base ho0) hb)
      have n1_ := Aside0.mk (Kd.R_elder' (by (with_reducible repeat (first | apply Kd.R_alloc | apply Kd.R_drewN | apply Kd.R_drew)); exact HO461.out) (Kd.R_base ho0) hb)
      have n2_ := Aside0.mk (Kd.R_lower (Kd.R_new' (Kd.R_new' ho0 (Kd.R_lt (by (with_reducible repeat (first | apply Kd.R_alloc | apply Kd.R_drewN | apply Kd.R_drew)); exact HO458.out))) (Kd.R_lt (by (with_reducible repeat (first | apply Kd.R_alloc | apply Kd.R_drewN | apply Kd.R_drew)); exact HO461.out))) (below_size (by repeat (first | (with_reducible first | exact HB.out | apply below_alloc | apply pw_below_drewN | apply below_drew1 | refine below_set ?_ GE455.out) | exact HB.out))))
      have n3_ := Aside0.mk (blk_below (g := gb455) (o := .cells #[.int .u8 a0_0, .slice A0_1 l0_1.length c0_1] 60 (0, 0)) (by (with_reducible repeat (first | refine blk_drewN ?_ _ | refine blk_drew ?_ | refine blk_alloc ?_ _)); exact BK455.out) hb)
      have n4_ := Aside0.mk (below_step (by repeat (first | (with_reducible first | exact HB.out | apply below_alloc | apply pw_below_drewN | apply below_drew1 | refine below_set ?_ GE455.out) | exact HB.out)) hb)
      clear HO458
      clear HO461
      clear BK455
      clear HB
      have HO458 := n0_
      have HO461 := n1_
      have HO464 := n2_
      have BK455 := n3_
      have HB := n4_
      clear n0_ n1_ n2_ n3_ n4_
      (try clear hb)
      (try clear hb2)
      (try clear hk)
      (try clear hi)
      (try clear ho0)
      obtain ⟨Ao17, co17, eo17⟩ := Kd.R_slice HO464.out
      (first | subst eo17 | (injection eo17 with f1_ f2_ f3_; have f4_ := f1_.symm; have f5_ := f3_.symm; clear f1_ f2_ f3_; subst f4_; subst f5_))
      refine hK.out _ _ ⟨(blk_cell BK455.out 0).trans rfl, (blk_cell BK455.out 1).trans rfl⟩ (fun hHeld => ?_)
      clear hK K
      refine norm_ (a' := ?_) ?_ ?_
      rotate_left
      · show Act.put _ (some 22) _ = _
        simp only [Act.put, List.setIfInBounds_toArray, List.set_cons_zero, List.set_cons_succ, i64_w, i32_w]
        rfl
      refine one_ (i := 13) (N := some 23) #[true, true, true, true, true, true, true, true, true, true, true, true, true, true, false, false] rfl rfl (one_of HT_.out (by kernel_rfl)) (by decide) (fun K hK => ?_)
      refine Kd.R_append_rows_step (Kd.int .u8) (w0 := w) w.heap.size (by rfl) (.tmp 19) (.tmp 22) 23 5 (.int .u8 0) 1 rfl Try.underlying23 info5 rfl (by decide) (by omega) v460 t459 t462 _ _ _ (fun k_ => some k_ ≠ (.slice Ao13 y456.length co13 : Value).ownBlock ∧ some k_ ≠ (.slice Ao17 t462.length co17 : Value).ownBlock) (fun _ => False) rfl rfl ?aO ?aR (fun _ _ h => h) (fun _ h => h.elim) ?aF ?aB ?aS ?aL ?_
      (case aR => repeat (first | exact (Kd.R_reads' HO464.out).2.2 | (with_reducible refine Kd.C_alloc ?_ _) | (with_reducible refine Kd.C_drewN ?_ _) | (with_reducible refine Kd.C_drew ?_)))
      (case aB => exact (by repeat (first | (with_reducible first | exact HB.out | apply below_alloc | apply pw_below_drewN | apply below_drew1 | refine below_set ?_ GE455.out) | exact HB.out)))
      (case aF => exact (fun k_ hk => ⟨Kd.fresh' (Kd.R_lt (by (with_reducible repeat (first | apply Kd.R_alloc | apply Kd.R_drewN | apply Kd.R_drew)); exact HO458.out)) k_ hk, Kd.fresh' (Kd.R_lt (by (with_reducible repeat (first | apply Kd.R_alloc | apply Kd.R_drewN | apply Kd.R_drew)); exact HO464.out)) k_ hk⟩))
      (case aO => exact (by (with_reducible repeat (first | apply Kd.R_alloc | apply Kd.R_drewN | apply Kd.R_drew)); exact Kd.R_mono HO461.out (fun _ hk => ⟨hk.1.2, hk.2⟩)))
      (case aS => exact (below_size (by repeat (first | (with_reducible first | exact HB.out | apply below_alloc | apply pw_below_drewN | apply below_drew1 | refine below_set ?_ GE455.out) | exact HB.out))))
      (case aL => have := LMc7.out; omega)
      intro v466 w16 ho hb hg hat
      rw [← Ny465.out] at ho
      have n0_ := Aside0.mk (blk_grown (g := gb455) (o := .cells #[.int .u8 a0_0, .slice A0_1 l0_1.length c0_1] 60 (0, 0)) (by (with_reducible repeat (first | refine blk_drewN ?_ _ | refine blk_drew ?_ | refine blk_alloc ?_ _)); exact BK455.out) hg (Kd.R_ne HO461.out BK455.out (by decide)))
      have n1_ := Aside0.mk (Kd.R_after (ok := (fun k_ => some k_ ≠ (.slice Ao17 t462.length co17 : Value).ownBlock)) (by (with_reducible repeat (first | apply Kd.R_alloc | apply Kd.R_drewN | apply Kd.R_drew)); exact Kd.R_mono HO458.out (fun _ hk => ⟨hk.2, hk.1.2⟩)) hg hat)
      have n2_ := Aside0.mk (Kd.R_after (ok := (fun k_ => some k_ ≠ (.slice Ao13 y456.length co13 : Value).ownBlock)) (by (with_reducible repeat (first | apply Kd.R_alloc | apply Kd.R_drewN | apply Kd.R_drew)); exact Kd.R_mono HO464.out (fun _ hk => ⟨hk.1.2, hk.2⟩)) hg hat)
      have n3_ := Aside0.mk (hb)
      have n4_ := Aside0.mk (ho)
      clear BK455
      clear HO458
      clear HO464
      clear HB
      clear HO461
      have BK455 := n0_
      have HO458 := n1_
      have HO464 := n2_
      have HB := n3_
      have HO467 := n4_
      clear n0_ n1_ n2_ n3_ n4_
      clear ho hb hg hat
      refine hK.out _ _ ⟨(blk_cell BK455.out 0).trans rfl, (blk_cell BK455.out 1).trans rfl⟩ (fun hHeld => ?_)
      clear hK K
      refine norm_ (a' := ?_) ?_ ?_
      rotate_left
      · show Act.put _ (some 23) _ = _
        simp only [Act.put, List.setIfInBounds_toArray, List.set_cons_zero, List.set_cons_succ, i64_w, i32_w]
        rfl
      refine pure_ (i := 14) (N := some 2) (v := ?_) (a' := ?_) #[true, true, true, true, true, true, true, true, true, true, true, true, true, true, true, false] rfl rfl (any_of HT_.out (by kernel_rfl)) (fun _ _ _ h => h) (Or.inl ⟨by rfl, ?_⟩) ?_ ?_
      rotate_left
      · intro w'
        go_simp
        with_reducible rfl
      rotate_left
      · simp only [Act.put, List.setIfInBounds_toArray, List.set_cons_zero, List.set_cons_succ, i64_w, i32_w]
        rfl
      refine pure_ (i := 15) (N := some 3) (v := ?_) (a' := ?_) #[true, true, true, true, true, true, true, true, true, true, true, true, true, true, true, true] rfl rfl (any_of HT_.out (by kernel_rfl)) (fun _ _ _ h => h) (Or.inl ⟨by rfl, ?_⟩) ?_ ?_
      rotate_left
      · intro w'
        go_simp
        with_reducible rfl
      rotate_left
      · simp only [Act.put, List.setIfInBounds_toArray, List.set_cons_zero, List.set_cons_succ, i64_w, i32_w]
        rfl
      refine done_ (done_of HT_.out (by kernel_rfl)) ?_
      try go_wp2
      go_ret2
      exact ⟨_, by first | rfl | (simp [errW_none, errW_some] <;> rfl) | (simp [*, errW_none, errW_some] <;> rfl), by (with_reducible repeat (first | apply Kd.R_alloc | apply Kd.R_drewN | apply Kd.R_drew)); exact Kd.R_mono HO467.out (fun _ hk => trivial), by repeat (first | (with_reducible first | exact HB.out | apply below_alloc | apply pw_below_drewN | apply below_drew1 | refine below_set ?_ GE455.out) | exact HB.out)⟩
    · rw [if_neg c7] at H
      exact absurd H (by simp)
def tumbrelref04_Read.f (k : Nat) (l0 : List Int) : Option (Int × List Int × Int × Int) := if (l0.length : Int) < 7 then (some (0, ([] : List Int), 0, 3)) else (if 7 ≤ (l0.length : Int) then ((tumbrelref01_Cut.f k (l0.take 7)).bind fun bt470 => (if bt470.2 = true then (if 1 < (bt470.1.length : Int) then (if 2 < (bt470.1.length : Int) then (if (wrap64 ((wrap64 (rd bt470.1 1)) + (wrap64 (256 * (wrap64 (rd bt470.1 2)))))) > 400 then (some (0, ([] : List Int), 0, 2)) else (if (l0.length : Int) < (wrap64 ((wrap64 ((wrap64 (rd bt470.1 1)) + (wrap64 (256 * (wrap64 (rd bt470.1 2)))))) + 11)) then (some (0, ([] : List Int), 0, 3)) else (if 7 ≤ (wrap64 ((wrap64 ((wrap64 (rd bt470.1 1)) + (wrap64 (256 * (wrap64 (rd bt470.1 2)))))) + 11)) then (if (wrap64 ((wrap64 ((wrap64 (rd bt470.1 1)) + (wrap64 (256 * (wrap64 (rd bt470.1 2)))))) + 11)) ≤ (l0.length : Int) then ((tumbrelref01_Cut.f k ((l0.take ((wrap64 ((wrap64 ((wrap64 (rd bt470.1 1)) + (wrap64 (256 * (wrap64 (rd bt470.1 2)))))) + 11)) : Int).toNat).drop 7)).bind fun bt477 => (if bt477.2 = true then (if 0 < (bt470.1.length : Int) then (some (rd bt470.1 0, bt477.1, wrap64 ((wrap64 ((wrap64 (rd bt470.1 1)) + (wrap64 (256 * (wrap64 (rd bt470.1 2)))))) + 11), 0)) else (none)) else (some (0, ([] : List Int), 0, 8)))) else (none)) else (none)))) else (none)) else (none)) else (some (0, ([] : List Int), 0, 8)))) else (none))
set_option maxHeartbeats 8000000 in
set_option maxRecDepth 100000 in
theorem tumbrelref04_Read.calls (k : Nat) (A0 : Option Addr) (c0 : Nat) (l0 : List Int) (r1 : Int) (r2 : List Int) (r3 : Int) (r4 : Int) (w : World) (hr0 : Kd.C (Kd.int .u8) w A0 l0.length l0) (hc0 : l0.length ≤ c0) (h : tumbrelref04_Read.f k l0 = some (r1, r2, r3, r4)) :
    Calls Try.prog 48 #[.slice A0 l0.length c0] w fun e w' => ∃ v1_ : Value, e = .returned (.tuple #[.agg #[.int .u8 r1, v1_], .int .i64 r3, .int .i64 r4]) ∧ Kd.R (Kd.int .u8) 5 w' w.heap.size (fun _ => True) v1_ r2 ∧ Below w.heap.size w w' := by
  have hu60 := Try.underlying60
  have HR0 := Aside0.mk hr0
  have HC0 := Aside0.mk hc0
  clear hr0 hc0
  have HB := Aside0.mk (Below.refl w.heap.size w)
  have H : (if (l0.length : Int) < 7 then (some (0, ([] : List Int), 0, 3)) else (if 7 ≤ (l0.length : Int) then ((tumbrelref01_Cut.f k (l0.take 7)).bind fun bt470 => (if bt470.2 = true then (if 1 < (bt470.1.length : Int) then (if 2 < (bt470.1.length : Int) then (if (wrap64 ((wrap64 (rd bt470.1 1)) + (wrap64 (256 * (wrap64 (rd bt470.1 2)))))) > 400 then (some (0, ([] : List Int), 0, 2)) else (if (l0.length : Int) < (wrap64 ((wrap64 ((wrap64 (rd bt470.1 1)) + (wrap64 (256 * (wrap64 (rd bt470.1 2)))))) + 11)) then (some (0, ([] : List Int), 0, 3)) else (if 7 ≤ (wrap64 ((wrap64 ((wrap64 (rd bt470.1 1)) + (wrap64 (256 * (wrap64 (rd bt470.1 2)))))) + 11)) then (if (wrap64 ((wrap64 ((wrap64 (rd bt470.1 1)) + (wrap64 (256 * (wrap64 (rd bt470.1 2)))))) + 11)) ≤ (l0.length : Int) then ((tumbrelref01_Cut.f k ((l0.take ((wrap64 ((wrap64 ((wrap64 (rd bt470.1 1)) + (wrap64 (256 * (wrap64 (rd bt470.1 2)))))) + 11)) : Int).toNat).drop 7)).bind fun bt477 => (if bt477.2 = true then (if 0 < (bt470.1.length : Int) then (some (rd bt470.1 0, bt477.1, wrap64 ((wrap64 ((wrap64 (rd bt470.1 1)) + (wrap64 (256 * (wrap64 (rd bt470.1 2)))))) + 11), 0)) else (none)) else (some (0, ([] : List Int), 0, 8)))) else (none)) else (none)))) else (none)) else (none)) else (some (0, ([] : List Int), 0, 8)))) else (none))) = some (r1, r2, r3, r4) := h
  clear h
  by_cases c2 : (l0.length : Int) < 7
  · rw [if_pos c2] at H
    have c2b0 : decide ((l0.length : Int) < 7) = true := decide_eq_true c2
    have c2b1 : decide (l0.length < 7) = true := decide_eq_true (by omega)
    clear c2
    simp only [Option.some.injEq, Prod.mk.injEq] at H
    obtain ⟨rfl, rfl, rfl, rfl⟩ := H
    go_enter Try.func48, Try.ntmps48
    go_wp2_with (first | ((with_reducible refine gate_dst (N := 2) rfl ?_); refine box_event ?hg (N := 2) ?hd (cs := #[.int .u8 0, .slice none 0 0]) (t := 60) ?hr ?_; (case hd => rfl); (case hg => rfl); (case hr => first | (go_simp; done) | (go_simp; rfl) | (go_simp; simp only [IntKind.wrap_u8]; rw [Int.tmod_eq_emod_of_nonneg (Int.natCast_nonneg _), Int.emod_emod])); intro gb468 hg w3 hbox hb; have n0_ := Aside0.mk (below_step (by repeat (first | (with_reducible first | exact HB.out | apply below_alloc | apply pw_below_drewN | apply below_drew1) | exact HB.out)) hb); have n1_ := Aside0.mk (hbox); have n2_ := Aside0.mk ((by rw [hg]; exact (below_size (by repeat (first | (with_reducible first | exact HB.out | apply below_alloc | apply pw_below_drewN | apply below_drew1) | exact HB.out))) : w.heap.size ≤ gb468)); have n3_ := Aside0.mk ((by rw [hg]; exact (below_size (by repeat (first | (with_reducible first | exact HB.out | apply below_alloc | apply pw_below_drewN | apply below_drew1) | exact HB.out))) : w.heap.size ≤ gb468)); clear HB; have HB := n0_; have BK468 := n1_; have GW468 := n2_; have GE468 := n3_; clear n0_ n1_ n2_ n3_; clear hb hbox hg; have hcz4_0 : w3.cell? ⟨gb468, 0, none⟩ = some (.int .u8 0) := (blk_cell BK468.out 0).trans rfl; have hcz4_1 : w3.cell? ⟨gb468, 1, none⟩ = some (.slice none 0 0) := (blk_cell BK468.out 1).trans rfl; have hfz4_0 := blk_frozen BK468.out 0; have hfz4_1 := blk_frozen BK468.out 1))
    repeat (go_quiet (first | ((with_reducible refine gate_dst (N := 2) rfl ?_); refine box_event ?hg (N := 2) ?hd (cs := #[.int .u8 0, .slice none 0 0]) (t := 60) ?hr ?_; (case hd => rfl); (case hg => rfl); (case hr => first | (go_simp; done) | (go_simp; rfl) | (go_simp; simp only [IntKind.wrap_u8]; rw [Int.tmod_eq_emod_of_nonneg (Int.natCast_nonneg _), Int.emod_emod])); intro gb468 hg w3 hbox hb; have n0_ := Aside0.mk (below_step (by repeat (first | (with_reducible first | exact HB.out | apply below_alloc | apply pw_below_drewN | apply below_drew1) | exact HB.out)) hb); have n1_ := Aside0.mk (hbox); have n2_ := Aside0.mk ((by rw [hg]; exact (below_size (by repeat (first | (with_reducible first | exact HB.out | apply below_alloc | apply pw_below_drewN | apply below_drew1) | exact HB.out))) : w.heap.size ≤ gb468)); have n3_ := Aside0.mk ((by rw [hg]; exact (below_size (by repeat (first | (with_reducible first | exact HB.out | apply below_alloc | apply pw_below_drewN | apply below_drew1) | exact HB.out))) : w.heap.size ≤ gb468)); clear HB; have HB := n0_; have BK468 := n1_; have GW468 := n2_; have GE468 := n3_; clear n0_ n1_ n2_ n3_; clear hb hbox hg; have hcz4_0 : w3.cell? ⟨gb468, 0, none⟩ = some (.int .u8 0) := (blk_cell BK468.out 0).trans rfl; have hcz4_1 : w3.cell? ⟨gb468, 1, none⟩ = some (.slice none 0 0) := (blk_cell BK468.out 1).trans rfl; have hfz4_0 := blk_frozen BK468.out 0; have hfz4_1 := blk_frozen BK468.out 1)); try go_wp2_with (first | ((with_reducible refine gate_dst (N := 2) rfl ?_); refine box_event ?hg (N := 2) ?hd (cs := #[.int .u8 0, .slice none 0 0]) (t := 60) ?hr ?_; (case hd => rfl); (case hg => rfl); (case hr => first | (go_simp; done) | (go_simp; rfl) | (go_simp; simp only [IntKind.wrap_u8]; rw [Int.tmod_eq_emod_of_nonneg (Int.natCast_nonneg _), Int.emod_emod])); intro gb468 hg w3 hbox hb; have n0_ := Aside0.mk (below_step (by repeat (first | (with_reducible first | exact HB.out | apply below_alloc | apply pw_below_drewN | apply below_drew1) | exact HB.out)) hb); have n1_ := Aside0.mk (hbox); have n2_ := Aside0.mk ((by rw [hg]; exact (below_size (by repeat (first | (with_reducible first | exact HB.out | apply below_alloc | apply pw_below_drewN | apply below_drew1) | exact HB.out))) : w.heap.size ≤ gb468)); have n3_ := Aside0.mk ((by rw [hg]; exact (below_size (by repeat (first | (with_reducible first | exact HB.out | apply below_alloc | apply pw_below_drewN | apply below_drew1) | exact HB.out))) : w.heap.size ≤ gb468)); clear HB; have HB := n0_; have BK468 := n1_; have GW468 := n2_; have GE468 := n3_; clear n0_ n1_ n2_ n3_; clear hb hbox hg; have hcz4_0 : w3.cell? ⟨gb468, 0, none⟩ = some (.int .u8 0) := (blk_cell BK468.out 0).trans rfl; have hcz4_1 : w3.cell? ⟨gb468, 1, none⟩ = some (.slice none 0 0) := (blk_cell BK468.out 1).trans rfl; have hfz4_0 := blk_frozen BK468.out 0; have hfz4_1 := blk_frozen BK468.out 1)))
    refine bodyPost_ret (results_ctt rfl _ _ gb468 60 #[.int .u8 0, .slice none 0 0] (0, 0) _ rfl (by (with_reducible repeat (first | refine blk_drewN ?_ _ | refine blk_drew ?_ | refine blk_alloc ?_ _)); refine blk_put (cs := #[.int .u8 0, .slice none 0 0]) ?_ 1 _ rfl; (with_reducible repeat (first | refine blk_drewN ?_ _ | refine blk_drew ?_ | refine blk_alloc ?_ _)); refine blk_put (cs := #[.int .u8 0, .slice none 0 0]) ?_ 0 _ rfl; (with_reducible repeat (first | refine blk_drewN ?_ _ | refine blk_drew ?_ | refine blk_alloc ?_ _)); exact BK468.out) Try.underlying60 rfl (by kernel_rfl)) rfl ?_
    exact ⟨_, by first | rfl | (simp [errW_none, errW_some] <;> rfl) | (simp [*, errW_none, errW_some] <;> rfl), by first | exact Kd.R_nil _ _ _ _ _ | exact Kd.N_nil _ _ _ _ _ | exact Kd.V_nil _ _ _ _ _ | exact Kd.Q_nil _ _ _ _ _ | exact Kd.S_nil _ _ _ _ _, by repeat (first | (with_reducible first | exact HB.out | apply below_alloc | apply pw_below_drewN | apply below_drew1 | refine below_set ?_ GE468.out) | exact HB.out)⟩
  · rw [if_neg c2] at H
    have c2b0 : decide ((l0.length : Int) < 7) = false := decide_eq_false c2
    have c2b1 : decide (l0.length < 7) = false := decide_eq_false (by omega)
    clear c2
    by_cases c5 : 7 ≤ (l0.length : Int)
    · rw [if_pos c5] at H
      have c5b0 := eq_true c5
      have c5b1 : decide (7 ≤ (l0.length : Int)) = true := decide_eq_true c5
      clear c5
      replace H := Option.bind_eq_some_iff.mp H
      obtain ⟨⟨t470, t471⟩, A60, H⟩ := H
      replace H : (if t471 = true then (if 1 < (t470.length : Int) then (if 2 < (t470.length : Int) then (if (wrap64 ((wrap64 (rd t470 1)) + (wrap64 (256 * (wrap64 (rd t470 2)))))) > 400 then (some (0, ([] : List Int), 0, 2)) else (if (l0.length : Int) < (wrap64 ((wrap64 ((wrap64 (rd t470 1)) + (wrap64 (256 * (wrap64 (rd t470 2)))))) + 11)) then (some (0, ([] : List Int), 0, 3)) else (if 7 ≤ (wrap64 ((wrap64 ((wrap64 (rd t470 1)) + (wrap64 (256 * (wrap64 (rd t470 2)))))) + 11)) then (if (wrap64 ((wrap64 ((wrap64 (rd t470 1)) + (wrap64 (256 * (wrap64 (rd t470 2)))))) + 11)) ≤ (l0.length : Int) then ((tumbrelref01_Cut.f k ((l0.take ((wrap64 ((wrap64 ((wrap64 (rd t470 1)) + (wrap64 (256 * (wrap64 (rd t470 2)))))) + 11)) : Int).toNat).drop 7)).bind fun bt477 => (if bt477.2 = true then (if 0 < (t470.length : Int) then (some (rd t470 0, bt477.1, wrap64 ((wrap64 ((wrap64 (rd t470 1)) + (wrap64 (256 * (wrap64 (rd t470 2)))))) + 11), 0)) else (none)) else (some (0, ([] : List Int), 0, 8)))) else (none)) else (none)))) else (none)) else (none)) else (some (0, ([] : List Int), 0, 8))) = some (r1, r2, r3, r4) := H
      have A6 := Aside0.mk A60
      clear A60
      by_cases c7 : t471 = true
      · subst c7
        have H1 : (if 1 < (t470.length : Int) then (if 2 < (t470.length : Int) then (if (wrap64 ((wrap64 (rd t470 1)) + (wrap64 (256 * (wrap64 (rd t470 2)))))) > 400 then (some (0, ([] : List Int), 0, 2)) else (if (l0.length : Int) < (wrap64 ((wrap64 ((wrap64 (rd t470 1)) + (wrap64 (256 * (wrap64 (rd t470 2)))))) + 11)) then (some (0, ([] : List Int), 0, 3)) else (if 7 ≤ (wrap64 ((wrap64 ((wrap64 (rd t470 1)) + (wrap64 (256 * (wrap64 (rd t470 2)))))) + 11)) then (if (wrap64 ((wrap64 ((wrap64 (rd t470 1)) + (wrap64 (256 * (wrap64 (rd t470 2)))))) + 11)) ≤ (l0.length : Int) then ((tumbrelref01_Cut.f k ((l0.take ((wrap64 ((wrap64 ((wrap64 (rd t470 1)) + (wrap64 (256 * (wrap64 (rd t470 2)))))) + 11)) : Int).toNat).drop 7)).bind fun bt477 => (if bt477.2 = true then (if 0 < (t470.length : Int) then (some (rd t470 0, bt477.1, wrap64 ((wrap64 ((wrap64 (rd t470 1)) + (wrap64 (256 * (wrap64 (rd t470 2)))))) + 11), 0)) else (none)) else (some (0, ([] : List Int), 0, 8)))) else (none)) else (none)))) else (none)) else (none)) = some (r1, r2, r3, r4) := by rw [if_pos rfl] at H; exact H
        clear H
        have H := H1
        clear H1
        by_cases c8 : 1 < (t470.length : Int)
        · rw [if_pos c8] at H
          have c8b0 : decide (1 < (t470.length : Int)) = true := decide_eq_true c8
          have c8b1 : decide (1 < t470.length) = true := decide_eq_true (by omega)
          clear c8
          by_cases c9 : 2 < (t470.length : Int)
          · rw [if_pos c9] at H
            have c9b0 : decide (2 < (t470.length : Int)) = true := decide_eq_true c9
            have c9b1 : decide (2 < t470.length) = true := decide_eq_true (by omega)
            clear c9
            by_cases c10 : (wrap64 ((wrap64 (rd t470 1)) + (wrap64 (256 * (wrap64 (rd t470 2)))))) > 400
            · rw [if_pos c10] at H
              have c10b0 : decide (400 < (wrap64 ((wrap64 (rd t470 1)) + (wrap64 (256 * (wrap64 (rd t470 2))))))) = true := decide_eq_true c10
              clear c10
              simp only [Option.some.injEq, Prod.mk.injEq] at H
              obtain ⟨rfl, rfl, rfl, rfl⟩ := H
              go_enter Try.func48, Try.ntmps48
              go_wp2_with (first | ((with_reducible refine gate_dst (N := 2) rfl ?_); refine box_event ?hg (N := 2) ?hd (cs := #[.int .u8 0, .slice none 0 0]) (t := 60) ?hr ?_; (case hd => rfl); (case hg => rfl); (case hr => first | (go_simp; done) | (go_simp; rfl) | (go_simp; simp only [IntKind.wrap_u8]; rw [Int.tmod_eq_emod_of_nonneg (Int.natCast_nonneg _), Int.emod_emod])); intro gb468 hg w11 hbox hb; have n0_ := Aside0.mk (below_step (by repeat (first | (with_reducible first | exact HB.out | apply below_alloc | apply pw_below_drewN | apply below_drew1) | exact HB.out)) hb); have n1_ := Aside0.mk (hbox); have n2_ := Aside0.mk ((by rw [hg]; exact (below_size (by repeat (first | (with_reducible first | exact HB.out | apply below_alloc | apply pw_below_drewN | apply below_drew1) | exact HB.out))) : w.heap.size ≤ gb468)); have n3_ := Aside0.mk ((by rw [hg]; exact (below_size (by repeat (first | (with_reducible first | exact HB.out | apply below_alloc | apply pw_below_drewN | apply below_drew1) | exact HB.out))) : w.heap.size ≤ gb468)); clear HB; have HB := n0_; have BK468 := n1_; have GW468 := n2_; have GE468 := n3_; clear n0_ n1_ n2_ n3_; clear hb hbox hg; obtain ⟨i012, hi012, _, hsz12, _⟩ := info_parts info5; obtain ⟨hcut12, hA12, hC12⟩ := print_take_of (P := Try.prog) (Value.int .u8) 0 23 5 .i64 Try.underlying23 hi012 hsz12 A0 c0 l0 7 (by omega) (of_decide_eq_true (by first | (with_reducible assumption) | assumption)) HC0.out; have HR469 := Aside0.mk (Kd.C_of_reads (h1 := fun _ => rfl) (hA12 _ (Kd.reads_of_C HR0.out))); have HC469 := Aside0.mk hC12; clear hA12 hC12 hi012 hsz12) | (go_at_call 34; (try rw [← List.length_take]); (with_reducible refine (tumbrelref01_Cut.calls k _ _ (l0.take 7) t470 true _ ?side1 ?side2 A6.out).mono ?_); (case side1 => repeat (first | exact (Kd.C_below HR469.out HB.out) | (with_reducible refine Kd.C_alloc ?_ _) | (with_reducible refine Kd.C_drewN ?_ _) | (with_reducible refine Kd.C_drew ?_))); (case side2 => exact HC469.out); rintro e w13 ⟨v472, rfl, ho0, hb⟩; have n0_ := Aside0.mk (Kd.R_lower ho0 (below_size (by repeat (first | (with_reducible first | exact HB.out | apply below_alloc | apply pw_below_drewN | apply below_drew1 | refine below_set ?_ GE468.out) | exact HB.out)))); have n1_ := Aside0.mk (blk_below (g := gb468) (o := .cells #[.int .u8 0, .slice none 0 0] 60 (0, 0)) (by (with_reducible repeat (first | refine blk_drewN ?_ _ | refine blk_drew ?_ | refine blk_alloc ?_ _)); exact BK468.out) hb); have n2_ := Aside0.mk (below_step (by repeat (first | (with_reducible first | exact HB.out | apply below_alloc | apply pw_below_drewN | apply below_drew1 | refine below_set ?_ GE468.out) | exact HB.out)) hb); clear BK468; clear HB; have HO473 := n0_; have BK468 := n1_; have HB := n2_; clear n0_ n1_ n2_; (try clear hb); (try clear hb2); (try clear hk); (try clear hi); (try clear ho0); obtain ⟨Ao14, co14, eo14⟩ := Kd.R_slice HO473.out; subst eo14; have p474 : 0 ≤ (1 : Int) := (by omega); have q474 : 1 < (t470.length : Int) := of_decide_eq_true (by first | (with_reducible assumption) | assumption); obtain ⟨ad474, e474, hx474_0⟩ := Kd.at_int (Kd.R_reads' HO473.out).2.2 1 p474 q474; cases e474; (try simp only [show (1 : Int).toNat = 1 from rfl, Nat.reduceMul, Nat.reduceEqDiff, Go.Addr.add, ↓reduceIte] at hx474_0); have qi474 : (1 < t470.length) = True := eq_true (by omega); (try rw [show ((1 : Int)).toNat = 1 from rfl] at hx474_0); replace p474 := eq_true p474; replace q474 := eq_true q474; have p475 : 0 ≤ (2 : Int) := (by omega); have q475 : 2 < (t470.length : Int) := of_decide_eq_true (by first | (with_reducible assumption) | assumption); obtain ⟨ad475, e475, hx475_0⟩ := Kd.at_int (Kd.R_reads' HO473.out).2.2 2 p475 q475; obtain rfl : ad474 = ad475 := (by injection e475); (try simp only [show (2 : Int).toNat = 2 from rfl, Nat.reduceMul, Nat.reduceEqDiff, Go.Addr.add, ↓reduceIte] at hx475_0); have qi475 : (2 < t470.length) = True := eq_true (by omega); (try rw [show ((2 : Int)).toNat = 2 from rfl] at hx475_0); replace p475 := eq_true p475; replace q475 := eq_true q475; have hcz15_0 : w13.cell? ⟨gb468, 0, none⟩ = some (.int .u8 0) := (blk_cell BK468.out 0).trans rfl; have hcz15_1 : w13.cell? ⟨gb468, 1, none⟩ = some (.slice none 0 0) := (blk_cell BK468.out 1).trans rfl; have hfz15_0 := blk_frozen BK468.out 0; have hfz15_1 := blk_frozen BK468.out 1))
              repeat (go_quiet (first | ((with_reducible refine gate_dst (N := 2) rfl ?_); refine box_event ?hg (N := 2) ?hd (cs := #[.int .u8 0, .slice none 0 0]) (t := 60) ?hr ?_; (case hd => rfl); (case hg => rfl); (case hr => first | (go_simp; done) | (go_simp; rfl) | (go_simp; simp only [IntKind.wrap_u8]; rw [Int.tmod_eq_emod_of_nonneg (Int.natCast_nonneg _), Int.emod_emod])); intro gb468 hg w11 hbox hb; have n0_ := Aside0.mk (below_step (by repeat (first | (with_reducible first | exact HB.out | apply below_alloc | apply pw_below_drewN | apply below_drew1) | exact HB.out)) hb); have n1_ := Aside0.mk (hbox); have n2_ := Aside0.mk ((by rw [hg]; exact (below_size (by repeat (first | (with_reducible first | exact HB.out | apply below_alloc | apply pw_below_drewN | apply below_drew1) | exact HB.out))) : w.heap.size ≤ gb468)); have n3_ := Aside0.mk ((by rw [hg]; exact (below_size (by repeat (first | (with_reducible first | exact HB.out | apply below_alloc | apply pw_below_drewN | apply below_drew1) | exact HB.out))) : w.heap.size ≤ gb468)); clear HB; have HB := n0_; have BK468 := n1_; have GW468 := n2_; have GE468 := n3_; clear n0_ n1_ n2_ n3_; clear hb hbox hg; obtain ⟨i012, hi012, _, hsz12, _⟩ := info_parts info5; obtain ⟨hcut12, hA12, hC12⟩ := print_take_of (P := Try.prog) (Value.int .u8) 0 23 5 .i64 Try.underlying23 hi012 hsz12 A0 c0 l0 7 (by omega) (of_decide_eq_true (by first | (with_reducible assumption) | assumption)) HC0.out; have HR469 := Aside0.mk (Kd.C_of_reads (h1 := fun _ => rfl) (hA12 _ (Kd.reads_of_C HR0.out))); have HC469 := Aside0.mk hC12; clear hA12 hC12 hi012 hsz12) | (go_at_call 34; (try rw [← List.length_take]); (with_reducible refine (tumbrelref01_Cut.calls k _ _ (l0.take 7) t470 true _ ?side1 ?side2 A6.out).mono ?_); (case side1 => repeat (first | exact (Kd.C_below HR469.out HB.out) | (with_reducible refine Kd.C_alloc ?_ _) | (with_reducible refine Kd.C_drewN ?_ _) | (with_reducible refine Kd.C_drew ?_))); (case side2 => exact HC469.out); rintro e w13 ⟨v472, rfl, ho0, hb⟩; have n0_ := Aside0.mk (Kd.R_lower ho0 (below_size (by repeat (first | (with_reducible first | exact HB.out | apply below_alloc | apply pw_below_drewN | apply below_drew1 | refine below_set ?_ GE468.out) | exact HB.out)))); have n1_ := Aside0.mk (blk_below (g := gb468) (o := .cells #[.int .u8 0, .slice none 0 0] 60 (0, 0)) (by (with_reducible repeat (first | refine blk_drewN ?_ _ | refine blk_drew ?_ | refine blk_alloc ?_ _)); exact BK468.out) hb); have n2_ := Aside0.mk (below_step (by repeat (first | (with_reducible first | exact HB.out | apply below_alloc | apply pw_below_drewN | apply below_drew1 | refine below_set ?_ GE468.out) | exact HB.out)) hb); clear BK468; clear HB; have HO473 := n0_; have BK468 := n1_; have HB := n2_; clear n0_ n1_ n2_; (try clear hb); (try clear hb2); (try clear hk); (try clear hi); (try clear ho0); obtain ⟨Ao14, co14, eo14⟩ := Kd.R_slice HO473.out; subst eo14; have p474 : 0 ≤ (1 : Int) := (by omega); have q474 : 1 < (t470.length : Int) := of_decide_eq_true (by first | (with_reducible assumption) | assumption); obtain ⟨ad474, e474, hx474_0⟩ := Kd.at_int (Kd.R_reads' HO473.out).2.2 1 p474 q474; cases e474; (try simp only [show (1 : Int).toNat = 1 from rfl, Nat.reduceMul, Nat.reduceEqDiff, Go.Addr.add, ↓reduceIte] at hx474_0); have qi474 : (1 < t470.length) = True := eq_true (by omega); (try rw [show ((1 : Int)).toNat = 1 from rfl] at hx474_0); replace p474 := eq_true p474; replace q474 := eq_true q474; have p475 : 0 ≤ (2 : Int) := (by omega); have q475 : 2 < (t470.length : Int) := of_decide_eq_true (by first | (with_reducible assumption) | assumption); obtain ⟨ad475, e475, hx475_0⟩ := Kd.at_int (Kd.R_reads' HO473.out).2.2 2 p475 q475; obtain rfl : ad474 = ad475 := (by injection e475); (try simp only [show (2 : Int).toNat = 2 from rfl, Nat.reduceMul, Nat.reduceEqDiff, Go.Addr.add, ↓reduceIte] at hx475_0); have qi475 : (2 < t470.length) = True := eq_true (by omega); (try rw [show ((2 : Int)).toNat = 2 from rfl] at hx475_0); replace p475 := eq_true p475; replace q475 := eq_true q475; have hcz15_0 : w13.cell? ⟨gb468, 0, none⟩ = some (.int .u8 0) := (blk_cell BK468.out 0).trans rfl; have hcz15_1 : w13.cell? ⟨gb468, 1, none⟩ = some (.slice none 0 0) := (blk_cell BK468.out 1).trans rfl; have hfz15_0 := blk_frozen BK468.out 0; have hfz15_1 := blk_frozen BK468.out 1)); try go_wp2_with (first | ((with_reducible refine gate_dst (N := 2) rfl ?_); refine box_event ?hg (N := 2) ?hd (cs := #[.int .u8 0, .slice none 0 0]) (t := 60) ?hr ?_; (case hd => rfl); (case hg => rfl); (case hr => first | (go_simp; done) | (go_simp; rfl) | (go_simp; simp only [IntKind.wrap_u8]; rw [Int.tmod_eq_emod_of_nonneg (Int.natCast_nonneg _), Int.emod_emod])); intro gb468 hg w11 hbox hb; have n0_ := Aside0.mk (below_step (by repeat (first | (with_reducible first | exact HB.out | apply below_alloc | apply pw_below_drewN | apply below_drew1) | exact HB.out)) hb); have n1_ := Aside0.mk (hbox); have n2_ := Aside0.mk ((by rw [hg]; exact (below_size (by repeat (first | (with_reducible first | exact HB.out | apply below_alloc | apply pw_below_drewN | apply below_drew1) | exact HB.out))) : w.heap.size ≤ gb468)); have n3_ := Aside0.mk ((by rw [hg]; exact (below_size (by repeat (first | (with_reducible first | exact HB.out | apply below_alloc | apply pw_below_drewN | apply below_drew1) | exact HB.out))) : w.heap.size ≤ gb468)); clear HB; have HB := n0_; have BK468 := n1_; have GW468 := n2_; have GE468 := n3_; clear n0_ n1_ n2_ n3_; clear hb hbox hg; obtain ⟨i012, hi012, _, hsz12, _⟩ := info_parts info5; obtain ⟨hcut12, hA12, hC12⟩ := print_take_of (P := Try.prog) (Value.int .u8) 0 23 5 .i64 Try.underlying23 hi012 hsz12 A0 c0 l0 7 (by omega) (of_decide_eq_true (by first | (with_reducible assumption) | assumption)) HC0.out; have HR469 := Aside0.mk (Kd.C_of_reads (h1 := fun _ => rfl) (hA12 _ (Kd.reads_of_C HR0.out))); have HC469 := Aside0.mk hC12; clear hA12 hC12 hi012 hsz12) | (go_at_call 34; (try rw [← List.length_take]); (with_reducible refine (tumbrelref01_Cut.calls k _ _ (l0.take 7) t470 true _ ?side1 ?side2 A6.out).mono ?_); (case side1 => repeat (first | exact (Kd.C_below HR469.out HB.out) | (with_reducible refine Kd.C_alloc ?_ _) | (with_reducible refine Kd.C_drewN ?_ _) | (with_reducible refine Kd.C_drew ?_))); (case side2 => exact HC469.out); rintro e w13 ⟨v472, rfl, ho0, hb⟩; have n0_ := Aside0.mk (Kd.R_lower ho0 (below_size (by repeat (first | (with_reducible first | exact HB.out | apply below_alloc | apply pw_below_drewN | apply below_drew1 | refine below_set ?_ GE468.out) | exact HB.out)))); have n1_ := Aside0.mk (blk_below (g := gb468) (o := .cells #[.int .u8 0, .slice none 0 0] 60 (0, 0)) (by (with_reducible repeat (first | refine blk_drewN ?_ _ | refine blk_drew ?_ | refine blk_alloc ?_ _)); exact BK468.out) hb); have n2_ := Aside0.mk (below_step (by repeat (first | (with_reducible first | exact HB.out | apply below_alloc | apply pw_below_drewN | apply below_drew1 | refine below_set ?_ GE468.out) | exact HB.out)) hb); clear BK468; clear HB; have HO473 := n0_; have BK468 := n1_; have HB := n2_; clear n0_ n1_ n2_; (try clear hb); (try clear hb2); (try clear hk); (try clear hi); (try clear ho0); obtain ⟨Ao14, co14, eo14⟩ := Kd.R_slice HO473.out; subst eo14; have p474 : 0 ≤ (1 : Int) := (by omega); have q474 : 1 < (t470.length : Int) := of_decide_eq_true (by first | (with_reducible assumption) | assumption); obtain ⟨ad474, e474, hx474_0⟩ := Kd.at_int (Kd.R_reads' HO473.out).2.2 1 p474 q474; cases e474; (try simp only [show (1 : Int).toNat = 1 from rfl, Nat.reduceMul, Nat.reduceEqDiff, Go.Addr.add, ↓reduceIte] at hx474_0); have qi474 : (1 < t470.length) = True := eq_true (by omega); (try rw [show ((1 : Int)).toNat = 1 from rfl] at hx474_0); replace p474 := eq_true p474; replace q474 := eq_true q474; have p475 : 0 ≤ (2 : Int) := (by omega); have q475 : 2 < (t470.length : Int) := of_decide_eq_true (by first | (with_reducible assumption) | assumption); obtain ⟨ad475, e475, hx475_0⟩ := Kd.at_int (Kd.R_reads' HO473.out).2.2 2 p475 q475; obtain rfl : ad474 = ad475 := (by injection e475); (try simp only [show (2 : Int).toNat = 2 from rfl, Nat.reduceMul, Nat.reduceEqDiff, Go.Addr.add, ↓reduceIte] at hx475_0); have qi475 : (2 < t470.length) = True := eq_true (by omega); (try rw [show ((2 : Int)).toNat = 2 from rfl] at hx475_0); replace p475 := eq_true p475; replace q475 := eq_true q475; have hcz15_0 : w13.cell? ⟨gb468, 0, none⟩ = some (.int .u8 0) := (blk_cell BK468.out 0).trans rfl; have hcz15_1 : w13.cell? ⟨gb468, 1, none⟩ = some (.slice none 0 0) := (blk_cell BK468.out 1).trans rfl; have hfz15_0 := blk_frozen BK468.out 0; have hfz15_1 := blk_frozen BK468.out 1)))
              refine bodyPost_ret (results_ctt rfl _ _ gb468 60 #[.int .u8 0, .slice none 0 0] (0, 0) _ rfl (by (with_reducible repeat (first | refine blk_drewN ?_ _ | refine blk_drew ?_ | refine blk_alloc ?_ _)); refine blk_put (cs := #[.int .u8 0, .slice none 0 0]) ?_ 1 _ rfl; (with_reducible repeat (first | refine blk_drewN ?_ _ | refine blk_drew ?_ | refine blk_alloc ?_ _)); refine blk_put (cs := #[.int .u8 0, .slice none 0 0]) ?_ 0 _ rfl; (with_reducible repeat (first | refine blk_drewN ?_ _ | refine blk_drew ?_ | refine blk_alloc ?_ _)); exact BK468.out) Try.underlying60 rfl (by kernel_rfl)) rfl ?_
              exact ⟨_, by first | rfl | (simp [errW_none, errW_some] <;> rfl) | (simp [*, errW_none, errW_some] <;> rfl), by first | exact Kd.R_nil _ _ _ _ _ | exact Kd.N_nil _ _ _ _ _ | exact Kd.V_nil _ _ _ _ _ | exact Kd.Q_nil _ _ _ _ _ | exact Kd.S_nil _ _ _ _ _, by repeat (first | (with_reducible first | exact HB.out | apply below_alloc | apply pw_below_drewN | apply below_drew1 | refine below_set ?_ GE468.out) | exact HB.out)⟩
            · rw [if_neg c10] at H
              have c10b0 : decide (400 < (wrap64 ((wrap64 (rd t470 1)) + (wrap64 (256 * (wrap64 (rd t470 2))))))) = false := decide_eq_false c10
              clear c10
              by_cases c16 : (l0.length : Int) < (wrap64 ((wrap64 ((wrap64 (rd t470 1)) + (wrap64 (256 * (wrap64 (rd t470 2)))))) + 11))
              · rw [if_pos c16] at H
                have c16b0 : decide ((l0.length : Int) < (wrap64 ((wrap64 ((wrap64 (rd t470 1)) + (wrap64 (256 * (wrap64 (rd t470 2)))))) + 11))) = true := decide_eq_true c16
                clear c16
                simp only [Option.some.injEq, Prod.mk.injEq] at H
                obtain ⟨rfl, rfl, rfl, rfl⟩ := H
                go_enter Try.func48, Try.ntmps48
                go_wp2_with (first | ((with_reducible refine gate_dst (N := 2) rfl ?_); refine box_event ?hg (N := 2) ?hd (cs := #[.int .u8 0, .slice none 0 0]) (t := 60) ?hr ?_; (case hd => rfl); (case hg => rfl); (case hr => first | (go_simp; done) | (go_simp; rfl) | (go_simp; simp only [IntKind.wrap_u8]; rw [Int.tmod_eq_emod_of_nonneg (Int.natCast_nonneg _), Int.emod_emod])); intro gb468 hg w17 hbox hb; have n0_ := Aside0.mk (below_step (by repeat (first | (with_reducible first | exact HB.out | apply below_alloc | apply pw_below_drewN | apply below_drew1) | exact HB.out)) hb); have n1_ := Aside0.mk (hbox); have n2_ := Aside0.mk ((by rw [hg]; exact (below_size (by repeat (first | (with_reducible first | exact HB.out | apply below_alloc | apply pw_below_drewN | apply below_drew1) | exact HB.out))) : w.heap.size ≤ gb468)); have n3_ := Aside0.mk ((by rw [hg]; exact (below_size (by repeat (first | (with_reducible first | exact HB.out | apply below_alloc | apply pw_below_drewN | apply below_drew1) | exact HB.out))) : w.heap.size ≤ gb468)); clear HB; have HB := n0_; have BK468 := n1_; have GW468 := n2_; have GE468 := n3_; clear n0_ n1_ n2_ n3_; clear hb hbox hg; obtain ⟨i018, hi018, _, hsz18, _⟩ := info_parts info5; obtain ⟨hcut18, hA18, hC18⟩ := print_take_of (P := Try.prog) (Value.int .u8) 0 23 5 .i64 Try.underlying23 hi018 hsz18 A0 c0 l0 7 (by omega) (of_decide_eq_true (by first | (with_reducible assumption) | assumption)) HC0.out; have HR469 := Aside0.mk (Kd.C_of_reads (h1 := fun _ => rfl) (hA18 _ (Kd.reads_of_C HR0.out))); have HC469 := Aside0.mk hC18; clear hA18 hC18 hi018 hsz18) | (go_at_call 34; (try rw [← List.length_take]); (with_reducible refine (tumbrelref01_Cut.calls k _ _ (l0.take 7) t470 true _ ?side1 ?side2 A6.out).mono ?_); (case side1 => repeat (first | exact (Kd.C_below HR469.out HB.out) | (with_reducible refine Kd.C_alloc ?_ _) | (with_reducible refine Kd.C_drewN ?_ _) | (with_reducible refine Kd.C_drew ?_))); (case side2 => exact HC469.out); rintro e w19 ⟨v472, rfl, ho0, hb⟩; have n0_ := Aside0.mk (Kd.R_lower ho0 (below_size (by repeat (first | (with_reducible first | exact HB.out | apply below_alloc | apply pw_below_drewN | apply below_drew1 | refine below_set ?_ GE468.out) | exact HB.out)))); have n1_ := Aside0.mk (blk_below (g := gb468) (o := .cells #[.int .u8 0, .slice none 0 0] 60 (0, 0)) (by (with_reducible repeat (first | refine blk_drewN ?_ _ | refine blk_drew ?_ | refine blk_alloc ?_ _)); exact BK468.out) hb); have n2_ := Aside0.mk (below_step (by repeat (first | (with_reducible first | exact HB.out | apply below_alloc | apply pw_below_drewN | apply below_drew1 | refine below_set ?_ GE468.out) | exact HB.out)) hb); clear BK468; clear HB; have HO473 := n0_; have BK468 := n1_; have HB := n2_; clear n0_ n1_ n2_; (try clear hb); (try clear hb2); (try clear hk); (try clear hi); (try clear ho0); obtain ⟨Ao20, co20, eo20⟩ := Kd.R_slice HO473.out; subst eo20; have p474 : 0 ≤ (1 : Int) := (by omega); have q474 : 1 < (t470.length : Int) := of_decide_eq_true (by first | (with_reducible assumption) | assumption); obtain ⟨ad474, e474, hx474_0⟩ := Kd.at_int (Kd.R_reads' HO473.out).2.2 1 p474 q474; cases e474; (try simp only [show (1 : Int).toNat = 1 from rfl, Nat.reduceMul, Nat.reduceEqDiff, Go.Addr.add, ↓reduceIte] at hx474_0); have qi474 : (1 < t470.length) = True := eq_true (by omega); (try rw [show ((1 : Int)).toNat = 1 from rfl] at hx474_0); replace p474 := eq_true p474; replace q474 := eq_true q474; have p475 : 0 ≤ (2 : Int) := (by omega); have q475 : 2 < (t470.length : Int) := of_decide_eq_true (by first | (with_reducible assumption) | assumption); obtain ⟨ad475, e475, hx475_0⟩ := Kd.at_int (Kd.R_reads' HO473.out).2.2 2 p475 q475; obtain rfl : ad474 = ad475 := (by injection e475); (try simp only [show (2 : Int).toNat = 2 from rfl, Nat.reduceMul, Nat.reduceEqDiff, Go.Addr.add, ↓reduceIte] at hx475_0); have qi475 : (2 < t470.length) = True := eq_true (by omega); (try rw [show ((2 : Int)).toNat = 2 from rfl] at hx475_0); replace p475 := eq_true p475; replace q475 := eq_true q475; have hcz21_0 : w19.cell? ⟨gb468, 0, none⟩ = some (.int .u8 0) := (blk_cell BK468.out 0).trans rfl; have hcz21_1 : w19.cell? ⟨gb468, 1, none⟩ = some (.slice none 0 0) := (blk_cell BK468.out 1).trans rfl; have hfz21_0 := blk_frozen BK468.out 0; have hfz21_1 := blk_frozen BK468.out 1))
                repeat (go_quiet (first | ((with_reducible refine gate_dst (N := 2) rfl ?_); refine box_event ?hg (N := 2) ?hd (cs := #[.int .u8 0, .slice none 0 0]) (t := 60) ?hr ?_; (case hd => rfl); (case hg => rfl); (case hr => first | (go_simp; done) | (go_simp; rfl) | (go_simp; simp only [IntKind.wrap_u8]; rw [Int.tmod_eq_emod_of_nonneg (Int.natCast_nonneg _), Int.emod_emod])); intro gb468 hg w17 hbox hb; have n0_ := Aside0.mk (below_step (by repeat (first | (with_reducible first | exact HB.out | apply below_alloc | apply pw_below_drewN | apply below_drew1) | exact HB.out)) hb); have n1_ := Aside0.mk (hbox); have n2_ := Aside0.mk ((by rw [hg]; exact (below_size (by repeat (first | (with_reducible first | exact HB.out | apply below_alloc | apply pw_below_drewN | apply below_drew1) | exact HB.out))) : w.heap.size ≤ gb468)); have n3_ := Aside0.mk ((by rw [hg]; exact (below_size (by repeat (first | (with_reducible first | exact HB.out | apply below_alloc | apply pw_below_drewN | apply below_drew1) | exact HB.out))) : w.heap.size ≤ gb468)); clear HB; have HB := n0_; have BK468 := n1_; have GW468 := n2_; have GE468 := n3_; clear n0_ n1_ n2_ n3_; clear hb hbox hg; obtain ⟨i018, hi018, _, hsz18, _⟩ := info_parts info5; obtain ⟨hcut18, hA18, hC18⟩ := print_take_of (P := Try.prog) (Value.int .u8) 0 23 5 .i64 Try.underlying23 hi018 hsz18 A0 c0 l0 7 (by omega) (of_decide_eq_true (by first | (with_reducible assumption) | assumption)) HC0.out; have HR469 := Aside0.mk (Kd.C_of_reads (h1 := fun _ => rfl) (hA18 _ (Kd.reads_of_C HR0.out))); have HC469 := Aside0.mk hC18; clear hA18 hC18 hi018 hsz18) | (go_at_call 34; (try rw [← List.length_take]); (with_reducible refine (tumbrelref01_Cut.calls k _ _ (l0.take 7) t470 true _ ?side1 ?side2 A6.out).mono ?_); (case side1 => repeat (first | exact (Kd.C_below HR469.out HB.out) | (with_reducible refine Kd.C_alloc ?_ _) | (with_reducible refine Kd.C_drewN ?_ _) | (with_reducible refine Kd.C_drew ?_))); (case side2 => exact HC469.out); rintro e w19 ⟨v472, rfl, ho0, hb⟩; have n0_ := Aside0.mk (Kd.R_lower ho0 (below_size (by repeat (first | (with_reducible first | exact HB.out | apply below_alloc | apply pw_below_drewN | apply below_drew1 | refine below_set ?_ GE468.out) | exact HB.out)))); have n1_ := Aside0.mk (blk_below (g := gb468) (o := .cells #[.int .u8 0, .slice none 0 0] 60 (0, 0)) (by (with_reducible repeat (first | refine blk_drewN ?_ _ | refine blk_drew ?_ | refine blk_alloc ?_ _)); exact BK468.out) hb); have n2_ := Aside0.mk (below_step (by repeat (first | (with_reducible first | exact HB.out | apply below_alloc | apply pw_below_drewN | apply below_drew1 | refine below_set ?_ GE468.out) | exact HB.out)) hb); clear BK468; clear HB; have HO473 := n0_; have BK468 := n1_; have HB := n2_; clear n0_ n1_ n2_; (try clear hb); (try clear hb2); (try clear hk); (try clear hi); (try clear ho0); obtain ⟨Ao20, co20, eo20⟩ := Kd.R_slice HO473.out; subst eo20; have p474 : 0 ≤ (1 : Int) := (by omega); have q474 : 1 < (t470.length : Int) := of_decide_eq_true (by first | (with_reducible assumption) | assumption); obtain ⟨ad474, e474, hx474_0⟩ := Kd.at_int (Kd.R_reads' HO473.out).2.2 1 p474 q474; cases e474; (try simp only [show (1 : Int).toNat = 1 from rfl, Nat.reduceMul, Nat.reduceEqDiff, Go.Addr.add, ↓reduceIte] at hx474_0); have qi474 : (1 < t470.length) = True := eq_true (by omega); (try rw [show ((1 : Int)).toNat = 1 from rfl] at hx474_0); replace p474 := eq_true p474; replace q474 := eq_true q474; have p475 : 0 ≤ (2 : Int) := (by omega); have q475 : 2 < (t470.length : Int) := of_decide_eq_true (by first | (with_reducible assumption) | assumption); obtain ⟨ad475, e475, hx475_0⟩ := Kd.at_int (Kd.R_reads' HO473.out).2.2 2 p475 q475; obtain rfl : ad474 = ad475 := (by injection e475); (try simp only [show (2 : Int).toNat = 2 from rfl, Nat.reduceMul, Nat.reduceEqDiff, Go.Addr.add, ↓reduceIte] at hx475_0); have qi475 : (2 < t470.length) = True := eq_true (by omega); (try rw [show ((2 : Int)).toNat = 2 from rfl] at hx475_0); replace p475 := eq_true p475; replace q475 := eq_true q475; have hcz21_0 : w19.cell? ⟨gb468, 0, none⟩ = some (.int .u8 0) := (blk_cell BK468.out 0).trans rfl; have hcz21_1 : w19.cell? ⟨gb468, 1, none⟩ = some (.slice none 0 0) := (blk_cell BK468.out 1).trans rfl; have hfz21_0 := blk_frozen BK468.out 0; have hfz21_1 := blk_frozen BK468.out 1)); try go_wp2_with (first | ((with_reducible refine gate_dst (N := 2) rfl ?_); refine box_event ?hg (N := 2) ?hd (cs := #[.int .u8 0, .slice none 0 0]) (t := 60) ?hr ?_; (case hd => rfl); (case hg => rfl); (case hr => first | (go_simp; done) | (go_simp; rfl) | (go_simp; simp only [IntKind.wrap_u8]; rw [Int.tmod_eq_emod_of_nonneg (Int.natCast_nonneg _), Int.emod_emod])); intro gb468 hg w17 hbox hb; have n0_ := Aside0.mk (below_step (by repeat (first | (with_reducible first | exact HB.out | apply below_alloc | apply pw_below_drewN | apply below_drew1) | exact HB.out)) hb); have n1_ := Aside0.mk (hbox); have n2_ := Aside0.mk ((by rw [hg]; exact (below_size (by repeat (first | (with_reducible first | exact HB.out | apply below_alloc | apply pw_below_drewN | apply below_drew1) | exact HB.out))) : w.heap.size ≤ gb468)); have n3_ := Aside0.mk ((by rw [hg]; exact (below_size (by repeat (first | (with_reducible first | exact HB.out | apply below_alloc | apply pw_below_drewN | apply below_drew1) | exact HB.out))) : w.heap.size ≤ gb468)); clear HB; have HB := n0_; have BK468 := n1_; have GW468 := n2_; have GE468 := n3_; clear n0_ n1_ n2_ n3_; clear hb hbox hg; obtain ⟨i018, hi018, _, hsz18, _⟩ := info_parts info5; obtain ⟨hcut18, hA18, hC18⟩ := print_take_of (P := Try.prog) (Value.int .u8) 0 23 5 .i64 Try.underlying23 hi018 hsz18 A0 c0 l0 7 (by omega) (of_decide_eq_true (by first | (with_reducible assumption) | assumption)) HC0.out; have HR469 := Aside0.mk (Kd.C_of_reads (h1 := fun _ => rfl) (hA18 _ (Kd.reads_of_C HR0.out))); have HC469 := Aside0.mk hC18; clear hA18 hC18 hi018 hsz18) | (go_at_call 34; (try rw [← List.length_take]); (with_reducible refine (tumbrelref01_Cut.calls k _ _ (l0.take 7) t470 true _ ?side1 ?side2 A6.out).mono ?_); (case side1 => repeat (first | exact (Kd.C_below HR469.out HB.out) | (with_reducible refine Kd.C_alloc ?_ _) | (with_reducible refine Kd.C_drewN ?_ _) | (with_reducible refine Kd.C_drew ?_))); (case side2 => exact HC469.out); rintro e w19 ⟨v472, rfl, ho0, hb⟩; have n0_ := Aside0.mk (Kd.R_lower ho0 (below_size (by repeat (first | (with_reducible first | exact HB.out | apply below_alloc | apply pw_below_drewN | apply below_drew1 | refine below_set ?_ GE468.out) | exact HB.out)))); have n1_ := Aside0.mk (blk_below (g := gb468) (o := .cells #[.int .u8 0, .slice none 0 0] 60 (0, 0)) (by (with_reducible repeat (first | refine blk_drewN ?_ _ | refine blk_drew ?_ | refine blk_alloc ?_ _)); exact BK468.out) hb); have n2_ := Aside0.mk (below_step (by repeat (first | (with_reducible first | exact HB.out | apply below_alloc | apply pw_below_drewN | apply below_drew1 | refine below_set ?_ GE468.out) | exact HB.out)) hb); clear BK468; clear HB; have HO473 := n0_; have BK468 := n1_; have HB := n2_; clear n0_ n1_ n2_; (try clear hb); (try clear hb2); (try clear hk); (try clear hi); (try clear ho0); obtain ⟨Ao20, co20, eo20⟩ := Kd.R_slice HO473.out; subst eo20; have p474 : 0 ≤ (1 : Int) := (by omega); have q474 : 1 < (t470.length : Int) := of_decide_eq_true (by first | (with_reducible assumption) | assumption); obtain ⟨ad474, e474, hx474_0⟩ := Kd.at_int (Kd.R_reads' HO473.out).2.2 1 p474 q474; cases e474; (try simp only [show (1 : Int).toNat = 1 from rfl, Nat.reduceMul, Nat.reduceEqDiff, Go.Addr.add, ↓reduceIte] at hx474_0); have qi474 : (1 < t470.length) = True := eq_true (by omega); (try rw [show ((1 : Int)).toNat = 1 from rfl] at hx474_0); replace p474 := eq_true p474; replace q474 := eq_true q474; have p475 : 0 ≤ (2 : Int) := (by omega); have q475 : 2 < (t470.length : Int) := of_decide_eq_true (by first | (with_reducible assumption) | assumption); obtain ⟨ad475, e475, hx475_0⟩ := Kd.at_int (Kd.R_reads' HO473.out).2.2 2 p475 q475; obtain rfl : ad474 = ad475 := (by injection e475); (try simp only [show (2 : Int).toNat = 2 from rfl, Nat.reduceMul, Nat.reduceEqDiff, Go.Addr.add, ↓reduceIte] at hx475_0); have qi475 : (2 < t470.length) = True := eq_true (by omega); (try rw [show ((2 : Int)).toNat = 2 from rfl] at hx475_0); replace p475 := eq_true p475; replace q475 := eq_true q475; have hcz21_0 : w19.cell? ⟨gb468, 0, none⟩ = some (.int .u8 0) := (blk_cell BK468.out 0).trans rfl; have hcz21_1 : w19.cell? ⟨gb468, 1, none⟩ = some (.slice none 0 0) := (blk_cell BK468.out 1).trans rfl; have hfz21_0 := blk_frozen BK468.out 0; have hfz21_1 := blk_frozen BK468.out 1)))
                refine bodyPost_ret (results_ctt rfl _ _ gb468 60 #[.int .u8 0, .slice none 0 0] (0, 0) _ rfl (by (with_reducible repeat (first | refine blk_drewN ?_ _ | refine blk_drew ?_ | refine blk_alloc ?_ _)); refine blk_put (cs := #[.int .u8 0, .slice none 0 0]) ?_ 1 _ rfl; (with_reducible repeat (first | refine blk_drewN ?_ _ | refine blk_drew ?_ | refine blk_alloc ?_ _)); refine blk_put (cs := #[.int .u8 0, .slice none 0 0]) ?_ 0 _ rfl; (with_reducible repeat (first | refine blk_drewN ?_ _ | refine blk_drew ?_ | refine blk_alloc ?_ _)); exact BK468.out) Try.underlying60 rfl (by kernel_rfl)) rfl ?_
                exact ⟨_, by first | rfl | (simp [errW_none, errW_some] <;> rfl) | (simp [*, errW_none, errW_some] <;> rfl), by first | exact Kd.R_nil _ _ _ _ _ | exact Kd.N_nil _ _ _ _ _ | exact Kd.V_nil _ _ _ _ _ | exact Kd.Q_nil _ _ _ _ _ | exact Kd.S_nil _ _ _ _ _, by repeat (first | (with_reducible first | exact HB.out | apply below_alloc | apply pw_below_drewN | apply below_drew1 | refine below_set ?_ GE468.out) | exact HB.out)⟩
              · rw [if_neg c16] at H
                have c16b0 : decide ((l0.length : Int) < (wrap64 ((wrap64 ((wrap64 (rd t470 1)) + (wrap64 (256 * (wrap64 (rd t470 2)))))) + 11))) = false := decide_eq_false c16
                clear c16
                by_cases c22 : 7 ≤ (wrap64 ((wrap64 ((wrap64 (rd t470 1)) + (wrap64 (256 * (wrap64 (rd t470 2)))))) + 11))
                · rw [if_pos c22] at H
                  have c22b0 := eq_true c22
                  have c22b1 : decide (7 ≤ (wrap64 ((wrap64 ((wrap64 (rd t470 1)) + (wrap64 (256 * (wrap64 (rd t470 2)))))) + 11))) = true := decide_eq_true c22
                  by_cases c23 : (wrap64 ((wrap64 ((wrap64 (rd t470 1)) + (wrap64 (256 * (wrap64 (rd t470 2)))))) + 11)) ≤ (l0.length : Int)
                  · rw [if_pos c23] at H
                    have c23b0 := eq_true c23
                    have c23b1 : decide ((wrap64 ((wrap64 ((wrap64 (rd t470 1)) + (wrap64 (256 * (wrap64 (rd t470 2)))))) + 11)) ≤ (l0.length : Int)) = true := decide_eq_true c23
                    replace H := Option.bind_eq_some_iff.mp H
                    obtain ⟨⟨t477, t478⟩, A240, H⟩ := H
                    replace H : (if t478 = true then (if 0 < (t470.length : Int) then (some (rd t470 0, t477, wrap64 ((wrap64 ((wrap64 (rd t470 1)) + (wrap64 (256 * (wrap64 (rd t470 2)))))) + 11), 0)) else (none)) else (some (0, ([] : List Int), 0, 8))) = some (r1, r2, r3, r4) := H
                    have A24 := Aside0.mk A240
                    clear A240
                    by_cases c25 : t478 = true
                    · subst c25
                      have H1 : (if 0 < (t470.length : Int) then (some (rd t470 0, t477, wrap64 ((wrap64 ((wrap64 (rd t470 1)) + (wrap64 (256 * (wrap64 (rd t470 2)))))) + 11), 0)) else (none)) = some (r1, r2, r3, r4) := by rw [if_pos rfl] at H; exact H
                      clear H
                      have H := H1
                      clear H1
                      by_cases c26 : 0 < (t470.length : Int)
                      · rw [if_pos c26] at H
                        have c26b0 : decide (0 < (t470.length : Int)) = true := decide_eq_true c26
                        have c26b1 : decide (0 < t470.length) = true := decide_eq_true (by omega)
                        clear c26
                        simp only [Option.some.injEq, Prod.mk.injEq] at H
                        obtain ⟨rfl, rfl, rfl, rfl⟩ := H
                        go_enter Try.func48, Try.ntmps48
                        go_wp2_with (first | ((with_reducible refine gate_dst (N := 2) rfl ?_); refine box_event ?hg (N := 2) ?hd (cs := #[.int .u8 0, .slice none 0 0]) (t := 60) ?hr ?_; (case hd => rfl); (case hg => rfl); (case hr => first | (go_simp; done) | (go_simp; rfl) | (go_simp; simp only [IntKind.wrap_u8]; rw [Int.tmod_eq_emod_of_nonneg (Int.natCast_nonneg _), Int.emod_emod])); intro gb468 hg w27 hbox hb; have n0_ := Aside0.mk (below_step (by repeat (first | (with_reducible first | exact HB.out | apply below_alloc | apply pw_below_drewN | apply below_drew1) | exact HB.out)) hb); have n1_ := Aside0.mk (hbox); have n2_ := Aside0.mk ((by rw [hg]; exact (below_size (by repeat (first | (with_reducible first | exact HB.out | apply below_alloc | apply pw_below_drewN | apply below_drew1) | exact HB.out))) : w.heap.size ≤ gb468)); have n3_ := Aside0.mk ((by rw [hg]; exact (below_size (by repeat (first | (with_reducible first | exact HB.out | apply below_alloc | apply pw_below_drewN | apply below_drew1) | exact HB.out))) : w.heap.size ≤ gb468)); clear HB; have HB := n0_; have BK468 := n1_; have GW468 := n2_; have GE468 := n3_; clear n0_ n1_ n2_ n3_; clear hb hbox hg; obtain ⟨i028, hi028, _, hsz28, _⟩ := info_parts info5; obtain ⟨hcut28, hA28, hC28⟩ := print_take_of (P := Try.prog) (Value.int .u8) 0 23 5 .i64 Try.underlying23 hi028 hsz28 A0 c0 l0 7 (by omega) (of_decide_eq_true (by first | (with_reducible assumption) | assumption)) HC0.out; have HR469 := Aside0.mk (Kd.C_of_reads (h1 := fun _ => rfl) (hA28 _ (Kd.reads_of_C HR0.out))); have HC469 := Aside0.mk hC28; clear hA28 hC28 hi028 hsz28) | (go_at_call 34; (try rw [← List.length_take]); (with_reducible refine (tumbrelref01_Cut.calls k _ _ (l0.take 7) t470 true _ ?side1 ?side2 A6.out).mono ?_); (case side1 => repeat (first | exact (Kd.C_below HR469.out HB.out) | (with_reducible refine Kd.C_alloc ?_ _) | (with_reducible refine Kd.C_drewN ?_ _) | (with_reducible refine Kd.C_drew ?_))); (case side2 => exact HC469.out); rintro e w29 ⟨v472, rfl, ho0, hb⟩; have n0_ := Aside0.mk (Kd.R_lower ho0 (below_size (by repeat (first | (with_reducible first | exact HB.out | apply below_alloc | apply pw_below_drewN | apply below_drew1 | refine below_set ?_ GE468.out) | exact HB.out)))); have n1_ := Aside0.mk (blk_below (g := gb468) (o := .cells #[.int .u8 0, .slice none 0 0] 60 (0, 0)) (by (with_reducible repeat (first | refine blk_drewN ?_ _ | refine blk_drew ?_ | refine blk_alloc ?_ _)); exact BK468.out) hb); have n2_ := Aside0.mk (below_step (by repeat (first | (with_reducible first | exact HB.out | apply below_alloc | apply pw_below_drewN | apply below_drew1 | refine below_set ?_ GE468.out) | exact HB.out)) hb); clear BK468; clear HB; have HO473 := n0_; have BK468 := n1_; have HB := n2_; clear n0_ n1_ n2_; (try clear hb); (try clear hb2); (try clear hk); (try clear hi); (try clear ho0); obtain ⟨Ao30, co30, eo30⟩ := Kd.R_slice HO473.out; subst eo30; have p474 : 0 ≤ (1 : Int) := (by omega); have q474 : 1 < (t470.length : Int) := of_decide_eq_true (by first | (with_reducible assumption) | assumption); obtain ⟨ad474, e474, hx474_0⟩ := Kd.at_int (Kd.R_reads' HO473.out).2.2 1 p474 q474; cases e474; (try simp only [show (1 : Int).toNat = 1 from rfl, Nat.reduceMul, Nat.reduceEqDiff, Go.Addr.add, ↓reduceIte] at hx474_0); have qi474 : (1 < t470.length) = True := eq_true (by omega); (try rw [show ((1 : Int)).toNat = 1 from rfl] at hx474_0); replace p474 := eq_true p474; replace q474 := eq_true q474; have p475 : 0 ≤ (2 : Int) := (by omega); have q475 : 2 < (t470.length : Int) := of_decide_eq_true (by first | (with_reducible assumption) | assumption); obtain ⟨ad475, e475, hx475_0⟩ := Kd.at_int (Kd.R_reads' HO473.out).2.2 2 p475 q475; obtain rfl : ad474 = ad475 := (by injection e475); (try simp only [show (2 : Int).toNat = 2 from rfl, Nat.reduceMul, Nat.reduceEqDiff, Go.Addr.add, ↓reduceIte] at hx475_0); have qi475 : (2 < t470.length) = True := eq_true (by omega); (try rw [show ((2 : Int)).toNat = 2 from rfl] at hx475_0); replace p475 := eq_true p475; replace q475 := eq_true q475; obtain ⟨i031, hi031, _, hsz31, _⟩ := info_parts info5; obtain ⟨A31, hcut31, hA31, hC31⟩ := print_mid_of (P := Try.prog) (Value.int .u8) 0 23 5 .i64 .i64 Try.underlying23 hi031 hsz31 A0 c0 l0 7 (wrap64 ((wrap64 ((wrap64 (rd t470 1)) + (wrap64 (256 * (wrap64 (rd t470 2)))))) + 11)) (by omega) (by first | omega | exact of_decide_eq_true (by first | (with_reducible assumption) | assumption)) (of_decide_eq_true (by first | (with_reducible assumption) | assumption)) HC0.out; have HR476 := Aside0.mk (Kd.C_of_reads (h1 := fun _ => rfl) (hA31 _ (Kd.reads_of_C HR0.out))); have HC476 := Aside0.mk hC31; clear hA31 hC31 hi031 hsz31) | (go_at_call 34; (try rw [show (wrap64 ((wrap64 ((wrap64 (rd t470 1)) + (wrap64 (256 * (wrap64 (rd t470 2)))))) + 11)).toNat - 7 = ((l0.take ((wrap64 ((wrap64 ((wrap64 (rd t470 1)) + (wrap64 (256 * (wrap64 (rd t470 2)))))) + 11)) : Int).toNat).drop 7).length from (by rw [List.length_drop, List.length_take]; have h_ : ((wrap64 ((wrap64 ((wrap64 (rd t470 1)) + (wrap64 (256 * (wrap64 (rd t470 2)))))) + 11)) : Int) ≤ (l0.length : Int) := of_decide_eq_true (by first | (with_reducible assumption) | assumption); omega)]); (with_reducible refine (tumbrelref01_Cut.calls k _ _ ((l0.take ((wrap64 ((wrap64 ((wrap64 (rd t470 1)) + (wrap64 (256 * (wrap64 (rd t470 2)))))) + 11)) : Int).toNat).drop 7) t477 true _ ?side1 ?side2 A24.out).mono ?_); (case side1 => repeat (first | exact (Kd.C_below HR476.out HB.out) | (with_reducible refine Kd.C_alloc ?_ _) | (with_reducible refine Kd.C_drewN ?_ _) | (with_reducible refine Kd.C_drew ?_))); (case side2 => exact HC476.out); rintro e w32 ⟨v479, rfl, ho0, hb⟩; have n0_ := Aside0.mk (Kd.R_elder' (by (with_reducible repeat (first | apply Kd.R_alloc | apply Kd.R_drewN | apply Kd.R_drew)); exact HO473.out) (Kd.R_base ho0) hb); have n1_ := Aside0.mk (Kd.R_lower (Kd.R_new' ho0 (Kd.R_lt (by (with_reducible repeat (first | apply Kd.R_alloc | apply Kd.R_drewN | apply Kd.R_drew)); exact HO473.out))) (below_size (by repeat (first | (with_reducible first | exact HB.out | apply below_alloc | apply pw_below_drewN | apply below_drew1 | refine below_set ?_ GE468.out) | exact HB.out)))); have n2_ := Aside0.mk (blk_below (g := gb468) (o := .cells #[.int .u8 0, .slice none 0 0] 60 (0, 0)) (by (with_reducible repeat (first | refine blk_drewN ?_ _ | refine blk_drew ?_ | refine blk_alloc ?_ _)); exact BK468.out) hb); have n3_ := Aside0.mk (below_step (by repeat (first | (with_reducible first | exact HB.out | apply below_alloc | apply pw_below_drewN | apply below_drew1 | refine below_set ?_ GE468.out) | exact HB.out)) hb); clear HO473; clear BK468; clear HB; have HO473 := n0_; have HO480 := n1_; have BK468 := n2_; have HB := n3_; clear n0_ n1_ n2_ n3_; (try clear hb); (try clear hb2); (try clear hk); (try clear hi); (try clear ho0); have p481 : 0 ≤ (0 : Int) := (by omega); have q481 : 0 < (t470.length : Int) := of_decide_eq_true (by first | (with_reducible assumption) | assumption); obtain ⟨ad481, e481, hx481_0⟩ := Kd.at_int (Kd.R_reads' HO473.out).2.2 0 p481 q481; obtain rfl : ad474 = ad481 := (by injection e481); have qi481 : (0 < t470.length) = True := eq_true (by omega); (try rw [show ((0 : Int)).toNat = 0 from rfl] at hx481_0); (try rw [Addr.add_zero'] at hx481_0); replace p481 := eq_true p481; replace q481 := eq_true q481; obtain ⟨Ao33, co33, eo33⟩ := Kd.R_slice HO480.out; subst eo33; have hcz34_0 : w32.cell? ⟨gb468, 0, none⟩ = some (.int .u8 0) := (blk_cell BK468.out 0).trans rfl; have hcz34_1 : w32.cell? ⟨gb468, 1, none⟩ = some (.slice none 0 0) := (blk_cell BK468.out 1).trans rfl; have hfz34_0 := blk_frozen BK468.out 0; have hfz34_1 := blk_frozen BK468.out 1))
                        repeat (go_quiet (first | ((with_reducible refine gate_dst (N := 2) rfl ?_); refine box_event ?hg (N := 2) ?hd (cs := #[.int .u8 0, .slice none 0 0]) (t := 60) ?hr ?_; (case hd => rfl); (case hg => rfl); (case hr => first | (go_simp; done) | (go_simp; rfl) | (go_simp; simp only [IntKind.wrap_u8]; rw [Int.tmod_eq_emod_of_nonneg (Int.natCast_nonneg _), Int.emod_emod])); intro gb468 hg w27 hbox hb; have n0_ := Aside0.mk (below_step (by repeat (first | (with_reducible first | exact HB.out | apply below_alloc | apply pw_below_drewN | apply below_drew1) | exact HB.out)) hb); have n1_ := Aside0.mk (hbox); have n2_ := Aside0.mk ((by rw [hg]; exact (below_size (by repeat (first | (with_reducible first | exact HB.out | apply below_alloc | apply pw_below_drewN | apply below_drew1) | exact HB.out))) : w.heap.size ≤ gb468)); have n3_ := Aside0.mk ((by rw [hg]; exact (below_size (by repeat (first | (with_reducible first | exact HB.out | apply below_alloc | apply pw_below_drewN | apply below_drew1) | exact HB.out))) : w.heap.size ≤ gb468)); clear HB; have HB := n0_; have BK468 := n1_; have GW468 := n2_; have GE468 := n3_; clear n0_ n1_ n2_ n3_; clear hb hbox hg; obtain ⟨i028, hi028, _, hsz28, _⟩ := info_parts info5; obtain ⟨hcut28, hA28, hC28⟩ := print_take_of (P := Try.prog) (Value.int .u8) 0 23 5 .i64 Try.underlying23 hi028 hsz28 A0 c0 l0 7 (by omega) (of_decide_eq_true (by first | (with_reducible assumption) | assumption)) HC0.out; have HR469 := Aside0.mk (Kd.C_of_reads (h1 := fun _ => rfl) (hA28 _ (Kd.reads_of_C HR0.out))); have HC469 := Aside0.mk hC28; clear hA28 hC28 hi028 hsz28) | (go_at_call 34; (try rw [← List.length_take]); (with_reducible refine (tumbrelref01_Cut.calls k _ _ (l0.take 7) t470 true _ ?side1 ?side2 A6.out).mono ?_); (case side1 => repeat (first | exact (Kd.C_below HR469.out HB.out) | (with_reducible refine Kd.C_alloc ?_ _) | (with_reducible refine Kd.C_drewN ?_ _) | (with_reducible refine Kd.C_drew ?_))); (case side2 => exact HC469.out); rintro e w29 ⟨v472, rfl, ho0, hb⟩; have n0_ := Aside0.mk (Kd.R_lower ho0 (below_size (by repeat (first | (with_reducible first | exact HB.out | apply below_alloc | apply pw_below_drewN | apply below_drew1 | refine below_set ?_ GE468.out) | exact HB.out)))); have n1_ := Aside0.mk (blk_below (g := gb468) (o := .cells #[.int .u8 0, .slice none 0 0] 60 (0, 0)) (by (with_reducible repeat (first | refine blk_drewN ?_ _ | refine blk_drew ?_ | refine blk_alloc ?_ _)); exact BK468.out) hb); have n2_ := Aside0.mk (below_step (by repeat (first | (with_reducible first | exact HB.out | apply below_alloc | apply pw_below_drewN | apply below_drew1 | refine below_set ?_ GE468.out) | exact HB.out)) hb); clear BK468; clear HB; have HO473 := n0_; have BK468 := n1_; have HB := n2_; clear n0_ n1_ n2_; (try clear hb); (try clear hb2); (try clear hk); (try clear hi); (try clear ho0); obtain ⟨Ao30, co30, eo30⟩ := Kd.R_slice HO473.out; subst eo30; have p474 : 0 ≤ (1 : Int) := (by omega); have q474 : 1 < (t470.length : Int) := of_decide_eq_true (by first | (with_reducible assumption) | assumption); obtain ⟨ad474, e474, hx474_0⟩ := Kd.at_int (Kd.R_reads' HO473.out).2.2 1 p474 q474; cases e474; (try simp only [show (1 : Int).toNat = 1 from rfl, Nat.reduceMul, Nat.reduceEqDiff, Go.Addr.add, ↓reduceIte] at hx474_0); have qi474 : (1 < t470.length) = True := eq_true (by omega); (try rw [show ((1 : Int)).toNat = 1 from rfl] at hx474_0); replace p474 := eq_true p474; replace q474 := eq_true q474; have p475 : 0 ≤ (2 : Int) := (by omega); have q475 : 2 < (t470.length : Int) := of_decide_eq_true (by first | (with_reducible assumption) | assumption); obtain ⟨ad475, e475, hx475_0⟩ := Kd.at_int (Kd.R_reads' HO473.out).2.2 2 p475 q475; obtain rfl : ad474 = ad475 := (by injection e475); (try simp only [show (2 : Int).toNat = 2 from rfl, Nat.reduceMul, Nat.reduceEqDiff, Go.Addr.add, ↓reduceIte] at hx475_0); have qi475 : (2 < t470.length) = True := eq_true (by omega); (try rw [show ((2 : Int)).toNat = 2 from rfl] at hx475_0); replace p475 := eq_true p475; replace q475 := eq_true q475; obtain ⟨i031, hi031, _, hsz31, _⟩ := info_parts info5; obtain ⟨A31, hcut31, hA31, hC31⟩ := print_mid_of (P := Try.prog) (Value.int .u8) 0 23 5 .i64 .i64 Try.underlying23 hi031 hsz31 A0 c0 l0 7 (wrap64 ((wrap64 ((wrap64 (rd t470 1)) + (wrap64 (256 * (wrap64 (rd t470 2)))))) + 11)) (by omega) (by first | omega | exact of_decide_eq_true (by first | (with_reducible assumption) | assumption)) (of_decide_eq_true (by first | (with_reducible assumption) | assumption)) HC0.out; have HR476 := Aside0.mk (Kd.C_of_reads (h1 := fun _ => rfl) (hA31 _ (Kd.reads_of_C HR0.out))); have HC476 := Aside0.mk hC31; clear hA31 hC31 hi031 hsz31) | (go_at_call 34; (try rw [show (wrap64 ((wrap64 ((wrap64 (rd t470 1)) + (wrap64 (256 * (wrap64 (rd t470 2)))))) + 11)).toNat - 7 = ((l0.take ((wrap64 ((wrap64 ((wrap64 (rd t470 1)) + (wrap64 (256 * (wrap64 (rd t470 2)))))) + 11)) : Int).toNat).drop 7).length from (by rw [List.length_drop, List.length_take]; have h_ : ((wrap64 ((wrap64 ((wrap64 (rd t470 1)) + (wrap64 (256 * (wrap64 (rd t470 2)))))) + 11)) : Int) ≤ (l0.length : Int) := of_decide_eq_true (by first | (with_reducible assumption) | assumption); omega)]); (with_reducible refine (tumbrelref01_Cut.calls k _ _ ((l0.take ((wrap64 ((wrap64 ((wrap64 (rd t470 1)) + (wrap64 (256 * (wrap64 (rd t470 2)))))) + 11)) : Int).toNat).drop 7) t477 true _ ?side1 ?side2 A24.out).mono ?_); (case side1 => repeat (first | exact (Kd.C_below HR476.out HB.out) | (with_reducible refine Kd.C_alloc ?_ _) | (with_reducible refine Kd.C_drewN ?_ _) | (with_reducible refine Kd.C_drew ?_))); (case side2 => exact HC476.out); rintro e w32 ⟨v479, rfl, ho0, hb⟩; have n0_ := Aside0.mk (Kd.R_elder' (by (with_reducible repeat (first | apply Kd.R_alloc | apply Kd.R_drewN | apply Kd.R_drew)); exact HO473.out) (Kd.R_base ho0) hb); have n1_ := Aside0.mk (Kd.R_lower (Kd.R_new' ho0 (Kd.R_lt (by (with_reducible repeat (first | apply Kd.R_alloc | apply Kd.R_drewN | apply Kd.R_drew)); exact HO473.out))) (below_size (by repeat (first | (with_reducible first | exact HB.out | apply below_alloc | apply pw_below_drewN | apply below_drew1 | refine below_set ?_ GE468.out) | exact HB.out)))); have n2_ := Aside0.mk (blk_below (g := gb468) (o := .cells #[.int .u8 0, .slice none 0 0] 60 (0, 0)) (by (with_reducible repeat (first | refine blk_drewN ?_ _ | refine blk_drew ?_ | refine blk_alloc ?_ _)); exact BK468.out) hb); have n3_ := Aside0.mk (below_step (by repeat (first | (with_reducible first | exact HB.out | apply below_alloc | apply pw_below_drewN | apply below_drew1 | refine below_set ?_ GE468.out) | exact HB.out)) hb); clear HO473; clear BK468; clear HB; have HO473 := n0_; have HO480 := n1_; have BK468 := n2_; have HB := n3_; clear n0_ n1_ n2_ n3_; (try clear hb); (try clear hb2); (try clear hk); (try clear hi); (try clear ho0); have p481 : 0 ≤ (0 : Int) := (by omega); have q481 : 0 < (t470.length : Int) := of_decide_eq_true (by first | (with_reducible assumption) | assumption); obtain ⟨ad481, e481, hx481_0⟩ := Kd.at_int (Kd.R_reads' HO473.out).2.2 0 p481 q481; obtain rfl : ad474 = ad481 := (by injection e481); have qi481 : (0 < t470.length) = True := eq_true (by omega); (try rw [show ((0 : Int)).toNat = 0 from rfl] at hx481_0); (try rw [Addr.add_zero'] at hx481_0); replace p481 := eq_true p481; replace q481 := eq_true q481; obtain ⟨Ao33, co33, eo33⟩ := Kd.R_slice HO480.out; subst eo33; have hcz34_0 : w32.cell? ⟨gb468, 0, none⟩ = some (.int .u8 0) := (blk_cell BK468.out 0).trans rfl; have hcz34_1 : w32.cell? ⟨gb468, 1, none⟩ = some (.slice none 0 0) := (blk_cell BK468.out 1).trans rfl; have hfz34_0 := blk_frozen BK468.out 0; have hfz34_1 := blk_frozen BK468.out 1)); try go_wp2_with (first | ((with_reducible refine gate_dst (N := 2) rfl ?_); refine box_event ?hg (N := 2) ?hd (cs := #[.int .u8 0, .slice none 0 0]) (t := 60) ?hr ?_; (case hd => rfl); (case hg => rfl); (case hr => first | (go_simp; done) | (go_simp; rfl) | (go_simp; simp only [IntKind.wrap_u8]; rw [Int.tmod_eq_emod_of_nonneg (Int.natCast_nonneg _), Int.emod_emod])); intro gb468 hg w27 hbox hb; have n0_ := Aside0.mk (below_step (by repeat (first | (with_reducible first | exact HB.out | apply below_alloc | apply pw_below_drewN | apply below_drew1) | exact HB.out)) hb); have n1_ := Aside0.mk (hbox); have n2_ := Aside0.mk ((by rw [hg]; exact (below_size (by repeat (first | (with_reducible first | exact HB.out | apply below_alloc | apply pw_below_drewN | apply below_drew1) | exact HB.out))) : w.heap.size ≤ gb468)); have n3_ := Aside0.mk ((by rw [hg]; exact (below_size (by repeat (first | (with_reducible first | exact HB.out | apply below_alloc | apply pw_below_drewN | apply below_drew1) | exact HB.out))) : w.heap.size ≤ gb468)); clear HB; have HB := n0_; have BK468 := n1_; have GW468 := n2_; have GE468 := n3_; clear n0_ n1_ n2_ n3_; clear hb hbox hg; obtain ⟨i028, hi028, _, hsz28, _⟩ := info_parts info5; obtain ⟨hcut28, hA28, hC28⟩ := print_take_of (P := Try.prog) (Value.int .u8) 0 23 5 .i64 Try.underlying23 hi028 hsz28 A0 c0 l0 7 (by omega) (of_decide_eq_true (by first | (with_reducible assumption) | assumption)) HC0.out; have HR469 := Aside0.mk (Kd.C_of_reads (h1 := fun _ => rfl) (hA28 _ (Kd.reads_of_C HR0.out))); have HC469 := Aside0.mk hC28; clear hA28 hC28 hi028 hsz28) | (go_at_call 34; (try rw [← List.length_take]); (with_reducible refine (tumbrelref01_Cut.calls k _ _ (l0.take 7) t470 true _ ?side1 ?side2 A6.out).mono ?_); (case side1 => repeat (first | exact (Kd.C_below HR469.out HB.out) | (with_reducible refine Kd.C_alloc ?_ _) | (with_reducible refine Kd.C_drewN ?_ _) | (with_reducible refine Kd.C_drew ?_))); (case side2 => exact HC469.out); rintro e w29 ⟨v472, rfl, ho0, hb⟩; have n0_ := Aside0.mk (Kd.R_lower ho0 (below_size (by repeat (first | (with_reducible first | exact HB.out | apply below_alloc | apply pw_below_drewN | apply below_drew1 | refine below_set ?_ GE468.out) | exact HB.out)))); have n1_ := Aside0.mk (blk_below (g := gb468) (o := .cells #[.int .u8 0, .slice none 0 0] 60 (0, 0)) (by (with_reducible repeat (first | refine blk_drewN ?_ _ | refine blk_drew ?_ | refine blk_alloc ?_ _)); exact BK468.out) hb); have n2_ := Aside0.mk (below_step (by repeat (first | (with_reducible first | exact HB.out | apply below_alloc | apply pw_below_drewN | apply below_drew1 | refine below_set ?_ GE468.out) | exact HB.out)) hb); clear BK468; clear HB; have HO473 := n0_; have BK468 := n1_; have HB := n2_; clear n0_ n1_ n2_; (try clear hb); (try clear hb2); (try clear hk); (try clear hi); (try clear ho0); obtain ⟨Ao30, co30, eo30⟩ := Kd.R_slice HO473.out; subst eo30; have p474 : 0 ≤ (1 : Int) := (by omega); have q474 : 1 < (t470.length : Int) := of_decide_eq_true (by first | (with_reducible assumption) | assumption); obtain ⟨ad474, e474, hx474_0⟩ := Kd.at_int (Kd.R_reads' HO473.out).2.2 1 p474 q474; cases e474; (try simp only [show (1 : Int).toNat = 1 from rfl, Nat.reduceMul, Nat.reduceEqDiff, Go.Addr.add, ↓reduceIte] at hx474_0); have qi474 : (1 < t470.length) = True := eq_true (by omega); (try rw [show ((1 : Int)).toNat = 1 from rfl] at hx474_0); replace p474 := eq_true p474; replace q474 := eq_true q474; have p475 : 0 ≤ (2 : Int) := (by omega); have q475 : 2 < (t470.length : Int) := of_decide_eq_true (by first | (with_reducible assumption) | assumption); obtain ⟨ad475, e475, hx475_0⟩ := Kd.at_int (Kd.R_reads' HO473.out).2.2 2 p475 q475; obtain rfl : ad474 = ad475 := (by injection e475); (try simp only [show (2 : Int).toNat = 2 from rfl, Nat.reduceMul, Nat.reduceEqDiff, Go.Addr.add, ↓reduceIte] at hx475_0); have qi475 : (2 < t470.length) = True := eq_true (by omega); (try rw [show ((2 : Int)).toNat = 2 from rfl] at hx475_0); replace p475 := eq_true p475; replace q475 := eq_true q475; obtain ⟨i031, hi031, _, hsz31, _⟩ := info_parts info5; obtain ⟨A31, hcut31, hA31, hC31⟩ := print_mid_of (P := Try.prog) (Value.int .u8) 0 23 5 .i64 .i64 Try.underlying23 hi031 hsz31 A0 c0 l0 7 (wrap64 ((wrap64 ((wrap64 (rd t470 1)) + (wrap64 (256 * (wrap64 (rd t470 2)))))) + 11)) (by omega) (by first | omega | exact of_decide_eq_true (by first | (with_reducible assumption) | assumption)) (of_decide_eq_true (by first | (with_reducible assumption) | assumption)) HC0.out; have HR476 := Aside0.mk (Kd.C_of_reads (h1 := fun _ => rfl) (hA31 _ (Kd.reads_of_C HR0.out))); have HC476 := Aside0.mk hC31; clear hA31 hC31 hi031 hsz31) | (go_at_call 34; (try rw [show (wrap64 ((wrap64 ((wrap64 (rd t470 1)) + (wrap64 (256 * (wrap64 (rd t470 2)))))) + 11)).toNat - 7 = ((l0.take ((wrap64 ((wrap64 ((wrap64 (rd t470 1)) + (wrap64 (256 * (wrap64 (rd t470 2)))))) + 11)) : Int).toNat).drop 7).length from (by rw [List.length_drop, List.length_take]; have h_ : ((wrap64 ((wrap64 ((wrap64 (rd t470 1)) + (wrap64 (256 * (wrap64 (rd t470 2)))))) + 11)) : Int) ≤ (l0.length : Int) := of_decide_eq_true (by first | (with_reducible assumption) | assumption); omega)]); (with_reducible refine (tumbrelref01_Cut.calls k _ _ ((l0.take ((wrap64 ((wrap64 ((wrap64 (rd t470 1)) + (wrap64 (256 * (wrap64 (rd t470 2)))))) + 11)) : Int).toNat).drop 7) t477 true _ ?side1 ?side2 A24.out).mono ?_); (case side1 => repeat (first | exact (Kd.C_below HR476.out HB.out) | (with_reducible refine Kd.C_alloc ?_ _) | (with_reducible refine Kd.C_drewN ?_ _) | (with_reducible refine Kd.C_drew ?_))); (case side2 => exact HC476.out); rintro e w32 ⟨v479, rfl, ho0, hb⟩; have n0_ := Aside0.mk (Kd.R_elder' (by (with_reducible repeat (first | apply Kd.R_alloc | apply Kd.R_drewN | apply Kd.R_drew)); exact HO473.out) (Kd.R_base ho0) hb); have n1_ := Aside0.mk (Kd.R_lower (Kd.R_new' ho0 (Kd.R_lt (by (with_reducible repeat (first | apply Kd.R_alloc | apply Kd.R_drewN | apply Kd.R_drew)); exact HO473.out))) (below_size (by repeat (first | (with_reducible first | exact HB.out | apply below_alloc | apply pw_below_drewN | apply below_drew1 | refine below_set ?_ GE468.out) | exact HB.out)))); have n2_ := Aside0.mk (blk_below (g := gb468) (o := .cells #[.int .u8 0, .slice none 0 0] 60 (0, 0)) (by (with_reducible repeat (first | refine blk_drewN ?_ _ | refine blk_drew ?_ | refine blk_alloc ?_ _)); exact BK468.out) hb); have n3_ := Aside0.mk (below_step (by repeat (first | (with_reducible first | exact HB.out | apply below_alloc | apply pw_below_drewN | apply below_drew1 | refine below_set ?_ GE468.out) | exact HB.out)) hb); clear HO473; clear BK468; clear HB; have HO473 := n0_; have HO480 := n1_; have BK468 := n2_; have HB := n3_; clear n0_ n1_ n2_ n3_; (try clear hb); (try clear hb2); (try clear hk); (try clear hi); (try clear ho0); have p481 : 0 ≤ (0 : Int) := (by omega); have q481 : 0 < (t470.length : Int) := of_decide_eq_true (by first | (with_reducible assumption) | assumption); obtain ⟨ad481, e481, hx481_0⟩ := Kd.at_int (Kd.R_reads' HO473.out).2.2 0 p481 q481; obtain rfl : ad474 = ad481 := (by injection e481); have qi481 : (0 < t470.length) = True := eq_true (by omega); (try rw [show ((0 : Int)).toNat = 0 from rfl] at hx481_0); (try rw [Addr.add_zero'] at hx481_0); replace p481 := eq_true p481; replace q481 := eq_true q481; obtain ⟨Ao33, co33, eo33⟩ := Kd.R_slice HO480.out; subst eo33; have hcz34_0 : w32.cell? ⟨gb468, 0, none⟩ = some (.int .u8 0) := (blk_cell BK468.out 0).trans rfl; have hcz34_1 : w32.cell? ⟨gb468, 1, none⟩ = some (.slice none 0 0) := (blk_cell BK468.out 1).trans rfl; have hfz34_0 := blk_frozen BK468.out 0; have hfz34_1 := blk_frozen BK468.out 1)))
                        refine bodyPost_ret (results_ctt rfl _ _ gb468 60 #[.int .u8 (rd t470 0), .slice Ao33 t477.length co33] (0, 0) _ rfl (by (with_reducible repeat (first | refine blk_drewN ?_ _ | refine blk_drew ?_ | refine blk_alloc ?_ _)); refine blk_put (cs := #[.int .u8 (rd t470 0), .slice none 0 0]) ?_ 1 _ rfl; (with_reducible repeat (first | refine blk_drewN ?_ _ | refine blk_drew ?_ | refine blk_alloc ?_ _)); refine blk_put (cs := #[.int .u8 0, .slice none 0 0]) ?_ 0 _ rfl; (with_reducible repeat (first | refine blk_drewN ?_ _ | refine blk_drew ?_ | refine blk_alloc ?_ _)); exact BK468.out) Try.underlying60 rfl (by kernel_rfl)) rfl ?_
                        exact ⟨_, by first | rfl | (simp [errW_none, errW_some] <;> rfl) | (simp [*, errW_none, errW_some] <;> rfl), by (with_reducible repeat (first | apply Kd.R_alloc | apply Kd.R_drewN | apply Kd.R_drew)); exact Kd.R_mono (Kd.R_far (p := ⟨gb468, 1, none⟩) (Kd.R_far (p := ⟨gb468, 0, none⟩) (Kd.R_types HO480.out BK468.out (by decide)) (fun _ hk => hk.2) (.int .u8 (rd t470 0))) (fun _ hk => hk.2) (.slice Ao33 t477.length co33)) (fun _ hk => trivial), by repeat (first | (with_reducible first | exact HB.out | apply below_alloc | apply pw_below_drewN | apply below_drew1 | refine below_set ?_ GE468.out) | exact HB.out)⟩
                      · rw [if_neg c26] at H
                        exact absurd H (by simp)
                    · replace c25 := Bool.eq_false_iff.mpr c25
                      subst c25
                      have H1 : (some (0, ([] : List Int), 0, 8)) = some (r1, r2, r3, r4) := by rw [if_neg (show ¬ (false = true) by decide)] at H; exact H
                      clear H
                      have H := H1
                      clear H1
                      simp only [Option.some.injEq, Prod.mk.injEq] at H
                      obtain ⟨rfl, rfl, rfl, rfl⟩ := H
                      go_enter Try.func48, Try.ntmps48
                      go_wp2_with (first | ((with_reducible refine gate_dst (N := 2) rfl ?_); refine box_event ?hg (N := 2) ?hd (cs := #[.int .u8 0, .slice none 0 0]) (t := 60) ?hr ?_; (case hd => rfl); (case hg => rfl); (case hr => first | (go_simp; done) | (go_simp; rfl) | (go_simp; simp only [IntKind.wrap_u8]; rw [Int.tmod_eq_emod_of_nonneg (Int.natCast_nonneg _), Int.emod_emod])); intro gb468 hg w35 hbox hb; have n0_ := Aside0.mk (below_step (by repeat (first | (with_reducible first | exact HB.out | apply below_alloc | apply pw_below_drewN | apply below_drew1) | exact HB.out)) hb); have n1_ := Aside0.mk (hbox); have n2_ := Aside0.mk ((by rw [hg]; exact (below_size (by repeat (first | (with_reducible first | exact HB.out | apply below_alloc | apply pw_below_drewN | apply below_drew1) | exact HB.out))) : w.heap.size ≤ gb468)); have n3_ := Aside0.mk ((by rw [hg]; exact (below_size (by repeat (first | (with_reducible first | exact HB.out | apply below_alloc | apply pw_below_drewN | apply below_drew1) | exact HB.out))) : w.heap.size ≤ gb468)); clear HB; have HB := n0_; have BK468 := n1_; have GW468 := n2_; have GE468 := n3_; clear n0_ n1_ n2_ n3_; clear hb hbox hg; obtain ⟨i036, hi036, _, hsz36, _⟩ := info_parts info5; obtain ⟨hcut36, hA36, hC36⟩ := print_take_of (P := Try.prog) (Value.int .u8) 0 23 5 .i64 Try.underlying23 hi036 hsz36 A0 c0 l0 7 (by omega) (of_decide_eq_true (by first | (with_reducible assumption) | assumption)) HC0.out; have HR469 := Aside0.mk (Kd.C_of_reads (h1 := fun _ => rfl) (hA36 _ (Kd.reads_of_C HR0.out))); have HC469 := Aside0.mk hC36; clear hA36 hC36 hi036 hsz36) | (go_at_call 34; (try rw [← List.length_take]); (with_reducible refine (tumbrelref01_Cut.calls k _ _ (l0.take 7) t470 true _ ?side1 ?side2 A6.out).mono ?_); (case side1 => repeat (first | exact (Kd.C_below HR469.out HB.out) | (with_reducible refine Kd.C_alloc ?_ _) | (with_reducible refine Kd.C_drewN ?_ _) | (with_reducible refine Kd.C_drew ?_))); (case side2 => exact HC469.out); rintro e w37 ⟨v472, rfl, ho0, hb⟩; have n0_ := Aside0.mk (Kd.R_lower ho0 (below_size (by repeat (first | (with_reducible first | exact HB.out | apply below_alloc | apply pw_below_drewN | apply below_drew1 | refine below_set ?_ GE468.out) | exact HB.out)))); have n1_ := Aside0.mk (blk_below (g := gb468) (o := .cells #[.int .u8 0, .slice none 0 0] 60 (0, 0)) (by (with_reducible repeat (first | refine blk_drewN ?_ _ | refine blk_drew ?_ | refine blk_alloc ?_ _)); exact BK468.out) hb); have n2_ := Aside0.mk (below_step (by repeat (first | (with_reducible first | exact HB.out | apply below_alloc | apply pw_below_drewN | apply below_drew1 | refine below_set ?_ GE468.out) | exact HB.out)) hb); clear BK468; clear HB; have HO473 := n0_; have BK468 := n1_; have HB := n2_; clear n0_ n1_ n2_; (try clear hb); (try clear hb2); (try clear hk); (try clear hi); (try clear ho0); obtain ⟨Ao38, co38, eo38⟩ := Kd.R_slice HO473.out; subst eo38; have p474 : 0 ≤ (1 : Int) := (by omega); have q474 : 1 < (t470.length : Int) := of_decide_eq_true (by first | (with_reducible assumption) | assumption); obtain ⟨ad474, e474, hx474_0⟩ := Kd.at_int (Kd.R_reads' HO473.out).2.2 1 p474 q474; cases e474; (try simp only [show (1 : Int).toNat = 1 from rfl, Nat.reduceMul, Nat.reduceEqDiff, Go.Addr.add, ↓reduceIte] at hx474_0); have qi474 : (1 < t470.length) = True := eq_true (by omega); (try rw [show ((1 : Int)).toNat = 1 from rfl] at hx474_0); replace p474 := eq_true p474; replace q474 := eq_true q474; have p475 : 0 ≤ (2 : Int) := (by omega); have q475 : 2 < (t470.length : Int) := of_decide_eq_true (by first | (with_reducible assumption) | assumption); obtain ⟨ad475, e475, hx475_0⟩ := Kd.at_int (Kd.R_reads' HO473.out).2.2 2 p475 q475; obtain rfl : ad474 = ad475 := (by injection e475); (try simp only [show (2 : Int).toNat = 2 from rfl, Nat.reduceMul, Nat.reduceEqDiff, Go.Addr.add, ↓reduceIte] at hx475_0); have qi475 : (2 < t470.length) = True := eq_true (by omega); (try rw [show ((2 : Int)).toNat = 2 from rfl] at hx475_0); replace p475 := eq_true p475; replace q475 := eq_true q475; obtain ⟨i039, hi039, _, hsz39, _⟩ := info_parts info5; obtain ⟨A39, hcut39, hA39, hC39⟩ := print_mid_of (P := Try.prog) (Value.int .u8) 0 23 5 .i64 .i64 Try.underlying23 hi039 hsz39 A0 c0 l0 7 (wrap64 ((wrap64 ((wrap64 (rd t470 1)) + (wrap64 (256 * (wrap64 (rd t470 2)))))) + 11)) (by omega) (by first | omega | exact of_decide_eq_true (by first | (with_reducible assumption) | assumption)) (of_decide_eq_true (by first | (with_reducible assumption) | assumption)) HC0.out; have HR476 := Aside0.mk (Kd.C_of_reads (h1 := fun _ => rfl) (hA39 _ (Kd.reads_of_C HR0.out))); have HC476 := Aside0.mk hC39; clear hA39 hC39 hi039 hsz39) | (go_at_call 34; (try rw [show (wrap64 ((wrap64 ((wrap64 (rd t470 1)) + (wrap64 (256 * (wrap64 (rd t470 2)))))) + 11)).toNat - 7 = ((l0.take ((wrap64 ((wrap64 ((wrap64 (rd t470 1)) + (wrap64 (256 * (wrap64 (rd t470 2)))))) + 11)) : Int).toNat).drop 7).length from (by rw [List.length_drop, List.length_take]; have h_ : ((wrap64 ((wrap64 ((wrap64 (rd t470 1)) + (wrap64 (256 * (wrap64 (rd t470 2)))))) + 11)) : Int) ≤ (l0.length : Int) := of_decide_eq_true (by first | (with_reducible assumption) | assumption); omega)]); (with_reducible refine (tumbrelref01_Cut.calls k _ _ ((l0.take ((wrap64 ((wrap64 ((wrap64 (rd t470 1)) + (wrap64 (256 * (wrap64 (rd t470 2)))))) + 11)) : Int).toNat).drop 7) t477 false _ ?side1 ?side2 A24.out).mono ?_); (case side1 => repeat (first | exact (Kd.C_below HR476.out HB.out) | (with_reducible refine Kd.C_alloc ?_ _) | (with_reducible refine Kd.C_drewN ?_ _) | (with_reducible refine Kd.C_drew ?_))); (case side2 => exact HC476.out); rintro e w40 ⟨v479, rfl, ho0, hb⟩; have n0_ := Aside0.mk (Kd.R_elder' (by (with_reducible repeat (first | apply Kd.R_alloc | apply Kd.R_drewN | apply Kd.R_drew)); exact HO473.out) (Kd.R_base ho0) hb); have n1_ := Aside0.mk (Kd.R_lower (Kd.R_new' ho0 (Kd.R_lt (by (with_reducible repeat (first | apply Kd.R_alloc | apply Kd.R_drewN | apply Kd.R_drew)); exact HO473.out))) (below_size (by repeat (first | (with_reducible first | exact HB.out | apply below_alloc | apply pw_below_drewN | apply below_drew1 | refine below_set ?_ GE468.out) | exact HB.out)))); have n2_ := Aside0.mk (blk_below (g := gb468) (o := .cells #[.int .u8 0, .slice none 0 0] 60 (0, 0)) (by (with_reducible repeat (first | refine blk_drewN ?_ _ | refine blk_drew ?_ | refine blk_alloc ?_ _)); exact BK468.out) hb); have n3_ := Aside0.mk (below_step (by repeat (first | (with_reducible first | exact HB.out | apply below_alloc | apply pw_below_drewN | apply below_drew1 | refine below_set ?_ GE468.out) | exact HB.out)) hb); clear HO473; clear BK468; clear HB; have HO473 := n0_; have HO480 := n1_; have BK468 := n2_; have HB := n3_; clear n0_ n1_ n2_ n3_; (try clear hb); (try clear hb2); (try clear hk); (try clear hi); (try clear ho0); have hcz41_0 : w40.cell? ⟨gb468, 0, none⟩ = some (.int .u8 0) := (blk_cell BK468.out 0).trans rfl; have hcz41_1 : w40.cell? ⟨gb468, 1, none⟩ = some (.slice none 0 0) := (blk_cell BK468.out 1).trans rfl; have hfz41_0 := blk_frozen BK468.out 0; have hfz41_1 := blk_frozen BK468.out 1))
                      repeat (go_quiet (first | ((with_reducible refine gate_dst (N := 2) rfl ?_); refine box_event ?hg (N := 2) ?hd (cs := #[.int .u8 0, .slice none 0 0]) (t := 60) ?hr ?_; (case hd => rfl); (case hg => rfl); (case hr => first | (go_simp; done) | (go_simp; rfl) | (go_simp; simp only [IntKind.wrap_u8]; rw [Int.tmod_eq_emod_of_nonneg (Int.natCast_nonneg _), Int.emod_emod])); intro gb468 hg w35 hbox hb; have n0_ := Aside0.mk (below_step (by repeat (first | (with_reducible first | exact HB.out | apply below_alloc | apply pw_below_drewN | apply below_drew1) | exact HB.out)) hb); have n1_ := Aside0.mk (hbox); have n2_ := Aside0.mk ((by rw [hg]; exact (below_size (by repeat (first | (with_reducible first | exact HB.out | apply below_alloc | apply pw_below_drewN | apply below_drew1) | exact HB.out))) : w.heap.size ≤ gb468)); have n3_ := Aside0.mk ((by rw [hg]; exact (below_size (by repeat (first | (with_reducible first | exact HB.out | apply below_alloc | apply pw_below_drewN | apply below_drew1) | exact HB.out))) : w.heap.size ≤ gb468)); clear HB; have HB := n0_; have BK468 := n1_; have GW468 := n2_; have GE468 := n3_; clear n0_ n1_ n2_ n3_; clear hb hbox hg; obtain ⟨i036, hi036, _, hsz36, _⟩ := info_parts info5; obtain ⟨hcut36, hA36, hC36⟩ := print_take_of (P := Try.prog) (Value.int .u8) 0 23 5 .i64 Try.underlying23 hi036 hsz36 A0 c0 l0 7 (by omega) (of_decide_eq_true (by first | (with_reducible assumption) | assumption)) HC0.out; have HR469 := Aside0.mk (Kd.C_of_reads (h1 := fun _ => rfl) (hA36 _ (Kd.reads_of_C HR0.out))); have HC469 := Aside0.mk hC36; clear hA36 hC36 hi036 hsz36) | (go_at_call 34; (try rw [← List.length_take]); (with_reducible refine (tumbrelref01_Cut.calls k _ _ (l0.take 7) t470 true _ ?side1 ?side2 A6.out).mono ?_); (case side1 => repeat (first | exact (Kd.C_below HR469.out HB.out) | (with_reducible refine Kd.C_alloc ?_ _) | (with_reducible refine Kd.C_drewN ?_ _) | (with_reducible refine Kd.C_drew ?_))); (case side2 => exact HC469.out); rintro e w37 ⟨v472, rfl, ho0, hb⟩; have n0_ := Aside0.mk (Kd.R_lower ho0 (below_size (by repeat (first | (with_reducible first | exact HB.out | apply below_alloc | apply pw_below_drewN | apply below_drew1 | refine below_set ?_ GE468.out) | exact HB.out)))); have n1_ := Aside0.mk (blk_below (g := gb468) (o := .cells #[.int .u8 0, .slice none 0 0] 60 (0, 0)) (by (with_reducible repeat (first | refine blk_drewN ?_ _ | refine blk_drew ?_ | refine blk_alloc ?_ _)); exact BK468.out) hb); have n2_ := Aside0.mk (below_step (by repeat (first | (with_reducible first | exact HB.out | apply below_alloc | apply pw_below_drewN | apply below_drew1 | refine below_set ?_ GE468.out) | exact HB.out)) hb); clear BK468; clear HB; have HO473 := n0_; have BK468 := n1_; have HB := n2_; clear n0_ n1_ n2_; (try clear hb); (try clear hb2); (try clear hk); (try clear hi); (try clear ho0); obtain ⟨Ao38, co38, eo38⟩ := Kd.R_slice HO473.out; subst eo38; have p474 : 0 ≤ (1 : Int) := (by omega); have q474 : 1 < (t470.length : Int) := of_decide_eq_true (by first | (with_reducible assumption) | assumption); obtain ⟨ad474, e474, hx474_0⟩ := Kd.at_int (Kd.R_reads' HO473.out).2.2 1 p474 q474; cases e474; (try simp only [show (1 : Int).toNat = 1 from rfl, Nat.reduceMul, Nat.reduceEqDiff, Go.Addr.add, ↓reduceIte] at hx474_0); have qi474 : (1 < t470.length) = True := eq_true (by omega); (try rw [show ((1 : Int)).toNat = 1 from rfl] at hx474_0); replace p474 := eq_true p474; replace q474 := eq_true q474; have p475 : 0 ≤ (2 : Int) := (by omega); have q475 : 2 < (t470.length : Int) := of_decide_eq_true (by first | (with_reducible assumption) | assumption); obtain ⟨ad475, e475, hx475_0⟩ := Kd.at_int (Kd.R_reads' HO473.out).2.2 2 p475 q475; obtain rfl : ad474 = ad475 := (by injection e475); (try simp only [show (2 : Int).toNat = 2 from rfl, Nat.reduceMul, Nat.reduceEqDiff, Go.Addr.add, ↓reduceIte] at hx475_0); have qi475 : (2 < t470.length) = True := eq_true (by omega); (try rw [show ((2 : Int)).toNat = 2 from rfl] at hx475_0); replace p475 := eq_true p475; replace q475 := eq_true q475; obtain ⟨i039, hi039, _, hsz39, _⟩ := info_parts info5; obtain ⟨A39, hcut39, hA39, hC39⟩ := print_mid_of (P := Try.prog) (Value.int .u8) 0 23 5 .i64 .i64 Try.underlying23 hi039 hsz39 A0 c0 l0 7 (wrap64 ((wrap64 ((wrap64 (rd t470 1)) + (wrap64 (256 * (wrap64 (rd t470 2)))))) + 11)) (by omega) (by first | omega | exact of_decide_eq_true (by first | (with_reducible assumption) | assumption)) (of_decide_eq_true (by first | (with_reducible assumption) | assumption)) HC0.out; have HR476 := Aside0.mk (Kd.C_of_reads (h1 := fun _ => rfl) (hA39 _ (Kd.reads_of_C HR0.out))); have HC476 := Aside0.mk hC39; clear hA39 hC39 hi039 hsz39) | (go_at_call 34; (try rw [show (wrap64 ((wrap64 ((wrap64 (rd t470 1)) + (wrap64 (256 * (wrap64 (rd t470 2)))))) + 11)).toNat - 7 = ((l0.take ((wrap64 ((wrap64 ((wrap64 (rd t470 1)) + (wrap64 (256 * (wrap64 (rd t470 2)))))) + 11)) : Int).toNat).drop 7).length from (by rw [List.length_drop, List.length_take]; have h_ : ((wrap64 ((wrap64 ((wrap64 (rd t470 1)) + (wrap64 (256 * (wrap64 (rd t470 2)))))) + 11)) : Int) ≤ (l0.length : Int) := of_decide_eq_true (by first | (with_reducible assumption) | assumption); omega)]); (with_reducible refine (tumbrelref01_Cut.calls k _ _ ((l0.take ((wrap64 ((wrap64 ((wrap64 (rd t470 1)) + (wrap64 (256 * (wrap64 (rd t470 2)))))) + 11)) : Int).toNat).drop 7) t477 false _ ?side1 ?side2 A24.out).mono ?_); (case side1 => repeat (first | exact (Kd.C_below HR476.out HB.out) | (with_reducible refine Kd.C_alloc ?_ _) | (with_reducible refine Kd.C_drewN ?_ _) | (with_reducible refine Kd.C_drew ?_))); (case side2 => exact HC476.out); rintro e w40 ⟨v479, rfl, ho0, hb⟩; have n0_ := Aside0.mk (Kd.R_elder' (by (with_reducible repeat (first | apply Kd.R_alloc | apply Kd.R_drewN | apply Kd.R_drew)); exact HO473.out) (Kd.R_base ho0) hb); have n1_ := Aside0.mk (Kd.R_lower (Kd.R_new' ho0 (Kd.R_lt (by (with_reducible repeat (first | apply Kd.R_alloc | apply Kd.R_drewN | apply Kd.R_drew)); exact HO473.out))) (below_size (by repeat (first | (with_reducible first | exact HB.out | apply below_alloc | apply pw_below_drewN | apply below_drew1 | refine below_set ?_ GE468.out) | exact HB.out)))); have n2_ := Aside0.mk (blk_below (g := gb468) (o := .cells #[.int .u8 0, .slice none 0 0] 60 (0, 0)) (by (with_reducible repeat (first | refine blk_drewN ?_ _ | refine blk_drew ?_ | refine blk_alloc ?_ _)); exact BK468.out) hb); have n3_ := Aside0.mk (below_step (by repeat (first | (with_reducible first | exact HB.out | apply below_alloc | apply pw_below_drewN | apply below_drew1 | refine below_set ?_ GE468.out) | exact HB.out)) hb); clear HO473; clear BK468; clear HB; have HO473 := n0_; have HO480 := n1_; have BK468 := n2_; have HB := n3_; clear n0_ n1_ n2_ n3_; (try clear hb); (try clear hb2); (try clear hk); (try clear hi); (try clear ho0); have hcz41_0 : w40.cell? ⟨gb468, 0, none⟩ = some (.int .u8 0) := (blk_cell BK468.out 0).trans rfl; have hcz41_1 : w40.cell? ⟨gb468, 1, none⟩ = some (.slice none 0 0) := (blk_cell BK468.out 1).trans rfl; have hfz41_0 := blk_frozen BK468.out 0; have hfz41_1 := blk_frozen BK468.out 1)); try go_wp2_with (first | ((with_reducible refine gate_dst (N := 2) rfl ?_); refine box_event ?hg (N := 2) ?hd (cs := #[.int .u8 0, .slice none 0 0]) (t := 60) ?hr ?_; (case hd => rfl); (case hg => rfl); (case hr => first | (go_simp; done) | (go_simp; rfl) | (go_simp; simp only [IntKind.wrap_u8]; rw [Int.tmod_eq_emod_of_nonneg (Int.natCast_nonneg _), Int.emod_emod])); intro gb468 hg w35 hbox hb; have n0_ := Aside0.mk (below_step (by repeat (first | (with_reducible first | exact HB.out | apply below_alloc | apply pw_below_drewN | apply below_drew1) | exact HB.out)) hb); have n1_ := Aside0.mk (hbox); have n2_ := Aside0.mk ((by rw [hg]; exact (below_size (by repeat (first | (with_reducible first | exact HB.out | apply below_alloc | apply pw_below_drewN | apply below_drew1) | exact HB.out))) : w.heap.size ≤ gb468)); have n3_ := Aside0.mk ((by rw [hg]; exact (below_size (by repeat (first | (with_reducible first | exact HB.out | apply below_alloc | apply pw_below_drewN | apply below_drew1) | exact HB.out))) : w.heap.size ≤ gb468)); clear HB; have HB := n0_; have BK468 := n1_; have GW468 := n2_; have GE468 := n3_; clear n0_ n1_ n2_ n3_; clear hb hbox hg; obtain ⟨i036, hi036, _, hsz36, _⟩ := info_parts info5; obtain ⟨hcut36, hA36, hC36⟩ := print_take_of (P := Try.prog) (Value.int .u8) 0 23 5 .i64 Try.underlying23 hi036 hsz36 A0 c0 l0 7 (by omega) (of_decide_eq_true (by first | (with_reducible assumption) | assumption)) HC0.out; have HR469 := Aside0.mk (Kd.C_of_reads (h1 := fun _ => rfl) (hA36 _ (Kd.reads_of_C HR0.out))); have HC469 := Aside0.mk hC36; clear hA36 hC36 hi036 hsz36) | (go_at_call 34; (try rw [← List.length_take]); (with_reducible refine (tumbrelref01_Cut.calls k _ _ (l0.take 7) t470 true _ ?side1 ?side2 A6.out).mono ?_); (case side1 => repeat (first | exact (Kd.C_below HR469.out HB.out) | (with_reducible refine Kd.C_alloc ?_ _) | (with_reducible refine Kd.C_drewN ?_ _) | (with_reducible refine Kd.C_drew ?_))); (case side2 => exact HC469.out); rintro e w37 ⟨v472, rfl, ho0, hb⟩; have n0_ := Aside0.mk (Kd.R_lower ho0 (below_size (by repeat (first | (with_reducible first | exact HB.out | apply below_alloc | apply pw_below_drewN | apply below_drew1 | refine below_set ?_ GE468.out) | exact HB.out)))); have n1_ := Aside0.mk (blk_below (g := gb468) (o := .cells #[.int .u8 0, .slice none 0 0] 60 (0, 0)) (by (with_reducible repeat (first | refine blk_drewN ?_ _ | refine blk_drew ?_ | refine blk_alloc ?_ _)); exact BK468.out) hb); have n2_ := Aside0.mk (below_step (by repeat (first | (with_reducible first | exact HB.out | apply below_alloc | apply pw_below_drewN | apply below_drew1 | refine below_set ?_ GE468.out) | exact HB.out)) hb); clear BK468; clear HB; have HO473 := n0_; have BK468 := n1_; have HB := n2_; clear n0_ n1_ n2_; (try clear hb); (try clear hb2); (try clear hk); (try clear hi); (try clear ho0); obtain ⟨Ao38, co38, eo38⟩ := Kd.R_slice HO473.out; subst eo38; have p474 : 0 ≤ (1 : Int) := (by omega); have q474 : 1 < (t470.length : Int) := of_decide_eq_true (by first | (with_reducible assumption) | assumption); obtain ⟨ad474, e474, hx474_0⟩ := Kd.at_int (Kd.R_reads' HO473.out).2.2 1 p474 q474; cases e474; (try simp only [show (1 : Int).toNat = 1 from rfl, Nat.reduceMul, Nat.reduceEqDiff, Go.Addr.add, ↓reduceIte] at hx474_0); have qi474 : (1 < t470.length) = True := eq_true (by omega); (try rw [show ((1 : Int)).toNat = 1 from rfl] at hx474_0); replace p474 := eq_true p474; replace q474 := eq_true q474; have p475 : 0 ≤ (2 : Int) := (by omega); have q475 : 2 < (t470.length : Int) := of_decide_eq_true (by first | (with_reducible assumption) | assumption); obtain ⟨ad475, e475, hx475_0⟩ := Kd.at_int (Kd.R_reads' HO473.out).2.2 2 p475 q475; obtain rfl : ad474 = ad475 := (by injection e475); (try simp only [show (2 : Int).toNat = 2 from rfl, Nat.reduceMul, Nat.reduceEqDiff, Go.Addr.add, ↓reduceIte] at hx475_0); have qi475 : (2 < t470.length) = True := eq_true (by omega); (try rw [show ((2 : Int)).toNat = 2 from rfl] at hx475_0); replace p475 := eq_true p475; replace q475 := eq_true q475; obtain ⟨i039, hi039, _, hsz39, _⟩ := info_parts info5; obtain ⟨A39, hcut39, hA39, hC39⟩ := print_mid_of (P := Try.prog) (Value.int .u8) 0 23 5 .i64 .i64 Try.underlying23 hi039 hsz39 A0 c0 l0 7 (wrap64 ((wrap64 ((wrap64 (rd t470 1)) + (wrap64 (256 * (wrap64 (rd t470 2)))))) + 11)) (by omega) (by first | omega | exact of_decide_eq_true (by first | (with_reducible assumption) | assumption)) (of_decide_eq_true (by first | (with_reducible assumption) | assumption)) HC0.out; have HR476 := Aside0.mk (Kd.C_of_reads (h1 := fun _ => rfl) (hA39 _ (Kd.reads_of_C HR0.out))); have HC476 := Aside0.mk hC39; clear hA39 hC39 hi039 hsz39) | (go_at_call 34; (try rw [show (wrap64 ((wrap64 ((wrap64 (rd t470 1)) + (wrap64 (256 * (wrap64 (rd t470 2)))))) + 11)).toNat - 7 = ((l0.take ((wrap64 ((wrap64 ((wrap64 (rd t470 1)) + (wrap64 (256 * (wrap64 (rd t470 2)))))) + 11)) : Int).toNat).drop 7).length from (by rw [List.length_drop, List.length_take]; have h_ : ((wrap64 ((wrap64 ((wrap64 (rd t470 1)) + (wrap64 (256 * (wrap64 (rd t470 2)))))) + 11)) : Int) ≤ (l0.length : Int) := of_decide_eq_true (by first | (with_reducible assumption) | assumption); omega)]); (with_reducible refine (tumbrelref01_Cut.calls k _ _ ((l0.take ((wrap64 ((wrap64 ((wrap64 (rd t470 1)) + (wrap64 (256 * (wrap64 (rd t470 2)))))) + 11)) : Int).toNat).drop 7) t477 false _ ?side1 ?side2 A24.out).mono ?_); (case side1 => repeat (first | exact (Kd.C_below HR476.out HB.out) | (with_reducible refine Kd.C_alloc ?_ _) | (with_reducible refine Kd.C_drewN ?_ _) | (with_reducible refine Kd.C_drew ?_))); (case side2 => exact HC476.out); rintro e w40 ⟨v479, rfl, ho0, hb⟩; have n0_ := Aside0.mk (Kd.R_elder' (by (with_reducible repeat (first | apply Kd.R_alloc | apply Kd.R_drewN | apply Kd.R_drew)); exact HO473.out) (Kd.R_base ho0) hb); have n1_ := Aside0.mk (Kd.R_lower (Kd.R_new' ho0 (Kd.R_lt (by (with_reducible repeat (first | apply Kd.R_alloc | apply Kd.R_drewN | apply Kd.R_drew)); exact HO473.out))) (below_size (by repeat (first | (with_reducible first | exact HB.out | apply below_alloc | apply pw_below_drewN | apply below_drew1 | refine below_set ?_ GE468.out) | exact HB.out)))); have n2_ := Aside0.mk (blk_below (g := gb468) (o := .cells #[.int .u8 0, .slice none 0 0] 60 (0, 0)) (by (with_reducible repeat (first | refine blk_drewN ?_ _ | refine blk_drew ?_ | refine blk_alloc ?_ _)); exact BK468.out) hb); have n3_ := Aside0.mk (below_step (by repeat (first | (with_reducible first | exact HB.out | apply below_alloc | apply pw_below_drewN | apply below_drew1 | refine below_set ?_ GE468.out) | exact HB.out)) hb); clear HO473; clear BK468; clear HB; have HO473 := n0_; have HO480 := n1_; have BK468 := n2_; have HB := n3_; clear n0_ n1_ n2_ n3_; (try clear hb); (try clear hb2); (try clear hk); (try clear hi); (try clear ho0); have hcz41_0 : w40.cell? ⟨gb468, 0, none⟩ = some (.int .u8 0) := (blk_cell BK468.out 0).trans rfl; have hcz41_1 : w40.cell? ⟨gb468, 1, none⟩ = some (.slice none 0 0) := (blk_cell BK468.out 1).trans rfl; have hfz41_0 := blk_frozen BK468.out 0; have hfz41_1 := blk_frozen BK468.out 1)))
                      refine bodyPost_ret (results_ctt rfl _ _ gb468 60 #[.int .u8 0, .slice none 0 0] (0, 0) _ rfl (by (with_reducible repeat (first | refine blk_drewN ?_ _ | refine blk_drew ?_ | refine blk_alloc ?_ _)); refine blk_put (cs := #[.int .u8 0, .slice none 0 0]) ?_ 1 _ rfl; (with_reducible repeat (first | refine blk_drewN ?_ _ | refine blk_drew ?_ | refine blk_alloc ?_ _)); refine blk_put (cs := #[.int .u8 0, .slice none 0 0]) ?_ 0 _ rfl; (with_reducible repeat (first | refine blk_drewN ?_ _ | refine blk_drew ?_ | refine blk_alloc ?_ _)); exact BK468.out) Try.underlying60 rfl (by kernel_rfl)) rfl ?_
                      exact ⟨_, by first | rfl | (simp [errW_none, errW_some] <;> rfl) | (simp [*, errW_none, errW_some] <;> rfl), by first | exact Kd.R_nil _ _ _ _ _ | exact Kd.N_nil _ _ _ _ _ | exact Kd.V_nil _ _ _ _ _ | exact Kd.Q_nil _ _ _ _ _ | exact Kd.S_nil _ _ _ _ _, by repeat (first | (with_reducible first | exact HB.out | apply below_alloc | apply pw_below_drewN | apply below_drew1 | refine below_set ?_ GE468.out) | exact HB.out)⟩
                  · rw [if_neg c23] at H
                    exact absurd H (by simp)
                · rw [if_neg c22] at H
                  exact absurd H (by simp)
          · rw [if_neg c9] at H
            exact absurd H (by simp)
        · rw [if_neg c8] at H
          exact absurd H (by simp)
      · replace c7 := Bool.eq_false_iff.mpr c7
        subst c7
        have H1 : (some (0, ([] : List Int), 0, 8)) = some (r1, r2, r3, r4) := by rw [if_neg (show ¬ (false = true) by decide)] at H; exact H
        clear H
        have H := H1
        clear H1
        simp only [Option.some.injEq, Prod.mk.injEq] at H
        obtain ⟨rfl, rfl, rfl, rfl⟩ := H
        go_enter Try.func48, Try.ntmps48
        go_wp2_with (first | ((with_reducible refine gate_dst (N := 2) rfl ?_); refine box_event ?hg (N := 2) ?hd (cs := #[.int .u8 0, .slice none 0 0]) (t := 60) ?hr ?_; (case hd => rfl); (case hg => rfl); (case hr => first | (go_simp; done) | (go_simp; rfl) | (go_simp; simp only [IntKind.wrap_u8]; rw [Int.tmod_eq_emod_of_nonneg (Int.natCast_nonneg _), Int.emod_emod])); intro gb468 hg w42 hbox hb; have n0_ := Aside0.mk (below_step (by repeat (first | (with_reducible first | exact HB.out | apply below_alloc | apply pw_below_drewN | apply below_drew1) | exact HB.out)) hb); have n1_ := Aside0.mk (hbox); have n2_ := Aside0.mk ((by rw [hg]; exact (below_size (by repeat (first | (with_reducible first | exact HB.out | apply below_alloc | apply pw_below_drewN | apply below_drew1) | exact HB.out))) : w.heap.size ≤ gb468)); have n3_ := Aside0.mk ((by rw [hg]; exact (below_size (by repeat (first | (with_reducible first | exact HB.out | apply below_alloc | apply pw_below_drewN | apply below_drew1) | exact HB.out))) : w.heap.size ≤ gb468)); clear HB; have HB := n0_; have BK468 := n1_; have GW468 := n2_; have GE468 := n3_; clear n0_ n1_ n2_ n3_; clear hb hbox hg; obtain ⟨i043, hi043, _, hsz43, _⟩ := info_parts info5; obtain ⟨hcut43, hA43, hC43⟩ := print_take_of (P := Try.prog) (Value.int .u8) 0 23 5 .i64 Try.underlying23 hi043 hsz43 A0 c0 l0 7 (by omega) (of_decide_eq_true (by first | (with_reducible assumption) | assumption)) HC0.out; have HR469 := Aside0.mk (Kd.C_of_reads (h1 := fun _ => rfl) (hA43 _ (Kd.reads_of_C HR0.out))); have HC469 := Aside0.mk hC43; clear hA43 hC43 hi043 hsz43) | (go_at_call 34; (try rw [← List.length_take]); (with_reducible refine (tumbrelref01_Cut.calls k _ _ (l0.take 7) t470 false _ ?side1 ?side2 A6.out).mono ?_); (case side1 => repeat (first | exact (Kd.C_below HR469.out HB.out) | (with_reducible refine Kd.C_alloc ?_ _) | (with_reducible refine Kd.C_drewN ?_ _) | (with_reducible refine Kd.C_drew ?_))); (case side2 => exact HC469.out); rintro e w44 ⟨v472, rfl, ho0, hb⟩; have n0_ := Aside0.mk (Kd.R_lower ho0 (below_size (by repeat (first | (with_reducible first | exact HB.out | apply below_alloc | apply pw_below_drewN | apply below_drew1 | refine below_set ?_ GE468.out) | exact HB.out)))); have n1_ := Aside0.mk (blk_below (g := gb468) (o := .cells #[.int .u8 0, .slice none 0 0] 60 (0, 0)) (by (with_reducible repeat (first | refine blk_drewN ?_ _ | refine blk_drew ?_ | refine blk_alloc ?_ _)); exact BK468.out) hb); have n2_ := Aside0.mk (below_step (by repeat (first | (with_reducible first | exact HB.out | apply below_alloc | apply pw_below_drewN | apply below_drew1 | refine below_set ?_ GE468.out) | exact HB.out)) hb); clear BK468; clear HB; have HO473 := n0_; have BK468 := n1_; have HB := n2_; clear n0_ n1_ n2_; (try clear hb); (try clear hb2); (try clear hk); (try clear hi); (try clear ho0); have hcz45_0 : w44.cell? ⟨gb468, 0, none⟩ = some (.int .u8 0) := (blk_cell BK468.out 0).trans rfl; have hcz45_1 : w44.cell? ⟨gb468, 1, none⟩ = some (.slice none 0 0) := (blk_cell BK468.out 1).trans rfl; have hfz45_0 := blk_frozen BK468.out 0; have hfz45_1 := blk_frozen BK468.out 1))
        repeat (go_quiet (first | ((with_reducible refine gate_dst (N := 2) rfl ?_); refine box_event ?hg (N := 2) ?hd (cs := #[.int .u8 0, .slice none 0 0]) (t := 60) ?hr ?_; (case hd => rfl); (case hg => rfl); (case hr => first | (go_simp; done) | (go_simp; rfl) | (go_simp; simp only [IntKind.wrap_u8]; rw [Int.tmod_eq_emod_of_nonneg (Int.natCast_nonneg _), Int.emod_emod])); intro gb468 hg w42 hbox hb; have n0_ := Aside0.mk (below_step (by repeat (first | (with_reducible first | exact HB.out | apply below_alloc | apply pw_below_drewN | apply below_drew1) | exact HB.out)) hb); have n1_ := Aside0.mk (hbox); have n2_ := Aside0.mk ((by rw [hg]; exact (below_size (by repeat (first | (with_reducible first | exact HB.out | apply below_alloc | apply pw_below_drewN | apply below_drew1) | exact HB.out))) : w.heap.size ≤ gb468)); have n3_ := Aside0.mk ((by rw [hg]; exact (below_size (by repeat (first | (with_reducible first | exact HB.out | apply below_alloc | apply pw_below_drewN | apply below_drew1) | exact HB.out))) : w.heap.size ≤ gb468)); clear HB; have HB := n0_; have BK468 := n1_; have GW468 := n2_; have GE468 := n3_; clear n0_ n1_ n2_ n3_; clear hb hbox hg; obtain ⟨i043, hi043, _, hsz43, _⟩ := info_parts info5; obtain ⟨hcut43, hA43, hC43⟩ := print_take_of (P := Try.prog) (Value.int .u8) 0 23 5 .i64 Try.underlying23 hi043 hsz43 A0 c0 l0 7 (by omega) (of_decide_eq_true (by first | (with_reducible assumption) | assumption)) HC0.out; have HR469 := Aside0.mk (Kd.C_of_reads (h1 := fun _ => rfl) (hA43 _ (Kd.reads_of_C HR0.out))); have HC469 := Aside0.mk hC43; clear hA43 hC43 hi043 hsz43) | (go_at_call 34; (try rw [← List.length_take]); (with_reducible refine (tumbrelref01_Cut.calls k _ _ (l0.take 7) t470 false _ ?side1 ?side2 A6.out).mono ?_); (case side1 => repeat (first | exact (Kd.C_below HR469.out HB.out) | (with_reducible refine Kd.C_alloc ?_ _) | (with_reducible refine Kd.C_drewN ?_ _) | (with_reducible refine Kd.C_drew ?_))); (case side2 => exact HC469.out); rintro e w44 ⟨v472, rfl, ho0, hb⟩; have n0_ := Aside0.mk (Kd.R_lower ho0 (below_size (by repeat (first | (with_reducible first | exact HB.out | apply below_alloc | apply pw_below_drewN | apply below_drew1 | refine below_set ?_ GE468.out) | exact HB.out)))); have n1_ := Aside0.mk (blk_below (g := gb468) (o := .cells #[.int .u8 0, .slice none 0 0] 60 (0, 0)) (by (with_reducible repeat (first | refine blk_drewN ?_ _ | refine blk_drew ?_ | refine blk_alloc ?_ _)); exact BK468.out) hb); have n2_ := Aside0.mk (below_step (by repeat (first | (with_reducible first | exact HB.out | apply below_alloc | apply pw_below_drewN | apply below_drew1 | refine below_set ?_ GE468.out) | exact HB.out)) hb); clear BK468; clear HB; have HO473 := n0_; have BK468 := n1_; have HB := n2_; clear n0_ n1_ n2_; (try clear hb); (try clear hb2); (try clear hk); (try clear hi); (try clear ho0); have hcz45_0 : w44.cell? ⟨gb468, 0, none⟩ = some (.int .u8 0) := (blk_cell BK468.out 0).trans rfl; have hcz45_1 : w44.cell? ⟨gb468, 1, none⟩ = some (.slice none 0 0) := (blk_cell BK468.out 1).trans rfl; have hfz45_0 := blk_frozen BK468.out 0; have hfz45_1 := blk_frozen BK468.out 1)); try go_wp2_with (first | ((with_reducible refine gate_dst (N := 2) rfl ?_); refine box_event ?hg (N := 2) ?hd (cs := #[.int .u8 0, .slice none 0 0]) (t := 60) ?hr ?_; (case hd => rfl); (case hg => rfl); (case hr => first | (go_simp; done) | (go_simp; rfl) | (go_simp; simp only [IntKind.wrap_u8]; rw [Int.tmod_eq_emod_of_nonneg (Int.natCast_nonneg _), Int.emod_emod])); intro gb468 hg w42 hbox hb; have n0_ := Aside0.mk (below_step (by repeat (first | (with_reducible first | exact HB.out | apply below_alloc | apply pw_below_drewN | apply below_drew1) | exact HB.out)) hb); have n1_ := Aside0.mk (hbox); have n2_ := Aside0.mk ((by rw [hg]; exact (below_size (by repeat (first | (with_reducible first | exact HB.out | apply below_alloc | apply pw_below_drewN | apply below_drew1) | exact HB.out))) : w.heap.size ≤ gb468)); have n3_ := Aside0.mk ((by rw [hg]; exact (below_size (by repeat (first | (with_reducible first | exact HB.out | apply below_alloc | apply pw_below_drewN | apply below_drew1) | exact HB.out))) : w.heap.size ≤ gb468)); clear HB; have HB := n0_; have BK468 := n1_; have GW468 := n2_; have GE468 := n3_; clear n0_ n1_ n2_ n3_; clear hb hbox hg; obtain ⟨i043, hi043, _, hsz43, _⟩ := info_parts info5; obtain ⟨hcut43, hA43, hC43⟩ := print_take_of (P := Try.prog) (Value.int .u8) 0 23 5 .i64 Try.underlying23 hi043 hsz43 A0 c0 l0 7 (by omega) (of_decide_eq_true (by first | (with_reducible assumption) | assumption)) HC0.out; have HR469 := Aside0.mk (Kd.C_of_reads (h1 := fun _ => rfl) (hA43 _ (Kd.reads_of_C HR0.out))); have HC469 := Aside0.mk hC43; clear hA43 hC43 hi043 hsz43) | (go_at_call 34; (try rw [← List.length_take]); (with_reducible refine (tumbrelref01_Cut.calls k _ _ (l0.take 7) t470 false _ ?side1 ?side2 A6.out).mono ?_); (case side1 => repeat (first | exact (Kd.C_below HR469.out HB.out) | (with_reducible refine Kd.C_alloc ?_ _) | (with_reducible refine Kd.C_drewN ?_ _) | (with_reducible refine Kd.C_drew ?_))); (case side2 => exact HC469.out); rintro e w44 ⟨v472, rfl, ho0, hb⟩; have n0_ := Aside0.mk (Kd.R_lower ho0 (below_size (by repeat (first | (with_reducible first | exact HB.out | apply below_alloc | apply pw_below_drewN | apply below_drew1 | refine below_set ?_ GE468.out) | exact HB.out)))); have n1_ := Aside0.mk (blk_below (g := gb468) (o := .cells #[.int .u8 0, .slice none 0 0] 60 (0, 0)) (by (with_reducible repeat (first | refine blk_drewN ?_ _ | refine blk_drew ?_ | refine blk_alloc ?_ _)); exact BK468.out) hb); have n2_ := Aside0.mk (below_step (by repeat (first | (with_reducible first | exact HB.out | apply below_alloc | apply pw_below_drewN | apply below_drew1 | refine below_set ?_ GE468.out) | exact HB.out)) hb); clear BK468; clear HB; have HO473 := n0_; have BK468 := n1_; have HB := n2_; clear n0_ n1_ n2_; (try clear hb); (try clear hb2); (try clear hk); (try clear hi); (try clear ho0); have hcz45_0 : w44.cell? ⟨gb468, 0, none⟩ = some (.int .u8 0) := (blk_cell BK468.out 0).trans rfl; have hcz45_1 : w44.cell? ⟨gb468, 1, none⟩ = some (.slice none 0 0) := (blk_cell BK468.out 1).trans rfl; have hfz45_0 := blk_frozen BK468.out 0; have hfz45_1 := blk_frozen BK468.out 1)))
        refine bodyPost_ret (results_ctt rfl _ _ gb468 60 #[.int .u8 0, .slice none 0 0] (0, 0) _ rfl (by (with_reducible repeat (first | refine blk_drewN ?_ _ | refine blk_drew ?_ | refine blk_alloc ?_ _)); refine blk_put (cs := #[.int .u8 0, .slice none 0 0]) ?_ 1 _ rfl; (with_reducible repeat (first | refine blk_drewN ?_ _ | refine blk_drew ?_ | refine blk_alloc ?_ _)); refine blk_put (cs := #[.int .u8 0, .slice none 0 0]) ?_ 0 _ rfl; (with_reducible repeat (first | refine blk_drewN ?_ _ | refine blk_drew ?_ | refine blk_alloc ?_ _)); exact BK468.out) Try.underlying60 rfl (by kernel_rfl)) rfl ?_
        exact ⟨_, by first | rfl | (simp [errW_none, errW_some] <;> rfl) | (simp [*, errW_none, errW_some] <;> rfl), by first | exact Kd.R_nil _ _ _ _ _ | exact Kd.N_nil _ _ _ _ _ | exact Kd.V_nil _ _ _ _ _ | exact Kd.Q_nil _ _ _ _ _ | exact Kd.S_nil _ _ _ _ _, by repeat (first | (with_reducible first | exact HB.out | apply below_alloc | apply pw_below_drewN | apply below_drew1 | refine below_set ?_ GE468.out) | exact HB.out)⟩
    · rw [if_neg c5] at H
      exact absurd H (by simp)
end Go.Proofs.Ytojepleodijdeaa.B
namespace Go.Proofs.Ytojepleodijdeaa.B
open Go.RowKit Go.Proofs.YtojepleodijdeaaW.PrintWords Go.Proofs.YtojepleodijdeaaW.PrintLast Go.Proofs.YtojepleodijdeaaW.PrintMore
attribute [local go_sem] max2_int min2_int max_two min_two max_three min_three max_four min_four   -- for this text's walks alone
set_option linter.unusedVariables false
set_option linter.unusedSimpArgs false
def tumbrelref04_All.l0 : Nat → List Int → List (S60) → Int → Option ((List (S60)) × Int × Int)
  | 0, _, _, _ => none
  | k + 1, x0, x5, x6 => if x6 < (x0.length : Int) then (if 0 ≤ x6 then (if x6 ≤ (x0.length : Int) then ((tumbrelref04_Read.f k (x0.drop (x6 : Int).toNat)).bind fun bt486 => (if bt486.2.2.2 = 0 then (if x5.length < 4398046511104 then (tumbrelref04_All.l0 k x0 (x5 ++ [(⟨bt486.1, bt486.2.1⟩ : S60)]) (wrap64 (x6 + bt486.2.2.1))) else (none)) else (some (x5, x6, bt486.2.2.2)))) else (none)) else (none)) else (some (x5, x6, 0))
def tumbrelref04_All.f (k : Nat) (l0 : List Int) : Option ((List (S60)) × Int × Int) := tumbrelref04_All.l0 k l0 (([] : List (S60))) 0
set_option maxHeartbeats 8000000 in
set_option maxRecDepth 100000 in
theorem tumbrelref04_All.calls (k : Nat) (A0 : Option Addr) (c0 : Nat) (l0 : List Int) (r1 : List (S60)) (r2 : Int) (r3 : Int) (w : World) (hr0 : Kd.C (Kd.int .u8) w A0 l0.length l0) (hc0 : l0.length ≤ c0) (h : tumbrelref04_All.f k l0 = some (r1, r2, r3)) :
    Calls Try.prog 50 #[.slice A0 l0.length c0] w fun e w' => ∃ v0_ : Value, e = .returned (.tuple #[v0_, .int .i64 r2, .int .i64 r3]) ∧ Kd.S k60 60 w' w.heap.size (fun _ => True) v0_ r1 ∧ Below w.heap.size w w' := by
  have hu60 := Try.underlying60
  have HR0 := Aside0.mk hr0
  have HC0 := Aside0.mk hc0
  clear hr0 hc0
  have HB := Aside0.mk (Below.refl w.heap.size w)
  have H : (tumbrelref04_All.l0 k l0 (([] : List (S60))) 0) = some (r1, r2, r3) := h
  clear h
  obtain ⟨y482, hy482⟩ : ∃ y_ : List (S60), y_ = (([] : List (S60))) := ⟨_, rfl⟩
  replace H : (tumbrelref04_All.l0 k l0 y482 0) = some (r1, r2, r3) := by first | (rw [hy482]; with_reducible exact H) | (have H2_ := (Option.bind_some _ _).symm.trans H; rw [hy482]; with_reducible exact H2_) | (have H2_ := (Option.bind_some _ _).symm.trans H; with_reducible exact H2_) | with_reducible exact H | (rw [hy482]; exact H) | exact H
  have Ny482 := Aside0.mk hy482
  clear hy482
  have H' := Aside0.mk H
  clear H
  go_enter Try.func50, Try.ntmps50
  go_wp2_with (first | ((with_reducible refine gate_dst (N := 10) rfl ?_); refine Kd.S_lit k60 _ 60 ?hg (N := 10) ?hd (xs := ([] : List (S60))) (inner := []) (ok := fun _ => True) (okp := fun _ => True) ?hr ?hp (fun _ hk => hk) trivial (Below.refl _ _) (Nat.le_refl _) (by simp) ?_; (case hd => rfl); (case hg => rfl); (case hr => first | (go_simp; done) | (go_simp; rfl)); (case hp => exact (Reps.none _ _)); intro v483 w2 ho3 hb hg_ hnew_; clear hg_ hnew_; (first | rw [← Ny482.out] at ho3 | (simp only [Int.reduceToNat] at ho3; rw [← Ny482.out] at ho3)); have n0_ := Aside0.mk (Kd.S_lower ho3 (below_size (by repeat (first | (with_reducible first | exact HB.out | apply below_alloc | apply pw_below_drewN | apply below_drew1) | exact HB.out)))); have n1_ := Aside0.mk (below_step (by repeat (first | (with_reducible first | exact HB.out | apply below_alloc | apply pw_below_drewN | apply below_drew1) | exact HB.out)) hb); clear HB; have HO484 := n0_; have HB := n1_; clear n0_ n1_; clear hb ho3))
  go_loopg [5, 6] k (fun kq v5 v6 w' => ∃ (x5_1 : List (S60)) (x6_1 : Int), v6 = .int .i64 x6_1 ∧ Aside0 (tumbrelref04_All.l0 kq l0 x5_1 x6_1 = some (r1, r2, r3)) ∧ Aside0 (kq ≤ k) ∧ Aside0 (Kd.S k60 60 w' w.heap.size (fun _ => True) v5 x5_1) ∧ Aside0 (Below w.heap.size w w'))
  case atStart => exact ⟨(y482), (0), (by first | rfl | (simp; done) | (simp [*]; done)), H', ⟨Nat.le_refl _⟩, ⟨by (with_reducible repeat (first | apply Kd.S_alloc | apply Kd.S_drewN | apply Kd.S_drew)); exact HO484.out⟩, ⟨by repeat (first | (with_reducible first | exact HB.out | apply below_alloc | apply pw_below_drewN | apply below_drew1) | exact HB.out)⟩⟩
  case round =>
    clear H'
    try clear p2
    obtain ⟨x5_1, x6_1, rfl, HA, HK1, HO_5, HB⟩ := hrel
    cases gk with
    | zero => exact absurd HA.out (by simp [tumbrelref04_All.l0])
    | succ k1 =>
      have H := HA.out
      clear HA
      simp only [tumbrelref04_All.l0] at H
      by_cases c4 : x6_1 < (l0.length : Int)
      · rw [if_pos c4] at H
        have c4b0 : decide (x6_1 < (l0.length : Int)) = true := decide_eq_true c4
        clear c4
        by_cases c5 : 0 ≤ x6_1
        · rw [if_pos c5] at H
          have c5b0 := eq_true c5
          have c5b1 : decide (0 ≤ x6_1) = true := decide_eq_true c5
          clear c5
          by_cases c6 : x6_1 ≤ (l0.length : Int)
          · rw [if_pos c6] at H
            have c6b0 := eq_true c6
            have c6b1 : decide (x6_1 ≤ (l0.length : Int)) = true := decide_eq_true c6
            clear c6
            replace H := Option.bind_eq_some_iff.mp H
            obtain ⟨⟨t486, t487, t490, t491⟩, A70, H⟩ := H
            replace H : (if t491 = 0 then (if x5_1.length < 4398046511104 then (tumbrelref04_All.l0 k1 l0 (x5_1 ++ [(⟨t486, t487⟩ : S60)]) (wrap64 (x6_1 + t490))) else (none)) else (some (x5_1, x6_1, t491))) = some (r1, r2, r3) := H
            have A7 := Aside0.mk A70
            clear A70
            by_cases c8 : t491 = 0
            · rw [if_pos c8] at H
              have c8b0 : (t491 == 0) = true := beq_iff_eq.mpr c8
              have c8b1 : (t491 != 0) = false := bne_eq_false_iff_eq.mpr c8
              clear c8
              by_cases c9 : x5_1.length < 4398046511104
              · rw [if_pos c9] at H
                have LMc9 := Aside0.mk c9
                clear c9
                obtain ⟨y493, hy493⟩ : ∃ y_ : List (S60), y_ = (x5_1 ++ [(⟨t486, t487⟩ : S60)]) := ⟨_, rfl⟩
                replace H : (tumbrelref04_All.l0 k1 l0 y493 (wrap64 (x6_1 + t490))) = some (r1, r2, r3) := by first | (rw [hy493]; with_reducible exact H) | (have H2_ := (Option.bind_some _ _).symm.trans H; rw [hy493]; with_reducible exact H2_) | (have H2_ := (Option.bind_some _ _).symm.trans H; with_reducible exact H2_) | with_reducible exact H | (rw [hy493]; exact H) | exact H
                have Ny493 := Aside0.mk hy493
                clear hy493
                have H' := Aside0.mk H
                clear H
                obtain ⟨i010, hi010, _, hsz10, _⟩ := info_parts info5
                obtain ⟨A10, hcut10, hA10, hC10⟩ := print_drop_of (P := Try.prog) (Value.int .u8) 0 23 5 .i64 Try.underlying23 hi010 hsz10 A0 c0 l0 x6_1 (of_decide_eq_true (by first | (with_reducible assumption) | assumption)) (of_decide_eq_true (by first | (with_reducible assumption) | assumption)) HC0.out
                have HR485 := Aside0.mk (Kd.C_of_reads (h1 := fun _ => rfl) (hA10 _ (Kd.reads_of_C HR0.out)))
                have HC485 := Aside0.mk hC10
                clear hA10 hC10 hi010 hsz10
                go_wp2_with (first | ((with_reducible refine gate_callee (f := 48) rfl ?_); refine goesL_ (some 19) rfl rfl Try.func48 (by kernel_rfl) rfl #[.slice A10 (l0.drop (x6_1 : Int).toNat).length (c0 - x6_1.toNat)] rfl (by (try simp only [List.map_toArray, List.map_cons, List.map_nil]); first | done | (rw [show (l0.drop (x6_1 : Int).toNat).length = (l0.length - x6_1.toNat) from List.length_drop] <;> rfl) | rfl | (simp only [List.length_drop, List.length_take]; rfl)) ?_; (with_reducible refine (tumbrelref04_Read.calls k1 _ _ (l0.drop (x6_1 : Int).toNat) t486 t487 t490 t491 _ ?side1 ?side2 A7.out).mono ?_); (case side1 => repeat (first | exact (Kd.C_below HR485.out HB.out) | (with_reducible refine Kd.C_alloc ?_ _) | (with_reducible refine Kd.C_drewN ?_ _) | (with_reducible refine Kd.C_drew ?_))); (case side2 => exact HC485.out); rintro e w11 ⟨v488, rfl, ho0, hb⟩; refine ⟨_, rfl, ?_⟩; have n0_ := Aside0.mk (Kd.S_elder' (by (with_reducible repeat (first | apply Kd.S_alloc | apply Kd.S_drewN | apply Kd.S_drew)); exact HO_5.out) (Kd.R_base ho0) hb); have n1_ := Aside0.mk (Kd.R_lower ho0 (below_size (by repeat (first | (with_reducible first | exact HB.out | apply below_alloc | apply pw_below_drewN | apply below_drew1) | exact HB.out)))); have n2_ := Aside0.mk (below_step (by repeat (first | (with_reducible first | exact HB.out | apply below_alloc | apply pw_below_drewN | apply below_drew1) | exact HB.out)) hb); clear HO_5; clear HB; have HO_5 := n0_; have HO489 := n1_; have HB := n2_; clear n0_ n1_ n2_; (try clear hb); (try clear hb2); (try clear hk); (try clear hi); (try clear ho0)) | ((with_reducible refine gate_dst (N := 7) rfl ?_); refine box_event ?hg (N := 7) ?hd (cs := #[.int .u8 0, .slice none 0 0]) (t := 60) ?hr ?_; (case hd => rfl); (case hg => rfl); (case hr => first | (go_simp; done) | (go_simp; rfl)); intro gb492 hg w12 hbox hb; have n0_ := Aside0.mk (Kd.S_below (Kd.S_elderB (by (with_reducible repeat (first | apply Kd.S_alloc | apply Kd.S_drewN | apply Kd.S_drew)); exact HO_5.out) gb492 (Nat.le_of_eq hg.symm)) hb); have n1_ := Aside0.mk (Kd.R_below (by (with_reducible repeat (first | apply Kd.R_alloc | apply Kd.R_drewN | apply Kd.R_drew)); exact HO489.out) hb); have n2_ := Aside0.mk (below_step (by repeat (first | (with_reducible first | exact HB.out | apply below_alloc | apply pw_below_drewN | apply below_drew1) | exact HB.out)) hb); have n3_ := Aside0.mk (hbox); have n4_ := Aside0.mk ((by rw [hg]; exact (below_size (by repeat (first | (with_reducible first | exact HB.out | apply below_alloc | apply pw_below_drewN | apply below_drew1) | exact HB.out))) : w.heap.size ≤ gb492)); have n5_ := Aside0.mk ((by rw [hg]; exact (below_size (by repeat (first | (with_reducible first | exact HB.out | apply below_alloc | apply pw_below_drewN | apply below_drew1) | exact HB.out))) : w.heap.size ≤ gb492)); clear HO_5; clear HO489; clear HB; have HO_5 := n0_; have HO489 := n1_; have HB := n2_; have BK492 := n3_; have GW492 := n4_; have GE492 := n5_; clear n0_ n1_ n2_ n3_ n4_ n5_; clear hb hbox hg; have hcz13_0 : w12.cell? ⟨gb492, 0, none⟩ = some (.int .u8 0) := (blk_cell BK492.out 0).trans rfl; have hcz13_1 : w12.cell? ⟨gb492, 1, none⟩ = some (.slice none 0 0) := (blk_cell BK492.out 1).trans rfl; have hfz13_0 := blk_frozen BK492.out 0; have hfz13_1 := blk_frozen BK492.out 1; obtain ⟨Ao14, co14, eo14⟩ := Kd.R_slice HO489.out; subst eo14) | ((with_reducible refine gate_store (t := 60) (p := 7) rfl ?_); refine store_event (t := 60) (p := 7) (v := ?vo_w15) (w1 := ((w12.setCell ⟨gb492, 0, none⟩ (.int .u8 t486)).setCell ⟨gb492, 1, none⟩ (.slice Ao14 t487.length co14))) ?hg ?ho ?hn ?hr ?_; (case ho => rfl); (case hg => rfl); (case hn => rfl); (case hr => first | (go_simp; done) | (go_simp; rfl)); intro w15 hw; have n0_ : Aside0 (Kd.S k60 60 w15 w.heap.size (fun k_ => some k_ ≠ (.slice Ao14 t487.length co14 : Value).ownBlock ∧ k_ ≠ gb492) u5 x5_1) := ⟨(by rw [hw]; exact (by (with_reducible repeat (first | apply Kd.S_alloc | apply Kd.S_drewN | apply Kd.S_drew)); exact Kd.S_mono (Kd.S_far (p := ⟨gb492, 1, none⟩) (Kd.S_far (p := ⟨gb492, 0, none⟩) (Kd.S_mono HO_5.out (fun k_ hk => (⟨hk, hk.2⟩ : _ ∧ k_ ≠ gb492))) (fun _ hk => hk.2) (.int .u8 t486)) (fun _ hk => hk.2) (.slice Ao14 t487.length co14)) (fun _ hk => ⟨hk.1.1.2, hk.1.2⟩)))⟩; have n1_ : Aside0 (Kd.R (Kd.int .u8) 5 w15 w.heap.size (fun _ => True) (.slice Ao14 t487.length co14) t487) := ⟨(by rw [hw]; exact (by (with_reducible repeat (first | apply Kd.R_alloc | apply Kd.R_drewN | apply Kd.R_drew)); exact Kd.R_mono (Kd.R_far (p := ⟨gb492, 1, none⟩) (Kd.R_far (p := ⟨gb492, 0, none⟩) (Kd.R_types HO489.out BK492.out (by decide)) (fun _ hk => hk.2) (.int .u8 t486)) (fun _ hk => hk.2) (.slice Ao14 t487.length co14)) (fun _ hk => trivial)))⟩; have n2_ : Aside0 (w15.heap[gb492]? = some (.cells #[.int .u8 t486, .slice Ao14 t487.length co14] 60 (0, 0))) := ⟨(by rw [hw]; exact (by (with_reducible repeat (first | refine blk_drewN ?_ _ | refine blk_drew ?_ | refine blk_alloc ?_ _)); refine blk_put (cs := #[.int .u8 t486, .slice none 0 0]) ?_ 1 _ rfl; (with_reducible repeat (first | refine blk_drewN ?_ _ | refine blk_drew ?_ | refine blk_alloc ?_ _)); refine blk_put (cs := #[.int .u8 0, .slice none 0 0]) ?_ 0 _ rfl; (with_reducible repeat (first | refine blk_drewN ?_ _ | refine blk_drew ?_ | refine blk_alloc ?_ _)); exact BK492.out))⟩; have n3_ : Aside0 (Below w.heap.size w w15) := ⟨(by rw [hw]; exact (by repeat (first | (with_reducible first | exact HB.out | apply below_alloc | apply pw_below_drewN | apply below_drew1 | refine below_set ?_ GE492.out) | exact HB.out)))⟩; clear hw; clear HO_5; clear HO489; clear BK492; clear HB; have HO_5 := n0_; have HO489 := n1_; have BK492 := n2_; have HB := n3_; clear n0_ n1_ n2_ n3_; have hcz16_0 : w15.cell? ⟨gb492, 0, none⟩ = some (.int .u8 t486) := (blk_cell BK492.out 0).trans rfl; have hcz16_1 : w15.cell? ⟨gb492, 1, none⟩ = some (.slice Ao14 t487.length co14) := (blk_cell BK492.out 1).trans rfl; have hfz16_0 := blk_frozen BK492.out 0; have hfz16_1 := blk_frozen BK492.out 1) | ((with_reducible refine gate_builtin (b := .append) (xs := #[.tmp 28, .tmp 30]) rfl ?_); at_builtin; refine Kd.S_append k60 (w0 := w) w.heap.size rfl (.tmp 28) (.tmp 30) 68 60 (.agg #[(.int .u8 0), (.slice none 0 0)]) 32 rfl Try.underlying68 info60 rfl (by decide) (by omega) u5 x5_1 (⟨t486, t487⟩ : S60) [.int .u8 t486, .slice Ao14 t487.length co14] (fun k_ => k_ ≠ gb492) (fun k_ => some k_ = (.slice Ao14 t487.length co14 : Value).ownBlock) rfl rfl ?aP (fun k_ hk_ => ((Kd.R_mono (ok' := fun k_ => ((fun k_ => k_ ≠ gb492)) k_ ∧ some k_ ≠ (u5 : Value).ownBlock) (Kd.R_types (Kd.R_apart' (HO489.out) (Kd.S_typed HO_5.out) (by decide)) BK492.out (by decide)) (fun k_ hk => ⟨hk.2, hk.1.2⟩))).1 k_ hk_.symm) ?aF ?aO ?aB ?aS ?aL ?_; (case aP => exact k60_mkM _ _ _ (⟨t486, t487⟩ : S60) (Kd.R_mono (Kd.R_tight rfl (Kd.R_mono (ok' := fun k_ => ((fun k_ => k_ ≠ gb492)) k_ ∧ some k_ ≠ (u5 : Value).ownBlock) (Kd.R_types (Kd.R_apart' (HO489.out) (Kd.S_typed HO_5.out) (by decide)) BK492.out (by decide)) (fun k_ hk => ⟨hk.2, hk.1.2⟩))) (fun _ h_ => h_))); (case aB => exact (by repeat (first | (with_reducible first | exact HB.out | apply below_alloc | apply pw_below_drewN | apply below_drew1 | refine below_set ?_ GE492.out) | exact HB.out))); (case aF => exact (fun k_ hk => Kd.freshB (g := gb492) (o := .cells #[.int .u8 t486, .slice Ao14 t487.length co14] 60 (0, 0)) (by (with_reducible repeat (first | refine blk_drewN ?_ _ | refine blk_drew ?_ | refine blk_alloc ?_ _)); exact BK492.out) k_ hk)); (case aO => exact (by (with_reducible repeat (first | apply Kd.S_alloc | apply Kd.S_drewN | apply Kd.S_drew)); exact Kd.S_mono HO_5.out (fun k_ hk => ⟨hk.2, fun e_ => hk.1 e_⟩))); (case aS => exact (below_size (by repeat (first | (with_reducible first | exact HB.out | apply below_alloc | apply pw_below_drewN | apply below_drew1 | refine below_set ?_ GE492.out) | exact HB.out)))); (case aL => have := LMc9.out; omega); intro v494 w17 ho hb hg hat; rw [← Ny493.out] at ho; have n0_ := Aside0.mk (blk_grown (g := gb492) (o := .cells #[.int .u8 t486, .slice Ao14 t487.length co14] 60 (0, 0)) (by (with_reducible repeat (first | refine blk_drewN ?_ _ | refine blk_drew ?_ | refine blk_alloc ?_ _)); exact BK492.out) hg (Kd.S_away HO_5.out (fun _ hk => hk.2))); have n1_ := Aside0.mk (hb); have n2_ := Aside0.mk (ho); clear BK492; clear HB; clear HO_5; clear HO489; have BK492 := n0_; have HB := n1_; have HO495 := n2_; clear n0_ n1_ n2_; clear ho hb hg hat))
                go_roundg k1
                case measure => have := HK1.out; omega
                case rel => exact ⟨(y493), (wrap64 (x6_1 + t490)), (by first | rfl | (simp; done) | (simp [*]; done)), H', ⟨by have := HK1.out; omega⟩, ⟨by (with_reducible repeat (first | apply Kd.S_alloc | apply Kd.S_drewN | apply Kd.S_drew)); exact Kd.S_mono HO495.out (fun _ hk => trivial)⟩, ⟨by repeat (first | (with_reducible first | exact HB.out | apply below_alloc | apply pw_below_drewN | apply below_drew1 | refine below_set ?_ GE492.out) | exact HB.out)⟩⟩
              · rw [if_neg c9] at H
                exact absurd H (by simp)
            · rw [if_neg c8] at H
              have c8b0 : (t491 == 0) = false := beq_eq_false_iff_ne.mpr c8
              have c8b1 : (t491 != 0) = true := bne_iff_ne.mpr c8
              simp only [Option.some.injEq, Prod.mk.injEq] at H
              obtain ⟨rfl, rfl, rfl⟩ := H
              obtain ⟨i018, hi018, _, hsz18, _⟩ := info_parts info5
              obtain ⟨A18, hcut18, hA18, hC18⟩ := print_drop_of (P := Try.prog) (Value.int .u8) 0 23 5 .i64 Try.underlying23 hi018 hsz18 A0 c0 l0 x6_1 (of_decide_eq_true (by first | (with_reducible assumption) | assumption)) (of_decide_eq_true (by first | (with_reducible assumption) | assumption)) HC0.out
              have HR485 := Aside0.mk (Kd.C_of_reads (h1 := fun _ => rfl) (hA18 _ (Kd.reads_of_C HR0.out)))
              have HC485 := Aside0.mk hC18
              clear hA18 hC18 hi018 hsz18
              go_wp2_with (first | ((with_reducible refine gate_callee (f := 48) rfl ?_); refine goesL_ (some 19) rfl rfl Try.func48 (by kernel_rfl) rfl #[.slice A18 (l0.drop (x6_1 : Int).toNat).length (c0 - x6_1.toNat)] rfl (by (try simp only [List.map_toArray, List.map_cons, List.map_nil]); first | done | (rw [show (l0.drop (x6_1 : Int).toNat).length = (l0.length - x6_1.toNat) from List.length_drop] <;> rfl) | rfl | (simp only [List.length_drop, List.length_take]; rfl)) ?_; (with_reducible refine (tumbrelref04_Read.calls k1 _ _ (l0.drop (x6_1 : Int).toNat) t486 t487 t490 t491 _ ?side1 ?side2 A7.out).mono ?_); (case side1 => repeat (first | exact (Kd.C_below HR485.out HB.out) | (with_reducible refine Kd.C_alloc ?_ _) | (with_reducible refine Kd.C_drewN ?_ _) | (with_reducible refine Kd.C_drew ?_))); (case side2 => exact HC485.out); rintro e w19 ⟨v488, rfl, ho0, hb⟩; refine ⟨_, rfl, ?_⟩; have n0_ := Aside0.mk (Kd.S_elder' (by (with_reducible repeat (first | apply Kd.S_alloc | apply Kd.S_drewN | apply Kd.S_drew)); exact HO_5.out) (Kd.R_base ho0) hb); have n1_ := Aside0.mk (Kd.R_lower ho0 (below_size (by repeat (first | (with_reducible first | exact HB.out | apply below_alloc | apply pw_below_drewN | apply below_drew1) | exact HB.out)))); have n2_ := Aside0.mk (below_step (by repeat (first | (with_reducible first | exact HB.out | apply below_alloc | apply pw_below_drewN | apply below_drew1) | exact HB.out)) hb); clear HO_5; clear HB; have HO_5 := n0_; have HO489 := n1_; have HB := n2_; clear n0_ n1_ n2_; (try clear hb); (try clear hb2); (try clear hk); (try clear hi); (try clear ho0)) | ((with_reducible refine gate_dst (N := 7) rfl ?_); refine box_event ?hg (N := 7) ?hd (cs := #[.int .u8 0, .slice none 0 0]) (t := 60) ?hr ?_; (case hd => rfl); (case hg => rfl); (case hr => first | (go_simp; done) | (go_simp; rfl)); intro gb492 hg w20 hbox hb; have n0_ := Aside0.mk (Kd.S_below (Kd.S_elderB (by (with_reducible repeat (first | apply Kd.S_alloc | apply Kd.S_drewN | apply Kd.S_drew)); exact HO_5.out) gb492 (Nat.le_of_eq hg.symm)) hb); have n1_ := Aside0.mk (Kd.R_below (by (with_reducible repeat (first | apply Kd.R_alloc | apply Kd.R_drewN | apply Kd.R_drew)); exact HO489.out) hb); have n2_ := Aside0.mk (below_step (by repeat (first | (with_reducible first | exact HB.out | apply below_alloc | apply pw_below_drewN | apply below_drew1) | exact HB.out)) hb); have n3_ := Aside0.mk (hbox); have n4_ := Aside0.mk ((by rw [hg]; exact (below_size (by repeat (first | (with_reducible first | exact HB.out | apply below_alloc | apply pw_below_drewN | apply below_drew1) | exact HB.out))) : w.heap.size ≤ gb492)); have n5_ := Aside0.mk ((by rw [hg]; exact (below_size (by repeat (first | (with_reducible first | exact HB.out | apply below_alloc | apply pw_below_drewN | apply below_drew1) | exact HB.out))) : w.heap.size ≤ gb492)); clear HO_5; clear HO489; clear HB; have HO_5 := n0_; have HO489 := n1_; have HB := n2_; have BK492 := n3_; have GW492 := n4_; have GE492 := n5_; clear n0_ n1_ n2_ n3_ n4_ n5_; clear hb hbox hg; have hcz21_0 : w20.cell? ⟨gb492, 0, none⟩ = some (.int .u8 0) := (blk_cell BK492.out 0).trans rfl; have hcz21_1 : w20.cell? ⟨gb492, 1, none⟩ = some (.slice none 0 0) := (blk_cell BK492.out 1).trans rfl; have hfz21_0 := blk_frozen BK492.out 0; have hfz21_1 := blk_frozen BK492.out 1; obtain ⟨Ao22, co22, eo22⟩ := Kd.R_slice HO489.out; subst eo22))
              go_ret3
              exact ⟨_, by first | rfl | (simp [errW_none, errW_some] <;> rfl) | (simp [*, errW_none, errW_some] <;> rfl), by (with_reducible repeat (first | apply Kd.S_alloc | apply Kd.S_drewN | apply Kd.S_drew)); exact Kd.S_mono (Kd.S_far (p := ⟨gb492, 1, none⟩) (Kd.S_far (p := ⟨gb492, 0, none⟩) (Kd.S_mono HO_5.out (fun k_ hk => (⟨hk, hk.2⟩ : _ ∧ k_ ≠ gb492))) (fun _ hk => hk.2) (.int .u8 t486)) (fun _ hk => hk.2) (.slice Ao22 t487.length co22)) (fun _ hk => trivial), by repeat (first | (with_reducible first | exact HB.out | apply below_alloc | apply pw_below_drewN | apply below_drew1 | refine below_set ?_ GE492.out) | exact HB.out)⟩
          · rw [if_neg c6] at H
            exact absurd H (by simp)
        · rw [if_neg c5] at H
          exact absurd H (by simp)
      · rw [if_neg c4] at H
        have c4b0 : decide (x6_1 < (l0.length : Int)) = false := decide_eq_false c4
        clear c4
        simp only [Option.some.injEq, Prod.mk.injEq] at H
        obtain ⟨rfl, rfl, rfl⟩ := H
        go_wp2
        go_ret3
        exact ⟨_, by first | rfl | (simp [errW_none, errW_some] <;> rfl) | (simp [*, errW_none, errW_some] <;> rfl), by (with_reducible repeat (first | apply Kd.S_alloc | apply Kd.S_drewN | apply Kd.S_drew)); exact HO_5.out, by repeat (first | (with_reducible first | exact HB.out | apply below_alloc | apply pw_below_drewN | apply below_drew1) | exact HB.out)⟩
def tumbrelref04_Same.l0 : Nat → List (S60) → List (S60) → Int → Option (Bool)
  | 0, _, _, _ => none
  | k + 1, x0, x1, x5 => if x5 < (x0.length : Int) then (if 0 ≤ x5 then (if x5 < (x1.length : Int) then (if ((rd_T60 x0 x5).f0) = ((rd_T60 x1 x5).f0) then ((tumbrelref01_Same.f k ((rd_T60 x0 x5).f1) ((rd_T60 x1 x5).f1)).bind fun t500 => (if t500 = true then (tumbrelref04_Same.l0 k x0 x1 (wrap64 (x5 + 1))) else (some false))) else (some false)) else (none)) else (none)) else (some true)
def tumbrelref04_Same.f (k : Nat) (l0 : List (S60)) (l1 : List (S60)) : Option (Bool) := if (l0.length : Int) = (l1.length : Int) then (tumbrelref04_Same.l0 k l0 l1 0) else (some false)
set_option maxHeartbeats 8000000 in
set_option maxRecDepth 100000 in
theorem tumbrelref04_Same.calls (k : Nat) (A0 : Option Addr) (c0 : Nat) (l0 : List (S60)) (A1 : Option Addr) (c1 : Nat) (l1 : List (S60)) (r : Bool) (w : World) (hr0 : Kd.C k60 w A0 l0.length l0) (hc0 : l0.length ≤ c0) (hr1 : Kd.C k60 w A1 l1.length l1) (hc1 : l1.length ≤ c1) (h : tumbrelref04_Same.f k l0 l1 = some r) :
    Calls Try.prog 51 #[.slice A0 l0.length c0, .slice A1 l1.length c1] w fun e w' => e = .returned (.bool r) ∧ Drawn0 w w' := by
  have HR0 := Aside0.mk hr0
  have HC0 := Aside0.mk hc0
  clear hr0 hc0
  have HR1 := Aside0.mk hr1
  have HC1 := Aside0.mk hc1
  clear hr1 hc1
  have H : (if (l0.length : Int) = (l1.length : Int) then (tumbrelref04_Same.l0 k l0 l1 0) else (some false)) = some r := h
  clear h
  by_cases c3 : (l0.length : Int) = (l1.length : Int)
  · rw [if_pos c3] at H
    have c3b0 : ((l0.length : Int) == (l1.length : Int)) = true := beq_iff_eq.mpr c3
    have c3b1 : ((l0.length : Int) != (l1.length : Int)) = false := bne_eq_false_iff_eq.mpr c3
    have c3b2 : (l0.length == l1.length) = true := by first | simpa using c3 | (simp at c3 ⊢; omega)
    clear c3
    have H' := Aside0.mk H
    clear H
    go_enter Try.func51, Try.ntmps51
    go_wp2
    repeat (go_quiet (fail); try go_wp2)
    go_loopg [5] k (fun kq v5 w' => ∃ (x5_1 : Int), v5 = .int .i64 x5_1 ∧ Aside0 (tumbrelref04_Same.l0 kq l0 l1 x5_1 = some r) ∧ Aside0 (kq ≤ k) ∧ Drawn0 w w')
    case atStart => exact ⟨(0), (by first | rfl | (simp; done) | (simp [*]; done)), H', ⟨Nat.le_refl _⟩, by repeat (first | exact Drawn0.refl _ | apply Drawn0.step)⟩
    case round =>
      clear H'
      try clear c1
      try clear p2
      try clear c3
      try clear c3b0
      try clear c3b1
      try clear c3b2
      obtain ⟨x5_1, rfl, HA, HK1, ⟨m1, rfl⟩⟩ := hrel
      cases gk with
      | zero => exact absurd HA.out (by simp [tumbrelref04_Same.l0])
      | succ k1 =>
        have H := HA.out
        clear HA
        simp only [tumbrelref04_Same.l0] at H
        by_cases c4 : x5_1 < (l0.length : Int)
        · rw [if_pos c4] at H
          have c4b0 : decide (x5_1 < (l0.length : Int)) = true := decide_eq_true c4
          clear c4
          by_cases c5 : 0 ≤ x5_1
          · rw [if_pos c5] at H
            have c5b0 : decide (0 ≤ x5_1) = true := decide_eq_true c5
            clear c5
            by_cases c6 : x5_1 < (l1.length : Int)
            · rw [if_pos c6] at H
              have c6b0 : decide (x5_1 < (l1.length : Int)) = true := decide_eq_true c6
              clear c6
              by_cases c7 : ((rd_T60 l0 x5_1).f0) = ((rd_T60 l1 x5_1).f0)
              · rw [if_pos c7] at H
                have c7b0 : (((rd_T60 l0 x5_1).f0) == ((rd_T60 l1 x5_1).f0)) = true := beq_iff_eq.mpr c7
                have c7b1 : (((rd_T60 l0 x5_1).f0) != ((rd_T60 l1 x5_1).f0)) = false := bne_eq_false_iff_eq.mpr c7
                clear c7
                replace H := Option.bind_eq_some_iff.mp H
                obtain ⟨t500, A80, H⟩ := H
                replace H : (if t500 = true then (tumbrelref04_Same.l0 k1 l0 l1 (wrap64 (x5_1 + 1))) else (some false)) = some r := H
                have A8 := Aside0.mk A80
                clear A80
                by_cases c9 : t500 = true
                · subst c9
                  have H1 : (tumbrelref04_Same.l0 k1 l0 l1 (wrap64 (x5_1 + 1))) = some r := by rw [if_pos rfl] at H; exact H
                  clear H
                  have H := H1
                  clear H1
                  have H' := Aside0.mk H
                  clear H
                  have p496 : 0 ≤ (x5_1 : Int) := of_decide_eq_true (by first | (with_reducible assumption) | assumption)
                  have q496 : x5_1 < (l0.length : Int) := of_decide_eq_true (by first | (with_reducible assumption) | assumption)
                  obtain ⟨ad496, A496_1, c496_1, e496, hx496_0, hx496_1, hl496_1, hi496_1⟩ := at_T60 HR0.out x5_1 p496 q496
                  cases e496
                  have HR496_1 := Aside0.mk hi496_1
                  have HC496_1 := Aside0.mk hl496_1
                  clear hi496_1 hl496_1
                  replace p496 := eq_true p496
                  replace q496 := eq_true q496
                  have p497 : 0 ≤ (x5_1 : Int) := of_decide_eq_true (by first | (with_reducible assumption) | assumption)
                  have q497 : x5_1 < (l1.length : Int) := of_decide_eq_true (by first | (with_reducible assumption) | assumption)
                  obtain ⟨ad497, A497_1, c497_1, e497, hx497_0, hx497_1, hl497_1, hi497_1⟩ := at_T60 HR1.out x5_1 p497 q497
                  cases e497
                  have HR497_1 := Aside0.mk hi497_1
                  have HC497_1 := Aside0.mk hl497_1
                  clear hi497_1 hl497_1
                  replace p497 := eq_true p497
                  replace q497 := eq_true q497
                  have p498 : 0 ≤ (x5_1 : Int) := of_decide_eq_true (by first | (with_reducible assumption) | assumption)
                  have q498 : x5_1 < (l0.length : Int) := of_decide_eq_true (by first | (with_reducible assumption) | assumption)
                  obtain ⟨ad498, A498_1, c498_1, e498, hx498_0, hx498_1, hl498_1, hi498_1⟩ := at_T60 HR0.out x5_1 p498 q498
                  obtain rfl : ad496 = ad498 := (by injection e498)
                  have HR498_1 := Aside0.mk hi498_1
                  have HC498_1 := Aside0.mk hl498_1
                  clear hi498_1 hl498_1
                  replace p498 := eq_true p498
                  replace q498 := eq_true q498
                  have ea_ := Option.some.inj (hx496_1.symm.trans hx498_1)
                  injection ea_ with ea_ en_ ec_
                  subst ea_
                  subst ec_
                  clear en_
                  have p499 : 0 ≤ (x5_1 : Int) := of_decide_eq_true (by first | (with_reducible assumption) | assumption)
                  have q499 : x5_1 < (l1.length : Int) := of_decide_eq_true (by first | (with_reducible assumption) | assumption)
                  obtain ⟨ad499, A499_1, c499_1, e499, hx499_0, hx499_1, hl499_1, hi499_1⟩ := at_T60 HR1.out x5_1 p499 q499
                  obtain rfl : ad497 = ad499 := (by injection e499)
                  have HR499_1 := Aside0.mk hi499_1
                  have HC499_1 := Aside0.mk hl499_1
                  clear hi499_1 hl499_1
                  replace p499 := eq_true p499
                  replace q499 := eq_true q499
                  have ea_ := Option.some.inj (hx497_1.symm.trans hx499_1)
                  injection ea_ with ea_ en_ ec_
                  subst ea_
                  subst ec_
                  clear en_
                  go_wp2_with (first | (go_at_call 27; (with_reducible refine (tumbrelref01_Same.calls k1 _ _ ((rd_T60 l0 x5_1).f1) _ _ ((rd_T60 l1 x5_1).f1) true _ ?side1 ?side2 ?side3 ?side4 A8.out).mono ?_); (case side1 => repeat (first | exact HR498_1.out | (with_reducible refine Kd.C_alloc ?_ _) | (with_reducible refine Kd.C_drewN ?_ _) | (with_reducible refine Kd.C_drew ?_))); (case side2 => exact HC498_1.out); (case side3 => repeat (first | exact HR499_1.out | (with_reducible refine Kd.C_alloc ?_ _) | (with_reducible refine Kd.C_drewN ?_ _) | (with_reducible refine Kd.C_drew ?_))); (case side4 => exact HC499_1.out); rintro e w' ⟨rfl, ⟨nd, rfl⟩⟩; (try first | exact ⟨rfl, _, World.drewN_drewN _ _ _⟩ | exact ⟨rfl, _, Eq.trans (World.drewN_drewN _ _ _) (congrArg (World.drewN _) (Nat.add_assoc _ _ _))⟩)))
                  repeat (go_quiet (first | (go_at_call 27; (with_reducible refine (tumbrelref01_Same.calls k1 _ _ ((rd_T60 l0 x5_1).f1) _ _ ((rd_T60 l1 x5_1).f1) true _ ?side1 ?side2 ?side3 ?side4 A8.out).mono ?_); (case side1 => repeat (first | exact HR498_1.out | (with_reducible refine Kd.C_alloc ?_ _) | (with_reducible refine Kd.C_drewN ?_ _) | (with_reducible refine Kd.C_drew ?_))); (case side2 => exact HC498_1.out); (case side3 => repeat (first | exact HR499_1.out | (with_reducible refine Kd.C_alloc ?_ _) | (with_reducible refine Kd.C_drewN ?_ _) | (with_reducible refine Kd.C_drew ?_))); (case side4 => exact HC499_1.out); rintro e w' ⟨rfl, ⟨nd, rfl⟩⟩; (try first | exact ⟨rfl, _, World.drewN_drewN _ _ _⟩ | exact ⟨rfl, _, Eq.trans (World.drewN_drewN _ _ _) (congrArg (World.drewN _) (Nat.add_assoc _ _ _))⟩))); try go_wp2_with (first | (go_at_call 27; (with_reducible refine (tumbrelref01_Same.calls k1 _ _ ((rd_T60 l0 x5_1).f1) _ _ ((rd_T60 l1 x5_1).f1) true _ ?side1 ?side2 ?side3 ?side4 A8.out).mono ?_); (case side1 => repeat (first | exact HR498_1.out | (with_reducible refine Kd.C_alloc ?_ _) | (with_reducible refine Kd.C_drewN ?_ _) | (with_reducible refine Kd.C_drew ?_))); (case side2 => exact HC498_1.out); (case side3 => repeat (first | exact HR499_1.out | (with_reducible refine Kd.C_alloc ?_ _) | (with_reducible refine Kd.C_drewN ?_ _) | (with_reducible refine Kd.C_drew ?_))); (case side4 => exact HC499_1.out); rintro e w' ⟨rfl, ⟨nd, rfl⟩⟩; (try first | exact ⟨rfl, _, World.drewN_drewN _ _ _⟩ | exact ⟨rfl, _, Eq.trans (World.drewN_drewN _ _ _) (congrArg (World.drewN _) (Nat.add_assoc _ _ _))⟩))))
                  go_roundg k1
                  case measure => have := HK1.out; omega
                  case rel => exact ⟨(wrap64 (x5_1 + 1)), (by first | rfl | (simp; done) | (simp [*]; done)), H', ⟨by have := HK1.out; omega⟩, by repeat (first | exact Drawn0.refl _ | apply Drawn0.step)⟩
                · replace c9 := Bool.eq_false_iff.mpr c9
                  subst c9
                  have H1 : (some false) = some r := by rw [if_neg (show ¬ (false = true) by decide)] at H; exact H
                  clear H
                  have H := H1
                  clear H1
                  obtain rfl := Option.some.inj H
                  have p496 : 0 ≤ (x5_1 : Int) := of_decide_eq_true (by first | (with_reducible assumption) | assumption)
                  have q496 : x5_1 < (l0.length : Int) := of_decide_eq_true (by first | (with_reducible assumption) | assumption)
                  obtain ⟨ad496, A496_1, c496_1, e496, hx496_0, hx496_1, hl496_1, hi496_1⟩ := at_T60 HR0.out x5_1 p496 q496
                  cases e496
                  have HR496_1 := Aside0.mk hi496_1
                  have HC496_1 := Aside0.mk hl496_1
                  clear hi496_1 hl496_1
                  replace p496 := eq_true p496
                  replace q496 := eq_true q496
                  have p497 : 0 ≤ (x5_1 : Int) := of_decide_eq_true (by first | (with_reducible assumption) | assumption)
                  have q497 : x5_1 < (l1.length : Int) := of_decide_eq_true (by first | (with_reducible assumption) | assumption)
                  obtain ⟨ad497, A497_1, c497_1, e497, hx497_0, hx497_1, hl497_1, hi497_1⟩ := at_T60 HR1.out x5_1 p497 q497
                  cases e497
                  have HR497_1 := Aside0.mk hi497_1
                  have HC497_1 := Aside0.mk hl497_1
                  clear hi497_1 hl497_1
                  replace p497 := eq_true p497
                  replace q497 := eq_true q497
                  have p498 : 0 ≤ (x5_1 : Int) := of_decide_eq_true (by first | (with_reducible assumption) | assumption)
                  have q498 : x5_1 < (l0.length : Int) := of_decide_eq_true (by first | (with_reducible assumption) | assumption)
                  obtain ⟨ad498, A498_1, c498_1, e498, hx498_0, hx498_1, hl498_1, hi498_1⟩ := at_T60 HR0.out x5_1 p498 q498
                  obtain rfl : ad496 = ad498 := (by injection e498)
                  have HR498_1 := Aside0.mk hi498_1
                  have HC498_1 := Aside0.mk hl498_1
                  clear hi498_1 hl498_1
                  replace p498 := eq_true p498
                  replace q498 := eq_true q498
                  have ea_ := Option.some.inj (hx496_1.symm.trans hx498_1)
                  injection ea_ with ea_ en_ ec_
                  subst ea_
                  subst ec_
                  clear en_
                  have p499 : 0 ≤ (x5_1 : Int) := of_decide_eq_true (by first | (with_reducible assumption) | assumption)
                  have q499 : x5_1 < (l1.length : Int) := of_decide_eq_true (by first | (with_reducible assumption) | assumption)
                  obtain ⟨ad499, A499_1, c499_1, e499, hx499_0, hx499_1, hl499_1, hi499_1⟩ := at_T60 HR1.out x5_1 p499 q499
                  obtain rfl : ad497 = ad499 := (by injection e499)
                  have HR499_1 := Aside0.mk hi499_1
                  have HC499_1 := Aside0.mk hl499_1
                  clear hi499_1 hl499_1
                  replace p499 := eq_true p499
                  replace q499 := eq_true q499
                  have ea_ := Option.some.inj (hx497_1.symm.trans hx499_1)
                  injection ea_ with ea_ en_ ec_
                  subst ea_
                  subst ec_
                  clear en_
                  go_wp2_with (first | (go_at_call 27; (with_reducible refine (tumbrelref01_Same.calls k1 _ _ ((rd_T60 l0 x5_1).f1) _ _ ((rd_T60 l1 x5_1).f1) false _ ?side1 ?side2 ?side3 ?side4 A8.out).mono ?_); (case side1 => repeat (first | exact HR498_1.out | (with_reducible refine Kd.C_alloc ?_ _) | (with_reducible refine Kd.C_drewN ?_ _) | (with_reducible refine Kd.C_drew ?_))); (case side2 => exact HC498_1.out); (case side3 => repeat (first | exact HR499_1.out | (with_reducible refine Kd.C_alloc ?_ _) | (with_reducible refine Kd.C_drewN ?_ _) | (with_reducible refine Kd.C_drew ?_))); (case side4 => exact HC499_1.out); rintro e w' ⟨rfl, ⟨nd, rfl⟩⟩; (try first | exact ⟨rfl, _, World.drewN_drewN _ _ _⟩ | exact ⟨rfl, _, Eq.trans (World.drewN_drewN _ _ _) (congrArg (World.drewN _) (Nat.add_assoc _ _ _))⟩)))
                  repeat (go_quiet (first | (go_at_call 27; (with_reducible refine (tumbrelref01_Same.calls k1 _ _ ((rd_T60 l0 x5_1).f1) _ _ ((rd_T60 l1 x5_1).f1) false _ ?side1 ?side2 ?side3 ?side4 A8.out).mono ?_); (case side1 => repeat (first | exact HR498_1.out | (with_reducible refine Kd.C_alloc ?_ _) | (with_reducible refine Kd.C_drewN ?_ _) | (with_reducible refine Kd.C_drew ?_))); (case side2 => exact HC498_1.out); (case side3 => repeat (first | exact HR499_1.out | (with_reducible refine Kd.C_alloc ?_ _) | (with_reducible refine Kd.C_drewN ?_ _) | (with_reducible refine Kd.C_drew ?_))); (case side4 => exact HC499_1.out); rintro e w' ⟨rfl, ⟨nd, rfl⟩⟩; (try first | exact ⟨rfl, _, World.drewN_drewN _ _ _⟩ | exact ⟨rfl, _, Eq.trans (World.drewN_drewN _ _ _) (congrArg (World.drewN _) (Nat.add_assoc _ _ _))⟩))); try go_wp2_with (first | (go_at_call 27; (with_reducible refine (tumbrelref01_Same.calls k1 _ _ ((rd_T60 l0 x5_1).f1) _ _ ((rd_T60 l1 x5_1).f1) false _ ?side1 ?side2 ?side3 ?side4 A8.out).mono ?_); (case side1 => repeat (first | exact HR498_1.out | (with_reducible refine Kd.C_alloc ?_ _) | (with_reducible refine Kd.C_drewN ?_ _) | (with_reducible refine Kd.C_drew ?_))); (case side2 => exact HC498_1.out); (case side3 => repeat (first | exact HR499_1.out | (with_reducible refine Kd.C_alloc ?_ _) | (with_reducible refine Kd.C_drewN ?_ _) | (with_reducible refine Kd.C_drew ?_))); (case side4 => exact HC499_1.out); rintro e w' ⟨rfl, ⟨nd, rfl⟩⟩; (try first | exact ⟨rfl, _, World.drewN_drewN _ _ _⟩ | exact ⟨rfl, _, Eq.trans (World.drewN_drewN _ _ _) (congrArg (World.drewN _) (Nat.add_assoc _ _ _))⟩))))
                  go_ret
                  exact ⟨by first | rfl | (simp; done) | (simp [*]; done), by repeat (first | exact Drawn0.refl _ | apply Drawn0.step)⟩
              · rw [if_neg c7] at H
                have c7b0 : (((rd_T60 l0 x5_1).f0) == ((rd_T60 l1 x5_1).f0)) = false := beq_eq_false_iff_ne.mpr c7
                have c7b1 : (((rd_T60 l0 x5_1).f0) != ((rd_T60 l1 x5_1).f0)) = true := bne_iff_ne.mpr c7
                obtain rfl := Option.some.inj H
                have p496 : 0 ≤ (x5_1 : Int) := of_decide_eq_true (by first | (with_reducible assumption) | assumption)
                have q496 : x5_1 < (l0.length : Int) := of_decide_eq_true (by first | (with_reducible assumption) | assumption)
                obtain ⟨ad496, A496_1, c496_1, e496, hx496_0, hx496_1, hl496_1, hi496_1⟩ := at_T60 HR0.out x5_1 p496 q496
                cases e496
                have HR496_1 := Aside0.mk hi496_1
                have HC496_1 := Aside0.mk hl496_1
                clear hi496_1 hl496_1
                replace p496 := eq_true p496
                replace q496 := eq_true q496
                have p497 : 0 ≤ (x5_1 : Int) := of_decide_eq_true (by first | (with_reducible assumption) | assumption)
                have q497 : x5_1 < (l1.length : Int) := of_decide_eq_true (by first | (with_reducible assumption) | assumption)
                obtain ⟨ad497, A497_1, c497_1, e497, hx497_0, hx497_1, hl497_1, hi497_1⟩ := at_T60 HR1.out x5_1 p497 q497
                cases e497
                have HR497_1 := Aside0.mk hi497_1
                have HC497_1 := Aside0.mk hl497_1
                clear hi497_1 hl497_1
                replace p497 := eq_true p497
                replace q497 := eq_true q497
                go_wp2
                repeat (go_quiet (fail); try go_wp2)
                go_ret
                exact ⟨by first | rfl | (simp; done) | (simp [*]; done), by repeat (first | exact Drawn0.refl _ | apply Drawn0.step)⟩
            · rw [if_neg c6] at H
              exact absurd H (by simp)
          · rw [if_neg c5] at H
            exact absurd H (by simp)
        · rw [if_neg c4] at H
          have c4b0 : decide (x5_1 < (l0.length : Int)) = false := decide_eq_false c4
          clear c4
          obtain rfl := Option.some.inj H
          go_wp2
          repeat (go_quiet (fail); try go_wp2)
          go_ret
          exact ⟨by first | rfl | (simp; done) | (simp [*]; done), by repeat (first | exact Drawn0.refl _ | apply Drawn0.step)⟩
  · rw [if_neg c3] at H
    have c3b0 : ((l0.length : Int) == (l1.length : Int)) = false := beq_eq_false_iff_ne.mpr c3
    have c3b1 : ((l0.length : Int) != (l1.length : Int)) = true := bne_iff_ne.mpr c3
    have c3b2 : (l0.length == l1.length) = false := by first | simpa using c3 | (simp at c3 ⊢; omega)
    obtain rfl := Option.some.inj H
    go_enter Try.func51, Try.ntmps51
    go_wp2
    repeat (go_quiet (fail); try go_wp2)
    go_ret
    exact ⟨by first | rfl | (simp; done) | (simp [*]; done), by repeat (first | exact Drawn0.refl _ | apply Drawn0.step)⟩
def tumbrellaw04_own.l0 : Nat → List (S60) → List (S56) → Int → Int → Option ((List (S60)))
  | 0, _, _, _, _ => none
  | k + 1, x3, x7, x8, x9 => if x9 < x8 then (if 0 ≤ x9 then (if x9 < (x7.length : Int) then (if x3.length < 4398046511104 then (tumbrellaw04_own.l0 k (x3 ++ [(⟨(rd_T56 x7 x9).f0, (rd_T56 x7 x9).f1⟩ : S60)]) x7 x8 (wrap64 (x9 + 1))) else (none)) else (none)) else (none)) else (some x3)
def tumbrellaw04_own.f (k : Nat) (l0 : List (S56)) : Option ((List (S60))) := tumbrellaw04_own.l0 k (([] : List (S60))) l0 (l0.length : Int) 0
set_option maxHeartbeats 8000000 in
set_option maxRecDepth 100000 in
theorem tumbrellaw04_own.calls (k : Nat) (P0_ : Nat → Prop) (A0 : Option Addr) (c0 : Nat) (l0 : List (S56)) (r : List (S60)) (w : World) (hs0 : Kd.V k56 56 w w.heap.size (fun k_ => P0_ k_) (.slice A0 l0.length c0) l0) (h : tumbrellaw04_own.f k l0 = some r) :
    Calls Try.prog 52 #[.slice A0 l0.length c0] w fun e w' => ∃ v0_ : Value, e = .returned (v0_) ∧ Kd.N k60 60 w' w.heap.size (fun k_ => (P0_ k_ ∨ w.heap.size ≤ k_)) v0_ r ∧ Below w.heap.size w w' := by
  have hu56 := Try.underlying56
  have HO0 := Aside0.mk (show Kd.V k56 56 w w.heap.size (fun k_ => (P0_ k_ ∨ w.heap.size ≤ k_)) (.slice A0 l0.length c0) l0 from Kd.V_mono hs0 (fun k_ hk => .inl hk))
  have HB := Aside0.mk (Below.refl w.heap.size w)
  have H : (tumbrellaw04_own.l0 k (([] : List (S60))) l0 (l0.length : Int) 0) = some r := h
  clear h
  obtain ⟨y501, hy501⟩ : ∃ y_ : List (S60), y_ = (([] : List (S60))) := ⟨_, rfl⟩
  replace H : (tumbrellaw04_own.l0 k y501 l0 (l0.length : Int) 0) = some r := by first | (rw [hy501]; with_reducible exact H) | (have H2_ := (Option.bind_some _ _).symm.trans H; rw [hy501]; with_reducible exact H2_) | (have H2_ := (Option.bind_some _ _).symm.trans H; with_reducible exact H2_) | with_reducible exact H | (rw [hy501]; exact H) | exact H
  have Ny501 := Aside0.mk hy501
  clear hy501
  have H' := Aside0.mk H
  clear H
  go_enter Try.func52, Try.ntmps52
  go_wp2_with (first | ((with_reducible refine gate_dst (N := 6) rfl ?_); refine Kd.N_lit k60 _ 60 ?hg (N' := 6) ?hd (xs := ([] : List (S60))) (inner := []) (ok := (fun k_ => (P0_ k_ ∨ w.heap.size ≤ k_))) (okp := (fun k_ => (P0_ k_ ∨ w.heap.size ≤ k_))) ?hr ?hp (fun _ hk => hk) ((show ∀ k_, w.heap.size ≤ k_ → (fun k_ => (P0_ k_ ∨ w.heap.size ≤ k_)) k_ from fun k_ hk => (.inr (Nat.le_trans (below_size (by repeat (first | (with_reducible first | exact HB.out | apply below_alloc | apply pw_below_drewN | apply below_drew1) | exact HB.out))) hk))) _ (Nat.le_refl _)) (Below.refl _ _) (Nat.le_refl _) (by simp) ?_; (case hd => rfl); (case hg => rfl); (case hr => first | (go_simp; done) | (go_simp; rfl)); (case hp => exact (Reps.none _ _)); intro v502 w2 ho3 hb hg_ hnew_; clear hg_ hnew_; (first | rw [← Ny501.out] at ho3 | (simp only [Int.reduceToNat] at ho3; rw [← Ny501.out] at ho3)); have n0_ := Aside0.mk (Kd.V_elder' (by (with_reducible repeat (first | apply Kd.V_alloc | apply Kd.V_drewN | apply Kd.V_drew)); exact HO0.out) (Kd.N_base ho3) hb); have n1_ := Aside0.mk (Kd.N_lower ho3 (below_size (by repeat (first | (with_reducible first | exact HB.out | apply below_alloc | apply pw_below_drewN | apply below_drew1) | exact HB.out)))); have n2_ := Aside0.mk (below_step (by repeat (first | (with_reducible first | exact HB.out | apply below_alloc | apply pw_below_drewN | apply below_drew1) | exact HB.out)) hb); clear HO0; clear HB; have HO0 := n0_; have HO503 := n1_; have HB := n2_; clear n0_ n1_ n2_; clear hb ho3))
  go_loopg [3, 9] k (fun kq v3 v9 w' => ∃ (x3_1 : List (S60)) (x9_1 : Int), v9 = .int .i64 x9_1 ∧ Aside0 (tumbrellaw04_own.l0 kq x3_1 l0 (l0.length : Int) x9_1 = some r) ∧ Aside0 (kq ≤ k) ∧ Aside0 (Kd.N k60 60 w' w.heap.size (fun k_ => (P0_ k_ ∨ w.heap.size ≤ k_)) v3 x3_1) ∧ Aside0 (Kd.V k56 56 w' w.heap.size (fun k_ => (P0_ k_ ∨ w.heap.size ≤ k_) ∧ some k_ ≠ (v3 : Value).ownBlock) (.slice A0 l0.length c0) l0) ∧ Aside0 (Below w.heap.size w w'))
  case atStart => exact ⟨(y501), (0), (by first | rfl | (simp; done) | (simp [*]; done)), H', ⟨Nat.le_refl _⟩, ⟨by (with_reducible repeat (first | apply Kd.N_alloc | apply Kd.N_drewN | apply Kd.N_drew)); exact HO503.out⟩, ⟨by (with_reducible repeat (first | apply Kd.V_alloc | apply Kd.V_drewN | apply Kd.V_drew)); exact HO0.out⟩, ⟨by repeat (first | (with_reducible first | exact HB.out | apply below_alloc | apply pw_below_drewN | apply below_drew1) | exact HB.out)⟩⟩
  case round =>
    clear H'
    try clear p2
    obtain ⟨x3_1, x9_1, rfl, HA, HK1, HO_3, HO_7, HB⟩ := hrel
    cases gk with
    | zero => exact absurd HA.out (by simp [tumbrellaw04_own.l0])
    | succ k1 =>
      have H := HA.out
      clear HA
      simp only [tumbrellaw04_own.l0] at H
      by_cases c4 : x9_1 < (l0.length : Int)
      · rw [if_pos c4] at H
        have c4b0 : decide (x9_1 < (l0.length : Int)) = true := decide_eq_true c4
        clear c4
        by_cases c5 : 0 ≤ x9_1
        · rw [if_pos c5] at H
          have c5b0 : decide (0 ≤ x9_1) = true := decide_eq_true c5
          clear c5
          by_cases c6 : x9_1 < (l0.length : Int)
          · rw [if_pos c6] at H
            have c6b0 : decide (x9_1 < (l0.length : Int)) = true := decide_eq_true c6
            clear c6
            by_cases c7 : x3_1.length < 4398046511104
            · rw [if_pos c7] at H
              have LMc7 := Aside0.mk c7
              clear c7
              obtain ⟨y506, hy506⟩ : ∃ y_ : List (S60), y_ = (x3_1 ++ [(⟨(rd_T56 l0 x9_1).f0, (rd_T56 l0 x9_1).f1⟩ : S60)]) := ⟨_, rfl⟩
              replace H : (tumbrellaw04_own.l0 k1 y506 l0 (l0.length : Int) (wrap64 (x9_1 + 1))) = some r := by first | (rw [hy506]; with_reducible exact H) | (have H2_ := (Option.bind_some _ _).symm.trans H; rw [hy506]; with_reducible exact H2_) | (have H2_ := (Option.bind_some _ _).symm.trans H; with_reducible exact H2_) | with_reducible exact H | (rw [hy506]; exact H) | exact H
              have Ny506 := Aside0.mk hy506
              clear hy506
              have H' := Aside0.mk H
              clear H
              have p504 : 0 ≤ (x9_1 : Int) := of_decide_eq_true (by first | (with_reducible assumption) | assumption)
              have q504 : x9_1 < (l0.length : Int) := of_decide_eq_true (by first | (with_reducible assumption) | assumption)
              obtain ⟨ad504, A504_1, c504_1, e504, hx504_0, hx504_1, hl504_1, hi504_1⟩ := at_T56 (Kd.V_reads' HO_7.out).2.2 x9_1 p504 q504
              cases e504
              obtain ⟨ce504, hce504, hMe504, hcc504⟩ := Kd.V_get HO_7.out z56 x9_1 p504 (by first | exact q504 | exact of_decide_eq_true (by first | (with_reducible assumption) | assumption) | (have e_ := (Kd.V_reads' HO_7.out).1; omega))
              obtain ⟨ua504_1, uc504_1, rfl, ul504_1, ge504_1⟩ := k56_openF hMe504
              have hv504_1 := hcc504 1 _ rfl
              rw [add_field _ _ 1 (by omega)] at hv504_1
              replace hv504_1 := Option.some.inj (hv504_1.symm.trans hx504_1)
              injection hv504_1 with hva_ hvn_ hvc_
              rw [hva_] at ge504_1
              rw [hvc_] at ul504_1
              have HL504_1 := Aside0.mk (show Kd.V (Kd.int .u8) 5 _ w.heap.size _ _ ((rd_T56 l0 x9_1).f1) from Kd.V_mk ul504_1 ge504_1)
              clear hva_ hvn_ hvc_ ge504_1 ul504_1
              clear hcc504 hce504
              have HR504_1 := Aside0.mk hi504_1
              have HC504_1 := Aside0.mk hl504_1
              clear hi504_1 hl504_1
              replace p504 := eq_true p504
              replace q504 := eq_true q504
              go_wp2_with (first | ((with_reducible refine gate_dst (N := 5) rfl ?_); refine box_event ?hg (N := 5) ?hd (cs := #[.int .u8 0, .slice none 0 0]) (t := 56) ?hr ?_; (case hd => rfl); (case hg => rfl); (case hr => first | (go_simp; done) | (go_simp; rfl)); intro gb505 hg w8 hbox hb; have n0_ := Aside0.mk (Kd.N_below (Kd.N_elderB (by (with_reducible repeat (first | apply Kd.N_alloc | apply Kd.N_drewN | apply Kd.N_drew)); exact HO_3.out) gb505 (Nat.le_of_eq hg.symm)) hb); have n1_ := Aside0.mk (Kd.V_below (Kd.V_elderB (by (with_reducible repeat (first | apply Kd.V_alloc | apply Kd.V_drewN | apply Kd.V_drew)); exact HO_7.out) gb505 (Nat.le_of_eq hg.symm)) hb); have n2_ := Aside0.mk (Kd.V_below (Kd.V_elderB (by (with_reducible repeat (first | apply Kd.V_alloc | apply Kd.V_drewN | apply Kd.V_drew)); exact HL504_1.out) gb505 (Nat.le_of_eq hg.symm)) hb); have n3_ := Aside0.mk (Kd.C_below (by repeat (first | (with_reducible exact HR504_1.out) | (with_reducible refine Kd.C_alloc ?_ _) | (with_reducible refine Kd.C_drewN ?_ _) | (with_reducible refine Kd.C_drew ?_) | exact HR504_1.out)) hb); have n4_ := Aside0.mk (below_step (by repeat (first | (with_reducible first | exact HB.out | apply below_alloc | apply pw_below_drewN | apply below_drew1) | exact HB.out)) hb); have n5_ := Aside0.mk (hbox); have n6_ := Aside0.mk ((by rw [hg]; exact (below_size (by repeat (first | (with_reducible first | exact HB.out | apply below_alloc | apply pw_below_drewN | apply below_drew1) | exact HB.out))) : w.heap.size ≤ gb505)); have n7_ := Aside0.mk ((by rw [hg]; exact (below_size (by repeat (first | (with_reducible first | exact HB.out | apply below_alloc | apply pw_below_drewN | apply below_drew1) | exact HB.out))) : w.heap.size ≤ gb505)); clear HO_3; clear HO_7; clear HL504_1; clear HR504_1; clear HB; have HO_3 := n0_; have HO_7 := n1_; have HL504_1 := n2_; have HR504_1 := n3_; have HB := n4_; have BK505 := n5_; have GW505 := n6_; have GE505 := n7_; clear n0_ n1_ n2_ n3_ n4_ n5_ n6_ n7_; clear hb hbox hg; have hcz9_0 : w8.cell? ⟨gb505, 0, none⟩ = some (.int .u8 0) := (blk_cell BK505.out 0).trans rfl; have hcz9_1 : w8.cell? ⟨gb505, 1, none⟩ = some (.slice none 0 0) := (blk_cell BK505.out 1).trans rfl; have hfz9_0 := blk_frozen BK505.out 0; have hfz9_1 := blk_frozen BK505.out 1) | ((with_reducible refine gate_store (t := 56) (p := 5) rfl ?_); refine store_event (t := 56) (p := 5) (v := ?vo_w10) (w1 := ((w8.setCell ⟨gb505, 0, none⟩ (.int .u8 ((rd_T56 l0 x9_1).f0))).setCell ⟨gb505, 1, none⟩ (.slice A504_1 ((rd_T56 l0 x9_1).f1).length c504_1))) ?hg ?ho ?hn ?hr ?_; (case ho => rfl); (case hg => rfl); (case hn => rfl); (case hr => first | (go_simp; done) | (go_simp; rfl)); intro w10 hw; have n0_ : Aside0 (Kd.N k60 60 w10 w.heap.size (fun k_ => (P0_ k_ ∨ w.heap.size ≤ k_) ∧ k_ ≠ gb505) u3 x3_1) := ⟨(by rw [hw]; exact (by (with_reducible repeat (first | apply Kd.N_alloc | apply Kd.N_drewN | apply Kd.N_drew)); exact Kd.N_mono (Kd.N_far (p := ⟨gb505, 1, none⟩) (Kd.N_far (p := ⟨gb505, 0, none⟩) (Kd.N_mono HO_3.out (fun k_ hk => (⟨hk, hk.2⟩ : _ ∧ k_ ≠ gb505))) (fun _ hk => hk.2) (.int .u8 ((rd_T56 l0 x9_1).f0))) (fun _ hk => hk.2) (.slice A504_1 ((rd_T56 l0 x9_1).f1).length c504_1)) (fun _ hk => ⟨hk.1.1, hk.1.2⟩)))⟩; have n1_ : Aside0 (Kd.V k56 56 w10 w.heap.size (fun k_ => (P0_ k_ ∨ w.heap.size ≤ k_) ∧ some k_ ≠ (u3 : Value).ownBlock ∧ k_ ≠ gb505) (.slice (some ad504) l0.length c0) l0) := ⟨(by rw [hw]; exact (by (with_reducible repeat (first | apply Kd.V_alloc | apply Kd.V_drewN | apply Kd.V_drew)); exact Kd.V_mono (Kd.V_far (p := ⟨gb505, 1, none⟩) (Kd.V_far (p := ⟨gb505, 0, none⟩) (Kd.V_mono HO_7.out (fun k_ hk => (⟨hk, hk.2⟩ : _ ∧ k_ ≠ gb505))) (fun _ hk => hk.2) (.int .u8 ((rd_T56 l0 x9_1).f0))) (fun _ hk => hk.2) (.slice A504_1 ((rd_T56 l0 x9_1).f1).length c504_1)) (fun _ hk => ⟨hk.1.1.1, ⟨hk.1.1.2, hk.1.2⟩⟩)))⟩; have n2_ : Aside0 (Kd.V (Kd.int .u8) 5 w10 w.heap.size (fun k_ => (P0_ k_ ∨ w.heap.size ≤ k_) ∧ some k_ ≠ (u3 : Value).ownBlock ∧ k_ ≠ gb505) (.slice A504_1 ((rd_T56 l0 x9_1).f1).length c504_1) ((rd_T56 l0 x9_1).f1)) := ⟨(by rw [hw]; exact (by (with_reducible repeat (first | apply Kd.V_alloc | apply Kd.V_drewN | apply Kd.V_drew)); exact Kd.V_mono (Kd.V_far (p := ⟨gb505, 1, none⟩) (Kd.V_far (p := ⟨gb505, 0, none⟩) (Kd.V_mono HL504_1.out (fun k_ hk => (⟨hk, hk.2⟩ : _ ∧ k_ ≠ gb505))) (fun _ hk => hk.2) (.int .u8 ((rd_T56 l0 x9_1).f0))) (fun _ hk => hk.2) (.slice A504_1 ((rd_T56 l0 x9_1).f1).length c504_1)) (fun _ hk => ⟨hk.1.1.1, ⟨hk.1.1.2, hk.1.2⟩⟩)))⟩; have n3_ : Aside0 (w10.heap[gb505]? = some (.cells #[.int .u8 ((rd_T56 l0 x9_1).f0), .slice A504_1 ((rd_T56 l0 x9_1).f1).length c504_1] 56 (0, 0))) := ⟨(by rw [hw]; exact (by (with_reducible repeat (first | refine blk_drewN ?_ _ | refine blk_drew ?_ | refine blk_alloc ?_ _)); refine blk_put (cs := #[.int .u8 ((rd_T56 l0 x9_1).f0), .slice none 0 0]) ?_ 1 _ rfl; (with_reducible repeat (first | refine blk_drewN ?_ _ | refine blk_drew ?_ | refine blk_alloc ?_ _)); refine blk_put (cs := #[.int .u8 0, .slice none 0 0]) ?_ 0 _ rfl; (with_reducible repeat (first | refine blk_drewN ?_ _ | refine blk_drew ?_ | refine blk_alloc ?_ _)); exact BK505.out))⟩; have n4_ : Aside0 (Below w.heap.size w w10) := ⟨(by rw [hw]; exact (by repeat (first | (with_reducible first | exact HB.out | apply below_alloc | apply pw_below_drewN | apply below_drew1 | refine below_set ?_ GE505.out) | exact HB.out)))⟩; clear hw; clear HO_3; clear HO_7; clear HL504_1; clear BK505; clear HB; have HO_3 := n0_; have HO_7 := n1_; have HL504_1 := n2_; have BK505 := n3_; have HB := n4_; clear n0_ n1_ n2_ n3_ n4_; have hcz11_0 : w10.cell? ⟨gb505, 0, none⟩ = some (.int .u8 ((rd_T56 l0 x9_1).f0)) := (blk_cell BK505.out 0).trans rfl; have hcz11_1 : w10.cell? ⟨gb505, 1, none⟩ = some (.slice A504_1 ((rd_T56 l0 x9_1).f1).length c504_1) := (blk_cell BK505.out 1).trans rfl; have hfz11_0 := blk_frozen BK505.out 0; have hfz11_1 := blk_frozen BK505.out 1) | ((with_reducible refine gate_builtin (b := .append) (xs := #[.tmp 13, .tmp 15]) rfl ?_); at_builtin; refine Kd.N_append k60 (w0 := w) w.heap.size rfl (.tmp 13) (.tmp 15) 68 60 (.agg #[(.int .u8 0), (.slice none 0 0)]) 32 rfl Try.underlying68 info60 rfl (by decide) (by omega) u3 x3_1 (⟨(rd_T56 l0 x9_1).f0, (rd_T56 l0 x9_1).f1⟩ : S60) [.int .u8 ((rd_T56 l0 x9_1).f0), .slice A504_1 ((rd_T56 l0 x9_1).f1).length c504_1] (fun k_ => (P0_ k_ ∨ w.heap.size ≤ k_) ∧ k_ ≠ gb505) (fun k_ => ((fun k_ => (P0_ k_ ∨ w.heap.size ≤ k_) ∧ k_ ≠ gb505)) k_ ∧ some k_ ≠ (u3 : Value).ownBlock) rfl rfl ?aP (fun _ hk => hk) ?aF ?aO ?aB ?aS ?aL ?_; (case aP => exact (k60_mkF _ _ (⟨(rd_T56 l0 x9_1).f0, (rd_T56 l0 x9_1).f1⟩ : S60) (Kd.V_reads' (Kd.V_mono (ok' := (fun k_ => ((fun k_ => (P0_ k_ ∨ w.heap.size ≤ k_) ∧ k_ ≠ gb505)) k_ ∧ some k_ ≠ (u3 : Value).ownBlock)) (HL504_1.out) (fun k_ hk => ⟨⟨hk.1, hk.2.2⟩, hk.2.1⟩))).2.1 (Kd.V_F (Kd.V_mono (ok' := (fun k_ => ((fun k_ => (P0_ k_ ∨ w.heap.size ≤ k_) ∧ k_ ≠ gb505)) k_ ∧ some k_ ≠ (u3 : Value).ownBlock)) (HL504_1.out) (fun k_ hk => ⟨⟨hk.1, hk.2.2⟩, hk.2.1⟩))))); (case aB => exact (by repeat (first | (with_reducible first | exact HB.out | apply below_alloc | apply pw_below_drewN | apply below_drew1 | refine below_set ?_ GE505.out) | exact HB.out))); (case aF => exact (fun k_ hk => ⟨(.inr (Nat.le_trans (below_size (by repeat (first | (with_reducible first | exact HB.out | apply below_alloc | apply pw_below_drewN | apply below_drew1 | refine below_set ?_ GE505.out) | exact HB.out))) hk)), Kd.freshB (g := gb505) (o := .cells #[.int .u8 ((rd_T56 l0 x9_1).f0), .slice A504_1 ((rd_T56 l0 x9_1).f1).length c504_1] 56 (0, 0)) (by (with_reducible repeat (first | refine blk_drewN ?_ _ | refine blk_drew ?_ | refine blk_alloc ?_ _)); exact BK505.out) k_ hk⟩)); (case aO => exact (by (with_reducible repeat (first | apply Kd.N_alloc | apply Kd.N_drewN | apply Kd.N_drew)); exact HO_3.out)); (case aS => exact (below_size (by repeat (first | (with_reducible first | exact HB.out | apply below_alloc | apply pw_below_drewN | apply below_drew1 | refine below_set ?_ GE505.out) | exact HB.out)))); (case aL => have := LMc7.out; omega); intro v507 w12 ho hb hg hat; rw [← Ny506.out] at ho; have n0_ := Aside0.mk (Kd.V_afterv (ok := (fun k_ => (P0_ k_ ∨ w.heap.size ≤ k_) ∧ k_ ≠ gb505)) (by (with_reducible repeat (first | apply Kd.V_alloc | apply Kd.V_drewN | apply Kd.V_drew)); exact Kd.V_mono HO_7.out (fun _ hk => ⟨⟨hk.1, hk.2.2⟩, hk.2.1⟩)) hg hat); have n1_ := Aside0.mk (Kd.V_afterv (ok := (fun k_ => (P0_ k_ ∨ w.heap.size ≤ k_) ∧ k_ ≠ gb505)) (by (with_reducible repeat (first | apply Kd.V_alloc | apply Kd.V_drewN | apply Kd.V_drew)); exact Kd.V_mono HL504_1.out (fun _ hk => ⟨⟨hk.1, hk.2.2⟩, hk.2.1⟩)) hg hat); have n2_ := Aside0.mk (blk_grown (g := gb505) (o := .cells #[.int .u8 ((rd_T56 l0 x9_1).f0), .slice A504_1 ((rd_T56 l0 x9_1).f1).length c504_1] 56 (0, 0)) (by (with_reducible repeat (first | refine blk_drewN ?_ _ | refine blk_drew ?_ | refine blk_alloc ?_ _)); exact BK505.out) hg (Kd.N_ne HO_3.out BK505.out (by decide))); have n3_ := Aside0.mk (hb); have n4_ := Aside0.mk (ho); clear HO_7; clear HL504_1; clear BK505; clear HB; clear HO_3; have HO_7 := n0_; have HL504_1 := n1_; have BK505 := n2_; have HB := n3_; have HO508 := n4_; clear n0_ n1_ n2_ n3_ n4_; clear ho hb hg hat))
              go_roundg k1
              case measure => have := HK1.out; omega
              case rel => exact ⟨(y506), (wrap64 (x9_1 + 1)), (by first | rfl | (simp; done) | (simp [*]; done)), H', ⟨by have := HK1.out; omega⟩, ⟨by (with_reducible repeat (first | apply Kd.N_alloc | apply Kd.N_drewN | apply Kd.N_drew)); exact Kd.N_mono HO508.out (fun _ hk => hk.1)⟩, ⟨by (with_reducible repeat (first | apply Kd.V_alloc | apply Kd.V_drewN | apply Kd.V_drew)); exact Kd.V_mono HO_7.out (fun _ hk => ⟨hk.1.1, hk.2⟩)⟩, ⟨by repeat (first | (with_reducible first | exact HB.out | apply below_alloc | apply pw_below_drewN | apply below_drew1 | refine below_set ?_ GE505.out) | exact HB.out)⟩⟩
            · rw [if_neg c7] at H
              exact absurd H (by simp)
          · rw [if_neg c6] at H
            exact absurd H (by simp)
        · rw [if_neg c5] at H
          exact absurd H (by simp)
      · rw [if_neg c4] at H
        have c4b0 : decide (x9_1 < (l0.length : Int)) = false := decide_eq_false c4
        clear c4
        obtain rfl := Option.some.inj H
        go_wp2
        go_ret
        exact ⟨_, by first | rfl | (simp [errW_none, errW_some] <;> rfl) | (simp [*, errW_none, errW_some] <;> rfl), by (with_reducible repeat (first | apply Kd.N_alloc | apply Kd.N_drewN | apply Kd.N_drew)); exact HO_3.out, by repeat (first | (with_reducible first | exact HB.out | apply below_alloc | apply pw_below_drewN | apply below_drew1) | exact HB.out)⟩
end Go.Proofs.Ytojepleodijdeaa.B
namespace Go.Proofs.Ytojepleodijdeaa.Crc
/-- one division by the polynomial -/
def step (s : BitVec 32) : BitVec 32 := if s.getLsbD 0 then (s >>> 1) ^^^ 0x82f63b78#32 else s >>> 1
theorem step_xor (a b : BitVec 32) : step (a ^^^ b) = step a ^^^ step b := by
  unfold step
  rw [BitVec.getLsbD_xor, BitVec.ushiftRight_xor_distrib]
  cases ha : a.getLsbD 0 <;> cases hb : b.getLsbD 0 <;> simp only [Bool.xor_false, Bool.xor_true, Bool.not_true, Bool.not_false, if_true, if_false, Bool.false_eq_true] <;>
    apply BitVec.eq_of_getLsbD_eq <;> intro i hi <;> simp only [BitVec.getLsbD_xor] <;>
    cases (a >>> 1).getLsbD i <;> cases (b >>> 1).getLsbD i <;> cases (0x82f63b78#32).getLsbD i <;> rfl
theorem step_zero : step 0#32 = 0#32 := by decide
theorem step_eq_zero (s : BitVec 32) (h : step s = 0#32) : s = 0#32 := by
  unfold step at h
  split at h
  · exfalso
    have h31 := congrArg (fun x => BitVec.getLsbD x 31) h
    simp at h31
  · rename_i h0
    apply BitVec.eq_of_getLsbD_eq
    intro i hi
    cases i with
    | zero => simpa using h0
    | succ i =>
      have := congrArg (fun x => BitVec.getLsbD x i) h
      simpa [BitVec.getLsbD_ushiftRight, Nat.add_comm] using this
def steps : Nat → BitVec 32 → BitVec 32
  | 0, s => s
  | n + 1, s => steps n (step s)
theorem steps_xor (n : Nat) : ∀ a b, steps n (a ^^^ b) = steps n a ^^^ steps n b := by
  induction n with
  | zero => intro a b; rfl
  | succ n ih => intro a b; simp only [steps, step_xor, ih]
theorem steps_zero (n : Nat) : steps n 0#32 = 0#32 := by
  induction n with
  | zero => rfl
  | succ n ih => simp only [steps, step_zero, ih]
theorem steps_eq_zero (n : Nat) : ∀ s, steps n s = 0#32 → s = 0#32 := by
  induction n with
  | zero => intro s h; exact h
  | succ n ih => intro s h; exact step_eq_zero _ (ih _ h)
/-- bits, the first one lowest -/
def word : List Bool → BitVec 32
  | [] => 0#32
  | d :: l => (word l <<< 1) ||| (if d then 1#32 else 0#32)
/-- bit by bit -/
def feed (s : BitVec 32) : List Bool → BitVec 32
  | [] => s
  | d :: l => feed (step (s ^^^ (if d then 1#32 else 0#32))) l
theorem feed_append (l m : List Bool) : ∀ s, feed s (l ++ m) = feed (feed s l) m := by
  induction l with
  | nil => intro s; rfl
  | cons d l ih => intro s; simp only [List.cons_append, feed, ih]
theorem step_shl (x : BitVec 32) (h : x.getLsbD 31 = false) : step (x <<< 1) = x := by
  unfold step
  have h0 : (x <<< 1).getLsbD 0 = false := by simp
  rw [h0]
  apply BitVec.eq_of_getLsbD_eq
  intro i hi
  simp only [Bool.false_eq_true, if_false, BitVec.getLsbD_ushiftRight, BitVec.getLsbD_shiftLeft]
  by_cases h31 : i = 31
  · subst h31; simpa using h.symm
  · have : 1 + i < 32 := by omega
    simp [this]
theorem word_high (l : List Bool) : ∀ i, l.length ≤ i → (word l).getLsbD i = false := by
  induction l with
  | nil => intro i _; simp [word]
  | cons d l ih =>
    intro i hi
    simp only [List.length_cons] at hi
    have h1 : i ≠ 0 := by omega
    have := ih (i - 1) (by omega)
    simp only [word, BitVec.getLsbD_or, BitVec.getLsbD_shiftLeft, this]
    cases d <;> simp [h1, BitVec.getLsbD_one]
theorem word_cons (d : Bool) (l : List Bool) : word (d :: l) = (if d then 1#32 else 0#32) ^^^ (word l <<< 1) := by
  apply BitVec.eq_of_getLsbD_eq
  intro i hi
  simp only [word, BitVec.getLsbD_or, BitVec.getLsbD_xor, BitVec.getLsbD_shiftLeft]
  cases d <;> by_cases h : i = 0 <;> simp [h, BitVec.getLsbD_one]
/-- at most 32 bits fed one by one are fed at once -/
theorem feed_word (l : List Bool) : ∀ s, l.length ≤ 32 → feed s l = steps l.length (s ^^^ word l) := by
  induction l with
  | nil => intro s _; simp [feed, steps, word]
  | cons d l ih =>
    intro s hl
    simp only [List.length_cons] at hl
    simp only [feed, List.length_cons, steps]
    rw [ih _ (by omega), word_cons, ← BitVec.xor_assoc, step_xor _ (word l <<< 1), step_shl _ (word_high l 31 (by omega))]
theorem feed_zeros (n : Nat) : ∀ s, feed s (List.replicate n false) = steps n s := by
  induction n with
  | zero => intro s; rfl
  | succ n ih => intro s; simp [List.replicate_succ, feed, steps, ih]
/-- what is fed to two sums is fed to their difference -/
theorem feed_xor (l m : List Bool) : ∀ s t, l.length = m.length → feed (s ^^^ t) (List.zipWith xor l m) = feed s l ^^^ feed t m := by
  induction l generalizing m with
  | nil => intro s t h; cases m with
    | nil => rfl
    | cons => simp at h
  | cons d l ih => intro s t h; cases m with
    | nil => simp at h
    | cons e m =>
      simp only [List.zipWith_cons_cons, feed]
      rw [← ih m _ _ (by simpa using h), ← step_xor]
      congr 2
      have : (if (d ^^ e) then 1#32 else 0#32) = (if d then 1#32 else 0#32) ^^^ (if e then 1#32 else 0#32) := by cases d <;> cases e <;> decide
      rw [this]
      apply BitVec.eq_of_getLsbD_eq; intro i hi
      simp only [BitVec.getLsbD_xor]
      cases s.getLsbD i <;> cases t.getLsbD i <;> cases (if d then 1#32 else 0#32).getLsbD i <;> cases (if e then 1#32 else 0#32).getLsbD i <;> rfl
theorem word_zero_iff (l : List Bool) (h : l.length ≤ 32) : word l = 0#32 → ∀ b ∈ l, b = false := by
  induction l with
  | nil => intro _ b hb; cases hb
  | cons d l ih =>
    intro hw b hb
    simp only [List.length_cons] at h
    rw [word_cons] at hw
    have hd : d = false := by
      have := congrArg (fun x => BitVec.getLsbD x 0) hw
      cases d <;> simp at this ⊢
    subst hd
    have hl : word l = 0#32 := by
      have h2 : step (word l <<< 1) = 0#32 := by
        have : word l <<< 1 = 0#32 := by simpa using hw
        rw [this]; exact step_zero
      rwa [step_shl _ (word_high l 31 (by omega))] at h2
    rcases List.mem_cons.1 hb with rfl | hb
    · rfl
    · exact ih (by omega) hl b hb
/-- **a burst**: zeros, at most 32 bits, zeros: the sum of zero stays zero just if all are zero -/
theorem burst (a c : Nat) (l : List Bool) (h : l.length ≤ 32) (h0 : feed 0#32 (List.replicate a false ++ l ++ List.replicate c false) = 0#32) : ∀ b ∈ l, b = false := by
  rw [feed_append, feed_append, feed_zeros, feed_zeros, steps_zero, feed_word l _ h] at h0
  have h1 := steps_eq_zero _ _ (steps_eq_zero _ _ h0)
  exact word_zero_iff l h (by simpa using h1)
end Go.Proofs.Ytojepleodijdeaa.Crc
namespace Go.Proofs.Ytojepleodijdeaa.VP
set_option linter.unusedVariables false
set_option linter.unusedSimpArgs false
open Go.RowKit Go.Proofs.Ytojepleodijdeaa.B Go.Proofs.Ytojepleodijdeaa.Crc Go.Proofs.YtojepleodijdeaaW.PrintWords Go.Proofs.YtojepleodijdeaaW.PrintLast Go.Proofs.YtojepleodijdeaaW.PrintMore
abbrev w32 (x : BitVec 32) : Int := (x.toNat : Int)
theorem w32_lt (x : BitVec 32) : 0 ≤ w32 x ∧ w32 x < 4294967296 := by have := x.isLt; unfold w32; omega
theorem ofInt32 (z : BitVec 32) : BitVec.ofInt 32 (w32 z) = z := by
  apply BitVec.eq_of_toNat_eq
  unfold w32
  rw [BitVec.ofInt_natCast, BitVec.toNat_ofNat]
  exact Nat.mod_eq_of_lt z.isLt
theorem wrap32 (z : BitVec 32) : IntKind.u32.wrap (w32 z) = w32 z := by
  have := w32_lt z
  rw [IntKind.wrap_u32]; omega
theorem xor32 (x y : BitVec 32) : bits .xor .u32 (w32 x) (w32 y) = w32 (x ^^^ y) := by
  show IntKind.u32.wrap (((BitVec.ofInt 32 (w32 x) ^^^ BitVec.ofInt 32 (w32 y)).toNat : Nat) : Int) = _
  rw [ofInt32, ofInt32]; exact wrap32 _
theorem and32 (x y : BitVec 32) : bits .and .u32 (w32 x) (w32 y) = w32 (x &&& y) := by
  show IntKind.u32.wrap (((BitVec.ofInt 32 (w32 x) &&& BitVec.ofInt 32 (w32 y)).toNat : Nat) : Int) = _
  rw [ofInt32, ofInt32]; exact wrap32 _
theorem half32 (x : BitVec 32) : (w32 x) / (2 : Int) = w32 (x >>> 1) := by
  simp only [w32, BitVec.toNat_ushiftRight, Nat.shiftRight_eq_div_pow]; omega
theorem odd32 (x : BitVec 32) : x.getLsbD 0 = decide (x.toNat % 2 = 1) := by
  rw [BitVec.getLsbD, Nat.testBit_zero]
theorem and1_32 (x : BitVec 32) : (bits .and .u32 (w32 x) 1 = 1) ↔ x.getLsbD 0 = true := by
  have h := and32 x 1#32
  have e1 : w32 1#32 = 1 := by decide
  rw [e1] at h
  rw [h, odd32]
  have h2 : (x &&& 1#32).toNat = x.toNat % 2 := by
    rw [BitVec.toNat_and]; simp [Nat.and_one_is_mod]
  simp only [w32, h2, decide_eq_true_eq]; omega
theorem poly32 : (2197175160 : Int) = w32 0x82f63b78#32 := by decide
theorem entry_loop : ∀ (d : Nat) (i : Nat) (x : BitVec 32), i + d = 8 → sum_entry.l0 (d + 1) (w32 x) (i : Int) = some (w32 (steps d x)) := by
  intro d
  induction d with
  | zero =>
    intro i x hi
    simp only [sum_entry.l0]
    rw [if_neg (by omega)]; rfl
  | succ d ih =>
    intro i x hi
    have hw : wrap64 ((i : Int) + 1) = ((i + 1 : Nat) : Int) := by unfold wrap64; omega
    rw [sum_entry.l0, if_pos (by omega), hw]
    simp only [steps]
    by_cases h : x.getLsbD 0 = true
    · rw [if_pos ((and1_32 x).2 h), half32, poly32, xor32, ih (i + 1) _ (by omega)]
      simp only [Crc.step, h, if_true]
    · rw [if_neg (fun hh => h ((and1_32 x).1 hh)), half32, ih (i + 1) _ (by omega)]
      simp only [Crc.step, h, if_false]
      rfl
theorem entry_at (x : BitVec 32) : sum_entry.f 9 (w32 x) = some (w32 (steps 8 x)) := entry_loop 8 0 x rfl
theorem rentry_loop : ∀ (d : Nat) (i : Nat) (x : BitVec 32), i + d = 8 → Ev (fun k => tumbrelref01_Entry.l0 k (w32 x) (i : Int)) (w32 (steps d x)) := by
  intro d
  induction d with
  | zero =>
    intro i x hi
    refine Ev.step (f := fun _ => some (w32 x)) (fun k => ?_) (Ev.now _)
    simp only [tumbrelref01_Entry.l0]
    rw [if_neg (by omega)]
  | succ d ih =>
    intro i x hi
    have hw : wrap64 ((i : Int) + 1) = ((i + 1 : Nat) : Int) := by unfold wrap64; omega
    have hx := w32_lt x
    refine Ev.step (f := fun k => tumbrelref01_Entry.l0 k (w32 (Crc.step x)) ((i + 1 : Nat) : Int)) (fun k => ?_) (ih (i + 1) (Crc.step x) (by omega))
    simp only [tumbrelref01_Entry.l0]
    have e2 : (Int.tdiv (w32 x) 2) % (4294967296 : Int) = w32 (x >>> 1) := by
      rw [Int.tdiv_eq_ediv_of_nonneg hx.1, ← half32]; omega
    have e1 : (Int.tmod (w32 x) 2 = 1) ↔ x.getLsbD 0 = true := by
      rw [Int.tmod_eq_emod_of_nonneg hx.1, odd32, decide_eq_true_eq]; unfold w32; omega
    rw [if_pos (by omega), hw, e2]
    by_cases h : x.getLsbD 0 = true
    · rw [if_pos (e1.2 h), poly32, xor32]
      simp only [Crc.step, h, if_true]
    · rw [if_neg (fun hh => h (e1.1 hh))]
      simp only [Crc.step, h, if_false]
      rfl
theorem rentry_ev (x : BitVec 32) : Ev (fun k => tumbrelref01_Entry.f k (w32 x)) (w32 (steps 8 x)) := rentry_loop 8 0 x rfl
def b32 (c : Int) : BitVec 32 := BitVec.ofNat 32 c.toNat
theorem b32_val {c : Int} (h : 0 ≤ c ∧ c ≤ 255) : w32 (b32 c) = c := by
  unfold w32 b32; rw [BitVec.toNat_ofNat]; omega
/-- one byte more -/
def crcByte (s : BitVec 32) (c : Int) : BitVec 32 := steps 8 (s ^^^ b32 c)
def crcL (s : BitVec 32) (l : List Int) : BitVec 32 := l.foldl crcByte s
theorem crcL_append (s : BitVec 32) (l m : List Int) : crcL s (l ++ m) = crcL (crcL s l) m := by simp [crcL]
theorem shl8 : ∀ (n : Nat) (x : BitVec 32), (∀ i, 32 - n ≤ i → x.getLsbD i = false) → steps n (x <<< n) = x := by
  intro n
  induction n with
  | zero => intro x _; simp [steps]
  | succ n ih =>
    intro x hx
    by_cases h32 : n < 32
    · have e : x <<< (n + 1) = (x <<< n) <<< 1 := by rw [← BitVec.shiftLeft_add]
      rw [steps, e, step_shl]
      · exact ih x (fun i hi => hx i (by omega))
      · rw [BitVec.getLsbD_shiftLeft]
        simp only [Bool.and_eq_false_iff]
        exact .inr (hx _ (by omega))
    · have : x = 0#32 := by
        apply BitVec.eq_of_getLsbD_eq; intro i _; rw [hx i (by omega)]; simp
      subst this
      simp [steps_zero]
theorem split8 (x : BitVec 32) : x = ((x >>> 8) <<< 8) ^^^ (x &&& 255#32) := by
  apply BitVec.eq_of_getLsbD_eq
  intro i hi
  simp only [BitVec.getLsbD_xor, BitVec.getLsbD_shiftLeft, BitVec.getLsbD_ushiftRight, BitVec.getLsbD_and]
  have h255 : (255#32).getLsbD i = decide (i < 8) := by
    have : (255#32) = BitVec.ofNat 32 (2 ^ 8 - 1) := rfl
    rw [this, BitVec.getLsbD_ofNat, Nat.testBit_two_pow_sub_one]
    simp [hi]
  rw [h255]
  by_cases h8 : i < 8
  · simp [h8]
  · have e : 8 + (i - 8) = i := by omega
    simp [h8, hi, e]
/-- by a table of the bytes -/
theorem steps_table (x : BitVec 32) : steps 8 x = (x >>> 8) ^^^ steps 8 (x &&& 255#32) := by
  conv => lhs; rw [split8 x]
  rw [steps_xor, shl8]
  intro i hi
  rw [BitVec.getLsbD_ushiftRight]
  exact BitVec.getLsbD_of_ge _ _ (by omega)
theorem b32_high {c : Int} (h : 0 ≤ c ∧ c ≤ 255) (i : Nat) (hi : 8 ≤ i) : (b32 c).getLsbD i = false := by
  unfold b32
  rw [BitVec.getLsbD_ofNat]
  have : c.toNat < 2 ^ i := Nat.lt_of_lt_of_le (by omega : c.toNat < 2 ^ 8) (Nat.pow_le_pow_right (by decide) hi)
  simp [Nat.testBit_lt_two_pow this]
theorem crcByte_table (s : BitVec 32) {c : Int} (h : 0 ≤ c ∧ c ≤ 255) : crcByte s c = (s >>> 8) ^^^ steps 8 ((s ^^^ b32 c) &&& 255#32) := by
  unfold crcByte
  rw [steps_table]
  congr 1
  apply BitVec.eq_of_getLsbD_eq
  intro i hi
  simp only [BitVec.getLsbD_ushiftRight, BitVec.getLsbD_xor, b32_high h (8 + i) (by omega), Bool.xor_false]
end Go.Proofs.Ytojepleodijdeaa.VP
namespace Go.Proofs.Ytojepleodijdeaa.B
open Go.RowKit Go.Proofs.YtojepleodijdeaaW.PrintWords Go.Proofs.YtojepleodijdeaaW.PrintLast Go.Proofs.YtojepleodijdeaaW.PrintMore
open Go.Proofs.Ytojepleodijdeaa.VP (w32 b32 crcByte crcL entry_at xor32 w32_lt)
open Go.Proofs.Ytojepleodijdeaa.Crc (steps)
set_option linter.unusedVariables false
set_option linter.unusedSimpArgs false
/-- the table's i-th number -/
def tabE (i : Nat) : Int := w32 (steps 8 (BitVec.ofNat 32 i))
def tabN (k : Nat) : List Value := ((List.range k).map fun i => Value.int .u32 (tabE i)) ++ List.replicate (256 - k) (.int .u32 0)
theorem tabN_length (k : Nat) (h : k ≤ 256) : (tabN k).length = 256 := by simp [tabN]; omega
theorem tabN_zero : Try.zeroCells47 = (tabN 0).toArray := by kernel_rfl
theorem tabN_set (k : Nat) (h : k < 256) : (tabN k).toArray.setIfInBounds k (.int .u32 (tabE k)) = (tabN (k + 1)).toArray := by
  rw [List.setIfInBounds_toArray]
  refine congrArg List.toArray (List.ext_getElem ?_ ?_)
  · simp [tabN]; omega
  · intro i h1 h2
    rw [List.getElem_set]
    simp only [tabN, List.getElem_append, List.length_map, List.length_range, List.getElem_map, List.getElem_range, List.getElem_replicate]
    split
    · subst_vars; simp
    · rename_i hne
      split <;> split <;> first | rfl | omega
theorem tabN_one (k : Nat) : (tabN k).toArray.all (·.oneCell') = true := by
  rw [Array.all_eq_true_iff_forall_mem]
  intro x hx
  simp only [List.mem_toArray, tabN, List.mem_append, List.mem_map, List.mem_replicate] at hx
  rcases hx with ⟨i, _, rfl⟩ | ⟨_, rfl⟩ <;> rfl
theorem tabN_at (k i : Nat) (hk : k ≤ 256) (hi : i < 256) : ∃ v, (tabN k).toArray[i]? = some v := by
  have : i < (tabN k).length := by rw [tabN_length k hk]; exact hi
  exact ⟨(tabN k)[i], by simp [List.getElem?_eq_getElem this]⟩
theorem tab_at (i : Nat) (hi : i < 256) : (tabN 256).toArray[i]? = some (.int .u32 (tabE i)) := by
  simp [tabN, List.getElem?_append, hi]
theorem info47 : (Try.prog.info? 47).map (·.size) = some 256 := by kernel_rfl
theorem entry_nat (k : Nat) (h : k < 256) : sum_entry.f 9 (k : Int) = some (tabE k) := by
  have := entry_at (BitVec.ofNat 32 k)
  rwa [show w32 (BitVec.ofNat 32 k) = (k : Int) by unfold w32; rw [BitVec.toNat_ofNat]; omega] at this
theorem below_setRow {B : Nat} {w W : World} (h : Below B w W) {g : Nat} (hg : B ≤ g) (cs : Array Value) : Below B w (W.setRow g cs) :=
  ⟨h.os, h.tape, h.output, by simp; exact h.size, fun i hi => (setRow_other W g i cs (by omega)).trans (h.block i hi)⟩
set_option maxRecDepth 100000 in
set_option maxHeartbeats 1000000 in
theorem table_calls (w : World) : Calls Try.prog 41 #[] w fun e w' => e = .returned (.agg (tabN 256).toArray) ∧ Below w.heap.size w w' := by
  go_enter Try.func41, Try.ntmps41
  go_wp2
  rw [tabN_zero]
  go_loopw [3] (fun i wr => ∃ k : Nat, i = .int .i64 k ∧ k ≤ 256 ∧ Aside0 (wr.heap[w.heap.size]? = some (.cells (tabN 0).toArray 47 (0, 0))) ∧ Aside0 (wr.heap[w.heap.size + 1]? = some (.cells (tabN k).toArray 47 (0, 0))) ∧ Aside0 (Below w.heap.size w wr)) (fun i _ => 256 - (intOf i).toNat)
  case atStart => exact ⟨0, rfl, by omega, ⟨heap_alloc2_old w _ _⟩, ⟨heap_alloc2_new w _ _⟩, ⟨(((Below.refl _ _).alloc (Nat.le_refl _) _).alloc (by simp) _)⟩⟩
  case round =>
    obtain ⟨k, rfl, hk, H0, H1, HB⟩ := hrel
    by_cases hlt : k < 256
    · have hk1 : (k : Int) < 256 := by omega
      have hE := Aside0.mk (entry_nat k hlt)
      obtain ⟨v, hv⟩ := tabN_at k k hk hlt
      have hc : wr.cell? ⟨w.heap.size + 1, k, none⟩ = some v := (blk_cell H1.out k).trans hv
      have hf := blk_frozen H1.out k
      have hw : IntKind.u32.wrap (k : Int) = (k : Int) := by rw [IntKind.wrap_u32]; omega
      go_wp2_with (go_at_call 74; refine (sum_entry.calls 9 (k : Int) (tabE k) _ hE.out).mono ?_; rintro e w' ⟨rfl, hd⟩; obtain ⟨nd, hd2⟩ := hd.out; subst hd2)
      go_roundw
      case rel =>
        refine ⟨k + 1, by go_num, by omega, ⟨?_⟩, ⟨?_⟩, ⟨?_⟩⟩
        · rw [heap_setCell_other _ _ _ _ (by simp)]; exact H0.out
        · rw [← tabN_set k hlt]; exact blk_set (w := wr.drewN nd) H1.out k _
        · exact (pw_below_drewN HB.out nd).setCell (p := ⟨w.heap.size + 1, k, none⟩) (by simp) _
      case measure => simp [intOf]; omega
    · have hk2 : k = 256 := by omega
      subst hk2
      have hs : (tabN 256).toArray.size = 256 := by simp [tabN_length]
      have HI : Aside0 ((Try.prog.info? 47).map (·.size) = some (tabN 256).toArray.size) := ⟨by rw [hs]; exact info47⟩
      have HZ : Aside0 ((tabN 0).toArray.size = (tabN 256).toArray.size) := ⟨by rw [hs]; simp [tabN_length]⟩
      clear hs
      go_wp2_with (first | (refine wpList_load_row rfl 47 _ rfl (w.heap.size + 1) rfl 47 _ (0, 0) _ H1.out Try.underlying47 rfl HI.out ?_) | (refine wpList_store_row rfl 47 _ _ rfl w.heap.size _ rfl rfl 47 _ H0.out HI.out HZ.out (tabN_one 256) ?_))
      exact bodyPost_ret (results_cell_row rfl _ _ w.heap.size 47 _ (0, 0) _ rfl (setRow_heap _ _ _ _ _ _ H0.out) Try.underlying47 rfl HI.out) rfl ⟨rfl, below_setRow HB.out (Nat.le_refl _) _⟩
theorem not32 {a : Int} (h : 0 ≤ a ∧ a < 4294967296) : bits BinOp.xor IntKind.u32 IntKind.u32.max a = w32 (~~~ BitVec.ofNat 32 a.toNat) := by
  have e1 : IntKind.u32.max = w32 (BitVec.allOnes 32) := by decide
  have e2 : a = w32 (BitVec.ofNat 32 a.toNat) := by unfold w32; rw [BitVec.toNat_ofNat]; omega
  conv => lhs; rw [e1, e2]
  rw [xor32]
  have e3 : BitVec.allOnes 32 ^^^ BitVec.ofNat 32 a.toNat = ~~~ BitVec.ofNat 32 a.toNat := by
    exact BitVec.allOnes_xor
  rw [e3]
theorem VP_rd {l : List Int} {i : Nat} (h : i < l.length) : rd l (i : Int) = l[i] := by
  simp [rd, List.getD_eq_getElem?_getD, List.getElem?_eq_getElem h]
theorem ofInt8 (z : BitVec 8) : BitVec.ofInt 8 (z.toNat : Int) = z := by
  apply BitVec.eq_of_toNat_eq
  rw [BitVec.ofInt_natCast, BitVec.toNat_ofNat]
  exact Nat.mod_eq_of_lt z.isLt
theorem idx8 (s : BitVec 32) {c : Int} (h : 0 ≤ c ∧ c ≤ 255) : ∃ j : Nat, Aside0 (j < 256 ∧ BitVec.ofNat 32 j = (s ^^^ b32 c) &&& 255#32) ∧ bits .xor .u8 (w32 s % 256) c = (j : Int) := by
  refine ⟨((BitVec.ofNat 8 s.toNat) ^^^ (BitVec.ofNat 8 c.toNat)).toNat, ⟨?_, ?_⟩, ?_⟩
  · exact ((BitVec.ofNat 8 s.toNat) ^^^ (BitVec.ofNat 8 c.toNat)).isLt
  · apply BitVec.eq_of_getLsbD_eq
    intro i hi
    have h255 : (255#32).getLsbD i = decide (i < 8) := by
      have : (255#32) = BitVec.ofNat 32 (2 ^ 8 - 1) := rfl
      rw [this, BitVec.getLsbD_ofNat, Nat.testBit_two_pow_sub_one]
      simp [hi]
    rw [BitVec.getLsbD_and, h255, BitVec.getLsbD_xor, BitVec.getLsbD_ofNat, b32, BitVec.getLsbD_ofNat]
    rw [BitVec.toNat_xor, Nat.testBit_xor, BitVec.toNat_ofNat, BitVec.toNat_ofNat, Nat.testBit_mod_two_pow, Nat.testBit_mod_two_pow]
    by_cases h8 : i < 8
    · simp [h8, hi, BitVec.getLsbD]
    · simp [h8]
  · have e1 : w32 s % 256 = ((BitVec.ofNat 8 s.toNat).toNat : Int) := by unfold w32; rw [BitVec.toNat_ofNat]; omega
    have e2 : c = ((BitVec.ofNat 8 c.toNat).toNat : Int) := by rw [BitVec.toNat_ofNat]; omega
    conv => lhs; rw [e1, e2]
    show IntKind.u8.wrap (((BitVec.ofInt 8 _ ^^^ BitVec.ofInt 8 _).toNat : Nat) : Int) = _
    rw [ofInt8, ofInt8, IntKind.wrap_u8]
    have := ((BitVec.ofNat 8 s.toNat) ^^^ (BitVec.ofNat 8 c.toNat)).isLt
    omega
def sum_More.f (a0 : Int) (l1 : List Int) : Option Int :=
  if (0 ≤ a0 ∧ a0 < 4294967296) ∧ (∀ x ∈ l1, 0 ≤ x ∧ x ≤ 255) then some (w32 (~~~ crcL (~~~ BitVec.ofNat 32 a0.toNat) l1)) else none
set_option maxRecDepth 100000 in
set_option maxHeartbeats 1000000 in
theorem sum_More.calls (a0 : Int) (A1 : Option Addr) (c1 : Nat) (l1 : List Int) (r : Int) (w : World) (hr1 : Kd.C (Kd.int .u8) w A1 l1.length l1) (hc1 : l1.length ≤ c1) (h : sum_More.f a0 l1 = some r) :
    Calls Try.prog 37 #[.int .u32 a0, .slice A1 l1.length c1] w fun e w' => e = .returned (.int .u32 r) ∧ Below w.heap.size w w' := by
  unfold sum_More.f at h
  split at h
  case isFalse => cases h
  rename_i hg
  obtain ⟨ha, hb⟩ := hg
  obtain rfl := Option.some.inj h
  clear h
  have HR := Aside0.mk hr1
  have hle := hr1.2.1
  have HC := Aside0.mk hc1
  clear hr1 hc1
  go_enter Try.func37, Try.ntmps37
  have hs : (tabN 256).toArray.size = 256 := by simp [tabN_length]
  have HI : Aside0 ((Try.prog.info? 47).map (·.size) = some (tabN 256).toArray.size) := ⟨by rw [hs]; exact info47⟩
  have HZ : Aside0 (Try.zeroCells47.size = (tabN 256).toArray.size) := ⟨by rw [hs, tabN_zero]; simp [tabN_length]⟩
  clear hs
  go_wp2_with (first | (go_at_call 41; refine (table_calls _).mono ?_; rintro e w1 ⟨rfl, hb1⟩; have HB1 := Aside0.mk hb1; clear hb1) | (refine wpList_store_row rfl 47 _ _ rfl w1.heap.size _ rfl rfl 47 _ (blk_new w1 _) HI.out HZ.out (tabN_one 256) ?_))
  have HT : Aside0 (((w1.alloc (Obj.cells Try.zeroCells47 47)).setRow w1.heap.size (tabN 256).toArray).heap[w1.heap.size]? = some (.cells (tabN 256).toArray 47 (0, 0))) := ⟨setRow_heap _ _ _ _ _ _ (blk_new w1 _)⟩
  have HB := Aside0.mk (below_setRow (HB1.out.alloc HB1.out.size (Obj.cells Try.zeroCells47 47)) HB1.out.size (tabN 256).toArray)
  generalize ((w1.alloc (Obj.cells Try.zeroCells47 47)).setRow w1.heap.size (tabN 256).toArray) = W at HT HB
  generalize w1.heap.size = g at HT
  have HN : Aside0 (bits BinOp.xor IntKind.u32 IntKind.u32.max a0 = w32 (~~~ BitVec.ofNat 32 a0.toNat)) := ⟨not32 ha⟩
  rw [HN.out]
  have HR2 := Aside0.mk (Kd.C_below HR.out HB.out)
  clear HR HI HZ HB1 HN hle
  go_loop [0, 13] (fun s i => ∃ k : Nat, i = .int .i64 k ∧ k ≤ l1.length ∧ s = .int .u32 (w32 (crcL (~~~ BitVec.ofNat 32 a0.toNat) (l1.take k)))) (fun _ i => l1.length - (intOf i).toNat)
  case atStart => exact ⟨0, rfl, by omega, rfl⟩
  case round =>
    obtain ⟨k, rfl, hk, rfl⟩ := hrel
    have hl9 : l1.length ≤ 9223372036854775807 := HR2.out.2.1
    by_cases hlt : k < l1.length
    · obtain ⟨ad, e, hx⟩ := Kd.at_int HR2.out (k : Int) (by omega) (by omega)
      subst e
      have hrd : rd l1 (k : Int) = l1[k] := VP_rd hlt
      rw [hrd, Int.toNat_natCast] at hx
      have hbk := hb l1[k] (List.getElem_mem hlt)
      have hcrc : Aside0 (crcL (~~~ BitVec.ofNat 32 a0.toNat) (l1.take (k + 1)) = crcByte (crcL (~~~ BitVec.ofNat 32 a0.toNat) (l1.take k)) l1[k]) := ⟨by rw [List.take_succ_eq_append_getElem hlt, Go.Proofs.Ytojepleodijdeaa.VP.crcL_append]; rfl⟩
      generalize crcL (~~~ BitVec.ofNat 32 a0.toNat) (l1.take k) = s at hcrc
      generalize l1[k] = c at hx hbk hcrc
      obtain ⟨j, hj, hx8⟩ := idx8 s hbk
      have hj2 : (j : Int) < 256 := by have := hj.out.1; omega
      have hcell : W.cell? ⟨g, j, none⟩ = some (.int .u32 (tabE j)) := (blk_cell HT.out j).trans (tab_at j hj.out.1)
      go_wp2
      have hd8 : (w32 s) / (256 : Int) = w32 (s >>> 8) := by simp only [w32, BitVec.toNat_ushiftRight, Nat.shiftRight_eq_div_pow]; omega
      have hE : bits BinOp.xor IntKind.u32 ((w32 s) / (256 : Int)) (tabE j) = w32 (crcByte s c) := by
        rw [hd8, tabE, xor32, hj.out.2, ← Go.Proofs.Ytojepleodijdeaa.VP.crcByte_table s hbk]
      go_round
      case rel => exact ⟨k + 1, by go_num, by omega, by rw [hcrc.out, hE]⟩
      case measure => simp [intOf]; omega
    · have hk2 : k = l1.length := by omega
      go_wp2
      go_ret
      refine ⟨?_, HB.out⟩
      have hx := w32_lt (crcL (~~~ BitVec.ofNat 32 a0.toNat) l1)
      have hn := not32 hx
      have e2 : BitVec.ofNat 32 (w32 (crcL (~~~ BitVec.ofNat 32 a0.toNat) l1)).toNat = crcL (~~~ BitVec.ofNat 32 a0.toNat) l1 := by
        apply BitVec.eq_of_toNat_eq; unfold w32; simp
      rw [e2] at hn
      rw [← hn]; rfl
def slices_Clone_byte_byte.f (l0 : List Int) : Option (List Int) := if l0.length < 140737488355328 then some l0 else none
set_option maxRecDepth 100000 in
theorem slices_Clone_byte_byte.calls (A0 : Option Addr) (c0 : Nat) (l0 : List Int) (r : List Int) (w : World) (hr0 : Kd.C (Kd.int .u8) w A0 l0.length l0) (hc0 : l0.length ≤ c0) (h : slices_Clone_byte_byte.f l0 = some r) :
    Calls Try.prog 71 #[.slice A0 l0.length c0] w fun e w' => ∃ v0_ : Value, e = .returned v0_ ∧ Kd.R (Kd.int .u8) 5 w' w.heap.size (fun _ => True) v0_ r ∧ Below w.heap.size w w' := by
  unfold slices_Clone_byte_byte.f at h
  split at h
  case isFalse => cases h
  rename_i hlen
  obtain rfl := Option.some.inj h
  clear h
  have HR := Aside0.mk hr0
  have HC := Aside0.mk hc0
  have HL := Aside0.mk hlen
  clear hr0 hc0 hlen
  have hnil := Go.run_eql_slice_nil (P := Try.prog) w 23 5 A0 l0.length c0 Try.underlying23
  cases A0 with
  | none =>
    obtain rfl : l0 = [] := by
      rcases Nat.eq_zero_or_pos l0.length with h | h
      · exact List.eq_nil_of_length_eq_zero h
      · obtain ⟨ad, e, _⟩ := HR.out.2.2 h; cases e
    simp only [Option.isNone_none, List.length_nil] at hnil
    go_enter Try.func71, Try.ntmps71
    go_wp2
    go_ret
    exact ⟨_, rfl, Kd.R_nil _ _ _ _ _, Below.refl _ _⟩
  | some ad =>
    simp only [Option.isNone_some] at hnil
    go_enter Try.func71, Try.ntmps71
    go_wp2_with (first | ((with_reducible refine gate_dst (N := 5) rfl ?_); refine Kd.R_lit (Kd.int .u8) _ 5 ?hg (N := 5) ?hd (xs := ([] : List Int)) (inner := []) (ok := fun _ => True) (okp := fun _ => True) ?hr ?hp (fun _ hk => hk) trivial (Below.refl _ _) (Nat.le_refl _) (by simp) ?_; (case hd => rfl); (case hg => rfl); (case hr => first | (go_simp; done) | (go_simp; rfl)); (case hp => exact (Reps.none _ _)); intro v1 w1 ho1 hb1 hg_ hnew_; clear hg_ hnew_; have HO1 := Aside0.mk ho1; have HB1 := Aside0.mk hb1; clear ho1 hb1) | ((with_reducible refine gate_builtin (b := .append) (xs := #[.tmp 5, .tmp 6]) rfl ?_); at_builtin; refine Kd.R_append_rows (Kd.int .u8) (w0 := w) w.heap.size rfl (.tmp 5) (.tmp 6) 23 5 (.int .u8 0) 1 rfl Try.underlying23 info5 rfl (by decide) (by omega) v1 [] l0 _ _ _ (fun _ => True) (fun _ => False) rfl rfl ?aO ?aR (fun _ _ h => h) (fun _ h => h.elim) ?aF ?aB ?aS ?aL ?_; (case aR => exact Kd.C_below HR.out HB1.out); (case aB => exact HB1.out); (case aF => exact (fun _ _ => trivial)); (case aO => exact HO1.out); (case aS => exact HB1.out.size); (case aL => have := HL.out; simp only [List.length_nil]; omega); intro v2 w2 ho hb hg hat; have HO2 := Aside0.mk ho; have HB2 := Aside0.mk hb; clear ho hb hg hat))
    go_ret
    refine ⟨_, rfl, ?_, HB2.out⟩
    have := HO2.out
    rwa [List.nil_append] at this
set_option maxRecDepth 100000 in
theorem grow_nil (n : Nat) (h0 : 0 < n) (hn : n ≤ 140737488355328) (w : World) :
    Calls Try.prog 83 #[.slice none 0 0, .int .i64 n] w fun e w' => ∃ v0_ : Value, e = .returned v0_ ∧ Kd.R (Kd.int .u8) 5 w' w.heap.size (fun _ => True) v0_ [] ∧ Below w.heap.size w w' := by
  have h0' : (0 : Int) < n := by omega
  have hn' : (n : Int) ≤ 140737488355328 := by omega
  obtain ⟨i0, hi, hz0, hz1, hz2⟩ := info_parts info5
  go_enter Try.func83, Try.ntmps83
  go_wp2_with (at_builtin; refine Lib.wpList_append_run _ rfl (.tmp 20) (.tmp 21) 23 3 rfl _ _ rfl rfl _ _ (Lib.run_append_nil_zeros w 23 3 _ 5 i0 (.int .u8 0) .i64 .i64 Try.underlying23 Try.underlying3 hi hz0 n h0 (by omega) (by omega) (by rw [hz2]; omega)) ?_)
  go_ret
  refine ⟨_, rfl, ?_, (below_drew (Below.refl _ _)).alloc (Nat.le_refl _) _⟩
  have hge := grownCap_ge w n 0 5
  have hle := grownCap_le_maxLen w n 0 5 (by unfold maxLen; omega)
  refine Kd.R_of_own ⟨rfl, .inr ⟨w.heap.size, _, _, rfl, Nat.le_refl _, blk_new w.drew _, Nat.zero_le _, hle, ?_, ?_⟩⟩ (fun _ _ => trivial)
  · simp [Builtin.zeroCells, Value.cells]; omega
  · rfl
def CRel2 (w wr : World) (xs ys : List Int) (v i : Value) : Prop := ∃ L, Kd.R (Kd.int .u8) 5 wr w.heap.size (fun _ => True) v L ∧ ((i = .int .i64 0 ∧ L = []) ∨ (i = .int .i64 1 ∧ L = xs) ∨ (i = .int .i64 2 ∧ L = xs ++ ys))
def CRel (a b : Nat) (n i : Value) : Prop := (i = .int .i64 0 ∧ n = .int .i64 0) ∨ (i = .int .i64 1 ∧ n = .int .i64 a) ∨ (i = .int .i64 2 ∧ n = .int .i64 ((a : Int) + b))
set_option maxRecDepth 100000 in
set_option maxHeartbeats 1000000 in
theorem concat_two (p : Nat) (A1 A2 : Option Addr) (c1 c2 : Nat) (xs ys : List Int) (w : World) (hp : w.heap[p]? = some (.cells #[.slice A1 xs.length c1, .slice A2 ys.length c2] 23 (0, 0)))
    (h1 : Kd.C (Kd.int .u8) w A1 xs.length xs) (h2 : Kd.C (Kd.int .u8) w A2 ys.length ys) (hpos : 0 < xs.length + ys.length) (hlen : xs.length + ys.length < 140737488355328) :
    Calls Try.prog 72 #[.slice (some ⟨p, 0, none⟩) 2 2] w fun e w' => ∃ v0_ : Value, e = .returned v0_ ∧ Kd.R (Kd.int .u8) 5 w' w.heap.size (fun _ => True) v0_ (xs ++ ys) ∧ Below w.heap.size w w' := by
  have HP := Aside0.mk hp
  have H1 := Aside0.mk h1
  have H2 := Aside0.mk h2
  have hx : (xs.length : Int) < 140737488355328 := by omega
  have hy : (ys.length : Int) < 140737488355328 := by omega
  have hxy : (xs.length : Int) + ys.length < 140737488355328 := by omega
  have hk0 : w.cell? ⟨p, 0, none⟩ = some (.slice A1 xs.length c1) := (blk_cell hp 0).trans rfl
  have hk1 : w.cell? ⟨p, 1, none⟩ = some (.slice A2 ys.length c2) := (blk_cell hp 1).trans rfl
  have hn1 : decide ((xs.length : Int) < 0) = false := decide_eq_false (by omega)
  have hn2 : decide ((xs.length : Int) + ys.length < 0) = false := decide_eq_false (by omega)
  have HL := Aside0.mk hlen
  have HPos := Aside0.mk hpos
  clear hp h1 h2 hpos hlen
  go_enter Try.func72, Try.ntmps72
  go_wp2
  go_loop [3, 11] (fun n i => CRel xs.length ys.length n i) (fun _ i => 2 - (intOf i).toNat)
  case atStart => exact .inl ⟨rfl, rfl⟩
  case round =>
    rcases hrel with ⟨rfl, rfl⟩ | ⟨rfl, rfl⟩ | ⟨rfl, rfl⟩
    · go_wp2
      go_round
      case rel => exact .inr (.inl ⟨rfl, rfl⟩)
      case measure => simp [intOf]
    · go_wp2
      go_round
      case rel => exact .inr (.inr ⟨rfl, rfl⟩)
      case measure => simp [intOf]
    · go_wp2_with (go_at_call 83; rw [← Int.natCast_add]; refine (grow_nil (xs.length + ys.length) HPos.out (Nat.le_of_lt HL.out) _).mono ?_; rintro e w1 ⟨v1, rfl, ho1, hb1⟩; have HO1 := Aside0.mk ho1; have HB1 := Aside0.mk hb1; clear ho1 hb1)
      go_loopw [6, 27] (fun v i wr => Aside0 (CRel2 w wr xs ys v i) ∧ Aside0 (Below w.heap.size w wr)) (fun _ i _ => 2 - (intOf i).toNat)
      case atStart => exact ⟨⟨_, HO1.out, .inl ⟨rfl, rfl⟩⟩, HB1⟩
      case round =>
        obtain ⟨⟨L, hO, hL⟩, HB⟩ := hrel
        have HO := Aside0.mk hO
        clear hO
        have hk0 : wr.cell? ⟨p, 0, none⟩ = some (.slice A1 xs.length c1) := (blk_cell (blk_below HP.out HB.out) 0).trans rfl
        have hk1 : wr.cell? ⟨p, 1, none⟩ = some (.slice A2 ys.length c2) := (blk_cell (blk_below HP.out HB.out) 1).trans rfl
        rcases hL with ⟨rfl, rfl⟩ | ⟨rfl, rfl⟩ | ⟨rfl, rfl⟩
        · go_wp2_with (first | ((with_reducible refine gate_builtin (b := .append) (xs := #[.tmp 31, .tmp 32]) rfl ?_); at_builtin; refine Kd.R_append_rows (Kd.int .u8) (w0 := w) w.heap.size rfl (.tmp 31) (.tmp 32) 23 5 (.int .u8 0) 1 rfl Try.underlying23 info5 rfl (by decide) (by omega) _ [] xs _ _ _ (fun _ => True) (fun _ => False) rfl rfl ?aO ?aR (fun _ _ h => h) (fun _ h => h.elim) ?aF ?aB ?aS ?aL ?_; (case aR => exact Kd.C_below H1.out HB.out); (case aB => exact HB.out); (case aF => exact (fun _ _ => trivial)); (case aO => exact HO.out); (case aS => exact HB.out.size); (case aL => have := HL.out; simp only [List.length_nil]; omega); intro v2 w2 ho hb hg hat; have HO2 := Aside0.mk ho; have HB2 := Aside0.mk hb; clear ho hb hg hat))
          go_roundw
          case rel => exact ⟨⟨_, by have h3 := HO2.out; rwa [List.nil_append] at h3, .inr (.inl ⟨rfl, rfl⟩)⟩, HB2⟩
          case measure => simp [intOf]
        · go_wp2_with (first | ((with_reducible refine gate_builtin (b := .append) (xs := #[.tmp 31, .tmp 32]) rfl ?_); at_builtin; refine Kd.R_append_rows (Kd.int .u8) (w0 := w) w.heap.size rfl (.tmp 31) (.tmp 32) 23 5 (.int .u8 0) 1 rfl Try.underlying23 info5 rfl (by decide) (by omega) _ L ys _ _ _ (fun _ => True) (fun _ => False) rfl rfl ?aO ?aR (fun _ _ h => h) (fun _ h => h.elim) ?aF ?aB ?aS ?aL ?_; (case aR => exact Kd.C_below H2.out HB.out); (case aB => exact HB.out); (case aF => exact (fun _ _ => trivial)); (case aO => exact HO.out); (case aS => exact HB.out.size); (case aL => have := HL.out; omega); intro v2 w2 ho hb hg hat; have HO2 := Aside0.mk ho; have HB2 := Aside0.mk hb; clear ho hb hg hat))
          go_roundw
          case rel => exact ⟨⟨_, HO2.out, .inr (.inr ⟨rfl, rfl⟩)⟩, HB2⟩
          case measure => simp [intOf]
        · go_wp2
          go_ret
          exact ⟨_, rfl, HO.out, HB.out⟩
def fourL (a : Int) : List Int := [a % 256, (a / 256) % 256, (a / 65536) % 256, (a / 16777216) % 256]
def ofL (l : List Int) : Int := w32 (~~~ crcL (~~~ 0#32) l)
def putL (l : List Int) : List Int := l ++ fourL (ofL l)
def sum_Put.f (l0 : List Int) : Option (List Int) := if (∀ x ∈ l0, 0 ≤ x ∧ x ≤ 255) ∧ l0.length < 140737488355320 then some (putL l0) else none
theorem more_zero {l : List Int} (h : ∀ x ∈ l, 0 ≤ x ∧ x ≤ 255) : sum_More.f 0 l = some (ofL l) := by
  unfold sum_More.f; rw [if_pos ⟨by decide, h⟩]; rfl
set_option maxRecDepth 100000 in
theorem of_calls (A0 : Option Addr) (c0 : Nat) (l0 : List Int) (w : World) (hb : ∀ x ∈ l0, 0 ≤ x ∧ x ≤ 255) (hr0 : Kd.C (Kd.int .u8) w A0 l0.length l0) (hc0 : l0.length ≤ c0) :
    Calls Try.prog 35 #[.slice A0 l0.length c0] w fun e w' => e = .returned (.int .u32 (ofL l0)) ∧ Below w.heap.size w w' := by
  have HM := Aside0.mk (more_zero hb)
  have HR := Aside0.mk hr0
  have HC := Aside0.mk hc0
  clear hr0 hc0
  go_enter Try.func35, Try.ntmps35
  go_wp2_with (go_at_call 37; refine (sum_More.calls 0 _ _ l0 (ofL l0) _ HR.out HC.out HM.out).mono ?_; rintro e w1 ⟨rfl, hb1⟩; have HB1 := Aside0.mk hb1; clear hb1)
  go_ret
  exact ⟨rfl, HB1.out⟩
set_option maxRecDepth 100000 in
set_option maxHeartbeats 1000000 in
theorem sum_Put.calls (A0 : Option Addr) (c0 : Nat) (l0 : List Int) (r : List Int) (w : World) (hr0 : Kd.C (Kd.int .u8) w A0 l0.length l0) (hc0 : l0.length ≤ c0) (h : sum_Put.f l0 = some r) :
    Calls Try.prog 39 #[.slice A0 l0.length c0] w fun e w' => ∃ v0_ : Value, e = .returned v0_ ∧ Kd.R (Kd.int .u8) 5 w' w.heap.size (fun _ => True) v0_ r ∧ Below w.heap.size w w' := by
  unfold sum_Put.f at h
  split at h
  case isFalse => cases h
  rename_i hg
  obtain rfl := Option.some.inj h
  clear h
  have HR := Aside0.mk hr0
  have HC := Aside0.mk hc0
  have HG := Aside0.mk hg
  clear hr0 hc0 hg
  go_enter Try.func39, Try.ntmps39
  go_wp2_with (first | (go_at_call 35; refine (of_calls _ _ l0 _ HG.out.1 HR.out HC.out).mono ?_; rintro e w1 ⟨rfl, hb1⟩; have HB1 := Aside0.mk hb1; clear hb1) | (go_at_call 70; refine (sum_four.calls (ofL l0) (fourL (ofL l0)) _ rfl).mono ?_; rintro e w2 ⟨v2, rfl, ho2, hb2⟩; have HO2 := Aside0.mk ho2; have HB2 := Aside0.mk hb2; clear ho2 hb2; obtain ⟨A2, c2, e2⟩ := Kd.R_slice HO2.out; subst e2) | (go_at_call 72; have HB3 := Aside0.mk (below_alloc (below_step HB1.out HB2.out) (.cells #[.slice A0 l0.length c0, .slice A2 (fourL (ofL l0)).length c2] 23 (0, 0))); refine (concat_two w2.heap.size A0 A2 c0 c2 l0 (fourL (ofL l0)) _ (blk_new w2 _) (Kd.C_below HR.out HB3.out) (Kd.C_alloc (Kd.R_reads' HO2.out).2.2 _) (by simp [fourL]) (by have := HG.out.2; simp only [fourL, List.length_cons, List.length_nil]; omega)).mono ?_; rintro e w4 ⟨v4, rfl, ho4, hb4⟩; have HO4 := Aside0.mk ho4; have HB4 := Aside0.mk hb4; clear ho4 hb4))
  go_ret
  exact ⟨_, rfl, Kd.R_lower HO4.out HB3.out.size, below_step HB3.out HB4.out⟩
end Go.Proofs.Ytojepleodijdeaa.B
