-- Printed by a program of this session.
import Derived.Test.YtojepleodijdeaaB0
import Derived.Test.YtojepleodijdeaaB4
import Derived.Test.YtojepleodijdeaaB12
import Derived.Test.YtojepleodijdeaaB13
import Derived.Test.YtojepleodijdeaaGAwake4
namespace Go.Proofs.Ytojepleodijdeaa.B
open Go.RowKit Go.Proofs.YtojepleodijdeaaW.PrintWords Go.Proofs.YtojepleodijdeaaW.PrintLast Go.Proofs.YtojepleodijdeaaW.PrintMore
attribute [local go_sem] max2_int min2_int max_two min_two max_three min_three max_four min_four   -- for this text's walks alone
set_option linter.unusedVariables false
set_option linter.unusedSimpArgs false

/-! ### tumbrellaw04_FrameBack: function 12 -/
mutual
def tumbrellaw04_FrameBack.j0 : Nat → List Int → Int → Bool → Int → List Int → Option (Bool)
  | 0, _, _, _, _, _ => none
  | k + 1, x1, x2, x25, x561000, x561001 => if x25 = true then (some true) else ((frame_Bytes.f x561000 x561001).bind fun bt562 => (if (x561001.length : Int) > 400 then (if bt562.2 = 4 then (some ((bt562.1.length : Int) == 0)) else (some false)) else ((some (([] : List Int) : List Int)).bind fun y566 => (if y566.length + bt562.1.length < 140737488355328 then ((some (y566 ++ bt562.1 : List Int)).bind fun y569 => (if y569.length + x1.length < 140737488355328 then ((frame_Read.f k (y569 ++ x1)).bind fun bt575 => (if bt562.2 = 0 then (if bt575.2.2.2 = 0 then (if bt575.2.2.1 = (bt562.1.length : Int) then (if bt575.2.2.1 = (wrap64 ((x561001.length : Int) + 11)) then ((frame_Same.f x561000 x561001 bt575.1 bt575.2.1).bind fun t582 => (tumbrellaw04_FrameBack.j1 k x2 bt562.1 bt575.2.2.1 (!t582))) else (tumbrellaw04_FrameBack.j1 k x2 bt562.1 bt575.2.2.1 true)) else (tumbrellaw04_FrameBack.j1 k x2 bt562.1 bt575.2.2.1 true)) else (tumbrellaw04_FrameBack.j1 k x2 bt562.1 bt575.2.2.1 true)) else (tumbrellaw04_FrameBack.j1 k x2 bt562.1 bt575.2.2.1 true))) else (none))) else (none)))))
def tumbrellaw04_FrameBack.j1 : Nat → Int → List Int → Int → Bool → Option (Bool)
  | 0, _, _, _, _ => none
  | k + 1, x2, x7, x10, x77 => if x77 = true then (some false) else (if x2 < 0 then (some true) else (if x2 ≥ x10 then (some true) else (if 0 ≤ x2 then (if x2 ≤ (x7.length : Int) then ((frame_Read.f k (x7.take (x2 : Int).toNat)).bind fun bt587 => (if bt587.2.2.1 = 0 then (some (bt587.2.2.2 == 3)) else (some false))) else (none)) else (none))))
end
def tumbrellaw04_FrameBack.f (k : Nat) (a0_0 : Int) (l0_1 : List Int) (l1 : List Int) (a2 : Int) : Option (Bool) := (tumbrellaw04_awake.f).bind fun t561 => (if t561 = true then (if (l0_1.length : Int) > 1200 then (tumbrellaw04_FrameBack.j0 k l1 a2 true a0_0 l0_1) else (tumbrellaw04_FrameBack.j0 k l1 a2 (decide ((l1.length : Int) > 1200)) a0_0 l0_1)) else (some false))
theorem tumbrellaw04_FrameBack.mono_l : ∀ k, (∀ y0 y1 y2 y3 y4, LeO (tumbrellaw04_FrameBack.j0 k y0 y1 y2 y3 y4) (tumbrellaw04_FrameBack.j0 (k + 1) y0 y1 y2 y3 y4)) ∧ (∀ y0 y1 y2 y3, LeO (tumbrellaw04_FrameBack.j1 k y0 y1 y2 y3) (tumbrellaw04_FrameBack.j1 (k + 1) y0 y1 y2 y3))
  | 0 => ⟨fun _ _ _ _ _ r h => by simp [tumbrellaw04_FrameBack.j0] at h, fun _ _ _ _ r h => by simp [tumbrellaw04_FrameBack.j1] at h⟩
  | k + 1 => by
    obtain ⟨ih0, ih1⟩ := tumbrellaw04_FrameBack.mono_l k
    refine ⟨?_, ?_⟩
    · intro y0 y1 y2 y3 y4
      unfold tumbrellaw04_FrameBack.j0
      repeat' first
      | (with_reducible exact ih0 _ _ _ _ _)
      | (with_reducible exact ih1 _ _ _ _)
      | (with_reducible exact frame_Read.mono _ _)
      | (with_reducible exact LeO.refl _)
      | (with_reducible exact LeO.none _)
      | (with_reducible refine LeO.ite ?_ ?_)
      | (with_reducible refine LeO.bind ?_ (fun _ => ?_))
      | exact ih0 _ _ _ _ _
      | exact ih1 _ _ _ _
      | exact frame_Read.mono _ _
      | exact LeO.none _
      | refine LeO.ite ?_ ?_
      | refine LeO.bind ?_ (fun _ => ?_)
    · intro y0 y1 y2 y3
      unfold tumbrellaw04_FrameBack.j1
      repeat' first
      | (with_reducible exact ih0 _ _ _ _ _)
      | (with_reducible exact ih1 _ _ _ _)
      | (with_reducible exact frame_Read.mono _ _)
      | (with_reducible exact LeO.refl _)
      | (with_reducible exact LeO.none _)
      | (with_reducible refine LeO.ite ?_ ?_)
      | (with_reducible refine LeO.bind ?_ (fun _ => ?_))
      | exact ih0 _ _ _ _ _
      | exact ih1 _ _ _ _
      | exact frame_Read.mono _ _
      | exact LeO.none _
      | refine LeO.ite ?_ ?_
      | refine LeO.bind ?_ (fun _ => ?_)
theorem tumbrellaw04_FrameBack.mono : ∀ a0 a1 a2 a3 k, LeO (tumbrellaw04_FrameBack.f k a0 a1 a2 a3) (tumbrellaw04_FrameBack.f (k + 1) a0 a1 a2 a3) := by
  intro a0 a1 a2 a3 k
  obtain ⟨ih0, ih1⟩ := tumbrellaw04_FrameBack.mono_l k
  unfold tumbrellaw04_FrameBack.f
  repeat' first
      | (with_reducible exact ih0 _ _ _ _ _)
      | (with_reducible exact ih1 _ _ _ _)
      | (with_reducible exact frame_Read.mono _ _)
      | (with_reducible exact LeO.refl _)
      | (with_reducible exact LeO.none _)
      | (with_reducible refine LeO.ite ?_ ?_)
      | (with_reducible refine LeO.bind ?_ (fun _ => ?_))
      | exact ih0 _ _ _ _ _
      | exact ih1 _ _ _ _
      | exact frame_Read.mono _ _
      | exact LeO.none _
      | refine LeO.ite ?_ ?_
      | refine LeO.bind ?_ (fun _ => ?_)
set_option maxHeartbeats 8000000 in
set_option maxRecDepth 100000 in
theorem tumbrellaw04_FrameBack.calls (k : Nat) (a0_0 : Int) (A0_1 : Option Addr) (c0_1 : Nat) (l0_1 : List Int) (A1 : Option Addr) (c1 : Nat) (l1 : List Int) (a2 : Int) (r : Bool) (w : World) (hr0_1 : Kd.C (Kd.int .u8) w A0_1 l0_1.length l0_1) (hc0_1 : l0_1.length ≤ c0_1) (hr1 : Kd.C (Kd.int .u8) w A1 l1.length l1) (hc1 : l1.length ≤ c1) (h : tumbrellaw04_FrameBack.f k a0_0 l0_1 l1 a2 = some r) :
    Calls Try.prog 12 #[.agg #[.int .u8 a0_0, .slice A0_1 l0_1.length c0_1], .slice A1 l1.length c1, .int .i64 a2] w fun e w' => e = .returned (.bool r) ∧ Below w.heap.size w w' := by
  have hu56 := Try.underlying56
  have HR0_1 := Aside0.mk hr0_1
  have HC0_1 := Aside0.mk hc0_1
  clear hr0_1 hc0_1
  have HR1 := Aside0.mk hr1
  have HC1 := Aside0.mk hc1
  clear hr1 hc1
  have HB := Aside0.mk (Below.refl w.heap.size w)
  have H : ((tumbrellaw04_awake.f).bind fun t561 => (if t561 = true then (if (l0_1.length : Int) > 1200 then (tumbrellaw04_FrameBack.j0 k l1 a2 true a0_0 l0_1) else (tumbrellaw04_FrameBack.j0 k l1 a2 (decide ((l1.length : Int) > 1200)) a0_0 l0_1)) else (some false))) = some r := h
  clear h
  replace H := Option.bind_eq_some_iff.mp H
  obtain ⟨t561, A40, H⟩ := H
  replace H : (if t561 = true then (if (l0_1.length : Int) > 1200 then (tumbrellaw04_FrameBack.j0 k l1 a2 true a0_0 l0_1) else (tumbrellaw04_FrameBack.j0 k l1 a2 (decide ((l1.length : Int) > 1200)) a0_0 l0_1)) else (some false)) = some r := H
  have A4 := Aside0.mk A40
  clear A40
  by_cases c5 : t561 = true
  · subst c5
    have H1 : (if (l0_1.length : Int) > 1200 then (tumbrellaw04_FrameBack.j0 k l1 a2 true a0_0 l0_1) else (tumbrellaw04_FrameBack.j0 k l1 a2 (decide ((l1.length : Int) > 1200)) a0_0 l0_1)) = some r := by rw [if_pos rfl] at H; exact H
    clear H
    have H := H1
    clear H1
    have HC6 := Aside0.mk H
    clear H
    go_enter Try.func12, Try.ntmps12
    go_upto_region 3 with (first | ((with_reducible refine gate_dst (N := 3) rfl ?_); (try (refine gate_guard (by rfl) ?_; dsimp only)); refine box_event ?hg (N := 3) ?hd (cs := #[.int .u8 a0_0, .slice A0_1 l0_1.length c0_1]) (t := 56) ?hr ?_; (case hd => rfl); (case hg => rfl); (case hr => first | (go_simp; done) | (go_simp; rfl)); intro gb560 hg w7 hbox hb; have n0_ := Aside0.mk (below_step (by repeat (first | (with_reducible first | exact HB.out | apply below_alloc | apply pw_below_drewN | apply below_drew1) | exact HB.out)) hb); have n1_ := Aside0.mk (hbox); have n2_ := Aside0.mk ((by rw [hg]; exact (below_size (by repeat (first | (with_reducible first | exact HB.out | apply below_alloc | apply pw_below_drewN | apply below_drew1) | exact HB.out))) : w.heap.size ≤ gb560)); have n3_ := Aside0.mk ((by rw [hg]; exact (below_size (by repeat (first | (with_reducible first | exact HB.out | apply below_alloc | apply pw_below_drewN | apply below_drew1) | exact HB.out))) : w.heap.size ≤ gb560)); clear HB; have HB := n0_; have BK560 := n1_; have GW560 := n2_; have GE560 := n3_; clear n0_ n1_ n2_ n3_; clear hb hbox hg) | ((with_reducible refine gate_callee (f := 44) rfl ?_); refine goesL_ (some 15) rfl rfl Try.func44 (by kernel_rfl) rfl #[] rfl (by (try simp only [List.map_toArray, List.map_cons, List.map_nil]); first | done | rfl | (simp only [List.length_drop, List.length_take]; rfl)) ?_; (with_reducible refine (tumbrellaw04_awake.calls  true _ A4.out).mono ?_); rintro e w8 ⟨rfl, hb⟩; refine ⟨_, rfl, ?_⟩; have n0_ := Aside0.mk (blk_below (g := gb560) (o := .cells #[.int .u8 a0_0, .slice A0_1 l0_1.length c0_1] 56 (0, 0)) (by (with_reducible repeat (first | refine blk_drewN ?_ _ | refine blk_drew ?_ | refine blk_alloc ?_ _)); exact BK560.out) hb); have n1_ := Aside0.mk (below_step (by repeat (first | (with_reducible first | exact HB.out | apply below_alloc | apply pw_below_drewN | apply below_drew1 | refine below_set ?_ GE560.out) | exact HB.out)) hb); clear BK560; clear HB; have BK560 := n0_; have HB := n1_; clear n0_ n1_; (try clear hb); (try clear hb2); (try clear hk); (try clear hi)))
    (try simp only [Act.put, List.setIfInBounds_toArray, List.set_cons_zero, List.set_cons_succ])
    go_cut [25] (fun v25 wc => ∃ (kq : Nat) (x25_5 : Bool), v25 = .bool x25_5 ∧ Aside0 (tumbrellaw04_FrameBack.j0 kq l1 a2 x25_5 a0_0 l0_1 = some r) ∧ Aside0 (kq ≤ k) ∧ Aside0 (wc.heap[gb560]? = some (.cells #[.int .u8 a0_0, (.slice A0_1 l0_1.length c0_1)] 56 (0, 0))) ∧ Aside0 (Below w.heap.size w wc))
    case first =>
      have H := HC6.out
      clear HC6
      by_cases c9 : (l0_1.length : Int) > 1200
      · rw [if_pos c9] at H
        have c9b0 : decide (1200 < (l0_1.length : Int)) = true := decide_eq_true c9
        have c9b1 : decide (1200 < l0_1.length) = true := decide_eq_true (by omega)
        clear c9
        (first | rw [c9b0] | (simp only [i64_w, i32_w]; rw [c9b0]) | skip)
        have H' := Aside0.mk H
        clear H
        have hcz10_0 : w8.cell? ⟨gb560, 0, none⟩ = some (.int .u8 a0_0) := (blk_cell BK560.out 0).trans rfl
        have hcz10_1 : w8.cell? ⟨gb560, 1, none⟩ = some (.slice A0_1 l0_1.length c0_1) := (blk_cell BK560.out 1).trans rfl
        have hfz10_0 := blk_frozen BK560.out 0
        have hfz10_1 := blk_frozen BK560.out 1
        go_wp2
        go_meet
        case rel => exact ⟨_, (true), (by first | rfl | (simp; done) | (simp [*]; done)), H', ⟨by first | omega | exact Nat.le_refl _⟩, ⟨by (with_reducible repeat (first | refine blk_drewN ?_ _ | refine blk_drew ?_ | refine blk_alloc ?_ _)); exact BK560.out⟩, ⟨by repeat (first | (with_reducible first | exact HB.out | apply below_alloc | apply pw_below_drewN | apply below_drew1 | refine below_set ?_ GE560.out) | exact HB.out)⟩⟩
      · rw [if_neg c9] at H
        have c9b0 : decide (1200 < (l0_1.length : Int)) = false := decide_eq_false c9
        have c9b1 : decide (1200 < l0_1.length) = false := decide_eq_false (by omega)
        clear c9
        (first | rw [c9b0] | (simp only [i64_w, i32_w]; rw [c9b0]) | skip)
        have H' := Aside0.mk H
        clear H
        have hcz11_0 : w8.cell? ⟨gb560, 0, none⟩ = some (.int .u8 a0_0) := (blk_cell BK560.out 0).trans rfl
        have hcz11_1 : w8.cell? ⟨gb560, 1, none⟩ = some (.slice A0_1 l0_1.length c0_1) := (blk_cell BK560.out 1).trans rfl
        have hfz11_0 := blk_frozen BK560.out 0
        have hfz11_1 := blk_frozen BK560.out 1
        go_wp2
        go_meet
        case rel => exact ⟨_, (decide ((l1.length : Int) > 1200)), (by first | rfl | (simp; done) | (simp [*]; done)), H', ⟨by first | omega | exact Nat.le_refl _⟩, ⟨by (with_reducible repeat (first | refine blk_drewN ?_ _ | refine blk_drew ?_ | refine blk_alloc ?_ _)); exact BK560.out⟩, ⟨by repeat (first | (with_reducible first | exact HB.out | apply below_alloc | apply pw_below_drewN | apply below_drew1 | refine below_set ?_ GE560.out) | exact HB.out)⟩⟩
    case rest =>
      clear HC6
      try clear c1
      try clear p2
      try clear c4
      try clear c5
      try clear c9
      try clear c9b0
      try clear c9b1
      try clear hcz10_0
      try clear hcz10_1
      try clear hcz11_0
      try clear hcz11_1
      try clear hfz10_0
      try clear hfz10_1
      try clear hfz11_0
      try clear hfz11_1
      obtain ⟨kq, x25_5, rfl, HA, HJ5, BK560, HB⟩ := hcut
      cases kq with
      | zero => exact absurd HA.out (by simp [tumbrellaw04_FrameBack.j0])
      | succ kj5 =>
        have H := HA.out
        clear HA
        simp only [tumbrellaw04_FrameBack.j0] at H
        by_cases c12 : x25_5 = true
        · subst c12
          have H1 : (some true) = some r := by rw [if_pos rfl] at H; exact H
          clear H
          have H := H1
          clear H1
          obtain rfl := Option.some.inj H
          go_wp2
          go_ret
          exact ⟨by first | rfl | (simp [errW_none, errW_some] <;> rfl) | (simp [*, errW_none, errW_some] <;> rfl), by repeat (first | (with_reducible first | exact HB.out | apply below_alloc | apply pw_below_drewN | apply below_drew1 | refine below_set ?_ GE560.out) | exact HB.out)⟩
        · replace c12 := Bool.eq_false_iff.mpr c12
          subst c12
          have H1 : ((frame_Bytes.f a0_0 l0_1).bind fun bt562 => (if (l0_1.length : Int) > 400 then (if bt562.2 = 4 then (some ((bt562.1.length : Int) == 0)) else (some false)) else ((some (([] : List Int) : List Int)).bind fun y566 => (if y566.length + bt562.1.length < 140737488355328 then ((some (y566 ++ bt562.1 : List Int)).bind fun y569 => (if y569.length + l1.length < 140737488355328 then ((frame_Read.f kj5 (y569 ++ l1)).bind fun bt575 => (if bt562.2 = 0 then (if bt575.2.2.2 = 0 then (if bt575.2.2.1 = (bt562.1.length : Int) then (if bt575.2.2.1 = (wrap64 ((l0_1.length : Int) + 11)) then ((frame_Same.f a0_0 l0_1 bt575.1 bt575.2.1).bind fun t582 => (tumbrellaw04_FrameBack.j1 kj5 a2 bt562.1 bt575.2.2.1 (!t582))) else (tumbrellaw04_FrameBack.j1 kj5 a2 bt562.1 bt575.2.2.1 true)) else (tumbrellaw04_FrameBack.j1 kj5 a2 bt562.1 bt575.2.2.1 true)) else (tumbrellaw04_FrameBack.j1 kj5 a2 bt562.1 bt575.2.2.1 true)) else (tumbrellaw04_FrameBack.j1 kj5 a2 bt562.1 bt575.2.2.1 true))) else (none))) else (none))))) = some r := by rw [if_neg (show ¬ (false = true) by decide)] at H; exact H
          clear H
          have H := H1
          clear H1
          replace H := Option.bind_eq_some_iff.mp H
          obtain ⟨⟨t562, t565⟩, A130, H⟩ := H
          replace H : (if (l0_1.length : Int) > 400 then (if t565 = 4 then (some ((t562.length : Int) == 0)) else (some false)) else ((some (([] : List Int) : List Int)).bind fun y566 => (if y566.length + t562.length < 140737488355328 then ((some (y566 ++ t562 : List Int)).bind fun y569 => (if y569.length + l1.length < 140737488355328 then ((frame_Read.f kj5 (y569 ++ l1)).bind fun bt575 => (if t565 = 0 then (if bt575.2.2.2 = 0 then (if bt575.2.2.1 = (t562.length : Int) then (if bt575.2.2.1 = (wrap64 ((l0_1.length : Int) + 11)) then ((frame_Same.f a0_0 l0_1 bt575.1 bt575.2.1).bind fun t582 => (tumbrellaw04_FrameBack.j1 kj5 a2 t562 bt575.2.2.1 (!t582))) else (tumbrellaw04_FrameBack.j1 kj5 a2 t562 bt575.2.2.1 true)) else (tumbrellaw04_FrameBack.j1 kj5 a2 t562 bt575.2.2.1 true)) else (tumbrellaw04_FrameBack.j1 kj5 a2 t562 bt575.2.2.1 true)) else (tumbrellaw04_FrameBack.j1 kj5 a2 t562 bt575.2.2.1 true))) else (none))) else (none)))) = some r := H
          have A13 := Aside0.mk A130
          clear A130
          by_cases c14 : (l0_1.length : Int) > 400
          · rw [if_pos c14] at H
            have c14b0 : decide (400 < (l0_1.length : Int)) = true := decide_eq_true c14
            have c14b1 : decide (400 < l0_1.length) = true := decide_eq_true (by omega)
            clear c14
            by_cases c15 : t565 = 4
            · rw [if_pos c15] at H
              have c15b0 : (t565 == 4) = true := beq_iff_eq.mpr c15
              have c15b1 : (t565 != 4) = false := bne_eq_false_iff_eq.mpr c15
              clear c15
              obtain rfl := Option.some.inj H
              have hcz16_0 : wc.cell? ⟨gb560, 0, none⟩ = some (.int .u8 a0_0) := (blk_cell BK560.out 0).trans rfl
              have hcz16_1 : wc.cell? ⟨gb560, 1, none⟩ = some (.slice A0_1 l0_1.length c0_1) := (blk_cell BK560.out 1).trans rfl
              have hfz16_0 := blk_frozen BK560.out 0
              have hfz16_1 := blk_frozen BK560.out 1
              go_wp2_with (first | ((with_reducible refine gate_callee (f := 45) rfl ?_); refine goesL_ (some 28) rfl rfl Try.func45 (by kernel_rfl) rfl #[.agg #[.int .u8 a0_0, .slice A0_1 l0_1.length c0_1]] rfl (by (try simp only [List.map_toArray, List.map_cons, List.map_nil]); first | done | rfl | (simp only [List.length_drop, List.length_take]; rfl)) ?_; (with_reducible refine (frame_Bytes.calls a0_0 _ _ l0_1 t562 t565 _ ?side1 ?side2 A13.out).mono ?_); (case side1 => repeat (first | exact (Kd.C_below HR0_1.out HB.out) | (with_reducible refine Kd.C_alloc ?_ _) | (with_reducible refine Kd.C_drewN ?_ _) | (with_reducible refine Kd.C_drew ?_))); (case side2 => exact HC0_1.out); rintro e w17 ⟨v563, rfl, ho0, hb⟩; refine ⟨_, rfl, ?_⟩; have n0_ := Aside0.mk (Kd.R_lower ho0 (below_size (by repeat (first | (with_reducible first | exact HB.out | apply below_alloc | apply pw_below_drewN | apply below_drew1 | refine below_set ?_ GE560.out) | exact HB.out)))); have n1_ := Aside0.mk (blk_below (g := gb560) (o := .cells #[.int .u8 a0_0, .slice A0_1 l0_1.length c0_1] 56 (0, 0)) (by (with_reducible repeat (first | refine blk_drewN ?_ _ | refine blk_drew ?_ | refine blk_alloc ?_ _)); exact BK560.out) hb); have n2_ := Aside0.mk (below_step (by repeat (first | (with_reducible first | exact HB.out | apply below_alloc | apply pw_below_drewN | apply below_drew1 | refine below_set ?_ GE560.out) | exact HB.out)) hb); clear BK560; clear HB; have HO564 := n0_; have BK560 := n1_; have HB := n2_; clear n0_ n1_ n2_; (try clear hb); (try clear hb2); (try clear hk); (try clear hi); (try clear ho0); have hcz18_0 : w17.cell? ⟨gb560, 0, none⟩ = some (.int .u8 a0_0) := (blk_cell BK560.out 0).trans rfl; have hcz18_1 : w17.cell? ⟨gb560, 1, none⟩ = some (.slice A0_1 l0_1.length c0_1) := (blk_cell BK560.out 1).trans rfl; have hfz18_0 := blk_frozen BK560.out 0; have hfz18_1 := blk_frozen BK560.out 1; obtain ⟨Ao19, co19, eo19⟩ := Kd.R_slice HO564.out; subst eo19))
              go_ret
              exact ⟨by first | rfl | (simp [errW_none, errW_some] <;> rfl) | (simp [*, errW_none, errW_some] <;> rfl), by repeat (first | (with_reducible first | exact HB.out | apply below_alloc | apply pw_below_drewN | apply below_drew1 | refine below_set ?_ GE560.out) | exact HB.out)⟩
            · rw [if_neg c15] at H
              have c15b0 : (t565 == 4) = false := beq_eq_false_iff_ne.mpr c15
              have c15b1 : (t565 != 4) = true := bne_iff_ne.mpr c15
              obtain rfl := Option.some.inj H
              have hcz20_0 : wc.cell? ⟨gb560, 0, none⟩ = some (.int .u8 a0_0) := (blk_cell BK560.out 0).trans rfl
              have hcz20_1 : wc.cell? ⟨gb560, 1, none⟩ = some (.slice A0_1 l0_1.length c0_1) := (blk_cell BK560.out 1).trans rfl
              have hfz20_0 := blk_frozen BK560.out 0
              have hfz20_1 := blk_frozen BK560.out 1
              go_wp2_with (first | ((with_reducible refine gate_callee (f := 45) rfl ?_); refine goesL_ (some 28) rfl rfl Try.func45 (by kernel_rfl) rfl #[.agg #[.int .u8 a0_0, .slice A0_1 l0_1.length c0_1]] rfl (by (try simp only [List.map_toArray, List.map_cons, List.map_nil]); first | done | rfl | (simp only [List.length_drop, List.length_take]; rfl)) ?_; (with_reducible refine (frame_Bytes.calls a0_0 _ _ l0_1 t562 t565 _ ?side1 ?side2 A13.out).mono ?_); (case side1 => repeat (first | exact (Kd.C_below HR0_1.out HB.out) | (with_reducible refine Kd.C_alloc ?_ _) | (with_reducible refine Kd.C_drewN ?_ _) | (with_reducible refine Kd.C_drew ?_))); (case side2 => exact HC0_1.out); rintro e w21 ⟨v563, rfl, ho0, hb⟩; refine ⟨_, rfl, ?_⟩; have n0_ := Aside0.mk (Kd.R_lower ho0 (below_size (by repeat (first | (with_reducible first | exact HB.out | apply below_alloc | apply pw_below_drewN | apply below_drew1 | refine below_set ?_ GE560.out) | exact HB.out)))); have n1_ := Aside0.mk (blk_below (g := gb560) (o := .cells #[.int .u8 a0_0, .slice A0_1 l0_1.length c0_1] 56 (0, 0)) (by (with_reducible repeat (first | refine blk_drewN ?_ _ | refine blk_drew ?_ | refine blk_alloc ?_ _)); exact BK560.out) hb); have n2_ := Aside0.mk (below_step (by repeat (first | (with_reducible first | exact HB.out | apply below_alloc | apply pw_below_drewN | apply below_drew1 | refine below_set ?_ GE560.out) | exact HB.out)) hb); clear BK560; clear HB; have HO564 := n0_; have BK560 := n1_; have HB := n2_; clear n0_ n1_ n2_; (try clear hb); (try clear hb2); (try clear hk); (try clear hi); (try clear ho0); have hcz22_0 : w21.cell? ⟨gb560, 0, none⟩ = some (.int .u8 a0_0) := (blk_cell BK560.out 0).trans rfl; have hcz22_1 : w21.cell? ⟨gb560, 1, none⟩ = some (.slice A0_1 l0_1.length c0_1) := (blk_cell BK560.out 1).trans rfl; have hfz22_0 := blk_frozen BK560.out 0; have hfz22_1 := blk_frozen BK560.out 1))
              go_ret
              exact ⟨by first | rfl | (simp [errW_none, errW_some] <;> rfl) | (simp [*, errW_none, errW_some] <;> rfl), by repeat (first | (with_reducible first | exact HB.out | apply below_alloc | apply pw_below_drewN | apply below_drew1 | refine below_set ?_ GE560.out) | exact HB.out)⟩
          · rw [if_neg c14] at H
            have c14b0 : decide (400 < (l0_1.length : Int)) = false := decide_eq_false c14
            have c14b1 : decide (400 < l0_1.length) = false := decide_eq_false (by omega)
            clear c14
            obtain ⟨y566, hy566⟩ : ∃ y_ : List Int, y_ = (([] : List Int)) := ⟨_, rfl⟩
            replace H : (if y566.length + t562.length < 140737488355328 then ((some (y566 ++ t562 : List Int)).bind fun y569 => (if y569.length + l1.length < 140737488355328 then ((frame_Read.f kj5 (y569 ++ l1)).bind fun bt575 => (if t565 = 0 then (if bt575.2.2.2 = 0 then (if bt575.2.2.1 = (t562.length : Int) then (if bt575.2.2.1 = (wrap64 ((l0_1.length : Int) + 11)) then ((frame_Same.f a0_0 l0_1 bt575.1 bt575.2.1).bind fun t582 => (tumbrellaw04_FrameBack.j1 kj5 a2 t562 bt575.2.2.1 (!t582))) else (tumbrellaw04_FrameBack.j1 kj5 a2 t562 bt575.2.2.1 true)) else (tumbrellaw04_FrameBack.j1 kj5 a2 t562 bt575.2.2.1 true)) else (tumbrellaw04_FrameBack.j1 kj5 a2 t562 bt575.2.2.1 true)) else (tumbrellaw04_FrameBack.j1 kj5 a2 t562 bt575.2.2.1 true))) else (none))) else (none)) = some r := by first | (rw [hy566]; with_reducible exact H) | (have H2_ := (Option.bind_some _ _).symm.trans H; rw [hy566]; with_reducible exact H2_) | (have H2_ := (Option.bind_some _ _).symm.trans H; with_reducible exact H2_) | with_reducible exact H | (rw [hy566]; exact H) | exact H
            have Ny566 := Aside0.mk hy566
            clear hy566
            by_cases c23 : y566.length + t562.length < 140737488355328
            · rw [if_pos c23] at H
              have LMc23 := Aside0.mk c23
              clear c23
              obtain ⟨y569, hy569⟩ : ∃ y_ : List Int, y_ = (y566 ++ t562) := ⟨_, rfl⟩
              replace H : (if y569.length + l1.length < 140737488355328 then ((frame_Read.f kj5 (y569 ++ l1)).bind fun bt575 => (if t565 = 0 then (if bt575.2.2.2 = 0 then (if bt575.2.2.1 = (t562.length : Int) then (if bt575.2.2.1 = (wrap64 ((l0_1.length : Int) + 11)) then ((frame_Same.f a0_0 l0_1 bt575.1 bt575.2.1).bind fun t582 => (tumbrellaw04_FrameBack.j1 kj5 a2 t562 bt575.2.2.1 (!t582))) else (tumbrellaw04_FrameBack.j1 kj5 a2 t562 bt575.2.2.1 true)) else (tumbrellaw04_FrameBack.j1 kj5 a2 t562 bt575.2.2.1 true)) else (tumbrellaw04_FrameBack.j1 kj5 a2 t562 bt575.2.2.1 true)) else (tumbrellaw04_FrameBack.j1 kj5 a2 t562 bt575.2.2.1 true))) else (none)) = some r := by first | (rw [hy569]; with_reducible exact H) | (have H2_ := (Option.bind_some _ _).symm.trans H; rw [hy569]; with_reducible exact H2_) | (have H2_ := (Option.bind_some _ _).symm.trans H; with_reducible exact H2_) | with_reducible exact H | (rw [hy569]; exact H) | exact H
              have Ny569 := Aside0.mk hy569
              clear hy569
              by_cases c24 : y569.length + l1.length < 140737488355328
              · rw [if_pos c24] at H
                have LMc24 := Aside0.mk c24
                clear c24
                obtain ⟨y572, hy572⟩ : ∃ y_ : List Int, y_ = (y569 ++ l1) := ⟨_, rfl⟩
                replace H : ((frame_Read.f kj5 y572).bind fun bt575 => (if t565 = 0 then (if bt575.2.2.2 = 0 then (if bt575.2.2.1 = (t562.length : Int) then (if bt575.2.2.1 = (wrap64 ((l0_1.length : Int) + 11)) then ((frame_Same.f a0_0 l0_1 bt575.1 bt575.2.1).bind fun t582 => (tumbrellaw04_FrameBack.j1 kj5 a2 t562 bt575.2.2.1 (!t582))) else (tumbrellaw04_FrameBack.j1 kj5 a2 t562 bt575.2.2.1 true)) else (tumbrellaw04_FrameBack.j1 kj5 a2 t562 bt575.2.2.1 true)) else (tumbrellaw04_FrameBack.j1 kj5 a2 t562 bt575.2.2.1 true)) else (tumbrellaw04_FrameBack.j1 kj5 a2 t562 bt575.2.2.1 true))) = some r := by first | (rw [hy572]; with_reducible exact H) | (have H2_ := (Option.bind_some _ _).symm.trans H; rw [hy572]; with_reducible exact H2_) | (have H2_ := (Option.bind_some _ _).symm.trans H; with_reducible exact H2_) | with_reducible exact H | (rw [hy572]; exact H) | exact H
                have Ny572 := Aside0.mk hy572
                clear hy572
                replace H := Option.bind_eq_some_iff.mp H
                obtain ⟨⟨t575, t576, t579, t580⟩, A250, H⟩ := H
                replace H : (if t565 = 0 then (if t580 = 0 then (if t579 = (t562.length : Int) then (if t579 = (wrap64 ((l0_1.length : Int) + 11)) then ((frame_Same.f a0_0 l0_1 t575 t576).bind fun t582 => (tumbrellaw04_FrameBack.j1 kj5 a2 t562 t579 (!t582))) else (tumbrellaw04_FrameBack.j1 kj5 a2 t562 t579 true)) else (tumbrellaw04_FrameBack.j1 kj5 a2 t562 t579 true)) else (tumbrellaw04_FrameBack.j1 kj5 a2 t562 t579 true)) else (tumbrellaw04_FrameBack.j1 kj5 a2 t562 t579 true)) = some r := H
                have A25 := Aside0.mk A250
                clear A250
                have HC26 := Aside0.mk H
                clear H
                have hcz27_0 : wc.cell? ⟨gb560, 0, none⟩ = some (.int .u8 a0_0) := (blk_cell BK560.out 0).trans rfl
                have hcz27_1 : wc.cell? ⟨gb560, 1, none⟩ = some (.slice A0_1 l0_1.length c0_1) := (blk_cell BK560.out 1).trans rfl
                have hfz27_0 := blk_frozen BK560.out 0
                have hfz27_1 := blk_frozen BK560.out 1
                go_upto_region 9 with (first | ((with_reducible refine gate_callee (f := 45) rfl ?_); refine goesL_ (some 28) rfl rfl Try.func45 (by kernel_rfl) rfl #[.agg #[.int .u8 a0_0, .slice A0_1 l0_1.length c0_1]] rfl (by (try simp only [List.map_toArray, List.map_cons, List.map_nil]); first | done | rfl | (simp only [List.length_drop, List.length_take]; rfl)) ?_; (with_reducible refine (frame_Bytes.calls a0_0 _ _ l0_1 t562 t565 _ ?side1 ?side2 A13.out).mono ?_); (case side1 => repeat (first | exact (Kd.C_below HR0_1.out HB.out) | (with_reducible refine Kd.C_alloc ?_ _) | (with_reducible refine Kd.C_drewN ?_ _) | (with_reducible refine Kd.C_drew ?_))); (case side2 => exact HC0_1.out); rintro e w28 ⟨v563, rfl, ho0, hb⟩; refine ⟨_, rfl, ?_⟩; have n0_ := Aside0.mk (Kd.R_lower ho0 (below_size (by repeat (first | (with_reducible first | exact HB.out | apply below_alloc | apply pw_below_drewN | apply below_drew1 | refine below_set ?_ GE560.out) | exact HB.out)))); have n1_ := Aside0.mk (blk_below (g := gb560) (o := .cells #[.int .u8 a0_0, .slice A0_1 l0_1.length c0_1] 56 (0, 0)) (by (with_reducible repeat (first | refine blk_drewN ?_ _ | refine blk_drew ?_ | refine blk_alloc ?_ _)); exact BK560.out) hb); have n2_ := Aside0.mk (below_step (by repeat (first | (with_reducible first | exact HB.out | apply below_alloc | apply pw_below_drewN | apply below_drew1 | refine below_set ?_ GE560.out) | exact HB.out)) hb); clear BK560; clear HB; have HO564 := n0_; have BK560 := n1_; have HB := n2_; clear n0_ n1_ n2_; (try clear hb); (try clear hb2); (try clear hk); (try clear hi); (try clear ho0); have hcz29_0 : w28.cell? ⟨gb560, 0, none⟩ = some (.int .u8 a0_0) := (blk_cell BK560.out 0).trans rfl; have hcz29_1 : w28.cell? ⟨gb560, 1, none⟩ = some (.slice A0_1 l0_1.length c0_1) := (blk_cell BK560.out 1).trans rfl; have hfz29_0 := blk_frozen BK560.out 0; have hfz29_1 := blk_frozen BK560.out 1) | ((with_reducible refine gate_dst (N := 43) rfl ?_); (try (refine gate_guard (by rfl) ?_; dsimp only)); refine Kd.R_lit (Kd.int .u8) _ 5 ?hg (N := 43) ?hd (xs := ([] : List Int)) (inner := []) (ok := fun _ => True) (okp := fun _ => True) ?hr ?hp (fun _ hk => hk) trivial (Below.refl _ _) (Nat.le_refl _) (by simp) ?_; (case hd => rfl); (case hg => rfl); (case hr => first | (go_simp; done) | (go_simp; rfl)); (case hp => exact (Reps.none _ _)); intro v567 w30 ho31 hb hg_ hnew_; clear hg_ hnew_; (first | rw [← Ny566.out] at ho31 | (simp only [Int.reduceToNat] at ho31; rw [← Ny566.out] at ho31)); have n0_ := Aside0.mk (Kd.R_elder' (by (with_reducible repeat (first | apply Kd.R_alloc | apply Kd.R_drewN | apply Kd.R_drew)); exact HO564.out) (Kd.R_base ho31) hb); have n1_ := Aside0.mk (Kd.R_lower (Kd.R_new' ho31 (Kd.R_lt (by (with_reducible repeat (first | apply Kd.R_alloc | apply Kd.R_drewN | apply Kd.R_drew)); exact HO564.out))) (below_size (by repeat (first | (with_reducible first | exact HB.out | apply below_alloc | apply pw_below_drewN | apply below_drew1 | refine below_set ?_ GE560.out) | exact HB.out)))); have n2_ := Aside0.mk (blk_below (g := gb560) (o := .cells #[.int .u8 a0_0, .slice A0_1 l0_1.length c0_1] 56 (0, 0)) (by (with_reducible repeat (first | refine blk_drewN ?_ _ | refine blk_drew ?_ | refine blk_alloc ?_ _)); exact BK560.out) hb); have n3_ := Aside0.mk (below_step (by repeat (first | (with_reducible first | exact HB.out | apply below_alloc | apply pw_below_drewN | apply below_drew1 | refine below_set ?_ GE560.out) | exact HB.out)) hb); clear HO564; clear BK560; clear HB; have HO564 := n0_; have HO568 := n1_; have BK560 := n2_; have HB := n3_; clear n0_ n1_ n2_ n3_; clear hb ho31; obtain ⟨Ao33, co33, eo33⟩ := Kd.R_slice HO564.out; subst eo33) | ((with_reducible refine gate_builtin (b := .append) (xs := #[.tmp 43, .tmp 44]) rfl ?_); (try (refine gate_guard (by rfl) ?_; dsimp only)); at_builtin; refine Kd.R_append_rows (Kd.int .u8) (w0 := w) w.heap.size rfl (.tmp 43) (.tmp 44) 23 5 (.int .u8 0) 1 rfl Try.underlying23 info5 rfl (by decide) (by omega) v567 y566 t562 _ _ _ (fun k_ => some k_ ≠ (.slice Ao33 t562.length co33 : Value).ownBlock) (fun _ => False) rfl rfl ?aO ?aR (fun _ _ h => h) (fun _ h => h.elim) ?aF ?aB ?aS ?aL ?_; (case aR => repeat (first | exact (Kd.R_reads' HO564.out).2.2 | (with_reducible refine Kd.C_alloc ?_ _) | (with_reducible refine Kd.C_drewN ?_ _) | (with_reducible refine Kd.C_drew ?_))); (case aB => exact (by repeat (first | (with_reducible first | exact HB.out | apply below_alloc | apply pw_below_drewN | apply below_drew1 | refine below_set ?_ GE560.out) | exact HB.out))); (case aF => exact (fun k_ hk => Kd.fresh' (Kd.R_lt (by (with_reducible repeat (first | apply Kd.R_alloc | apply Kd.R_drewN | apply Kd.R_drew)); exact HO564.out)) k_ hk)); (case aO => exact (by (with_reducible repeat (first | apply Kd.R_alloc | apply Kd.R_drewN | apply Kd.R_drew)); exact Kd.R_mono HO568.out (fun _ hk => hk.2))); (case aS => exact (below_size (by repeat (first | (with_reducible first | exact HB.out | apply below_alloc | apply pw_below_drewN | apply below_drew1 | refine below_set ?_ GE560.out) | exact HB.out)))); (case aL => have := LMc23.out; omega); intro v570 w32 ho hb hg hat; rw [← Ny569.out] at ho; have n0_ := Aside0.mk (blk_grown (g := gb560) (o := .cells #[.int .u8 a0_0, .slice A0_1 l0_1.length c0_1] 56 (0, 0)) (by (with_reducible repeat (first | refine blk_drewN ?_ _ | refine blk_drew ?_ | refine blk_alloc ?_ _)); exact BK560.out) hg (Kd.R_ne HO568.out BK560.out (by decide))); have n1_ := Aside0.mk (Kd.R_after (ok := (fun _ => True)) (by (with_reducible repeat (first | apply Kd.R_alloc | apply Kd.R_drewN | apply Kd.R_drew)); exact HO564.out) hg hat); have n2_ := Aside0.mk (hb); have n3_ := Aside0.mk (ho); clear BK560; clear HO564; clear HB; clear HO568; have BK560 := n0_; have HO564 := n1_; have HB := n2_; have HO571 := n3_; clear n0_ n1_ n2_ n3_; clear ho hb hg hat) | ((with_reducible refine gate_builtin (b := .append) (xs := #[.tmp 45, .tmp 46]) rfl ?_); (try (refine gate_guard (by rfl) ?_; dsimp only)); at_builtin; refine Kd.R_append_rows (Kd.int .u8) (w0 := w) w.heap.size rfl (.tmp 45) (.tmp 46) 23 5 (.int .u8 0) 1 rfl Try.underlying23 info5 rfl (by decide) (by omega) v570 y569 l1 _ _ _ (fun k_ => some k_ ≠ (.slice Ao33 t562.length co33 : Value).ownBlock) (fun _ => False) rfl rfl ?aO ?aR (fun _ _ h => h) (fun _ h => h.elim) ?aF ?aB ?aS ?aL ?_; (case aR => repeat (first | exact (Kd.C_below HR1.out HB.out) | (with_reducible refine Kd.C_alloc ?_ _) | (with_reducible refine Kd.C_drewN ?_ _) | (with_reducible refine Kd.C_drew ?_))); (case aB => exact (by repeat (first | (with_reducible first | exact HB.out | apply below_alloc | apply pw_below_drewN | apply below_drew1 | refine below_set ?_ GE560.out) | exact HB.out))); (case aF => exact (fun k_ hk => Kd.fresh' (Kd.R_lt (by (with_reducible repeat (first | apply Kd.R_alloc | apply Kd.R_drewN | apply Kd.R_drew)); exact HO564.out)) k_ hk)); (case aO => exact (by (with_reducible repeat (first | apply Kd.R_alloc | apply Kd.R_drewN | apply Kd.R_drew)); exact HO571.out)); (case aS => exact (below_size (by repeat (first | (with_reducible first | exact HB.out | apply below_alloc | apply pw_below_drewN | apply below_drew1 | refine below_set ?_ GE560.out) | exact HB.out)))); (case aL => have := LMc24.out; omega); intro v573 w34 ho hb hg hat; rw [← Ny572.out] at ho; have n0_ := Aside0.mk (blk_grown (g := gb560) (o := .cells #[.int .u8 a0_0, .slice A0_1 l0_1.length c0_1] 56 (0, 0)) (by (with_reducible repeat (first | refine blk_drewN ?_ _ | refine blk_drew ?_ | refine blk_alloc ?_ _)); exact BK560.out) hg (Kd.R_ne HO571.out BK560.out (by decide))); have n1_ := Aside0.mk (Kd.R_after (ok := (fun _ => True)) (by (with_reducible repeat (first | apply Kd.R_alloc | apply Kd.R_drewN | apply Kd.R_drew)); exact HO564.out) hg hat); have n2_ := Aside0.mk (hb); have n3_ := Aside0.mk (ho); clear BK560; clear HO564; clear HB; clear HO571; have BK560 := n0_; have HO564 := n1_; have HB := n2_; have HO574 := n3_; clear n0_ n1_ n2_ n3_; clear ho hb hg hat; obtain ⟨Ao35, co35, eo35⟩ := Kd.R_slice HO574.out; subst eo35) | ((with_reducible refine gate_callee (f := 47) rfl ?_); refine goesL_ (some 48) rfl rfl Try.func47 (by kernel_rfl) rfl #[.slice Ao35 y572.length co35] rfl (by (try simp only [List.map_toArray, List.map_cons, List.map_nil]); first | done | rfl | (simp only [List.length_drop, List.length_take]; rfl)) ?_; (with_reducible refine (frame_Read.calls kj5 _ _ y572 t575 t576 t579 t580 _ ?side1 ?side2 A25.out).mono ?_); (case side1 => repeat (first | exact (Kd.R_reads' HO574.out).2.2 | (with_reducible refine Kd.C_alloc ?_ _) | (with_reducible refine Kd.C_drewN ?_ _) | (with_reducible refine Kd.C_drew ?_))); (case side2 => exact (Kd.R_reads' HO574.out).2.1); rintro e w36 ⟨v577, rfl, ho0, hb⟩; refine ⟨_, rfl, ?_⟩; have n0_ := Aside0.mk (Kd.R_elder' (by (with_reducible repeat (first | apply Kd.R_alloc | apply Kd.R_drewN | apply Kd.R_drew)); exact HO564.out) (Kd.R_base ho0) hb); have n1_ := Aside0.mk (Kd.R_elder' (by (with_reducible repeat (first | apply Kd.R_alloc | apply Kd.R_drewN | apply Kd.R_drew)); exact HO574.out) (Kd.R_base ho0) hb); have n2_ := Aside0.mk (Kd.R_lower (Kd.R_new' (Kd.R_new' ho0 (Kd.R_lt (by (with_reducible repeat (first | apply Kd.R_alloc | apply Kd.R_drewN | apply Kd.R_drew)); exact HO564.out))) (Kd.R_lt (by (with_reducible repeat (first | apply Kd.R_alloc | apply Kd.R_drewN | apply Kd.R_drew)); exact HO574.out))) (below_size (by repeat (first | (with_reducible first | exact HB.out | apply below_alloc | apply pw_below_drewN | apply below_drew1 | refine below_set ?_ GE560.out) | exact HB.out)))); have n3_ := Aside0.mk (blk_below (g := gb560) (o := .cells #[.int .u8 a0_0, .slice A0_1 l0_1.length c0_1] 56 (0, 0)) (by (with_reducible repeat (first | refine blk_drewN ?_ _ | refine blk_drew ?_ | refine blk_alloc ?_ _)); exact BK560.out) hb); have n4_ := Aside0.mk (below_step (by repeat (first | (with_reducible first | exact HB.out | apply below_alloc | apply pw_below_drewN | apply below_drew1 | refine below_set ?_ GE560.out) | exact HB.out)) hb); clear HO564; clear HO574; clear BK560; clear HB; have HO564 := n0_; have HO574 := n1_; have HO578 := n2_; have BK560 := n3_; have HB := n4_; clear n0_ n1_ n2_ n3_ n4_; (try clear hb); (try clear hb2); (try clear hk); (try clear hi); (try clear ho0)) | ((with_reducible refine gate_dst (N := 9) rfl ?_); (try (refine gate_guard (by rfl) ?_; dsimp only)); refine box_event ?hg (N := 9) ?hd (cs := #[.int .u8 0, .slice none 0 0]) (t := 56) ?hr ?_; (case hd => rfl); (case hg => rfl); (case hr => first | (go_simp; done) | (go_simp; rfl)); intro gb581 hg w37 hbox hb; have n0_ := Aside0.mk (Kd.R_below (by (with_reducible repeat (first | apply Kd.R_alloc | apply Kd.R_drewN | apply Kd.R_drew)); exact HO564.out) hb); have n1_ := Aside0.mk (Kd.R_below (by (with_reducible repeat (first | apply Kd.R_alloc | apply Kd.R_drewN | apply Kd.R_drew)); exact HO574.out) hb); have n2_ := Aside0.mk (Kd.R_below (by (with_reducible repeat (first | apply Kd.R_alloc | apply Kd.R_drewN | apply Kd.R_drew)); exact HO578.out) hb); have n3_ := Aside0.mk (blk_below (g := gb560) (o := .cells #[.int .u8 a0_0, .slice A0_1 l0_1.length c0_1] 56 (0, 0)) (by (with_reducible repeat (first | refine blk_drewN ?_ _ | refine blk_drew ?_ | refine blk_alloc ?_ _)); exact BK560.out) hb); have n4_ := Aside0.mk (below_step (by repeat (first | (with_reducible first | exact HB.out | apply below_alloc | apply pw_below_drewN | apply below_drew1 | refine below_set ?_ GE560.out) | exact HB.out)) hb); have n5_ := Aside0.mk (hbox); have n6_ := Aside0.mk ((by rw [hg]; exact (below_size (by repeat (first | (with_reducible first | exact HB.out | apply below_alloc | apply pw_below_drewN | apply below_drew1 | refine below_set ?_ GE560.out) | exact HB.out))) : w.heap.size ≤ gb581)); have n7_ := Aside0.mk ((by rw [hg]; exact (below_size (by repeat (first | (with_reducible first | exact HB.out | apply below_alloc | apply pw_below_drewN | apply below_drew1 | refine below_set ?_ GE560.out) | exact HB.out))) : w.heap.size ≤ gb581)); have n8_ := Aside0.mk ((by rw [hg]; exact Nat.ne_of_lt (blk_lt (g := gb560) (o := .cells #[.int .u8 a0_0, .slice A0_1 l0_1.length c0_1] 56 (0, 0)) (by (with_reducible repeat (first | refine blk_drewN ?_ _ | refine blk_drew ?_ | refine blk_alloc ?_ _)); exact BK560.out)) : gb560 ≠ gb581)); have n9_ := Aside0.mk ((by rw [hg]; exact Nat.ne_of_gt (blk_lt (g := gb560) (o := .cells #[.int .u8 a0_0, .slice A0_1 l0_1.length c0_1] 56 (0, 0)) (by (with_reducible repeat (first | refine blk_drewN ?_ _ | refine blk_drew ?_ | refine blk_alloc ?_ _)); exact BK560.out)) : gb581 ≠ gb560)); clear HO564; clear HO574; clear HO578; clear BK560; clear HB; have HO564 := n0_; have HO574 := n1_; have HO578 := n2_; have BK560 := n3_; have HB := n4_; have BK581 := n5_; have GW581 := n6_; have GE581 := n7_; have NB560_581 := n8_; have NB581_560 := n9_; clear n0_ n1_ n2_ n3_ n4_ n5_ n6_ n7_ n8_ n9_; clear hb hbox hg; have hnb38 := NB581_560.out; have hnc38 := NB560_581.out; have hcz39_0 : w37.cell? ⟨gb581, 0, none⟩ = some (.int .u8 0) := (blk_cell BK581.out 0).trans rfl; have hcz39_1 : w37.cell? ⟨gb581, 1, none⟩ = some (.slice none 0 0) := (blk_cell BK581.out 1).trans rfl; have hfz39_0 := blk_frozen BK581.out 0; have hfz39_1 := blk_frozen BK581.out 1; obtain ⟨Ao40, co40, eo40⟩ := Kd.R_slice HO578.out; subst eo40))
                (try simp only [Act.put, List.setIfInBounds_toArray, List.set_cons_zero, List.set_cons_succ])
                go_cut [77] (fun v77 wc => ∃ (kq : Nat) (x77_25 : Bool), v77 = .bool x77_25 ∧ Aside0 (tumbrellaw04_FrameBack.j1 kq a2 t562 t579 x77_25 = some r) ∧ Aside0 (kq ≤ kj5) ∧ Aside0 (Kd.R (Kd.int .u8) 5 wc w.heap.size (fun k_ => some k_ ≠ ((.slice Ao40 t576.length co40) : Value).ownBlock) (.slice Ao33 t562.length co33) t562) ∧ Aside0 (Kd.R (Kd.int .u8) 5 wc w.heap.size (fun k_ => some k_ ≠ ((.slice Ao33 t562.length co33) : Value).ownBlock) (.slice Ao40 t576.length co40) t576) ∧ Aside0 (wc.heap[gb560]? = some (.cells #[.int .u8 a0_0, (.slice A0_1 l0_1.length c0_1)] 56 (0, 0))) ∧ Aside0 (wc.heap[gb581]? = some (.cells #[.int .u8 t575, (.slice Ao40 t576.length co40)] 56 (0, 0))) ∧ Aside0 (Below w.heap.size w wc))
                case first =>
                  have H := HC26.out
                  clear HC26
                  by_cases c41 : t565 = 0
                  · rw [if_pos c41] at H
                    have c41b0 : (t565 == 0) = true := beq_iff_eq.mpr c41
                    have c41b1 : (t565 != 0) = false := bne_eq_false_iff_eq.mpr c41
                    clear c41
                    (first | rw [c41b0] | (simp only [i64_w, i32_w]; rw [c41b0]) | skip)
                    by_cases c42 : t580 = 0
                    · rw [if_pos c42] at H
                      have c42b0 : (t580 == 0) = true := beq_iff_eq.mpr c42
                      have c42b1 : (t580 != 0) = false := bne_eq_false_iff_eq.mpr c42
                      clear c42
                      by_cases c43 : t579 = (t562.length : Int)
                      · rw [if_pos c43] at H
                        have c43b0 : (t579 == (t562.length : Int)) = true := beq_iff_eq.mpr c43
                        have c43b1 : (t579 != (t562.length : Int)) = false := bne_eq_false_iff_eq.mpr c43
                        clear c43
                        by_cases c44 : t579 = (wrap64 ((l0_1.length : Int) + 11))
                        · rw [if_pos c44] at H
                          have c44b0 : (t579 == (wrap64 ((l0_1.length : Int) + 11))) = true := beq_iff_eq.mpr c44
                          have c44b1 : (t579 != (wrap64 ((l0_1.length : Int) + 11))) = false := bne_eq_false_iff_eq.mpr c44
                          clear c44
                          replace H := Option.bind_eq_some_iff.mp H
                          obtain ⟨t582, A450, H⟩ := H
                          replace H : (tumbrellaw04_FrameBack.j1 kj5 a2 t562 t579 (!t582)) = some r := H
                          have A45 := Aside0.mk A450
                          clear A450
                          have H' := Aside0.mk H
                          clear H
                          have hnb46 := NB560_581.out
                          have hnc46 := NB581_560.out
                          have hcz47_0 : w37.cell? ⟨gb560, 0, none⟩ = some (.int .u8 a0_0) := (blk_cell BK560.out 0).trans rfl
                          have hcz47_1 : w37.cell? ⟨gb560, 1, none⟩ = some (.slice A0_1 l0_1.length c0_1) := (blk_cell BK560.out 1).trans rfl
                          have hfz47_0 := blk_frozen BK560.out 0
                          have hfz47_1 := blk_frozen BK560.out 1
                          have hcz48_0 : w37.cell? ⟨gb581, 0, none⟩ = some (.int .u8 0) := (blk_cell BK581.out 0).trans rfl
                          have hcz48_1 : w37.cell? ⟨gb581, 1, none⟩ = some (.slice none 0 0) := (blk_cell BK581.out 1).trans rfl
                          have hfz48_0 := blk_frozen BK581.out 0
                          have hfz48_1 := blk_frozen BK581.out 1
                          go_wp2_with (first | (go_at_call 53; (with_reducible refine (frame_Same.calls a0_0 _ _ l0_1 t575 _ _ t576 t582 _ ?side1 ?side2 ?side3 ?side4 A45.out).mono ?_); (case side1 => exact Kd.C_below HR0_1.out (by repeat (first | (with_reducible first | exact HB.out | apply below_alloc | apply pw_below_drewN | apply below_drew1 | refine below_set ?_ GE560.out | refine below_set ?_ GE581.out) | exact HB.out))); (case side2 => exact HC0_1.out); (case side3 => refine (Kd.R_reads' (e := 5) (base := w.heap.size) (ok := fun k_ => ((True ∧ some k_ ≠ (.slice Ao33 t562.length co33 : Value).ownBlock) ∧ some k_ ≠ (.slice Ao35 y572.length co35 : Value).ownBlock)) (n := t576.length) (c := co40) ?_).2.2; exact (by (with_reducible repeat (first | apply Kd.R_alloc | apply Kd.R_drewN | apply Kd.R_drew)); exact (Kd.R_mono (Kd.R_far (p := ⟨gb581, 1, none⟩) (Kd.R_far (p := ⟨gb581, 0, none⟩) (Kd.R_types HO578.out BK581.out (by decide)) (fun _ hk => hk.2) (.int .u8 t575)) (fun _ hk => hk.2) (.slice Ao40 t576.length co40)) (fun _ h_ => h_.1)))); (case side4 => exact (Kd.R_reads' HO578.out).2.1); rintro e w49 ⟨rfl, hb⟩; have n0_ := Aside0.mk (Kd.R_below (by (with_reducible repeat (first | apply Kd.R_alloc | apply Kd.R_drewN | apply Kd.R_drew)); exact (Kd.R_mono (Kd.R_far (p := ⟨gb581, 1, none⟩) (Kd.R_far (p := ⟨gb581, 0, none⟩) (Kd.R_types HO564.out BK581.out (by decide)) (fun _ hk => hk.2) (.int .u8 t575)) (fun _ hk => hk.2) (.slice Ao40 t576.length co40)) (fun _ h_ => h_.1))) hb); have n1_ := Aside0.mk (Kd.R_below (by (with_reducible repeat (first | apply Kd.R_alloc | apply Kd.R_drewN | apply Kd.R_drew)); exact (Kd.R_mono (Kd.R_far (p := ⟨gb581, 1, none⟩) (Kd.R_far (p := ⟨gb581, 0, none⟩) (Kd.R_types HO574.out BK581.out (by decide)) (fun _ hk => hk.2) (.int .u8 t575)) (fun _ hk => hk.2) (.slice Ao40 t576.length co40)) (fun _ h_ => h_.1))) hb); have n2_ := Aside0.mk (Kd.R_below (by (with_reducible repeat (first | apply Kd.R_alloc | apply Kd.R_drewN | apply Kd.R_drew)); exact (Kd.R_mono (Kd.R_far (p := ⟨gb581, 1, none⟩) (Kd.R_far (p := ⟨gb581, 0, none⟩) (Kd.R_types HO578.out BK581.out (by decide)) (fun _ hk => hk.2) (.int .u8 t575)) (fun _ hk => hk.2) (.slice Ao40 t576.length co40)) (fun _ h_ => h_.1))) hb); have n3_ := Aside0.mk (blk_below (g := gb560) (o := .cells #[.int .u8 a0_0, .slice A0_1 l0_1.length c0_1] 56 (0, 0)) (by (with_reducible repeat (first | refine blk_drewN ?_ _ | refine blk_drew ?_ | refine blk_alloc ?_ _)); refine blk_far ?_ NB560_581.out _; (with_reducible repeat (first | refine blk_drewN ?_ _ | refine blk_drew ?_ | refine blk_alloc ?_ _)); refine blk_far ?_ NB560_581.out _; (with_reducible repeat (first | refine blk_drewN ?_ _ | refine blk_drew ?_ | refine blk_alloc ?_ _)); exact BK560.out) hb); have n4_ := Aside0.mk (blk_below (g := gb581) (o := .cells #[.int .u8 t575, .slice Ao40 t576.length co40] 56 (0, 0)) (by (with_reducible repeat (first | refine blk_drewN ?_ _ | refine blk_drew ?_ | refine blk_alloc ?_ _)); refine blk_put (cs := #[.int .u8 t575, .slice none 0 0]) ?_ 1 _ rfl; (with_reducible repeat (first | refine blk_drewN ?_ _ | refine blk_drew ?_ | refine blk_alloc ?_ _)); refine blk_put (cs := #[.int .u8 0, .slice none 0 0]) ?_ 0 _ rfl; (with_reducible repeat (first | refine blk_drewN ?_ _ | refine blk_drew ?_ | refine blk_alloc ?_ _)); exact BK581.out) hb); have n5_ := Aside0.mk (below_step (by repeat (first | (with_reducible first | exact HB.out | apply below_alloc | apply pw_below_drewN | apply below_drew1 | refine below_set ?_ GE560.out | refine below_set ?_ GE581.out) | exact HB.out)) hb); clear HO564; clear HO574; clear HO578; clear BK560; clear BK581; clear HB; have HO564 := n0_; have HO574 := n1_; have HO578 := n2_; have BK560 := n3_; have BK581 := n4_; have HB := n5_; clear n0_ n1_ n2_ n3_ n4_ n5_; (try clear hb); (try clear hb2); (try clear hk); (try clear hi)))
                          go_meet
                          case rel => exact ⟨_, (!t582), (by first | rfl | (simp; done) | (simp [*]; done)), H', ⟨by have := HJ5.out; first | omega | exact Nat.le_refl _⟩, ⟨by (with_reducible repeat (first | apply Kd.R_alloc | apply Kd.R_drewN | apply Kd.R_drew)); exact Kd.R_mono HO564.out (fun _ hk => hk.2)⟩, ⟨by (with_reducible repeat (first | apply Kd.R_alloc | apply Kd.R_drewN | apply Kd.R_drew)); exact Kd.R_mono HO578.out (fun _ hk => hk.1.2)⟩, ⟨by (with_reducible repeat (first | refine blk_drewN ?_ _ | refine blk_drew ?_ | refine blk_alloc ?_ _)); exact BK560.out⟩, ⟨by (with_reducible repeat (first | refine blk_drewN ?_ _ | refine blk_drew ?_ | refine blk_alloc ?_ _)); exact BK581.out⟩, ⟨by repeat (first | (with_reducible first | exact HB.out | apply below_alloc | apply pw_below_drewN | apply below_drew1 | refine below_set ?_ GE560.out | refine below_set ?_ GE581.out) | exact HB.out)⟩⟩
                        · rw [if_neg c44] at H
                          have c44b0 : (t579 == (wrap64 ((l0_1.length : Int) + 11))) = false := beq_eq_false_iff_ne.mpr c44
                          have c44b1 : (t579 != (wrap64 ((l0_1.length : Int) + 11))) = true := bne_iff_ne.mpr c44
                          have H' := Aside0.mk H
                          clear H
                          have hnb50 := NB560_581.out
                          have hnc50 := NB581_560.out
                          have hcz51_0 : w37.cell? ⟨gb560, 0, none⟩ = some (.int .u8 a0_0) := (blk_cell BK560.out 0).trans rfl
                          have hcz51_1 : w37.cell? ⟨gb560, 1, none⟩ = some (.slice A0_1 l0_1.length c0_1) := (blk_cell BK560.out 1).trans rfl
                          have hfz51_0 := blk_frozen BK560.out 0
                          have hfz51_1 := blk_frozen BK560.out 1
                          go_wp2
                          go_meet
                          case rel => exact ⟨_, (true), (by first | rfl | (simp; done) | (simp [*]; done)), H', ⟨by have := HJ5.out; first | omega | exact Nat.le_refl _⟩, ⟨by (with_reducible repeat (first | apply Kd.R_alloc | apply Kd.R_drewN | apply Kd.R_drew)); exact Kd.R_mono (Kd.R_far (p := ⟨gb581, 1, none⟩) (Kd.R_far (p := ⟨gb581, 0, none⟩) (Kd.R_types HO564.out BK581.out (by decide)) (fun _ hk => hk.2) (.int .u8 t575)) (fun _ hk => hk.2) (.slice Ao40 t576.length co40)) (fun _ hk => hk.1.2)⟩, ⟨by (with_reducible repeat (first | apply Kd.R_alloc | apply Kd.R_drewN | apply Kd.R_drew)); exact Kd.R_mono (Kd.R_far (p := ⟨gb581, 1, none⟩) (Kd.R_far (p := ⟨gb581, 0, none⟩) (Kd.R_types HO578.out BK581.out (by decide)) (fun _ hk => hk.2) (.int .u8 t575)) (fun _ hk => hk.2) (.slice Ao40 t576.length co40)) (fun _ hk => hk.1.1.2)⟩, ⟨by (with_reducible repeat (first | refine blk_drewN ?_ _ | refine blk_drew ?_ | refine blk_alloc ?_ _)); refine blk_far ?_ NB560_581.out _; (with_reducible repeat (first | refine blk_drewN ?_ _ | refine blk_drew ?_ | refine blk_alloc ?_ _)); refine blk_far ?_ NB560_581.out _; (with_reducible repeat (first | refine blk_drewN ?_ _ | refine blk_drew ?_ | refine blk_alloc ?_ _)); exact BK560.out⟩, ⟨by (with_reducible repeat (first | refine blk_drewN ?_ _ | refine blk_drew ?_ | refine blk_alloc ?_ _)); refine blk_put (cs := #[.int .u8 t575, .slice none 0 0]) ?_ 1 _ rfl; (with_reducible repeat (first | refine blk_drewN ?_ _ | refine blk_drew ?_ | refine blk_alloc ?_ _)); refine blk_put (cs := #[.int .u8 0, .slice none 0 0]) ?_ 0 _ rfl; (with_reducible repeat (first | refine blk_drewN ?_ _ | refine blk_drew ?_ | refine blk_alloc ?_ _)); exact BK581.out⟩, ⟨by repeat (first | (with_reducible first | exact HB.out | apply below_alloc | apply pw_below_drewN | apply below_drew1 | refine below_set ?_ GE560.out | refine below_set ?_ GE581.out) | exact HB.out)⟩⟩
                      · rw [if_neg c43] at H
                        have c43b0 : (t579 == (t562.length : Int)) = false := beq_eq_false_iff_ne.mpr c43
                        have c43b1 : (t579 != (t562.length : Int)) = true := bne_iff_ne.mpr c43
                        have H' := Aside0.mk H
                        clear H
                        go_wp2
                        go_meet
                        case rel => exact ⟨_, (true), (by first | rfl | (simp; done) | (simp [*]; done)), H', ⟨by have := HJ5.out; first | omega | exact Nat.le_refl _⟩, ⟨by (with_reducible repeat (first | apply Kd.R_alloc | apply Kd.R_drewN | apply Kd.R_drew)); exact Kd.R_mono (Kd.R_far (p := ⟨gb581, 1, none⟩) (Kd.R_far (p := ⟨gb581, 0, none⟩) (Kd.R_types HO564.out BK581.out (by decide)) (fun _ hk => hk.2) (.int .u8 t575)) (fun _ hk => hk.2) (.slice Ao40 t576.length co40)) (fun _ hk => hk.1.2)⟩, ⟨by (with_reducible repeat (first | apply Kd.R_alloc | apply Kd.R_drewN | apply Kd.R_drew)); exact Kd.R_mono (Kd.R_far (p := ⟨gb581, 1, none⟩) (Kd.R_far (p := ⟨gb581, 0, none⟩) (Kd.R_types HO578.out BK581.out (by decide)) (fun _ hk => hk.2) (.int .u8 t575)) (fun _ hk => hk.2) (.slice Ao40 t576.length co40)) (fun _ hk => hk.1.1.2)⟩, ⟨by (with_reducible repeat (first | refine blk_drewN ?_ _ | refine blk_drew ?_ | refine blk_alloc ?_ _)); refine blk_far ?_ NB560_581.out _; (with_reducible repeat (first | refine blk_drewN ?_ _ | refine blk_drew ?_ | refine blk_alloc ?_ _)); refine blk_far ?_ NB560_581.out _; (with_reducible repeat (first | refine blk_drewN ?_ _ | refine blk_drew ?_ | refine blk_alloc ?_ _)); exact BK560.out⟩, ⟨by (with_reducible repeat (first | refine blk_drewN ?_ _ | refine blk_drew ?_ | refine blk_alloc ?_ _)); refine blk_put (cs := #[.int .u8 t575, .slice none 0 0]) ?_ 1 _ rfl; (with_reducible repeat (first | refine blk_drewN ?_ _ | refine blk_drew ?_ | refine blk_alloc ?_ _)); refine blk_put (cs := #[.int .u8 0, .slice none 0 0]) ?_ 0 _ rfl; (with_reducible repeat (first | refine blk_drewN ?_ _ | refine blk_drew ?_ | refine blk_alloc ?_ _)); exact BK581.out⟩, ⟨by repeat (first | (with_reducible first | exact HB.out | apply below_alloc | apply pw_below_drewN | apply below_drew1 | refine below_set ?_ GE560.out | refine below_set ?_ GE581.out) | exact HB.out)⟩⟩
                    · rw [if_neg c42] at H
                      have c42b0 : (t580 == 0) = false := beq_eq_false_iff_ne.mpr c42
                      have c42b1 : (t580 != 0) = true := bne_iff_ne.mpr c42
                      have H' := Aside0.mk H
                      clear H
                      go_wp2
                      go_meet
                      case rel => exact ⟨_, (true), (by first | rfl | (simp; done) | (simp [*]; done)), H', ⟨by have := HJ5.out; first | omega | exact Nat.le_refl _⟩, ⟨by (with_reducible repeat (first | apply Kd.R_alloc | apply Kd.R_drewN | apply Kd.R_drew)); exact Kd.R_mono (Kd.R_far (p := ⟨gb581, 1, none⟩) (Kd.R_far (p := ⟨gb581, 0, none⟩) (Kd.R_types HO564.out BK581.out (by decide)) (fun _ hk => hk.2) (.int .u8 t575)) (fun _ hk => hk.2) (.slice Ao40 t576.length co40)) (fun _ hk => hk.1.2)⟩, ⟨by (with_reducible repeat (first | apply Kd.R_alloc | apply Kd.R_drewN | apply Kd.R_drew)); exact Kd.R_mono (Kd.R_far (p := ⟨gb581, 1, none⟩) (Kd.R_far (p := ⟨gb581, 0, none⟩) (Kd.R_types HO578.out BK581.out (by decide)) (fun _ hk => hk.2) (.int .u8 t575)) (fun _ hk => hk.2) (.slice Ao40 t576.length co40)) (fun _ hk => hk.1.1.2)⟩, ⟨by (with_reducible repeat (first | refine blk_drewN ?_ _ | refine blk_drew ?_ | refine blk_alloc ?_ _)); refine blk_far ?_ NB560_581.out _; (with_reducible repeat (first | refine blk_drewN ?_ _ | refine blk_drew ?_ | refine blk_alloc ?_ _)); refine blk_far ?_ NB560_581.out _; (with_reducible repeat (first | refine blk_drewN ?_ _ | refine blk_drew ?_ | refine blk_alloc ?_ _)); exact BK560.out⟩, ⟨by (with_reducible repeat (first | refine blk_drewN ?_ _ | refine blk_drew ?_ | refine blk_alloc ?_ _)); refine blk_put (cs := #[.int .u8 t575, .slice none 0 0]) ?_ 1 _ rfl; (with_reducible repeat (first | refine blk_drewN ?_ _ | refine blk_drew ?_ | refine blk_alloc ?_ _)); refine blk_put (cs := #[.int .u8 0, .slice none 0 0]) ?_ 0 _ rfl; (with_reducible repeat (first | refine blk_drewN ?_ _ | refine blk_drew ?_ | refine blk_alloc ?_ _)); exact BK581.out⟩, ⟨by repeat (first | (with_reducible first | exact HB.out | apply below_alloc | apply pw_below_drewN | apply below_drew1 | refine below_set ?_ GE560.out | refine below_set ?_ GE581.out) | exact HB.out)⟩⟩
                  · rw [if_neg c41] at H
                    have c41b0 : (t565 == 0) = false := beq_eq_false_iff_ne.mpr c41
                    have c41b1 : (t565 != 0) = true := bne_iff_ne.mpr c41
                    (first | rw [c41b0] | (simp only [i64_w, i32_w]; rw [c41b0]) | skip)
                    have H' := Aside0.mk H
                    clear H
                    go_wp2
                    go_meet
                    case rel => exact ⟨_, (true), (by first | rfl | (simp; done) | (simp [*]; done)), H', ⟨by have := HJ5.out; first | omega | exact Nat.le_refl _⟩, ⟨by (with_reducible repeat (first | apply Kd.R_alloc | apply Kd.R_drewN | apply Kd.R_drew)); exact Kd.R_mono (Kd.R_far (p := ⟨gb581, 1, none⟩) (Kd.R_far (p := ⟨gb581, 0, none⟩) (Kd.R_types HO564.out BK581.out (by decide)) (fun _ hk => hk.2) (.int .u8 t575)) (fun _ hk => hk.2) (.slice Ao40 t576.length co40)) (fun _ hk => hk.1.2)⟩, ⟨by (with_reducible repeat (first | apply Kd.R_alloc | apply Kd.R_drewN | apply Kd.R_drew)); exact Kd.R_mono (Kd.R_far (p := ⟨gb581, 1, none⟩) (Kd.R_far (p := ⟨gb581, 0, none⟩) (Kd.R_types HO578.out BK581.out (by decide)) (fun _ hk => hk.2) (.int .u8 t575)) (fun _ hk => hk.2) (.slice Ao40 t576.length co40)) (fun _ hk => hk.1.1.2)⟩, ⟨by (with_reducible repeat (first | refine blk_drewN ?_ _ | refine blk_drew ?_ | refine blk_alloc ?_ _)); refine blk_far ?_ NB560_581.out _; (with_reducible repeat (first | refine blk_drewN ?_ _ | refine blk_drew ?_ | refine blk_alloc ?_ _)); refine blk_far ?_ NB560_581.out _; (with_reducible repeat (first | refine blk_drewN ?_ _ | refine blk_drew ?_ | refine blk_alloc ?_ _)); exact BK560.out⟩, ⟨by (with_reducible repeat (first | refine blk_drewN ?_ _ | refine blk_drew ?_ | refine blk_alloc ?_ _)); refine blk_put (cs := #[.int .u8 t575, .slice none 0 0]) ?_ 1 _ rfl; (with_reducible repeat (first | refine blk_drewN ?_ _ | refine blk_drew ?_ | refine blk_alloc ?_ _)); refine blk_put (cs := #[.int .u8 0, .slice none 0 0]) ?_ 0 _ rfl; (with_reducible repeat (first | refine blk_drewN ?_ _ | refine blk_drew ?_ | refine blk_alloc ?_ _)); exact BK581.out⟩, ⟨by repeat (first | (with_reducible first | exact HB.out | apply below_alloc | apply pw_below_drewN | apply below_drew1 | refine below_set ?_ GE560.out | refine below_set ?_ GE581.out) | exact HB.out)⟩⟩
                case rest =>
                  clear HC26
                  try clear c1
                  try clear c2
                  try clear p2
                  try clear c3
                  try clear c4
                  try clear c5
                  try clear p6
                  try clear c9
                  try clear c9b0
                  try clear c9b1
                  try clear c12
                  try clear c14
                  try clear c14b0
                  try clear c14b1
                  try clear c15
                  try clear c15b0
                  try clear c15b1
                  try clear c23
                  try clear c24
                  try clear c38
                  try clear c41
                  try clear c41b0
                  try clear c41b1
                  try clear c42
                  try clear c42b0
                  try clear c42b1
                  try clear c43
                  try clear c43b0
                  try clear c43b1
                  try clear c44
                  try clear c44b0
                  try clear c44b1
                  try clear c45
                  try clear c46
                  try clear c47
                  try clear c50
                  try clear hcz10_0
                  try clear hcz10_1
                  try clear hcz11_0
                  try clear hcz11_1
                  try clear hcz16_0
                  try clear hcz16_1
                  try clear hcz18_0
                  try clear hcz18_1
                  try clear hcz20_0
                  try clear hcz20_1
                  try clear hcz22_0
                  try clear hcz22_1
                  try clear hcz27_0
                  try clear hcz27_1
                  try clear hcz29_0
                  try clear hcz29_1
                  try clear hcz39_0
                  try clear hcz39_1
                  try clear hcz47_0
                  try clear hcz47_1
                  try clear hcz48_0
                  try clear hcz48_1
                  try clear hcz51_0
                  try clear hcz51_1
                  try clear hfz10_0
                  try clear hfz10_1
                  try clear hfz11_0
                  try clear hfz11_1
                  try clear hfz16_0
                  try clear hfz16_1
                  try clear hfz18_0
                  try clear hfz18_1
                  try clear hfz20_0
                  try clear hfz20_1
                  try clear hfz22_0
                  try clear hfz22_1
                  try clear hfz27_0
                  try clear hfz27_1
                  try clear hfz29_0
                  try clear hfz29_1
                  try clear hfz39_0
                  try clear hfz39_1
                  try clear hfz47_0
                  try clear hfz47_1
                  try clear hfz48_0
                  try clear hfz48_1
                  try clear hfz51_0
                  try clear hfz51_1
                  try clear p2
                  obtain ⟨kq, x77_25, rfl, HA, HJ25, HO_7, HO_582001, BK560, BK581, HB⟩ := hcut
                  cases kq with
                  | zero => exact absurd HA.out (by simp [tumbrellaw04_FrameBack.j1])
                  | succ kj25 =>
                    have H := HA.out
                    clear HA
                    simp only [tumbrellaw04_FrameBack.j1] at H
                    by_cases c52 : x77_25 = true
                    · subst c52
                      have H1 : (some false) = some r := by rw [if_pos rfl] at H; exact H
                      clear H
                      have H := H1
                      clear H1
                      obtain rfl := Option.some.inj H
                      go_wp2
                      go_ret
                      exact ⟨by first | rfl | (simp [errW_none, errW_some] <;> rfl) | (simp [*, errW_none, errW_some] <;> rfl), by repeat (first | (with_reducible first | exact HB.out | apply below_alloc | apply pw_below_drewN | apply below_drew1 | refine below_set ?_ GE560.out | refine below_set ?_ GE581.out) | exact HB.out)⟩
                    · replace c52 := Bool.eq_false_iff.mpr c52
                      subst c52
                      have H1 : (if a2 < 0 then (some true) else (if a2 ≥ t579 then (some true) else (if 0 ≤ a2 then (if a2 ≤ (t562.length : Int) then ((frame_Read.f kj25 (t562.take (a2 : Int).toNat)).bind fun bt587 => (if bt587.2.2.1 = 0 then (some (bt587.2.2.2 == 3)) else (some false))) else (none)) else (none)))) = some r := by rw [if_neg (show ¬ (false = true) by decide)] at H; exact H
                      clear H
                      have H := H1
                      clear H1
                      by_cases c53 : a2 < 0
                      · rw [if_pos c53] at H
                        have c53b0 : decide (a2 < 0) = true := decide_eq_true c53
                        clear c53
                        obtain rfl := Option.some.inj H
                        go_wp2
                        go_ret
                        exact ⟨by first | rfl | (simp [errW_none, errW_some] <;> rfl) | (simp [*, errW_none, errW_some] <;> rfl), by repeat (first | (with_reducible first | exact HB.out | apply below_alloc | apply pw_below_drewN | apply below_drew1 | refine below_set ?_ GE560.out | refine below_set ?_ GE581.out) | exact HB.out)⟩
                      · rw [if_neg c53] at H
                        have c53b0 : decide (a2 < 0) = false := decide_eq_false c53
                        clear c53
                        by_cases c54 : a2 ≥ t579
                        · rw [if_pos c54] at H
                          have c54b0 : decide (t579 ≤ a2) = true := decide_eq_true c54
                          clear c54
                          obtain rfl := Option.some.inj H
                          go_wp2
                          go_ret
                          exact ⟨by first | rfl | (simp [errW_none, errW_some] <;> rfl) | (simp [*, errW_none, errW_some] <;> rfl), by repeat (first | (with_reducible first | exact HB.out | apply below_alloc | apply pw_below_drewN | apply below_drew1 | refine below_set ?_ GE560.out | refine below_set ?_ GE581.out) | exact HB.out)⟩
                        · rw [if_neg c54] at H
                          have c54b0 : decide (t579 ≤ a2) = false := decide_eq_false c54
                          clear c54
                          by_cases c55 : 0 ≤ a2
                          · rw [if_pos c55] at H
                            have c55b0 := eq_true c55
                            have c55b1 : decide (0 ≤ a2) = true := decide_eq_true c55
                            clear c55
                            by_cases c56 : a2 ≤ (t562.length : Int)
                            · rw [if_pos c56] at H
                              have c56b0 := eq_true c56
                              have c56b1 : decide (a2 ≤ (t562.length : Int)) = true := decide_eq_true c56
                              clear c56
                              obtain ⟨y583, hy583⟩ : ∃ y_ : List Int, y_ = (t562.take (a2 : Int).toNat) := ⟨_, rfl⟩
                              replace H : ((frame_Read.f kj25 y583).bind fun bt587 => (if bt587.2.2.1 = 0 then (some (bt587.2.2.2 == 3)) else (some false))) = some r := by first | (rw [hy583]; with_reducible exact H) | (have H2_ := (Option.bind_some _ _).symm.trans H; rw [hy583]; with_reducible exact H2_) | (have H2_ := (Option.bind_some _ _).symm.trans H; with_reducible exact H2_) | with_reducible exact H | (rw [hy583]; exact H) | exact H
                              have Ny583 := Aside0.mk hy583
                              clear hy583
                              replace H := Option.bind_eq_some_iff.mp H
                              obtain ⟨⟨t587, t588, t591, t592⟩, A570, H⟩ := H
                              replace H : (if t591 = 0 then (some (t592 == 3)) else (some false)) = some r := H
                              have A57 := Aside0.mk A570
                              clear A570
                              by_cases c58 : t591 = 0
                              · rw [if_pos c58] at H
                                have c58b0 : (t591 == 0) = true := beq_iff_eq.mpr c58
                                have c58b1 : (t591 != 0) = false := bne_eq_false_iff_eq.mpr c58
                                clear c58
                                obtain rfl := Option.some.inj H
                                have q59 : (a2 : Int) ≤ ((t562.length : Int) : Int) := of_decide_eq_true (by first | (with_reducible assumption) | assumption)
                                obtain ⟨i059, hi059, _, hsz59, _⟩ := info_parts info5
                                have hroom59 : t562.length ≤ co33 := (Kd.R_reads' HO_7.out).2.1
                                have hC59 : Kd.C (Kd.int .u8) _ Ao33 t562.length t562 := (Kd.R_reads' HO_7.out).2.2
                                have hcut59 := cut_to (P := Try.prog) 23 5 .i64 Try.underlying23 hi059 Ao33 t562.length co33 a2 (of_decide_eq_true (by first | (with_reducible assumption) | assumption)) q59 hroom59
                                have hr59 := Kd.C_take (m := (a2 : Int).toNat) hC59 (by omega)
                                have hy59 : y583.length = (a2 : Int).toNat := (by rw [Ny583.out, List.length_take]; omega)
                                rw [← Ny583.out] at hr59
                                rw [← hy59] at hcut59
                                have HR586 := Aside0.mk hr59
                                have HC586 := Aside0.mk (show y583.length ≤ co33 from by omega)
                                clear hr59 hC59 hroom59 hi059 hsz59
                                have KY59 := Aside0.mk hy59
                                clear hy59
                                have KL59 := Aside0.mk (show (a2 : Int).toNat ≤ t562.length from by omega)
                                replace q59 := eq_true q59
                                go_wp2_with (first | ((with_reducible refine gate_callee (f := 47) rfl ?_); refine goesL_ (some 89) rfl rfl Try.func47 (by kernel_rfl) rfl #[.slice Ao33 y583.length co33] rfl (by (try simp only [List.map_toArray, List.map_cons, List.map_nil]); first | done | rfl | (simp only [List.length_drop, List.length_take]; rfl)) ?_; (with_reducible refine (frame_Read.calls kj25 _ _ y583 t587 t588 t591 t592 _ ?side1 ?side2 A57.out).mono ?_); (case side1 => repeat (first | exact (by repeat (first | (with_reducible exact HR586.out) | (with_reducible refine Kd.C_alloc ?_ _) | (with_reducible refine Kd.C_drewN ?_ _) | (with_reducible refine Kd.C_drew ?_) | exact HR586.out)) | (with_reducible refine Kd.C_alloc ?_ _) | (with_reducible refine Kd.C_drewN ?_ _) | (with_reducible refine Kd.C_drew ?_))); (case side2 => exact HC586.out); rintro e w60 ⟨v589, rfl, ho0, hb⟩; refine ⟨_, rfl, ?_⟩; have n0_ := Aside0.mk (Kd.R_elder' (by (with_reducible repeat (first | apply Kd.R_alloc | apply Kd.R_drewN | apply Kd.R_drew)); exact HO_7.out) (Kd.R_base ho0) hb); have n1_ := Aside0.mk (Kd.R_elder' (by (with_reducible repeat (first | apply Kd.R_alloc | apply Kd.R_drewN | apply Kd.R_drew)); exact HO_582001.out) (Kd.R_base ho0) hb); have n2_ := Aside0.mk (Kd.R_lower (Kd.R_new' (Kd.R_new' ho0 (Kd.R_lt (by (with_reducible repeat (first | apply Kd.R_alloc | apply Kd.R_drewN | apply Kd.R_drew)); exact HO_7.out))) (Kd.R_lt (by (with_reducible repeat (first | apply Kd.R_alloc | apply Kd.R_drewN | apply Kd.R_drew)); exact HO_582001.out))) (below_size (by repeat (first | (with_reducible first | exact HB.out | apply below_alloc | apply pw_below_drewN | apply below_drew1 | refine below_set ?_ GE560.out | refine below_set ?_ GE581.out) | exact HB.out)))); have n3_ := Aside0.mk (blk_below (g := gb560) (o := .cells #[.int .u8 a0_0, .slice A0_1 l0_1.length c0_1] 56 (0, 0)) (by (with_reducible repeat (first | refine blk_drewN ?_ _ | refine blk_drew ?_ | refine blk_alloc ?_ _)); exact BK560.out) hb); have n4_ := Aside0.mk (blk_below (g := gb581) (o := .cells #[.int .u8 t575, .slice Ao40 t576.length co40] 56 (0, 0)) (by (with_reducible repeat (first | refine blk_drewN ?_ _ | refine blk_drew ?_ | refine blk_alloc ?_ _)); exact BK581.out) hb); have n5_ := Aside0.mk (Kd.C_below (by repeat (first | (with_reducible exact HR586.out) | (with_reducible refine Kd.C_alloc ?_ _) | (with_reducible refine Kd.C_drewN ?_ _) | (with_reducible refine Kd.C_drew ?_) | exact HR586.out)) hb); have n6_ := Aside0.mk (below_step (by repeat (first | (with_reducible first | exact HB.out | apply below_alloc | apply pw_below_drewN | apply below_drew1 | refine below_set ?_ GE560.out | refine below_set ?_ GE581.out) | exact HB.out)) hb); clear HO_7; clear HO_582001; clear BK560; clear BK581; clear HR586; clear HB; have HO_7 := n0_; have HO_582001 := n1_; have HO590 := n2_; have BK560 := n3_; have BK581 := n4_; have HR586 := n5_; have HB := n6_; clear n0_ n1_ n2_ n3_ n4_ n5_ n6_; (try clear hb); (try clear hb2); (try clear hk); (try clear hi); (try clear ho0)) | ((with_reducible refine gate_dst (N := 12) rfl ?_); (try (refine gate_guard (by rfl) ?_; dsimp only)); refine box_event ?hg (N := 12) ?hd (cs := #[.int .u8 0, .slice none 0 0]) (t := 56) ?hr ?_; (case hd => rfl); (case hg => rfl); (case hr => first | (go_simp; done) | (go_simp; rfl)); intro gb593 hg w61 hbox hb; have n0_ := Aside0.mk (Kd.R_below (by (with_reducible repeat (first | apply Kd.R_alloc | apply Kd.R_drewN | apply Kd.R_drew)); exact HO_7.out) hb); have n1_ := Aside0.mk (Kd.R_below (by (with_reducible repeat (first | apply Kd.R_alloc | apply Kd.R_drewN | apply Kd.R_drew)); exact HO_582001.out) hb); have n2_ := Aside0.mk (Kd.R_below (by (with_reducible repeat (first | apply Kd.R_alloc | apply Kd.R_drewN | apply Kd.R_drew)); exact HO590.out) hb); have n3_ := Aside0.mk (blk_below (g := gb560) (o := .cells #[.int .u8 a0_0, .slice A0_1 l0_1.length c0_1] 56 (0, 0)) (by (with_reducible repeat (first | refine blk_drewN ?_ _ | refine blk_drew ?_ | refine blk_alloc ?_ _)); exact BK560.out) hb); have n4_ := Aside0.mk (blk_below (g := gb581) (o := .cells #[.int .u8 t575, .slice Ao40 t576.length co40] 56 (0, 0)) (by (with_reducible repeat (first | refine blk_drewN ?_ _ | refine blk_drew ?_ | refine blk_alloc ?_ _)); exact BK581.out) hb); have n5_ := Aside0.mk (Kd.C_below (by repeat (first | (with_reducible exact HR586.out) | (with_reducible refine Kd.C_alloc ?_ _) | (with_reducible refine Kd.C_drewN ?_ _) | (with_reducible refine Kd.C_drew ?_) | exact HR586.out)) hb); have n6_ := Aside0.mk (below_step (by repeat (first | (with_reducible first | exact HB.out | apply below_alloc | apply pw_below_drewN | apply below_drew1 | refine below_set ?_ GE560.out | refine below_set ?_ GE581.out) | exact HB.out)) hb); have n7_ := Aside0.mk (hbox); have n8_ := Aside0.mk ((by rw [hg]; exact (below_size (by repeat (first | (with_reducible first | exact HB.out | apply below_alloc | apply pw_below_drewN | apply below_drew1 | refine below_set ?_ GE560.out | refine below_set ?_ GE581.out) | exact HB.out))) : w.heap.size ≤ gb593)); have n9_ := Aside0.mk ((by rw [hg]; exact (below_size (by repeat (first | (with_reducible first | exact HB.out | apply below_alloc | apply pw_below_drewN | apply below_drew1 | refine below_set ?_ GE560.out | refine below_set ?_ GE581.out) | exact HB.out))) : w.heap.size ≤ gb593)); have n10_ := Aside0.mk ((by rw [hg]; exact Nat.ne_of_lt (blk_lt (g := gb560) (o := .cells #[.int .u8 a0_0, .slice A0_1 l0_1.length c0_1] 56 (0, 0)) (by (with_reducible repeat (first | refine blk_drewN ?_ _ | refine blk_drew ?_ | refine blk_alloc ?_ _)); exact BK560.out)) : gb560 ≠ gb593)); have n11_ := Aside0.mk ((by rw [hg]; exact Nat.ne_of_gt (blk_lt (g := gb560) (o := .cells #[.int .u8 a0_0, .slice A0_1 l0_1.length c0_1] 56 (0, 0)) (by (with_reducible repeat (first | refine blk_drewN ?_ _ | refine blk_drew ?_ | refine blk_alloc ?_ _)); exact BK560.out)) : gb593 ≠ gb560)); have n12_ := Aside0.mk ((by rw [hg]; exact Nat.ne_of_lt (blk_lt (g := gb581) (o := .cells #[.int .u8 t575, .slice Ao40 t576.length co40] 56 (0, 0)) (by (with_reducible repeat (first | refine blk_drewN ?_ _ | refine blk_drew ?_ | refine blk_alloc ?_ _)); exact BK581.out)) : gb581 ≠ gb593)); have n13_ := Aside0.mk ((by rw [hg]; exact Nat.ne_of_gt (blk_lt (g := gb581) (o := .cells #[.int .u8 t575, .slice Ao40 t576.length co40] 56 (0, 0)) (by (with_reducible repeat (first | refine blk_drewN ?_ _ | refine blk_drew ?_ | refine blk_alloc ?_ _)); exact BK581.out)) : gb593 ≠ gb581)); clear HO_7; clear HO_582001; clear HO590; clear BK560; clear BK581; clear HR586; clear HB; have HO_7 := n0_; have HO_582001 := n1_; have HO590 := n2_; have BK560 := n3_; have BK581 := n4_; have HR586 := n5_; have HB := n6_; have BK593 := n7_; have GW593 := n8_; have GE593 := n9_; have NB560_593 := n10_; have NB593_560 := n11_; have NB581_593 := n12_; have NB593_581 := n13_; clear n0_ n1_ n2_ n3_ n4_ n5_ n6_ n7_ n8_ n9_ n10_ n11_ n12_ n13_; clear hb hbox hg; have hnb62 := NB593_560.out; have hnc62 := NB560_593.out; have hnb63 := NB593_581.out; have hnc63 := NB581_593.out; have hcz64_0 : w61.cell? ⟨gb593, 0, none⟩ = some (.int .u8 0) := (blk_cell BK593.out 0).trans rfl; have hcz64_1 : w61.cell? ⟨gb593, 1, none⟩ = some (.slice none 0 0) := (blk_cell BK593.out 1).trans rfl; have hfz64_0 := blk_frozen BK593.out 0; have hfz64_1 := blk_frozen BK593.out 1; obtain ⟨Ao65, co65, eo65⟩ := Kd.R_slice HO590.out; subst eo65))
                                go_ret
                                exact ⟨by first | rfl | (simp [errW_none, errW_some] <;> rfl) | (simp [*, errW_none, errW_some] <;> rfl), by repeat (first | (with_reducible first | exact HB.out | apply below_alloc | apply pw_below_drewN | apply below_drew1 | refine below_set ?_ GE560.out | refine below_set ?_ GE581.out | refine below_set ?_ GE593.out) | exact HB.out)⟩
                              · rw [if_neg c58] at H
                                have c58b0 : (t591 == 0) = false := beq_eq_false_iff_ne.mpr c58
                                have c58b1 : (t591 != 0) = true := bne_iff_ne.mpr c58
                                obtain rfl := Option.some.inj H
                                have q66 : (a2 : Int) ≤ ((t562.length : Int) : Int) := of_decide_eq_true (by first | (with_reducible assumption) | assumption)
                                obtain ⟨i066, hi066, _, hsz66, _⟩ := info_parts info5
                                have hroom66 : t562.length ≤ co33 := (Kd.R_reads' HO_7.out).2.1
                                have hC66 : Kd.C (Kd.int .u8) _ Ao33 t562.length t562 := (Kd.R_reads' HO_7.out).2.2
                                have hcut66 := cut_to (P := Try.prog) 23 5 .i64 Try.underlying23 hi066 Ao33 t562.length co33 a2 (of_decide_eq_true (by first | (with_reducible assumption) | assumption)) q66 hroom66
                                have hr66 := Kd.C_take (m := (a2 : Int).toNat) hC66 (by omega)
                                have hy66 : y583.length = (a2 : Int).toNat := (by rw [Ny583.out, List.length_take]; omega)
                                rw [← Ny583.out] at hr66
                                rw [← hy66] at hcut66
                                have HR586 := Aside0.mk hr66
                                have HC586 := Aside0.mk (show y583.length ≤ co33 from by omega)
                                clear hr66 hC66 hroom66 hi066 hsz66
                                have KY66 := Aside0.mk hy66
                                clear hy66
                                have KL66 := Aside0.mk (show (a2 : Int).toNat ≤ t562.length from by omega)
                                replace q66 := eq_true q66
                                go_wp2_with (first | ((with_reducible refine gate_callee (f := 47) rfl ?_); refine goesL_ (some 89) rfl rfl Try.func47 (by kernel_rfl) rfl #[.slice Ao33 y583.length co33] rfl (by (try simp only [List.map_toArray, List.map_cons, List.map_nil]); first | done | rfl | (simp only [List.length_drop, List.length_take]; rfl)) ?_; (with_reducible refine (frame_Read.calls kj25 _ _ y583 t587 t588 t591 t592 _ ?side1 ?side2 A57.out).mono ?_); (case side1 => repeat (first | exact (by repeat (first | (with_reducible exact HR586.out) | (with_reducible refine Kd.C_alloc ?_ _) | (with_reducible refine Kd.C_drewN ?_ _) | (with_reducible refine Kd.C_drew ?_) | exact HR586.out)) | (with_reducible refine Kd.C_alloc ?_ _) | (with_reducible refine Kd.C_drewN ?_ _) | (with_reducible refine Kd.C_drew ?_))); (case side2 => exact HC586.out); rintro e w67 ⟨v589, rfl, ho0, hb⟩; refine ⟨_, rfl, ?_⟩; have n0_ := Aside0.mk (Kd.R_elder' (by (with_reducible repeat (first | apply Kd.R_alloc | apply Kd.R_drewN | apply Kd.R_drew)); exact HO_7.out) (Kd.R_base ho0) hb); have n1_ := Aside0.mk (Kd.R_elder' (by (with_reducible repeat (first | apply Kd.R_alloc | apply Kd.R_drewN | apply Kd.R_drew)); exact HO_582001.out) (Kd.R_base ho0) hb); have n2_ := Aside0.mk (Kd.R_lower (Kd.R_new' (Kd.R_new' ho0 (Kd.R_lt (by (with_reducible repeat (first | apply Kd.R_alloc | apply Kd.R_drewN | apply Kd.R_drew)); exact HO_7.out))) (Kd.R_lt (by (with_reducible repeat (first | apply Kd.R_alloc | apply Kd.R_drewN | apply Kd.R_drew)); exact HO_582001.out))) (below_size (by repeat (first | (with_reducible first | exact HB.out | apply below_alloc | apply pw_below_drewN | apply below_drew1 | refine below_set ?_ GE560.out | refine below_set ?_ GE581.out) | exact HB.out)))); have n3_ := Aside0.mk (blk_below (g := gb560) (o := .cells #[.int .u8 a0_0, .slice A0_1 l0_1.length c0_1] 56 (0, 0)) (by (with_reducible repeat (first | refine blk_drewN ?_ _ | refine blk_drew ?_ | refine blk_alloc ?_ _)); exact BK560.out) hb); have n4_ := Aside0.mk (blk_below (g := gb581) (o := .cells #[.int .u8 t575, .slice Ao40 t576.length co40] 56 (0, 0)) (by (with_reducible repeat (first | refine blk_drewN ?_ _ | refine blk_drew ?_ | refine blk_alloc ?_ _)); exact BK581.out) hb); have n5_ := Aside0.mk (Kd.C_below (by repeat (first | (with_reducible exact HR586.out) | (with_reducible refine Kd.C_alloc ?_ _) | (with_reducible refine Kd.C_drewN ?_ _) | (with_reducible refine Kd.C_drew ?_) | exact HR586.out)) hb); have n6_ := Aside0.mk (below_step (by repeat (first | (with_reducible first | exact HB.out | apply below_alloc | apply pw_below_drewN | apply below_drew1 | refine below_set ?_ GE560.out | refine below_set ?_ GE581.out) | exact HB.out)) hb); clear HO_7; clear HO_582001; clear BK560; clear BK581; clear HR586; clear HB; have HO_7 := n0_; have HO_582001 := n1_; have HO590 := n2_; have BK560 := n3_; have BK581 := n4_; have HR586 := n5_; have HB := n6_; clear n0_ n1_ n2_ n3_ n4_ n5_ n6_; (try clear hb); (try clear hb2); (try clear hk); (try clear hi); (try clear ho0)) | ((with_reducible refine gate_dst (N := 12) rfl ?_); (try (refine gate_guard (by rfl) ?_; dsimp only)); refine box_event ?hg (N := 12) ?hd (cs := #[.int .u8 0, .slice none 0 0]) (t := 56) ?hr ?_; (case hd => rfl); (case hg => rfl); (case hr => first | (go_simp; done) | (go_simp; rfl)); intro gb593 hg w68 hbox hb; have n0_ := Aside0.mk (Kd.R_below (by (with_reducible repeat (first | apply Kd.R_alloc | apply Kd.R_drewN | apply Kd.R_drew)); exact HO_7.out) hb); have n1_ := Aside0.mk (Kd.R_below (by (with_reducible repeat (first | apply Kd.R_alloc | apply Kd.R_drewN | apply Kd.R_drew)); exact HO_582001.out) hb); have n2_ := Aside0.mk (Kd.R_below (by (with_reducible repeat (first | apply Kd.R_alloc | apply Kd.R_drewN | apply Kd.R_drew)); exact HO590.out) hb); have n3_ := Aside0.mk (blk_below (g := gb560) (o := .cells #[.int .u8 a0_0, .slice A0_1 l0_1.length c0_1] 56 (0, 0)) (by (with_reducible repeat (first | refine blk_drewN ?_ _ | refine blk_drew ?_ | refine blk_alloc ?_ _)); exact BK560.out) hb); have n4_ := Aside0.mk (blk_below (g := gb581) (o := .cells #[.int .u8 t575, .slice Ao40 t576.length co40] 56 (0, 0)) (by (with_reducible repeat (first | refine blk_drewN ?_ _ | refine blk_drew ?_ | refine blk_alloc ?_ _)); exact BK581.out) hb); have n5_ := Aside0.mk (Kd.C_below (by repeat (first | (with_reducible exact HR586.out) | (with_reducible refine Kd.C_alloc ?_ _) | (with_reducible refine Kd.C_drewN ?_ _) | (with_reducible refine Kd.C_drew ?_) | exact HR586.out)) hb); have n6_ := Aside0.mk (below_step (by repeat (first | (with_reducible first | exact HB.out | apply below_alloc | apply pw_below_drewN | apply below_drew1 | refine below_set ?_ GE560.out | refine below_set ?_ GE581.out) | exact HB.out)) hb); have n7_ := Aside0.mk (hbox); have n8_ := Aside0.mk ((by rw [hg]; exact (below_size (by repeat (first | (with_reducible first | exact HB.out | apply below_alloc | apply pw_below_drewN | apply below_drew1 | refine below_set ?_ GE560.out | refine below_set ?_ GE581.out) | exact HB.out))) : w.heap.size ≤ gb593)); have n9_ := Aside0.mk ((by rw [hg]; exact (below_size (by repeat (first | (with_reducible first | exact HB.out | apply below_alloc | apply pw_below_drewN | apply below_drew1 | refine below_set ?_ GE560.out | refine below_set ?_ GE581.out) | exact HB.out))) : w.heap.size ≤ gb593)); have n10_ := Aside0.mk ((by rw [hg]; exact Nat.ne_of_lt (blk_lt (g := gb560) (o := .cells #[.int .u8 a0_0, .slice A0_1 l0_1.length c0_1] 56 (0, 0)) (by (with_reducible repeat (first | refine blk_drewN ?_ _ | refine blk_drew ?_ | refine blk_alloc ?_ _)); exact BK560.out)) : gb560 ≠ gb593)); have n11_ := Aside0.mk ((by rw [hg]; exact Nat.ne_of_gt (blk_lt (g := gb560) (o := .cells #[.int .u8 a0_0, .slice A0_1 l0_1.length c0_1] 56 (0, 0)) (by (with_reducible repeat (first | refine blk_drewN ?_ _ | refine blk_drew ?_ | refine blk_alloc ?_ _)); exact BK560.out)) : gb593 ≠ gb560)); have n12_ := Aside0.mk ((by rw [hg]; exact Nat.ne_of_lt (blk_lt (g := gb581) (o := .cells #[.int .u8 t575, .slice Ao40 t576.length co40] 56 (0, 0)) (by (with_reducible repeat (first | refine blk_drewN ?_ _ | refine blk_drew ?_ | refine blk_alloc ?_ _)); exact BK581.out)) : gb581 ≠ gb593)); have n13_ := Aside0.mk ((by rw [hg]; exact Nat.ne_of_gt (blk_lt (g := gb581) (o := .cells #[.int .u8 t575, .slice Ao40 t576.length co40] 56 (0, 0)) (by (with_reducible repeat (first | refine blk_drewN ?_ _ | refine blk_drew ?_ | refine blk_alloc ?_ _)); exact BK581.out)) : gb593 ≠ gb581)); clear HO_7; clear HO_582001; clear HO590; clear BK560; clear BK581; clear HR586; clear HB; have HO_7 := n0_; have HO_582001 := n1_; have HO590 := n2_; have BK560 := n3_; have BK581 := n4_; have HR586 := n5_; have HB := n6_; have BK593 := n7_; have GW593 := n8_; have GE593 := n9_; have NB560_593 := n10_; have NB593_560 := n11_; have NB581_593 := n12_; have NB593_581 := n13_; clear n0_ n1_ n2_ n3_ n4_ n5_ n6_ n7_ n8_ n9_ n10_ n11_ n12_ n13_; clear hb hbox hg; have hnb69 := NB593_560.out; have hnc69 := NB560_593.out; have hnb70 := NB593_581.out; have hnc70 := NB581_593.out; have hcz71_0 : w68.cell? ⟨gb593, 0, none⟩ = some (.int .u8 0) := (blk_cell BK593.out 0).trans rfl; have hcz71_1 : w68.cell? ⟨gb593, 1, none⟩ = some (.slice none 0 0) := (blk_cell BK593.out 1).trans rfl; have hfz71_0 := blk_frozen BK593.out 0; have hfz71_1 := blk_frozen BK593.out 1; obtain ⟨Ao72, co72, eo72⟩ := Kd.R_slice HO590.out; subst eo72))
                                go_ret
                                exact ⟨by first | rfl | (simp [errW_none, errW_some] <;> rfl) | (simp [*, errW_none, errW_some] <;> rfl), by repeat (first | (with_reducible first | exact HB.out | apply below_alloc | apply pw_below_drewN | apply below_drew1 | refine below_set ?_ GE560.out | refine below_set ?_ GE581.out | refine below_set ?_ GE593.out) | exact HB.out)⟩
                            · rw [if_neg c56] at H
                              exact absurd H (by simp)
                          · rw [if_neg c55] at H
                            exact absurd H (by simp)
              · rw [if_neg c24] at H
                exact absurd H (by simp)
            · rw [if_neg c23] at H
              exact absurd H (by simp)
  · replace c5 := Bool.eq_false_iff.mpr c5
    subst c5
    have H1 : (some false) = some r := by rw [if_neg (show ¬ (false = true) by decide)] at H; exact H
    clear H
    have H := H1
    clear H1
    obtain rfl := Option.some.inj H
    go_enter Try.func12, Try.ntmps12
    go_wp2_with (first | ((with_reducible refine gate_dst (N := 3) rfl ?_); (try (refine gate_guard (by rfl) ?_; dsimp only)); refine box_event ?hg (N := 3) ?hd (cs := #[.int .u8 a0_0, .slice A0_1 l0_1.length c0_1]) (t := 56) ?hr ?_; (case hd => rfl); (case hg => rfl); (case hr => first | (go_simp; done) | (go_simp; rfl)); intro gb560 hg w73 hbox hb; have n0_ := Aside0.mk (below_step (by repeat (first | (with_reducible first | exact HB.out | apply below_alloc | apply pw_below_drewN | apply below_drew1) | exact HB.out)) hb); have n1_ := Aside0.mk (hbox); have n2_ := Aside0.mk ((by rw [hg]; exact (below_size (by repeat (first | (with_reducible first | exact HB.out | apply below_alloc | apply pw_below_drewN | apply below_drew1) | exact HB.out))) : w.heap.size ≤ gb560)); have n3_ := Aside0.mk ((by rw [hg]; exact (below_size (by repeat (first | (with_reducible first | exact HB.out | apply below_alloc | apply pw_below_drewN | apply below_drew1) | exact HB.out))) : w.heap.size ≤ gb560)); clear HB; have HB := n0_; have BK560 := n1_; have GW560 := n2_; have GE560 := n3_; clear n0_ n1_ n2_ n3_; clear hb hbox hg) | ((with_reducible refine gate_callee (f := 44) rfl ?_); refine goesL_ (some 15) rfl rfl Try.func44 (by kernel_rfl) rfl #[] rfl (by (try simp only [List.map_toArray, List.map_cons, List.map_nil]); first | done | rfl | (simp only [List.length_drop, List.length_take]; rfl)) ?_; (with_reducible refine (tumbrellaw04_awake.calls  false _ A4.out).mono ?_); rintro e w74 ⟨rfl, hb⟩; refine ⟨_, rfl, ?_⟩; have n0_ := Aside0.mk (blk_below (g := gb560) (o := .cells #[.int .u8 a0_0, .slice A0_1 l0_1.length c0_1] 56 (0, 0)) (by (with_reducible repeat (first | refine blk_drewN ?_ _ | refine blk_drew ?_ | refine blk_alloc ?_ _)); exact BK560.out) hb); have n1_ := Aside0.mk (below_step (by repeat (first | (with_reducible first | exact HB.out | apply below_alloc | apply pw_below_drewN | apply below_drew1 | refine below_set ?_ GE560.out) | exact HB.out)) hb); clear BK560; clear HB; have BK560 := n0_; have HB := n1_; clear n0_ n1_; (try clear hb); (try clear hb2); (try clear hk); (try clear hi)))
    go_ret
    exact ⟨by first | rfl | (simp [errW_none, errW_some] <;> rfl) | (simp [*, errW_none, errW_some] <;> rfl), by repeat (first | (with_reducible first | exact HB.out | apply below_alloc | apply pw_below_drewN | apply below_drew1 | refine below_set ?_ GE560.out) | exact HB.out)⟩

end Go.Proofs.Ytojepleodijdeaa.B
