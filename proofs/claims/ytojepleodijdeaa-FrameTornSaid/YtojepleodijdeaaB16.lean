-- Printed by a program of this session.
import Derived.Test.YtojepleodijdeaaB0
import Derived.Test.YtojepleodijdeaaB4
import Derived.Test.YtojepleodijdeaaB12
import Derived.Test.YtojepleodijdeaaB13
import Derived.Test.YtojepleodijdeaaGAwake4
namespace Go.Proofs.Ytojepleodijdeaa.B
open Go.RowKit Go.Proofs.YtojepleodijdeaaW.PrintWords Go.Proofs.YtojepleodijdeaaW.PrintLast Go.Proofs.YtojepleodijdeaaW.PrintMore
attribute [local go_sem] max2_int min2_int max_two min_two max_three min_three max_four min_four   -- for this text's walks alone
set_option linter.unusedVariables false
set_option linter.unusedSimpArgs false

/-! ### tumbrellaw04_FrameTorn: function 13 -/
mutual
def tumbrellaw04_FrameTorn.l0 : Nat → List (S56) → Int → List Int → List Int → List (S56) → Int → Int → Option (Bool)
  | 0, _, _, _, _, _, _, _ => none
  | k + 1, x0, x1, x5, x6, x25, x26, x27 => if x27 < x26 then (if 0 ≤ x27 then (if x27 < (x25.length : Int) then ((frame_Bytes.f ((rd_T56 x25 x27).f0) ((rd_T56 x25 x27).f1)).bind fun bt597 => (if bt597.2 = 0 then (if x5.length + bt597.1.length < 140737488355328 then ((some (x5 ++ bt597.1 : List Int)).bind fun y601 => (if x6.length < 17592186044416 then (tumbrellaw04_FrameTorn.l0 k x0 x1 y601 (x6 ++ [(y601.length : Int)]) x25 x26 (wrap64 (x27 + 1))) else (none))) else (none)) else (some true))) else (none)) else (none)) else (tumbrellaw04_FrameTorn.l1 k x0 (mn (mx x1 0) (x5.length : Int)) x5 0 0 x6 (x6.length : Int) 0)
def tumbrellaw04_FrameTorn.l1 : Nat → List (S56) → Int → List Int → Int → Int → List Int → Int → Int → Option (Bool)
  | 0, _, _, _, _, _, _, _, _ => none
  | k + 1, x0, x1, x5, x11, x12, x52, x53, x54 => if x54 < x53 then (if 0 ≤ x54 then (if x54 < (x52.length : Int) then (if (rd x52 x54) ≤ x1 then (tumbrellaw04_FrameTorn.l1 k x0 x1 x5 (wrap64 (x11 + 1)) (rd x52 x54) x52 x53 (wrap64 (x54 + 1))) else (tumbrellaw04_FrameTorn.l1 k x0 x1 x5 x11 x12 x52 x53 (wrap64 (x54 + 1)))) else (none)) else (none)) else (if 0 ≤ x1 then (if x1 ≤ (x5.length : Int) then ((frame_All.f k (x5.take (x1 : Int).toNat)).bind fun bt612 => (if (bt612.1.length : Int) = x11 then (if bt612.2.1 = x12 then (if ((bt612.2.2 == 0) != (x12 == x1)) = true then (tumbrellaw04_FrameTorn.j2 k x0 bt612.1 true) else (if x12 < x1 then (tumbrellaw04_FrameTorn.j2 k x0 bt612.1 (bt612.2.2 != 3)) else (tumbrellaw04_FrameTorn.j2 k x0 bt612.1 false))) else (tumbrellaw04_FrameTorn.j2 k x0 bt612.1 true)) else (tumbrellaw04_FrameTorn.j2 k x0 bt612.1 true))) else (none)) else (none))
def tumbrellaw04_FrameTorn.j2 : Nat → List (S56) → List (S56) → Bool → Option (Bool)
  | 0, _, _, _ => none
  | k + 1, x0, x15, x98 => if x98 = true then (some false) else (tumbrellaw04_FrameTorn.l2 k x0 x15 (x15.length : Int) 0)
def tumbrellaw04_FrameTorn.l2 : Nat → List (S56) → List (S56) → Int → Int → Option (Bool)
  | 0, _, _, _, _ => none
  | k + 1, x0, x99, x100, x101 => if x101 < x100 then (if 0 ≤ x101 then (if x101 < (x99.length : Int) then (if x101 < (x0.length : Int) then ((frame_Same.f ((rd_T56 x99 x101).f0) ((rd_T56 x99 x101).f1) ((rd_T56 x0 x101).f0) ((rd_T56 x0 x101).f1)).bind fun t620 => (if t620 = true then (tumbrellaw04_FrameTorn.l2 k x0 x99 x100 (wrap64 (x101 + 1))) else (some false))) else (none)) else (none)) else (none)) else (some true)
end
def tumbrellaw04_FrameTorn.f (k : Nat) (l0 : List (S56)) (a1 : Int) : Option (Bool) := (tumbrellaw04_awake.f).bind fun t594 => (if t594 = true then (if (l0.length : Int) > 6 then (some true) else (tumbrellaw04_FrameTorn.l0 k l0 a1 ([] : List Int) ([] : List Int) l0 (l0.length : Int) 0)) else (some false))
theorem tumbrellaw04_FrameTorn.mono_l : ∀ k, (∀ y0 y1 y2 y3 y4 y5 y6, LeO (tumbrellaw04_FrameTorn.l0 k y0 y1 y2 y3 y4 y5 y6) (tumbrellaw04_FrameTorn.l0 (k + 1) y0 y1 y2 y3 y4 y5 y6)) ∧ (∀ y0 y1 y2 y3 y4 y5 y6 y7, LeO (tumbrellaw04_FrameTorn.l1 k y0 y1 y2 y3 y4 y5 y6 y7) (tumbrellaw04_FrameTorn.l1 (k + 1) y0 y1 y2 y3 y4 y5 y6 y7)) ∧ (∀ y0 y1 y2, LeO (tumbrellaw04_FrameTorn.j2 k y0 y1 y2) (tumbrellaw04_FrameTorn.j2 (k + 1) y0 y1 y2)) ∧ (∀ y0 y1 y2 y3, LeO (tumbrellaw04_FrameTorn.l2 k y0 y1 y2 y3) (tumbrellaw04_FrameTorn.l2 (k + 1) y0 y1 y2 y3))
  | 0 => ⟨fun _ _ _ _ _ _ _ r h => by simp [tumbrellaw04_FrameTorn.l0] at h, fun _ _ _ _ _ _ _ _ r h => by simp [tumbrellaw04_FrameTorn.l1] at h, fun _ _ _ r h => by simp [tumbrellaw04_FrameTorn.j2] at h, fun _ _ _ _ r h => by simp [tumbrellaw04_FrameTorn.l2] at h⟩
  | k + 1 => by
    obtain ⟨ih0, ih1, ih2, ih3⟩ := tumbrellaw04_FrameTorn.mono_l k
    refine ⟨?_, ?_, ?_, ?_⟩
    · intro y0 y1 y2 y3 y4 y5 y6
      unfold tumbrellaw04_FrameTorn.l0
      repeat' first
      | (with_reducible exact ih0 _ _ _ _ _ _ _)
      | (with_reducible exact ih1 _ _ _ _ _ _ _ _)
      | (with_reducible exact ih2 _ _ _)
      | (with_reducible exact ih3 _ _ _ _)
      | (with_reducible exact frame_All.mono _ _)
      | (with_reducible exact LeO.refl _)
      | (with_reducible exact LeO.none _)
      | (with_reducible refine LeO.ite ?_ ?_)
      | (with_reducible refine LeO.bind ?_ (fun _ => ?_))
      | exact ih0 _ _ _ _ _ _ _
      | exact ih1 _ _ _ _ _ _ _ _
      | exact ih2 _ _ _
      | exact ih3 _ _ _ _
      | exact frame_All.mono _ _
      | exact LeO.none _
      | refine LeO.ite ?_ ?_
      | refine LeO.bind ?_ (fun _ => ?_)
    · intro y0 y1 y2 y3 y4 y5 y6 y7
      unfold tumbrellaw04_FrameTorn.l1
      repeat' first
      | (with_reducible exact ih0 _ _ _ _ _ _ _)
      | (with_reducible exact ih1 _ _ _ _ _ _ _ _)
      | (with_reducible exact ih2 _ _ _)
      | (with_reducible exact ih3 _ _ _ _)
      | (with_reducible exact frame_All.mono _ _)
      | (with_reducible exact LeO.refl _)
      | (with_reducible exact LeO.none _)
      | (with_reducible refine LeO.ite ?_ ?_)
      | (with_reducible refine LeO.bind ?_ (fun _ => ?_))
      | exact ih0 _ _ _ _ _ _ _
      | exact ih1 _ _ _ _ _ _ _ _
      | exact ih2 _ _ _
      | exact ih3 _ _ _ _
      | exact frame_All.mono _ _
      | exact LeO.none _
      | refine LeO.ite ?_ ?_
      | refine LeO.bind ?_ (fun _ => ?_)
    · intro y0 y1 y2
      unfold tumbrellaw04_FrameTorn.j2
      repeat' first
      | (with_reducible exact ih0 _ _ _ _ _ _ _)
      | (with_reducible exact ih1 _ _ _ _ _ _ _ _)
      | (with_reducible exact ih2 _ _ _)
      | (with_reducible exact ih3 _ _ _ _)
      | (with_reducible exact frame_All.mono _ _)
      | (with_reducible exact LeO.refl _)
      | (with_reducible exact LeO.none _)
      | (with_reducible refine LeO.ite ?_ ?_)
      | (with_reducible refine LeO.bind ?_ (fun _ => ?_))
      | exact ih0 _ _ _ _ _ _ _
      | exact ih1 _ _ _ _ _ _ _ _
      | exact ih2 _ _ _
      | exact ih3 _ _ _ _
      | exact frame_All.mono _ _
      | exact LeO.none _
      | refine LeO.ite ?_ ?_
      | refine LeO.bind ?_ (fun _ => ?_)
    · intro y0 y1 y2 y3
      unfold tumbrellaw04_FrameTorn.l2
      repeat' first
      | (with_reducible exact ih0 _ _ _ _ _ _ _)
      | (with_reducible exact ih1 _ _ _ _ _ _ _ _)
      | (with_reducible exact ih2 _ _ _)
      | (with_reducible exact ih3 _ _ _ _)
      | (with_reducible exact frame_All.mono _ _)
      | (with_reducible exact LeO.refl _)
      | (with_reducible exact LeO.none _)
      | (with_reducible refine LeO.ite ?_ ?_)
      | (with_reducible refine LeO.bind ?_ (fun _ => ?_))
      | exact ih0 _ _ _ _ _ _ _
      | exact ih1 _ _ _ _ _ _ _ _
      | exact ih2 _ _ _
      | exact ih3 _ _ _ _
      | exact frame_All.mono _ _
      | exact LeO.none _
      | refine LeO.ite ?_ ?_
      | refine LeO.bind ?_ (fun _ => ?_)
theorem tumbrellaw04_FrameTorn.mono : ∀ a0 a1 k, LeO (tumbrellaw04_FrameTorn.f k a0 a1) (tumbrellaw04_FrameTorn.f (k + 1) a0 a1) := by
  intro a0 a1 k
  obtain ⟨ih0, ih1, ih2, ih3⟩ := tumbrellaw04_FrameTorn.mono_l k
  unfold tumbrellaw04_FrameTorn.f
  repeat' first
      | (with_reducible exact ih0 _ _ _ _ _ _ _)
      | (with_reducible exact ih1 _ _ _ _ _ _ _ _)
      | (with_reducible exact ih2 _ _ _)
      | (with_reducible exact ih3 _ _ _ _)
      | (with_reducible exact frame_All.mono _ _)
      | (with_reducible exact LeO.refl _)
      | (with_reducible exact LeO.none _)
      | (with_reducible refine LeO.ite ?_ ?_)
      | (with_reducible refine LeO.bind ?_ (fun _ => ?_))
      | exact ih0 _ _ _ _ _ _ _
      | exact ih1 _ _ _ _ _ _ _ _
      | exact ih2 _ _ _
      | exact ih3 _ _ _ _
      | exact frame_All.mono _ _
      | exact LeO.none _
      | refine LeO.ite ?_ ?_
      | refine LeO.bind ?_ (fun _ => ?_)
set_option maxHeartbeats 8000000 in
set_option maxRecDepth 100000 in
theorem tumbrellaw04_FrameTorn.calls (k : Nat) (A0 : Option Addr) (c0 : Nat) (l0 : List (S56)) (a1 : Int) (r : Bool) (w : World) (hr0 : Kd.C k56 w A0 l0.length l0) (hc0 : l0.length ≤ c0) (h : tumbrellaw04_FrameTorn.f k l0 a1 = some r) :
    Calls Try.prog 13 #[.slice A0 l0.length c0, .int .i64 a1] w fun e w' => e = .returned (.bool r) ∧ Below w.heap.size w w' := by
  have hu56 := Try.underlying56
  have HR0 := Aside0.mk hr0
  have HC0 := Aside0.mk hc0
  clear hr0 hc0
  have HB := Aside0.mk (Below.refl w.heap.size w)
  have H : ((tumbrellaw04_awake.f).bind fun t594 => (if t594 = true then (if (l0.length : Int) > 6 then (some true) else (tumbrellaw04_FrameTorn.l0 k l0 a1 ([] : List Int) ([] : List Int) l0 (l0.length : Int) 0)) else (some false))) = some r := h
  clear h
  replace H := Option.bind_eq_some_iff.mp H
  obtain ⟨t594, A30, H⟩ := H
  replace H : (if t594 = true then (if (l0.length : Int) > 6 then (some true) else (tumbrellaw04_FrameTorn.l0 k l0 a1 ([] : List Int) ([] : List Int) l0 (l0.length : Int) 0)) else (some false)) = some r := H
  have A3 := Aside0.mk A30
  clear A30
  by_cases c4 : t594 = true
  · subst c4
    have H1 : (if (l0.length : Int) > 6 then (some true) else (tumbrellaw04_FrameTorn.l0 k l0 a1 ([] : List Int) ([] : List Int) l0 (l0.length : Int) 0)) = some r := by rw [if_pos rfl] at H; exact H
    clear H
    have H := H1
    clear H1
    by_cases c5 : (l0.length : Int) > 6
    · rw [if_pos c5] at H
      have c5b0 : decide (6 < (l0.length : Int)) = true := decide_eq_true c5
      have c5b1 : decide (6 < l0.length) = true := decide_eq_true (by omega)
      clear c5
      obtain rfl := Option.some.inj H
      go_enter Try.func13, Try.ntmps13
      go_wp2_with (first | ((with_reducible refine gate_callee (f := 44) rfl ?_); refine goesL_ (some 20) rfl rfl Try.func44 (by kernel_rfl) rfl #[] rfl (by (try simp only [List.map_toArray, List.map_cons, List.map_nil]); first | done | rfl | (simp only [List.length_drop, List.length_take]; rfl)) ?_; (with_reducible refine (tumbrellaw04_awake.calls  true _ A3.out).mono ?_); rintro e w6 ⟨rfl, hb⟩; refine ⟨_, rfl, ?_⟩; have n0_ := Aside0.mk (below_step (by repeat (first | (with_reducible first | exact HB.out | apply below_alloc | apply pw_below_drewN | apply below_drew1) | exact HB.out)) hb); clear HB; have HB := n0_; clear n0_; (try clear hb); (try clear hb2); (try clear hk); (try clear hi)))
      go_ret
      exact ⟨by first | rfl | (simp [errW_none, errW_some] <;> rfl) | (simp [*, errW_none, errW_some] <;> rfl), by repeat (first | (with_reducible first | exact HB.out | apply below_alloc | apply pw_below_drewN | apply below_drew1) | exact HB.out)⟩
    · rw [if_neg c5] at H
      have c5b0 : decide (6 < (l0.length : Int)) = false := decide_eq_false c5
      have c5b1 : decide (6 < l0.length) = false := decide_eq_false (by omega)
      clear c5
      have H' := Aside0.mk H
      clear H
      go_enter Try.func13, Try.ntmps13
      go_wp2_with (first | ((with_reducible refine gate_callee (f := 44) rfl ?_); refine goesL_ (some 20) rfl rfl Try.func44 (by kernel_rfl) rfl #[] rfl (by (try simp only [List.map_toArray, List.map_cons, List.map_nil]); first | done | rfl | (simp only [List.length_drop, List.length_take]; rfl)) ?_; (with_reducible refine (tumbrellaw04_awake.calls  true _ A3.out).mono ?_); rintro e w7 ⟨rfl, hb⟩; refine ⟨_, rfl, ?_⟩; have n0_ := Aside0.mk (below_step (by repeat (first | (with_reducible first | exact HB.out | apply below_alloc | apply pw_below_drewN | apply below_drew1) | exact HB.out)) hb); clear HB; have HB := n0_; clear n0_; (try clear hb); (try clear hb2); (try clear hk); (try clear hi)))
      go_loopg [5, 6, 27] k (fun kq v5 v6 v27 w' => ∃ (x5_1 : List Int) (x6_1 : List Int) (x27_1 : Int), v27 = .int .i64 x27_1 ∧ Aside0 (tumbrellaw04_FrameTorn.l0 kq l0 a1 x5_1 x6_1 l0 (l0.length : Int) x27_1 = some r) ∧ Aside0 (kq ≤ k) ∧ Aside0 (Kd.R (Kd.int .u8) 5 w' w.heap.size (fun _ => True) v5 x5_1) ∧ Aside0 (Kd.R (Kd.int .i64) 3 w' w.heap.size (fun _ => True) v6 x6_1) ∧ Aside0 (Below w.heap.size w w'))
      case atStart => exact ⟨(([] : List Int)), (([] : List Int)), (0), (by first | rfl | (simp; done) | (simp [*]; done)), H', ⟨Nat.le_refl _⟩, ⟨by first | exact Kd.R_nil _ _ _ _ _ | exact Kd.N_nil _ _ _ _ _ | exact Kd.V_nil _ _ _ _ _ | exact Kd.Q_nil _ _ _ _ _ | exact Kd.S_nil _ _ _ _ _⟩, ⟨by first | exact Kd.R_nil _ _ _ _ _ | exact Kd.N_nil _ _ _ _ _ | exact Kd.V_nil _ _ _ _ _ | exact Kd.Q_nil _ _ _ _ _ | exact Kd.S_nil _ _ _ _ _⟩, ⟨by repeat (first | (with_reducible first | exact HB.out | apply below_alloc | apply pw_below_drewN | apply below_drew1) | exact HB.out)⟩⟩
      case round =>
        clear H'
        try clear c1
        try clear p2
        try clear c4
        try clear c5
        try clear c5b0
        try clear c5b1
        obtain ⟨x5_1, x6_1, x27_1, rfl, HA, HK1, HO_5, HO_6, HB⟩ := hrel
        cases gk with
        | zero => exact absurd HA.out (by simp [tumbrellaw04_FrameTorn.l0])
        | succ k1 =>
          have H := HA.out
          clear HA
          simp only [tumbrellaw04_FrameTorn.l0] at H
          by_cases c8 : x27_1 < (l0.length : Int)
          · rw [if_pos c8] at H
            have c8b0 : decide (x27_1 < (l0.length : Int)) = true := decide_eq_true c8
            clear c8
            by_cases c9 : 0 ≤ x27_1
            · rw [if_pos c9] at H
              have c9b0 : decide (0 ≤ x27_1) = true := decide_eq_true c9
              clear c9
              by_cases c10 : x27_1 < (l0.length : Int)
              · rw [if_pos c10] at H
                have c10b0 : decide (x27_1 < (l0.length : Int)) = true := decide_eq_true c10
                clear c10
                replace H := Option.bind_eq_some_iff.mp H
                obtain ⟨⟨t597, t600⟩, A110, H⟩ := H
                replace H : (if t600 = 0 then (if x5_1.length + t597.length < 140737488355328 then ((some (x5_1 ++ t597 : List Int)).bind fun y601 => (if x6_1.length < 17592186044416 then (tumbrellaw04_FrameTorn.l0 k1 l0 a1 y601 (x6_1 ++ [(y601.length : Int)]) l0 (l0.length : Int) (wrap64 (x27_1 + 1))) else (none))) else (none)) else (some true)) = some r := H
                have A11 := Aside0.mk A110
                clear A110
                by_cases c12 : t600 = 0
                · rw [if_pos c12] at H
                  have c12b0 : (t600 == 0) = true := beq_iff_eq.mpr c12
                  have c12b1 : (t600 != 0) = false := bne_eq_false_iff_eq.mpr c12
                  clear c12
                  by_cases c13 : x5_1.length + t597.length < 140737488355328
                  · rw [if_pos c13] at H
                    have LMc13 := Aside0.mk c13
                    clear c13
                    obtain ⟨y601, hy601⟩ : ∃ y_ : List Int, y_ = (x5_1 ++ t597) := ⟨_, rfl⟩
                    replace H : (if x6_1.length < 17592186044416 then (tumbrellaw04_FrameTorn.l0 k1 l0 a1 y601 (x6_1 ++ [(y601.length : Int)]) l0 (l0.length : Int) (wrap64 (x27_1 + 1))) else (none)) = some r := by first | (rw [hy601]; with_reducible exact H) | (have H2_ := (Option.bind_some _ _).symm.trans H; rw [hy601]; with_reducible exact H2_) | (have H2_ := (Option.bind_some _ _).symm.trans H; with_reducible exact H2_) | with_reducible exact H | (rw [hy601]; exact H) | exact H
                    have Ny601 := Aside0.mk hy601
                    clear hy601
                    by_cases c14 : x6_1.length < 17592186044416
                    · rw [if_pos c14] at H
                      have LMc14 := Aside0.mk c14
                      clear c14
                      obtain ⟨y604, hy604⟩ : ∃ y_ : List Int, y_ = (x6_1 ++ [(y601.length : Int)]) := ⟨_, rfl⟩
                      replace H : (tumbrellaw04_FrameTorn.l0 k1 l0 a1 y601 y604 l0 (l0.length : Int) (wrap64 (x27_1 + 1))) = some r := by first | (rw [hy604]; with_reducible exact H) | (have H2_ := (Option.bind_some _ _).symm.trans H; rw [hy604]; with_reducible exact H2_) | (have H2_ := (Option.bind_some _ _).symm.trans H; with_reducible exact H2_) | with_reducible exact H | (rw [hy604]; exact H) | exact H
                      have Ny604 := Aside0.mk hy604
                      clear hy604
                      have H' := Aside0.mk H
                      clear H
                      have p595 : 0 ≤ (x27_1 : Int) := of_decide_eq_true (by first | (with_reducible assumption) | assumption)
                      have q595 : x27_1 < (l0.length : Int) := of_decide_eq_true (by first | (with_reducible assumption) | assumption)
                      obtain ⟨ad595, A595_1, c595_1, e595, hx595_0, hx595_1, hl595_1, hi595_1⟩ := at_T56 HR0.out x27_1 p595 q595
                      cases e595
                      replace hx595_0 := (HB.out.cell (World.block_lt_of_cell? w _ hx595_0)).trans hx595_0
                      replace hx595_1 := (HB.out.cell (World.block_lt_of_cell? w _ hx595_1)).trans hx595_1
                      have HR595_1 := Aside0.mk hi595_1
                      have HC595_1 := Aside0.mk hl595_1
                      clear hi595_1 hl595_1
                      replace p595 := eq_true p595
                      replace q595 := eq_true q595
                      go_wp2_with (first | ((with_reducible refine gate_dst (N := 8) rfl ?_); refine box_event ?hg (N := 8) ?hd (cs := #[.int .u8 0, .slice none 0 0]) (t := 56) ?hr ?_; (case hd => rfl); (case hg => rfl); (case hr => first | (go_simp; done) | (go_simp; rfl)); intro gb596 hg w15 hbox hb; have n0_ := Aside0.mk (Kd.R_below (by (with_reducible repeat (first | apply Kd.R_alloc | apply Kd.R_drewN | apply Kd.R_drew)); exact HO_5.out) hb); have n1_ := Aside0.mk (Kd.R_below (by (with_reducible repeat (first | apply Kd.R_alloc | apply Kd.R_drewN | apply Kd.R_drew)); exact HO_6.out) hb); have n2_ := Aside0.mk (below_step (by repeat (first | (with_reducible first | exact HB.out | apply below_alloc | apply pw_below_drewN | apply below_drew1) | exact HB.out)) hb); have n3_ := Aside0.mk (hbox); have n4_ := Aside0.mk ((by rw [hg]; exact (below_size (by repeat (first | (with_reducible first | exact HB.out | apply below_alloc | apply pw_below_drewN | apply below_drew1) | exact HB.out))) : w.heap.size ≤ gb596)); have n5_ := Aside0.mk ((by rw [hg]; exact (below_size (by repeat (first | (with_reducible first | exact HB.out | apply below_alloc | apply pw_below_drewN | apply below_drew1) | exact HB.out))) : w.heap.size ≤ gb596)); clear HO_5; clear HO_6; clear HB; have HO_5 := n0_; have HO_6 := n1_; have HB := n2_; have BK596 := n3_; have GW596 := n4_; have GE596 := n5_; clear n0_ n1_ n2_ n3_ n4_ n5_; clear hb hbox hg; have hcz16_0 : w15.cell? ⟨gb596, 0, none⟩ = some (.int .u8 0) := (blk_cell BK596.out 0).trans rfl; have hcz16_1 : w15.cell? ⟨gb596, 1, none⟩ = some (.slice none 0 0) := (blk_cell BK596.out 1).trans rfl; have hfz16_0 := blk_frozen BK596.out 0; have hfz16_1 := blk_frozen BK596.out 1) | ((with_reducible refine gate_callee (f := 45) rfl ?_); refine goesL_ (some 33) rfl rfl Try.func45 (by kernel_rfl) rfl #[.agg #[.int .u8 ((rd_T56 l0 x27_1).f0), .slice A595_1 ((rd_T56 l0 x27_1).f1).length c595_1]] rfl (by (try simp only [List.map_toArray, List.map_cons, List.map_nil]); first | done | rfl | (simp only [List.length_drop, List.length_take]; rfl)) ?_; (with_reducible refine (frame_Bytes.calls ((rd_T56 l0 x27_1).f0) _ _ ((rd_T56 l0 x27_1).f1) t597 t600 _ ?side1 ?side2 A11.out).mono ?_); (case side1 => exact Kd.C_below HR595_1.out (by repeat (first | (with_reducible first | exact HB.out | apply below_alloc | apply pw_below_drewN | apply below_drew1 | refine below_set ?_ GE596.out) | exact HB.out))); (case side2 => exact HC595_1.out); rintro e w17 ⟨v598, rfl, ho0, hb⟩; refine ⟨_, rfl, ?_⟩; have n0_ := Aside0.mk (Kd.R_elder' (by (with_reducible repeat (first | apply Kd.R_alloc | apply Kd.R_drewN | apply Kd.R_drew)); exact (Kd.R_mono (Kd.R_far (p := ⟨gb596, 1, none⟩) (Kd.R_far (p := ⟨gb596, 0, none⟩) (Kd.R_types HO_5.out BK596.out (by decide)) (fun _ hk => hk.2) (.int .u8 ((rd_T56 l0 x27_1).f0))) (fun _ hk => hk.2) (.slice A595_1 ((rd_T56 l0 x27_1).f1).length c595_1)) (fun _ h_ => h_.1))) (Kd.R_base ho0) hb); have n1_ := Aside0.mk (Kd.R_below (by (with_reducible repeat (first | apply Kd.R_alloc | apply Kd.R_drewN | apply Kd.R_drew)); exact (Kd.R_mono (Kd.R_far (p := ⟨gb596, 1, none⟩) (Kd.R_far (p := ⟨gb596, 0, none⟩) (Kd.R_types HO_6.out BK596.out (by decide)) (fun _ hk => hk.2) (.int .u8 ((rd_T56 l0 x27_1).f0))) (fun _ hk => hk.2) (.slice A595_1 ((rd_T56 l0 x27_1).f1).length c595_1)) (fun _ h_ => h_.1))) hb); have n2_ := Aside0.mk (Kd.R_lower (Kd.R_new' ho0 (Kd.R_lt (by (with_reducible repeat (first | apply Kd.R_alloc | apply Kd.R_drewN | apply Kd.R_drew)); exact (Kd.R_mono (Kd.R_far (p := ⟨gb596, 1, none⟩) (Kd.R_far (p := ⟨gb596, 0, none⟩) (Kd.R_types HO_5.out BK596.out (by decide)) (fun _ hk => hk.2) (.int .u8 ((rd_T56 l0 x27_1).f0))) (fun _ hk => hk.2) (.slice A595_1 ((rd_T56 l0 x27_1).f1).length c595_1)) (fun _ h_ => h_.1))))) (below_size (by repeat (first | (with_reducible first | exact HB.out | apply below_alloc | apply pw_below_drewN | apply below_drew1 | refine below_set ?_ GE596.out) | exact HB.out)))); have n3_ := Aside0.mk (blk_below (g := gb596) (o := .cells #[.int .u8 ((rd_T56 l0 x27_1).f0), .slice A595_1 ((rd_T56 l0 x27_1).f1).length c595_1] 56 (0, 0)) (by (with_reducible repeat (first | refine blk_drewN ?_ _ | refine blk_drew ?_ | refine blk_alloc ?_ _)); refine blk_put (cs := #[.int .u8 ((rd_T56 l0 x27_1).f0), .slice none 0 0]) ?_ 1 _ rfl; (with_reducible repeat (first | refine blk_drewN ?_ _ | refine blk_drew ?_ | refine blk_alloc ?_ _)); refine blk_put (cs := #[.int .u8 0, .slice none 0 0]) ?_ 0 _ rfl; (with_reducible repeat (first | refine blk_drewN ?_ _ | refine blk_drew ?_ | refine blk_alloc ?_ _)); exact BK596.out) hb); have n4_ := Aside0.mk (below_step (by repeat (first | (with_reducible first | exact HB.out | apply below_alloc | apply pw_below_drewN | apply below_drew1 | refine below_set ?_ GE596.out) | exact HB.out)) hb); clear HO_5; clear HO_6; clear BK596; clear HB; have HO_5 := n0_; have HO_6 := n1_; have HO599 := n2_; have BK596 := n3_; have HB := n4_; clear n0_ n1_ n2_ n3_ n4_; (try clear hb); (try clear hb2); (try clear hk); (try clear hi); (try clear ho0); obtain ⟨Ao19, co19, eo19⟩ := Kd.R_slice HO599.out; subst eo19) | ((with_reducible refine gate_builtin (b := .append) (xs := #[.tmp 38, .tmp 39]) rfl ?_); at_builtin; refine Kd.R_append_rows (Kd.int .u8) (w0 := w) w.heap.size rfl (.tmp 38) (.tmp 39) 23 5 (.int .u8 0) 1 rfl Try.underlying23 info5 rfl (by decide) (by omega) u5 x5_1 t597 _ _ _ (fun k_ => some k_ ≠ (.slice Ao19 t597.length co19 : Value).ownBlock) (fun _ => False) rfl rfl ?aO ?aR (fun _ _ h => h) (fun _ h => h.elim) ?aF ?aB ?aS ?aL ?_; (case aR => repeat (first | exact (Kd.R_reads' HO599.out).2.2 | (with_reducible refine Kd.C_alloc ?_ _) | (with_reducible refine Kd.C_drewN ?_ _) | (with_reducible refine Kd.C_drew ?_))); (case aB => exact (by repeat (first | (with_reducible first | exact HB.out | apply below_alloc | apply pw_below_drewN | apply below_drew1 | refine below_set ?_ GE596.out) | exact HB.out))); (case aF => exact (fun k_ hk => Kd.fresh' (Kd.R_lt (by (with_reducible repeat (first | apply Kd.R_alloc | apply Kd.R_drewN | apply Kd.R_drew)); exact HO599.out)) k_ hk)); (case aO => exact (by (with_reducible repeat (first | apply Kd.R_alloc | apply Kd.R_drewN | apply Kd.R_drew)); exact Kd.R_mono HO_5.out (fun _ hk => hk.2))); (case aS => exact (below_size (by repeat (first | (with_reducible first | exact HB.out | apply below_alloc | apply pw_below_drewN | apply below_drew1 | refine below_set ?_ GE596.out) | exact HB.out)))); (case aL => have := LMc13.out; omega); intro v602 w18 ho hb hg hat; rw [← Ny601.out] at ho; have n0_ := Aside0.mk (Kd.R_over' (by (with_reducible repeat (first | apply Kd.R_alloc | apply Kd.R_drewN | apply Kd.R_drew)); exact HO_6.out) (Kd.R_typed (by (with_reducible repeat (first | apply Kd.R_alloc | apply Kd.R_drewN | apply Kd.R_drew)); exact HO_5.out)) (by decide) hg); have n1_ := Aside0.mk (blk_grown (g := gb596) (o := .cells #[.int .u8 ((rd_T56 l0 x27_1).f0), .slice A595_1 ((rd_T56 l0 x27_1).f1).length c595_1] 56 (0, 0)) (by (with_reducible repeat (first | refine blk_drewN ?_ _ | refine blk_drew ?_ | refine blk_alloc ?_ _)); exact BK596.out) hg (Kd.R_ne HO_5.out BK596.out (by decide))); have n2_ := Aside0.mk (Kd.R_after (ok := (fun _ => True)) (by (with_reducible repeat (first | apply Kd.R_alloc | apply Kd.R_drewN | apply Kd.R_drew)); exact HO599.out) hg hat); have n3_ := Aside0.mk (hb); have n4_ := Aside0.mk (ho); clear HO_6; clear BK596; clear HO599; clear HB; clear HO_5; have HO_6 := n0_; have BK596 := n1_; have HO599 := n2_; have HB := n3_; have HO603 := n4_; clear n0_ n1_ n2_ n3_ n4_; clear ho hb hg hat; obtain ⟨Ao20, co20, eo20⟩ := Kd.R_slice HO603.out; subst eo20) | ((with_reducible refine gate_builtin (b := .append) (xs := #[.tmp 41, .tmp 44]) rfl ?_); at_builtin; refine Kd.R_append (Kd.int .i64) (w0 := w) w.heap.size rfl (.tmp 41) (.tmp 44) 76 3 (.int .i64 0) 8 rfl Try.underlying76 info3 rfl (by decide) (by omega) u6 x6_1 (y601.length : Int) [.int .i64 (y601.length : Int)] (fun _ => True) (fun _ => False) rfl rfl ?aP (fun _ hk => hk.elim) ?aF ?aO ?aB ?aS ?aL ?_; (case aP => exact rfl); (case aB => exact (by repeat (first | (with_reducible first | exact HB.out | apply below_alloc | apply pw_below_drewN | apply below_drew1 | refine below_set ?_ GE596.out) | exact HB.out))); (case aF => exact (fun _ _ => trivial)); (case aO => exact (by (with_reducible repeat (first | apply Kd.R_alloc | apply Kd.R_drewN | apply Kd.R_drew)); exact HO_6.out)); (case aS => exact (below_size (by repeat (first | (with_reducible first | exact HB.out | apply below_alloc | apply pw_below_drewN | apply below_drew1 | refine below_set ?_ GE596.out) | exact HB.out)))); (case aL => have := LMc14.out; omega); intro v605 w21 ho hb hg hat; rw [← Ny604.out] at ho; have n0_ := Aside0.mk (blk_grown (g := gb596) (o := .cells #[.int .u8 ((rd_T56 l0 x27_1).f0), .slice A595_1 ((rd_T56 l0 x27_1).f1).length c595_1] 56 (0, 0)) (by (with_reducible repeat (first | refine blk_drewN ?_ _ | refine blk_drew ?_ | refine blk_alloc ?_ _)); exact BK596.out) hg (Kd.R_ne HO_6.out BK596.out (by decide))); have n1_ := Aside0.mk (Kd.R_over' (by (with_reducible repeat (first | apply Kd.R_alloc | apply Kd.R_drewN | apply Kd.R_drew)); exact HO599.out) (Kd.R_typed (by (with_reducible repeat (first | apply Kd.R_alloc | apply Kd.R_drewN | apply Kd.R_drew)); exact HO_6.out)) (by decide) hg); have n2_ := Aside0.mk (Kd.R_over' (by (with_reducible repeat (first | apply Kd.R_alloc | apply Kd.R_drewN | apply Kd.R_drew)); exact HO603.out) (Kd.R_typed (by (with_reducible repeat (first | apply Kd.R_alloc | apply Kd.R_drewN | apply Kd.R_drew)); exact HO_6.out)) (by decide) hg); have n3_ := Aside0.mk (hb); have n4_ := Aside0.mk (ho); clear BK596; clear HO599; clear HO603; clear HB; clear HO_6; have BK596 := n0_; have HO599 := n1_; have HO603 := n2_; have HB := n3_; have HO606 := n4_; clear n0_ n1_ n2_ n3_ n4_; clear ho hb hg hat))
                      go_roundg k1
                      case measure => have := HK1.out; omega
                      case rel => exact ⟨(y601), (y604), (wrap64 (x27_1 + 1)), (by first | rfl | (simp; done) | (simp [*]; done)), H', ⟨by have := HK1.out; omega⟩, ⟨by (with_reducible repeat (first | apply Kd.R_alloc | apply Kd.R_drewN | apply Kd.R_drew)); exact Kd.R_mono HO603.out (fun _ hk => trivial)⟩, ⟨by (with_reducible repeat (first | apply Kd.R_alloc | apply Kd.R_drewN | apply Kd.R_drew)); exact HO606.out⟩, ⟨by repeat (first | (with_reducible first | exact HB.out | apply below_alloc | apply pw_below_drewN | apply below_drew1 | refine below_set ?_ GE596.out) | exact HB.out)⟩⟩
                    · rw [if_neg c14] at H
                      exact absurd H (by simp)
                  · rw [if_neg c13] at H
                    exact absurd H (by simp)
                · rw [if_neg c12] at H
                  have c12b0 : (t600 == 0) = false := beq_eq_false_iff_ne.mpr c12
                  have c12b1 : (t600 != 0) = true := bne_iff_ne.mpr c12
                  obtain rfl := Option.some.inj H
                  have p595 : 0 ≤ (x27_1 : Int) := of_decide_eq_true (by first | (with_reducible assumption) | assumption)
                  have q595 : x27_1 < (l0.length : Int) := of_decide_eq_true (by first | (with_reducible assumption) | assumption)
                  obtain ⟨ad595, A595_1, c595_1, e595, hx595_0, hx595_1, hl595_1, hi595_1⟩ := at_T56 HR0.out x27_1 p595 q595
                  cases e595
                  replace hx595_0 := (HB.out.cell (World.block_lt_of_cell? w _ hx595_0)).trans hx595_0
                  replace hx595_1 := (HB.out.cell (World.block_lt_of_cell? w _ hx595_1)).trans hx595_1
                  have HR595_1 := Aside0.mk hi595_1
                  have HC595_1 := Aside0.mk hl595_1
                  clear hi595_1 hl595_1
                  replace p595 := eq_true p595
                  replace q595 := eq_true q595
                  go_wp2_with (first | ((with_reducible refine gate_dst (N := 8) rfl ?_); refine box_event ?hg (N := 8) ?hd (cs := #[.int .u8 0, .slice none 0 0]) (t := 56) ?hr ?_; (case hd => rfl); (case hg => rfl); (case hr => first | (go_simp; done) | (go_simp; rfl)); intro gb596 hg w22 hbox hb; have n0_ := Aside0.mk (Kd.R_below (by (with_reducible repeat (first | apply Kd.R_alloc | apply Kd.R_drewN | apply Kd.R_drew)); exact HO_5.out) hb); have n1_ := Aside0.mk (Kd.R_below (by (with_reducible repeat (first | apply Kd.R_alloc | apply Kd.R_drewN | apply Kd.R_drew)); exact HO_6.out) hb); have n2_ := Aside0.mk (below_step (by repeat (first | (with_reducible first | exact HB.out | apply below_alloc | apply pw_below_drewN | apply below_drew1) | exact HB.out)) hb); have n3_ := Aside0.mk (hbox); have n4_ := Aside0.mk ((by rw [hg]; exact (below_size (by repeat (first | (with_reducible first | exact HB.out | apply below_alloc | apply pw_below_drewN | apply below_drew1) | exact HB.out))) : w.heap.size ≤ gb596)); have n5_ := Aside0.mk ((by rw [hg]; exact (below_size (by repeat (first | (with_reducible first | exact HB.out | apply below_alloc | apply pw_below_drewN | apply below_drew1) | exact HB.out))) : w.heap.size ≤ gb596)); clear HO_5; clear HO_6; clear HB; have HO_5 := n0_; have HO_6 := n1_; have HB := n2_; have BK596 := n3_; have GW596 := n4_; have GE596 := n5_; clear n0_ n1_ n2_ n3_ n4_ n5_; clear hb hbox hg; have hcz23_0 : w22.cell? ⟨gb596, 0, none⟩ = some (.int .u8 0) := (blk_cell BK596.out 0).trans rfl; have hcz23_1 : w22.cell? ⟨gb596, 1, none⟩ = some (.slice none 0 0) := (blk_cell BK596.out 1).trans rfl; have hfz23_0 := blk_frozen BK596.out 0; have hfz23_1 := blk_frozen BK596.out 1) | ((with_reducible refine gate_callee (f := 45) rfl ?_); refine goesL_ (some 33) rfl rfl Try.func45 (by kernel_rfl) rfl #[.agg #[.int .u8 ((rd_T56 l0 x27_1).f0), .slice A595_1 ((rd_T56 l0 x27_1).f1).length c595_1]] rfl (by (try simp only [List.map_toArray, List.map_cons, List.map_nil]); first | done | rfl | (simp only [List.length_drop, List.length_take]; rfl)) ?_; (with_reducible refine (frame_Bytes.calls ((rd_T56 l0 x27_1).f0) _ _ ((rd_T56 l0 x27_1).f1) t597 t600 _ ?side1 ?side2 A11.out).mono ?_); (case side1 => exact Kd.C_below HR595_1.out (by repeat (first | (with_reducible first | exact HB.out | apply below_alloc | apply pw_below_drewN | apply below_drew1 | refine below_set ?_ GE596.out) | exact HB.out))); (case side2 => exact HC595_1.out); rintro e w24 ⟨v598, rfl, ho0, hb⟩; refine ⟨_, rfl, ?_⟩; have n0_ := Aside0.mk (Kd.R_elder' (by (with_reducible repeat (first | apply Kd.R_alloc | apply Kd.R_drewN | apply Kd.R_drew)); exact (Kd.R_mono (Kd.R_far (p := ⟨gb596, 1, none⟩) (Kd.R_far (p := ⟨gb596, 0, none⟩) (Kd.R_types HO_5.out BK596.out (by decide)) (fun _ hk => hk.2) (.int .u8 ((rd_T56 l0 x27_1).f0))) (fun _ hk => hk.2) (.slice A595_1 ((rd_T56 l0 x27_1).f1).length c595_1)) (fun _ h_ => h_.1))) (Kd.R_base ho0) hb); have n1_ := Aside0.mk (Kd.R_below (by (with_reducible repeat (first | apply Kd.R_alloc | apply Kd.R_drewN | apply Kd.R_drew)); exact (Kd.R_mono (Kd.R_far (p := ⟨gb596, 1, none⟩) (Kd.R_far (p := ⟨gb596, 0, none⟩) (Kd.R_types HO_6.out BK596.out (by decide)) (fun _ hk => hk.2) (.int .u8 ((rd_T56 l0 x27_1).f0))) (fun _ hk => hk.2) (.slice A595_1 ((rd_T56 l0 x27_1).f1).length c595_1)) (fun _ h_ => h_.1))) hb); have n2_ := Aside0.mk (Kd.R_lower (Kd.R_new' ho0 (Kd.R_lt (by (with_reducible repeat (first | apply Kd.R_alloc | apply Kd.R_drewN | apply Kd.R_drew)); exact (Kd.R_mono (Kd.R_far (p := ⟨gb596, 1, none⟩) (Kd.R_far (p := ⟨gb596, 0, none⟩) (Kd.R_types HO_5.out BK596.out (by decide)) (fun _ hk => hk.2) (.int .u8 ((rd_T56 l0 x27_1).f0))) (fun _ hk => hk.2) (.slice A595_1 ((rd_T56 l0 x27_1).f1).length c595_1)) (fun _ h_ => h_.1))))) (below_size (by repeat (first | (with_reducible first | exact HB.out | apply below_alloc | apply pw_below_drewN | apply below_drew1 | refine below_set ?_ GE596.out) | exact HB.out)))); have n3_ := Aside0.mk (blk_below (g := gb596) (o := .cells #[.int .u8 ((rd_T56 l0 x27_1).f0), .slice A595_1 ((rd_T56 l0 x27_1).f1).length c595_1] 56 (0, 0)) (by (with_reducible repeat (first | refine blk_drewN ?_ _ | refine blk_drew ?_ | refine blk_alloc ?_ _)); refine blk_put (cs := #[.int .u8 ((rd_T56 l0 x27_1).f0), .slice none 0 0]) ?_ 1 _ rfl; (with_reducible repeat (first | refine blk_drewN ?_ _ | refine blk_drew ?_ | refine blk_alloc ?_ _)); refine blk_put (cs := #[.int .u8 0, .slice none 0 0]) ?_ 0 _ rfl; (with_reducible repeat (first | refine blk_drewN ?_ _ | refine blk_drew ?_ | refine blk_alloc ?_ _)); exact BK596.out) hb); have n4_ := Aside0.mk (below_step (by repeat (first | (with_reducible first | exact HB.out | apply below_alloc | apply pw_below_drewN | apply below_drew1 | refine below_set ?_ GE596.out) | exact HB.out)) hb); clear HO_5; clear HO_6; clear BK596; clear HB; have HO_5 := n0_; have HO_6 := n1_; have HO599 := n2_; have BK596 := n3_; have HB := n4_; clear n0_ n1_ n2_ n3_ n4_; (try clear hb); (try clear hb2); (try clear hk); (try clear hi); (try clear ho0)))
                  go_ret
                  exact ⟨by first | rfl | (simp [errW_none, errW_some] <;> rfl) | (simp [*, errW_none, errW_some] <;> rfl), by repeat (first | (with_reducible first | exact HB.out | apply below_alloc | apply pw_below_drewN | apply below_drew1 | refine below_set ?_ GE596.out) | exact HB.out)⟩
              · rw [if_neg c10] at H
                exact absurd H (by simp)
            · rw [if_neg c9] at H
              exact absurd H (by simp)
          · rw [if_neg c8] at H
            have c8b0 : decide (x27_1 < (l0.length : Int)) = false := decide_eq_false c8
            clear c8
            obtain ⟨ji25, hji25⟩ : ∃ j_ : Int, (mx a1 0) = j_ := ⟨_, rfl⟩
            replace H : (tumbrellaw04_FrameTorn.l1 k1 l0 (mn (ji25) (x5_1.length : Int)) x5_1 0 0 x6_1 (x6_1.length : Int) 0) = some r := by first | (rw [hji25] at H; exact H) | (simp only [hji25] at H ⊢; exact H)
            have hji25_ : (if a1 < 0 then 0 else a1) = ji25 := hji25
            obtain ⟨ji26, hji26⟩ : ∃ j_ : Int, (mn (ji25) (x5_1.length : Int)) = j_ := ⟨_, rfl⟩
            replace H : (tumbrellaw04_FrameTorn.l1 k1 l0 ji26 x5_1 0 0 x6_1 (x6_1.length : Int) 0) = some r := by first | (rw [hji26] at H; exact H) | (simp only [hji26] at H ⊢; exact H)
            have hji26_ : (if (x5_1.length : Int) < (ji25) then (x5_1.length : Int) else (ji25)) = ji26 := hji26
            have H' := Aside0.mk H
            clear H
            obtain ⟨Ao27, co27, eo27⟩ := Kd.R_slice HO_5.out
            subst eo27
            obtain ⟨Ao28, co28, eo28⟩ := Kd.R_slice HO_6.out
            subst eo28
            go_wp2
            go_loopg [11, 12, 54] k1 (fun kq v11 v12 v54 w' => ∃ (x11_2 : Int) (x12_2 : Int) (x54_2 : Int), v11 = .int .i64 x11_2 ∧ v12 = .int .i64 x12_2 ∧ v54 = .int .i64 x54_2 ∧ Aside0 (tumbrellaw04_FrameTorn.l1 kq l0 ji26 x5_1 x11_2 x12_2 x6_1 (x6_1.length : Int) x54_2 = some r) ∧ Aside0 (kq ≤ k1) ∧ Aside0 (Kd.R (Kd.int .u8) 5 w' w.heap.size (fun _ => True) (.slice Ao27 x5_1.length co27) x5_1) ∧ Aside0 (Kd.R (Kd.int .i64) 3 w' w.heap.size (fun _ => True) (.slice Ao28 x6_1.length co28) x6_1) ∧ Aside0 (Below w.heap.size w w'))
            case atStart => exact ⟨(0), (0), (0), (by first | rfl | (simp; done) | (simp [*]; done)), (by first | rfl | (simp; done) | (simp [*]; done)), (by first | rfl | (simp; done) | (simp [*]; done)), H', ⟨Nat.le_refl _⟩, ⟨by (with_reducible repeat (first | apply Kd.R_alloc | apply Kd.R_drewN | apply Kd.R_drew)); exact HO_5.out⟩, ⟨by (with_reducible repeat (first | apply Kd.R_alloc | apply Kd.R_drewN | apply Kd.R_drew)); exact HO_6.out⟩, ⟨by repeat (first | (with_reducible first | exact HB.out | apply below_alloc | apply pw_below_drewN | apply below_drew1) | exact HB.out)⟩⟩
            case round =>
              clear H'
              try clear c1
              try clear p2
              try clear c4
              try clear c5
              try clear c5b0
              try clear c5b1
              try clear p5
              try clear q5
              try clear hx5
              try clear p6
              try clear c8
              try clear c8b0
              try clear c9
              try clear c9b0
              try clear c10
              try clear c10b0
              try clear c12
              try clear c12b0
              try clear c12b1
              try clear c13
              try clear c14
              try clear hcz16_0
              try clear hcz16_1
              try clear hcz23_0
              try clear hcz23_1
              try clear hfz16_0
              try clear hfz16_1
              try clear hfz23_0
              try clear hfz23_1
              try clear hx595_0
              try clear hx595_1
              try clear p2
              try clear p595
              try clear q595
              obtain ⟨x11_2, x12_2, x54_2, rfl, rfl, rfl, HA, HK2, HO_5, HO_52, HB⟩ := hrel
              cases gk with
              | zero => exact absurd HA.out (by simp [tumbrellaw04_FrameTorn.l1])
              | succ k2 =>
                have H := HA.out
                clear HA
                simp only [tumbrellaw04_FrameTorn.l1] at H
                by_cases c29 : x54_2 < (x6_1.length : Int)
                · rw [if_pos c29] at H
                  have c29b0 : decide (x54_2 < (x6_1.length : Int)) = true := decide_eq_true c29
                  clear c29
                  by_cases c30 : 0 ≤ x54_2
                  · rw [if_pos c30] at H
                    have c30b0 : decide (0 ≤ x54_2) = true := decide_eq_true c30
                    clear c30
                    by_cases c31 : x54_2 < (x6_1.length : Int)
                    · rw [if_pos c31] at H
                      have c31b0 : decide (x54_2 < (x6_1.length : Int)) = true := decide_eq_true c31
                      clear c31
                      by_cases c32 : (rd x6_1 x54_2) ≤ ji26
                      · rw [if_pos c32] at H
                        have c32b0 : decide ((rd x6_1 x54_2) ≤ ji26) = true := decide_eq_true c32
                        clear c32
                        have H' := Aside0.mk H
                        clear H
                        have p607 : 0 ≤ (x54_2 : Int) := of_decide_eq_true (by first | (with_reducible assumption) | assumption)
                        have q607 : x54_2 < (x6_1.length : Int) := of_decide_eq_true (by first | (with_reducible assumption) | assumption)
                        obtain ⟨ad607, e607, hx607_0⟩ := Kd.at_int (Kd.R_reads' HO_52.out).2.2 x54_2 p607 q607
                        cases e607
                        replace p607 := eq_true p607
                        replace q607 := eq_true q607
                        go_wp2
                        go_roundg k2
                        case measure => have := HK1.out; have := HK2.out; omega
                        case rel => exact ⟨(wrap64 (x11_2 + 1)), (rd x6_1 x54_2), (wrap64 (x54_2 + 1)), (by first | rfl | (simp; done) | (simp [*]; done)), (by first | rfl | (simp; done) | (simp [*]; done)), (by first | rfl | (simp; done) | (simp [*]; done)), H', ⟨by have := HK1.out; have := HK2.out; omega⟩, ⟨by (with_reducible repeat (first | apply Kd.R_alloc | apply Kd.R_drewN | apply Kd.R_drew)); exact HO_5.out⟩, ⟨by (with_reducible repeat (first | apply Kd.R_alloc | apply Kd.R_drewN | apply Kd.R_drew)); exact HO_52.out⟩, ⟨by repeat (first | (with_reducible first | exact HB.out | apply below_alloc | apply pw_below_drewN | apply below_drew1) | exact HB.out)⟩⟩
                      · rw [if_neg c32] at H
                        have c32b0 : decide ((rd x6_1 x54_2) ≤ ji26) = false := decide_eq_false c32
                        clear c32
                        have H' := Aside0.mk H
                        clear H
                        have p607 : 0 ≤ (x54_2 : Int) := of_decide_eq_true (by first | (with_reducible assumption) | assumption)
                        have q607 : x54_2 < (x6_1.length : Int) := of_decide_eq_true (by first | (with_reducible assumption) | assumption)
                        obtain ⟨ad607, e607, hx607_0⟩ := Kd.at_int (Kd.R_reads' HO_52.out).2.2 x54_2 p607 q607
                        cases e607
                        replace p607 := eq_true p607
                        replace q607 := eq_true q607
                        go_wp2
                        go_roundg k2
                        case measure => have := HK1.out; have := HK2.out; omega
                        case rel => exact ⟨(x11_2), (x12_2), (wrap64 (x54_2 + 1)), (by first | rfl | (simp; done) | (simp [*]; done)), (by first | rfl | (simp; done) | (simp [*]; done)), (by first | rfl | (simp; done) | (simp [*]; done)), H', ⟨by have := HK1.out; have := HK2.out; omega⟩, ⟨by (with_reducible repeat (first | apply Kd.R_alloc | apply Kd.R_drewN | apply Kd.R_drew)); exact HO_5.out⟩, ⟨by (with_reducible repeat (first | apply Kd.R_alloc | apply Kd.R_drewN | apply Kd.R_drew)); exact HO_52.out⟩, ⟨by repeat (first | (with_reducible first | exact HB.out | apply below_alloc | apply pw_below_drewN | apply below_drew1) | exact HB.out)⟩⟩
                    · rw [if_neg c31] at H
                      exact absurd H (by simp)
                  · rw [if_neg c30] at H
                    exact absurd H (by simp)
                · rw [if_neg c29] at H
                  have c29b0 : decide (x54_2 < (x6_1.length : Int)) = false := decide_eq_false c29
                  clear c29
                  by_cases c33 : 0 ≤ ji26
                  · rw [if_pos c33] at H
                    have c33b0 := eq_true c33
                    have c33b1 : decide (0 ≤ ji26) = true := decide_eq_true c33
                    clear c33
                    by_cases c34 : ji26 ≤ (x5_1.length : Int)
                    · rw [if_pos c34] at H
                      have c34b0 := eq_true c34
                      have c34b1 : decide (ji26 ≤ (x5_1.length : Int)) = true := decide_eq_true c34
                      clear c34
                      obtain ⟨y608, hy608⟩ : ∃ y_ : List Int, y_ = (x5_1.take (ji26 : Int).toNat) := ⟨_, rfl⟩
                      replace H : ((frame_All.f k2 y608).bind fun bt612 => (if (bt612.1.length : Int) = x11_2 then (if bt612.2.1 = x12_2 then (if ((bt612.2.2 == 0) != (x12_2 == ji26)) = true then (tumbrellaw04_FrameTorn.j2 k2 l0 bt612.1 true) else (if x12_2 < ji26 then (tumbrellaw04_FrameTorn.j2 k2 l0 bt612.1 (bt612.2.2 != 3)) else (tumbrellaw04_FrameTorn.j2 k2 l0 bt612.1 false))) else (tumbrellaw04_FrameTorn.j2 k2 l0 bt612.1 true)) else (tumbrellaw04_FrameTorn.j2 k2 l0 bt612.1 true))) = some r := by first | (rw [hy608]; with_reducible exact H) | (have H2_ := (Option.bind_some _ _).symm.trans H; rw [hy608]; with_reducible exact H2_) | (have H2_ := (Option.bind_some _ _).symm.trans H; with_reducible exact H2_) | with_reducible exact H | (rw [hy608]; exact H) | exact H
                      have Ny608 := Aside0.mk hy608
                      clear hy608
                      replace H := Option.bind_eq_some_iff.mp H
                      obtain ⟨⟨t612, t613, t614⟩, A350, H⟩ := H
                      replace H : (if (t612.length : Int) = x11_2 then (if t613 = x12_2 then (if ((t614 == 0) != (x12_2 == ji26)) = true then (tumbrellaw04_FrameTorn.j2 k2 l0 t612 true) else (if x12_2 < ji26 then (tumbrellaw04_FrameTorn.j2 k2 l0 t612 (t614 != 3)) else (tumbrellaw04_FrameTorn.j2 k2 l0 t612 false))) else (tumbrellaw04_FrameTorn.j2 k2 l0 t612 true)) else (tumbrellaw04_FrameTorn.j2 k2 l0 t612 true)) = some r := H
                      have A35 := Aside0.mk A350
                      clear A350
                      have HC36 := Aside0.mk H
                      clear H
                      have q37 : (ji26 : Int) ≤ ((x5_1.length : Int) : Int) := of_decide_eq_true (by first | (with_reducible assumption) | assumption)
                      obtain ⟨i037, hi037, _, hsz37, _⟩ := info_parts info5
                      have hroom37 : x5_1.length ≤ co27 := (Kd.R_reads' HO_5.out).2.1
                      have hC37 : Kd.C (Kd.int .u8) _ Ao27 x5_1.length x5_1 := (Kd.R_reads' HO_5.out).2.2
                      have hcut37 := cut_to (P := Try.prog) 23 5 .i64 Try.underlying23 hi037 Ao27 x5_1.length co27 ji26 (of_decide_eq_true (by first | (with_reducible assumption) | assumption)) q37 hroom37
                      have hr37 := Kd.C_take (m := (ji26 : Int).toNat) hC37 (by omega)
                      have hy37 : y608.length = (ji26 : Int).toNat := (by rw [Ny608.out, List.length_take]; omega)
                      rw [← Ny608.out] at hr37
                      rw [← hy37] at hcut37
                      have HR611 := Aside0.mk hr37
                      have HC611 := Aside0.mk (show y608.length ≤ co27 from by omega)
                      clear hr37 hC37 hroom37 hi037 hsz37
                      have KY37 := Aside0.mk hy37
                      clear hy37
                      have KL37 := Aside0.mk (show (ji26 : Int).toNat ≤ x5_1.length from by omega)
                      replace q37 := eq_true q37
                      go_upto_region 25 with (first | ((with_reducible refine gate_callee (f := 49) rfl ?_); refine goesL_ (some 69) rfl rfl Try.func49 (by kernel_rfl) rfl #[.slice Ao27 y608.length co27] rfl (by (try simp only [List.map_toArray, List.map_cons, List.map_nil]); first | done | rfl | (simp only [List.length_drop, List.length_take]; rfl)) ?_; (with_reducible refine (frame_All.calls k2 _ _ y608 t612 t613 t614 _ ?side1 ?side2 A35.out).mono ?_); (case side1 => repeat (first | exact (by repeat (first | (with_reducible exact HR611.out) | (with_reducible refine Kd.C_alloc ?_ _) | (with_reducible refine Kd.C_drewN ?_ _) | (with_reducible refine Kd.C_drew ?_) | exact HR611.out)) | (with_reducible refine Kd.C_alloc ?_ _) | (with_reducible refine Kd.C_drewN ?_ _) | (with_reducible refine Kd.C_drew ?_))); (case side2 => exact HC611.out); rintro e w38 ⟨v615, rfl, ho0, hb⟩; refine ⟨_, rfl, ?_⟩; have n0_ := Aside0.mk (Kd.R_below (by (with_reducible repeat (first | apply Kd.R_alloc | apply Kd.R_drewN | apply Kd.R_drew)); exact HO_5.out) hb); have n1_ := Aside0.mk (Kd.R_below (by (with_reducible repeat (first | apply Kd.R_alloc | apply Kd.R_drewN | apply Kd.R_drew)); exact HO_52.out) hb); have n2_ := Aside0.mk (Kd.S_lower (Kd.S_new' ho0 (Kd.R_lt (by (with_reducible repeat (first | apply Kd.R_alloc | apply Kd.R_drewN | apply Kd.R_drew)); exact HO_5.out))) (below_size (by repeat (first | (with_reducible first | exact HB.out | apply below_alloc | apply pw_below_drewN | apply below_drew1) | exact HB.out)))); have n3_ := Aside0.mk (Kd.C_below (by repeat (first | (with_reducible exact HR611.out) | (with_reducible refine Kd.C_alloc ?_ _) | (with_reducible refine Kd.C_drewN ?_ _) | (with_reducible refine Kd.C_drew ?_) | exact HR611.out)) hb); have n4_ := Aside0.mk (below_step (by repeat (first | (with_reducible first | exact HB.out | apply below_alloc | apply pw_below_drewN | apply below_drew1) | exact HB.out)) hb); clear HO_5; clear HO_52; clear HR611; clear HB; have HO_5 := n0_; have HO_52 := n1_; have HO616 := n2_; have HR611 := n3_; have HB := n4_; clear n0_ n1_ n2_ n3_ n4_; (try clear hb); (try clear hb2); (try clear hk); (try clear hi); (try clear ho0)))
                      (try simp only [Act.put, List.setIfInBounds_toArray, List.set_cons_zero, List.set_cons_succ])
                      go_cut [98] (fun v98 wc => ∃ (kq : Nat) (x98_35 : Bool), v98 = .bool x98_35 ∧ Aside0 (tumbrellaw04_FrameTorn.j2 kq l0 t612 x98_35 = some r) ∧ Aside0 (kq ≤ k2) ∧ Aside0 (Kd.S k56 56 wc w.heap.size (fun _ => True) v615 t612) ∧ Aside0 (Kd.C (Kd.int .u8) wc Ao27 y608.length y608) ∧ Aside0 (Below w.heap.size w wc))
                      case first =>
                        have H := HC36.out
                        clear HC36
                        by_cases c39 : (t612.length : Int) = x11_2
                        · rw [if_pos c39] at H
                          have c39b0 : ((t612.length : Int) == x11_2) = true := beq_iff_eq.mpr c39
                          have c39b1 : ((t612.length : Int) != x11_2) = false := bne_eq_false_iff_eq.mpr c39
                          clear c39
                          (first | rw [c39b0] | (simp only [i64_w, i32_w]; rw [c39b0]) | skip)
                          by_cases c40 : t613 = x12_2
                          · rw [if_pos c40] at H
                            have c40b0 : (t613 == x12_2) = true := beq_iff_eq.mpr c40
                            have c40b1 : (t613 != x12_2) = false := bne_eq_false_iff_eq.mpr c40
                            clear c40
                            by_cases c41 : ((t614 == 0) != (x12_2 == ji26)) = true
                            · rw [if_pos c41] at H
                              have c41b0 : ((t614 == 0) != (x12_2 == ji26)) = true := c41
                              (try (have c41b1 : decide ((t614 == 0) = (x12_2 == ji26)) = false := by simpa using c41))
                              (try (have c41b2 : ((t614 == 0) == (x12_2 == ji26)) = false := by simpa using c41))
                              (try (have c41b3 : ¬ ((t614 == 0) = (x12_2 == ji26)) := by simpa using c41))
                              clear c41
                              have H' := Aside0.mk H
                              clear H
                              obtain ⟨Ao42, co42, eo42⟩ := Kd.S_slice HO616.out
                              subst eo42
                              go_wp2
                              go_meet
                              case rel => exact ⟨_, (true), (by first | rfl | (simp; done) | (simp [*]; done)), H', ⟨by have := HK1.out; have := HK2.out; first | omega | exact Nat.le_refl _⟩, ⟨by (with_reducible repeat (first | apply Kd.S_alloc | apply Kd.S_drewN | apply Kd.S_drew)); exact Kd.S_mono HO616.out (fun _ hk => trivial)⟩, ⟨by repeat (first | (with_reducible exact HR611.out) | (with_reducible refine Kd.C_alloc ?_ _) | (with_reducible refine Kd.C_drewN ?_ _) | (with_reducible refine Kd.C_drew ?_) | exact HR611.out)⟩, ⟨by repeat (first | (with_reducible first | exact HB.out | apply below_alloc | apply pw_below_drewN | apply below_drew1) | exact HB.out)⟩⟩
                            · rw [if_neg c41] at H
                              have c41b0 : ((t614 == 0) != (x12_2 == ji26)) = false := by simpa using c41
                              (try (have c41b1 : decide ((t614 == 0) = (x12_2 == ji26)) = true := by simpa using c41))
                              (try (have c41b2 : ((t614 == 0) == (x12_2 == ji26)) = true := by simpa using c41))
                              clear c41
                              by_cases c43 : x12_2 < ji26
                              · rw [if_pos c43] at H
                                have c43b0 : decide (x12_2 < ji26) = true := decide_eq_true c43
                                clear c43
                                have H' := Aside0.mk H
                                clear H
                                obtain ⟨Ao44, co44, eo44⟩ := Kd.S_slice HO616.out
                                subst eo44
                                go_wp2
                                go_meet
                                case rel => exact ⟨_, ((t614 != 3)), (by first | rfl | (simp; done) | (simp [*]; done)), H', ⟨by have := HK1.out; have := HK2.out; first | omega | exact Nat.le_refl _⟩, ⟨by (with_reducible repeat (first | apply Kd.S_alloc | apply Kd.S_drewN | apply Kd.S_drew)); exact Kd.S_mono HO616.out (fun _ hk => trivial)⟩, ⟨by repeat (first | (with_reducible exact HR611.out) | (with_reducible refine Kd.C_alloc ?_ _) | (with_reducible refine Kd.C_drewN ?_ _) | (with_reducible refine Kd.C_drew ?_) | exact HR611.out)⟩, ⟨by repeat (first | (with_reducible first | exact HB.out | apply below_alloc | apply pw_below_drewN | apply below_drew1) | exact HB.out)⟩⟩
                              · rw [if_neg c43] at H
                                have c43b0 : decide (x12_2 < ji26) = false := decide_eq_false c43
                                clear c43
                                have H' := Aside0.mk H
                                clear H
                                obtain ⟨Ao45, co45, eo45⟩ := Kd.S_slice HO616.out
                                subst eo45
                                go_wp2
                                go_meet
                                case rel => exact ⟨_, (false), (by first | rfl | (simp; done) | (simp [*]; done)), H', ⟨by have := HK1.out; have := HK2.out; first | omega | exact Nat.le_refl _⟩, ⟨by (with_reducible repeat (first | apply Kd.S_alloc | apply Kd.S_drewN | apply Kd.S_drew)); exact Kd.S_mono HO616.out (fun _ hk => trivial)⟩, ⟨by repeat (first | (with_reducible exact HR611.out) | (with_reducible refine Kd.C_alloc ?_ _) | (with_reducible refine Kd.C_drewN ?_ _) | (with_reducible refine Kd.C_drew ?_) | exact HR611.out)⟩, ⟨by repeat (first | (with_reducible first | exact HB.out | apply below_alloc | apply pw_below_drewN | apply below_drew1) | exact HB.out)⟩⟩
                          · rw [if_neg c40] at H
                            have c40b0 : (t613 == x12_2) = false := beq_eq_false_iff_ne.mpr c40
                            have c40b1 : (t613 != x12_2) = true := bne_iff_ne.mpr c40
                            have H' := Aside0.mk H
                            clear H
                            obtain ⟨Ao46, co46, eo46⟩ := Kd.S_slice HO616.out
                            subst eo46
                            go_wp2
                            go_meet
                            case rel => exact ⟨_, (true), (by first | rfl | (simp; done) | (simp [*]; done)), H', ⟨by have := HK1.out; have := HK2.out; first | omega | exact Nat.le_refl _⟩, ⟨by (with_reducible repeat (first | apply Kd.S_alloc | apply Kd.S_drewN | apply Kd.S_drew)); exact Kd.S_mono HO616.out (fun _ hk => trivial)⟩, ⟨by repeat (first | (with_reducible exact HR611.out) | (with_reducible refine Kd.C_alloc ?_ _) | (with_reducible refine Kd.C_drewN ?_ _) | (with_reducible refine Kd.C_drew ?_) | exact HR611.out)⟩, ⟨by repeat (first | (with_reducible first | exact HB.out | apply below_alloc | apply pw_below_drewN | apply below_drew1) | exact HB.out)⟩⟩
                        · rw [if_neg c39] at H
                          have c39b0 : ((t612.length : Int) == x11_2) = false := beq_eq_false_iff_ne.mpr c39
                          have c39b1 : ((t612.length : Int) != x11_2) = true := bne_iff_ne.mpr c39
                          (first | rw [c39b0] | (simp only [i64_w, i32_w]; rw [c39b0]) | skip)
                          have H' := Aside0.mk H
                          clear H
                          obtain ⟨Ao47, co47, eo47⟩ := Kd.S_slice HO616.out
                          subst eo47
                          go_wp2
                          go_meet
                          case rel => exact ⟨_, (true), (by first | rfl | (simp; done) | (simp [*]; done)), H', ⟨by have := HK1.out; have := HK2.out; first | omega | exact Nat.le_refl _⟩, ⟨by (with_reducible repeat (first | apply Kd.S_alloc | apply Kd.S_drewN | apply Kd.S_drew)); exact Kd.S_mono HO616.out (fun _ hk => trivial)⟩, ⟨by repeat (first | (with_reducible exact HR611.out) | (with_reducible refine Kd.C_alloc ?_ _) | (with_reducible refine Kd.C_drewN ?_ _) | (with_reducible refine Kd.C_drew ?_) | exact HR611.out)⟩, ⟨by repeat (first | (with_reducible first | exact HB.out | apply below_alloc | apply pw_below_drewN | apply below_drew1) | exact HB.out)⟩⟩
                      case rest =>
                        clear HC36
                        try clear c1
                        try clear c2
                        try clear p2
                        try clear c3
                        try clear q3
                        try clear c4
                        try clear c5
                        try clear c5b0
                        try clear c5b1
                        try clear p5
                        try clear q5
                        try clear hx5
                        try clear p6
                        try clear q6
                        try clear hx6
                        try clear c8
                        try clear c8b0
                        try clear c9
                        try clear c9b0
                        try clear c10
                        try clear c10b0
                        try clear c12
                        try clear c12b0
                        try clear c12b1
                        try clear c13
                        try clear c14
                        try clear c29
                        try clear c29b0
                        try clear c30
                        try clear c30b0
                        try clear c31
                        try clear c31b0
                        try clear c32
                        try clear c32b0
                        try clear c33
                        try clear c33b0
                        try clear c33b1
                        try clear c34
                        try clear c34b0
                        try clear c34b1
                        try clear q37
                        try clear c39
                        try clear c39b0
                        try clear c39b1
                        try clear c40
                        try clear c40b0
                        try clear c40b1
                        try clear c41
                        try clear c41b0
                        try clear c41b1
                        try clear c41b2
                        try clear c43
                        try clear c43b0
                        try clear c44
                        try clear c45
                        try clear hcz16_0
                        try clear hcz16_1
                        try clear hcz23_0
                        try clear hcz23_1
                        try clear hfz16_0
                        try clear hfz16_1
                        try clear hfz23_0
                        try clear hfz23_1
                        try clear hx595_0
                        try clear hx595_1
                        try clear hx607_0
                        try clear p2
                        try clear p5
                        try clear p595
                        try clear p6
                        try clear p607
                        try clear q37
                        try clear q5
                        try clear q595
                        try clear q607
                        obtain ⟨kq, x98_35, rfl, HA, HJ35, HO_15, HR611, HB⟩ := hcut
                        cases kq with
                        | zero => exact absurd HA.out (by simp [tumbrellaw04_FrameTorn.j2])
                        | succ kj35 =>
                          have H := HA.out
                          clear HA
                          simp only [tumbrellaw04_FrameTorn.j2] at H
                          by_cases c48 : x98_35 = true
                          · subst c48
                            have H1 : (some false) = some r := by rw [if_pos rfl] at H; exact H
                            clear H
                            have H := H1
                            clear H1
                            obtain rfl := Option.some.inj H
                            go_wp2
                            go_ret
                            exact ⟨by first | rfl | (simp [errW_none, errW_some] <;> rfl) | (simp only [← hji25, ← hji26]; first | rfl | (simp [errW_none, errW_some] <;> rfl)) | (simp [*, errW_none, errW_some] <;> rfl), by repeat (first | (with_reducible first | exact HB.out | apply below_alloc | apply pw_below_drewN | apply below_drew1) | exact HB.out)⟩
                          · replace c48 := Bool.eq_false_iff.mpr c48
                            subst c48
                            have H1 : (tumbrellaw04_FrameTorn.l2 kj35 l0 t612 (t612.length : Int) 0) = some r := by rw [if_neg (show ¬ (false = true) by decide)] at H; exact H
                            clear H
                            have H := H1
                            clear H1
                            have H' := Aside0.mk H
                            clear H
                            obtain ⟨Ao49, co49, eo49⟩ := Kd.S_slice HO_15.out
                            subst eo49
                            go_wp2
                            go_loopg [101] kj35 (fun kq v101 w' => ∃ (x101_4 : Int), v101 = .int .i64 x101_4 ∧ Aside0 (tumbrellaw04_FrameTorn.l2 kq l0 t612 (t612.length : Int) x101_4 = some r) ∧ Aside0 (kq ≤ kj35) ∧ Aside0 (Kd.S k56 56 w' w.heap.size (fun _ => True) (.slice Ao49 t612.length co49) t612) ∧ Aside0 (Below w.heap.size w w'))
                            case atStart => exact ⟨(0), (by first | rfl | (simp; done) | (simp [*]; done)), H', ⟨Nat.le_refl _⟩, ⟨by (with_reducible repeat (first | apply Kd.S_alloc | apply Kd.S_drewN | apply Kd.S_drew)); exact HO_15.out⟩, ⟨by repeat (first | (with_reducible first | exact HB.out | apply below_alloc | apply pw_below_drewN | apply below_drew1) | exact HB.out)⟩⟩
                            case round =>
                              clear H'
                              try clear c1
                              try clear c2
                              try clear p2
                              try clear c3
                              try clear q3
                              try clear c4
                              try clear c5
                              try clear c5b0
                              try clear c5b1
                              try clear p5
                              try clear q5
                              try clear hx5
                              try clear p6
                              try clear q6
                              try clear hx6
                              try clear c8
                              try clear c8b0
                              try clear c9
                              try clear c9b0
                              try clear c10
                              try clear c10b0
                              try clear c12
                              try clear c12b0
                              try clear c12b1
                              try clear c13
                              try clear c14
                              try clear c29
                              try clear c29b0
                              try clear c30
                              try clear c30b0
                              try clear c31
                              try clear c31b0
                              try clear c32
                              try clear c32b0
                              try clear c33
                              try clear c33b0
                              try clear c33b1
                              try clear c34
                              try clear c34b0
                              try clear c34b1
                              try clear q37
                              try clear c39
                              try clear c39b0
                              try clear c39b1
                              try clear c40
                              try clear c40b0
                              try clear c40b1
                              try clear c41
                              try clear c41b0
                              try clear c41b1
                              try clear c41b2
                              try clear c43
                              try clear c43b0
                              try clear c44
                              try clear c45
                              try clear c48
                              try clear c49
                              try clear hcz16_0
                              try clear hcz16_1
                              try clear hcz23_0
                              try clear hcz23_1
                              try clear hfz16_0
                              try clear hfz16_1
                              try clear hfz23_0
                              try clear hfz23_1
                              try clear hx595_0
                              try clear hx595_1
                              try clear hx607_0
                              try clear p2
                              try clear p5
                              try clear p595
                              try clear p6
                              try clear p607
                              try clear q3
                              try clear q37
                              try clear q5
                              try clear q595
                              try clear q6
                              try clear q607
                              obtain ⟨x101_4, rfl, HA, HK4, HO_99, HB⟩ := hrel
                              cases gk with
                              | zero => exact absurd HA.out (by simp [tumbrellaw04_FrameTorn.l2])
                              | succ k4 =>
                                have H := HA.out
                                clear HA
                                simp only [tumbrellaw04_FrameTorn.l2] at H
                                by_cases c50 : x101_4 < (t612.length : Int)
                                · rw [if_pos c50] at H
                                  have c50b0 : decide (x101_4 < (t612.length : Int)) = true := decide_eq_true c50
                                  clear c50
                                  by_cases c51 : 0 ≤ x101_4
                                  · rw [if_pos c51] at H
                                    have c51b0 : decide (0 ≤ x101_4) = true := decide_eq_true c51
                                    clear c51
                                    by_cases c52 : x101_4 < (t612.length : Int)
                                    · rw [if_pos c52] at H
                                      have c52b0 : decide (x101_4 < (t612.length : Int)) = true := decide_eq_true c52
                                      clear c52
                                      by_cases c53 : x101_4 < (l0.length : Int)
                                      · rw [if_pos c53] at H
                                        have c53b0 : decide (x101_4 < (l0.length : Int)) = true := decide_eq_true c53
                                        clear c53
                                        replace H := Option.bind_eq_some_iff.mp H
                                        obtain ⟨t620, A540, H⟩ := H
                                        replace H : (if t620 = true then (tumbrellaw04_FrameTorn.l2 k4 l0 t612 (t612.length : Int) (wrap64 (x101_4 + 1))) else (some false)) = some r := H
                                        have A54 := Aside0.mk A540
                                        clear A540
                                        by_cases c55 : t620 = true
                                        · subst c55
                                          have H1 : (tumbrellaw04_FrameTorn.l2 k4 l0 t612 (t612.length : Int) (wrap64 (x101_4 + 1))) = some r := by rw [if_pos rfl] at H; exact H
                                          clear H
                                          have H := H1
                                          clear H1
                                          have H' := Aside0.mk H
                                          clear H
                                          have p617 : 0 ≤ (x101_4 : Int) := of_decide_eq_true (by first | (with_reducible assumption) | assumption)
                                          have q617 : x101_4 < (t612.length : Int) := of_decide_eq_true (by first | (with_reducible assumption) | assumption)
                                          obtain ⟨ad617, A617_1, c617_1, e617, hx617_0, hx617_1, hl617_1, hi617_1⟩ := at_T56 (Kd.S_reads' HO_99.out).2.2 x101_4 p617 q617
                                          cases e617
                                          obtain ⟨ce617, hce617, hMe617, hcc617⟩ := Kd.S_get HO_99.out z56 x101_4 p617 (by first | exact q617 | exact of_decide_eq_true (by first | (with_reducible assumption) | assumption) | (have e_ := (Kd.S_reads' HO_99.out).1; omega))
                                          obtain ⟨ve617_1, rfl, ge617_1⟩ := k56_openM hMe617
                                          have hv617_1 := hcc617 1 _ rfl
                                          rw [add_field _ _ 1 (by omega)] at hv617_1
                                          replace hv617_1 := Option.some.inj (hv617_1.symm.trans hx617_1)
                                          rw [hv617_1] at ge617_1
                                          have HL617_1 := Aside0.mk (show Kd.R (Kd.int .u8) 5 _ _ _ _ ((rd_T56 t612 x101_4).f1) from ge617_1)
                                          clear hv617_1 ge617_1
                                          clear hcc617 hce617
                                          have HR617_1 := Aside0.mk hi617_1
                                          have HC617_1 := Aside0.mk hl617_1
                                          clear hi617_1 hl617_1
                                          replace p617 := eq_true p617
                                          replace q617 := eq_true q617
                                          try go_wp2_with (first | ((with_reducible refine gate_dst (N := 19) rfl ?_); refine box_event ?hg (N := 19) ?hd (cs := #[.int .u8 0, .slice none 0 0]) (t := 56) ?hr ?_; (case hd => rfl); (case hg => rfl); (case hr => first | (go_simp; done) | (go_simp; rfl)); intro gb618 hg w56 hbox hb; have n0_ := Aside0.mk (Kd.S_below (Kd.S_elderB (by (with_reducible repeat (first | apply Kd.S_alloc | apply Kd.S_drewN | apply Kd.S_drew)); exact HO_99.out) gb618 (Nat.le_of_eq hg.symm)) hb); have n1_ := Aside0.mk (Kd.R_below (by (with_reducible repeat (first | apply Kd.R_alloc | apply Kd.R_drewN | apply Kd.R_drew)); exact HL617_1.out) hb); have n2_ := Aside0.mk (Kd.C_below (by repeat (first | (with_reducible exact HR617_1.out) | (with_reducible refine Kd.C_alloc ?_ _) | (with_reducible refine Kd.C_drewN ?_ _) | (with_reducible refine Kd.C_drew ?_) | exact HR617_1.out)) hb); have n3_ := Aside0.mk (below_step (by repeat (first | (with_reducible first | exact HB.out | apply below_alloc | apply pw_below_drewN | apply below_drew1) | exact HB.out)) hb); have n4_ := Aside0.mk (hbox); have n5_ := Aside0.mk ((by rw [hg]; exact (below_size (by repeat (first | (with_reducible first | exact HB.out | apply below_alloc | apply pw_below_drewN | apply below_drew1) | exact HB.out))) : w.heap.size ≤ gb618)); have n6_ := Aside0.mk ((by rw [hg]; exact (below_size (by repeat (first | (with_reducible first | exact HB.out | apply below_alloc | apply pw_below_drewN | apply below_drew1) | exact HB.out))) : w.heap.size ≤ gb618)); clear HO_99; clear HL617_1; clear HR617_1; clear HB; have HO_99 := n0_; have HL617_1 := n1_; have HR617_1 := n2_; have HB := n3_; have BK618 := n4_; have GW618 := n5_; have GE618 := n6_; clear n0_ n1_ n2_ n3_ n4_ n5_ n6_; clear hb hbox hg; have hcz57_0 : w56.cell? ⟨gb618, 0, none⟩ = some (.int .u8 0) := (blk_cell BK618.out 0).trans rfl; have hcz57_1 : w56.cell? ⟨gb618, 1, none⟩ = some (.slice none 0 0) := (blk_cell BK618.out 1).trans rfl; have hfz57_0 := blk_frozen BK618.out 0; have hfz57_1 := blk_frozen BK618.out 1))
                                          have n0_ : Aside0 (Kd.S k56 56 ((w56.setCell ⟨gb618, 0, none⟩ (.int .u8 ((rd_T56 t612 x101_4).f0))).setCell ⟨gb618, 1, none⟩ (.slice A617_1 ((rd_T56 t612 x101_4).f1).length c617_1)) w.heap.size (fun k_ => k_ ≠ gb618) (.slice (some ad617) t612.length co49) t612) := ⟨by (with_reducible repeat (first | apply Kd.S_alloc | apply Kd.S_drewN | apply Kd.S_drew)); exact Kd.S_mono (Kd.S_far (p := ⟨gb618, 1, none⟩) (Kd.S_far (p := ⟨gb618, 0, none⟩) (Kd.S_mono HO_99.out (fun k_ hk => (⟨hk, hk.2⟩ : _ ∧ k_ ≠ gb618))) (fun _ hk => hk.2) (.int .u8 ((rd_T56 t612 x101_4).f0))) (fun _ hk => hk.2) (.slice A617_1 ((rd_T56 t612 x101_4).f1).length c617_1)) (fun _ hk => hk.1.2)⟩
                                          have n1_ : Aside0 (Kd.R (Kd.int .u8) 5 ((w56.setCell ⟨gb618, 0, none⟩ (.int .u8 ((rd_T56 t612 x101_4).f0))).setCell ⟨gb618, 1, none⟩ (.slice A617_1 ((rd_T56 t612 x101_4).f1).length c617_1)) w.heap.size (fun k_ => some k_ ≠ (.slice (some ad617) t612.length co49 : Value).ownBlock) (.slice A617_1 ((rd_T56 t612 x101_4).f1).length c617_1) ((rd_T56 t612 x101_4).f1)) := ⟨by (with_reducible repeat (first | apply Kd.R_alloc | apply Kd.R_drewN | apply Kd.R_drew)); exact Kd.R_mono (Kd.R_far (p := ⟨gb618, 1, none⟩) (Kd.R_far (p := ⟨gb618, 0, none⟩) (Kd.R_types HL617_1.out BK618.out (by decide)) (fun _ hk => hk.2) (.int .u8 ((rd_T56 t612 x101_4).f0))) (fun _ hk => hk.2) (.slice A617_1 ((rd_T56 t612 x101_4).f1).length c617_1)) (fun _ hk => hk.1.2)⟩
                                          have n2_ : Aside0 (((w56.setCell ⟨gb618, 0, none⟩ (.int .u8 ((rd_T56 t612 x101_4).f0))).setCell ⟨gb618, 1, none⟩ (.slice A617_1 ((rd_T56 t612 x101_4).f1).length c617_1)).heap[gb618]? = some (.cells #[.int .u8 ((rd_T56 t612 x101_4).f0), .slice A617_1 ((rd_T56 t612 x101_4).f1).length c617_1] 56 (0, 0))) := ⟨by (with_reducible repeat (first | refine blk_drewN ?_ _ | refine blk_drew ?_ | refine blk_alloc ?_ _)); refine blk_put (cs := #[.int .u8 ((rd_T56 t612 x101_4).f0), .slice none 0 0]) ?_ 1 _ rfl; (with_reducible repeat (first | refine blk_drewN ?_ _ | refine blk_drew ?_ | refine blk_alloc ?_ _)); refine blk_put (cs := #[.int .u8 0, .slice none 0 0]) ?_ 0 _ rfl; (with_reducible repeat (first | refine blk_drewN ?_ _ | refine blk_drew ?_ | refine blk_alloc ?_ _)); exact BK618.out⟩
                                          have n3_ : Aside0 (Below w.heap.size w ((w56.setCell ⟨gb618, 0, none⟩ (.int .u8 ((rd_T56 t612 x101_4).f0))).setCell ⟨gb618, 1, none⟩ (.slice A617_1 ((rd_T56 t612 x101_4).f1).length c617_1))) := ⟨by repeat (first | (with_reducible first | exact HB.out | apply below_alloc | apply pw_below_drewN | apply below_drew1 | refine below_set ?_ GE618.out) | exact HB.out)⟩
                                          (try clear HO_99)
                                          (try clear HL617_1)
                                          (try clear BK618)
                                          (try clear HB)
                                          generalize ((w56.setCell ⟨gb618, 0, none⟩ (.int .u8 ((rd_T56 t612 x101_4).f0))).setCell ⟨gb618, 1, none⟩ (.slice A617_1 ((rd_T56 t612 x101_4).f1).length c617_1)) = w58 at n0_ n1_ n2_ n3_ ⊢
                                          have HO_99 := n0_
                                          have HL617_1 := n1_
                                          have BK618 := n2_
                                          have HB := n3_
                                          clear n0_ n1_ n2_ n3_
                                          have n0_ := Aside0.mk (Kd.S_drew HO_99.out)
                                          have n1_ := Aside0.mk (Kd.R_drew HL617_1.out)
                                          have n2_ := Aside0.mk (blk_drew BK618.out)
                                          have n3_ := Aside0.mk (below_drew1 HB.out)
                                          clear HO_99
                                          clear HL617_1
                                          clear BK618
                                          clear HB
                                          have HO_99 := n0_
                                          have HL617_1 := n1_
                                          have BK618 := n2_
                                          have HB := n3_
                                          clear n0_ n1_ n2_ n3_
                                          have p619 : 0 ≤ (x101_4 : Int) := of_decide_eq_true (by first | (with_reducible assumption) | assumption)
                                          have q619 : x101_4 < (l0.length : Int) := of_decide_eq_true (by first | (with_reducible assumption) | assumption)
                                          obtain ⟨ad619, A619_1, c619_1, e619, hx619_0, hx619_1, hl619_1, hi619_1⟩ := at_T56 HR0.out x101_4 p619 q619
                                          have hw619_1 := hx619_1
                                          have hw619_0 := hx619_0
                                          cases e619
                                          replace hx619_0 := (HB.out.cell (World.block_lt_of_cell? w _ hx619_0)).trans hx619_0
                                          replace hx619_1 := (HB.out.cell (World.block_lt_of_cell? w _ hx619_1)).trans hx619_1
                                          have HR619_1 := Aside0.mk hi619_1
                                          have HC619_1 := Aside0.mk hl619_1
                                          clear hi619_1 hl619_1
                                          replace p619 := eq_true p619
                                          replace q619 := eq_true q619
                                          refine start_ (n := 7) (S := fun w' => w'.cell? ⟨gb618, 0, none⟩ = some (.int .u8 ((rd_T56 t612 x101_4).f0)) ∧ w'.cell? ⟨gb618, 1, none⟩ = some (.slice A617_1 ((rd_T56 t612 x101_4).f1).length c617_1) ∧ w'.cell? (ad619.add ((x101_4).toNat * 2)) = some (.int .u8 ((rd_T56 l0 x101_4).f0)) ∧ w'.cell? ⟨(ad619.add ((x101_4).toNat * 2)).block, (ad619.add ((x101_4).toNat * 2)).off + 1, none⟩ = some (.slice A619_1 ((rd_T56 l0 x101_4).f1).length c619_1)) (ds := []) #[false, false, false, false, false, false, false] (by kernel_rfl) rfl rfl ⟨(blk_cell BK618.out 0).trans rfl, (blk_cell BK618.out 1).trans rfl, ((HB.out.cell (World.block_lt_of_cell? w _ hw619_0)).trans hw619_0), ((HB.out.cell (World.block_lt_of_cell? w _ hw619_1)).trans hw619_1)⟩ (fun hHeld => ?_)
                                          generalize w58.drew = w59 at HO_99 HL617_1 BK618 HB HR619_1 hx619_0 hx619_1 hHeld ⊢
                                          refine pure_ (i := 1) (N := some 107) (v := ?_) (a' := ?_) #[false, true, false, false, false, false, false] rfl rfl (by kernel_rfl) (fun _ _ _ h => h) (Or.inl ⟨by rfl, ?_⟩) ?_ ?_
                                          rotate_left
                                          · intro w'
                                            go_simp
                                            with_reducible rfl
                                          rotate_left
                                          · simp only [Act.put, List.setIfInBounds_toArray, List.set_cons_zero, List.set_cons_succ, i64_w, i32_w]
                                            rfl
                                          refine pure_ (i := 2) (N := some 108) (v := ?_) (a' := ?_) #[false, true, true, false, false, false, false] rfl rfl (by kernel_rfl) (fun _ _ _ h => h) (Or.inl ⟨by rfl, ?_⟩) ?_ ?_
                                          rotate_left
                                          · intro w'
                                            go_simp
                                            with_reducible rfl
                                          rotate_left
                                          · simp only [Act.put, List.setIfInBounds_toArray, List.set_cons_zero, List.set_cons_succ, i64_w, i32_w]
                                            rfl
                                          refine pure_ (i := 3) (N := some 109) (v := ?_) (a' := ?_) #[false, true, true, true, false, false, false] rfl rfl (by kernel_rfl) (fun _ _ _ h => h) (Or.inl ⟨by rfl, ?_⟩) ?_ ?_
                                          rotate_left
                                          · intro w'
                                            go_simp
                                            with_reducible rfl
                                          rotate_left
                                          · simp only [Act.put, List.setIfInBounds_toArray, List.set_cons_zero, List.set_cons_succ, i64_w, i32_w]
                                            rfl
                                          refine take_ (i := 0) (N := some 106) (v := ?_) (a' := ?_) #[true, true, true, true, false, false, false] rfl rfl (by kernel_rfl) (fun _ _ _ h => h) (Or.inl ⟨by rfl, ?_⟩) hHeld ?_ ?_
                                          rotate_left
                                          · rintro w' ⟨s0, s1, s2, s3⟩
                                            go_simp
                                            with_reducible rfl
                                          rotate_left
                                          · simp only [Act.put, List.setIfInBounds_toArray, List.set_cons_zero, List.set_cons_succ, i64_w, i32_w]
                                            rfl
                                          refine take_ (i := 4) (N := some 110) (v := ?_) (a' := ?_) #[true, true, true, true, true, false, false] rfl rfl (by kernel_rfl) (fun _ _ _ h => h) (Or.inl ⟨by rfl, ?_⟩) hHeld ?_ ?_
                                          rotate_left
                                          · rintro w' ⟨s0, s1, s2, s3⟩
                                            go_simp
                                            with_reducible rfl
                                          rotate_left
                                          · simp only [Act.put, List.setIfInBounds_toArray, List.set_cons_zero, List.set_cons_succ, i64_w, i32_w]
                                            rfl
                                          refine one_ (i := 5) (N := some 111) #[true, true, true, true, true, true, false] rfl rfl (by kernel_rfl) (by decide) (fun K hK => ?_)
                                          refine goes_ Try.func53 (by kernel_rfl) rfl #[.agg #[.int .u8 ((rd_T56 t612 x101_4).f0), .slice A617_1 ((rd_T56 t612 x101_4).f1).length c617_1], .agg #[.int .u8 ((rd_T56 l0 x101_4).f0), .slice A619_1 ((rd_T56 l0 x101_4).f1).length c619_1]] (by rfl) rfl rfl (by (try simp only [List.map_toArray, List.map_cons, List.map_nil]); first | done | rfl | (simp only [List.length_drop, List.length_take]; rfl)) ?_
                                          with_reducible refine (frame_Same.calls ((rd_T56 t612 x101_4).f0) _ _ ((rd_T56 t612 x101_4).f1) ((rd_T56 l0 x101_4).f0) _ _ ((rd_T56 l0 x101_4).f1) true _ ?side1 ?side2 ?side3 ?side4 A54.out).mono ?_
                                          (case side1 => repeat (first | exact ((Kd.R_reads' (by (with_reducible repeat (first | apply Kd.R_alloc | apply Kd.R_drewN | apply Kd.R_drew)); exact HL617_1.out)).2.2) | (with_reducible refine Kd.C_alloc ?_ _) | (with_reducible refine Kd.C_drewN ?_ _) | (with_reducible refine Kd.C_drew ?_)))
                                          (case side2 => exact HC617_1.out)
                                          (case side3 => repeat (first | exact (Kd.C_below HR619_1.out HB.out) | (with_reducible refine Kd.C_alloc ?_ _) | (with_reducible refine Kd.C_drewN ?_ _) | (with_reducible refine Kd.C_drew ?_)))
                                          (case side4 => exact HC619_1.out)
                                          rintro e w60 ⟨rfl, hb⟩
                                          refine ⟨_, rfl, ?_⟩
                                          have n0_ := Aside0.mk (Kd.S_below (by (with_reducible repeat (first | apply Kd.S_alloc | apply Kd.S_drewN | apply Kd.S_drew)); exact HO_99.out) hb)
                                          have n1_ := Aside0.mk (Kd.R_below (by (with_reducible repeat (first | apply Kd.R_alloc | apply Kd.R_drewN | apply Kd.R_drew)); exact HL617_1.out) hb)
                                          have n2_ := Aside0.mk (blk_below (g := gb618) (o := .cells #[.int .u8 ((rd_T56 t612 x101_4).f0), .slice A617_1 ((rd_T56 t612 x101_4).f1).length c617_1] 56 (0, 0)) (by (with_reducible repeat (first | refine blk_drewN ?_ _ | refine blk_drew ?_ | refine blk_alloc ?_ _)); exact BK618.out) hb)
                                          have n3_ := Aside0.mk (below_step (by repeat (first | (with_reducible first | exact HB.out | apply below_alloc | apply pw_below_drewN | apply below_drew1 | refine below_set ?_ GE618.out) | exact HB.out)) hb)
                                          clear HO_99
                                          clear HL617_1
                                          clear BK618
                                          clear HB
                                          have HO_99 := n0_
                                          have HL617_1 := n1_
                                          have BK618 := n2_
                                          have HB := n3_
                                          clear n0_ n1_ n2_ n3_
                                          (try clear hb)
                                          (try clear hb2)
                                          (try clear hk)
                                          (try clear hi)
                                          refine hK.out _ _ ⟨(blk_cell BK618.out 0).trans rfl, (blk_cell BK618.out 1).trans rfl, ((HB.out.cell (World.block_lt_of_cell? w _ hw619_0)).trans hw619_0), ((HB.out.cell (World.block_lt_of_cell? w _ hw619_1)).trans hw619_1)⟩ (fun hHeld => ?_)
                                          clear hK K
                                          refine norm_ (a' := ?_) ?_ ?_
                                          rotate_left
                                          · show Act.put _ (some 111) _ = _
                                            simp only [Act.put, List.setIfInBounds_toArray, List.set_cons_zero, List.set_cons_succ, i64_w, i32_w]
                                            rfl
                                          refine pure_ (i := 6) (N := some 112) (v := ?_) (a' := ?_) #[true, true, true, true, true, true, true] rfl rfl (by kernel_rfl) (fun _ _ _ h => h) (Or.inl ⟨by rfl, ?_⟩) ?_ ?_
                                          rotate_left
                                          · intro w'
                                            go_simp
                                            with_reducible rfl
                                          rotate_left
                                          · simp only [Act.put, List.setIfInBounds_toArray, List.set_cons_zero, List.set_cons_succ, i64_w, i32_w]
                                            rfl
                                          refine done_ (by kernel_rfl) ?_
                                          try go_wp2
                                          go_roundg k4
                                          case measure => have := HK1.out; have := HK2.out; have := HJ35.out; have := HK4.out; omega
                                          case rel => exact ⟨(wrap64 (x101_4 + 1)), (by first | rfl | (simp; done) | (simp [*]; done)), H', ⟨by have := HK1.out; have := HK2.out; have := HJ35.out; have := HK4.out; omega⟩, ⟨by (with_reducible repeat (first | apply Kd.S_alloc | apply Kd.S_drewN | apply Kd.S_drew)); exact Kd.S_mono HO_99.out (fun _ hk => trivial)⟩, ⟨by repeat (first | (with_reducible first | exact HB.out | apply below_alloc | apply pw_below_drewN | apply below_drew1 | refine below_set ?_ GE618.out) | exact HB.out)⟩⟩
                                        · replace c55 := Bool.eq_false_iff.mpr c55
                                          subst c55
                                          have H1 : (some false) = some r := by rw [if_neg (show ¬ (false = true) by decide)] at H; exact H
                                          clear H
                                          have H := H1
                                          clear H1
                                          obtain rfl := Option.some.inj H
                                          have p617 : 0 ≤ (x101_4 : Int) := of_decide_eq_true (by first | (with_reducible assumption) | assumption)
                                          have q617 : x101_4 < (t612.length : Int) := of_decide_eq_true (by first | (with_reducible assumption) | assumption)
                                          obtain ⟨ad617, A617_1, c617_1, e617, hx617_0, hx617_1, hl617_1, hi617_1⟩ := at_T56 (Kd.S_reads' HO_99.out).2.2 x101_4 p617 q617
                                          cases e617
                                          obtain ⟨ce617, hce617, hMe617, hcc617⟩ := Kd.S_get HO_99.out z56 x101_4 p617 (by first | exact q617 | exact of_decide_eq_true (by first | (with_reducible assumption) | assumption) | (have e_ := (Kd.S_reads' HO_99.out).1; omega))
                                          obtain ⟨ve617_1, rfl, ge617_1⟩ := k56_openM hMe617
                                          have hv617_1 := hcc617 1 _ rfl
                                          rw [add_field _ _ 1 (by omega)] at hv617_1
                                          replace hv617_1 := Option.some.inj (hv617_1.symm.trans hx617_1)
                                          rw [hv617_1] at ge617_1
                                          have HL617_1 := Aside0.mk (show Kd.R (Kd.int .u8) 5 _ _ _ _ ((rd_T56 t612 x101_4).f1) from ge617_1)
                                          clear hv617_1 ge617_1
                                          clear hcc617 hce617
                                          have HR617_1 := Aside0.mk hi617_1
                                          have HC617_1 := Aside0.mk hl617_1
                                          clear hi617_1 hl617_1
                                          replace p617 := eq_true p617
                                          replace q617 := eq_true q617
                                          try go_wp2_with (first | ((with_reducible refine gate_dst (N := 19) rfl ?_); refine box_event ?hg (N := 19) ?hd (cs := #[.int .u8 0, .slice none 0 0]) (t := 56) ?hr ?_; (case hd => rfl); (case hg => rfl); (case hr => first | (go_simp; done) | (go_simp; rfl)); intro gb618 hg w61 hbox hb; have n0_ := Aside0.mk (Kd.S_below (Kd.S_elderB (by (with_reducible repeat (first | apply Kd.S_alloc | apply Kd.S_drewN | apply Kd.S_drew)); exact HO_99.out) gb618 (Nat.le_of_eq hg.symm)) hb); have n1_ := Aside0.mk (Kd.R_below (by (with_reducible repeat (first | apply Kd.R_alloc | apply Kd.R_drewN | apply Kd.R_drew)); exact HL617_1.out) hb); have n2_ := Aside0.mk (Kd.C_below (by repeat (first | (with_reducible exact HR617_1.out) | (with_reducible refine Kd.C_alloc ?_ _) | (with_reducible refine Kd.C_drewN ?_ _) | (with_reducible refine Kd.C_drew ?_) | exact HR617_1.out)) hb); have n3_ := Aside0.mk (below_step (by repeat (first | (with_reducible first | exact HB.out | apply below_alloc | apply pw_below_drewN | apply below_drew1) | exact HB.out)) hb); have n4_ := Aside0.mk (hbox); have n5_ := Aside0.mk ((by rw [hg]; exact (below_size (by repeat (first | (with_reducible first | exact HB.out | apply below_alloc | apply pw_below_drewN | apply below_drew1) | exact HB.out))) : w.heap.size ≤ gb618)); have n6_ := Aside0.mk ((by rw [hg]; exact (below_size (by repeat (first | (with_reducible first | exact HB.out | apply below_alloc | apply pw_below_drewN | apply below_drew1) | exact HB.out))) : w.heap.size ≤ gb618)); clear HO_99; clear HL617_1; clear HR617_1; clear HB; have HO_99 := n0_; have HL617_1 := n1_; have HR617_1 := n2_; have HB := n3_; have BK618 := n4_; have GW618 := n5_; have GE618 := n6_; clear n0_ n1_ n2_ n3_ n4_ n5_ n6_; clear hb hbox hg; have hcz62_0 : w61.cell? ⟨gb618, 0, none⟩ = some (.int .u8 0) := (blk_cell BK618.out 0).trans rfl; have hcz62_1 : w61.cell? ⟨gb618, 1, none⟩ = some (.slice none 0 0) := (blk_cell BK618.out 1).trans rfl; have hfz62_0 := blk_frozen BK618.out 0; have hfz62_1 := blk_frozen BK618.out 1))
                                          have n0_ : Aside0 (Kd.S k56 56 ((w61.setCell ⟨gb618, 0, none⟩ (.int .u8 ((rd_T56 t612 x101_4).f0))).setCell ⟨gb618, 1, none⟩ (.slice A617_1 ((rd_T56 t612 x101_4).f1).length c617_1)) w.heap.size (fun k_ => k_ ≠ gb618) (.slice (some ad617) t612.length co49) t612) := ⟨by (with_reducible repeat (first | apply Kd.S_alloc | apply Kd.S_drewN | apply Kd.S_drew)); exact Kd.S_mono (Kd.S_far (p := ⟨gb618, 1, none⟩) (Kd.S_far (p := ⟨gb618, 0, none⟩) (Kd.S_mono HO_99.out (fun k_ hk => (⟨hk, hk.2⟩ : _ ∧ k_ ≠ gb618))) (fun _ hk => hk.2) (.int .u8 ((rd_T56 t612 x101_4).f0))) (fun _ hk => hk.2) (.slice A617_1 ((rd_T56 t612 x101_4).f1).length c617_1)) (fun _ hk => hk.1.2)⟩
                                          have n1_ : Aside0 (Kd.R (Kd.int .u8) 5 ((w61.setCell ⟨gb618, 0, none⟩ (.int .u8 ((rd_T56 t612 x101_4).f0))).setCell ⟨gb618, 1, none⟩ (.slice A617_1 ((rd_T56 t612 x101_4).f1).length c617_1)) w.heap.size (fun k_ => some k_ ≠ (.slice (some ad617) t612.length co49 : Value).ownBlock) (.slice A617_1 ((rd_T56 t612 x101_4).f1).length c617_1) ((rd_T56 t612 x101_4).f1)) := ⟨by (with_reducible repeat (first | apply Kd.R_alloc | apply Kd.R_drewN | apply Kd.R_drew)); exact Kd.R_mono (Kd.R_far (p := ⟨gb618, 1, none⟩) (Kd.R_far (p := ⟨gb618, 0, none⟩) (Kd.R_types HL617_1.out BK618.out (by decide)) (fun _ hk => hk.2) (.int .u8 ((rd_T56 t612 x101_4).f0))) (fun _ hk => hk.2) (.slice A617_1 ((rd_T56 t612 x101_4).f1).length c617_1)) (fun _ hk => hk.1.2)⟩
                                          have n2_ : Aside0 (((w61.setCell ⟨gb618, 0, none⟩ (.int .u8 ((rd_T56 t612 x101_4).f0))).setCell ⟨gb618, 1, none⟩ (.slice A617_1 ((rd_T56 t612 x101_4).f1).length c617_1)).heap[gb618]? = some (.cells #[.int .u8 ((rd_T56 t612 x101_4).f0), .slice A617_1 ((rd_T56 t612 x101_4).f1).length c617_1] 56 (0, 0))) := ⟨by (with_reducible repeat (first | refine blk_drewN ?_ _ | refine blk_drew ?_ | refine blk_alloc ?_ _)); refine blk_put (cs := #[.int .u8 ((rd_T56 t612 x101_4).f0), .slice none 0 0]) ?_ 1 _ rfl; (with_reducible repeat (first | refine blk_drewN ?_ _ | refine blk_drew ?_ | refine blk_alloc ?_ _)); refine blk_put (cs := #[.int .u8 0, .slice none 0 0]) ?_ 0 _ rfl; (with_reducible repeat (first | refine blk_drewN ?_ _ | refine blk_drew ?_ | refine blk_alloc ?_ _)); exact BK618.out⟩
                                          have n3_ : Aside0 (Below w.heap.size w ((w61.setCell ⟨gb618, 0, none⟩ (.int .u8 ((rd_T56 t612 x101_4).f0))).setCell ⟨gb618, 1, none⟩ (.slice A617_1 ((rd_T56 t612 x101_4).f1).length c617_1))) := ⟨by repeat (first | (with_reducible first | exact HB.out | apply below_alloc | apply pw_below_drewN | apply below_drew1 | refine below_set ?_ GE618.out) | exact HB.out)⟩
                                          (try clear HO_99)
                                          (try clear HL617_1)
                                          (try clear BK618)
                                          (try clear HB)
                                          generalize ((w61.setCell ⟨gb618, 0, none⟩ (.int .u8 ((rd_T56 t612 x101_4).f0))).setCell ⟨gb618, 1, none⟩ (.slice A617_1 ((rd_T56 t612 x101_4).f1).length c617_1)) = w63 at n0_ n1_ n2_ n3_ ⊢
                                          have HO_99 := n0_
                                          have HL617_1 := n1_
                                          have BK618 := n2_
                                          have HB := n3_
                                          clear n0_ n1_ n2_ n3_
                                          have n0_ := Aside0.mk (Kd.S_drew HO_99.out)
                                          have n1_ := Aside0.mk (Kd.R_drew HL617_1.out)
                                          have n2_ := Aside0.mk (blk_drew BK618.out)
                                          have n3_ := Aside0.mk (below_drew1 HB.out)
                                          clear HO_99
                                          clear HL617_1
                                          clear BK618
                                          clear HB
                                          have HO_99 := n0_
                                          have HL617_1 := n1_
                                          have BK618 := n2_
                                          have HB := n3_
                                          clear n0_ n1_ n2_ n3_
                                          have p619 : 0 ≤ (x101_4 : Int) := of_decide_eq_true (by first | (with_reducible assumption) | assumption)
                                          have q619 : x101_4 < (l0.length : Int) := of_decide_eq_true (by first | (with_reducible assumption) | assumption)
                                          obtain ⟨ad619, A619_1, c619_1, e619, hx619_0, hx619_1, hl619_1, hi619_1⟩ := at_T56 HR0.out x101_4 p619 q619
                                          have hw619_1 := hx619_1
                                          have hw619_0 := hx619_0
                                          cases e619
                                          replace hx619_0 := (HB.out.cell (World.block_lt_of_cell? w _ hx619_0)).trans hx619_0
                                          replace hx619_1 := (HB.out.cell (World.block_lt_of_cell? w _ hx619_1)).trans hx619_1
                                          have HR619_1 := Aside0.mk hi619_1
                                          have HC619_1 := Aside0.mk hl619_1
                                          clear hi619_1 hl619_1
                                          replace p619 := eq_true p619
                                          replace q619 := eq_true q619
                                          refine start_ (n := 7) (S := fun w' => w'.cell? ⟨gb618, 0, none⟩ = some (.int .u8 ((rd_T56 t612 x101_4).f0)) ∧ w'.cell? ⟨gb618, 1, none⟩ = some (.slice A617_1 ((rd_T56 t612 x101_4).f1).length c617_1) ∧ w'.cell? (ad619.add ((x101_4).toNat * 2)) = some (.int .u8 ((rd_T56 l0 x101_4).f0)) ∧ w'.cell? ⟨(ad619.add ((x101_4).toNat * 2)).block, (ad619.add ((x101_4).toNat * 2)).off + 1, none⟩ = some (.slice A619_1 ((rd_T56 l0 x101_4).f1).length c619_1)) (ds := []) #[false, false, false, false, false, false, false] (by kernel_rfl) rfl rfl ⟨(blk_cell BK618.out 0).trans rfl, (blk_cell BK618.out 1).trans rfl, ((HB.out.cell (World.block_lt_of_cell? w _ hw619_0)).trans hw619_0), ((HB.out.cell (World.block_lt_of_cell? w _ hw619_1)).trans hw619_1)⟩ (fun hHeld => ?_)
                                          generalize w63.drew = w64 at HO_99 HL617_1 BK618 HB HR619_1 hx619_0 hx619_1 hHeld ⊢
                                          refine pure_ (i := 1) (N := some 107) (v := ?_) (a' := ?_) #[false, true, false, false, false, false, false] rfl rfl (by kernel_rfl) (fun _ _ _ h => h) (Or.inl ⟨by rfl, ?_⟩) ?_ ?_
                                          rotate_left
                                          · intro w'
                                            go_simp
                                            with_reducible rfl
                                          rotate_left
                                          · simp only [Act.put, List.setIfInBounds_toArray, List.set_cons_zero, List.set_cons_succ, i64_w, i32_w]
                                            rfl
                                          refine pure_ (i := 2) (N := some 108) (v := ?_) (a' := ?_) #[false, true, true, false, false, false, false] rfl rfl (by kernel_rfl) (fun _ _ _ h => h) (Or.inl ⟨by rfl, ?_⟩) ?_ ?_
                                          rotate_left
                                          · intro w'
                                            go_simp
                                            with_reducible rfl
                                          rotate_left
                                          · simp only [Act.put, List.setIfInBounds_toArray, List.set_cons_zero, List.set_cons_succ, i64_w, i32_w]
                                            rfl
                                          refine pure_ (i := 3) (N := some 109) (v := ?_) (a' := ?_) #[false, true, true, true, false, false, false] rfl rfl (by kernel_rfl) (fun _ _ _ h => h) (Or.inl ⟨by rfl, ?_⟩) ?_ ?_
                                          rotate_left
                                          · intro w'
                                            go_simp
                                            with_reducible rfl
                                          rotate_left
                                          · simp only [Act.put, List.setIfInBounds_toArray, List.set_cons_zero, List.set_cons_succ, i64_w, i32_w]
                                            rfl
                                          refine take_ (i := 0) (N := some 106) (v := ?_) (a' := ?_) #[true, true, true, true, false, false, false] rfl rfl (by kernel_rfl) (fun _ _ _ h => h) (Or.inl ⟨by rfl, ?_⟩) hHeld ?_ ?_
                                          rotate_left
                                          · rintro w' ⟨s0, s1, s2, s3⟩
                                            go_simp
                                            with_reducible rfl
                                          rotate_left
                                          · simp only [Act.put, List.setIfInBounds_toArray, List.set_cons_zero, List.set_cons_succ, i64_w, i32_w]
                                            rfl
                                          refine take_ (i := 4) (N := some 110) (v := ?_) (a' := ?_) #[true, true, true, true, true, false, false] rfl rfl (by kernel_rfl) (fun _ _ _ h => h) (Or.inl ⟨by rfl, ?_⟩) hHeld ?_ ?_
                                          rotate_left
                                          · rintro w' ⟨s0, s1, s2, s3⟩
                                            go_simp
                                            with_reducible rfl
                                          rotate_left
                                          · simp only [Act.put, List.setIfInBounds_toArray, List.set_cons_zero, List.set_cons_succ, i64_w, i32_w]
                                            rfl
                                          refine one_ (i := 5) (N := some 111) #[true, true, true, true, true, true, false] rfl rfl (by kernel_rfl) (by decide) (fun K hK => ?_)
                                          refine goes_ Try.func53 (by kernel_rfl) rfl #[.agg #[.int .u8 ((rd_T56 t612 x101_4).f0), .slice A617_1 ((rd_T56 t612 x101_4).f1).length c617_1], .agg #[.int .u8 ((rd_T56 l0 x101_4).f0), .slice A619_1 ((rd_T56 l0 x101_4).f1).length c619_1]] (by rfl) rfl rfl (by (try simp only [List.map_toArray, List.map_cons, List.map_nil]); first | done | rfl | (simp only [List.length_drop, List.length_take]; rfl)) ?_
                                          with_reducible refine (frame_Same.calls ((rd_T56 t612 x101_4).f0) _ _ ((rd_T56 t612 x101_4).f1) ((rd_T56 l0 x101_4).f0) _ _ ((rd_T56 l0 x101_4).f1) false _ ?side1 ?side2 ?side3 ?side4 A54.out).mono ?_
                                          (case side1 => repeat (first | exact ((Kd.R_reads' (by (with_reducible repeat (first | apply Kd.R_alloc | apply Kd.R_drewN | apply Kd.R_drew)); exact HL617_1.out)).2.2) | (with_reducible refine Kd.C_alloc ?_ _) | (with_reducible refine Kd.C_drewN ?_ _) | (with_reducible refine Kd.C_drew ?_)))
                                          (case side2 => exact HC617_1.out)
                                          (case side3 => repeat (first | exact (Kd.C_below HR619_1.out HB.out) | (with_reducible refine Kd.C_alloc ?_ _) | (with_reducible refine Kd.C_drewN ?_ _) | (with_reducible refine Kd.C_drew ?_)))
                                          (case side4 => exact HC619_1.out)
                                          rintro e w65 ⟨rfl, hb⟩
                                          refine ⟨_, rfl, ?_⟩
                                          have n0_ := Aside0.mk (Kd.S_below (by (with_reducible repeat (first | apply Kd.S_alloc | apply Kd.S_drewN | apply Kd.S_drew)); exact HO_99.out) hb)
                                          have n1_ := Aside0.mk (Kd.R_below (by (with_reducible repeat (first | apply Kd.R_alloc | apply Kd.R_drewN | apply Kd.R_drew)); exact HL617_1.out) hb)
                                          have n2_ := Aside0.mk (blk_below (g := gb618) (o := .cells #[.int .u8 ((rd_T56 t612 x101_4).f0), .slice A617_1 ((rd_T56 t612 x101_4).f1).length c617_1] 56 (0, 0)) (by (with_reducible repeat (first | refine blk_drewN ?_ _ | refine blk_drew ?_ | refine blk_alloc ?_ _)); exact BK618.out) hb)
                                          have n3_ := Aside0.mk (below_step (by repeat (first | (with_reducible first | exact HB.out | apply below_alloc | apply pw_below_drewN | apply below_drew1 | refine below_set ?_ GE618.out) | exact HB.out)) hb)
                                          clear HO_99
                                          clear HL617_1
                                          clear BK618
                                          clear HB
                                          have HO_99 := n0_
                                          have HL617_1 := n1_
                                          have BK618 := n2_
                                          have HB := n3_
                                          clear n0_ n1_ n2_ n3_
                                          (try clear hb)
                                          (try clear hb2)
                                          (try clear hk)
                                          (try clear hi)
                                          refine hK.out _ _ ⟨(blk_cell BK618.out 0).trans rfl, (blk_cell BK618.out 1).trans rfl, ((HB.out.cell (World.block_lt_of_cell? w _ hw619_0)).trans hw619_0), ((HB.out.cell (World.block_lt_of_cell? w _ hw619_1)).trans hw619_1)⟩ (fun hHeld => ?_)
                                          clear hK K
                                          refine norm_ (a' := ?_) ?_ ?_
                                          rotate_left
                                          · show Act.put _ (some 111) _ = _
                                            simp only [Act.put, List.setIfInBounds_toArray, List.set_cons_zero, List.set_cons_succ, i64_w, i32_w]
                                            rfl
                                          refine pure_ (i := 6) (N := some 112) (v := ?_) (a' := ?_) #[true, true, true, true, true, true, true] rfl rfl (by kernel_rfl) (fun _ _ _ h => h) (Or.inl ⟨by rfl, ?_⟩) ?_ ?_
                                          rotate_left
                                          · intro w'
                                            go_simp
                                            with_reducible rfl
                                          rotate_left
                                          · simp only [Act.put, List.setIfInBounds_toArray, List.set_cons_zero, List.set_cons_succ, i64_w, i32_w]
                                            rfl
                                          refine done_ (by kernel_rfl) ?_
                                          try go_wp2
                                          go_ret
                                          exact ⟨by first | rfl | (simp [errW_none, errW_some] <;> rfl) | (simp only [← hji25, ← hji26]; first | rfl | (simp [errW_none, errW_some] <;> rfl)) | (simp [*, errW_none, errW_some] <;> rfl), by repeat (first | (with_reducible first | exact HB.out | apply below_alloc | apply pw_below_drewN | apply below_drew1 | refine below_set ?_ GE618.out) | exact HB.out)⟩
                                      · rw [if_neg c53] at H
                                        exact absurd H (by simp)
                                    · rw [if_neg c52] at H
                                      exact absurd H (by simp)
                                  · rw [if_neg c51] at H
                                    exact absurd H (by simp)
                                · rw [if_neg c50] at H
                                  have c50b0 : decide (x101_4 < (t612.length : Int)) = false := decide_eq_false c50
                                  clear c50
                                  obtain rfl := Option.some.inj H
                                  go_wp2
                                  go_ret
                                  exact ⟨by first | rfl | (simp [errW_none, errW_some] <;> rfl) | (simp only [← hji25, ← hji26]; first | rfl | (simp [errW_none, errW_some] <;> rfl)) | (simp [*, errW_none, errW_some] <;> rfl), by repeat (first | (with_reducible first | exact HB.out | apply below_alloc | apply pw_below_drewN | apply below_drew1) | exact HB.out)⟩
                    · rw [if_neg c34] at H
                      exact absurd H (by simp)
                  · rw [if_neg c33] at H
                    exact absurd H (by simp)
  · replace c4 := Bool.eq_false_iff.mpr c4
    subst c4
    have H1 : (some false) = some r := by rw [if_neg (show ¬ (false = true) by decide)] at H; exact H
    clear H
    have H := H1
    clear H1
    obtain rfl := Option.some.inj H
    go_enter Try.func13, Try.ntmps13
    go_wp2_with (first | ((with_reducible refine gate_callee (f := 44) rfl ?_); refine goesL_ (some 20) rfl rfl Try.func44 (by kernel_rfl) rfl #[] rfl (by (try simp only [List.map_toArray, List.map_cons, List.map_nil]); first | done | rfl | (simp only [List.length_drop, List.length_take]; rfl)) ?_; (with_reducible refine (tumbrellaw04_awake.calls  false _ A3.out).mono ?_); rintro e w66 ⟨rfl, hb⟩; refine ⟨_, rfl, ?_⟩; have n0_ := Aside0.mk (below_step (by repeat (first | (with_reducible first | exact HB.out | apply below_alloc | apply pw_below_drewN | apply below_drew1) | exact HB.out)) hb); clear HB; have HB := n0_; clear n0_; (try clear hb); (try clear hb2); (try clear hk); (try clear hi)))
    go_ret
    exact ⟨by first | rfl | (simp [errW_none, errW_some] <;> rfl) | (simp [*, errW_none, errW_some] <;> rfl), by repeat (first | (with_reducible first | exact HB.out | apply below_alloc | apply pw_below_drewN | apply below_drew1) | exact HB.out)⟩

end Go.Proofs.Ytojepleodijdeaa.B
