-- Printed by a program of this session.
import Derived.Test.YtojepleodijdeaaB0
import Derived.Test.YtojepleodijdeaaB4
import Derived.Test.YtojepleodijdeaaB13
import Derived.Test.YtojepleodijdeaaGAwake4
namespace Go.Proofs.Ytojepleodijdeaa.B
open Go.RowKit Go.Proofs.YtojepleodijdeaaW.PrintWords Go.Proofs.YtojepleodijdeaaW.PrintLast Go.Proofs.YtojepleodijdeaaW.PrintMore
attribute [local go_sem] max2_int min2_int max_two min_two max_three min_three max_four min_four   -- for this text's walks alone
set_option linter.unusedVariables false
set_option linter.unusedSimpArgs false

/-! ### tumbrellaw04_FrameJoins: function 15 -/
mutual
def tumbrellaw04_FrameJoins.j0 : Nat → List Int → List Int → Bool → Option (Bool)
  | 0, _, _, _ => none
  | k + 1, x0, x1, x25 => if x25 = true then (some true) else ((frame_All.f k x0).bind fun bt649 => ((frame_All.f k x1).bind fun bt654 => (if bt649.2.2 = 0 then ((some (([] : List Int) : List Int)).bind fun y659 => (if y659.length + x0.length < 140737488355328 then ((some (y659 ++ x0 : List Int)).bind fun y662 => (if y662.length + x1.length < 140737488355328 then ((frame_All.f k (y662 ++ x1)).bind fun bt668 => (if bt668.2.2 = bt654.2.2 then (if bt668.2.1 = (wrap64 ((x0.length : Int) + bt654.2.1)) then (if bt649.2.1 = (x0.length : Int) then (tumbrellaw04_FrameJoins.j1 k bt649.1 bt654.1 bt668.1 ((bt668.1.length : Int) != (wrap64 ((bt649.1.length : Int) + (bt654.1.length : Int))))) else (tumbrellaw04_FrameJoins.j1 k bt649.1 bt654.1 bt668.1 true)) else (tumbrellaw04_FrameJoins.j1 k bt649.1 bt654.1 bt668.1 true)) else (tumbrellaw04_FrameJoins.j1 k bt649.1 bt654.1 bt668.1 true))) else (none))) else (none))) else (some (decide (bt649.2.1 < (x0.length : Int)))))))
def tumbrellaw04_FrameJoins.j1 : Nat → List (S56) → List (S56) → List (S56) → Bool → Option (Bool)
  | 0, _, _, _, _ => none
  | k + 1, x5, x8, x11, x80 => if x80 = true then (some false) else ((some (([] : List (S56)) : List (S56))).bind fun y673 => (if y673.length + x5.length < 4398046511104 then ((some (y673 ++ x5 : List (S56))).bind fun y676 => (if y676.length + x8.length < 4398046511104 then ((some (y676 ++ x8 : List (S56))).bind fun y679 => (tumbrellaw04_FrameJoins.l0 k x11 y679 (y679.length : Int) 0)) else (none))) else (none)))
def tumbrellaw04_FrameJoins.l0 : Nat → List (S56) → List (S56) → Int → Int → Option (Bool)
  | 0, _, _, _, _ => none
  | k + 1, x11, x85, x86, x87 => if x87 < x86 then (if 0 ≤ x87 then (if x87 < (x85.length : Int) then (if x87 < (x11.length : Int) then ((frame_Same.f ((rd_T56 x11 x87).f0) ((rd_T56 x11 x87).f1) ((rd_T56 x85 x87).f0) ((rd_T56 x85 x87).f1)).bind fun t685 => (if t685 = true then (tumbrellaw04_FrameJoins.l0 k x11 x85 x86 (wrap64 (x87 + 1))) else (some false))) else (none)) else (none)) else (none)) else (some true)
end
def tumbrellaw04_FrameJoins.f (k : Nat) (l0 : List Int) (l1 : List Int) : Option (Bool) := (tumbrellaw04_awake.f).bind fun t648 => (if t648 = true then (if (l0.length : Int) > 1200 then (tumbrellaw04_FrameJoins.j0 k l0 l1 true) else (tumbrellaw04_FrameJoins.j0 k l0 l1 (decide ((l1.length : Int) > 1200)))) else (some false))
theorem tumbrellaw04_FrameJoins.mono_l : ∀ k, (∀ y0 y1 y2, LeO (tumbrellaw04_FrameJoins.j0 k y0 y1 y2) (tumbrellaw04_FrameJoins.j0 (k + 1) y0 y1 y2)) ∧ (∀ y0 y1 y2 y3, LeO (tumbrellaw04_FrameJoins.j1 k y0 y1 y2 y3) (tumbrellaw04_FrameJoins.j1 (k + 1) y0 y1 y2 y3)) ∧ (∀ y0 y1 y2 y3, LeO (tumbrellaw04_FrameJoins.l0 k y0 y1 y2 y3) (tumbrellaw04_FrameJoins.l0 (k + 1) y0 y1 y2 y3))
  | 0 => ⟨fun _ _ _ r h => by simp [tumbrellaw04_FrameJoins.j0] at h, fun _ _ _ _ r h => by simp [tumbrellaw04_FrameJoins.j1] at h, fun _ _ _ _ r h => by simp [tumbrellaw04_FrameJoins.l0] at h⟩
  | k + 1 => by
    obtain ⟨ih0, ih1, ih2⟩ := tumbrellaw04_FrameJoins.mono_l k
    refine ⟨?_, ?_, ?_⟩
    · intro y0 y1 y2
      unfold tumbrellaw04_FrameJoins.j0
      repeat' first
      | (with_reducible exact ih0 _ _ _)
      | (with_reducible exact ih1 _ _ _ _)
      | (with_reducible exact ih2 _ _ _ _)
      | (with_reducible exact frame_All.mono _ _)
      | (with_reducible exact LeO.refl _)
      | (with_reducible exact LeO.none _)
      | (with_reducible refine LeO.ite ?_ ?_)
      | (with_reducible refine LeO.bind ?_ (fun _ => ?_))
      | exact ih0 _ _ _
      | exact ih1 _ _ _ _
      | exact ih2 _ _ _ _
      | exact frame_All.mono _ _
      | exact LeO.none _
      | refine LeO.ite ?_ ?_
      | refine LeO.bind ?_ (fun _ => ?_)
    · intro y0 y1 y2 y3
      unfold tumbrellaw04_FrameJoins.j1
      repeat' first
      | (with_reducible exact ih0 _ _ _)
      | (with_reducible exact ih1 _ _ _ _)
      | (with_reducible exact ih2 _ _ _ _)
      | (with_reducible exact frame_All.mono _ _)
      | (with_reducible exact LeO.refl _)
      | (with_reducible exact LeO.none _)
      | (with_reducible refine LeO.ite ?_ ?_)
      | (with_reducible refine LeO.bind ?_ (fun _ => ?_))
      | exact ih0 _ _ _
      | exact ih1 _ _ _ _
      | exact ih2 _ _ _ _
      | exact frame_All.mono _ _
      | exact LeO.none _
      | refine LeO.ite ?_ ?_
      | refine LeO.bind ?_ (fun _ => ?_)
    · intro y0 y1 y2 y3
      unfold tumbrellaw04_FrameJoins.l0
      repeat' first
      | (with_reducible exact ih0 _ _ _)
      | (with_reducible exact ih1 _ _ _ _)
      | (with_reducible exact ih2 _ _ _ _)
      | (with_reducible exact frame_All.mono _ _)
      | (with_reducible exact LeO.refl _)
      | (with_reducible exact LeO.none _)
      | (with_reducible refine LeO.ite ?_ ?_)
      | (with_reducible refine LeO.bind ?_ (fun _ => ?_))
      | exact ih0 _ _ _
      | exact ih1 _ _ _ _
      | exact ih2 _ _ _ _
      | exact frame_All.mono _ _
      | exact LeO.none _
      | refine LeO.ite ?_ ?_
      | refine LeO.bind ?_ (fun _ => ?_)
theorem tumbrellaw04_FrameJoins.mono : ∀ a0 a1 k, LeO (tumbrellaw04_FrameJoins.f k a0 a1) (tumbrellaw04_FrameJoins.f (k + 1) a0 a1) := by
  intro a0 a1 k
  obtain ⟨ih0, ih1, ih2⟩ := tumbrellaw04_FrameJoins.mono_l k
  unfold tumbrellaw04_FrameJoins.f
  repeat' first
      | (with_reducible exact ih0 _ _ _)
      | (with_reducible exact ih1 _ _ _ _)
      | (with_reducible exact ih2 _ _ _ _)
      | (with_reducible exact frame_All.mono _ _)
      | (with_reducible exact LeO.refl _)
      | (with_reducible exact LeO.none _)
      | (with_reducible refine LeO.ite ?_ ?_)
      | (with_reducible refine LeO.bind ?_ (fun _ => ?_))
      | exact ih0 _ _ _
      | exact ih1 _ _ _ _
      | exact ih2 _ _ _ _
      | exact frame_All.mono _ _
      | exact LeO.none _
      | refine LeO.ite ?_ ?_
      | refine LeO.bind ?_ (fun _ => ?_)
set_option maxHeartbeats 8000000 in
set_option maxRecDepth 100000 in
theorem tumbrellaw04_FrameJoins.calls (k : Nat) (A0 : Option Addr) (c0 : Nat) (l0 : List Int) (A1 : Option Addr) (c1 : Nat) (l1 : List Int) (r : Bool) (w : World) (hr0 : Kd.C (Kd.int .u8) w A0 l0.length l0) (hc0 : l0.length ≤ c0) (hr1 : Kd.C (Kd.int .u8) w A1 l1.length l1) (hc1 : l1.length ≤ c1) (h : tumbrellaw04_FrameJoins.f k l0 l1 = some r) :
    Calls Try.prog 15 #[.slice A0 l0.length c0, .slice A1 l1.length c1] w fun e w' => e = .returned (.bool r) ∧ Below w.heap.size w w' := by
  have hu56 := Try.underlying56
  have HR0 := Aside0.mk hr0
  have HC0 := Aside0.mk hc0
  clear hr0 hc0
  have HR1 := Aside0.mk hr1
  have HC1 := Aside0.mk hc1
  clear hr1 hc1
  have HB := Aside0.mk (Below.refl w.heap.size w)
  have H : ((tumbrellaw04_awake.f).bind fun t648 => (if t648 = true then (if (l0.length : Int) > 1200 then (tumbrellaw04_FrameJoins.j0 k l0 l1 true) else (tumbrellaw04_FrameJoins.j0 k l0 l1 (decide ((l1.length : Int) > 1200)))) else (some false))) = some r := h
  clear h
  replace H := Option.bind_eq_some_iff.mp H
  obtain ⟨t648, A30, H⟩ := H
  replace H : (if t648 = true then (if (l0.length : Int) > 1200 then (tumbrellaw04_FrameJoins.j0 k l0 l1 true) else (tumbrellaw04_FrameJoins.j0 k l0 l1 (decide ((l1.length : Int) > 1200)))) else (some false)) = some r := H
  have A3 := Aside0.mk A30
  clear A30
  by_cases c4 : t648 = true
  · subst c4
    have H1 : (if (l0.length : Int) > 1200 then (tumbrellaw04_FrameJoins.j0 k l0 l1 true) else (tumbrellaw04_FrameJoins.j0 k l0 l1 (decide ((l1.length : Int) > 1200)))) = some r := by rw [if_pos rfl] at H; exact H
    clear H
    have H := H1
    clear H1
    have HC5 := Aside0.mk H
    clear H
    go_enter Try.func15, Try.ntmps15
    go_upto_region 3 with (first | ((with_reducible refine gate_callee (f := 44) rfl ?_); refine goesL_ (some 16) rfl rfl Try.func44 (by kernel_rfl) rfl #[] rfl (by (try simp only [List.map_toArray, List.map_cons, List.map_nil]); first | done | rfl | (simp only [List.length_drop, List.length_take]; rfl)) ?_; (with_reducible refine (tumbrellaw04_awake.calls  true _ A3.out).mono ?_); rintro e w6 ⟨rfl, hb⟩; refine ⟨_, rfl, ?_⟩; have n0_ := Aside0.mk (below_step (by repeat (first | (with_reducible first | exact HB.out | apply below_alloc | apply pw_below_drewN | apply below_drew1) | exact HB.out)) hb); clear HB; have HB := n0_; clear n0_; (try clear hb); (try clear hb2); (try clear hk); (try clear hi)))
    (try simp only [Act.put, List.setIfInBounds_toArray, List.set_cons_zero, List.set_cons_succ])
    go_cut [25] (fun v25 wc => ∃ (kq : Nat) (x25_4 : Bool), v25 = .bool x25_4 ∧ Aside0 (tumbrellaw04_FrameJoins.j0 kq l0 l1 x25_4 = some r) ∧ Aside0 (kq ≤ k) ∧ Aside0 (Below w.heap.size w wc))
    case first =>
      have H := HC5.out
      clear HC5
      by_cases c7 : (l0.length : Int) > 1200
      · rw [if_pos c7] at H
        have c7b0 : decide (1200 < (l0.length : Int)) = true := decide_eq_true c7
        have c7b1 : decide (1200 < l0.length) = true := decide_eq_true (by omega)
        clear c7
        (first | rw [c7b0] | (simp only [i64_w, i32_w]; rw [c7b0]) | skip)
        have H' := Aside0.mk H
        clear H
        go_wp2
        go_meet
        case rel => exact ⟨_, (true), (by first | rfl | (simp; done) | (simp [*]; done)), H', ⟨by first | omega | exact Nat.le_refl _⟩, ⟨by repeat (first | (with_reducible first | exact HB.out | apply below_alloc | apply pw_below_drewN | apply below_drew1) | exact HB.out)⟩⟩
      · rw [if_neg c7] at H
        have c7b0 : decide (1200 < (l0.length : Int)) = false := decide_eq_false c7
        have c7b1 : decide (1200 < l0.length) = false := decide_eq_false (by omega)
        clear c7
        (first | rw [c7b0] | (simp only [i64_w, i32_w]; rw [c7b0]) | skip)
        have H' := Aside0.mk H
        clear H
        go_wp2
        go_meet
        case rel => exact ⟨_, (decide ((l1.length : Int) > 1200)), (by first | rfl | (simp; done) | (simp [*]; done)), H', ⟨by first | omega | exact Nat.le_refl _⟩, ⟨by repeat (first | (with_reducible first | exact HB.out | apply below_alloc | apply pw_below_drewN | apply below_drew1) | exact HB.out)⟩⟩
    case rest =>
      clear HC5
      try clear c1
      try clear p2
      try clear c4
      try clear c7
      try clear c7b0
      try clear c7b1
      obtain ⟨kq, x25_4, rfl, HA, HJ4, HB⟩ := hcut
      cases kq with
      | zero => exact absurd HA.out (by simp [tumbrellaw04_FrameJoins.j0])
      | succ kj4 =>
        have H := HA.out
        clear HA
        simp only [tumbrellaw04_FrameJoins.j0] at H
        by_cases c8 : x25_4 = true
        · subst c8
          have H1 : (some true) = some r := by rw [if_pos rfl] at H; exact H
          clear H
          have H := H1
          clear H1
          obtain rfl := Option.some.inj H
          go_wp2
          go_ret
          exact ⟨by first | rfl | (simp [errW_none, errW_some] <;> rfl) | (simp [*, errW_none, errW_some] <;> rfl), by repeat (first | (with_reducible first | exact HB.out | apply below_alloc | apply pw_below_drewN | apply below_drew1) | exact HB.out)⟩
        · replace c8 := Bool.eq_false_iff.mpr c8
          subst c8
          have H1 : ((frame_All.f kj4 l0).bind fun bt649 => ((frame_All.f kj4 l1).bind fun bt654 => (if bt649.2.2 = 0 then ((some (([] : List Int) : List Int)).bind fun y659 => (if y659.length + l0.length < 140737488355328 then ((some (y659 ++ l0 : List Int)).bind fun y662 => (if y662.length + l1.length < 140737488355328 then ((frame_All.f kj4 (y662 ++ l1)).bind fun bt668 => (if bt668.2.2 = bt654.2.2 then (if bt668.2.1 = (wrap64 ((l0.length : Int) + bt654.2.1)) then (if bt649.2.1 = (l0.length : Int) then (tumbrellaw04_FrameJoins.j1 kj4 bt649.1 bt654.1 bt668.1 ((bt668.1.length : Int) != (wrap64 ((bt649.1.length : Int) + (bt654.1.length : Int))))) else (tumbrellaw04_FrameJoins.j1 kj4 bt649.1 bt654.1 bt668.1 true)) else (tumbrellaw04_FrameJoins.j1 kj4 bt649.1 bt654.1 bt668.1 true)) else (tumbrellaw04_FrameJoins.j1 kj4 bt649.1 bt654.1 bt668.1 true))) else (none))) else (none))) else (some (decide (bt649.2.1 < (l0.length : Int))))))) = some r := by rw [if_neg (show ¬ (false = true) by decide)] at H; exact H
          clear H
          have H := H1
          clear H1
          replace H := Option.bind_eq_some_iff.mp H
          obtain ⟨⟨t649, t650, t651⟩, A90, H⟩ := H
          replace H : ((frame_All.f kj4 l1).bind fun bt654 => (if t651 = 0 then ((some (([] : List Int) : List Int)).bind fun y659 => (if y659.length + l0.length < 140737488355328 then ((some (y659 ++ l0 : List Int)).bind fun y662 => (if y662.length + l1.length < 140737488355328 then ((frame_All.f kj4 (y662 ++ l1)).bind fun bt668 => (if bt668.2.2 = bt654.2.2 then (if bt668.2.1 = (wrap64 ((l0.length : Int) + bt654.2.1)) then (if t650 = (l0.length : Int) then (tumbrellaw04_FrameJoins.j1 kj4 t649 bt654.1 bt668.1 ((bt668.1.length : Int) != (wrap64 ((t649.length : Int) + (bt654.1.length : Int))))) else (tumbrellaw04_FrameJoins.j1 kj4 t649 bt654.1 bt668.1 true)) else (tumbrellaw04_FrameJoins.j1 kj4 t649 bt654.1 bt668.1 true)) else (tumbrellaw04_FrameJoins.j1 kj4 t649 bt654.1 bt668.1 true))) else (none))) else (none))) else (some (decide (t650 < (l0.length : Int)))))) = some r := H
          have A9 := Aside0.mk A90
          clear A90
          replace H := Option.bind_eq_some_iff.mp H
          obtain ⟨⟨t654, t655, t656⟩, A100, H⟩ := H
          replace H : (if t651 = 0 then ((some (([] : List Int) : List Int)).bind fun y659 => (if y659.length + l0.length < 140737488355328 then ((some (y659 ++ l0 : List Int)).bind fun y662 => (if y662.length + l1.length < 140737488355328 then ((frame_All.f kj4 (y662 ++ l1)).bind fun bt668 => (if bt668.2.2 = t656 then (if bt668.2.1 = (wrap64 ((l0.length : Int) + t655)) then (if t650 = (l0.length : Int) then (tumbrellaw04_FrameJoins.j1 kj4 t649 t654 bt668.1 ((bt668.1.length : Int) != (wrap64 ((t649.length : Int) + (t654.length : Int))))) else (tumbrellaw04_FrameJoins.j1 kj4 t649 t654 bt668.1 true)) else (tumbrellaw04_FrameJoins.j1 kj4 t649 t654 bt668.1 true)) else (tumbrellaw04_FrameJoins.j1 kj4 t649 t654 bt668.1 true))) else (none))) else (none))) else (some (decide (t650 < (l0.length : Int))))) = some r := H
          have A10 := Aside0.mk A100
          clear A100
          by_cases c11 : t651 = 0
          · rw [if_pos c11] at H
            have c11b0 : (t651 == 0) = true := beq_iff_eq.mpr c11
            have c11b1 : (t651 != 0) = false := bne_eq_false_iff_eq.mpr c11
            clear c11
            obtain ⟨y659, hy659⟩ : ∃ y_ : List Int, y_ = (([] : List Int)) := ⟨_, rfl⟩
            replace H : (if y659.length + l0.length < 140737488355328 then ((some (y659 ++ l0 : List Int)).bind fun y662 => (if y662.length + l1.length < 140737488355328 then ((frame_All.f kj4 (y662 ++ l1)).bind fun bt668 => (if bt668.2.2 = t656 then (if bt668.2.1 = (wrap64 ((l0.length : Int) + t655)) then (if t650 = (l0.length : Int) then (tumbrellaw04_FrameJoins.j1 kj4 t649 t654 bt668.1 ((bt668.1.length : Int) != (wrap64 ((t649.length : Int) + (t654.length : Int))))) else (tumbrellaw04_FrameJoins.j1 kj4 t649 t654 bt668.1 true)) else (tumbrellaw04_FrameJoins.j1 kj4 t649 t654 bt668.1 true)) else (tumbrellaw04_FrameJoins.j1 kj4 t649 t654 bt668.1 true))) else (none))) else (none)) = some r := by first | (rw [hy659]; with_reducible exact H) | (have H2_ := (Option.bind_some _ _).symm.trans H; rw [hy659]; with_reducible exact H2_) | (have H2_ := (Option.bind_some _ _).symm.trans H; with_reducible exact H2_) | with_reducible exact H | (rw [hy659]; exact H) | exact H
            have Ny659 := Aside0.mk hy659
            clear hy659
            by_cases c12 : y659.length + l0.length < 140737488355328
            · rw [if_pos c12] at H
              have LMc12 := Aside0.mk c12
              clear c12
              obtain ⟨y662, hy662⟩ : ∃ y_ : List Int, y_ = (y659 ++ l0) := ⟨_, rfl⟩
              replace H : (if y662.length + l1.length < 140737488355328 then ((frame_All.f kj4 (y662 ++ l1)).bind fun bt668 => (if bt668.2.2 = t656 then (if bt668.2.1 = (wrap64 ((l0.length : Int) + t655)) then (if t650 = (l0.length : Int) then (tumbrellaw04_FrameJoins.j1 kj4 t649 t654 bt668.1 ((bt668.1.length : Int) != (wrap64 ((t649.length : Int) + (t654.length : Int))))) else (tumbrellaw04_FrameJoins.j1 kj4 t649 t654 bt668.1 true)) else (tumbrellaw04_FrameJoins.j1 kj4 t649 t654 bt668.1 true)) else (tumbrellaw04_FrameJoins.j1 kj4 t649 t654 bt668.1 true))) else (none)) = some r := by first | (rw [hy662]; with_reducible exact H) | (have H2_ := (Option.bind_some _ _).symm.trans H; rw [hy662]; with_reducible exact H2_) | (have H2_ := (Option.bind_some _ _).symm.trans H; with_reducible exact H2_) | with_reducible exact H | (rw [hy662]; exact H) | exact H
              have Ny662 := Aside0.mk hy662
              clear hy662
              by_cases c13 : y662.length + l1.length < 140737488355328
              · rw [if_pos c13] at H
                have LMc13 := Aside0.mk c13
                clear c13
                obtain ⟨y665, hy665⟩ : ∃ y_ : List Int, y_ = (y662 ++ l1) := ⟨_, rfl⟩
                replace H : ((frame_All.f kj4 y665).bind fun bt668 => (if bt668.2.2 = t656 then (if bt668.2.1 = (wrap64 ((l0.length : Int) + t655)) then (if t650 = (l0.length : Int) then (tumbrellaw04_FrameJoins.j1 kj4 t649 t654 bt668.1 ((bt668.1.length : Int) != (wrap64 ((t649.length : Int) + (t654.length : Int))))) else (tumbrellaw04_FrameJoins.j1 kj4 t649 t654 bt668.1 true)) else (tumbrellaw04_FrameJoins.j1 kj4 t649 t654 bt668.1 true)) else (tumbrellaw04_FrameJoins.j1 kj4 t649 t654 bt668.1 true))) = some r := by first | (rw [hy665]; with_reducible exact H) | (have H2_ := (Option.bind_some _ _).symm.trans H; rw [hy665]; with_reducible exact H2_) | (have H2_ := (Option.bind_some _ _).symm.trans H; with_reducible exact H2_) | with_reducible exact H | (rw [hy665]; exact H) | exact H
                have Ny665 := Aside0.mk hy665
                clear hy665
                replace H := Option.bind_eq_some_iff.mp H
                obtain ⟨⟨t668, t669, t670⟩, A140, H⟩ := H
                replace H : (if t670 = t656 then (if t669 = (wrap64 ((l0.length : Int) + t655)) then (if t650 = (l0.length : Int) then (tumbrellaw04_FrameJoins.j1 kj4 t649 t654 t668 ((t668.length : Int) != (wrap64 ((t649.length : Int) + (t654.length : Int))))) else (tumbrellaw04_FrameJoins.j1 kj4 t649 t654 t668 true)) else (tumbrellaw04_FrameJoins.j1 kj4 t649 t654 t668 true)) else (tumbrellaw04_FrameJoins.j1 kj4 t649 t654 t668 true)) = some r := H
                have A14 := Aside0.mk A140
                clear A140
                have HC15 := Aside0.mk H
                clear H
                go_upto_region 10 with (first | ((with_reducible refine gate_callee (f := 49) rfl ?_); refine goesL_ (some 28) rfl rfl Try.func49 (by kernel_rfl) rfl #[.slice A0 l0.length c0] rfl (by (try simp only [List.map_toArray, List.map_cons, List.map_nil]); first | done | rfl | (simp only [List.length_drop, List.length_take]; rfl)) ?_; (with_reducible refine (frame_All.calls kj4 _ _ l0 t649 t650 t651 _ ?side1 ?side2 A9.out).mono ?_); (case side1 => repeat (first | exact (Kd.C_below HR0.out HB.out) | (with_reducible refine Kd.C_alloc ?_ _) | (with_reducible refine Kd.C_drewN ?_ _) | (with_reducible refine Kd.C_drew ?_))); (case side2 => exact HC0.out); rintro e w16 ⟨v652, rfl, ho0, hb⟩; refine ⟨_, rfl, ?_⟩; have n0_ := Aside0.mk (Kd.N_lower (Kd.N_mono (ok' := fun k_ => True) (Kd.S_N (Kd.S_bound ho0)) (fun k_ hk_ => trivial)) (below_size (by repeat (first | (with_reducible first | exact HB.out | apply below_alloc | apply pw_below_drewN | apply below_drew1) | exact HB.out)))); have n1_ := Aside0.mk (below_step (by repeat (first | (with_reducible first | exact HB.out | apply below_alloc | apply pw_below_drewN | apply below_drew1) | exact HB.out)) hb); clear HB; have HO653 := n0_; have HB := n1_; clear n0_ n1_; (try clear hb); (try clear hb2); (try clear hk); (try clear hi); (try clear ho0)) | ((with_reducible refine gate_callee (f := 49) rfl ?_); refine goesL_ (some 34) rfl rfl Try.func49 (by kernel_rfl) rfl #[.slice A1 l1.length c1] rfl (by (try simp only [List.map_toArray, List.map_cons, List.map_nil]); first | done | rfl | (simp only [List.length_drop, List.length_take]; rfl)) ?_; (with_reducible refine (frame_All.calls kj4 _ _ l1 t654 t655 t656 _ ?side1 ?side2 A10.out).mono ?_); (case side1 => repeat (first | exact (Kd.C_below HR1.out HB.out) | (with_reducible refine Kd.C_alloc ?_ _) | (with_reducible refine Kd.C_drewN ?_ _) | (with_reducible refine Kd.C_drew ?_))); (case side2 => exact HC1.out); rintro e w17 ⟨v657, rfl, ho0, hb⟩; refine ⟨_, rfl, ?_⟩; have n0_ := Aside0.mk (Kd.N_elder' (by (with_reducible repeat (first | apply Kd.N_alloc | apply Kd.N_drewN | apply Kd.N_drew)); exact HO653.out) (Kd.N_base (Kd.S_N ho0)) hb); have n1_ := Aside0.mk (Kd.N_lower (Kd.N_mono (ok' := fun k_ => some k_ ≠ (v652 : Value).ownBlock) (Kd.S_N (Kd.S_bound ho0)) (fun k_ hk_ => (Kd.fresh' (Kd.N_lt (by (with_reducible repeat (first | apply Kd.N_alloc | apply Kd.N_drewN | apply Kd.N_drew)); exact HO653.out)) k_ hk_.2.1))) (below_size (by repeat (first | (with_reducible first | exact HB.out | apply below_alloc | apply pw_below_drewN | apply below_drew1) | exact HB.out)))); have n2_ := Aside0.mk (below_step (by repeat (first | (with_reducible first | exact HB.out | apply below_alloc | apply pw_below_drewN | apply below_drew1) | exact HB.out)) hb); clear HO653; clear HB; have HO653 := n0_; have HO658 := n1_; have HB := n2_; clear n0_ n1_ n2_; (try clear hb); (try clear hb2); (try clear hk); (try clear hi); (try clear ho0)) | ((with_reducible refine gate_dst (N := 45) rfl ?_); (try (refine gate_guard (by rfl) ?_; dsimp only)); refine Kd.R_lit (Kd.int .u8) _ 5 ?hg (N := 45) ?hd (xs := ([] : List Int)) (inner := []) (ok := fun _ => True) (okp := fun _ => True) ?hr ?hp (fun _ hk => hk) trivial (Below.refl _ _) (Nat.le_refl _) (by simp) ?_; (case hd => rfl); (case hg => rfl); (case hr => first | (go_simp; done) | (go_simp; rfl)); (case hp => exact (Reps.none _ _)); intro v660 w18 ho19 hb hg_ hnew_; clear hg_ hnew_; (first | rw [← Ny659.out] at ho19 | (simp only [Int.reduceToNat] at ho19; rw [← Ny659.out] at ho19)); have n0_ := Aside0.mk (Kd.N_elder' (by (with_reducible repeat (first | apply Kd.N_alloc | apply Kd.N_drewN | apply Kd.N_drew)); exact HO653.out) (Kd.R_base ho19) hb); have n1_ := Aside0.mk (Kd.N_elder' (by (with_reducible repeat (first | apply Kd.N_alloc | apply Kd.N_drewN | apply Kd.N_drew)); exact HO658.out) (Kd.R_base ho19) hb); have n2_ := Aside0.mk (Kd.R_lower ho19 (below_size (by repeat (first | (with_reducible first | exact HB.out | apply below_alloc | apply pw_below_drewN | apply below_drew1) | exact HB.out)))); have n3_ := Aside0.mk (below_step (by repeat (first | (with_reducible first | exact HB.out | apply below_alloc | apply pw_below_drewN | apply below_drew1) | exact HB.out)) hb); clear HO653; clear HO658; clear HB; have HO653 := n0_; have HO658 := n1_; have HO661 := n2_; have HB := n3_; clear n0_ n1_ n2_ n3_; clear hb ho19) | ((with_reducible refine gate_builtin (b := .append) (xs := #[.tmp 45, .tmp 46]) rfl ?_); (try (refine gate_guard (by rfl) ?_; dsimp only)); at_builtin; refine Kd.R_append_rows (Kd.int .u8) (w0 := w) w.heap.size rfl (.tmp 45) (.tmp 46) 23 5 (.int .u8 0) 1 rfl Try.underlying23 info5 rfl (by decide) (by omega) v660 y659 l0 _ _ _ (fun _ => True) (fun _ => False) rfl rfl ?aO ?aR (fun _ _ h => h) (fun _ h => h.elim) ?aF ?aB ?aS ?aL ?_; (case aR => repeat (first | exact (Kd.C_below HR0.out HB.out) | (with_reducible refine Kd.C_alloc ?_ _) | (with_reducible refine Kd.C_drewN ?_ _) | (with_reducible refine Kd.C_drew ?_))); (case aB => exact (by repeat (first | (with_reducible first | exact HB.out | apply below_alloc | apply pw_below_drewN | apply below_drew1) | exact HB.out))); (case aF => exact (fun _ _ => trivial)); (case aO => exact (by (with_reducible repeat (first | apply Kd.R_alloc | apply Kd.R_drewN | apply Kd.R_drew)); exact HO661.out)); (case aS => exact (below_size (by repeat (first | (with_reducible first | exact HB.out | apply below_alloc | apply pw_below_drewN | apply below_drew1) | exact HB.out)))); (case aL => have := LMc12.out; omega); intro v663 w20 ho hb hg hat; rw [← Ny662.out] at ho; have n0_ := Aside0.mk (Kd.N_afterv (ok := (fun k_ => some k_ ≠ (v657 : Value).ownBlock)) (by (with_reducible repeat (first | apply Kd.N_alloc | apply Kd.N_drewN | apply Kd.N_drew)); exact Kd.N_mono HO653.out (fun _ hk => ⟨hk.1.2, hk.2⟩)) hg hat); have n1_ := Aside0.mk (Kd.N_afterv (ok := (fun k_ => some k_ ≠ (v652 : Value).ownBlock)) (by (with_reducible repeat (first | apply Kd.N_alloc | apply Kd.N_drewN | apply Kd.N_drew)); exact HO658.out) hg hat); have n2_ := Aside0.mk (hb); have n3_ := Aside0.mk (ho); clear HO653; clear HO658; clear HB; clear HO661; have HO653 := n0_; have HO658 := n1_; have HB := n2_; have HO664 := n3_; clear n0_ n1_ n2_ n3_; clear ho hb hg hat) | ((with_reducible refine gate_builtin (b := .append) (xs := #[.tmp 47, .tmp 48]) rfl ?_); (try (refine gate_guard (by rfl) ?_; dsimp only)); at_builtin; refine Kd.R_append_rows (Kd.int .u8) (w0 := w) w.heap.size rfl (.tmp 47) (.tmp 48) 23 5 (.int .u8 0) 1 rfl Try.underlying23 info5 rfl (by decide) (by omega) v663 y662 l1 _ _ _ (fun _ => True) (fun _ => False) rfl rfl ?aO ?aR (fun _ _ h => h) (fun _ h => h.elim) ?aF ?aB ?aS ?aL ?_; (case aR => repeat (first | exact (Kd.C_below HR1.out HB.out) | (with_reducible refine Kd.C_alloc ?_ _) | (with_reducible refine Kd.C_drewN ?_ _) | (with_reducible refine Kd.C_drew ?_))); (case aB => exact (by repeat (first | (with_reducible first | exact HB.out | apply below_alloc | apply pw_below_drewN | apply below_drew1) | exact HB.out))); (case aF => exact (fun _ _ => trivial)); (case aO => exact (by (with_reducible repeat (first | apply Kd.R_alloc | apply Kd.R_drewN | apply Kd.R_drew)); exact HO664.out)); (case aS => exact (below_size (by repeat (first | (with_reducible first | exact HB.out | apply below_alloc | apply pw_below_drewN | apply below_drew1) | exact HB.out)))); (case aL => have := LMc13.out; omega); intro v666 w21 ho hb hg hat; rw [← Ny665.out] at ho; have n0_ := Aside0.mk (Kd.N_afterv (ok := (fun k_ => some k_ ≠ (v657 : Value).ownBlock)) (by (with_reducible repeat (first | apply Kd.N_alloc | apply Kd.N_drewN | apply Kd.N_drew)); exact HO653.out) hg hat); have n1_ := Aside0.mk (Kd.N_afterv (ok := (fun k_ => some k_ ≠ (v652 : Value).ownBlock)) (by (with_reducible repeat (first | apply Kd.N_alloc | apply Kd.N_drewN | apply Kd.N_drew)); exact HO658.out) hg hat); have n2_ := Aside0.mk (hb); have n3_ := Aside0.mk (ho); clear HO653; clear HO658; clear HB; clear HO664; have HO653 := n0_; have HO658 := n1_; have HB := n2_; have HO667 := n3_; clear n0_ n1_ n2_ n3_; clear ho hb hg hat; obtain ⟨Ao22, co22, eo22⟩ := Kd.R_slice HO667.out; subst eo22) | ((with_reducible refine gate_callee (f := 49) rfl ?_); refine goesL_ (some 50) rfl rfl Try.func49 (by kernel_rfl) rfl #[.slice Ao22 y665.length co22] rfl (by (try simp only [List.map_toArray, List.map_cons, List.map_nil]); first | done | rfl | (simp only [List.length_drop, List.length_take]; rfl)) ?_; (with_reducible refine (frame_All.calls kj4 _ _ y665 t668 t669 t670 _ ?side1 ?side2 A14.out).mono ?_); (case side1 => repeat (first | exact (Kd.R_reads' HO667.out).2.2 | (with_reducible refine Kd.C_alloc ?_ _) | (with_reducible refine Kd.C_drewN ?_ _) | (with_reducible refine Kd.C_drew ?_))); (case side2 => exact (Kd.R_reads' HO667.out).2.1); rintro e w23 ⟨v671, rfl, ho0, hb⟩; refine ⟨_, rfl, ?_⟩; have n0_ := Aside0.mk (Kd.N_elder' (by (with_reducible repeat (first | apply Kd.N_alloc | apply Kd.N_drewN | apply Kd.N_drew)); exact HO653.out) (Kd.N_base (Kd.S_N ho0)) hb); have n1_ := Aside0.mk (Kd.N_elder' (by (with_reducible repeat (first | apply Kd.N_alloc | apply Kd.N_drewN | apply Kd.N_drew)); exact HO658.out) (Kd.N_base (Kd.S_N ho0)) hb); have n2_ := Aside0.mk (Kd.R_below (by (with_reducible repeat (first | apply Kd.R_alloc | apply Kd.R_drewN | apply Kd.R_drew)); exact HO667.out) hb); have n3_ := Aside0.mk (Kd.N_lower (Kd.N_mono (ok' := fun k_ => some k_ ≠ (v652 : Value).ownBlock ∧ some k_ ≠ (v657 : Value).ownBlock ∧ some k_ ≠ (.slice Ao22 y665.length co22 : Value).ownBlock) (Kd.S_N (Kd.S_bound ho0)) (fun k_ hk_ => ⟨(Kd.fresh' (Kd.N_lt (by (with_reducible repeat (first | apply Kd.N_alloc | apply Kd.N_drewN | apply Kd.N_drew)); exact HO653.out)) k_ hk_.2.1), (Kd.fresh' (Kd.N_lt (by (with_reducible repeat (first | apply Kd.N_alloc | apply Kd.N_drewN | apply Kd.N_drew)); exact HO658.out)) k_ hk_.2.1), (Kd.fresh' (Kd.R_lt (by (with_reducible repeat (first | apply Kd.R_alloc | apply Kd.R_drewN | apply Kd.R_drew)); exact HO667.out)) k_ hk_.2.1)⟩)) (below_size (by repeat (first | (with_reducible first | exact HB.out | apply below_alloc | apply pw_below_drewN | apply below_drew1) | exact HB.out)))); have n4_ := Aside0.mk (below_step (by repeat (first | (with_reducible first | exact HB.out | apply below_alloc | apply pw_below_drewN | apply below_drew1) | exact HB.out)) hb); clear HO653; clear HO658; clear HO667; clear HB; have HO653 := n0_; have HO658 := n1_; have HO667 := n2_; have HO672 := n3_; have HB := n4_; clear n0_ n1_ n2_ n3_ n4_; (try clear hb); (try clear hb2); (try clear hk); (try clear hi); (try clear ho0)))
                (try simp only [Act.put, List.setIfInBounds_toArray, List.set_cons_zero, List.set_cons_succ])
                go_cut [80] (fun v80 wc => ∃ (kq : Nat) (x80_14 : Bool), v80 = .bool x80_14 ∧ Aside0 (tumbrellaw04_FrameJoins.j1 kq t649 t654 t668 x80_14 = some r) ∧ Aside0 (kq ≤ kj4) ∧ Aside0 (Kd.N k56 56 wc w.heap.size (fun k_ => some k_ ≠ (v657 : Value).ownBlock ∧ some k_ ≠ (v671 : Value).ownBlock) v652 t649) ∧ Aside0 (Kd.N k56 56 wc w.heap.size (fun k_ => some k_ ≠ (v652 : Value).ownBlock ∧ some k_ ≠ (v671 : Value).ownBlock) v657 t654) ∧ Aside0 (Kd.N k56 56 wc w.heap.size (fun k_ => some k_ ≠ (v652 : Value).ownBlock ∧ some k_ ≠ (v657 : Value).ownBlock) v671 t668) ∧ Aside0 (Below w.heap.size w wc))
                case first =>
                  have H := HC15.out
                  clear HC15
                  by_cases c24 : t670 = t656
                  · rw [if_pos c24] at H
                    have c24b0 : (t670 == t656) = true := beq_iff_eq.mpr c24
                    have c24b1 : (t670 != t656) = false := bne_eq_false_iff_eq.mpr c24
                    clear c24
                    (first | rw [c24b0] | (simp only [i64_w, i32_w]; rw [c24b0]) | skip)
                    by_cases c25 : t669 = (wrap64 ((l0.length : Int) + t655))
                    · rw [if_pos c25] at H
                      have c25b0 : (t669 == (wrap64 ((l0.length : Int) + t655))) = true := beq_iff_eq.mpr c25
                      have c25b1 : (t669 != (wrap64 ((l0.length : Int) + t655))) = false := bne_eq_false_iff_eq.mpr c25
                      clear c25
                      by_cases c26 : t650 = (l0.length : Int)
                      · rw [if_pos c26] at H
                        have c26b0 : (t650 == (l0.length : Int)) = true := beq_iff_eq.mpr c26
                        have c26b1 : (t650 != (l0.length : Int)) = false := bne_eq_false_iff_eq.mpr c26
                        clear c26
                        have H' := Aside0.mk H
                        clear H
                        obtain ⟨Ao27, co27, eo27⟩ := Kd.N_slice HO672.out
                        subst eo27
                        obtain ⟨Ao28, co28, eo28⟩ := Kd.N_slice HO653.out
                        subst eo28
                        obtain ⟨Ao29, co29, eo29⟩ := Kd.N_slice HO658.out
                        subst eo29
                        go_wp2
                        go_meet
                        case rel => exact ⟨_, (((t668.length : Int) != (wrap64 ((t649.length : Int) + (t654.length : Int))))), (by first | rfl | (simp; done) | (simp [*]; done)), H', ⟨by have := HJ4.out; first | omega | exact Nat.le_refl _⟩, ⟨by (with_reducible repeat (first | apply Kd.N_alloc | apply Kd.N_drewN | apply Kd.N_drew)); exact Kd.N_mono HO653.out (fun _ hk => ⟨hk.1.1, hk.2⟩)⟩, ⟨by (with_reducible repeat (first | apply Kd.N_alloc | apply Kd.N_drewN | apply Kd.N_drew)); exact Kd.N_mono HO658.out (fun _ hk => ⟨hk.1.1, hk.2⟩)⟩, ⟨by (with_reducible repeat (first | apply Kd.N_alloc | apply Kd.N_drewN | apply Kd.N_drew)); exact Kd.N_mono HO672.out (fun _ hk => ⟨hk.1, hk.2.1⟩)⟩, ⟨by repeat (first | (with_reducible first | exact HB.out | apply below_alloc | apply pw_below_drewN | apply below_drew1) | exact HB.out)⟩⟩
                      · rw [if_neg c26] at H
                        have c26b0 : (t650 == (l0.length : Int)) = false := beq_eq_false_iff_ne.mpr c26
                        have c26b1 : (t650 != (l0.length : Int)) = true := bne_iff_ne.mpr c26
                        have H' := Aside0.mk H
                        clear H
                        go_wp2
                        go_meet
                        case rel => exact ⟨_, (true), (by first | rfl | (simp; done) | (simp [*]; done)), H', ⟨by have := HJ4.out; first | omega | exact Nat.le_refl _⟩, ⟨by (with_reducible repeat (first | apply Kd.N_alloc | apply Kd.N_drewN | apply Kd.N_drew)); exact Kd.N_mono HO653.out (fun _ hk => ⟨hk.1.1, hk.2⟩)⟩, ⟨by (with_reducible repeat (first | apply Kd.N_alloc | apply Kd.N_drewN | apply Kd.N_drew)); exact Kd.N_mono HO658.out (fun _ hk => ⟨hk.1.1, hk.2⟩)⟩, ⟨by (with_reducible repeat (first | apply Kd.N_alloc | apply Kd.N_drewN | apply Kd.N_drew)); exact Kd.N_mono HO672.out (fun _ hk => ⟨hk.1, hk.2.1⟩)⟩, ⟨by repeat (first | (with_reducible first | exact HB.out | apply below_alloc | apply pw_below_drewN | apply below_drew1) | exact HB.out)⟩⟩
                    · rw [if_neg c25] at H
                      have c25b0 : (t669 == (wrap64 ((l0.length : Int) + t655))) = false := beq_eq_false_iff_ne.mpr c25
                      have c25b1 : (t669 != (wrap64 ((l0.length : Int) + t655))) = true := bne_iff_ne.mpr c25
                      have H' := Aside0.mk H
                      clear H
                      go_wp2
                      go_meet
                      case rel => exact ⟨_, (true), (by first | rfl | (simp; done) | (simp [*]; done)), H', ⟨by have := HJ4.out; first | omega | exact Nat.le_refl _⟩, ⟨by (with_reducible repeat (first | apply Kd.N_alloc | apply Kd.N_drewN | apply Kd.N_drew)); exact Kd.N_mono HO653.out (fun _ hk => ⟨hk.1.1, hk.2⟩)⟩, ⟨by (with_reducible repeat (first | apply Kd.N_alloc | apply Kd.N_drewN | apply Kd.N_drew)); exact Kd.N_mono HO658.out (fun _ hk => ⟨hk.1.1, hk.2⟩)⟩, ⟨by (with_reducible repeat (first | apply Kd.N_alloc | apply Kd.N_drewN | apply Kd.N_drew)); exact Kd.N_mono HO672.out (fun _ hk => ⟨hk.1, hk.2.1⟩)⟩, ⟨by repeat (first | (with_reducible first | exact HB.out | apply below_alloc | apply pw_below_drewN | apply below_drew1) | exact HB.out)⟩⟩
                  · rw [if_neg c24] at H
                    have c24b0 : (t670 == t656) = false := beq_eq_false_iff_ne.mpr c24
                    have c24b1 : (t670 != t656) = true := bne_iff_ne.mpr c24
                    (first | rw [c24b0] | (simp only [i64_w, i32_w]; rw [c24b0]) | skip)
                    have H' := Aside0.mk H
                    clear H
                    go_wp2
                    go_meet
                    case rel => exact ⟨_, (true), (by first | rfl | (simp; done) | (simp [*]; done)), H', ⟨by have := HJ4.out; first | omega | exact Nat.le_refl _⟩, ⟨by (with_reducible repeat (first | apply Kd.N_alloc | apply Kd.N_drewN | apply Kd.N_drew)); exact Kd.N_mono HO653.out (fun _ hk => ⟨hk.1.1, hk.2⟩)⟩, ⟨by (with_reducible repeat (first | apply Kd.N_alloc | apply Kd.N_drewN | apply Kd.N_drew)); exact Kd.N_mono HO658.out (fun _ hk => ⟨hk.1.1, hk.2⟩)⟩, ⟨by (with_reducible repeat (first | apply Kd.N_alloc | apply Kd.N_drewN | apply Kd.N_drew)); exact Kd.N_mono HO672.out (fun _ hk => ⟨hk.1, hk.2.1⟩)⟩, ⟨by repeat (first | (with_reducible first | exact HB.out | apply below_alloc | apply pw_below_drewN | apply below_drew1) | exact HB.out)⟩⟩
                case rest =>
                  clear HC15
                  try clear c1
                  try clear c2
                  try clear p2
                  try clear c4
                  try clear p6
                  try clear c7
                  try clear c7b0
                  try clear c7b1
                  try clear c8
                  try clear c11
                  try clear c11b0
                  try clear c11b1
                  try clear c12
                  try clear c13
                  try clear c15
                  try clear c24
                  try clear c24b0
                  try clear c24b1
                  try clear c25
                  try clear c25b0
                  try clear c25b1
                  try clear c26
                  try clear c26b0
                  try clear c26b1
                  try clear p2
                  obtain ⟨kq, x80_14, rfl, HA, HJ14, HO_5, HO_8, HO_11, HB⟩ := hcut
                  cases kq with
                  | zero => exact absurd HA.out (by simp [tumbrellaw04_FrameJoins.j1])
                  | succ kj14 =>
                    have H := HA.out
                    clear HA
                    simp only [tumbrellaw04_FrameJoins.j1] at H
                    by_cases c30 : x80_14 = true
                    · subst c30
                      have H1 : (some false) = some r := by rw [if_pos rfl] at H; exact H
                      clear H
                      have H := H1
                      clear H1
                      obtain rfl := Option.some.inj H
                      go_wp2
                      go_ret
                      exact ⟨by first | rfl | (simp [errW_none, errW_some] <;> rfl) | (simp [*, errW_none, errW_some] <;> rfl), by repeat (first | (with_reducible first | exact HB.out | apply below_alloc | apply pw_below_drewN | apply below_drew1) | exact HB.out)⟩
                    · replace c30 := Bool.eq_false_iff.mpr c30
                      subst c30
                      have H1 : ((some (([] : List (S56)) : List (S56))).bind fun y673 => (if y673.length + t649.length < 4398046511104 then ((some (y673 ++ t649 : List (S56))).bind fun y676 => (if y676.length + t654.length < 4398046511104 then ((some (y676 ++ t654 : List (S56))).bind fun y679 => (tumbrellaw04_FrameJoins.l0 kj14 t668 y679 (y679.length : Int) 0)) else (none))) else (none))) = some r := by rw [if_neg (show ¬ (false = true) by decide)] at H; exact H
                      clear H
                      have H := H1
                      clear H1
                      obtain ⟨y673, hy673⟩ : ∃ y_ : List (S56), y_ = (([] : List (S56))) := ⟨_, rfl⟩
                      replace H : (if y673.length + t649.length < 4398046511104 then ((some (y673 ++ t649 : List (S56))).bind fun y676 => (if y676.length + t654.length < 4398046511104 then ((some (y676 ++ t654 : List (S56))).bind fun y679 => (tumbrellaw04_FrameJoins.l0 kj14 t668 y679 (y679.length : Int) 0)) else (none))) else (none)) = some r := by first | (rw [hy673]; with_reducible exact H) | (have H2_ := (Option.bind_some _ _).symm.trans H; rw [hy673]; with_reducible exact H2_) | (have H2_ := (Option.bind_some _ _).symm.trans H; with_reducible exact H2_) | with_reducible exact H | (rw [hy673]; exact H) | exact H
                      have Ny673 := Aside0.mk hy673
                      clear hy673
                      by_cases c31 : y673.length + t649.length < 4398046511104
                      · rw [if_pos c31] at H
                        have LMc31 := Aside0.mk c31
                        clear c31
                        obtain ⟨y676, hy676⟩ : ∃ y_ : List (S56), y_ = (y673 ++ t649) := ⟨_, rfl⟩
                        replace H : (if y676.length + t654.length < 4398046511104 then ((some (y676 ++ t654 : List (S56))).bind fun y679 => (tumbrellaw04_FrameJoins.l0 kj14 t668 y679 (y679.length : Int) 0)) else (none)) = some r := by first | (rw [hy676]; with_reducible exact H) | (have H2_ := (Option.bind_some _ _).symm.trans H; rw [hy676]; with_reducible exact H2_) | (have H2_ := (Option.bind_some _ _).symm.trans H; with_reducible exact H2_) | with_reducible exact H | (rw [hy676]; exact H) | exact H
                        have Ny676 := Aside0.mk hy676
                        clear hy676
                        by_cases c32 : y676.length + t654.length < 4398046511104
                        · rw [if_pos c32] at H
                          have LMc32 := Aside0.mk c32
                          clear c32
                          obtain ⟨y679, hy679⟩ : ∃ y_ : List (S56), y_ = (y676 ++ t654) := ⟨_, rfl⟩
                          replace H : (tumbrellaw04_FrameJoins.l0 kj14 t668 y679 (y679.length : Int) 0) = some r := by first | (rw [hy679]; with_reducible exact H) | (have H2_ := (Option.bind_some _ _).symm.trans H; rw [hy679]; with_reducible exact H2_) | (have H2_ := (Option.bind_some _ _).symm.trans H; with_reducible exact H2_) | with_reducible exact H | (rw [hy679]; exact H) | exact H
                          have Ny679 := Aside0.mk hy679
                          clear hy679
                          have H' := Aside0.mk H
                          clear H
                          go_wp2_with (first | ((with_reducible refine gate_dst (N := 81) rfl ?_); (try (refine gate_guard (by rfl) ?_; dsimp only)); refine Kd.N_lit k56 _ 56 ?hg (N' := 81) ?hd (xs := ([] : List (S56))) (inner := []) (ok := (fun k_ => some k_ ≠ (v652 : Value).ownBlock ∧ some k_ ≠ (v657 : Value).ownBlock ∧ some k_ ≠ (v671 : Value).ownBlock)) (okp := (fun k_ => some k_ ≠ (v652 : Value).ownBlock ∧ some k_ ≠ (v657 : Value).ownBlock ∧ some k_ ≠ (v671 : Value).ownBlock)) ?hr ?hp (fun _ hk => hk) ((show ∀ k_, wc.heap.size ≤ k_ → (fun k_ => some k_ ≠ (v652 : Value).ownBlock ∧ some k_ ≠ (v657 : Value).ownBlock ∧ some k_ ≠ (v671 : Value).ownBlock) k_ from fun k_ hk => ⟨Kd.fresh' (Kd.N_lt (by (with_reducible repeat (first | apply Kd.N_alloc | apply Kd.N_drewN | apply Kd.N_drew)); exact HO_5.out)) k_ hk, Kd.fresh' (Kd.N_lt (by (with_reducible repeat (first | apply Kd.N_alloc | apply Kd.N_drewN | apply Kd.N_drew)); exact HO_8.out)) k_ hk, Kd.fresh' (Kd.N_lt (by (with_reducible repeat (first | apply Kd.N_alloc | apply Kd.N_drewN | apply Kd.N_drew)); exact HO_11.out)) k_ hk⟩) _ (Nat.le_refl _)) (Below.refl _ _) (Nat.le_refl _) (by simp) ?_; (case hd => rfl); (case hg => rfl); (case hr => first | (go_simp; done) | (go_simp; rfl)); (case hp => exact (Reps.none _ _)); intro v674 w33 ho34 hb hg_ hnew_; clear hg_ hnew_; (first | rw [← Ny673.out] at ho34 | (simp only [Int.reduceToNat] at ho34; rw [← Ny673.out] at ho34)); have n0_ := Aside0.mk (Kd.N_elder' (by (with_reducible repeat (first | apply Kd.N_alloc | apply Kd.N_drewN | apply Kd.N_drew)); exact HO_5.out) (Kd.N_base ho34) hb); have n1_ := Aside0.mk (Kd.N_elder' (by (with_reducible repeat (first | apply Kd.N_alloc | apply Kd.N_drewN | apply Kd.N_drew)); exact HO_8.out) (Kd.N_base ho34) hb); have n2_ := Aside0.mk (Kd.N_elder' (by (with_reducible repeat (first | apply Kd.N_alloc | apply Kd.N_drewN | apply Kd.N_drew)); exact HO_11.out) (Kd.N_base ho34) hb); have n3_ := Aside0.mk (Kd.N_lower ho34 (below_size (by repeat (first | (with_reducible first | exact HB.out | apply below_alloc | apply pw_below_drewN | apply below_drew1) | exact HB.out)))); have n4_ := Aside0.mk (below_step (by repeat (first | (with_reducible first | exact HB.out | apply below_alloc | apply pw_below_drewN | apply below_drew1) | exact HB.out)) hb); clear HO_5; clear HO_8; clear HO_11; clear HB; have HO_5 := n0_; have HO_8 := n1_; have HO_11 := n2_; have HO675 := n3_; have HB := n4_; clear n0_ n1_ n2_ n3_ n4_; clear hb ho34; obtain ⟨Ao36, co36, eo36⟩ := Kd.N_slice HO_5.out; subst eo36) | ((with_reducible refine gate_builtin (b := .append) (xs := #[.tmp 81, .tmp 82]) rfl ?_); (try (refine gate_guard (by rfl) ?_; dsimp only)); at_builtin; refine Kd.N_append_rows k56 (w0 := w) w.heap.size rfl (.tmp 81) (.tmp 82) 65 56 (.agg #[(.int .u8 0), (.slice none 0 0)]) 32 rfl Try.underlying65 info56 rfl (by decide) (by omega) v674 y673 t649 _ _ _ (fun k_ => some k_ ≠ (v657 : Value).ownBlock ∧ some k_ ≠ (v671 : Value).ownBlock) (fun k_ => ((fun k_ => some k_ ≠ (v657 : Value).ownBlock ∧ some k_ ≠ (v671 : Value).ownBlock)) k_ ∧ some k_ ≠ (v674 : Value).ownBlock) rfl rfl ?aO ?aR (fun _ hk => hk) ?aF ?aB ?aS ?aL ?_; (case aR => exact (by skip; exact Kd.N_F (Kd.N_mono (ok' := (fun k_ => ((fun k_ => some k_ ≠ (v657 : Value).ownBlock ∧ some k_ ≠ (v671 : Value).ownBlock)) k_ ∧ some k_ ≠ (v674 : Value).ownBlock)) (HO_5.out) (fun k_ hk => ⟨⟨hk.1.1, hk.1.2⟩, hk.2⟩)))); (case aB => exact (by repeat (first | (with_reducible first | exact HB.out | apply below_alloc | apply pw_below_drewN | apply below_drew1) | exact HB.out))); (case aF => exact (fun k_ hk => ⟨Kd.fresh' (Kd.N_lt (by (with_reducible repeat (first | apply Kd.N_alloc | apply Kd.N_drewN | apply Kd.N_drew)); exact HO_8.out)) k_ hk, Kd.fresh' (Kd.N_lt (by (with_reducible repeat (first | apply Kd.N_alloc | apply Kd.N_drewN | apply Kd.N_drew)); exact HO_11.out)) k_ hk⟩)); (case aO => exact (by (with_reducible repeat (first | apply Kd.N_alloc | apply Kd.N_drewN | apply Kd.N_drew)); exact Kd.N_mono HO675.out (fun _ hk => ⟨hk.2.1, hk.2.2⟩))); (case aS => exact (below_size (by repeat (first | (with_reducible first | exact HB.out | apply below_alloc | apply pw_below_drewN | apply below_drew1) | exact HB.out)))); (case aL => have := LMc31.out; omega); intro v677 w35 ho hb hg hat; rw [← Ny676.out] at ho; have n0_ := Aside0.mk (Kd.N_afterv (ok := (fun k_ => some k_ ≠ (v657 : Value).ownBlock ∧ some k_ ≠ (v671 : Value).ownBlock)) (by (with_reducible repeat (first | apply Kd.N_alloc | apply Kd.N_drewN | apply Kd.N_drew)); exact HO_5.out) hg hat); have n1_ := Aside0.mk (Kd.N_afterv (ok := (fun k_ => some k_ ≠ (.slice Ao36 t649.length co36 : Value).ownBlock ∧ some k_ ≠ (v671 : Value).ownBlock)) (by (with_reducible repeat (first | apply Kd.N_alloc | apply Kd.N_drewN | apply Kd.N_drew)); exact HO_8.out) hg hat); have n2_ := Aside0.mk (Kd.N_afterv (ok := (fun k_ => some k_ ≠ (.slice Ao36 t649.length co36 : Value).ownBlock ∧ some k_ ≠ (v657 : Value).ownBlock)) (by (with_reducible repeat (first | apply Kd.N_alloc | apply Kd.N_drewN | apply Kd.N_drew)); exact HO_11.out) hg hat); have n3_ := Aside0.mk (hb); have n4_ := Aside0.mk (ho); clear HO_5; clear HO_8; clear HO_11; clear HB; clear HO675; have HO_5 := n0_; have HO_8 := n1_; have HO_11 := n2_; have HB := n3_; have HO678 := n4_; clear n0_ n1_ n2_ n3_ n4_; clear ho hb hg hat; obtain ⟨Ao38, co38, eo38⟩ := Kd.N_slice HO_8.out; subst eo38) | ((with_reducible refine gate_builtin (b := .append) (xs := #[.tmp 83, .tmp 84]) rfl ?_); (try (refine gate_guard (by rfl) ?_; dsimp only)); at_builtin; refine Kd.N_append_rows k56 (w0 := w) w.heap.size rfl (.tmp 83) (.tmp 84) 65 56 (.agg #[(.int .u8 0), (.slice none 0 0)]) 32 rfl Try.underlying65 info56 rfl (by decide) (by omega) v677 y676 t654 _ _ _ (fun k_ => some k_ ≠ (v671 : Value).ownBlock) (fun k_ => ((fun k_ => some k_ ≠ (v671 : Value).ownBlock)) k_ ∧ some k_ ≠ (v677 : Value).ownBlock) rfl rfl ?aO ?aR (fun _ hk => hk) ?aF ?aB ?aS ?aL ?_; (case aR => exact (by skip; exact Kd.N_F (Kd.N_mono (ok' := (fun k_ => ((fun k_ => some k_ ≠ (v671 : Value).ownBlock)) k_ ∧ some k_ ≠ (v677 : Value).ownBlock)) (HO_8.out) (fun k_ hk => ⟨hk.1.2, hk.2⟩)))); (case aB => exact (by repeat (first | (with_reducible first | exact HB.out | apply below_alloc | apply pw_below_drewN | apply below_drew1) | exact HB.out))); (case aF => exact (fun k_ hk => Kd.fresh' (Kd.N_lt (by (with_reducible repeat (first | apply Kd.N_alloc | apply Kd.N_drewN | apply Kd.N_drew)); exact HO_11.out)) k_ hk)); (case aO => exact (by (with_reducible repeat (first | apply Kd.N_alloc | apply Kd.N_drewN | apply Kd.N_drew)); exact Kd.N_mono HO678.out (fun _ hk => hk.2))); (case aS => exact (below_size (by repeat (first | (with_reducible first | exact HB.out | apply below_alloc | apply pw_below_drewN | apply below_drew1) | exact HB.out)))); (case aL => have := LMc32.out; omega); intro v680 w37 ho hb hg hat; rw [← Ny679.out] at ho; have n0_ := Aside0.mk (Kd.N_afterv (ok := (fun k_ => some k_ ≠ (.slice Ao38 t654.length co38 : Value).ownBlock ∧ some k_ ≠ (v671 : Value).ownBlock)) (by (with_reducible repeat (first | apply Kd.N_alloc | apply Kd.N_drewN | apply Kd.N_drew)); exact HO_5.out) hg hat); have n1_ := Aside0.mk (Kd.N_afterv (ok := (fun k_ => some k_ ≠ (.slice Ao36 t649.length co36 : Value).ownBlock ∧ some k_ ≠ (v671 : Value).ownBlock)) (by (with_reducible repeat (first | apply Kd.N_alloc | apply Kd.N_drewN | apply Kd.N_drew)); exact HO_8.out) hg hat); have n2_ := Aside0.mk (Kd.N_afterv (ok := (fun k_ => some k_ ≠ (.slice Ao36 t649.length co36 : Value).ownBlock ∧ some k_ ≠ (.slice Ao38 t654.length co38 : Value).ownBlock)) (by (with_reducible repeat (first | apply Kd.N_alloc | apply Kd.N_drewN | apply Kd.N_drew)); exact HO_11.out) hg hat); have n3_ := Aside0.mk (hb); have n4_ := Aside0.mk (ho); clear HO_5; clear HO_8; clear HO_11; clear HB; clear HO678; have HO_5 := n0_; have HO_8 := n1_; have HO_11 := n2_; have HB := n3_; have HO681 := n4_; clear n0_ n1_ n2_ n3_ n4_; clear ho hb hg hat; obtain ⟨Ao39, co39, eo39⟩ := Kd.N_slice HO681.out; subst eo39))
                          go_loopg [87] kj14 (fun kq v87 w' => ∃ (x87_3 : Int), v87 = .int .i64 x87_3 ∧ Aside0 (tumbrellaw04_FrameJoins.l0 kq t668 y679 (y679.length : Int) x87_3 = some r) ∧ Aside0 (kq ≤ kj14) ∧ Aside0 (Kd.N k56 56 w' w.heap.size (fun k_ => some k_ ≠ ((.slice Ao39 y679.length co39) : Value).ownBlock) v671 t668) ∧ Aside0 (Kd.N k56 56 w' w.heap.size (fun k_ => some k_ ≠ (v671 : Value).ownBlock) (.slice Ao39 y679.length co39) y679) ∧ Aside0 (Below w.heap.size w w'))
                          case atStart => exact ⟨(0), (by first | rfl | (simp; done) | (simp [*]; done)), H', ⟨Nat.le_refl _⟩, ⟨by (with_reducible repeat (first | apply Kd.N_alloc | apply Kd.N_drewN | apply Kd.N_drew)); exact Kd.N_mono HO_11.out (fun _ hk => hk.2)⟩, ⟨by (with_reducible repeat (first | apply Kd.N_alloc | apply Kd.N_drewN | apply Kd.N_drew)); exact HO681.out⟩, ⟨by repeat (first | (with_reducible first | exact HB.out | apply below_alloc | apply pw_below_drewN | apply below_drew1) | exact HB.out)⟩⟩
                          case round =>
                            clear H'
                            try clear c1
                            try clear c2
                            try clear p2
                            try clear c3
                            try clear c4
                            try clear p6
                            try clear c7
                            try clear c7b0
                            try clear c7b1
                            try clear c8
                            try clear c11
                            try clear c11b0
                            try clear c11b1
                            try clear c12
                            try clear c13
                            try clear c15
                            try clear c24
                            try clear c24b0
                            try clear c24b1
                            try clear c25
                            try clear c25b0
                            try clear c25b1
                            try clear c26
                            try clear c26b0
                            try clear c26b1
                            try clear c30
                            try clear c31
                            try clear c32
                            try clear p2
                            try clear p6
                            obtain ⟨x87_3, rfl, HA, HK3, HO_11, HO_85, HB⟩ := hrel
                            cases gk with
                            | zero => exact absurd HA.out (by simp [tumbrellaw04_FrameJoins.l0])
                            | succ k3 =>
                              have H := HA.out
                              clear HA
                              simp only [tumbrellaw04_FrameJoins.l0] at H
                              by_cases c40 : x87_3 < (y679.length : Int)
                              · rw [if_pos c40] at H
                                have c40b0 : decide (x87_3 < (y679.length : Int)) = true := decide_eq_true c40
                                clear c40
                                by_cases c41 : 0 ≤ x87_3
                                · rw [if_pos c41] at H
                                  have c41b0 : decide (0 ≤ x87_3) = true := decide_eq_true c41
                                  clear c41
                                  by_cases c42 : x87_3 < (y679.length : Int)
                                  · rw [if_pos c42] at H
                                    have c42b0 : decide (x87_3 < (y679.length : Int)) = true := decide_eq_true c42
                                    clear c42
                                    by_cases c43 : x87_3 < (t668.length : Int)
                                    · rw [if_pos c43] at H
                                      have c43b0 : decide (x87_3 < (t668.length : Int)) = true := decide_eq_true c43
                                      clear c43
                                      replace H := Option.bind_eq_some_iff.mp H
                                      obtain ⟨t685, A440, H⟩ := H
                                      replace H : (if t685 = true then (tumbrellaw04_FrameJoins.l0 k3 t668 y679 (y679.length : Int) (wrap64 (x87_3 + 1))) else (some false)) = some r := H
                                      have A44 := Aside0.mk A440
                                      clear A440
                                      by_cases c45 : t685 = true
                                      · subst c45
                                        have H1 : (tumbrellaw04_FrameJoins.l0 k3 t668 y679 (y679.length : Int) (wrap64 (x87_3 + 1))) = some r := by rw [if_pos rfl] at H; exact H
                                        clear H
                                        have H := H1
                                        clear H1
                                        have H' := Aside0.mk H
                                        clear H
                                        have p682 : 0 ≤ (x87_3 : Int) := of_decide_eq_true (by first | (with_reducible assumption) | assumption)
                                        have q682 : x87_3 < (y679.length : Int) := of_decide_eq_true (by first | (with_reducible assumption) | assumption)
                                        obtain ⟨ad682, A682_1, c682_1, e682, hx682_0, hx682_1, hl682_1, hi682_1⟩ := at_T56 (Kd.N_reads' HO_85.out).2.2 x87_3 p682 q682
                                        cases e682
                                        obtain ⟨ce682, hce682, hMe682, hcc682⟩ := Kd.N_get HO_85.out z56 x87_3 p682 (by first | exact q682 | exact of_decide_eq_true (by first | (with_reducible assumption) | assumption) | (have e_ := (Kd.N_reads' HO_85.out).1; omega))
                                        obtain ⟨ua682_1, uc682_1, rfl, ul682_1, ge682_1⟩ := k56_openF hMe682
                                        have hv682_1 := hcc682 1 _ rfl
                                        rw [add_field _ _ 1 (by omega)] at hv682_1
                                        replace hv682_1 := Option.some.inj (hv682_1.symm.trans hx682_1)
                                        injection hv682_1 with hva_ hvn_ hvc_
                                        rw [hva_] at ge682_1
                                        rw [hvc_] at ul682_1
                                        have HL682_1 := Aside0.mk (show Kd.V (Kd.int .u8) 5 _ w.heap.size _ _ ((rd_T56 y679 x87_3).f1) from Kd.V_mk ul682_1 ge682_1)
                                        clear hva_ hvn_ hvc_ ge682_1 ul682_1
                                        clear hcc682 hce682
                                        have HR682_1 := Aside0.mk hi682_1
                                        have HC682_1 := Aside0.mk hl682_1
                                        clear hi682_1 hl682_1
                                        replace p682 := eq_true p682
                                        replace q682 := eq_true q682
                                        try go_wp2_with (first | ((with_reducible refine gate_dst (N := 15) rfl ?_); (try (refine gate_guard (by rfl) ?_; dsimp only)); refine box_event ?hg (N := 15) ?hd (cs := #[.int .u8 0, .slice none 0 0]) (t := 56) ?hr ?_; (case hd => rfl); (case hg => rfl); (case hr => first | (go_simp; done) | (go_simp; rfl)); intro gb683 hg w46 hbox hb; have n0_ := Aside0.mk (Kd.N_below (Kd.N_elderB (by (with_reducible repeat (first | apply Kd.N_alloc | apply Kd.N_drewN | apply Kd.N_drew)); exact HO_11.out) gb683 (Nat.le_of_eq hg.symm)) hb); have n1_ := Aside0.mk (Kd.N_below (Kd.N_elderB (by (with_reducible repeat (first | apply Kd.N_alloc | apply Kd.N_drewN | apply Kd.N_drew)); exact HO_85.out) gb683 (Nat.le_of_eq hg.symm)) hb); have n2_ := Aside0.mk (Kd.V_below (Kd.V_elderB (by (with_reducible repeat (first | apply Kd.V_alloc | apply Kd.V_drewN | apply Kd.V_drew)); exact HL682_1.out) gb683 (Nat.le_of_eq hg.symm)) hb); have n3_ := Aside0.mk (Kd.C_below (by repeat (first | (with_reducible exact HR682_1.out) | (with_reducible refine Kd.C_alloc ?_ _) | (with_reducible refine Kd.C_drewN ?_ _) | (with_reducible refine Kd.C_drew ?_) | exact HR682_1.out)) hb); have n4_ := Aside0.mk (below_step (by repeat (first | (with_reducible first | exact HB.out | apply below_alloc | apply pw_below_drewN | apply below_drew1) | exact HB.out)) hb); have n5_ := Aside0.mk (hbox); have n6_ := Aside0.mk ((by rw [hg]; exact (below_size (by repeat (first | (with_reducible first | exact HB.out | apply below_alloc | apply pw_below_drewN | apply below_drew1) | exact HB.out))) : w.heap.size ≤ gb683)); have n7_ := Aside0.mk ((by rw [hg]; exact (below_size (by repeat (first | (with_reducible first | exact HB.out | apply below_alloc | apply pw_below_drewN | apply below_drew1) | exact HB.out))) : w.heap.size ≤ gb683)); clear HO_11; clear HO_85; clear HL682_1; clear HR682_1; clear HB; have HO_11 := n0_; have HO_85 := n1_; have HL682_1 := n2_; have HR682_1 := n3_; have HB := n4_; have BK683 := n5_; have GW683 := n6_; have GE683 := n7_; clear n0_ n1_ n2_ n3_ n4_ n5_ n6_ n7_; clear hb hbox hg; have hcz47_0 : w46.cell? ⟨gb683, 0, none⟩ = some (.int .u8 0) := (blk_cell BK683.out 0).trans rfl; have hcz47_1 : w46.cell? ⟨gb683, 1, none⟩ = some (.slice none 0 0) := (blk_cell BK683.out 1).trans rfl; have hfz47_0 := blk_frozen BK683.out 0; have hfz47_1 := blk_frozen BK683.out 1))
                                        have n0_ : Aside0 (Kd.N k56 56 ((w46.setCell ⟨gb683, 0, none⟩ (.int .u8 ((rd_T56 y679 x87_3).f0))).setCell ⟨gb683, 1, none⟩ (.slice A682_1 ((rd_T56 y679 x87_3).f1).length c682_1)) w.heap.size (fun k_ => some k_ ≠ (.slice (some ad682) y679.length co39 : Value).ownBlock ∧ k_ ≠ gb683) v671 t668) := ⟨by (with_reducible repeat (first | apply Kd.N_alloc | apply Kd.N_drewN | apply Kd.N_drew)); exact Kd.N_mono (Kd.N_far (p := ⟨gb683, 1, none⟩) (Kd.N_far (p := ⟨gb683, 0, none⟩) (Kd.N_mono HO_11.out (fun k_ hk => (⟨hk, hk.2⟩ : _ ∧ k_ ≠ gb683))) (fun _ hk => hk.2) (.int .u8 ((rd_T56 y679 x87_3).f0))) (fun _ hk => hk.2) (.slice A682_1 ((rd_T56 y679 x87_3).f1).length c682_1)) (fun _ hk => ⟨hk.1.1, hk.1.2⟩)⟩
                                        have n1_ : Aside0 (Kd.N k56 56 ((w46.setCell ⟨gb683, 0, none⟩ (.int .u8 ((rd_T56 y679 x87_3).f0))).setCell ⟨gb683, 1, none⟩ (.slice A682_1 ((rd_T56 y679 x87_3).f1).length c682_1)) w.heap.size (fun k_ => some k_ ≠ (v671 : Value).ownBlock ∧ k_ ≠ gb683) (.slice (some ad682) y679.length co39) y679) := ⟨by (with_reducible repeat (first | apply Kd.N_alloc | apply Kd.N_drewN | apply Kd.N_drew)); exact Kd.N_mono (Kd.N_far (p := ⟨gb683, 1, none⟩) (Kd.N_far (p := ⟨gb683, 0, none⟩) (Kd.N_mono HO_85.out (fun k_ hk => (⟨hk, hk.2⟩ : _ ∧ k_ ≠ gb683))) (fun _ hk => hk.2) (.int .u8 ((rd_T56 y679 x87_3).f0))) (fun _ hk => hk.2) (.slice A682_1 ((rd_T56 y679 x87_3).f1).length c682_1)) (fun _ hk => ⟨hk.1.1, hk.1.2⟩)⟩
                                        have n2_ : Aside0 (Kd.V (Kd.int .u8) 5 ((w46.setCell ⟨gb683, 0, none⟩ (.int .u8 ((rd_T56 y679 x87_3).f0))).setCell ⟨gb683, 1, none⟩ (.slice A682_1 ((rd_T56 y679 x87_3).f1).length c682_1)) w.heap.size (fun k_ => some k_ ≠ (v671 : Value).ownBlock ∧ some k_ ≠ (.slice (some ad682) y679.length co39 : Value).ownBlock ∧ k_ ≠ gb683) (.slice A682_1 ((rd_T56 y679 x87_3).f1).length c682_1) ((rd_T56 y679 x87_3).f1)) := ⟨by (with_reducible repeat (first | apply Kd.V_alloc | apply Kd.V_drewN | apply Kd.V_drew)); exact Kd.V_mono (Kd.V_far (p := ⟨gb683, 1, none⟩) (Kd.V_far (p := ⟨gb683, 0, none⟩) (Kd.V_mono HL682_1.out (fun k_ hk => (⟨hk, hk.2⟩ : _ ∧ k_ ≠ gb683))) (fun _ hk => hk.2) (.int .u8 ((rd_T56 y679 x87_3).f0))) (fun _ hk => hk.2) (.slice A682_1 ((rd_T56 y679 x87_3).f1).length c682_1)) (fun _ hk => ⟨hk.1.1.1, ⟨hk.1.1.2, hk.1.2⟩⟩)⟩
                                        have n3_ : Aside0 (((w46.setCell ⟨gb683, 0, none⟩ (.int .u8 ((rd_T56 y679 x87_3).f0))).setCell ⟨gb683, 1, none⟩ (.slice A682_1 ((rd_T56 y679 x87_3).f1).length c682_1)).heap[gb683]? = some (.cells #[.int .u8 ((rd_T56 y679 x87_3).f0), .slice A682_1 ((rd_T56 y679 x87_3).f1).length c682_1] 56 (0, 0))) := ⟨by (with_reducible repeat (first | refine blk_drewN ?_ _ | refine blk_drew ?_ | refine blk_alloc ?_ _)); refine blk_put (cs := #[.int .u8 ((rd_T56 y679 x87_3).f0), .slice none 0 0]) ?_ 1 _ rfl; (with_reducible repeat (first | refine blk_drewN ?_ _ | refine blk_drew ?_ | refine blk_alloc ?_ _)); refine blk_put (cs := #[.int .u8 0, .slice none 0 0]) ?_ 0 _ rfl; (with_reducible repeat (first | refine blk_drewN ?_ _ | refine blk_drew ?_ | refine blk_alloc ?_ _)); exact BK683.out⟩
                                        have n4_ : Aside0 (Below w.heap.size w ((w46.setCell ⟨gb683, 0, none⟩ (.int .u8 ((rd_T56 y679 x87_3).f0))).setCell ⟨gb683, 1, none⟩ (.slice A682_1 ((rd_T56 y679 x87_3).f1).length c682_1))) := ⟨by repeat (first | (with_reducible first | exact HB.out | apply below_alloc | apply pw_below_drewN | apply below_drew1 | refine below_set ?_ GE683.out) | exact HB.out)⟩
                                        (try clear HO_11)
                                        (try clear HO_85)
                                        (try clear HL682_1)
                                        (try clear BK683)
                                        (try clear HB)
                                        generalize ((w46.setCell ⟨gb683, 0, none⟩ (.int .u8 ((rd_T56 y679 x87_3).f0))).setCell ⟨gb683, 1, none⟩ (.slice A682_1 ((rd_T56 y679 x87_3).f1).length c682_1)) = w48 at n0_ n1_ n2_ n3_ n4_ ⊢
                                        have HO_11 := n0_
                                        have HO_85 := n1_
                                        have HL682_1 := n2_
                                        have BK683 := n3_
                                        have HB := n4_
                                        clear n0_ n1_ n2_ n3_ n4_
                                        have n0_ := Aside0.mk (Kd.N_drew HO_11.out)
                                        have n1_ := Aside0.mk (Kd.N_drew HO_85.out)
                                        have n2_ := Aside0.mk (Kd.V_drew HL682_1.out)
                                        have n3_ := Aside0.mk (blk_drew BK683.out)
                                        have n4_ := Aside0.mk (below_drew1 HB.out)
                                        clear HO_11
                                        clear HO_85
                                        clear HL682_1
                                        clear BK683
                                        clear HB
                                        have HO_11 := n0_
                                        have HO_85 := n1_
                                        have HL682_1 := n2_
                                        have BK683 := n3_
                                        have HB := n4_
                                        clear n0_ n1_ n2_ n3_ n4_
                                        obtain ⟨Ao50, co50, eo50⟩ := Kd.N_slice HO_11.out
                                        (first | subst eo50 | (injection eo50 with f1_ f2_ f3_; have f4_ := f1_.symm; have f5_ := f3_.symm; clear f1_ f2_ f3_; subst f4_; subst f5_))
                                        have p684 : 0 ≤ (x87_3 : Int) := of_decide_eq_true (by first | (with_reducible assumption) | assumption)
                                        have q684 : x87_3 < (t668.length : Int) := of_decide_eq_true (by first | (with_reducible assumption) | assumption)
                                        obtain ⟨ad684, A684_1, c684_1, e684, hx684_0, hx684_1, hl684_1, hi684_1⟩ := at_T56 (Kd.N_reads' HO_11.out).2.2 x87_3 p684 q684
                                        cases e684
                                        obtain ⟨ce684, hce684, hMe684, hcc684⟩ := Kd.N_get HO_11.out z56 x87_3 p684 (by first | exact q684 | exact of_decide_eq_true (by first | (with_reducible assumption) | assumption) | (have e_ := (Kd.N_reads' HO_11.out).1; omega))
                                        obtain ⟨ua684_1, uc684_1, rfl, ul684_1, ge684_1⟩ := k56_openF hMe684
                                        have hv684_1 := hcc684 1 _ rfl
                                        rw [add_field _ _ 1 (by omega)] at hv684_1
                                        replace hv684_1 := Option.some.inj (hv684_1.symm.trans hx684_1)
                                        injection hv684_1 with hva_ hvn_ hvc_
                                        rw [hva_] at ge684_1
                                        rw [hvc_] at ul684_1
                                        have HL684_1 := Aside0.mk (show Kd.V (Kd.int .u8) 5 _ w.heap.size _ _ ((rd_T56 t668 x87_3).f1) from Kd.V_mk ul684_1 ge684_1)
                                        clear hva_ hvn_ hvc_ ge684_1 ul684_1
                                        clear hcc684 hce684
                                        have HR684_1 := Aside0.mk hi684_1
                                        have HC684_1 := Aside0.mk hl684_1
                                        clear hi684_1 hl684_1
                                        replace p684 := eq_true p684
                                        replace q684 := eq_true q684
                                        refine start_ (n := 7) (S := fun w' => w'.cell? ⟨gb683, 0, none⟩ = some (.int .u8 ((rd_T56 y679 x87_3).f0)) ∧ w'.cell? ⟨gb683, 1, none⟩ = some (.slice A682_1 ((rd_T56 y679 x87_3).f1).length c682_1) ∧ w'.cell? (ad684.add ((x87_3).toNat * 2)) = some (.int .u8 ((rd_T56 t668 x87_3).f0)) ∧ w'.cell? ⟨(ad684.add ((x87_3).toNat * 2)).block, (ad684.add ((x87_3).toNat * 2)).off + 1, none⟩ = some (.slice A684_1 ((rd_T56 t668 x87_3).f1).length c684_1)) (ds := []) #[false, false, false, false, false, false, false] (by kernel_rfl) rfl rfl ⟨(blk_cell BK683.out 0).trans rfl, (blk_cell BK683.out 1).trans rfl, hx684_0, hx684_1⟩ (fun hHeld => ?_)
                                        generalize w48.drew = w49 at HO_11 HO_85 HL682_1 BK683 HB HL684_1 HR684_1 hx684_0 hx684_1 hHeld ⊢
                                        refine pure_ (i := 0) (N := some 92) (v := ?_) (a' := ?_) #[true, false, false, false, false, false, false] rfl rfl (by kernel_rfl) (fun _ _ _ h => h) (Or.inl ⟨by rfl, ?_⟩) ?_ ?_
                                        rotate_left
                                        · intro w'
                                          go_simp
                                          with_reducible rfl
                                        rotate_left
                                        · simp only [Act.put, List.setIfInBounds_toArray, List.set_cons_zero, List.set_cons_succ, i64_w, i32_w]
                                          rfl
                                        refine pure_ (i := 1) (N := some 93) (v := ?_) (a' := ?_) #[true, true, false, false, false, false, false] rfl rfl (by kernel_rfl) (fun _ _ _ h => h) (Or.inl ⟨by rfl, ?_⟩) ?_ ?_
                                        rotate_left
                                        · intro w'
                                          go_simp
                                          with_reducible rfl
                                        rotate_left
                                        · simp only [Act.put, List.setIfInBounds_toArray, List.set_cons_zero, List.set_cons_succ, i64_w, i32_w]
                                          rfl
                                        refine pure_ (i := 2) (N := some 94) (v := ?_) (a' := ?_) #[true, true, true, false, false, false, false] rfl rfl (by kernel_rfl) (fun _ _ _ h => h) (Or.inl ⟨by rfl, ?_⟩) ?_ ?_
                                        rotate_left
                                        · intro w'
                                          go_simp
                                          with_reducible rfl
                                        rotate_left
                                        · simp only [Act.put, List.setIfInBounds_toArray, List.set_cons_zero, List.set_cons_succ, i64_w, i32_w]
                                          rfl
                                        refine take_ (i := 3) (N := some 95) (v := ?_) (a' := ?_) #[true, true, true, true, false, false, false] rfl rfl (by kernel_rfl) (fun _ _ _ h => h) (Or.inl ⟨by rfl, ?_⟩) hHeld ?_ ?_
                                        rotate_left
                                        · rintro w' ⟨s0, s1, s2, s3⟩
                                          go_simp
                                          with_reducible rfl
                                        rotate_left
                                        · simp only [Act.put, List.setIfInBounds_toArray, List.set_cons_zero, List.set_cons_succ, i64_w, i32_w]
                                          rfl
                                        refine take_ (i := 4) (N := some 96) (v := ?_) (a' := ?_) #[true, true, true, true, true, false, false] rfl rfl (by kernel_rfl) (fun _ _ _ h => h) (Or.inl ⟨by rfl, ?_⟩) hHeld ?_ ?_
                                        rotate_left
                                        · rintro w' ⟨s0, s1, s2, s3⟩
                                          go_simp
                                          with_reducible rfl
                                        rotate_left
                                        · simp only [Act.put, List.setIfInBounds_toArray, List.set_cons_zero, List.set_cons_succ, i64_w, i32_w]
                                          rfl
                                        refine one_ (i := 5) (N := some 97) #[true, true, true, true, true, true, false] rfl rfl (by kernel_rfl) (by decide) (fun K hK => ?_)
                                        refine goes_ Try.func53 (by kernel_rfl) rfl #[.agg #[.int .u8 ((rd_T56 t668 x87_3).f0), .slice A684_1 ((rd_T56 t668 x87_3).f1).length c684_1], .agg #[.int .u8 ((rd_T56 y679 x87_3).f0), .slice A682_1 ((rd_T56 y679 x87_3).f1).length c682_1]] (by rfl) rfl rfl (by (try simp only [List.map_toArray, List.map_cons, List.map_nil]); first | done | rfl | (simp only [List.length_drop, List.length_take]; rfl)) ?_
                                        with_reducible refine (frame_Same.calls ((rd_T56 t668 x87_3).f0) _ _ ((rd_T56 t668 x87_3).f1) ((rd_T56 y679 x87_3).f0) _ _ ((rd_T56 y679 x87_3).f1) true _ ?side1 ?side2 ?side3 ?side4 A44.out).mono ?_
                                        (case side1 => repeat (first | exact (by repeat (first | (with_reducible exact HR684_1.out) | (with_reducible refine Kd.C_alloc ?_ _) | (with_reducible refine Kd.C_drewN ?_ _) | (with_reducible refine Kd.C_drew ?_) | exact HR684_1.out)) | (with_reducible refine Kd.C_alloc ?_ _) | (with_reducible refine Kd.C_drewN ?_ _) | (with_reducible refine Kd.C_drew ?_)))
                                        (case side2 => exact HC684_1.out)
                                        (case side3 => repeat (first | exact ((Kd.V_reads' (by (with_reducible repeat (first | apply Kd.V_alloc | apply Kd.V_drewN | apply Kd.V_drew)); exact HL682_1.out)).2.2) | (with_reducible refine Kd.C_alloc ?_ _) | (with_reducible refine Kd.C_drewN ?_ _) | (with_reducible refine Kd.C_drew ?_)))
                                        (case side4 => exact HC682_1.out)
                                        rintro e w51 ⟨rfl, hb⟩
                                        have HS2_ := (hb.cell (World.block_lt_of_cell? _ _ (hHeld.2.2.1))).trans (hHeld.2.2.1)
                                        have HS3_ := (hb.cell (World.block_lt_of_cell? _ _ (hHeld.2.2.2))).trans (hHeld.2.2.2)
                                        refine ⟨_, rfl, ?_⟩
                                        have n0_ := Aside0.mk (Kd.N_below (by (with_reducible repeat (first | apply Kd.N_alloc | apply Kd.N_drewN | apply Kd.N_drew)); exact HO_11.out) hb)
                                        have n1_ := Aside0.mk (Kd.N_below (by (with_reducible repeat (first | apply Kd.N_alloc | apply Kd.N_drewN | apply Kd.N_drew)); exact HO_85.out) hb)
                                        have n2_ := Aside0.mk (Kd.V_below (by (with_reducible repeat (first | apply Kd.V_alloc | apply Kd.V_drewN | apply Kd.V_drew)); exact HL682_1.out) hb)
                                        have n3_ := Aside0.mk (Kd.V_below (by (with_reducible repeat (first | apply Kd.V_alloc | apply Kd.V_drewN | apply Kd.V_drew)); exact HL684_1.out) hb)
                                        have n4_ := Aside0.mk (blk_below (g := gb683) (o := .cells #[.int .u8 ((rd_T56 y679 x87_3).f0), .slice A682_1 ((rd_T56 y679 x87_3).f1).length c682_1] 56 (0, 0)) (by (with_reducible repeat (first | refine blk_drewN ?_ _ | refine blk_drew ?_ | refine blk_alloc ?_ _)); exact BK683.out) hb)
                                        have n5_ := Aside0.mk (Kd.C_below (by repeat (first | (with_reducible exact HR684_1.out) | (with_reducible refine Kd.C_alloc ?_ _) | (with_reducible refine Kd.C_drewN ?_ _) | (with_reducible refine Kd.C_drew ?_) | exact HR684_1.out)) hb)
                                        have n6_ := Aside0.mk (below_step (by repeat (first | (with_reducible first | exact HB.out | apply below_alloc | apply pw_below_drewN | apply below_drew1 | refine below_set ?_ GE683.out) | exact HB.out)) hb)
                                        clear HO_11
                                        clear HO_85
                                        clear HL682_1
                                        clear HL684_1
                                        clear BK683
                                        clear HR684_1
                                        clear HB
                                        have HO_11 := n0_
                                        have HO_85 := n1_
                                        have HL682_1 := n2_
                                        have HL684_1 := n3_
                                        have BK683 := n4_
                                        have HR684_1 := n5_
                                        have HB := n6_
                                        clear n0_ n1_ n2_ n3_ n4_ n5_ n6_
                                        (try clear hb)
                                        (try clear hb2)
                                        (try clear hk)
                                        (try clear hi)
                                        refine hK.out _ _ ⟨(blk_cell BK683.out 0).trans rfl, (blk_cell BK683.out 1).trans rfl, HS2_, HS3_⟩ (fun hHeld => ?_)
                                        clear hK K
                                        refine norm_ (a' := ?_) ?_ ?_
                                        rotate_left
                                        · show Act.put _ (some 97) _ = _
                                          simp only [Act.put, List.setIfInBounds_toArray, List.set_cons_zero, List.set_cons_succ, i64_w, i32_w]
                                          rfl
                                        refine pure_ (i := 6) (N := some 98) (v := ?_) (a' := ?_) #[true, true, true, true, true, true, true] rfl rfl (by kernel_rfl) (fun _ _ _ h => h) (Or.inl ⟨by rfl, ?_⟩) ?_ ?_
                                        rotate_left
                                        · intro w'
                                          go_simp
                                          with_reducible rfl
                                        rotate_left
                                        · simp only [Act.put, List.setIfInBounds_toArray, List.set_cons_zero, List.set_cons_succ, i64_w, i32_w]
                                          rfl
                                        refine done_ (by kernel_rfl) ?_
                                        try go_wp2
                                        go_roundg k3
                                        case measure => have := HJ4.out; have := HJ14.out; have := HK3.out; omega
                                        case rel => exact ⟨(wrap64 (x87_3 + 1)), (by first | rfl | (simp; done) | (simp [*]; done)), H', ⟨by have := HJ4.out; have := HJ14.out; have := HK3.out; omega⟩, ⟨by (with_reducible repeat (first | apply Kd.N_alloc | apply Kd.N_drewN | apply Kd.N_drew)); exact Kd.N_mono HO_11.out (fun _ hk => hk.1)⟩, ⟨by (with_reducible repeat (first | apply Kd.N_alloc | apply Kd.N_drewN | apply Kd.N_drew)); exact Kd.N_mono HO_85.out (fun _ hk => hk.1)⟩, ⟨by repeat (first | (with_reducible first | exact HB.out | apply below_alloc | apply pw_below_drewN | apply below_drew1 | refine below_set ?_ GE683.out) | exact HB.out)⟩⟩
                                      · replace c45 := Bool.eq_false_iff.mpr c45
                                        subst c45
                                        have H1 : (some false) = some r := by rw [if_neg (show ¬ (false = true) by decide)] at H; exact H
                                        clear H
                                        have H := H1
                                        clear H1
                                        obtain rfl := Option.some.inj H
                                        have p682 : 0 ≤ (x87_3 : Int) := of_decide_eq_true (by first | (with_reducible assumption) | assumption)
                                        have q682 : x87_3 < (y679.length : Int) := of_decide_eq_true (by first | (with_reducible assumption) | assumption)
                                        obtain ⟨ad682, A682_1, c682_1, e682, hx682_0, hx682_1, hl682_1, hi682_1⟩ := at_T56 (Kd.N_reads' HO_85.out).2.2 x87_3 p682 q682
                                        cases e682
                                        obtain ⟨ce682, hce682, hMe682, hcc682⟩ := Kd.N_get HO_85.out z56 x87_3 p682 (by first | exact q682 | exact of_decide_eq_true (by first | (with_reducible assumption) | assumption) | (have e_ := (Kd.N_reads' HO_85.out).1; omega))
                                        obtain ⟨ua682_1, uc682_1, rfl, ul682_1, ge682_1⟩ := k56_openF hMe682
                                        have hv682_1 := hcc682 1 _ rfl
                                        rw [add_field _ _ 1 (by omega)] at hv682_1
                                        replace hv682_1 := Option.some.inj (hv682_1.symm.trans hx682_1)
                                        injection hv682_1 with hva_ hvn_ hvc_
                                        rw [hva_] at ge682_1
                                        rw [hvc_] at ul682_1
                                        have HL682_1 := Aside0.mk (show Kd.V (Kd.int .u8) 5 _ w.heap.size _ _ ((rd_T56 y679 x87_3).f1) from Kd.V_mk ul682_1 ge682_1)
                                        clear hva_ hvn_ hvc_ ge682_1 ul682_1
                                        clear hcc682 hce682
                                        have HR682_1 := Aside0.mk hi682_1
                                        have HC682_1 := Aside0.mk hl682_1
                                        clear hi682_1 hl682_1
                                        replace p682 := eq_true p682
                                        replace q682 := eq_true q682
                                        try go_wp2_with (first | ((with_reducible refine gate_dst (N := 15) rfl ?_); (try (refine gate_guard (by rfl) ?_; dsimp only)); refine box_event ?hg (N := 15) ?hd (cs := #[.int .u8 0, .slice none 0 0]) (t := 56) ?hr ?_; (case hd => rfl); (case hg => rfl); (case hr => first | (go_simp; done) | (go_simp; rfl)); intro gb683 hg w52 hbox hb; have n0_ := Aside0.mk (Kd.N_below (Kd.N_elderB (by (with_reducible repeat (first | apply Kd.N_alloc | apply Kd.N_drewN | apply Kd.N_drew)); exact HO_11.out) gb683 (Nat.le_of_eq hg.symm)) hb); have n1_ := Aside0.mk (Kd.N_below (Kd.N_elderB (by (with_reducible repeat (first | apply Kd.N_alloc | apply Kd.N_drewN | apply Kd.N_drew)); exact HO_85.out) gb683 (Nat.le_of_eq hg.symm)) hb); have n2_ := Aside0.mk (Kd.V_below (Kd.V_elderB (by (with_reducible repeat (first | apply Kd.V_alloc | apply Kd.V_drewN | apply Kd.V_drew)); exact HL682_1.out) gb683 (Nat.le_of_eq hg.symm)) hb); have n3_ := Aside0.mk (Kd.C_below (by repeat (first | (with_reducible exact HR682_1.out) | (with_reducible refine Kd.C_alloc ?_ _) | (with_reducible refine Kd.C_drewN ?_ _) | (with_reducible refine Kd.C_drew ?_) | exact HR682_1.out)) hb); have n4_ := Aside0.mk (below_step (by repeat (first | (with_reducible first | exact HB.out | apply below_alloc | apply pw_below_drewN | apply below_drew1) | exact HB.out)) hb); have n5_ := Aside0.mk (hbox); have n6_ := Aside0.mk ((by rw [hg]; exact (below_size (by repeat (first | (with_reducible first | exact HB.out | apply below_alloc | apply pw_below_drewN | apply below_drew1) | exact HB.out))) : w.heap.size ≤ gb683)); have n7_ := Aside0.mk ((by rw [hg]; exact (below_size (by repeat (first | (with_reducible first | exact HB.out | apply below_alloc | apply pw_below_drewN | apply below_drew1) | exact HB.out))) : w.heap.size ≤ gb683)); clear HO_11; clear HO_85; clear HL682_1; clear HR682_1; clear HB; have HO_11 := n0_; have HO_85 := n1_; have HL682_1 := n2_; have HR682_1 := n3_; have HB := n4_; have BK683 := n5_; have GW683 := n6_; have GE683 := n7_; clear n0_ n1_ n2_ n3_ n4_ n5_ n6_ n7_; clear hb hbox hg; have hcz53_0 : w52.cell? ⟨gb683, 0, none⟩ = some (.int .u8 0) := (blk_cell BK683.out 0).trans rfl; have hcz53_1 : w52.cell? ⟨gb683, 1, none⟩ = some (.slice none 0 0) := (blk_cell BK683.out 1).trans rfl; have hfz53_0 := blk_frozen BK683.out 0; have hfz53_1 := blk_frozen BK683.out 1))
                                        have n0_ : Aside0 (Kd.N k56 56 ((w52.setCell ⟨gb683, 0, none⟩ (.int .u8 ((rd_T56 y679 x87_3).f0))).setCell ⟨gb683, 1, none⟩ (.slice A682_1 ((rd_T56 y679 x87_3).f1).length c682_1)) w.heap.size (fun k_ => some k_ ≠ (.slice (some ad682) y679.length co39 : Value).ownBlock ∧ k_ ≠ gb683) v671 t668) := ⟨by (with_reducible repeat (first | apply Kd.N_alloc | apply Kd.N_drewN | apply Kd.N_drew)); exact Kd.N_mono (Kd.N_far (p := ⟨gb683, 1, none⟩) (Kd.N_far (p := ⟨gb683, 0, none⟩) (Kd.N_mono HO_11.out (fun k_ hk => (⟨hk, hk.2⟩ : _ ∧ k_ ≠ gb683))) (fun _ hk => hk.2) (.int .u8 ((rd_T56 y679 x87_3).f0))) (fun _ hk => hk.2) (.slice A682_1 ((rd_T56 y679 x87_3).f1).length c682_1)) (fun _ hk => ⟨hk.1.1, hk.1.2⟩)⟩
                                        have n1_ : Aside0 (Kd.N k56 56 ((w52.setCell ⟨gb683, 0, none⟩ (.int .u8 ((rd_T56 y679 x87_3).f0))).setCell ⟨gb683, 1, none⟩ (.slice A682_1 ((rd_T56 y679 x87_3).f1).length c682_1)) w.heap.size (fun k_ => some k_ ≠ (v671 : Value).ownBlock ∧ k_ ≠ gb683) (.slice (some ad682) y679.length co39) y679) := ⟨by (with_reducible repeat (first | apply Kd.N_alloc | apply Kd.N_drewN | apply Kd.N_drew)); exact Kd.N_mono (Kd.N_far (p := ⟨gb683, 1, none⟩) (Kd.N_far (p := ⟨gb683, 0, none⟩) (Kd.N_mono HO_85.out (fun k_ hk => (⟨hk, hk.2⟩ : _ ∧ k_ ≠ gb683))) (fun _ hk => hk.2) (.int .u8 ((rd_T56 y679 x87_3).f0))) (fun _ hk => hk.2) (.slice A682_1 ((rd_T56 y679 x87_3).f1).length c682_1)) (fun _ hk => ⟨hk.1.1, hk.1.2⟩)⟩
                                        have n2_ : Aside0 (Kd.V (Kd.int .u8) 5 ((w52.setCell ⟨gb683, 0, none⟩ (.int .u8 ((rd_T56 y679 x87_3).f0))).setCell ⟨gb683, 1, none⟩ (.slice A682_1 ((rd_T56 y679 x87_3).f1).length c682_1)) w.heap.size (fun k_ => some k_ ≠ (v671 : Value).ownBlock ∧ some k_ ≠ (.slice (some ad682) y679.length co39 : Value).ownBlock ∧ k_ ≠ gb683) (.slice A682_1 ((rd_T56 y679 x87_3).f1).length c682_1) ((rd_T56 y679 x87_3).f1)) := ⟨by (with_reducible repeat (first | apply Kd.V_alloc | apply Kd.V_drewN | apply Kd.V_drew)); exact Kd.V_mono (Kd.V_far (p := ⟨gb683, 1, none⟩) (Kd.V_far (p := ⟨gb683, 0, none⟩) (Kd.V_mono HL682_1.out (fun k_ hk => (⟨hk, hk.2⟩ : _ ∧ k_ ≠ gb683))) (fun _ hk => hk.2) (.int .u8 ((rd_T56 y679 x87_3).f0))) (fun _ hk => hk.2) (.slice A682_1 ((rd_T56 y679 x87_3).f1).length c682_1)) (fun _ hk => ⟨hk.1.1.1, ⟨hk.1.1.2, hk.1.2⟩⟩)⟩
                                        have n3_ : Aside0 (((w52.setCell ⟨gb683, 0, none⟩ (.int .u8 ((rd_T56 y679 x87_3).f0))).setCell ⟨gb683, 1, none⟩ (.slice A682_1 ((rd_T56 y679 x87_3).f1).length c682_1)).heap[gb683]? = some (.cells #[.int .u8 ((rd_T56 y679 x87_3).f0), .slice A682_1 ((rd_T56 y679 x87_3).f1).length c682_1] 56 (0, 0))) := ⟨by (with_reducible repeat (first | refine blk_drewN ?_ _ | refine blk_drew ?_ | refine blk_alloc ?_ _)); refine blk_put (cs := #[.int .u8 ((rd_T56 y679 x87_3).f0), .slice none 0 0]) ?_ 1 _ rfl; (with_reducible repeat (first | refine blk_drewN ?_ _ | refine blk_drew ?_ | refine blk_alloc ?_ _)); refine blk_put (cs := #[.int .u8 0, .slice none 0 0]) ?_ 0 _ rfl; (with_reducible repeat (first | refine blk_drewN ?_ _ | refine blk_drew ?_ | refine blk_alloc ?_ _)); exact BK683.out⟩
                                        have n4_ : Aside0 (Below w.heap.size w ((w52.setCell ⟨gb683, 0, none⟩ (.int .u8 ((rd_T56 y679 x87_3).f0))).setCell ⟨gb683, 1, none⟩ (.slice A682_1 ((rd_T56 y679 x87_3).f1).length c682_1))) := ⟨by repeat (first | (with_reducible first | exact HB.out | apply below_alloc | apply pw_below_drewN | apply below_drew1 | refine below_set ?_ GE683.out) | exact HB.out)⟩
                                        (try clear HO_11)
                                        (try clear HO_85)
                                        (try clear HL682_1)
                                        (try clear BK683)
                                        (try clear HB)
                                        generalize ((w52.setCell ⟨gb683, 0, none⟩ (.int .u8 ((rd_T56 y679 x87_3).f0))).setCell ⟨gb683, 1, none⟩ (.slice A682_1 ((rd_T56 y679 x87_3).f1).length c682_1)) = w54 at n0_ n1_ n2_ n3_ n4_ ⊢
                                        have HO_11 := n0_
                                        have HO_85 := n1_
                                        have HL682_1 := n2_
                                        have BK683 := n3_
                                        have HB := n4_
                                        clear n0_ n1_ n2_ n3_ n4_
                                        have n0_ := Aside0.mk (Kd.N_drew HO_11.out)
                                        have n1_ := Aside0.mk (Kd.N_drew HO_85.out)
                                        have n2_ := Aside0.mk (Kd.V_drew HL682_1.out)
                                        have n3_ := Aside0.mk (blk_drew BK683.out)
                                        have n4_ := Aside0.mk (below_drew1 HB.out)
                                        clear HO_11
                                        clear HO_85
                                        clear HL682_1
                                        clear BK683
                                        clear HB
                                        have HO_11 := n0_
                                        have HO_85 := n1_
                                        have HL682_1 := n2_
                                        have BK683 := n3_
                                        have HB := n4_
                                        clear n0_ n1_ n2_ n3_ n4_
                                        obtain ⟨Ao56, co56, eo56⟩ := Kd.N_slice HO_11.out
                                        (first | subst eo56 | (injection eo56 with f1_ f2_ f3_; have f4_ := f1_.symm; have f5_ := f3_.symm; clear f1_ f2_ f3_; subst f4_; subst f5_))
                                        have p684 : 0 ≤ (x87_3 : Int) := of_decide_eq_true (by first | (with_reducible assumption) | assumption)
                                        have q684 : x87_3 < (t668.length : Int) := of_decide_eq_true (by first | (with_reducible assumption) | assumption)
                                        obtain ⟨ad684, A684_1, c684_1, e684, hx684_0, hx684_1, hl684_1, hi684_1⟩ := at_T56 (Kd.N_reads' HO_11.out).2.2 x87_3 p684 q684
                                        cases e684
                                        obtain ⟨ce684, hce684, hMe684, hcc684⟩ := Kd.N_get HO_11.out z56 x87_3 p684 (by first | exact q684 | exact of_decide_eq_true (by first | (with_reducible assumption) | assumption) | (have e_ := (Kd.N_reads' HO_11.out).1; omega))
                                        obtain ⟨ua684_1, uc684_1, rfl, ul684_1, ge684_1⟩ := k56_openF hMe684
                                        have hv684_1 := hcc684 1 _ rfl
                                        rw [add_field _ _ 1 (by omega)] at hv684_1
                                        replace hv684_1 := Option.some.inj (hv684_1.symm.trans hx684_1)
                                        injection hv684_1 with hva_ hvn_ hvc_
                                        rw [hva_] at ge684_1
                                        rw [hvc_] at ul684_1
                                        have HL684_1 := Aside0.mk (show Kd.V (Kd.int .u8) 5 _ w.heap.size _ _ ((rd_T56 t668 x87_3).f1) from Kd.V_mk ul684_1 ge684_1)
                                        clear hva_ hvn_ hvc_ ge684_1 ul684_1
                                        clear hcc684 hce684
                                        have HR684_1 := Aside0.mk hi684_1
                                        have HC684_1 := Aside0.mk hl684_1
                                        clear hi684_1 hl684_1
                                        replace p684 := eq_true p684
                                        replace q684 := eq_true q684
                                        refine start_ (n := 7) (S := fun w' => w'.cell? ⟨gb683, 0, none⟩ = some (.int .u8 ((rd_T56 y679 x87_3).f0)) ∧ w'.cell? ⟨gb683, 1, none⟩ = some (.slice A682_1 ((rd_T56 y679 x87_3).f1).length c682_1) ∧ w'.cell? (ad684.add ((x87_3).toNat * 2)) = some (.int .u8 ((rd_T56 t668 x87_3).f0)) ∧ w'.cell? ⟨(ad684.add ((x87_3).toNat * 2)).block, (ad684.add ((x87_3).toNat * 2)).off + 1, none⟩ = some (.slice A684_1 ((rd_T56 t668 x87_3).f1).length c684_1)) (ds := []) #[false, false, false, false, false, false, false] (by kernel_rfl) rfl rfl ⟨(blk_cell BK683.out 0).trans rfl, (blk_cell BK683.out 1).trans rfl, hx684_0, hx684_1⟩ (fun hHeld => ?_)
                                        generalize w54.drew = w55 at HO_11 HO_85 HL682_1 BK683 HB HL684_1 HR684_1 hx684_0 hx684_1 hHeld ⊢
                                        refine pure_ (i := 0) (N := some 92) (v := ?_) (a' := ?_) #[true, false, false, false, false, false, false] rfl rfl (by kernel_rfl) (fun _ _ _ h => h) (Or.inl ⟨by rfl, ?_⟩) ?_ ?_
                                        rotate_left
                                        · intro w'
                                          go_simp
                                          with_reducible rfl
                                        rotate_left
                                        · simp only [Act.put, List.setIfInBounds_toArray, List.set_cons_zero, List.set_cons_succ, i64_w, i32_w]
                                          rfl
                                        refine pure_ (i := 1) (N := some 93) (v := ?_) (a' := ?_) #[true, true, false, false, false, false, false] rfl rfl (by kernel_rfl) (fun _ _ _ h => h) (Or.inl ⟨by rfl, ?_⟩) ?_ ?_
                                        rotate_left
                                        · intro w'
                                          go_simp
                                          with_reducible rfl
                                        rotate_left
                                        · simp only [Act.put, List.setIfInBounds_toArray, List.set_cons_zero, List.set_cons_succ, i64_w, i32_w]
                                          rfl
                                        refine pure_ (i := 2) (N := some 94) (v := ?_) (a' := ?_) #[true, true, true, false, false, false, false] rfl rfl (by kernel_rfl) (fun _ _ _ h => h) (Or.inl ⟨by rfl, ?_⟩) ?_ ?_
                                        rotate_left
                                        · intro w'
                                          go_simp
                                          with_reducible rfl
                                        rotate_left
                                        · simp only [Act.put, List.setIfInBounds_toArray, List.set_cons_zero, List.set_cons_succ, i64_w, i32_w]
                                          rfl
                                        refine take_ (i := 3) (N := some 95) (v := ?_) (a' := ?_) #[true, true, true, true, false, false, false] rfl rfl (by kernel_rfl) (fun _ _ _ h => h) (Or.inl ⟨by rfl, ?_⟩) hHeld ?_ ?_
                                        rotate_left
                                        · rintro w' ⟨s0, s1, s2, s3⟩
                                          go_simp
                                          with_reducible rfl
                                        rotate_left
                                        · simp only [Act.put, List.setIfInBounds_toArray, List.set_cons_zero, List.set_cons_succ, i64_w, i32_w]
                                          rfl
                                        refine take_ (i := 4) (N := some 96) (v := ?_) (a' := ?_) #[true, true, true, true, true, false, false] rfl rfl (by kernel_rfl) (fun _ _ _ h => h) (Or.inl ⟨by rfl, ?_⟩) hHeld ?_ ?_
                                        rotate_left
                                        · rintro w' ⟨s0, s1, s2, s3⟩
                                          go_simp
                                          with_reducible rfl
                                        rotate_left
                                        · simp only [Act.put, List.setIfInBounds_toArray, List.set_cons_zero, List.set_cons_succ, i64_w, i32_w]
                                          rfl
                                        refine one_ (i := 5) (N := some 97) #[true, true, true, true, true, true, false] rfl rfl (by kernel_rfl) (by decide) (fun K hK => ?_)
                                        refine goes_ Try.func53 (by kernel_rfl) rfl #[.agg #[.int .u8 ((rd_T56 t668 x87_3).f0), .slice A684_1 ((rd_T56 t668 x87_3).f1).length c684_1], .agg #[.int .u8 ((rd_T56 y679 x87_3).f0), .slice A682_1 ((rd_T56 y679 x87_3).f1).length c682_1]] (by rfl) rfl rfl (by (try simp only [List.map_toArray, List.map_cons, List.map_nil]); first | done | rfl | (simp only [List.length_drop, List.length_take]; rfl)) ?_
                                        with_reducible refine (frame_Same.calls ((rd_T56 t668 x87_3).f0) _ _ ((rd_T56 t668 x87_3).f1) ((rd_T56 y679 x87_3).f0) _ _ ((rd_T56 y679 x87_3).f1) false _ ?side1 ?side2 ?side3 ?side4 A44.out).mono ?_
                                        (case side1 => repeat (first | exact (by repeat (first | (with_reducible exact HR684_1.out) | (with_reducible refine Kd.C_alloc ?_ _) | (with_reducible refine Kd.C_drewN ?_ _) | (with_reducible refine Kd.C_drew ?_) | exact HR684_1.out)) | (with_reducible refine Kd.C_alloc ?_ _) | (with_reducible refine Kd.C_drewN ?_ _) | (with_reducible refine Kd.C_drew ?_)))
                                        (case side2 => exact HC684_1.out)
                                        (case side3 => repeat (first | exact ((Kd.V_reads' (by (with_reducible repeat (first | apply Kd.V_alloc | apply Kd.V_drewN | apply Kd.V_drew)); exact HL682_1.out)).2.2) | (with_reducible refine Kd.C_alloc ?_ _) | (with_reducible refine Kd.C_drewN ?_ _) | (with_reducible refine Kd.C_drew ?_)))
                                        (case side4 => exact HC682_1.out)
                                        rintro e w57 ⟨rfl, hb⟩
                                        have HS2_ := (hb.cell (World.block_lt_of_cell? _ _ (hHeld.2.2.1))).trans (hHeld.2.2.1)
                                        have HS3_ := (hb.cell (World.block_lt_of_cell? _ _ (hHeld.2.2.2))).trans (hHeld.2.2.2)
                                        refine ⟨_, rfl, ?_⟩
                                        have n0_ := Aside0.mk (Kd.N_below (by (with_reducible repeat (first | apply Kd.N_alloc | apply Kd.N_drewN | apply Kd.N_drew)); exact HO_11.out) hb)
                                        have n1_ := Aside0.mk (Kd.N_below (by (with_reducible repeat (first | apply Kd.N_alloc | apply Kd.N_drewN | apply Kd.N_drew)); exact HO_85.out) hb)
                                        have n2_ := Aside0.mk (Kd.V_below (by (with_reducible repeat (first | apply Kd.V_alloc | apply Kd.V_drewN | apply Kd.V_drew)); exact HL682_1.out) hb)
                                        have n3_ := Aside0.mk (Kd.V_below (by (with_reducible repeat (first | apply Kd.V_alloc | apply Kd.V_drewN | apply Kd.V_drew)); exact HL684_1.out) hb)
                                        have n4_ := Aside0.mk (blk_below (g := gb683) (o := .cells #[.int .u8 ((rd_T56 y679 x87_3).f0), .slice A682_1 ((rd_T56 y679 x87_3).f1).length c682_1] 56 (0, 0)) (by (with_reducible repeat (first | refine blk_drewN ?_ _ | refine blk_drew ?_ | refine blk_alloc ?_ _)); exact BK683.out) hb)
                                        have n5_ := Aside0.mk (Kd.C_below (by repeat (first | (with_reducible exact HR684_1.out) | (with_reducible refine Kd.C_alloc ?_ _) | (with_reducible refine Kd.C_drewN ?_ _) | (with_reducible refine Kd.C_drew ?_) | exact HR684_1.out)) hb)
                                        have n6_ := Aside0.mk (below_step (by repeat (first | (with_reducible first | exact HB.out | apply below_alloc | apply pw_below_drewN | apply below_drew1 | refine below_set ?_ GE683.out) | exact HB.out)) hb)
                                        clear HO_11
                                        clear HO_85
                                        clear HL682_1
                                        clear HL684_1
                                        clear BK683
                                        clear HR684_1
                                        clear HB
                                        have HO_11 := n0_
                                        have HO_85 := n1_
                                        have HL682_1 := n2_
                                        have HL684_1 := n3_
                                        have BK683 := n4_
                                        have HR684_1 := n5_
                                        have HB := n6_
                                        clear n0_ n1_ n2_ n3_ n4_ n5_ n6_
                                        (try clear hb)
                                        (try clear hb2)
                                        (try clear hk)
                                        (try clear hi)
                                        refine hK.out _ _ ⟨(blk_cell BK683.out 0).trans rfl, (blk_cell BK683.out 1).trans rfl, HS2_, HS3_⟩ (fun hHeld => ?_)
                                        clear hK K
                                        refine norm_ (a' := ?_) ?_ ?_
                                        rotate_left
                                        · show Act.put _ (some 97) _ = _
                                          simp only [Act.put, List.setIfInBounds_toArray, List.set_cons_zero, List.set_cons_succ, i64_w, i32_w]
                                          rfl
                                        refine pure_ (i := 6) (N := some 98) (v := ?_) (a' := ?_) #[true, true, true, true, true, true, true] rfl rfl (by kernel_rfl) (fun _ _ _ h => h) (Or.inl ⟨by rfl, ?_⟩) ?_ ?_
                                        rotate_left
                                        · intro w'
                                          go_simp
                                          with_reducible rfl
                                        rotate_left
                                        · simp only [Act.put, List.setIfInBounds_toArray, List.set_cons_zero, List.set_cons_succ, i64_w, i32_w]
                                          rfl
                                        refine done_ (by kernel_rfl) ?_
                                        try go_wp2
                                        go_ret
                                        exact ⟨by first | rfl | (simp [errW_none, errW_some] <;> rfl) | (simp [*, errW_none, errW_some] <;> rfl), by repeat (first | (with_reducible first | exact HB.out | apply below_alloc | apply pw_below_drewN | apply below_drew1 | refine below_set ?_ GE683.out) | exact HB.out)⟩
                                    · rw [if_neg c43] at H
                                      exact absurd H (by simp)
                                  · rw [if_neg c42] at H
                                    exact absurd H (by simp)
                                · rw [if_neg c41] at H
                                  exact absurd H (by simp)
                              · rw [if_neg c40] at H
                                have c40b0 : decide (x87_3 < (y679.length : Int)) = false := decide_eq_false c40
                                clear c40
                                obtain rfl := Option.some.inj H
                                go_wp2
                                go_ret
                                exact ⟨by first | rfl | (simp [errW_none, errW_some] <;> rfl) | (simp [*, errW_none, errW_some] <;> rfl), by repeat (first | (with_reducible first | exact HB.out | apply below_alloc | apply pw_below_drewN | apply below_drew1) | exact HB.out)⟩
                        · rw [if_neg c32] at H
                          exact absurd H (by simp)
                      · rw [if_neg c31] at H
                        exact absurd H (by simp)
              · rw [if_neg c13] at H
                exact absurd H (by simp)
            · rw [if_neg c12] at H
              exact absurd H (by simp)
          · rw [if_neg c11] at H
            have c11b0 : (t651 == 0) = false := beq_eq_false_iff_ne.mpr c11
            have c11b1 : (t651 != 0) = true := bne_iff_ne.mpr c11
            obtain rfl := Option.some.inj H
            go_wp2_with (first | ((with_reducible refine gate_callee (f := 49) rfl ?_); refine goesL_ (some 28) rfl rfl Try.func49 (by kernel_rfl) rfl #[.slice A0 l0.length c0] rfl (by (try simp only [List.map_toArray, List.map_cons, List.map_nil]); first | done | rfl | (simp only [List.length_drop, List.length_take]; rfl)) ?_; (with_reducible refine (frame_All.calls kj4 _ _ l0 t649 t650 t651 _ ?side1 ?side2 A9.out).mono ?_); (case side1 => repeat (first | exact (Kd.C_below HR0.out HB.out) | (with_reducible refine Kd.C_alloc ?_ _) | (with_reducible refine Kd.C_drewN ?_ _) | (with_reducible refine Kd.C_drew ?_))); (case side2 => exact HC0.out); rintro e w58 ⟨v652, rfl, ho0, hb⟩; refine ⟨_, rfl, ?_⟩; have n0_ := Aside0.mk (Kd.N_lower (Kd.N_mono (ok' := fun k_ => True) (Kd.S_N (Kd.S_bound ho0)) (fun k_ hk_ => trivial)) (below_size (by repeat (first | (with_reducible first | exact HB.out | apply below_alloc | apply pw_below_drewN | apply below_drew1) | exact HB.out)))); have n1_ := Aside0.mk (below_step (by repeat (first | (with_reducible first | exact HB.out | apply below_alloc | apply pw_below_drewN | apply below_drew1) | exact HB.out)) hb); clear HB; have HO653 := n0_; have HB := n1_; clear n0_ n1_; (try clear hb); (try clear hb2); (try clear hk); (try clear hi); (try clear ho0)) | ((with_reducible refine gate_callee (f := 49) rfl ?_); refine goesL_ (some 34) rfl rfl Try.func49 (by kernel_rfl) rfl #[.slice A1 l1.length c1] rfl (by (try simp only [List.map_toArray, List.map_cons, List.map_nil]); first | done | rfl | (simp only [List.length_drop, List.length_take]; rfl)) ?_; (with_reducible refine (frame_All.calls kj4 _ _ l1 t654 t655 t656 _ ?side1 ?side2 A10.out).mono ?_); (case side1 => repeat (first | exact (Kd.C_below HR1.out HB.out) | (with_reducible refine Kd.C_alloc ?_ _) | (with_reducible refine Kd.C_drewN ?_ _) | (with_reducible refine Kd.C_drew ?_))); (case side2 => exact HC1.out); rintro e w59 ⟨v657, rfl, ho0, hb⟩; refine ⟨_, rfl, ?_⟩; have n0_ := Aside0.mk (Kd.N_elder' (by (with_reducible repeat (first | apply Kd.N_alloc | apply Kd.N_drewN | apply Kd.N_drew)); exact HO653.out) (Kd.N_base (Kd.S_N ho0)) hb); have n1_ := Aside0.mk (Kd.N_lower (Kd.N_mono (ok' := fun k_ => some k_ ≠ (v652 : Value).ownBlock) (Kd.S_N (Kd.S_bound ho0)) (fun k_ hk_ => (Kd.fresh' (Kd.N_lt (by (with_reducible repeat (first | apply Kd.N_alloc | apply Kd.N_drewN | apply Kd.N_drew)); exact HO653.out)) k_ hk_.2.1))) (below_size (by repeat (first | (with_reducible first | exact HB.out | apply below_alloc | apply pw_below_drewN | apply below_drew1) | exact HB.out)))); have n2_ := Aside0.mk (below_step (by repeat (first | (with_reducible first | exact HB.out | apply below_alloc | apply pw_below_drewN | apply below_drew1) | exact HB.out)) hb); clear HO653; clear HB; have HO653 := n0_; have HO658 := n1_; have HB := n2_; clear n0_ n1_ n2_; (try clear hb); (try clear hb2); (try clear hk); (try clear hi); (try clear ho0)))
            go_ret
            exact ⟨by first | rfl | (simp [errW_none, errW_some] <;> rfl) | (simp [*, errW_none, errW_some] <;> rfl), by repeat (first | (with_reducible first | exact HB.out | apply below_alloc | apply pw_below_drewN | apply below_drew1) | exact HB.out)⟩
  · replace c4 := Bool.eq_false_iff.mpr c4
    subst c4
    have H1 : (some false) = some r := by rw [if_neg (show ¬ (false = true) by decide)] at H; exact H
    clear H
    have H := H1
    clear H1
    obtain rfl := Option.some.inj H
    go_enter Try.func15, Try.ntmps15
    go_wp2_with (first | ((with_reducible refine gate_callee (f := 44) rfl ?_); refine goesL_ (some 16) rfl rfl Try.func44 (by kernel_rfl) rfl #[] rfl (by (try simp only [List.map_toArray, List.map_cons, List.map_nil]); first | done | rfl | (simp only [List.length_drop, List.length_take]; rfl)) ?_; (with_reducible refine (tumbrellaw04_awake.calls  false _ A3.out).mono ?_); rintro e w60 ⟨rfl, hb⟩; refine ⟨_, rfl, ?_⟩; have n0_ := Aside0.mk (below_step (by repeat (first | (with_reducible first | exact HB.out | apply below_alloc | apply pw_below_drewN | apply below_drew1) | exact HB.out)) hb); clear HB; have HB := n0_; clear n0_; (try clear hb); (try clear hb2); (try clear hk); (try clear hi)))
    go_ret
    exact ⟨by first | rfl | (simp [errW_none, errW_some] <;> rfl) | (simp [*, errW_none, errW_some] <;> rfl), by repeat (first | (with_reducible first | exact HB.out | apply below_alloc | apply pw_below_drewN | apply below_drew1) | exact HB.out)⟩

/-- THE ONE PURE STATEMENT of tumbrellaw04_FrameJoins: yours. -/
def tumbrellaw04_FrameJoins.Pure : Prop := ∀ (l0 : List Int) (l1 : List Int), l0.length ≤ maxLen → l0.length * 1 ≤ 140737488351232 → (∀ x ∈ l0, (Lit.int .u8 x).wf = true) → l1.length ≤ maxLen → l1.length * 1 ≤ 140737488351232 → (∀ x ∈ l1, (Lit.int .u8 x).wf = true) → ∃ k, tumbrellaw04_FrameJoins.f k l0 l1 = some true
theorem tumbrellaw04_FrameJoins.walk (P : tumbrellaw04_FrameJoins.Pure) (a0 : Option Addr) (len0 cap0 : Nat) (z0 : List Int) (a1 : Option Addr) (len1 cap1 : Nat) (z1 : List Int) (w : World) (w0 : (a0 = none ∧ len0 = 0 ∧ cap0 = 0 ∧ z0 = []) ∨ ∃ x, a0 = some x ∧ len0 ≤ cap0 ∧ cap0 ≤ maxLen ∧ z0.length = cap0 ∧ (∀ i, i < z0.length → w.cell? (x.add i) = some (.int .u8 (z0.getD i 0))) ∧ ∀ n ∈ z0, (Lit.int .u8 n).wf = true) (y0 : len0 * 1 ≤ 140737488351232) (w1 : (a1 = none ∧ len1 = 0 ∧ cap1 = 0 ∧ z1 = []) ∨ ∃ x, a1 = some x ∧ len1 ≤ cap1 ∧ cap1 ≤ maxLen ∧ z1.length = cap1 ∧ (∀ i, i < z1.length → w.cell? (x.add i) = some (.int .u8 (z1.getD i 0))) ∧ ∀ n ∈ z1, (Lit.int .u8 n).wf = true) (y1 : len1 * 1 ≤ 140737488351232) :
    Calls Try.prog 15 #[.slice a0 len0 cap0, .slice a1 len1 cap1] w fun e w' => e = .returned (.bool true) ∧ Below w.heap.size w w' := by
  obtain ⟨l0, rfl, hr0, hm0, hw0, hc0⟩ := ReadsInt.ofRowC w0
  obtain ⟨l1, rfl, hr1, hm1, hw1, hc1⟩ := ReadsInt.ofRowC w1
  obtain ⟨k, h⟩ := P l0 l1 hm0 y0 hw0 hm1 y1 hw1
  refine (tumbrellaw04_FrameJoins.calls k _ _ l0 _ _ l1 true w (Kd.C_of_reads (d := (0 : Int)) (h1 := fun _ => rfl) hr0) hc0 (Kd.C_of_reads (d := (0 : Int)) (h1 := fun _ => rfl) hr1) hc1 h).mono ?_
  rintro e w' ⟨rfl, hd⟩
  exact ⟨rfl, hd⟩

end Go.Proofs.Ytojepleodijdeaa.B
