/- Own texts and printed ones, those declarations alone that this claim needs, laid into one text by a program of this session. -/
import Derived.Test.YtojepleodijdeaaXT1
import Derived.Test.YtojepleodijdeaaXT2
import Derived.Test.YtojepleodijdeaaXT3
namespace Go.Proofs.Ytojepleodijdeaa.B
open Go.RowKit Go.Proofs.YtojepleodijdeaaW.PrintWords Go.Proofs.YtojepleodijdeaaW.PrintLast Go.Proofs.YtojepleodijdeaaW.PrintMore
attribute [local go_sem] max2_int min2_int max_two min_two max_three min_three max_four min_four   -- for this text's walks alone
set_option linter.unusedVariables false
set_option linter.unusedSimpArgs false
def tumbrelref05_Ints.l0 : Nat → List Int → List Int → Int → Option (Bool)
  | 0, _, _, _ => none
  | k + 1, x0, x1, x5 => if x5 < (x0.length : Int) then (if 0 ≤ x5 then (if x5 < (x1.length : Int) then (if (rd x0 x5) = (rd x1 x5) then (tumbrelref05_Ints.l0 k x0 x1 (wrap64 (x5 + 1))) else (some false)) else (none)) else (none)) else (some true)
def tumbrelref05_Ints.f (k : Nat) (l0 : List Int) (l1 : List Int) : Option (Bool) := if (l0.length : Int) = (l1.length : Int) then (tumbrelref05_Ints.l0 k l0 l1 0) else (some false)
theorem tumbrelref05_Ints.mono_l : ∀ k, (∀ y0 y1 y2, LeO (tumbrelref05_Ints.l0 k y0 y1 y2) (tumbrelref05_Ints.l0 (k + 1) y0 y1 y2))
  | 0 => fun _ _ _ r h => by simp [tumbrelref05_Ints.l0] at h
  | k + 1 => by
    have ih0 := tumbrelref05_Ints.mono_l k
    · intro y0 y1 y2
      unfold tumbrelref05_Ints.l0
      repeat' first
      | (with_reducible exact ih0 _ _ _)
      | (with_reducible exact LeO.refl _)
      | (with_reducible exact LeO.none _)
      | (with_reducible refine LeO.ite ?_ ?_)
      | (with_reducible refine LeO.bind ?_ (fun _ => ?_))
      | exact ih0 _ _ _
      | exact LeO.none _
      | refine LeO.ite ?_ ?_
      | refine LeO.bind ?_ (fun _ => ?_)
theorem tumbrelref05_Ints.mono : ∀ a0 a1 k, LeO (tumbrelref05_Ints.f k a0 a1) (tumbrelref05_Ints.f (k + 1) a0 a1) := by
  intro a0 a1 k
  have ih0 := tumbrelref05_Ints.mono_l k
  unfold tumbrelref05_Ints.f
  repeat' first
      | (with_reducible exact ih0 _ _ _)
      | (with_reducible exact LeO.refl _)
      | (with_reducible exact LeO.none _)
      | (with_reducible refine LeO.ite ?_ ?_)
      | (with_reducible refine LeO.bind ?_ (fun _ => ?_))
      | exact ih0 _ _ _
      | exact LeO.none _
      | refine LeO.ite ?_ ?_
      | refine LeO.bind ?_ (fun _ => ?_)
set_option maxHeartbeats 8000000 in
set_option maxRecDepth 100000 in
theorem tumbrelref05_Ints.calls (k : Nat) (A0 : Option Addr) (c0 : Nat) (l0 : List Int) (A1 : Option Addr) (c1 : Nat) (l1 : List Int) (r : Bool) (w : World) (hr0 : Kd.C (Kd.int .i64) w A0 l0.length l0) (hc0 : l0.length ≤ c0) (hr1 : Kd.C (Kd.int .i64) w A1 l1.length l1) (hc1 : l1.length ≤ c1) (h : tumbrelref05_Ints.f k l0 l1 = some r) :
    Calls Try.prog 67 #[.slice A0 l0.length c0, .slice A1 l1.length c1] w fun e w' => e = .returned (.bool r) ∧ Drawn0 w w' := by
  have HR0 := Aside0.mk hr0
  have HC0 := Aside0.mk hc0
  clear hr0 hc0
  have HR1 := Aside0.mk hr1
  have HC1 := Aside0.mk hc1
  clear hr1 hc1
  have H : (if (l0.length : Int) = (l1.length : Int) then (tumbrelref05_Ints.l0 k l0 l1 0) else (some false)) = some r := h
  clear h
  by_cases c3 : (l0.length : Int) = (l1.length : Int)
  · rw [if_pos c3] at H
    have c3b0 : ((l0.length : Int) == (l1.length : Int)) = true := beq_iff_eq.mpr c3
    have c3b1 : ((l0.length : Int) != (l1.length : Int)) = false := bne_eq_false_iff_eq.mpr c3
    have c3b2 : (l0.length == l1.length) = true := by first | simpa using c3 | (simp at c3 ⊢; omega)
    clear c3
    have H' := Aside0.mk H
    clear H
    go_enter Try.func67, Try.ntmps67
    go_wp2
    repeat (go_quiet (fail); try go_wp2)
    go_loopg [5] k (fun kq v5 w' => ∃ (x5_1 : Int), v5 = .int .i64 x5_1 ∧ Aside0 (tumbrelref05_Ints.l0 kq l0 l1 x5_1 = some r) ∧ Aside0 (kq ≤ k) ∧ Drawn0 w w')
    case atStart => exact ⟨(0), (by first | rfl | (simp; done) | (simp [*]; done)), H', ⟨Nat.le_refl _⟩, by repeat (first | exact Drawn0.refl _ | apply Drawn0.step)⟩
    case round =>
      clear H'
      try clear c1
      try clear p2
      try clear c3
      try clear c3b0
      try clear c3b1
      try clear c3b2
      obtain ⟨x5_1, rfl, HA, HK1, ⟨m1, rfl⟩⟩ := hrel
      cases gk with
      | zero => exact absurd HA.out (by simp [tumbrelref05_Ints.l0])
      | succ k1 =>
        have H := HA.out
        clear HA
        simp only [tumbrelref05_Ints.l0] at H
        by_cases c4 : x5_1 < (l0.length : Int)
        · rw [if_pos c4] at H
          have c4b0 : decide (x5_1 < (l0.length : Int)) = true := decide_eq_true c4
          clear c4
          by_cases c5 : 0 ≤ x5_1
          · rw [if_pos c5] at H
            have c5b0 : decide (0 ≤ x5_1) = true := decide_eq_true c5
            clear c5
            by_cases c6 : x5_1 < (l1.length : Int)
            · rw [if_pos c6] at H
              have c6b0 : decide (x5_1 < (l1.length : Int)) = true := decide_eq_true c6
              clear c6
              by_cases c7 : (rd l0 x5_1) = (rd l1 x5_1)
              · rw [if_pos c7] at H
                have c7b0 : ((rd l0 x5_1) == (rd l1 x5_1)) = true := beq_iff_eq.mpr c7
                have c7b1 : ((rd l0 x5_1) != (rd l1 x5_1)) = false := bne_eq_false_iff_eq.mpr c7
                clear c7
                have H' := Aside0.mk H
                clear H
                have p716 : 0 ≤ (x5_1 : Int) := of_decide_eq_true (by first | (with_reducible assumption) | assumption)
                have q716 : x5_1 < (l0.length : Int) := of_decide_eq_true (by first | (with_reducible assumption) | assumption)
                obtain ⟨ad716, e716, hx716_0⟩ := Kd.at_int HR0.out x5_1 p716 q716
                cases e716
                replace p716 := eq_true p716
                replace q716 := eq_true q716
                have p717 : 0 ≤ (x5_1 : Int) := of_decide_eq_true (by first | (with_reducible assumption) | assumption)
                have q717 : x5_1 < (l1.length : Int) := of_decide_eq_true (by first | (with_reducible assumption) | assumption)
                obtain ⟨ad717, e717, hx717_0⟩ := Kd.at_int HR1.out x5_1 p717 q717
                cases e717
                replace p717 := eq_true p717
                replace q717 := eq_true q717
                go_wp2
                repeat (go_quiet (fail); try go_wp2)
                go_roundg k1
                case measure => have := HK1.out; omega
                case rel => exact ⟨(wrap64 (x5_1 + 1)), (by first | rfl | (simp; done) | (simp [*]; done)), H', ⟨by have := HK1.out; omega⟩, by repeat (first | exact Drawn0.refl _ | apply Drawn0.step)⟩
              · rw [if_neg c7] at H
                have c7b0 : ((rd l0 x5_1) == (rd l1 x5_1)) = false := beq_eq_false_iff_ne.mpr c7
                have c7b1 : ((rd l0 x5_1) != (rd l1 x5_1)) = true := bne_iff_ne.mpr c7
                obtain rfl := Option.some.inj H
                have p716 : 0 ≤ (x5_1 : Int) := of_decide_eq_true (by first | (with_reducible assumption) | assumption)
                have q716 : x5_1 < (l0.length : Int) := of_decide_eq_true (by first | (with_reducible assumption) | assumption)
                obtain ⟨ad716, e716, hx716_0⟩ := Kd.at_int HR0.out x5_1 p716 q716
                cases e716
                replace p716 := eq_true p716
                replace q716 := eq_true q716
                have p717 : 0 ≤ (x5_1 : Int) := of_decide_eq_true (by first | (with_reducible assumption) | assumption)
                have q717 : x5_1 < (l1.length : Int) := of_decide_eq_true (by first | (with_reducible assumption) | assumption)
                obtain ⟨ad717, e717, hx717_0⟩ := Kd.at_int HR1.out x5_1 p717 q717
                cases e717
                replace p717 := eq_true p717
                replace q717 := eq_true q717
                go_wp2
                repeat (go_quiet (fail); try go_wp2)
                go_ret
                exact ⟨by first | rfl | (simp; done) | (simp [*]; done), by repeat (first | exact Drawn0.refl _ | apply Drawn0.step)⟩
            · rw [if_neg c6] at H
              exact absurd H (by simp)
          · rw [if_neg c5] at H
            exact absurd H (by simp)
        · rw [if_neg c4] at H
          have c4b0 : decide (x5_1 < (l0.length : Int)) = false := decide_eq_false c4
          clear c4
          obtain rfl := Option.some.inj H
          go_wp2
          repeat (go_quiet (fail); try go_wp2)
          go_ret
          exact ⟨by first | rfl | (simp; done) | (simp [*]; done), by repeat (first | exact Drawn0.refl _ | apply Drawn0.step)⟩
  · rw [if_neg c3] at H
    have c3b0 : ((l0.length : Int) == (l1.length : Int)) = false := beq_eq_false_iff_ne.mpr c3
    have c3b1 : ((l0.length : Int) != (l1.length : Int)) = true := bne_iff_ne.mpr c3
    have c3b2 : (l0.length == l1.length) = false := by first | simpa using c3 | (simp at c3 ⊢; omega)
    obtain rfl := Option.some.inj H
    go_enter Try.func67, Try.ntmps67
    go_wp2
    repeat (go_quiet (fail); try go_wp2)
    go_ret
    exact ⟨by first | rfl | (simp; done) | (simp [*]; done), by repeat (first | exact Drawn0.refl _ | apply Drawn0.step)⟩
end Go.Proofs.Ytojepleodijdeaa.B
namespace Go.Proofs.Ytojepleodijdeaa.B
open Go.RowKit Go.Proofs.YtojepleodijdeaaW.PrintWords Go.Proofs.YtojepleodijdeaaW.PrintLast Go.Proofs.YtojepleodijdeaaW.PrintMore
attribute [local go_sem] max2_int min2_int max_two min_two max_three min_three max_four min_four   -- for this text's walks alone
set_option linter.unusedVariables false
set_option linter.unusedSimpArgs false
def aw5.f (k : Nat)  : Option (Bool) := (record_Bytes.f k 7 (([5] : List Int)) (⟨#[]⟩ : ByteArray)).bind fun bt757 => (if bt757.1.length < 140737488355328 then ((record_All.f k (bt757.1 ++ [1])).bind fun bt764 => ((record_Bytes.f k 7 ([] : List Int) (⟨#[]⟩ : ByteArray)).bind fun bt771 => ((record_Read.f k 99 ([] : List Int)).bind fun bt775 => (if bt757.2 = 0 then (if (bt757.1.length : Int) = 12 then (if (bt764.1.length : Int) = 1 then ((tumbrelref05_Ints.f k bt764.2.1 (([12] : List Int))).bind fun t785 => (if t785 = true then (if bt764.2.2 = 3 then (if bt771.2 = 1 then (if bt775.2.2.2 = 2 then (if 0 < (bt764.1.length : Int) then ((record_Same.f k ((rd_T80 bt764.1 0).f0) ((rd_T80 bt764.1 0).f1) ((rd_T80 bt764.1 0).f2) 7 (([5] : List Int)) (⟨#[]⟩ : ByteArray)).bind fun t790 => (if t790 = true then ((record_Right.f ((rd_T80 bt764.1 0).f0) ((rd_T80 bt764.1 0).f1) ((rd_T80 bt764.1 0).f2)).bind fun t792 => (if t792 = true then (some true) else (some false))) else (some false))) else (none)) else (some false)) else (some false)) else (some false)) else (some false))) else (some false)) else (some false)) else (some false))))) else (none))
theorem aw5.mono : ∀ k, LeO (aw5.f k ) (aw5.f (k + 1) ) := by
  intro  k
  unfold aw5.f
  repeat' first
      | (with_reducible exact record_All.mono _ _)
      | (with_reducible exact record_Bytes.mono _ _ _ _)
      | (with_reducible exact record_Read.mono _ _ _)
      | (with_reducible exact record_Same.mono _ _ _ _ _ _ _)
      | (with_reducible exact tumbrelref05_Ints.mono _ _ _)
      | (with_reducible exact LeO.refl _)
      | (with_reducible exact LeO.none _)
      | (with_reducible refine LeO.ite ?_ ?_)
      | (with_reducible refine LeO.bind ?_ (fun _ => ?_))
      | exact record_All.mono _ _
      | exact record_Bytes.mono _ _ _ _
      | exact record_Read.mono _ _ _
      | exact record_Same.mono _ _ _ _ _ _ _
      | exact tumbrelref05_Ints.mono _ _ _
      | exact LeO.none _
      | refine LeO.ite ?_ ?_
      | refine LeO.bind ?_ (fun _ => ?_)
set_option maxHeartbeats 8000000 in
set_option maxRecDepth 100000 in
theorem aw5.calls (k : Nat)  (r : Bool) (w : World) (h : aw5.f k  = some r) (hr_ : r = true) :
    Calls Try.prog 54 #[] w fun e w' => e = .returned (.bool r) ∧ Below w.heap.size w w' := by
  have hu80 := Try.underlying80
  have hu56 := Try.underlying56
  have HB := Aside0.mk (Below.refl w.heap.size w)
  have H : ((record_Bytes.f k 7 (([5] : List Int)) (⟨#[]⟩ : ByteArray)).bind fun bt757 => (if bt757.1.length < 140737488355328 then ((record_All.f k (bt757.1 ++ [1])).bind fun bt764 => ((record_Bytes.f k 7 ([] : List Int) (⟨#[]⟩ : ByteArray)).bind fun bt771 => ((record_Read.f k 99 ([] : List Int)).bind fun bt775 => (if bt757.2 = 0 then (if (bt757.1.length : Int) = 12 then (if (bt764.1.length : Int) = 1 then ((tumbrelref05_Ints.f k bt764.2.1 (([12] : List Int))).bind fun t785 => (if t785 = true then (if bt764.2.2 = 3 then (if bt771.2 = 1 then (if bt775.2.2.2 = 2 then (if 0 < (bt764.1.length : Int) then ((record_Same.f k ((rd_T80 bt764.1 0).f0) ((rd_T80 bt764.1 0).f1) ((rd_T80 bt764.1 0).f2) 7 (([5] : List Int)) (⟨#[]⟩ : ByteArray)).bind fun t790 => (if t790 = true then ((record_Right.f ((rd_T80 bt764.1 0).f0) ((rd_T80 bt764.1 0).f1) ((rd_T80 bt764.1 0).f2)).bind fun t792 => (if t792 = true then (some true) else (some false))) else (some false))) else (none)) else (some false)) else (some false)) else (some false)) else (some false))) else (some false)) else (some false)) else (some false))))) else (none))) = some r := h
  clear h
  obtain ⟨y754, hy754⟩ : ∃ y_ : List Int, y_ = (([5] : List Int)) := ⟨_, rfl⟩
  replace H : ((record_Bytes.f k 7 y754 (⟨#[]⟩ : ByteArray)).bind fun bt757 => (if bt757.1.length < 140737488355328 then ((record_All.f k (bt757.1 ++ [1])).bind fun bt764 => ((record_Bytes.f k 7 ([] : List Int) (⟨#[]⟩ : ByteArray)).bind fun bt771 => ((record_Read.f k 99 ([] : List Int)).bind fun bt775 => (if bt757.2 = 0 then (if (bt757.1.length : Int) = 12 then (if (bt764.1.length : Int) = 1 then ((tumbrelref05_Ints.f k bt764.2.1 (([12] : List Int))).bind fun t785 => (if t785 = true then (if bt764.2.2 = 3 then (if bt771.2 = 1 then (if bt775.2.2.2 = 2 then (if 0 < (bt764.1.length : Int) then ((record_Same.f k ((rd_T80 bt764.1 0).f0) ((rd_T80 bt764.1 0).f1) ((rd_T80 bt764.1 0).f2) 7 (([5] : List Int)) (⟨#[]⟩ : ByteArray)).bind fun t790 => (if t790 = true then ((record_Right.f ((rd_T80 bt764.1 0).f0) ((rd_T80 bt764.1 0).f1) ((rd_T80 bt764.1 0).f2)).bind fun t792 => (if t792 = true then (some true) else (some false))) else (some false))) else (none)) else (some false)) else (some false)) else (some false)) else (some false))) else (some false)) else (some false)) else (some false))))) else (none))) = some r := by first | (rw [hy754]; with_reducible exact H) | (have H2_ := (Option.bind_some _ _).symm.trans H; rw [hy754]; with_reducible exact H2_) | (have H2_ := (Option.bind_some _ _).symm.trans H; with_reducible exact H2_) | with_reducible exact H | (rw [hy754]; exact H) | exact H
  have Ny754 := Aside0.mk hy754
  clear hy754
  replace H := Option.bind_eq_some_iff.mp H
  obtain ⟨⟨t757, t760⟩, A10, H⟩ := H
  replace H : (if t757.length < 140737488355328 then ((record_All.f k (t757 ++ [1])).bind fun bt764 => ((record_Bytes.f k 7 ([] : List Int) (⟨#[]⟩ : ByteArray)).bind fun bt771 => ((record_Read.f k 99 ([] : List Int)).bind fun bt775 => (if t760 = 0 then (if (t757.length : Int) = 12 then (if (bt764.1.length : Int) = 1 then ((tumbrelref05_Ints.f k bt764.2.1 (([12] : List Int))).bind fun t785 => (if t785 = true then (if bt764.2.2 = 3 then (if bt771.2 = 1 then (if bt775.2.2.2 = 2 then (if 0 < (bt764.1.length : Int) then ((record_Same.f k ((rd_T80 bt764.1 0).f0) ((rd_T80 bt764.1 0).f1) ((rd_T80 bt764.1 0).f2) 7 (([5] : List Int)) (⟨#[]⟩ : ByteArray)).bind fun t790 => (if t790 = true then ((record_Right.f ((rd_T80 bt764.1 0).f0) ((rd_T80 bt764.1 0).f1) ((rd_T80 bt764.1 0).f2)).bind fun t792 => (if t792 = true then (some true) else (some false))) else (some false))) else (none)) else (some false)) else (some false)) else (some false)) else (some false))) else (some false)) else (some false)) else (some false))))) else (none)) = some r := H
  have A1 := Aside0.mk A10
  clear A10
  by_cases c2 : t757.length < 140737488355328
  · rw [if_pos c2] at H
    have LMc2 := Aside0.mk c2
    clear c2
    obtain ⟨y761, hy761⟩ : ∃ y_ : List Int, y_ = (t757 ++ [1]) := ⟨_, rfl⟩
    replace H : ((record_All.f k y761).bind fun bt764 => ((record_Bytes.f k 7 ([] : List Int) (⟨#[]⟩ : ByteArray)).bind fun bt771 => ((record_Read.f k 99 ([] : List Int)).bind fun bt775 => (if t760 = 0 then (if (t757.length : Int) = 12 then (if (bt764.1.length : Int) = 1 then ((tumbrelref05_Ints.f k bt764.2.1 (([12] : List Int))).bind fun t785 => (if t785 = true then (if bt764.2.2 = 3 then (if bt771.2 = 1 then (if bt775.2.2.2 = 2 then (if 0 < (bt764.1.length : Int) then ((record_Same.f k ((rd_T80 bt764.1 0).f0) ((rd_T80 bt764.1 0).f1) ((rd_T80 bt764.1 0).f2) 7 (([5] : List Int)) (⟨#[]⟩ : ByteArray)).bind fun t790 => (if t790 = true then ((record_Right.f ((rd_T80 bt764.1 0).f0) ((rd_T80 bt764.1 0).f1) ((rd_T80 bt764.1 0).f2)).bind fun t792 => (if t792 = true then (some true) else (some false))) else (some false))) else (none)) else (some false)) else (some false)) else (some false)) else (some false))) else (some false)) else (some false)) else (some false))))) = some r := by first | (rw [hy761]; with_reducible exact H) | (have H2_ := (Option.bind_some _ _).symm.trans H; rw [hy761]; with_reducible exact H2_) | (have H2_ := (Option.bind_some _ _).symm.trans H; with_reducible exact H2_) | with_reducible exact H | (rw [hy761]; exact H) | exact H
    have Ny761 := Aside0.mk hy761
    clear hy761
    replace H := Option.bind_eq_some_iff.mp H
    obtain ⟨⟨t764, t765, t766⟩, A30, H⟩ := H
    replace H : ((record_Bytes.f k 7 ([] : List Int) (⟨#[]⟩ : ByteArray)).bind fun bt771 => ((record_Read.f k 99 ([] : List Int)).bind fun bt775 => (if t760 = 0 then (if (t757.length : Int) = 12 then (if (t764.length : Int) = 1 then ((tumbrelref05_Ints.f k t765 (([12] : List Int))).bind fun t785 => (if t785 = true then (if t766 = 3 then (if bt771.2 = 1 then (if bt775.2.2.2 = 2 then (if 0 < (t764.length : Int) then ((record_Same.f k ((rd_T80 t764 0).f0) ((rd_T80 t764 0).f1) ((rd_T80 t764 0).f2) 7 (([5] : List Int)) (⟨#[]⟩ : ByteArray)).bind fun t790 => (if t790 = true then ((record_Right.f ((rd_T80 t764 0).f0) ((rd_T80 t764 0).f1) ((rd_T80 t764 0).f2)).bind fun t792 => (if t792 = true then (some true) else (some false))) else (some false))) else (none)) else (some false)) else (some false)) else (some false)) else (some false))) else (some false)) else (some false)) else (some false)))) = some r := H
    have A3 := Aside0.mk A30
    clear A30
    replace H := Option.bind_eq_some_iff.mp H
    obtain ⟨⟨t771, t774⟩, A40, H⟩ := H
    replace H : ((record_Read.f k 99 ([] : List Int)).bind fun bt775 => (if t760 = 0 then (if (t757.length : Int) = 12 then (if (t764.length : Int) = 1 then ((tumbrelref05_Ints.f k t765 (([12] : List Int))).bind fun t785 => (if t785 = true then (if t766 = 3 then (if t774 = 1 then (if bt775.2.2.2 = 2 then (if 0 < (t764.length : Int) then ((record_Same.f k ((rd_T80 t764 0).f0) ((rd_T80 t764 0).f1) ((rd_T80 t764 0).f2) 7 (([5] : List Int)) (⟨#[]⟩ : ByteArray)).bind fun t790 => (if t790 = true then ((record_Right.f ((rd_T80 t764 0).f0) ((rd_T80 t764 0).f1) ((rd_T80 t764 0).f2)).bind fun t792 => (if t792 = true then (some true) else (some false))) else (some false))) else (none)) else (some false)) else (some false)) else (some false)) else (some false))) else (some false)) else (some false)) else (some false))) = some r := H
    have A4 := Aside0.mk A40
    clear A40
    replace H := Option.bind_eq_some_iff.mp H
    obtain ⟨⟨t775, t776, t779, t780⟩, A50, H⟩ := H
    replace H : (if t760 = 0 then (if (t757.length : Int) = 12 then (if (t764.length : Int) = 1 then ((tumbrelref05_Ints.f k t765 (([12] : List Int))).bind fun t785 => (if t785 = true then (if t766 = 3 then (if t774 = 1 then (if t780 = 2 then (if 0 < (t764.length : Int) then ((record_Same.f k ((rd_T80 t764 0).f0) ((rd_T80 t764 0).f1) ((rd_T80 t764 0).f2) 7 (([5] : List Int)) (⟨#[]⟩ : ByteArray)).bind fun t790 => (if t790 = true then ((record_Right.f ((rd_T80 t764 0).f0) ((rd_T80 t764 0).f1) ((rd_T80 t764 0).f2)).bind fun t792 => (if t792 = true then (some true) else (some false))) else (some false))) else (none)) else (some false)) else (some false)) else (some false)) else (some false))) else (some false)) else (some false)) else (some false)) = some r := H
    have A5 := Aside0.mk A50
    clear A50
    by_cases c6 : t760 = 0
    · rw [if_pos c6] at H
      have c6b0 : (t760 == 0) = true := beq_iff_eq.mpr c6
      have c6b1 : (t760 != 0) = false := bne_eq_false_iff_eq.mpr c6
      clear c6
      by_cases c7 : (t757.length : Int) = 12
      · rw [if_pos c7] at H
        have c7b0 : ((t757.length : Int) == 12) = true := beq_iff_eq.mpr c7
        have c7b1 : ((t757.length : Int) != 12) = false := bne_eq_false_iff_eq.mpr c7
        clear c7
        by_cases c8 : (t764.length : Int) = 1
        · rw [if_pos c8] at H
          have c8b0 : ((t764.length : Int) == 1) = true := beq_iff_eq.mpr c8
          have c8b1 : ((t764.length : Int) != 1) = false := bne_eq_false_iff_eq.mpr c8
          clear c8
          obtain ⟨y782, hy782⟩ : ∃ y_ : List Int, y_ = (([12] : List Int)) := ⟨_, rfl⟩
          replace H : ((tumbrelref05_Ints.f k t765 y782).bind fun t785 => (if t785 = true then (if t766 = 3 then (if t774 = 1 then (if t780 = 2 then (if 0 < (t764.length : Int) then ((record_Same.f k ((rd_T80 t764 0).f0) ((rd_T80 t764 0).f1) ((rd_T80 t764 0).f2) 7 (([5] : List Int)) (⟨#[]⟩ : ByteArray)).bind fun t790 => (if t790 = true then ((record_Right.f ((rd_T80 t764 0).f0) ((rd_T80 t764 0).f1) ((rd_T80 t764 0).f2)).bind fun t792 => (if t792 = true then (some true) else (some false))) else (some false))) else (none)) else (some false)) else (some false)) else (some false)) else (some false))) = some r := by first | (rw [hy782]; with_reducible exact H) | (have H2_ := (Option.bind_some _ _).symm.trans H; rw [hy782]; with_reducible exact H2_) | (have H2_ := (Option.bind_some _ _).symm.trans H; with_reducible exact H2_) | with_reducible exact H | (rw [hy782]; exact H) | exact H
          have Ny782 := Aside0.mk hy782
          clear hy782
          replace H := Option.bind_eq_some_iff.mp H
          obtain ⟨t785, A90, H⟩ := H
          replace H : (if t785 = true then (if t766 = 3 then (if t774 = 1 then (if t780 = 2 then (if 0 < (t764.length : Int) then ((record_Same.f k ((rd_T80 t764 0).f0) ((rd_T80 t764 0).f1) ((rd_T80 t764 0).f2) 7 (([5] : List Int)) (⟨#[]⟩ : ByteArray)).bind fun t790 => (if t790 = true then ((record_Right.f ((rd_T80 t764 0).f0) ((rd_T80 t764 0).f1) ((rd_T80 t764 0).f2)).bind fun t792 => (if t792 = true then (some true) else (some false))) else (some false))) else (none)) else (some false)) else (some false)) else (some false)) else (some false)) = some r := H
          have A9 := Aside0.mk A90
          clear A90
          by_cases c10 : t785 = true
          · subst c10
            have H1 : (if t766 = 3 then (if t774 = 1 then (if t780 = 2 then (if 0 < (t764.length : Int) then ((record_Same.f k ((rd_T80 t764 0).f0) ((rd_T80 t764 0).f1) ((rd_T80 t764 0).f2) 7 (([5] : List Int)) (⟨#[]⟩ : ByteArray)).bind fun t790 => (if t790 = true then ((record_Right.f ((rd_T80 t764 0).f0) ((rd_T80 t764 0).f1) ((rd_T80 t764 0).f2)).bind fun t792 => (if t792 = true then (some true) else (some false))) else (some false))) else (none)) else (some false)) else (some false)) else (some false)) = some r := by rw [if_pos rfl] at H; exact H
            clear H
            have H := H1
            clear H1
            by_cases c11 : t766 = 3
            · rw [if_pos c11] at H
              have c11b0 : (t766 == 3) = true := beq_iff_eq.mpr c11
              have c11b1 : (t766 != 3) = false := bne_eq_false_iff_eq.mpr c11
              clear c11
              by_cases c12 : t774 = 1
              · rw [if_pos c12] at H
                have c12b0 : (t774 == 1) = true := beq_iff_eq.mpr c12
                have c12b1 : (t774 != 1) = false := bne_eq_false_iff_eq.mpr c12
                clear c12
                by_cases c13 : t780 = 2
                · rw [if_pos c13] at H
                  have c13b0 : (t780 == 2) = true := beq_iff_eq.mpr c13
                  have c13b1 : (t780 != 2) = false := bne_eq_false_iff_eq.mpr c13
                  clear c13
                  by_cases c14 : 0 < (t764.length : Int)
                  · rw [if_pos c14] at H
                    have c14b0 : decide (0 < (t764.length : Int)) = true := decide_eq_true c14
                    have c14b1 : decide (0 < t764.length) = true := decide_eq_true (by omega)
                    clear c14
                    obtain ⟨y787, hy787⟩ : ∃ y_ : List Int, y_ = (([5] : List Int)) := ⟨_, rfl⟩
                    replace H : ((record_Same.f k ((rd_T80 t764 0).f0) ((rd_T80 t764 0).f1) ((rd_T80 t764 0).f2) 7 y787 (⟨#[]⟩ : ByteArray)).bind fun t790 => (if t790 = true then ((record_Right.f ((rd_T80 t764 0).f0) ((rd_T80 t764 0).f1) ((rd_T80 t764 0).f2)).bind fun t792 => (if t792 = true then (some true) else (some false))) else (some false))) = some r := by first | (rw [hy787]; with_reducible exact H) | (have H2_ := (Option.bind_some _ _).symm.trans H; rw [hy787]; with_reducible exact H2_) | (have H2_ := (Option.bind_some _ _).symm.trans H; with_reducible exact H2_) | with_reducible exact H | (rw [hy787]; exact H) | exact H
                    have Ny787 := Aside0.mk hy787
                    clear hy787
                    replace H := Option.bind_eq_some_iff.mp H
                    obtain ⟨t790, A150, H⟩ := H
                    replace H : (if t790 = true then ((record_Right.f ((rd_T80 t764 0).f0) ((rd_T80 t764 0).f1) ((rd_T80 t764 0).f2)).bind fun t792 => (if t792 = true then (some true) else (some false))) else (some false)) = some r := H
                    have A15 := Aside0.mk A150
                    clear A150
                    by_cases c16 : t790 = true
                    · subst c16
                      have H1 : ((record_Right.f ((rd_T80 t764 0).f0) ((rd_T80 t764 0).f1) ((rd_T80 t764 0).f2)).bind fun t792 => (if t792 = true then (some true) else (some false))) = some r := by rw [if_pos rfl] at H; exact H
                      clear H
                      have H := H1
                      clear H1
                      replace H := Option.bind_eq_some_iff.mp H
                      obtain ⟨t792, A170, H⟩ := H
                      replace H : (if t792 = true then (some true) else (some false)) = some r := H
                      have A17 := Aside0.mk A170
                      clear A170
                      by_cases c18 : t792 = true
                      · subst c18
                        have H1 : (some true) = some r := by rw [if_pos rfl] at H; exact H
                        clear H
                        have H := H1
                        clear H1
                        obtain rfl := Option.some.inj H
                        go_enter Try.func54, Try.ntmps54
                        go_wp2_with (first | ((with_reducible refine gate_dst (N := 11) rfl ?_); (try (refine gate_guard (by rfl) ?_; dsimp only)); refine Kd.R_lit (Kd.int .u64) _ 22 ?hg (N := 11) ?hd (xs := ([5] : List Int)) (inner := [.int .u64 5]) (ok := fun _ => True) (okp := fun _ => True) ?hr ?hp (fun _ hk => hk) trivial (Below.refl _ _) (Nat.le_refl _) (by simp) ?_; (case hd => rfl); (case hg => rfl); (case hr => first | (go_simp; done) | (go_simp; rfl)); (case hp => exact (Reps.one (show Kd.M (Kd.int .u64) _ _ _ 5 [.int .u64 5] from rfl) (Reps.none _ _))); intro v755 w19 ho20 hb hg_ hnew_; clear hg_ hnew_; (first | rw [← Ny754.out] at ho20 | (simp only [Int.reduceToNat] at ho20; rw [← Ny754.out] at ho20)); have n0_ := Aside0.mk (Kd.R_lower ho20 (below_size (by repeat (first | (with_reducible first | exact HB.out | apply below_alloc | apply pw_below_drewN | apply below_drew1) | exact HB.out)))); have n1_ := Aside0.mk (below_step (by repeat (first | (with_reducible first | exact HB.out | apply below_alloc | apply pw_below_drewN | apply below_drew1) | exact HB.out)) hb); clear HB; have HO756 := n0_; have HB := n1_; clear n0_ n1_; clear hb ho20; obtain ⟨Ao21, co21, eo21⟩ := Kd.R_slice HO756.out; subst eo21) | ((with_reducible refine gate_callee (f := 56) rfl ?_); refine goesL_ (some 13) rfl rfl Try.func56 (by kernel_rfl) rfl #[.agg #[.int .i64 7, .slice Ao21 y754.length co21, .string (⟨#[]⟩ : ByteArray)]] rfl (by (try simp only [List.map_toArray, List.map_cons, List.map_nil]); first | done | rfl | (simp only [List.length_drop, List.length_take]; rfl)) ?_; (with_reducible refine (record_Bytes.calls k 7 _ _ y754 (⟨#[]⟩ : ByteArray) t757 t760 _ ?side1 ?side2 A1.out).mono ?_); (case side1 => repeat (first | exact (Kd.R_reads' HO756.out).2.2 | (with_reducible refine Kd.C_alloc ?_ _) | (with_reducible refine Kd.C_drewN ?_ _) | (with_reducible refine Kd.C_drew ?_))); (case side2 => exact (Kd.R_reads' HO756.out).2.1); rintro e w22 ⟨v758, rfl, ho0, hb⟩; obtain ⟨Ao31, co31, eo31⟩ := Kd.R_slice ho0; have EO31 := Aside0.mk eo31; clear eo31; refine ⟨_, rfl, ?_⟩; have n0_ := Aside0.mk (Kd.R_below (by (with_reducible repeat (first | apply Kd.R_alloc | apply Kd.R_drewN | apply Kd.R_drew)); exact HO756.out) hb); have n1_ := Aside0.mk (Kd.R_lower ho0 (below_size (by repeat (first | (with_reducible first | exact HB.out | apply below_alloc | apply pw_below_drewN | apply below_drew1) | exact HB.out)))); have n2_ := Aside0.mk (below_step (by repeat (first | (with_reducible first | exact HB.out | apply below_alloc | apply pw_below_drewN | apply below_drew1) | exact HB.out)) hb); clear HO756; clear HB; have HO756 := n0_; have HO759 := n1_; have HB := n2_; clear n0_ n1_ n2_; (try clear hb); (try clear hb2); (try clear hk); (try clear hi); (try clear ho0)) | ((with_reducible refine gate_builtin (b := .append) (xs := #[.tmp 17, .tmp 18]) rfl ?_); (try (refine gate_guard (by rfl) ?_; dsimp only)); at_builtin; refine Kd.R_append (Kd.int .u8) (w0 := w) w.heap.size rfl (.tmp 17) (.tmp 18) 23 5 (.int .u8 0) 1 rfl Try.underlying23 info5 rfl (by decide) (by omega) v758 t757 1 [.int .u8 1] (fun _ => True) (fun _ => False) rfl rfl ?aP (fun _ hk => hk.elim) ?aF ?aO ?aB ?aS ?aL ?_; (case aP => exact rfl); (case aB => exact (by repeat (first | (with_reducible first | exact HB.out | apply below_alloc | apply pw_below_drewN | apply below_drew1) | exact HB.out))); (case aF => exact (fun _ _ => trivial)); (case aO => exact (by (with_reducible repeat (first | apply Kd.R_alloc | apply Kd.R_drewN | apply Kd.R_drew)); exact HO759.out)); (case aS => exact (below_size (by repeat (first | (with_reducible first | exact HB.out | apply below_alloc | apply pw_below_drewN | apply below_drew1) | exact HB.out)))); (case aL => have := LMc2.out; omega); intro v762 w23 ho hb hg hat; rw [← Ny761.out] at ho; have n0_ := Aside0.mk (Kd.R_over' (by (with_reducible repeat (first | apply Kd.R_alloc | apply Kd.R_drewN | apply Kd.R_drew)); exact HO756.out) (Kd.R_typed (by (with_reducible repeat (first | apply Kd.R_alloc | apply Kd.R_drewN | apply Kd.R_drew)); exact HO759.out)) (by decide) hg); have n1_ := Aside0.mk (hb); have n2_ := Aside0.mk (ho); clear HO756; clear HB; clear HO759; have HO756 := n0_; have HB := n1_; have HO763 := n2_; clear n0_ n1_ n2_; clear ho hb hg hat; obtain ⟨Ao24, co24, eo24⟩ := Kd.R_slice HO763.out; subst eo24) | ((with_reducible refine gate_callee (f := 65) rfl ?_); refine goesL_ (some 20) rfl rfl Try.func65 (by kernel_rfl) rfl #[.slice Ao24 y761.length co24] rfl (by (try simp only [List.map_toArray, List.map_cons, List.map_nil]); first | done | rfl | (simp only [List.length_drop, List.length_take]; rfl)) ?_; (with_reducible refine (record_All.calls k _ _ y761 t764 t765 t766 _ ?side1 ?side2 A3.out).mono ?_); (case side1 => repeat (first | exact (Kd.R_reads' HO763.out).2.2 | (with_reducible refine Kd.C_alloc ?_ _) | (with_reducible refine Kd.C_drewN ?_ _) | (with_reducible refine Kd.C_drew ?_))); (case side2 => exact (Kd.R_reads' HO763.out).2.1); rintro e w25 ⟨v767, v769, rfl, ho0, ho1, hb⟩; refine ⟨_, rfl, ?_⟩; have n0_ := Aside0.mk (Kd.R_below (by (with_reducible repeat (first | apply Kd.R_alloc | apply Kd.R_drewN | apply Kd.R_drew)); exact HO756.out) hb); have n1_ := Aside0.mk (Kd.R_below (by (with_reducible repeat (first | apply Kd.R_alloc | apply Kd.R_drewN | apply Kd.R_drew)); exact HO763.out) hb); have n2_ := Aside0.mk (Kd.S_lower (Kd.S_new' ho0 (Kd.R_lt (by (with_reducible repeat (first | apply Kd.R_alloc | apply Kd.R_drewN | apply Kd.R_drew)); exact HO756.out))) (below_size (by repeat (first | (with_reducible first | exact HB.out | apply below_alloc | apply pw_below_drewN | apply below_drew1) | exact HB.out)))); have n3_ := Aside0.mk (Kd.R_lower ho1 (below_size (by repeat (first | (with_reducible first | exact HB.out | apply below_alloc | apply pw_below_drewN | apply below_drew1) | exact HB.out)))); have n4_ := Aside0.mk (below_step (by repeat (first | (with_reducible first | exact HB.out | apply below_alloc | apply pw_below_drewN | apply below_drew1) | exact HB.out)) hb); clear HO756; clear HO763; clear HB; have HO756 := n0_; have HO763 := n1_; have HO768 := n2_; have HO770 := n3_; have HB := n4_; clear n0_ n1_ n2_ n3_ n4_; (try clear hb); (try clear hb2); (try clear hk); (try clear hi); (try clear ho0); (try clear ho1)) | ((with_reducible refine gate_callee (f := 56) rfl ?_); refine goesL_ (some 26) rfl rfl Try.func56 (by kernel_rfl) rfl #[.agg #[.int .i64 7, .slice none 0 0, .string (⟨#[]⟩ : ByteArray)]] rfl (by (try simp only [List.map_toArray, List.map_cons, List.map_nil]); first | done | rfl | (simp only [List.length_drop, List.length_take]; rfl)) ?_; (refine (record_Bytes.calls k 7 _ _ ([] : List Int) (⟨#[]⟩ : ByteArray) t771 t774 _ ?side1 ?side2 A4.out).mono ?_); (case side1 => exact Kd.C_nil _ _); (case side2 => exact Nat.le_refl _); rintro e w26 ⟨v772, rfl, ho0, hb⟩; refine ⟨_, rfl, ?_⟩; have n0_ := Aside0.mk (Kd.R_below (by (with_reducible repeat (first | apply Kd.R_alloc | apply Kd.R_drewN | apply Kd.R_drew)); exact HO756.out) hb); have n1_ := Aside0.mk (Kd.R_elder' (by (with_reducible repeat (first | apply Kd.R_alloc | apply Kd.R_drewN | apply Kd.R_drew)); exact HO763.out) (Kd.R_base ho0) hb); have n2_ := Aside0.mk (Kd.S_below (by (with_reducible repeat (first | apply Kd.S_alloc | apply Kd.S_drewN | apply Kd.S_drew)); exact HO768.out) hb); have n3_ := Aside0.mk (Kd.R_below (by (with_reducible repeat (first | apply Kd.R_alloc | apply Kd.R_drewN | apply Kd.R_drew)); exact HO770.out) hb); have n4_ := Aside0.mk (Kd.R_lower (Kd.R_new' ho0 (Kd.R_lt (by (with_reducible repeat (first | apply Kd.R_alloc | apply Kd.R_drewN | apply Kd.R_drew)); exact HO763.out))) (below_size (by repeat (first | (with_reducible first | exact HB.out | apply below_alloc | apply pw_below_drewN | apply below_drew1) | exact HB.out)))); have n5_ := Aside0.mk (below_step (by repeat (first | (with_reducible first | exact HB.out | apply below_alloc | apply pw_below_drewN | apply below_drew1) | exact HB.out)) hb); clear HO756; clear HO763; clear HO768; clear HO770; clear HB; have HO756 := n0_; have HO763 := n1_; have HO768 := n2_; have HO770 := n3_; have HO773 := n4_; have HB := n5_; clear n0_ n1_ n2_ n3_ n4_ n5_; (try clear hb); (try clear hb2); (try clear hk); (try clear hi); (try clear ho0)) | ((with_reducible refine gate_callee (f := 58) rfl ?_); refine goesL_ (some 31) rfl rfl Try.func58 (by kernel_rfl) rfl #[.agg #[.int .u8 99, .slice none 0 0]] rfl (by (try simp only [List.map_toArray, List.map_cons, List.map_nil]); first | done | rfl | (simp only [List.length_drop, List.length_take]; rfl)) ?_; (refine (record_Read.calls k 99 (fun k_ => False) _ _ ([] : List Int) t775 t776 t779 t780 _ ?side1 A5.out).mono ?_); (case side1 => exact Kd.V_nil _ _ _ _ _); rintro e w27 ⟨v777, rfl, ho0, hb⟩; refine ⟨_, rfl, ?_⟩; have n0_ := Aside0.mk (Kd.R_elder' (by (with_reducible repeat (first | apply Kd.R_alloc | apply Kd.R_drewN | apply Kd.R_drew)); exact HO756.out) (Kd.R_base ho0) hb); have n1_ := Aside0.mk (Kd.R_below (by (with_reducible repeat (first | apply Kd.R_alloc | apply Kd.R_drewN | apply Kd.R_drew)); exact HO763.out) hb); have n2_ := Aside0.mk (Kd.S_elder' (by (with_reducible repeat (first | apply Kd.S_alloc | apply Kd.S_drewN | apply Kd.S_drew)); exact HO768.out) (Kd.R_base ho0) hb); have n3_ := Aside0.mk (Kd.R_below (by (with_reducible repeat (first | apply Kd.R_alloc | apply Kd.R_drewN | apply Kd.R_drew)); exact HO770.out) hb); have n4_ := Aside0.mk (Kd.R_below (by (with_reducible repeat (first | apply Kd.R_alloc | apply Kd.R_drewN | apply Kd.R_drew)); exact HO773.out) hb); have n5_ := Aside0.mk (Kd.R_lower (Kd.R_new' (Kd.R_mono (ok' := fun k_ => True) ho0 (fun _ hk_ => trivial)) (Kd.R_lt (by (with_reducible repeat (first | apply Kd.R_alloc | apply Kd.R_drewN | apply Kd.R_drew)); exact HO756.out))) (below_size (by repeat (first | (with_reducible first | exact HB.out | apply below_alloc | apply pw_below_drewN | apply below_drew1) | exact HB.out)))); have n6_ := Aside0.mk (below_step (by repeat (first | (with_reducible first | exact HB.out | apply below_alloc | apply pw_below_drewN | apply below_drew1) | exact HB.out)) hb); clear HO756; clear HO763; clear HO768; clear HO770; clear HO773; clear HB; have HO756 := n0_; have HO763 := n1_; have HO768 := n2_; have HO770 := n3_; have HO773 := n4_; have HO778 := n5_; have HB := n6_; clear n0_ n1_ n2_ n3_ n4_ n5_ n6_; (try clear hb); (try clear hb2); (try clear hk); (try clear hi); (try clear ho0)) | ((with_reducible refine gate_dst (N := 8) rfl ?_); (try (refine gate_guard (by rfl) ?_; dsimp only)); refine box_event ?hg (N := 8) ?hd (cs := #[.int .i64 0, .slice none 0 0, .string (⟨#[]⟩ : ByteArray)]) (t := 80) ?hr ?_; (case hd => rfl); (case hg => rfl); (case hr => first | (go_simp; done) | (go_simp; rfl)); intro gb781 hg w28 hbox hb; have n0_ := Aside0.mk (Kd.R_below (by (with_reducible repeat (first | apply Kd.R_alloc | apply Kd.R_drewN | apply Kd.R_drew)); exact HO756.out) hb); have n1_ := Aside0.mk (Kd.R_below (by (with_reducible repeat (first | apply Kd.R_alloc | apply Kd.R_drewN | apply Kd.R_drew)); exact HO763.out) hb); have n2_ := Aside0.mk (Kd.S_below (Kd.S_elderB (by (with_reducible repeat (first | apply Kd.S_alloc | apply Kd.S_drewN | apply Kd.S_drew)); exact HO768.out) gb781 (Nat.le_of_eq hg.symm)) hb); have n3_ := Aside0.mk (Kd.R_below (by (with_reducible repeat (first | apply Kd.R_alloc | apply Kd.R_drewN | apply Kd.R_drew)); exact HO770.out) hb); have n4_ := Aside0.mk (Kd.R_below (by (with_reducible repeat (first | apply Kd.R_alloc | apply Kd.R_drewN | apply Kd.R_drew)); exact HO773.out) hb); have n5_ := Aside0.mk (Kd.R_below (by (with_reducible repeat (first | apply Kd.R_alloc | apply Kd.R_drewN | apply Kd.R_drew)); exact HO778.out) hb); have n6_ := Aside0.mk (below_step (by repeat (first | (with_reducible first | exact HB.out | apply below_alloc | apply pw_below_drewN | apply below_drew1) | exact HB.out)) hb); have n7_ := Aside0.mk (hbox); have n8_ := Aside0.mk ((by rw [hg]; exact (below_size (by repeat (first | (with_reducible first | exact HB.out | apply below_alloc | apply pw_below_drewN | apply below_drew1) | exact HB.out))) : w.heap.size ≤ gb781)); have n9_ := Aside0.mk ((by rw [hg]; exact (below_size (by repeat (first | (with_reducible first | exact HB.out | apply below_alloc | apply pw_below_drewN | apply below_drew1) | exact HB.out))) : w.heap.size ≤ gb781)); clear HO756; clear HO763; clear HO768; clear HO770; clear HO773; clear HO778; clear HB; have HO756 := n0_; have HO763 := n1_; have HO768 := n2_; have HO770 := n3_; have HO773 := n4_; have HO778 := n5_; have HB := n6_; have BK781 := n7_; have GW781 := n8_; have GE781 := n9_; clear n0_ n1_ n2_ n3_ n4_ n5_ n6_ n7_ n8_ n9_; clear hb hbox hg; have hcz29_0 : w28.cell? ⟨gb781, 0, none⟩ = some (.int .i64 0) := (blk_cell BK781.out 0).trans rfl; have hcz29_1 : w28.cell? ⟨gb781, 1, none⟩ = some (.slice none 0 0) := (blk_cell BK781.out 1).trans rfl; have hcz29_2 : w28.cell? ⟨gb781, 2, none⟩ = some (.string (⟨#[]⟩ : ByteArray)) := (blk_cell BK781.out 2).trans rfl; have hfz29_0 := blk_frozen BK781.out 0; have hfz29_1 := blk_frozen BK781.out 1; have hfz29_2 := blk_frozen BK781.out 2; obtain ⟨Ao30, co30, eo30⟩ := Kd.R_slice HO778.out; subst eo30; have eo31 := EO31.out; clear EO31; subst eo31; obtain ⟨Ao32, co32, eo32⟩ := Kd.S_slice HO768.out; subst eo32) | ((with_reducible refine gate_dst (N := 48) rfl ?_); (try (refine gate_guard (by rfl) ?_; dsimp only)); refine Kd.R_lit (Kd.int .i64) _ 3 ?hg (N := 48) ?hd (xs := ([12] : List Int)) (inner := [.int .i64 12]) (ok := fun _ => True) (okp := fun _ => True) ?hr ?hp (fun _ hk => hk) trivial (Below.refl _ _) (Nat.le_refl _) (by simp) ?_; (case hd => rfl); (case hg => rfl); (case hr => first | (go_simp; done) | (go_simp; rfl)); (case hp => exact (Reps.one (show Kd.M (Kd.int .i64) _ _ _ 12 [.int .i64 12] from rfl) (Reps.none _ _))); intro v783 w33 ho34 hb hg_ hnew_; clear hg_ hnew_; (first | rw [← Ny782.out] at ho34 | (simp only [Int.reduceToNat] at ho34; rw [← Ny782.out] at ho34)); have n0_ := Aside0.mk (Kd.R_below (by (with_reducible repeat (first | apply Kd.R_alloc | apply Kd.R_drewN | apply Kd.R_drew)); exact (Kd.R_mono (Kd.R_far (p := ⟨gb781, 2, none⟩) (Kd.R_far (p := ⟨gb781, 1, none⟩) (Kd.R_far (p := ⟨gb781, 0, none⟩) (Kd.R_types HO756.out BK781.out (by decide)) (fun _ hk => hk.2) (.int .i64 t775)) (fun _ hk => hk.2) (.slice Ao30 t776.length co30)) (fun _ hk => hk.2) (.string t779)) (fun _ h_ => h_.1))) hb); have n1_ := Aside0.mk (Kd.R_below (by (with_reducible repeat (first | apply Kd.R_alloc | apply Kd.R_drewN | apply Kd.R_drew)); exact (Kd.R_mono (Kd.R_far (p := ⟨gb781, 2, none⟩) (Kd.R_far (p := ⟨gb781, 1, none⟩) (Kd.R_far (p := ⟨gb781, 0, none⟩) (Kd.R_types HO763.out BK781.out (by decide)) (fun _ hk => hk.2) (.int .i64 t775)) (fun _ hk => hk.2) (.slice Ao30 t776.length co30)) (fun _ hk => hk.2) (.string t779)) (fun _ h_ => h_.1))) hb); have n2_ := Aside0.mk (Kd.S_below (by (with_reducible repeat (first | apply Kd.S_alloc | apply Kd.S_drewN | apply Kd.S_drew)); exact (Kd.S_mono (Kd.S_far (p := ⟨gb781, 2, none⟩) (Kd.S_far (p := ⟨gb781, 1, none⟩) (Kd.S_far (p := ⟨gb781, 0, none⟩) (Kd.S_mono HO768.out (fun k_ hk => (⟨hk, hk.2⟩ : _ ∧ k_ ≠ gb781))) (fun _ hk => hk.2) (.int .i64 t775)) (fun _ hk => hk.2) (.slice Ao30 t776.length co30)) (fun _ hk => hk.2) (.string t779)) (fun _ h_ => h_.1))) hb); have n3_ := Aside0.mk (Kd.R_elder' (by (with_reducible repeat (first | apply Kd.R_alloc | apply Kd.R_drewN | apply Kd.R_drew)); exact (Kd.R_mono (Kd.R_far (p := ⟨gb781, 2, none⟩) (Kd.R_far (p := ⟨gb781, 1, none⟩) (Kd.R_far (p := ⟨gb781, 0, none⟩) (Kd.R_types HO770.out BK781.out (by decide)) (fun _ hk => hk.2) (.int .i64 t775)) (fun _ hk => hk.2) (.slice Ao30 t776.length co30)) (fun _ hk => hk.2) (.string t779)) (fun _ h_ => h_.1))) (Kd.R_base ho34) hb); have n4_ := Aside0.mk (Kd.R_below (by (with_reducible repeat (first | apply Kd.R_alloc | apply Kd.R_drewN | apply Kd.R_drew)); exact (Kd.R_mono (Kd.R_far (p := ⟨gb781, 2, none⟩) (Kd.R_far (p := ⟨gb781, 1, none⟩) (Kd.R_far (p := ⟨gb781, 0, none⟩) (Kd.R_types HO773.out BK781.out (by decide)) (fun _ hk => hk.2) (.int .i64 t775)) (fun _ hk => hk.2) (.slice Ao30 t776.length co30)) (fun _ hk => hk.2) (.string t779)) (fun _ h_ => h_.1))) hb); have n5_ := Aside0.mk (Kd.R_below (by (with_reducible repeat (first | apply Kd.R_alloc | apply Kd.R_drewN | apply Kd.R_drew)); exact (Kd.R_mono (Kd.R_far (p := ⟨gb781, 2, none⟩) (Kd.R_far (p := ⟨gb781, 1, none⟩) (Kd.R_far (p := ⟨gb781, 0, none⟩) (Kd.R_types HO778.out BK781.out (by decide)) (fun _ hk => hk.2) (.int .i64 t775)) (fun _ hk => hk.2) (.slice Ao30 t776.length co30)) (fun _ hk => hk.2) (.string t779)) (fun _ h_ => h_.1))) hb); have n6_ := Aside0.mk (Kd.R_lower (Kd.R_new' ho34 (Kd.R_lt (by (with_reducible repeat (first | apply Kd.R_alloc | apply Kd.R_drewN | apply Kd.R_drew)); exact (Kd.R_mono (Kd.R_far (p := ⟨gb781, 2, none⟩) (Kd.R_far (p := ⟨gb781, 1, none⟩) (Kd.R_far (p := ⟨gb781, 0, none⟩) (Kd.R_types HO770.out BK781.out (by decide)) (fun _ hk => hk.2) (.int .i64 t775)) (fun _ hk => hk.2) (.slice Ao30 t776.length co30)) (fun _ hk => hk.2) (.string t779)) (fun _ h_ => h_.1))))) (below_size (by repeat (first | (with_reducible first | exact HB.out | apply below_alloc | apply pw_below_drewN | apply below_drew1 | refine below_set ?_ GE781.out) | exact HB.out)))); have n7_ := Aside0.mk (blk_below (g := gb781) (o := .cells #[.int .i64 t775, .slice Ao30 t776.length co30, .string t779] 80 (0, 0)) (by (with_reducible repeat (first | refine blk_drewN ?_ _ | refine blk_drew ?_ | refine blk_alloc ?_ _)); refine blk_put (cs := #[.int .i64 t775, .slice Ao30 t776.length co30, .string (⟨#[]⟩ : ByteArray)]) ?_ 2 _ rfl; (with_reducible repeat (first | refine blk_drewN ?_ _ | refine blk_drew ?_ | refine blk_alloc ?_ _)); refine blk_put (cs := #[.int .i64 t775, .slice none 0 0, .string (⟨#[]⟩ : ByteArray)]) ?_ 1 _ rfl; (with_reducible repeat (first | refine blk_drewN ?_ _ | refine blk_drew ?_ | refine blk_alloc ?_ _)); refine blk_put (cs := #[.int .i64 0, .slice none 0 0, .string (⟨#[]⟩ : ByteArray)]) ?_ 0 _ rfl; (with_reducible repeat (first | refine blk_drewN ?_ _ | refine blk_drew ?_ | refine blk_alloc ?_ _)); exact BK781.out) hb); have n8_ := Aside0.mk (below_step (by repeat (first | (with_reducible first | exact HB.out | apply below_alloc | apply pw_below_drewN | apply below_drew1 | refine below_set ?_ GE781.out) | exact HB.out)) hb); clear HO756; clear HO763; clear HO768; clear HO770; clear HO773; clear HO778; clear BK781; clear HB; have HO756 := n0_; have HO763 := n1_; have HO768 := n2_; have HO770 := n3_; have HO773 := n4_; have HO778 := n5_; have HO784 := n6_; have BK781 := n7_; have HB := n8_; clear n0_ n1_ n2_ n3_ n4_ n5_ n6_ n7_ n8_; clear hb ho34; obtain ⟨Ao35, co35, eo35⟩ := Kd.R_slice HO770.out; subst eo35; obtain ⟨Ao36, co36, eo36⟩ := Kd.R_slice HO784.out; subst eo36) | (go_at_call 67; (with_reducible refine (tumbrelref05_Ints.calls k _ _ t765 _ _ y782 true _ ?side1 ?side2 ?side3 ?side4 A9.out).mono ?_); (case side1 => repeat (first | exact (Kd.R_reads' HO770.out).2.2 | (with_reducible refine Kd.C_alloc ?_ _) | (with_reducible refine Kd.C_drewN ?_ _) | (with_reducible refine Kd.C_drew ?_))); (case side2 => exact (Kd.R_reads' HO770.out).2.1); (case side3 => repeat (first | exact (Kd.R_reads' HO784.out).2.2 | (with_reducible refine Kd.C_alloc ?_ _) | (with_reducible refine Kd.C_drewN ?_ _) | (with_reducible refine Kd.C_drew ?_))); (case side4 => exact (Kd.R_reads' HO784.out).2.1); rintro e w' ⟨rfl, ⟨nd, rfl⟩⟩; have p786 : 0 ≤ (0 : Int) := (by omega); have q786 : 0 < (t764.length : Int) := of_decide_eq_true (by first | (with_reducible assumption) | assumption); obtain ⟨ad786, A786_1, c786_1, e786, hx786_0, hx786_1, hx786_2, hl786_1, hi786_1⟩ := at_T80 (Kd.S_reads' HO768.out).2.2 0 p786 q786; cases e786; obtain ⟨ce786, hce786, hMe786, hcc786⟩ := Kd.S_get HO768.out z80 0 p786 (by first | exact q786 | exact of_decide_eq_true (by first | (with_reducible assumption) | assumption) | (have e_ := (Kd.S_reads' HO768.out).1; omega)); obtain ⟨ve786_1, rfl, ge786_1⟩ := k80_openM hMe786; have hv786_1 := hcc786 1 _ rfl; rw [add_field _ _ 1 (by omega)] at hv786_1; replace hv786_1 := Option.some.inj (hv786_1.symm.trans hx786_1); rw [hv786_1] at ge786_1; have HL786_1 := Aside0.mk (show Kd.R (Kd.int .u64) 22 _ _ _ _ ((rd_T80 t764 0).f1) from ge786_1); clear hv786_1 ge786_1; clear hcc786 hce786; have qi786 : (0 < t764.length) = True := eq_true (by omega); (try rw [show ((0 : Int)).toNat = 0 from rfl] at hx786_0); (try rw [show 0 * 3 = 0 from rfl] at hx786_0); (try rw [Addr.add_zero'] at hx786_0); (try rw [show ((0 : Int)).toNat = 0 from rfl] at hx786_1); (try rw [show 0 * 3 = 0 from rfl] at hx786_1); (try rw [Addr.add_zero'] at hx786_1); (try rw [show ((0 : Int)).toNat = 0 from rfl] at hx786_2); (try rw [show 0 * 3 = 0 from rfl] at hx786_2); (try rw [Addr.add_zero'] at hx786_2); have HR786_1 := Aside0.mk hi786_1; have HC786_1 := Aside0.mk hl786_1; clear hi786_1 hl786_1; replace p786 := eq_true p786; replace q786 := eq_true q786) | ((with_reducible refine gate_dst (N := 67) rfl ?_); (try (refine gate_guard (by rfl) ?_; dsimp only)); refine Kd.R_lit (Kd.int .u64) _ 22 ?hg (N := 67) ?hd (xs := ([5] : List Int)) (inner := [.int .u64 5]) (ok := fun _ => True) (okp := fun _ => True) ?hr ?hp (fun _ hk => hk) trivial (Below.refl _ _) (Nat.le_refl _) (by simp) ?_; (case hd => rfl); (case hg => rfl); (case hr => first | (go_simp; done) | (go_simp; rfl)); (case hp => exact (Reps.one (show Kd.M (Kd.int .u64) _ _ _ 5 [.int .u64 5] from rfl) (Reps.none _ _))); intro v788 w37 ho38 hb hg_ hnew_; clear hg_ hnew_; (first | rw [← Ny787.out] at ho38 | (simp only [Int.reduceToNat] at ho38; rw [← Ny787.out] at ho38)); have n0_ := Aside0.mk (Kd.R_elder' (by (with_reducible repeat (first | apply Kd.R_alloc | apply Kd.R_drewN | apply Kd.R_drew)); exact HO756.out) (Kd.R_base ho38) hb); have n1_ := Aside0.mk (Kd.R_below (by (with_reducible repeat (first | apply Kd.R_alloc | apply Kd.R_drewN | apply Kd.R_drew)); exact HO763.out) hb); have n2_ := Aside0.mk (Kd.S_elder' (by (with_reducible repeat (first | apply Kd.S_alloc | apply Kd.S_drewN | apply Kd.S_drew)); exact HO768.out) (Kd.R_base ho38) hb); have n3_ := Aside0.mk (Kd.R_below (by (with_reducible repeat (first | apply Kd.R_alloc | apply Kd.R_drewN | apply Kd.R_drew)); exact HO770.out) hb); have n4_ := Aside0.mk (Kd.R_below (by (with_reducible repeat (first | apply Kd.R_alloc | apply Kd.R_drewN | apply Kd.R_drew)); exact HO773.out) hb); have n5_ := Aside0.mk (Kd.R_elder' (by (with_reducible repeat (first | apply Kd.R_alloc | apply Kd.R_drewN | apply Kd.R_drew)); exact HO778.out) (Kd.R_base ho38) hb); have n6_ := Aside0.mk (Kd.R_below (by (with_reducible repeat (first | apply Kd.R_alloc | apply Kd.R_drewN | apply Kd.R_drew)); exact HO784.out) hb); have n7_ := Aside0.mk (Kd.R_elder' (by (with_reducible repeat (first | apply Kd.R_alloc | apply Kd.R_drewN | apply Kd.R_drew)); exact HL786_1.out) (Kd.R_base ho38) hb); have n8_ := Aside0.mk (Kd.R_lower (Kd.R_new' (Kd.R_new' (Kd.R_new' ho38 (Kd.R_lt (by (with_reducible repeat (first | apply Kd.R_alloc | apply Kd.R_drewN | apply Kd.R_drew)); exact HO756.out))) (Kd.R_lt (by (with_reducible repeat (first | apply Kd.R_alloc | apply Kd.R_drewN | apply Kd.R_drew)); exact HO778.out))) (Kd.R_lt (by (with_reducible repeat (first | apply Kd.R_alloc | apply Kd.R_drewN | apply Kd.R_drew)); exact HL786_1.out))) (below_size (by repeat (first | (with_reducible first | exact HB.out | apply below_alloc | apply pw_below_drewN | apply below_drew1 | refine below_set ?_ GE781.out) | exact HB.out)))); have n9_ := Aside0.mk (blk_below (g := gb781) (o := .cells #[.int .i64 t775, .slice Ao30 t776.length co30, .string t779] 80 (0, 0)) (by (with_reducible repeat (first | refine blk_drewN ?_ _ | refine blk_drew ?_ | refine blk_alloc ?_ _)); exact BK781.out) hb); have n10_ := Aside0.mk (Kd.C_below (by repeat (first | (with_reducible exact HR786_1.out) | (with_reducible refine Kd.C_alloc ?_ _) | (with_reducible refine Kd.C_drewN ?_ _) | (with_reducible refine Kd.C_drew ?_) | exact HR786_1.out)) hb); have n11_ := Aside0.mk (below_step (by repeat (first | (with_reducible first | exact HB.out | apply below_alloc | apply pw_below_drewN | apply below_drew1 | refine below_set ?_ GE781.out) | exact HB.out)) hb); clear HO756; clear HO763; clear HO768; clear HO770; clear HO773; clear HO778; clear HO784; clear HL786_1; clear BK781; clear HR786_1; clear HB; have HO756 := n0_; have HO763 := n1_; have HO768 := n2_; have HO770 := n3_; have HO773 := n4_; have HO778 := n5_; have HO784 := n6_; have HL786_1 := n7_; have HO789 := n8_; have BK781 := n9_; have HR786_1 := n10_; have HB := n11_; clear n0_ n1_ n2_ n3_ n4_ n5_ n6_ n7_ n8_ n9_ n10_ n11_; clear hb ho38; obtain ⟨Ao39, co39, eo39⟩ := Kd.R_slice HO789.out; subst eo39) | (go_at_call 64; (with_reducible refine (record_Same.calls k ((rd_T80 t764 0).f0) _ _ ((rd_T80 t764 0).f1) ((rd_T80 t764 0).f2) 7 _ _ y787 (⟨#[]⟩ : ByteArray) true _ ?side1 ?side2 ?side3 ?side4 A15.out).mono ?_); (case side1 => repeat (first | exact (by repeat (first | (with_reducible exact HR786_1.out) | (with_reducible refine Kd.C_alloc ?_ _) | (with_reducible refine Kd.C_drewN ?_ _) | (with_reducible refine Kd.C_drew ?_) | exact HR786_1.out)) | (with_reducible refine Kd.C_alloc ?_ _) | (with_reducible refine Kd.C_drewN ?_ _) | (with_reducible refine Kd.C_drew ?_))); (case side2 => exact HC786_1.out); (case side3 => repeat (first | exact (Kd.R_reads' HO789.out).2.2 | (with_reducible refine Kd.C_alloc ?_ _) | (with_reducible refine Kd.C_drewN ?_ _) | (with_reducible refine Kd.C_drew ?_))); (case side4 => exact (Kd.R_reads' HO789.out).2.1); rintro e w40 ⟨rfl, hb⟩; have n0_ := Aside0.mk (Kd.R_below (by (with_reducible repeat (first | apply Kd.R_alloc | apply Kd.R_drewN | apply Kd.R_drew)); exact HO756.out) hb); have n1_ := Aside0.mk (Kd.R_below (by (with_reducible repeat (first | apply Kd.R_alloc | apply Kd.R_drewN | apply Kd.R_drew)); exact HO763.out) hb); have n2_ := Aside0.mk (Kd.S_below (by (with_reducible repeat (first | apply Kd.S_alloc | apply Kd.S_drewN | apply Kd.S_drew)); exact HO768.out) hb); have n3_ := Aside0.mk (Kd.R_below (by (with_reducible repeat (first | apply Kd.R_alloc | apply Kd.R_drewN | apply Kd.R_drew)); exact HO770.out) hb); have n4_ := Aside0.mk (Kd.R_below (by (with_reducible repeat (first | apply Kd.R_alloc | apply Kd.R_drewN | apply Kd.R_drew)); exact HO773.out) hb); have n5_ := Aside0.mk (Kd.R_below (by (with_reducible repeat (first | apply Kd.R_alloc | apply Kd.R_drewN | apply Kd.R_drew)); exact HO778.out) hb); have n6_ := Aside0.mk (Kd.R_below (by (with_reducible repeat (first | apply Kd.R_alloc | apply Kd.R_drewN | apply Kd.R_drew)); exact HO784.out) hb); have n7_ := Aside0.mk (Kd.R_below (by (with_reducible repeat (first | apply Kd.R_alloc | apply Kd.R_drewN | apply Kd.R_drew)); exact HL786_1.out) hb); have n8_ := Aside0.mk (Kd.R_below (by (with_reducible repeat (first | apply Kd.R_alloc | apply Kd.R_drewN | apply Kd.R_drew)); exact HO789.out) hb); have n9_ := Aside0.mk (blk_below (g := gb781) (o := .cells #[.int .i64 t775, .slice Ao30 t776.length co30, .string t779] 80 (0, 0)) (by (with_reducible repeat (first | refine blk_drewN ?_ _ | refine blk_drew ?_ | refine blk_alloc ?_ _)); exact BK781.out) hb); have n10_ := Aside0.mk (Kd.C_below (by repeat (first | (with_reducible exact HR786_1.out) | (with_reducible refine Kd.C_alloc ?_ _) | (with_reducible refine Kd.C_drewN ?_ _) | (with_reducible refine Kd.C_drew ?_) | exact HR786_1.out)) hb); have n11_ := Aside0.mk (below_step (by repeat (first | (with_reducible first | exact HB.out | apply below_alloc | apply pw_below_drewN | apply below_drew1 | refine below_set ?_ GE781.out) | exact HB.out)) hb); clear HO756; clear HO763; clear HO768; clear HO770; clear HO773; clear HO778; clear HO784; clear HL786_1; clear HO789; clear BK781; clear HR786_1; clear HB; have HO756 := n0_; have HO763 := n1_; have HO768 := n2_; have HO770 := n3_; have HO773 := n4_; have HO778 := n5_; have HO784 := n6_; have HL786_1 := n7_; have HO789 := n8_; have BK781 := n9_; have HR786_1 := n10_; have HB := n11_; clear n0_ n1_ n2_ n3_ n4_ n5_ n6_ n7_ n8_ n9_ n10_ n11_; (try clear hb); (try clear hb2); (try clear hk); (try clear hi); have p791 : 0 ≤ (0 : Int) := (by omega); have q791 : 0 < (t764.length : Int) := of_decide_eq_true (by first | (with_reducible assumption) | assumption); obtain ⟨ad791, A791_1, c791_1, e791, hx791_0, hx791_1, hx791_2, hl791_1, hi791_1⟩ := at_T80 (Kd.S_reads' HO768.out).2.2 0 p791 q791; obtain rfl : ad786 = ad791 := (by injection e791); obtain ⟨ce791, hce791, hMe791, hcc791⟩ := Kd.S_get HO768.out z80 0 p791 (by first | exact q791 | exact of_decide_eq_true (by first | (with_reducible assumption) | assumption) | (have e_ := (Kd.S_reads' HO768.out).1; omega)); obtain ⟨ve791_1, rfl, ge791_1⟩ := k80_openM hMe791; have hv791_1 := hcc791 1 _ rfl; rw [add_field _ _ 1 (by omega)] at hv791_1; replace hv791_1 := Option.some.inj (hv791_1.symm.trans hx791_1); rw [hv791_1] at ge791_1; have HL791_1 := Aside0.mk (show Kd.R (Kd.int .u64) 22 _ _ _ _ ((rd_T80 t764 0).f1) from ge791_1); clear hv791_1 ge791_1; clear hcc791 hce791; have qi791 : (0 < t764.length) = True := eq_true (by omega); (try rw [show ((0 : Int)).toNat = 0 from rfl] at hx791_0); (try rw [show 0 * 3 = 0 from rfl] at hx791_0); (try rw [Addr.add_zero'] at hx791_0); (try rw [show ((0 : Int)).toNat = 0 from rfl] at hx791_1); (try rw [show 0 * 3 = 0 from rfl] at hx791_1); (try rw [Addr.add_zero'] at hx791_1); (try rw [show ((0 : Int)).toNat = 0 from rfl] at hx791_2); (try rw [show 0 * 3 = 0 from rfl] at hx791_2); (try rw [Addr.add_zero'] at hx791_2); have HR791_1 := Aside0.mk hi791_1; have HC791_1 := Aside0.mk hl791_1; clear hi791_1 hl791_1; replace p791 := eq_true p791; replace q791 := eq_true q791) | (go_at_call 60; (with_reducible refine (record_Right.calls ((rd_T80 t764 0).f0) _ _ ((rd_T80 t764 0).f1) ((rd_T80 t764 0).f2) true _ ?side1 ?side2 A17.out).mono ?_); (case side1 => repeat (first | exact (by repeat (first | (with_reducible exact HR791_1.out) | (with_reducible refine Kd.C_alloc ?_ _) | (with_reducible refine Kd.C_drewN ?_ _) | (with_reducible refine Kd.C_drew ?_) | exact HR791_1.out)) | (with_reducible refine Kd.C_alloc ?_ _) | (with_reducible refine Kd.C_drewN ?_ _) | (with_reducible refine Kd.C_drew ?_))); (case side2 => exact HC791_1.out); rintro e w41 ⟨rfl, hb⟩; have n0_ := Aside0.mk (Kd.R_below (by (with_reducible repeat (first | apply Kd.R_alloc | apply Kd.R_drewN | apply Kd.R_drew)); exact HO756.out) hb); have n1_ := Aside0.mk (Kd.R_below (by (with_reducible repeat (first | apply Kd.R_alloc | apply Kd.R_drewN | apply Kd.R_drew)); exact HO763.out) hb); have n2_ := Aside0.mk (Kd.S_below (by (with_reducible repeat (first | apply Kd.S_alloc | apply Kd.S_drewN | apply Kd.S_drew)); exact HO768.out) hb); have n3_ := Aside0.mk (Kd.R_below (by (with_reducible repeat (first | apply Kd.R_alloc | apply Kd.R_drewN | apply Kd.R_drew)); exact HO770.out) hb); have n4_ := Aside0.mk (Kd.R_below (by (with_reducible repeat (first | apply Kd.R_alloc | apply Kd.R_drewN | apply Kd.R_drew)); exact HO773.out) hb); have n5_ := Aside0.mk (Kd.R_below (by (with_reducible repeat (first | apply Kd.R_alloc | apply Kd.R_drewN | apply Kd.R_drew)); exact HO778.out) hb); have n6_ := Aside0.mk (Kd.R_below (by (with_reducible repeat (first | apply Kd.R_alloc | apply Kd.R_drewN | apply Kd.R_drew)); exact HO784.out) hb); have n7_ := Aside0.mk (Kd.R_below (by (with_reducible repeat (first | apply Kd.R_alloc | apply Kd.R_drewN | apply Kd.R_drew)); exact HL786_1.out) hb); have n8_ := Aside0.mk (Kd.R_below (by (with_reducible repeat (first | apply Kd.R_alloc | apply Kd.R_drewN | apply Kd.R_drew)); exact HO789.out) hb); have n9_ := Aside0.mk (Kd.R_below (by (with_reducible repeat (first | apply Kd.R_alloc | apply Kd.R_drewN | apply Kd.R_drew)); exact HL791_1.out) hb); have n10_ := Aside0.mk (blk_below (g := gb781) (o := .cells #[.int .i64 t775, .slice Ao30 t776.length co30, .string t779] 80 (0, 0)) (by (with_reducible repeat (first | refine blk_drewN ?_ _ | refine blk_drew ?_ | refine blk_alloc ?_ _)); exact BK781.out) hb); have n11_ := Aside0.mk (Kd.C_below (by repeat (first | (with_reducible exact HR786_1.out) | (with_reducible refine Kd.C_alloc ?_ _) | (with_reducible refine Kd.C_drewN ?_ _) | (with_reducible refine Kd.C_drew ?_) | exact HR786_1.out)) hb); have n12_ := Aside0.mk (Kd.C_below (by repeat (first | (with_reducible exact HR791_1.out) | (with_reducible refine Kd.C_alloc ?_ _) | (with_reducible refine Kd.C_drewN ?_ _) | (with_reducible refine Kd.C_drew ?_) | exact HR791_1.out)) hb); have n13_ := Aside0.mk (below_step (by repeat (first | (with_reducible first | exact HB.out | apply below_alloc | apply pw_below_drewN | apply below_drew1 | refine below_set ?_ GE781.out) | exact HB.out)) hb); clear HO756; clear HO763; clear HO768; clear HO770; clear HO773; clear HO778; clear HO784; clear HL786_1; clear HO789; clear HL791_1; clear BK781; clear HR786_1; clear HR791_1; clear HB; have HO756 := n0_; have HO763 := n1_; have HO768 := n2_; have HO770 := n3_; have HO773 := n4_; have HO778 := n5_; have HO784 := n6_; have HL786_1 := n7_; have HO789 := n8_; have HL791_1 := n9_; have BK781 := n10_; have HR786_1 := n11_; have HR791_1 := n12_; have HB := n13_; clear n0_ n1_ n2_ n3_ n4_ n5_ n6_ n7_ n8_ n9_ n10_ n11_ n12_ n13_; (try clear hb); (try clear hb2); (try clear hk); (try clear hi)))
                        go_ret
                        exact ⟨by first | rfl | (simp [errW_none, errW_some] <;> rfl) | (simp [*, errW_none, errW_some] <;> rfl), by repeat (first | (with_reducible first | exact HB.out | apply below_alloc | apply pw_below_drewN | apply below_drew1 | refine below_set ?_ GE781.out) | exact HB.out)⟩
                      · replace c18 := Bool.eq_false_iff.mpr c18
                        subst c18
                        have H1 : (some false) = some r := by rw [if_neg (show ¬ (false = true) by decide)] at H; exact H
                        clear H
                        have H := H1
                        clear H1
                        exact absurd (hr_.symm.trans (Option.some.inj H).symm) (by decide)
                    · replace c16 := Bool.eq_false_iff.mpr c16
                      subst c16
                      have H1 : (some false) = some r := by rw [if_neg (show ¬ (false = true) by decide)] at H; exact H
                      clear H
                      have H := H1
                      clear H1
                      exact absurd (hr_.symm.trans (Option.some.inj H).symm) (by decide)
                  · rw [if_neg c14] at H
                    exact absurd H (by simp)
                · rw [if_neg c13] at H
                  have c13b0 : (t780 == 2) = false := beq_eq_false_iff_ne.mpr c13
                  have c13b1 : (t780 != 2) = true := bne_iff_ne.mpr c13
                  exact absurd (hr_.symm.trans (Option.some.inj H).symm) (by decide)
              · rw [if_neg c12] at H
                have c12b0 : (t774 == 1) = false := beq_eq_false_iff_ne.mpr c12
                have c12b1 : (t774 != 1) = true := bne_iff_ne.mpr c12
                exact absurd (hr_.symm.trans (Option.some.inj H).symm) (by decide)
            · rw [if_neg c11] at H
              have c11b0 : (t766 == 3) = false := beq_eq_false_iff_ne.mpr c11
              have c11b1 : (t766 != 3) = true := bne_iff_ne.mpr c11
              exact absurd (hr_.symm.trans (Option.some.inj H).symm) (by decide)
          · replace c10 := Bool.eq_false_iff.mpr c10
            subst c10
            have H1 : (some false) = some r := by rw [if_neg (show ¬ (false = true) by decide)] at H; exact H
            clear H
            have H := H1
            clear H1
            exact absurd (hr_.symm.trans (Option.some.inj H).symm) (by decide)
        · rw [if_neg c8] at H
          have c8b0 : ((t764.length : Int) == 1) = false := beq_eq_false_iff_ne.mpr c8
          have c8b1 : ((t764.length : Int) != 1) = true := bne_iff_ne.mpr c8
          exact absurd (hr_.symm.trans (Option.some.inj H).symm) (by decide)
      · rw [if_neg c7] at H
        have c7b0 : ((t757.length : Int) == 12) = false := beq_eq_false_iff_ne.mpr c7
        have c7b1 : ((t757.length : Int) != 12) = true := bne_iff_ne.mpr c7
        exact absurd (hr_.symm.trans (Option.some.inj H).symm) (by decide)
    · rw [if_neg c6] at H
      have c6b0 : (t760 == 0) = false := beq_eq_false_iff_ne.mpr c6
      have c6b1 : (t760 != 0) = true := bne_iff_ne.mpr c6
      exact absurd (hr_.symm.trans (Option.some.inj H).symm) (by decide)
  · rw [if_neg c2] at H
    exact absurd H (by simp)
def tumbrellaw05_awake.f (k : Nat) : Option Bool := if aw5.f k = some true then some true else none
theorem tumbrellaw05_awake.mono : ∀ k, LeO (tumbrellaw05_awake.f k) (tumbrellaw05_awake.f (k + 1)) := by
  intro k r h
  unfold tumbrellaw05_awake.f at h ⊢
  split at h
  case isFalse => exact absurd h (by simp)
  rename_i hh
  rw [if_pos (aw5.mono k true hh)]; exact h
theorem tumbrellaw05_awake.calls (k : Nat) (r : Bool) (w : World) (h : tumbrellaw05_awake.f k = some r) :
    Calls Try.prog 54 #[] w fun e w' => e = .returned (.bool r) ∧ Below w.heap.size w w' := by
  unfold tumbrellaw05_awake.f at h
  split at h
  case isFalse => exact absurd h (by simp)
  rename_i hh
  obtain rfl := Option.some.inj h
  exact aw5.calls k true w hh rfl
end Go.Proofs.Ytojepleodijdeaa.B
namespace Go.Proofs.Ytojepleodijdeaa.B
open Go.RowKit Go.Proofs.YtojepleodijdeaaW.PrintWords Go.Proofs.YtojepleodijdeaaW.PrintLast Go.Proofs.YtojepleodijdeaaW.PrintMore
attribute [local go_sem] max2_int min2_int max_two min_two max_three min_three max_four min_four   -- for this text's walks alone
set_option linter.unusedVariables false
set_option linter.unusedSimpArgs false
mutual
def tumbrellaw05_RecordTorn.l0 : Nat → List (S80) → Int → List Int → Int → List (S80) → Int → Int → Option (Bool)
  | 0, _, _, _, _, _, _, _ => none
  | k + 1, x0, x1, x5, x6, x22, x23, x24 => if x24 < x23 then (if 0 ≤ x24 then (if x24 < (x22.length : Int) then ((record_Bytes.f k ((rd_T80 x22 x24).f0) ((rd_T80 x22 x24).f1) ((rd_T80 x22 x24).f2)).bind fun bt894 => (if bt894.2 = 0 then (if (wrap64 ((x5.length : Int) + (bt894.1.length : Int))) ≤ x1 then (if x5.length + bt894.1.length < 140737488355328 then (tumbrellaw05_RecordTorn.l0 k x0 x1 (x5 ++ bt894.1) (wrap64 (x6 + 1)) x22 x23 (wrap64 (x24 + 1))) else (none)) else (if x5.length + bt894.1.length < 140737488355328 then (tumbrellaw05_RecordTorn.l0 k x0 x1 (x5 ++ bt894.1) x6 x22 x23 (wrap64 (x24 + 1))) else (none))) else (some true))) else (none)) else (none)) else (if 0 ≤ (mn (mx x1 0) (x5.length : Int)) then (if (mn (mx x1 0) (x5.length : Int)) ≤ (x5.length : Int) then ((record_All.f k (x5.take ((mn (mx x1 0) (x5.length : Int)) : Int).toNat)).bind fun bt908 => (if (bt908.1.length : Int) = x6 then (if (bt908.2.1.length : Int) = x6 then (if bt908.2.2 = 0 then (tumbrellaw05_RecordTorn.j1 k x0 (mn (mx x1 0) (x5.length : Int)) x6 bt908.1 bt908.2.1 bt908.2.2 false) else (tumbrellaw05_RecordTorn.j1 k x0 (mn (mx x1 0) (x5.length : Int)) x6 bt908.1 bt908.2.1 bt908.2.2 (bt908.2.2 != 3))) else (tumbrellaw05_RecordTorn.j1 k x0 (mn (mx x1 0) (x5.length : Int)) x6 bt908.1 bt908.2.1 bt908.2.2 true)) else (tumbrellaw05_RecordTorn.j1 k x0 (mn (mx x1 0) (x5.length : Int)) x6 bt908.1 bt908.2.1 bt908.2.2 true))) else (none)) else (none))
def tumbrellaw05_RecordTorn.j1 : Nat → List (S80) → Int → Int → List (S80) → List Int → Int → Bool → Option (Bool)
  | 0, _, _, _, _, _, _, _ => none
  | k + 1, x0, x1, x6, x11, x12, x13, x78 => if x78 = true then (some false) else (tumbrellaw05_RecordTorn.l1 k x0 x1 x6 x12 x13 x11 (x11.length : Int) 0)
def tumbrellaw05_RecordTorn.l1 : Nat → List (S80) → Int → Int → List Int → Int → List (S80) → Int → Int → Option (Bool)
  | 0, _, _, _, _, _, _, _, _ => none
  | k + 1, x0, x1, x6, x12, x13, x79, x80, x81 => if x81 < x80 then (if 0 ≤ x81 then (if x81 < (x79.length : Int) then (if x81 < (x0.length : Int) then ((record_Same.f k ((rd_T80 x79 x81).f0) ((rd_T80 x79 x81).f1) ((rd_T80 x79 x81).f2) ((rd_T80 x0 x81).f0) ((rd_T80 x0 x81).f1) ((rd_T80 x0 x81).f2)).bind fun t918 => (if t918 = true then (if x81 < (x12.length : Int) then (if (rd x12 x81) > x1 then (some false) else (tumbrellaw05_RecordTorn.l1 k x0 x1 x6 x12 x13 x79 x80 (wrap64 (x81 + 1)))) else (none)) else (some false))) else (none)) else (none)) else (none)) else (if x6 > 0 then (if 0 ≤ (wrap64 (x6 - 1)) then (if (wrap64 (x6 - 1)) < (x12.length : Int) then (some ((x13 == 0) == ((rd x12 (wrap64 (x6 - 1))) == x1))) else (none)) else (none)) else (some ((x13 == 0) == (0 == x1))))
end
def tumbrellaw05_RecordTorn.f (k : Nat) (l0 : List (S80)) (a1 : Int) : Option (Bool) := (tumbrellaw05_awake.f k).bind fun t891 => (if t891 = true then (if (l0.length : Int) > 6 then (some true) else (tumbrellaw05_RecordTorn.l0 k l0 a1 ([] : List Int) 0 l0 (l0.length : Int) 0)) else (some false))
def tumbrellaw05_RecordTorn.T24 : Bool × List (List Nat × List Nat) := (true, [([], []), ([], []), ([], []), ([1, 2], [1, 2]), ([3], [3]), ([0, 4], [0, 4]), ([5], [5]), ([6, 5], [6]), ([7], [7]), ([7], [7]), ([8, 9, 7], [7, 8, 9]), ([10, 7], [7, 10]), ([7], [7]), ([11, 12, 7], [7, 11, 12]), ([7, 13], [7, 13])])
def tumbrellaw05_RecordTorn.B24 : List Nat := [0, 0, 0, 6, 14, 31, 63, 127, 255, 255, 1023, 2047, 255, 8191, 16383]
theorem tumbrellaw05_RecordTorn.tab24 : rtab .any (opsOf Try.f18 24) = tumbrellaw05_RecordTorn.T24 := by kernel_rfl
theorem tumbrellaw05_RecordTorn.bits24 : waitsOk tumbrellaw05_RecordTorn.T24.2 tumbrellaw05_RecordTorn.B24 = true := by kernel_rfl
set_option maxHeartbeats 8000000 in
set_option maxRecDepth 100000 in
theorem tumbrellaw05_RecordTorn.calls (k : Nat) (A0 : Option Addr) (c0 : Nat) (l0 : List (S80)) (a1 : Int) (r : Bool) (w : World) (hr0 : Kd.C k80 w A0 l0.length l0) (hc0 : l0.length ≤ c0) (h : tumbrellaw05_RecordTorn.f k l0 a1 = some r) :
    Calls Try.prog 18 #[.slice A0 l0.length c0, .int .i64 a1] w fun e w' => e = .returned (.bool r) ∧ Below w.heap.size w w' := by
  have hu80 := Try.underlying80
  have HR0 := Aside0.mk hr0
  have HC0 := Aside0.mk hc0
  clear hr0 hc0
  have HB := Aside0.mk (Below.refl w.heap.size w)
  have H : ((tumbrellaw05_awake.f k).bind fun t891 => (if t891 = true then (if (l0.length : Int) > 6 then (some true) else (tumbrellaw05_RecordTorn.l0 k l0 a1 ([] : List Int) 0 l0 (l0.length : Int) 0)) else (some false))) = some r := h
  clear h
  replace H := Option.bind_eq_some_iff.mp H
  obtain ⟨t891, A30, H⟩ := H
  replace H : (if t891 = true then (if (l0.length : Int) > 6 then (some true) else (tumbrellaw05_RecordTorn.l0 k l0 a1 ([] : List Int) 0 l0 (l0.length : Int) 0)) else (some false)) = some r := H
  have A3 := Aside0.mk A30
  clear A30
  by_cases c4 : t891 = true
  · subst c4
    have H1 : (if (l0.length : Int) > 6 then (some true) else (tumbrellaw05_RecordTorn.l0 k l0 a1 ([] : List Int) 0 l0 (l0.length : Int) 0)) = some r := by rw [if_pos rfl] at H; exact H
    clear H
    have H := H1
    clear H1
    by_cases c5 : (l0.length : Int) > 6
    · rw [if_pos c5] at H
      have c5b0 : decide (6 < (l0.length : Int)) = true := decide_eq_true c5
      have c5b1 : decide (6 < l0.length) = true := decide_eq_true (by omega)
      clear c5
      obtain rfl := Option.some.inj H
      go_enter Try.func18, Try.ntmps18
      go_wp2_with (first | ((with_reducible refine gate_callee (f := 54) rfl ?_); refine goesL_ (some 17) rfl rfl Try.func54 (by kernel_rfl) rfl #[] rfl (by (try simp only [List.map_toArray, List.map_cons, List.map_nil]); first | done | rfl | (simp only [List.length_drop, List.length_take]; rfl)) ?_; (with_reducible refine (tumbrellaw05_awake.calls k  true _ A3.out).mono ?_); rintro e w6 ⟨rfl, hb⟩; refine ⟨_, rfl, ?_⟩; have n0_ := Aside0.mk (below_step (by repeat (first | (with_reducible first | exact HB.out | apply below_alloc | apply pw_below_drewN | apply below_drew1) | exact HB.out)) hb); clear HB; have HB := n0_; clear n0_; (try clear hb); (try clear hb2); (try clear hk); (try clear hi)))
      go_ret
      exact ⟨by first | rfl | (simp [errW_none, errW_some] <;> rfl) | (simp [*, errW_none, errW_some] <;> rfl), by repeat (first | (with_reducible first | exact HB.out | apply below_alloc | apply pw_below_drewN | apply below_drew1) | exact HB.out)⟩
    · rw [if_neg c5] at H
      have c5b0 : decide (6 < (l0.length : Int)) = false := decide_eq_false c5
      have c5b1 : decide (6 < l0.length) = false := decide_eq_false (by omega)
      clear c5
      have H' := Aside0.mk H
      clear H
      go_enter Try.func18, Try.ntmps18
      go_wp2_with (first | ((with_reducible refine gate_callee (f := 54) rfl ?_); refine goesL_ (some 17) rfl rfl Try.func54 (by kernel_rfl) rfl #[] rfl (by (try simp only [List.map_toArray, List.map_cons, List.map_nil]); first | done | rfl | (simp only [List.length_drop, List.length_take]; rfl)) ?_; (with_reducible refine (tumbrellaw05_awake.calls k  true _ A3.out).mono ?_); rintro e w7 ⟨rfl, hb⟩; refine ⟨_, rfl, ?_⟩; have n0_ := Aside0.mk (below_step (by repeat (first | (with_reducible first | exact HB.out | apply below_alloc | apply pw_below_drewN | apply below_drew1) | exact HB.out)) hb); clear HB; have HB := n0_; clear n0_; (try clear hb); (try clear hb2); (try clear hk); (try clear hi)))
      go_loopg [5, 6, 24] k (fun kq v5 v6 v24 w' => ∃ (x5_1 : List Int) (x6_1 : Int) (x24_1 : Int), v6 = .int .i64 x6_1 ∧ v24 = .int .i64 x24_1 ∧ Aside0 (tumbrellaw05_RecordTorn.l0 kq l0 a1 x5_1 x6_1 l0 (l0.length : Int) x24_1 = some r) ∧ Aside0 (kq ≤ k) ∧ Aside0 (Kd.R (Kd.int .u8) 5 w' w.heap.size (fun _ => True) v5 x5_1) ∧ Aside0 (Below w.heap.size w w'))
      case atStart => exact ⟨(([] : List Int)), (0), (0), (by first | rfl | (simp; done) | (simp [*]; done)), (by first | rfl | (simp; done) | (simp [*]; done)), H', ⟨Nat.le_refl _⟩, ⟨by first | exact Kd.R_nil _ _ _ _ _ | exact Kd.N_nil _ _ _ _ _ | exact Kd.V_nil _ _ _ _ _ | exact Kd.Q_nil _ _ _ _ _ | exact Kd.S_nil _ _ _ _ _⟩, ⟨by repeat (first | (with_reducible first | exact HB.out | apply below_alloc | apply pw_below_drewN | apply below_drew1) | exact HB.out)⟩⟩
      case round =>
        clear H'
        try clear c1
        try clear p2
        try clear c4
        try clear c5
        try clear c5b0
        try clear c5b1
        obtain ⟨x5_1, x6_1, x24_1, rfl, rfl, HA, HK1, HO_5, HB⟩ := hrel
        cases gk with
        | zero => exact absurd HA.out (by simp [tumbrellaw05_RecordTorn.l0])
        | succ k1 =>
          have H := HA.out
          clear HA
          simp only [tumbrellaw05_RecordTorn.l0] at H
          by_cases c8 : x24_1 < (l0.length : Int)
          · rw [if_pos c8] at H
            have c8b0 : decide (x24_1 < (l0.length : Int)) = true := decide_eq_true c8
            clear c8
            by_cases c9 : 0 ≤ x24_1
            · rw [if_pos c9] at H
              have c9b0 : decide (0 ≤ x24_1) = true := decide_eq_true c9
              clear c9
              by_cases c10 : x24_1 < (l0.length : Int)
              · rw [if_pos c10] at H
                have c10b0 : decide (x24_1 < (l0.length : Int)) = true := decide_eq_true c10
                clear c10
                replace H := Option.bind_eq_some_iff.mp H
                obtain ⟨⟨t894, t897⟩, A110, H⟩ := H
                replace H : (if t897 = 0 then (if (wrap64 ((x5_1.length : Int) + (t894.length : Int))) ≤ a1 then (if x5_1.length + t894.length < 140737488355328 then (tumbrellaw05_RecordTorn.l0 k1 l0 a1 (x5_1 ++ t894) (wrap64 (x6_1 + 1)) l0 (l0.length : Int) (wrap64 (x24_1 + 1))) else (none)) else (if x5_1.length + t894.length < 140737488355328 then (tumbrellaw05_RecordTorn.l0 k1 l0 a1 (x5_1 ++ t894) x6_1 l0 (l0.length : Int) (wrap64 (x24_1 + 1))) else (none))) else (some true)) = some r := H
                have A11 := Aside0.mk A110
                clear A110
                by_cases c12 : t897 = 0
                · rw [if_pos c12] at H
                  have c12b0 : (t897 == 0) = true := beq_iff_eq.mpr c12
                  have c12b1 : (t897 != 0) = false := bne_eq_false_iff_eq.mpr c12
                  clear c12
                  by_cases c13 : (wrap64 ((x5_1.length : Int) + (t894.length : Int))) ≤ a1
                  · rw [if_pos c13] at H
                    have c13b0 : decide ((wrap64 ((x5_1.length : Int) + (t894.length : Int))) ≤ a1) = true := decide_eq_true c13
                    clear c13
                    by_cases c14 : x5_1.length + t894.length < 140737488355328
                    · rw [if_pos c14] at H
                      have LMc14 := Aside0.mk c14
                      clear c14
                      obtain ⟨y898, hy898⟩ : ∃ y_ : List Int, y_ = (x5_1 ++ t894) := ⟨_, rfl⟩
                      replace H : (tumbrellaw05_RecordTorn.l0 k1 l0 a1 y898 (wrap64 (x6_1 + 1)) l0 (l0.length : Int) (wrap64 (x24_1 + 1))) = some r := by first | (rw [hy898]; with_reducible exact H) | (have H2_ := (Option.bind_some _ _).symm.trans H; rw [hy898]; with_reducible exact H2_) | (have H2_ := (Option.bind_some _ _).symm.trans H; with_reducible exact H2_) | with_reducible exact H | (rw [hy898]; exact H) | exact H
                      have Ny898 := Aside0.mk hy898
                      clear hy898
                      have H' := Aside0.mk H
                      clear H
                      have p892 : 0 ≤ (x24_1 : Int) := of_decide_eq_true (by first | (with_reducible assumption) | assumption)
                      have q892 : x24_1 < (l0.length : Int) := of_decide_eq_true (by first | (with_reducible assumption) | assumption)
                      obtain ⟨ad892, A892_1, c892_1, e892, hx892_0, hx892_1, hx892_2, hl892_1, hi892_1⟩ := at_T80 HR0.out x24_1 p892 q892
                      cases e892
                      replace hx892_0 := (HB.out.cell (World.block_lt_of_cell? w _ hx892_0)).trans hx892_0
                      replace hx892_1 := (HB.out.cell (World.block_lt_of_cell? w _ hx892_1)).trans hx892_1
                      replace hx892_2 := (HB.out.cell (World.block_lt_of_cell? w _ hx892_2)).trans hx892_2
                      have HR892_1 := Aside0.mk hi892_1
                      have HC892_1 := Aside0.mk hl892_1
                      clear hi892_1 hl892_1
                      replace p892 := eq_true p892
                      replace q892 := eq_true q892
                      go_wp2_with (first | ((with_reducible refine gate_dst (N := 8) rfl ?_); (try (refine gate_guard (by rfl) ?_; dsimp only)); refine box_event ?hg (N := 8) ?hd (cs := #[.int .i64 0, .slice none 0 0, .string (⟨#[]⟩ : ByteArray)]) (t := 80) ?hr ?_; (case hd => rfl); (case hg => rfl); (case hr => first | (go_simp; done) | (go_simp; rfl)); intro gb893 hg w15 hbox hb; have n0_ := Aside0.mk (Kd.R_below (by (with_reducible repeat (first | apply Kd.R_alloc | apply Kd.R_drewN | apply Kd.R_drew)); exact HO_5.out) hb); have n1_ := Aside0.mk (below_step (by repeat (first | (with_reducible first | exact HB.out | apply below_alloc | apply pw_below_drewN | apply below_drew1) | exact HB.out)) hb); have n2_ := Aside0.mk (hbox); have n3_ := Aside0.mk ((by rw [hg]; exact (below_size (by repeat (first | (with_reducible first | exact HB.out | apply below_alloc | apply pw_below_drewN | apply below_drew1) | exact HB.out))) : w.heap.size ≤ gb893)); have n4_ := Aside0.mk ((by rw [hg]; exact (below_size (by repeat (first | (with_reducible first | exact HB.out | apply below_alloc | apply pw_below_drewN | apply below_drew1) | exact HB.out))) : w.heap.size ≤ gb893)); clear HO_5; clear HB; have HO_5 := n0_; have HB := n1_; have BK893 := n2_; have GW893 := n3_; have GE893 := n4_; clear n0_ n1_ n2_ n3_ n4_; clear hb hbox hg; have hcz16_0 : w15.cell? ⟨gb893, 0, none⟩ = some (.int .i64 0) := (blk_cell BK893.out 0).trans rfl; have hcz16_1 : w15.cell? ⟨gb893, 1, none⟩ = some (.slice none 0 0) := (blk_cell BK893.out 1).trans rfl; have hcz16_2 : w15.cell? ⟨gb893, 2, none⟩ = some (.string (⟨#[]⟩ : ByteArray)) := (blk_cell BK893.out 2).trans rfl; have hfz16_0 := blk_frozen BK893.out 0; have hfz16_1 := blk_frozen BK893.out 1; have hfz16_2 := blk_frozen BK893.out 2) | ((with_reducible refine gate_callee (f := 56) rfl ?_); refine goesL_ (some 30) rfl rfl Try.func56 (by kernel_rfl) rfl #[.agg #[.int .i64 ((rd_T80 l0 x24_1).f0), .slice A892_1 ((rd_T80 l0 x24_1).f1).length c892_1, .string ((rd_T80 l0 x24_1).f2)]] rfl (by (try simp only [List.map_toArray, List.map_cons, List.map_nil]); first | done | rfl | (simp only [List.length_drop, List.length_take]; rfl)) ?_; (with_reducible refine (record_Bytes.calls k1 ((rd_T80 l0 x24_1).f0) _ _ ((rd_T80 l0 x24_1).f1) ((rd_T80 l0 x24_1).f2) t894 t897 _ ?side1 ?side2 A11.out).mono ?_); (case side1 => exact Kd.C_below HR892_1.out (by repeat (first | (with_reducible first | exact HB.out | apply below_alloc | apply pw_below_drewN | apply below_drew1 | refine below_set ?_ GE893.out) | exact HB.out))); (case side2 => exact HC892_1.out); rintro e w17 ⟨v895, rfl, ho0, hb⟩; refine ⟨_, rfl, ?_⟩; have n0_ := Aside0.mk (Kd.R_elder' (by (with_reducible repeat (first | apply Kd.R_alloc | apply Kd.R_drewN | apply Kd.R_drew)); exact (Kd.R_mono (Kd.R_far (p := ⟨gb893, 2, none⟩) (Kd.R_far (p := ⟨gb893, 1, none⟩) (Kd.R_far (p := ⟨gb893, 0, none⟩) (Kd.R_types HO_5.out BK893.out (by decide)) (fun _ hk => hk.2) (.int .i64 ((rd_T80 l0 x24_1).f0))) (fun _ hk => hk.2) (.slice A892_1 ((rd_T80 l0 x24_1).f1).length c892_1)) (fun _ hk => hk.2) (.string ((rd_T80 l0 x24_1).f2))) (fun _ h_ => h_.1))) (Kd.R_base ho0) hb); have n1_ := Aside0.mk (Kd.R_lower (Kd.R_new' ho0 (Kd.R_lt (by (with_reducible repeat (first | apply Kd.R_alloc | apply Kd.R_drewN | apply Kd.R_drew)); exact (Kd.R_mono (Kd.R_far (p := ⟨gb893, 2, none⟩) (Kd.R_far (p := ⟨gb893, 1, none⟩) (Kd.R_far (p := ⟨gb893, 0, none⟩) (Kd.R_types HO_5.out BK893.out (by decide)) (fun _ hk => hk.2) (.int .i64 ((rd_T80 l0 x24_1).f0))) (fun _ hk => hk.2) (.slice A892_1 ((rd_T80 l0 x24_1).f1).length c892_1)) (fun _ hk => hk.2) (.string ((rd_T80 l0 x24_1).f2))) (fun _ h_ => h_.1))))) (below_size (by repeat (first | (with_reducible first | exact HB.out | apply below_alloc | apply pw_below_drewN | apply below_drew1 | refine below_set ?_ GE893.out) | exact HB.out)))); have n2_ := Aside0.mk (blk_below (g := gb893) (o := .cells #[.int .i64 ((rd_T80 l0 x24_1).f0), .slice A892_1 ((rd_T80 l0 x24_1).f1).length c892_1, .string ((rd_T80 l0 x24_1).f2)] 80 (0, 0)) (by (with_reducible repeat (first | refine blk_drewN ?_ _ | refine blk_drew ?_ | refine blk_alloc ?_ _)); refine blk_put (cs := #[.int .i64 ((rd_T80 l0 x24_1).f0), .slice A892_1 ((rd_T80 l0 x24_1).f1).length c892_1, .string (⟨#[]⟩ : ByteArray)]) ?_ 2 _ rfl; (with_reducible repeat (first | refine blk_drewN ?_ _ | refine blk_drew ?_ | refine blk_alloc ?_ _)); refine blk_put (cs := #[.int .i64 ((rd_T80 l0 x24_1).f0), .slice none 0 0, .string (⟨#[]⟩ : ByteArray)]) ?_ 1 _ rfl; (with_reducible repeat (first | refine blk_drewN ?_ _ | refine blk_drew ?_ | refine blk_alloc ?_ _)); refine blk_put (cs := #[.int .i64 0, .slice none 0 0, .string (⟨#[]⟩ : ByteArray)]) ?_ 0 _ rfl; (with_reducible repeat (first | refine blk_drewN ?_ _ | refine blk_drew ?_ | refine blk_alloc ?_ _)); exact BK893.out) hb); have n3_ := Aside0.mk (below_step (by repeat (first | (with_reducible first | exact HB.out | apply below_alloc | apply pw_below_drewN | apply below_drew1 | refine below_set ?_ GE893.out) | exact HB.out)) hb); clear HO_5; clear BK893; clear HB; have HO_5 := n0_; have HO896 := n1_; have BK893 := n2_; have HB := n3_; clear n0_ n1_ n2_ n3_; (try clear hb); (try clear hb2); (try clear hk); (try clear hi); (try clear ho0); obtain ⟨Ao18, co18, eo18⟩ := Kd.R_slice HO_5.out; subst eo18; obtain ⟨Ao19, co19, eo19⟩ := Kd.R_slice HO896.out; subst eo19) | ((with_reducible refine gate_builtin (b := .append) (xs := #[.tmp 44, .tmp 45]) rfl ?_); (try (refine gate_guard (by rfl) ?_; dsimp only)); at_builtin; refine Kd.R_append_rows (Kd.int .u8) (w0 := w) w.heap.size rfl (.tmp 44) (.tmp 45) 23 5 (.int .u8 0) 1 rfl Try.underlying23 info5 rfl (by decide) (by omega) (.slice Ao18 x5_1.length co18) x5_1 t894 _ _ _ (fun k_ => some k_ ≠ (.slice Ao19 t894.length co19 : Value).ownBlock) (fun _ => False) rfl rfl ?aO ?aR (fun _ _ h => h) (fun _ h => h.elim) ?aF ?aB ?aS ?aL ?_; (case aR => repeat (first | exact (Kd.R_reads' HO896.out).2.2 | (with_reducible refine Kd.C_alloc ?_ _) | (with_reducible refine Kd.C_drewN ?_ _) | (with_reducible refine Kd.C_drew ?_))); (case aB => exact (by repeat (first | (with_reducible first | exact HB.out | apply below_alloc | apply pw_below_drewN | apply below_drew1 | refine below_set ?_ GE893.out) | exact HB.out))); (case aF => exact (fun k_ hk => Kd.fresh' (Kd.R_lt (by (with_reducible repeat (first | apply Kd.R_alloc | apply Kd.R_drewN | apply Kd.R_drew)); exact HO896.out)) k_ hk)); (case aO => exact (by (with_reducible repeat (first | apply Kd.R_alloc | apply Kd.R_drewN | apply Kd.R_drew)); exact Kd.R_mono HO_5.out (fun _ hk => hk.2))); (case aS => exact (below_size (by repeat (first | (with_reducible first | exact HB.out | apply below_alloc | apply pw_below_drewN | apply below_drew1 | refine below_set ?_ GE893.out) | exact HB.out)))); (case aL => have := LMc14.out; omega); intro v899 w20 ho hb hg hat; rw [← Ny898.out] at ho; have n0_ := Aside0.mk (blk_grown (g := gb893) (o := .cells #[.int .i64 ((rd_T80 l0 x24_1).f0), .slice A892_1 ((rd_T80 l0 x24_1).f1).length c892_1, .string ((rd_T80 l0 x24_1).f2)] 80 (0, 0)) (by (with_reducible repeat (first | refine blk_drewN ?_ _ | refine blk_drew ?_ | refine blk_alloc ?_ _)); exact BK893.out) hg (Kd.R_ne HO_5.out BK893.out (by decide))); have n1_ := Aside0.mk (Kd.R_after (ok := (fun _ => True)) (by (with_reducible repeat (first | apply Kd.R_alloc | apply Kd.R_drewN | apply Kd.R_drew)); exact HO896.out) hg hat); have n2_ := Aside0.mk (hb); have n3_ := Aside0.mk (ho); clear BK893; clear HO896; clear HB; clear HO_5; have BK893 := n0_; have HO896 := n1_; have HB := n2_; have HO900 := n3_; clear n0_ n1_ n2_ n3_; clear ho hb hg hat))
                      go_roundg k1
                      case measure => have := HK1.out; omega
                      case rel => exact ⟨(y898), (wrap64 (x6_1 + 1)), (wrap64 (x24_1 + 1)), (by first | rfl | (simp; done) | (simp [*]; done)), (by first | rfl | (simp; done) | (simp [*]; done)), H', ⟨by have := HK1.out; omega⟩, ⟨by (with_reducible repeat (first | apply Kd.R_alloc | apply Kd.R_drewN | apply Kd.R_drew)); exact Kd.R_mono HO900.out (fun _ hk => trivial)⟩, ⟨by repeat (first | (with_reducible first | exact HB.out | apply below_alloc | apply pw_below_drewN | apply below_drew1 | refine below_set ?_ GE893.out) | exact HB.out)⟩⟩
                    · rw [if_neg c14] at H
                      exact absurd H (by simp)
                  · rw [if_neg c13] at H
                    have c13b0 : decide ((wrap64 ((x5_1.length : Int) + (t894.length : Int))) ≤ a1) = false := decide_eq_false c13
                    clear c13
                    by_cases c21 : x5_1.length + t894.length < 140737488355328
                    · rw [if_pos c21] at H
                      have LMc21 := Aside0.mk c21
                      clear c21
                      obtain ⟨y901, hy901⟩ : ∃ y_ : List Int, y_ = (x5_1 ++ t894) := ⟨_, rfl⟩
                      replace H : (tumbrellaw05_RecordTorn.l0 k1 l0 a1 y901 x6_1 l0 (l0.length : Int) (wrap64 (x24_1 + 1))) = some r := by first | (rw [hy901]; with_reducible exact H) | (have H2_ := (Option.bind_some _ _).symm.trans H; rw [hy901]; with_reducible exact H2_) | (have H2_ := (Option.bind_some _ _).symm.trans H; with_reducible exact H2_) | with_reducible exact H | (rw [hy901]; exact H) | exact H
                      have Ny901 := Aside0.mk hy901
                      clear hy901
                      have H' := Aside0.mk H
                      clear H
                      have p892 : 0 ≤ (x24_1 : Int) := of_decide_eq_true (by first | (with_reducible assumption) | assumption)
                      have q892 : x24_1 < (l0.length : Int) := of_decide_eq_true (by first | (with_reducible assumption) | assumption)
                      obtain ⟨ad892, A892_1, c892_1, e892, hx892_0, hx892_1, hx892_2, hl892_1, hi892_1⟩ := at_T80 HR0.out x24_1 p892 q892
                      cases e892
                      replace hx892_0 := (HB.out.cell (World.block_lt_of_cell? w _ hx892_0)).trans hx892_0
                      replace hx892_1 := (HB.out.cell (World.block_lt_of_cell? w _ hx892_1)).trans hx892_1
                      replace hx892_2 := (HB.out.cell (World.block_lt_of_cell? w _ hx892_2)).trans hx892_2
                      have HR892_1 := Aside0.mk hi892_1
                      have HC892_1 := Aside0.mk hl892_1
                      clear hi892_1 hl892_1
                      replace p892 := eq_true p892
                      replace q892 := eq_true q892
                      go_wp2_with (first | ((with_reducible refine gate_dst (N := 8) rfl ?_); (try (refine gate_guard (by rfl) ?_; dsimp only)); refine box_event ?hg (N := 8) ?hd (cs := #[.int .i64 0, .slice none 0 0, .string (⟨#[]⟩ : ByteArray)]) (t := 80) ?hr ?_; (case hd => rfl); (case hg => rfl); (case hr => first | (go_simp; done) | (go_simp; rfl)); intro gb893 hg w22 hbox hb; have n0_ := Aside0.mk (Kd.R_below (by (with_reducible repeat (first | apply Kd.R_alloc | apply Kd.R_drewN | apply Kd.R_drew)); exact HO_5.out) hb); have n1_ := Aside0.mk (below_step (by repeat (first | (with_reducible first | exact HB.out | apply below_alloc | apply pw_below_drewN | apply below_drew1) | exact HB.out)) hb); have n2_ := Aside0.mk (hbox); have n3_ := Aside0.mk ((by rw [hg]; exact (below_size (by repeat (first | (with_reducible first | exact HB.out | apply below_alloc | apply pw_below_drewN | apply below_drew1) | exact HB.out))) : w.heap.size ≤ gb893)); have n4_ := Aside0.mk ((by rw [hg]; exact (below_size (by repeat (first | (with_reducible first | exact HB.out | apply below_alloc | apply pw_below_drewN | apply below_drew1) | exact HB.out))) : w.heap.size ≤ gb893)); clear HO_5; clear HB; have HO_5 := n0_; have HB := n1_; have BK893 := n2_; have GW893 := n3_; have GE893 := n4_; clear n0_ n1_ n2_ n3_ n4_; clear hb hbox hg; have hcz23_0 : w22.cell? ⟨gb893, 0, none⟩ = some (.int .i64 0) := (blk_cell BK893.out 0).trans rfl; have hcz23_1 : w22.cell? ⟨gb893, 1, none⟩ = some (.slice none 0 0) := (blk_cell BK893.out 1).trans rfl; have hcz23_2 : w22.cell? ⟨gb893, 2, none⟩ = some (.string (⟨#[]⟩ : ByteArray)) := (blk_cell BK893.out 2).trans rfl; have hfz23_0 := blk_frozen BK893.out 0; have hfz23_1 := blk_frozen BK893.out 1; have hfz23_2 := blk_frozen BK893.out 2) | ((with_reducible refine gate_callee (f := 56) rfl ?_); refine goesL_ (some 30) rfl rfl Try.func56 (by kernel_rfl) rfl #[.agg #[.int .i64 ((rd_T80 l0 x24_1).f0), .slice A892_1 ((rd_T80 l0 x24_1).f1).length c892_1, .string ((rd_T80 l0 x24_1).f2)]] rfl (by (try simp only [List.map_toArray, List.map_cons, List.map_nil]); first | done | rfl | (simp only [List.length_drop, List.length_take]; rfl)) ?_; (with_reducible refine (record_Bytes.calls k1 ((rd_T80 l0 x24_1).f0) _ _ ((rd_T80 l0 x24_1).f1) ((rd_T80 l0 x24_1).f2) t894 t897 _ ?side1 ?side2 A11.out).mono ?_); (case side1 => exact Kd.C_below HR892_1.out (by repeat (first | (with_reducible first | exact HB.out | apply below_alloc | apply pw_below_drewN | apply below_drew1 | refine below_set ?_ GE893.out) | exact HB.out))); (case side2 => exact HC892_1.out); rintro e w24 ⟨v895, rfl, ho0, hb⟩; refine ⟨_, rfl, ?_⟩; have n0_ := Aside0.mk (Kd.R_elder' (by (with_reducible repeat (first | apply Kd.R_alloc | apply Kd.R_drewN | apply Kd.R_drew)); exact (Kd.R_mono (Kd.R_far (p := ⟨gb893, 2, none⟩) (Kd.R_far (p := ⟨gb893, 1, none⟩) (Kd.R_far (p := ⟨gb893, 0, none⟩) (Kd.R_types HO_5.out BK893.out (by decide)) (fun _ hk => hk.2) (.int .i64 ((rd_T80 l0 x24_1).f0))) (fun _ hk => hk.2) (.slice A892_1 ((rd_T80 l0 x24_1).f1).length c892_1)) (fun _ hk => hk.2) (.string ((rd_T80 l0 x24_1).f2))) (fun _ h_ => h_.1))) (Kd.R_base ho0) hb); have n1_ := Aside0.mk (Kd.R_lower (Kd.R_new' ho0 (Kd.R_lt (by (with_reducible repeat (first | apply Kd.R_alloc | apply Kd.R_drewN | apply Kd.R_drew)); exact (Kd.R_mono (Kd.R_far (p := ⟨gb893, 2, none⟩) (Kd.R_far (p := ⟨gb893, 1, none⟩) (Kd.R_far (p := ⟨gb893, 0, none⟩) (Kd.R_types HO_5.out BK893.out (by decide)) (fun _ hk => hk.2) (.int .i64 ((rd_T80 l0 x24_1).f0))) (fun _ hk => hk.2) (.slice A892_1 ((rd_T80 l0 x24_1).f1).length c892_1)) (fun _ hk => hk.2) (.string ((rd_T80 l0 x24_1).f2))) (fun _ h_ => h_.1))))) (below_size (by repeat (first | (with_reducible first | exact HB.out | apply below_alloc | apply pw_below_drewN | apply below_drew1 | refine below_set ?_ GE893.out) | exact HB.out)))); have n2_ := Aside0.mk (blk_below (g := gb893) (o := .cells #[.int .i64 ((rd_T80 l0 x24_1).f0), .slice A892_1 ((rd_T80 l0 x24_1).f1).length c892_1, .string ((rd_T80 l0 x24_1).f2)] 80 (0, 0)) (by (with_reducible repeat (first | refine blk_drewN ?_ _ | refine blk_drew ?_ | refine blk_alloc ?_ _)); refine blk_put (cs := #[.int .i64 ((rd_T80 l0 x24_1).f0), .slice A892_1 ((rd_T80 l0 x24_1).f1).length c892_1, .string (⟨#[]⟩ : ByteArray)]) ?_ 2 _ rfl; (with_reducible repeat (first | refine blk_drewN ?_ _ | refine blk_drew ?_ | refine blk_alloc ?_ _)); refine blk_put (cs := #[.int .i64 ((rd_T80 l0 x24_1).f0), .slice none 0 0, .string (⟨#[]⟩ : ByteArray)]) ?_ 1 _ rfl; (with_reducible repeat (first | refine blk_drewN ?_ _ | refine blk_drew ?_ | refine blk_alloc ?_ _)); refine blk_put (cs := #[.int .i64 0, .slice none 0 0, .string (⟨#[]⟩ : ByteArray)]) ?_ 0 _ rfl; (with_reducible repeat (first | refine blk_drewN ?_ _ | refine blk_drew ?_ | refine blk_alloc ?_ _)); exact BK893.out) hb); have n3_ := Aside0.mk (below_step (by repeat (first | (with_reducible first | exact HB.out | apply below_alloc | apply pw_below_drewN | apply below_drew1 | refine below_set ?_ GE893.out) | exact HB.out)) hb); clear HO_5; clear BK893; clear HB; have HO_5 := n0_; have HO896 := n1_; have BK893 := n2_; have HB := n3_; clear n0_ n1_ n2_ n3_; (try clear hb); (try clear hb2); (try clear hk); (try clear hi); (try clear ho0); obtain ⟨Ao25, co25, eo25⟩ := Kd.R_slice HO_5.out; subst eo25; obtain ⟨Ao26, co26, eo26⟩ := Kd.R_slice HO896.out; subst eo26) | ((with_reducible refine gate_builtin (b := .append) (xs := #[.tmp 44, .tmp 45]) rfl ?_); (try (refine gate_guard (by rfl) ?_; dsimp only)); at_builtin; refine Kd.R_append_rows (Kd.int .u8) (w0 := w) w.heap.size rfl (.tmp 44) (.tmp 45) 23 5 (.int .u8 0) 1 rfl Try.underlying23 info5 rfl (by decide) (by omega) (.slice Ao25 x5_1.length co25) x5_1 t894 _ _ _ (fun k_ => some k_ ≠ (.slice Ao26 t894.length co26 : Value).ownBlock) (fun _ => False) rfl rfl ?aO ?aR (fun _ _ h => h) (fun _ h => h.elim) ?aF ?aB ?aS ?aL ?_; (case aR => repeat (first | exact (Kd.R_reads' HO896.out).2.2 | (with_reducible refine Kd.C_alloc ?_ _) | (with_reducible refine Kd.C_drewN ?_ _) | (with_reducible refine Kd.C_drew ?_))); (case aB => exact (by repeat (first | (with_reducible first | exact HB.out | apply below_alloc | apply pw_below_drewN | apply below_drew1 | refine below_set ?_ GE893.out) | exact HB.out))); (case aF => exact (fun k_ hk => Kd.fresh' (Kd.R_lt (by (with_reducible repeat (first | apply Kd.R_alloc | apply Kd.R_drewN | apply Kd.R_drew)); exact HO896.out)) k_ hk)); (case aO => exact (by (with_reducible repeat (first | apply Kd.R_alloc | apply Kd.R_drewN | apply Kd.R_drew)); exact Kd.R_mono HO_5.out (fun _ hk => hk.2))); (case aS => exact (below_size (by repeat (first | (with_reducible first | exact HB.out | apply below_alloc | apply pw_below_drewN | apply below_drew1 | refine below_set ?_ GE893.out) | exact HB.out)))); (case aL => have := LMc21.out; omega); intro v902 w27 ho hb hg hat; rw [← Ny901.out] at ho; have n0_ := Aside0.mk (blk_grown (g := gb893) (o := .cells #[.int .i64 ((rd_T80 l0 x24_1).f0), .slice A892_1 ((rd_T80 l0 x24_1).f1).length c892_1, .string ((rd_T80 l0 x24_1).f2)] 80 (0, 0)) (by (with_reducible repeat (first | refine blk_drewN ?_ _ | refine blk_drew ?_ | refine blk_alloc ?_ _)); exact BK893.out) hg (Kd.R_ne HO_5.out BK893.out (by decide))); have n1_ := Aside0.mk (Kd.R_after (ok := (fun _ => True)) (by (with_reducible repeat (first | apply Kd.R_alloc | apply Kd.R_drewN | apply Kd.R_drew)); exact HO896.out) hg hat); have n2_ := Aside0.mk (hb); have n3_ := Aside0.mk (ho); clear BK893; clear HO896; clear HB; clear HO_5; have BK893 := n0_; have HO896 := n1_; have HB := n2_; have HO903 := n3_; clear n0_ n1_ n2_ n3_; clear ho hb hg hat))
                      go_roundg k1
                      case measure => have := HK1.out; omega
                      case rel => exact ⟨(y901), (x6_1), (wrap64 (x24_1 + 1)), (by first | rfl | (simp; done) | (simp [*]; done)), (by first | rfl | (simp; done) | (simp [*]; done)), H', ⟨by have := HK1.out; omega⟩, ⟨by (with_reducible repeat (first | apply Kd.R_alloc | apply Kd.R_drewN | apply Kd.R_drew)); exact Kd.R_mono HO903.out (fun _ hk => trivial)⟩, ⟨by repeat (first | (with_reducible first | exact HB.out | apply below_alloc | apply pw_below_drewN | apply below_drew1 | refine below_set ?_ GE893.out) | exact HB.out)⟩⟩
                    · rw [if_neg c21] at H
                      exact absurd H (by simp)
                · rw [if_neg c12] at H
                  have c12b0 : (t897 == 0) = false := beq_eq_false_iff_ne.mpr c12
                  have c12b1 : (t897 != 0) = true := bne_iff_ne.mpr c12
                  obtain rfl := Option.some.inj H
                  have p892 : 0 ≤ (x24_1 : Int) := of_decide_eq_true (by first | (with_reducible assumption) | assumption)
                  have q892 : x24_1 < (l0.length : Int) := of_decide_eq_true (by first | (with_reducible assumption) | assumption)
                  obtain ⟨ad892, A892_1, c892_1, e892, hx892_0, hx892_1, hx892_2, hl892_1, hi892_1⟩ := at_T80 HR0.out x24_1 p892 q892
                  cases e892
                  replace hx892_0 := (HB.out.cell (World.block_lt_of_cell? w _ hx892_0)).trans hx892_0
                  replace hx892_1 := (HB.out.cell (World.block_lt_of_cell? w _ hx892_1)).trans hx892_1
                  replace hx892_2 := (HB.out.cell (World.block_lt_of_cell? w _ hx892_2)).trans hx892_2
                  have HR892_1 := Aside0.mk hi892_1
                  have HC892_1 := Aside0.mk hl892_1
                  clear hi892_1 hl892_1
                  replace p892 := eq_true p892
                  replace q892 := eq_true q892
                  go_wp2_with (first | ((with_reducible refine gate_dst (N := 8) rfl ?_); (try (refine gate_guard (by rfl) ?_; dsimp only)); refine box_event ?hg (N := 8) ?hd (cs := #[.int .i64 0, .slice none 0 0, .string (⟨#[]⟩ : ByteArray)]) (t := 80) ?hr ?_; (case hd => rfl); (case hg => rfl); (case hr => first | (go_simp; done) | (go_simp; rfl)); intro gb893 hg w28 hbox hb; have n0_ := Aside0.mk (Kd.R_below (by (with_reducible repeat (first | apply Kd.R_alloc | apply Kd.R_drewN | apply Kd.R_drew)); exact HO_5.out) hb); have n1_ := Aside0.mk (below_step (by repeat (first | (with_reducible first | exact HB.out | apply below_alloc | apply pw_below_drewN | apply below_drew1) | exact HB.out)) hb); have n2_ := Aside0.mk (hbox); have n3_ := Aside0.mk ((by rw [hg]; exact (below_size (by repeat (first | (with_reducible first | exact HB.out | apply below_alloc | apply pw_below_drewN | apply below_drew1) | exact HB.out))) : w.heap.size ≤ gb893)); have n4_ := Aside0.mk ((by rw [hg]; exact (below_size (by repeat (first | (with_reducible first | exact HB.out | apply below_alloc | apply pw_below_drewN | apply below_drew1) | exact HB.out))) : w.heap.size ≤ gb893)); clear HO_5; clear HB; have HO_5 := n0_; have HB := n1_; have BK893 := n2_; have GW893 := n3_; have GE893 := n4_; clear n0_ n1_ n2_ n3_ n4_; clear hb hbox hg; have hcz29_0 : w28.cell? ⟨gb893, 0, none⟩ = some (.int .i64 0) := (blk_cell BK893.out 0).trans rfl; have hcz29_1 : w28.cell? ⟨gb893, 1, none⟩ = some (.slice none 0 0) := (blk_cell BK893.out 1).trans rfl; have hcz29_2 : w28.cell? ⟨gb893, 2, none⟩ = some (.string (⟨#[]⟩ : ByteArray)) := (blk_cell BK893.out 2).trans rfl; have hfz29_0 := blk_frozen BK893.out 0; have hfz29_1 := blk_frozen BK893.out 1; have hfz29_2 := blk_frozen BK893.out 2) | ((with_reducible refine gate_callee (f := 56) rfl ?_); refine goesL_ (some 30) rfl rfl Try.func56 (by kernel_rfl) rfl #[.agg #[.int .i64 ((rd_T80 l0 x24_1).f0), .slice A892_1 ((rd_T80 l0 x24_1).f1).length c892_1, .string ((rd_T80 l0 x24_1).f2)]] rfl (by (try simp only [List.map_toArray, List.map_cons, List.map_nil]); first | done | rfl | (simp only [List.length_drop, List.length_take]; rfl)) ?_; (with_reducible refine (record_Bytes.calls k1 ((rd_T80 l0 x24_1).f0) _ _ ((rd_T80 l0 x24_1).f1) ((rd_T80 l0 x24_1).f2) t894 t897 _ ?side1 ?side2 A11.out).mono ?_); (case side1 => exact Kd.C_below HR892_1.out (by repeat (first | (with_reducible first | exact HB.out | apply below_alloc | apply pw_below_drewN | apply below_drew1 | refine below_set ?_ GE893.out) | exact HB.out))); (case side2 => exact HC892_1.out); rintro e w30 ⟨v895, rfl, ho0, hb⟩; refine ⟨_, rfl, ?_⟩; have n0_ := Aside0.mk (Kd.R_elder' (by (with_reducible repeat (first | apply Kd.R_alloc | apply Kd.R_drewN | apply Kd.R_drew)); exact (Kd.R_mono (Kd.R_far (p := ⟨gb893, 2, none⟩) (Kd.R_far (p := ⟨gb893, 1, none⟩) (Kd.R_far (p := ⟨gb893, 0, none⟩) (Kd.R_types HO_5.out BK893.out (by decide)) (fun _ hk => hk.2) (.int .i64 ((rd_T80 l0 x24_1).f0))) (fun _ hk => hk.2) (.slice A892_1 ((rd_T80 l0 x24_1).f1).length c892_1)) (fun _ hk => hk.2) (.string ((rd_T80 l0 x24_1).f2))) (fun _ h_ => h_.1))) (Kd.R_base ho0) hb); have n1_ := Aside0.mk (Kd.R_lower (Kd.R_new' ho0 (Kd.R_lt (by (with_reducible repeat (first | apply Kd.R_alloc | apply Kd.R_drewN | apply Kd.R_drew)); exact (Kd.R_mono (Kd.R_far (p := ⟨gb893, 2, none⟩) (Kd.R_far (p := ⟨gb893, 1, none⟩) (Kd.R_far (p := ⟨gb893, 0, none⟩) (Kd.R_types HO_5.out BK893.out (by decide)) (fun _ hk => hk.2) (.int .i64 ((rd_T80 l0 x24_1).f0))) (fun _ hk => hk.2) (.slice A892_1 ((rd_T80 l0 x24_1).f1).length c892_1)) (fun _ hk => hk.2) (.string ((rd_T80 l0 x24_1).f2))) (fun _ h_ => h_.1))))) (below_size (by repeat (first | (with_reducible first | exact HB.out | apply below_alloc | apply pw_below_drewN | apply below_drew1 | refine below_set ?_ GE893.out) | exact HB.out)))); have n2_ := Aside0.mk (blk_below (g := gb893) (o := .cells #[.int .i64 ((rd_T80 l0 x24_1).f0), .slice A892_1 ((rd_T80 l0 x24_1).f1).length c892_1, .string ((rd_T80 l0 x24_1).f2)] 80 (0, 0)) (by (with_reducible repeat (first | refine blk_drewN ?_ _ | refine blk_drew ?_ | refine blk_alloc ?_ _)); refine blk_put (cs := #[.int .i64 ((rd_T80 l0 x24_1).f0), .slice A892_1 ((rd_T80 l0 x24_1).f1).length c892_1, .string (⟨#[]⟩ : ByteArray)]) ?_ 2 _ rfl; (with_reducible repeat (first | refine blk_drewN ?_ _ | refine blk_drew ?_ | refine blk_alloc ?_ _)); refine blk_put (cs := #[.int .i64 ((rd_T80 l0 x24_1).f0), .slice none 0 0, .string (⟨#[]⟩ : ByteArray)]) ?_ 1 _ rfl; (with_reducible repeat (first | refine blk_drewN ?_ _ | refine blk_drew ?_ | refine blk_alloc ?_ _)); refine blk_put (cs := #[.int .i64 0, .slice none 0 0, .string (⟨#[]⟩ : ByteArray)]) ?_ 0 _ rfl; (with_reducible repeat (first | refine blk_drewN ?_ _ | refine blk_drew ?_ | refine blk_alloc ?_ _)); exact BK893.out) hb); have n3_ := Aside0.mk (below_step (by repeat (first | (with_reducible first | exact HB.out | apply below_alloc | apply pw_below_drewN | apply below_drew1 | refine below_set ?_ GE893.out) | exact HB.out)) hb); clear HO_5; clear BK893; clear HB; have HO_5 := n0_; have HO896 := n1_; have BK893 := n2_; have HB := n3_; clear n0_ n1_ n2_ n3_; (try clear hb); (try clear hb2); (try clear hk); (try clear hi); (try clear ho0)))
                  go_ret
                  exact ⟨by first | rfl | (simp [errW_none, errW_some] <;> rfl) | (simp [*, errW_none, errW_some] <;> rfl), by repeat (first | (with_reducible first | exact HB.out | apply below_alloc | apply pw_below_drewN | apply below_drew1 | refine below_set ?_ GE893.out) | exact HB.out)⟩
              · rw [if_neg c10] at H
                exact absurd H (by simp)
            · rw [if_neg c9] at H
              exact absurd H (by simp)
          · rw [if_neg c8] at H
            have c8b0 : decide (x24_1 < (l0.length : Int)) = false := decide_eq_false c8
            clear c8
            obtain ⟨ji31, hji31⟩ : ∃ j_ : Int, (mx a1 0) = j_ := ⟨_, rfl⟩
            replace H : (if 0 ≤ (mn (ji31) (x5_1.length : Int)) then (if (mn (ji31) (x5_1.length : Int)) ≤ (x5_1.length : Int) then ((record_All.f k1 (x5_1.take ((mn (ji31) (x5_1.length : Int)) : Int).toNat)).bind fun bt908 => (if (bt908.1.length : Int) = x6_1 then (if (bt908.2.1.length : Int) = x6_1 then (if bt908.2.2 = 0 then (tumbrellaw05_RecordTorn.j1 k1 l0 (mn (ji31) (x5_1.length : Int)) x6_1 bt908.1 bt908.2.1 bt908.2.2 false) else (tumbrellaw05_RecordTorn.j1 k1 l0 (mn (ji31) (x5_1.length : Int)) x6_1 bt908.1 bt908.2.1 bt908.2.2 (bt908.2.2 != 3))) else (tumbrellaw05_RecordTorn.j1 k1 l0 (mn (ji31) (x5_1.length : Int)) x6_1 bt908.1 bt908.2.1 bt908.2.2 true)) else (tumbrellaw05_RecordTorn.j1 k1 l0 (mn (ji31) (x5_1.length : Int)) x6_1 bt908.1 bt908.2.1 bt908.2.2 true))) else (none)) else (none)) = some r := by first | (rw [hji31] at H; exact H) | (simp only [hji31] at H ⊢; exact H)
            have hji31_ : (if a1 < 0 then 0 else a1) = ji31 := hji31
            obtain ⟨ji32, hji32⟩ : ∃ j_ : Int, (mn (ji31) (x5_1.length : Int)) = j_ := ⟨_, rfl⟩
            replace H : (if 0 ≤ (ji32) then (if (ji32) ≤ (x5_1.length : Int) then ((record_All.f k1 (x5_1.take ((ji32) : Int).toNat)).bind fun bt908 => (if (bt908.1.length : Int) = x6_1 then (if (bt908.2.1.length : Int) = x6_1 then (if bt908.2.2 = 0 then (tumbrellaw05_RecordTorn.j1 k1 l0 ji32 x6_1 bt908.1 bt908.2.1 bt908.2.2 false) else (tumbrellaw05_RecordTorn.j1 k1 l0 ji32 x6_1 bt908.1 bt908.2.1 bt908.2.2 (bt908.2.2 != 3))) else (tumbrellaw05_RecordTorn.j1 k1 l0 ji32 x6_1 bt908.1 bt908.2.1 bt908.2.2 true)) else (tumbrellaw05_RecordTorn.j1 k1 l0 ji32 x6_1 bt908.1 bt908.2.1 bt908.2.2 true))) else (none)) else (none)) = some r := by first | (rw [hji32] at H; exact H) | (simp only [hji32] at H ⊢; exact H)
            have hji32_ : (if (x5_1.length : Int) < (ji31) then (x5_1.length : Int) else (ji31)) = ji32 := hji32
            by_cases c33 : 0 ≤ (ji32)
            · rw [if_pos c33] at H
              have c33b0 := eq_true c33
              have c33b1 : decide (0 ≤ (ji32)) = true := decide_eq_true c33
              clear c33
              by_cases c34 : (ji32) ≤ (x5_1.length : Int)
              · rw [if_pos c34] at H
                have c34b0 := eq_true c34
                have c34b1 : decide ((ji32) ≤ (x5_1.length : Int)) = true := decide_eq_true c34
                clear c34
                obtain ⟨y904, hy904⟩ : ∃ y_ : List Int, y_ = (x5_1.take ((ji32) : Int).toNat) := ⟨_, rfl⟩
                replace H : ((record_All.f k1 y904).bind fun bt908 => (if (bt908.1.length : Int) = x6_1 then (if (bt908.2.1.length : Int) = x6_1 then (if bt908.2.2 = 0 then (tumbrellaw05_RecordTorn.j1 k1 l0 ji32 x6_1 bt908.1 bt908.2.1 bt908.2.2 false) else (tumbrellaw05_RecordTorn.j1 k1 l0 ji32 x6_1 bt908.1 bt908.2.1 bt908.2.2 (bt908.2.2 != 3))) else (tumbrellaw05_RecordTorn.j1 k1 l0 ji32 x6_1 bt908.1 bt908.2.1 bt908.2.2 true)) else (tumbrellaw05_RecordTorn.j1 k1 l0 ji32 x6_1 bt908.1 bt908.2.1 bt908.2.2 true))) = some r := by first | (rw [hy904]; with_reducible exact H) | (have H2_ := (Option.bind_some _ _).symm.trans H; rw [hy904]; with_reducible exact H2_) | (have H2_ := (Option.bind_some _ _).symm.trans H; with_reducible exact H2_) | with_reducible exact H | (rw [hy904]; exact H) | exact H
                have Ny904 := Aside0.mk hy904
                clear hy904
                replace H := Option.bind_eq_some_iff.mp H
                obtain ⟨⟨t908, t909, t910⟩, A350, H⟩ := H
                replace H : (if (t908.length : Int) = x6_1 then (if (t909.length : Int) = x6_1 then (if t910 = 0 then (tumbrellaw05_RecordTorn.j1 k1 l0 ji32 x6_1 t908 t909 t910 false) else (tumbrellaw05_RecordTorn.j1 k1 l0 ji32 x6_1 t908 t909 t910 (t910 != 3))) else (tumbrellaw05_RecordTorn.j1 k1 l0 ji32 x6_1 t908 t909 t910 true)) else (tumbrellaw05_RecordTorn.j1 k1 l0 ji32 x6_1 t908 t909 t910 true)) = some r := H
                have A35 := Aside0.mk A350
                clear A350
                have HC36 := Aside0.mk H
                clear H
                obtain ⟨Ao37, co37, eo37⟩ := Kd.R_slice HO_5.out
                subst eo37
                have q38 : ((ji32) : Int) ≤ ((x5_1.length : Int) : Int) := of_decide_eq_true (by first | (with_reducible assumption) | assumption)
                obtain ⟨i038, hi038, _, hsz38, _⟩ := info_parts info5
                have hroom38 : x5_1.length ≤ co37 := (Kd.R_reads' HO_5.out).2.1
                have hC38 : Kd.C (Kd.int .u8) _ Ao37 x5_1.length x5_1 := (Kd.R_reads' HO_5.out).2.2
                have hcut38 := cut_to (P := Try.prog) 23 5 .i64 Try.underlying23 hi038 Ao37 x5_1.length co37 (ji32) (of_decide_eq_true (by first | (with_reducible assumption) | assumption)) q38 hroom38
                have hr38 := Kd.C_take (m := ((ji32) : Int).toNat) hC38 (by omega)
                have hy38 : y904.length = ((ji32) : Int).toNat := (by rw [Ny904.out, List.length_take]; omega)
                rw [← Ny904.out] at hr38
                rw [← hy38] at hcut38
                have HR907 := Aside0.mk hr38
                have HC907 := Aside0.mk (show y904.length ≤ co37 from by omega)
                clear hr38 hC38 hroom38 hi038 hsz38
                have KY38 := Aside0.mk hy38
                clear hy38
                have KL38 := Aside0.mk (show ((ji32) : Int).toNat ≤ x5_1.length from by omega)
                replace q38 := eq_true q38
                go_upto_region 19 with (first | ((with_reducible refine gate_callee (f := 65) rfl ?_); refine goesL_ (some 57) rfl rfl Try.func65 (by kernel_rfl) rfl #[.slice Ao37 y904.length co37] rfl (by (try simp only [List.map_toArray, List.map_cons, List.map_nil]); first | done | rfl | (simp only [List.length_drop, List.length_take]; rfl)) ?_; (with_reducible refine (record_All.calls k1 _ _ y904 t908 t909 t910 _ ?side1 ?side2 A35.out).mono ?_); (case side1 => repeat (first | exact (by repeat (first | (with_reducible exact HR907.out) | (with_reducible refine Kd.C_alloc ?_ _) | (with_reducible refine Kd.C_drewN ?_ _) | (with_reducible refine Kd.C_drew ?_) | exact HR907.out)) | (with_reducible refine Kd.C_alloc ?_ _) | (with_reducible refine Kd.C_drewN ?_ _) | (with_reducible refine Kd.C_drew ?_))); (case side2 => exact HC907.out); rintro e w39 ⟨v911, v913, rfl, ho0, ho1, hb⟩; refine ⟨_, rfl, ?_⟩; have n0_ := Aside0.mk (Kd.R_below (by (with_reducible repeat (first | apply Kd.R_alloc | apply Kd.R_drewN | apply Kd.R_drew)); exact HO_5.out) hb); have n1_ := Aside0.mk (Kd.S_lower ho0 (below_size (by repeat (first | (with_reducible first | exact HB.out | apply below_alloc | apply pw_below_drewN | apply below_drew1) | exact HB.out)))); have n2_ := Aside0.mk (Kd.R_lower ho1 (below_size (by repeat (first | (with_reducible first | exact HB.out | apply below_alloc | apply pw_below_drewN | apply below_drew1) | exact HB.out)))); have n3_ := Aside0.mk (Kd.C_below (by repeat (first | (with_reducible exact HR907.out) | (with_reducible refine Kd.C_alloc ?_ _) | (with_reducible refine Kd.C_drewN ?_ _) | (with_reducible refine Kd.C_drew ?_) | exact HR907.out)) hb); have n4_ := Aside0.mk (below_step (by repeat (first | (with_reducible first | exact HB.out | apply below_alloc | apply pw_below_drewN | apply below_drew1) | exact HB.out)) hb); clear HO_5; clear HR907; clear HB; have HO_5 := n0_; have HO912 := n1_; have HO914 := n2_; have HR907 := n3_; have HB := n4_; clear n0_ n1_ n2_ n3_ n4_; (try clear hb); (try clear hb2); (try clear hk); (try clear hi); (try clear ho0); (try clear ho1)))
                (try simp only [Act.put, List.setIfInBounds_toArray, List.set_cons_zero, List.set_cons_succ])
                go_cut [78] (fun v78 wc => ∃ (kq : Nat) (x78_35 : Bool), v78 = .bool x78_35 ∧ Aside0 (tumbrellaw05_RecordTorn.j1 kq l0 ji32 x6_1 t908 t909 t910 x78_35 = some r) ∧ Aside0 (kq ≤ k1) ∧ Aside0 (Kd.S k80 80 wc w.heap.size (fun _ => True) v911 t908) ∧ Aside0 (Kd.R (Kd.int .i64) 3 wc w.heap.size (fun _ => True) v913 t909) ∧ Aside0 (Kd.C (Kd.int .u8) wc Ao37 y904.length y904) ∧ Aside0 (Below w.heap.size w wc))
                case first =>
                  have H := HC36.out
                  clear HC36
                  by_cases c40 : (t908.length : Int) = x6_1
                  · rw [if_pos c40] at H
                    have c40b0 : ((t908.length : Int) == x6_1) = true := beq_iff_eq.mpr c40
                    have c40b1 : ((t908.length : Int) != x6_1) = false := bne_eq_false_iff_eq.mpr c40
                    clear c40
                    (first | rw [c40b0] | (simp only [i64_w, i32_w]; rw [c40b0]) | skip)
                    by_cases c41 : (t909.length : Int) = x6_1
                    · rw [if_pos c41] at H
                      have c41b0 : ((t909.length : Int) == x6_1) = true := beq_iff_eq.mpr c41
                      have c41b1 : ((t909.length : Int) != x6_1) = false := bne_eq_false_iff_eq.mpr c41
                      clear c41
                      by_cases c42 : t910 = 0
                      · rw [if_pos c42] at H
                        have c42b0 : (t910 == 0) = true := beq_iff_eq.mpr c42
                        have c42b1 : (t910 != 0) = false := bne_eq_false_iff_eq.mpr c42
                        clear c42
                        have H' := Aside0.mk H
                        clear H
                        obtain ⟨Ao43, co43, eo43⟩ := Kd.S_slice HO912.out
                        subst eo43
                        obtain ⟨Ao44, co44, eo44⟩ := Kd.R_slice HO914.out
                        subst eo44
                        go_wp2
                        go_meet
                        case rel => exact ⟨_, (false), (by first | rfl | (simp; done) | (simp [*]; done)), H', ⟨by have := HK1.out; first | omega | exact Nat.le_refl _⟩, ⟨by (with_reducible repeat (first | apply Kd.S_alloc | apply Kd.S_drewN | apply Kd.S_drew)); exact HO912.out⟩, ⟨by (with_reducible repeat (first | apply Kd.R_alloc | apply Kd.R_drewN | apply Kd.R_drew)); exact HO914.out⟩, ⟨by repeat (first | (with_reducible exact HR907.out) | (with_reducible refine Kd.C_alloc ?_ _) | (with_reducible refine Kd.C_drewN ?_ _) | (with_reducible refine Kd.C_drew ?_) | exact HR907.out)⟩, ⟨by repeat (first | (with_reducible first | exact HB.out | apply below_alloc | apply pw_below_drewN | apply below_drew1) | exact HB.out)⟩⟩
                      · rw [if_neg c42] at H
                        have c42b0 : (t910 == 0) = false := beq_eq_false_iff_ne.mpr c42
                        have c42b1 : (t910 != 0) = true := bne_iff_ne.mpr c42
                        have H' := Aside0.mk H
                        clear H
                        obtain ⟨Ao45, co45, eo45⟩ := Kd.S_slice HO912.out
                        subst eo45
                        obtain ⟨Ao46, co46, eo46⟩ := Kd.R_slice HO914.out
                        subst eo46
                        go_wp2
                        go_meet
                        case rel => exact ⟨_, ((t910 != 3)), (by first | rfl | (simp; done) | (simp [*]; done)), H', ⟨by have := HK1.out; first | omega | exact Nat.le_refl _⟩, ⟨by (with_reducible repeat (first | apply Kd.S_alloc | apply Kd.S_drewN | apply Kd.S_drew)); exact HO912.out⟩, ⟨by (with_reducible repeat (first | apply Kd.R_alloc | apply Kd.R_drewN | apply Kd.R_drew)); exact HO914.out⟩, ⟨by repeat (first | (with_reducible exact HR907.out) | (with_reducible refine Kd.C_alloc ?_ _) | (with_reducible refine Kd.C_drewN ?_ _) | (with_reducible refine Kd.C_drew ?_) | exact HR907.out)⟩, ⟨by repeat (first | (with_reducible first | exact HB.out | apply below_alloc | apply pw_below_drewN | apply below_drew1) | exact HB.out)⟩⟩
                    · rw [if_neg c41] at H
                      have c41b0 : ((t909.length : Int) == x6_1) = false := beq_eq_false_iff_ne.mpr c41
                      have c41b1 : ((t909.length : Int) != x6_1) = true := bne_iff_ne.mpr c41
                      have H' := Aside0.mk H
                      clear H
                      obtain ⟨Ao47, co47, eo47⟩ := Kd.S_slice HO912.out
                      subst eo47
                      obtain ⟨Ao48, co48, eo48⟩ := Kd.R_slice HO914.out
                      subst eo48
                      go_wp2
                      go_meet
                      case rel => exact ⟨_, (true), (by first | rfl | (simp; done) | (simp [*]; done)), H', ⟨by have := HK1.out; first | omega | exact Nat.le_refl _⟩, ⟨by (with_reducible repeat (first | apply Kd.S_alloc | apply Kd.S_drewN | apply Kd.S_drew)); exact HO912.out⟩, ⟨by (with_reducible repeat (first | apply Kd.R_alloc | apply Kd.R_drewN | apply Kd.R_drew)); exact HO914.out⟩, ⟨by repeat (first | (with_reducible exact HR907.out) | (with_reducible refine Kd.C_alloc ?_ _) | (with_reducible refine Kd.C_drewN ?_ _) | (with_reducible refine Kd.C_drew ?_) | exact HR907.out)⟩, ⟨by repeat (first | (with_reducible first | exact HB.out | apply below_alloc | apply pw_below_drewN | apply below_drew1) | exact HB.out)⟩⟩
                  · rw [if_neg c40] at H
                    have c40b0 : ((t908.length : Int) == x6_1) = false := beq_eq_false_iff_ne.mpr c40
                    have c40b1 : ((t908.length : Int) != x6_1) = true := bne_iff_ne.mpr c40
                    (first | rw [c40b0] | (simp only [i64_w, i32_w]; rw [c40b0]) | skip)
                    have H' := Aside0.mk H
                    clear H
                    obtain ⟨Ao49, co49, eo49⟩ := Kd.S_slice HO912.out
                    subst eo49
                    go_wp2
                    go_meet
                    case rel => exact ⟨_, (true), (by first | rfl | (simp; done) | (simp [*]; done)), H', ⟨by have := HK1.out; first | omega | exact Nat.le_refl _⟩, ⟨by (with_reducible repeat (first | apply Kd.S_alloc | apply Kd.S_drewN | apply Kd.S_drew)); exact HO912.out⟩, ⟨by (with_reducible repeat (first | apply Kd.R_alloc | apply Kd.R_drewN | apply Kd.R_drew)); exact HO914.out⟩, ⟨by repeat (first | (with_reducible exact HR907.out) | (with_reducible refine Kd.C_alloc ?_ _) | (with_reducible refine Kd.C_drewN ?_ _) | (with_reducible refine Kd.C_drew ?_) | exact HR907.out)⟩, ⟨by repeat (first | (with_reducible first | exact HB.out | apply below_alloc | apply pw_below_drewN | apply below_drew1) | exact HB.out)⟩⟩
                case rest =>
                  clear HC36
                  try clear c1
                  try clear c2
                  try clear p2
                  try clear c3
                  try clear q3
                  try clear c4
                  try clear c5
                  try clear c5b0
                  try clear c5b1
                  try clear c6
                  try clear p6
                  try clear c8
                  try clear c8b0
                  try clear p8
                  try clear q8
                  try clear hx8
                  try clear c9
                  try clear c9b0
                  try clear c10
                  try clear c10b0
                  try clear c12
                  try clear c12b0
                  try clear c12b1
                  try clear c13
                  try clear c13b0
                  try clear c14
                  try clear c18
                  try clear c21
                  try clear c33
                  try clear c33b0
                  try clear c33b1
                  try clear c34
                  try clear c34b0
                  try clear c34b1
                  try clear q38
                  try clear c40
                  try clear c40b0
                  try clear c40b1
                  try clear c41
                  try clear c41b0
                  try clear c41b1
                  try clear c42
                  try clear c42b0
                  try clear c42b1
                  try clear hcz16_0
                  try clear hcz16_1
                  try clear hcz16_2
                  try clear hcz23_0
                  try clear hcz23_1
                  try clear hcz23_2
                  try clear hcz29_0
                  try clear hcz29_1
                  try clear hcz29_2
                  try clear hfz16_0
                  try clear hfz16_1
                  try clear hfz16_2
                  try clear hfz23_0
                  try clear hfz23_1
                  try clear hfz23_2
                  try clear hfz29_0
                  try clear hfz29_1
                  try clear hfz29_2
                  try clear hx892_0
                  try clear hx892_1
                  try clear hx892_2
                  try clear p2
                  try clear p892
                  try clear q38
                  try clear q892
                  obtain ⟨kq, x78_35, rfl, HA, HJ35, HO_11, HO_12, HR907, HB⟩ := hcut
                  cases kq with
                  | zero => exact absurd HA.out (by simp [tumbrellaw05_RecordTorn.j1])
                  | succ kj35 =>
                    have H := HA.out
                    clear HA
                    simp only [tumbrellaw05_RecordTorn.j1] at H
                    by_cases c50 : x78_35 = true
                    · subst c50
                      have H1 : (some false) = some r := by rw [if_pos rfl] at H; exact H
                      clear H
                      have H := H1
                      clear H1
                      obtain rfl := Option.some.inj H
                      go_wp2
                      go_ret
                      exact ⟨by first | rfl | (simp [errW_none, errW_some] <;> rfl) | (simp only [← hji31, ← hji32]; first | rfl | (simp [errW_none, errW_some] <;> rfl)) | (simp [*, errW_none, errW_some] <;> rfl), by repeat (first | (with_reducible first | exact HB.out | apply below_alloc | apply pw_below_drewN | apply below_drew1) | exact HB.out)⟩
                    · replace c50 := Bool.eq_false_iff.mpr c50
                      subst c50
                      have H1 : (tumbrellaw05_RecordTorn.l1 kj35 l0 ji32 x6_1 t909 t910 t908 (t908.length : Int) 0) = some r := by rw [if_neg (show ¬ (false = true) by decide)] at H; exact H
                      clear H
                      have H := H1
                      clear H1
                      have H' := Aside0.mk H
                      clear H
                      obtain ⟨Ao51, co51, eo51⟩ := Kd.S_slice HO_11.out
                      subst eo51
                      go_wp2
                      go_loopg [81] kj35 (fun kq v81 w' => ∃ (x81_3 : Int), v81 = .int .i64 x81_3 ∧ Aside0 (tumbrellaw05_RecordTorn.l1 kq l0 ji32 x6_1 t909 t910 t908 (t908.length : Int) x81_3 = some r) ∧ Aside0 (kq ≤ kj35) ∧ Aside0 (Kd.R (Kd.int .i64) 3 w' w.heap.size (fun _ => True) v913 t909) ∧ Aside0 (Kd.S k80 80 w' w.heap.size (fun _ => True) (.slice Ao51 t908.length co51) t908) ∧ Aside0 (Below w.heap.size w w'))
                      case atStart => exact ⟨(0), (by first | rfl | (simp; done) | (simp [*]; done)), H', ⟨Nat.le_refl _⟩, ⟨by (with_reducible repeat (first | apply Kd.R_alloc | apply Kd.R_drewN | apply Kd.R_drew)); exact HO_12.out⟩, ⟨by (with_reducible repeat (first | apply Kd.S_alloc | apply Kd.S_drewN | apply Kd.S_drew)); exact HO_11.out⟩, ⟨by repeat (first | (with_reducible first | exact HB.out | apply below_alloc | apply pw_below_drewN | apply below_drew1) | exact HB.out)⟩⟩
                      case round =>
                        clear H'
                        try clear c1
                        try clear c2
                        try clear p2
                        try clear c3
                        try clear q3
                        try clear c4
                        try clear c5
                        try clear c5b0
                        try clear c5b1
                        try clear c6
                        try clear p6
                        try clear c8
                        try clear c8b0
                        try clear p8
                        try clear q8
                        try clear hx8
                        try clear c9
                        try clear c9b0
                        try clear c10
                        try clear c10b0
                        try clear c12
                        try clear c12b0
                        try clear c12b1
                        try clear c13
                        try clear c13b0
                        try clear c14
                        try clear c18
                        try clear c21
                        try clear c33
                        try clear c33b0
                        try clear c33b1
                        try clear c34
                        try clear c34b0
                        try clear c34b1
                        try clear q38
                        try clear c40
                        try clear c40b0
                        try clear c40b1
                        try clear c41
                        try clear c41b0
                        try clear c41b1
                        try clear c42
                        try clear c42b0
                        try clear c42b1
                        try clear c50
                        try clear hcz16_0
                        try clear hcz16_1
                        try clear hcz16_2
                        try clear hcz23_0
                        try clear hcz23_1
                        try clear hcz23_2
                        try clear hcz29_0
                        try clear hcz29_1
                        try clear hcz29_2
                        try clear hfz16_0
                        try clear hfz16_1
                        try clear hfz16_2
                        try clear hfz23_0
                        try clear hfz23_1
                        try clear hfz23_2
                        try clear hfz29_0
                        try clear hfz29_1
                        try clear hfz29_2
                        try clear hx892_0
                        try clear hx892_1
                        try clear hx892_2
                        try clear p2
                        try clear p6
                        try clear p8
                        try clear p892
                        try clear q3
                        try clear q38
                        try clear q8
                        try clear q892
                        obtain ⟨x81_3, rfl, HA, HK3, HO_12, HO_79, HB⟩ := hrel
                        cases gk with
                        | zero => exact absurd HA.out (by simp [tumbrellaw05_RecordTorn.l1])
                        | succ k3 =>
                          have H := HA.out
                          clear HA
                          simp only [tumbrellaw05_RecordTorn.l1] at H
                          by_cases c52 : x81_3 < (t908.length : Int)
                          · rw [if_pos c52] at H
                            have c52b0 : decide (x81_3 < (t908.length : Int)) = true := decide_eq_true c52
                            clear c52
                            by_cases c53 : 0 ≤ x81_3
                            · rw [if_pos c53] at H
                              have c53b0 : decide (0 ≤ x81_3) = true := decide_eq_true c53
                              clear c53
                              by_cases c54 : x81_3 < (t908.length : Int)
                              · rw [if_pos c54] at H
                                have c54b0 : decide (x81_3 < (t908.length : Int)) = true := decide_eq_true c54
                                clear c54
                                by_cases c55 : x81_3 < (l0.length : Int)
                                · rw [if_pos c55] at H
                                  have c55b0 : decide (x81_3 < (l0.length : Int)) = true := decide_eq_true c55
                                  clear c55
                                  replace H := Option.bind_eq_some_iff.mp H
                                  obtain ⟨t918, A560, H⟩ := H
                                  replace H : (if t918 = true then (if x81_3 < (t909.length : Int) then (if (rd t909 x81_3) > ji32 then (some false) else (tumbrellaw05_RecordTorn.l1 k3 l0 ji32 x6_1 t909 t910 t908 (t908.length : Int) (wrap64 (x81_3 + 1)))) else (none)) else (some false)) = some r := H
                                  have A56 := Aside0.mk A560
                                  clear A560
                                  by_cases c57 : t918 = true
                                  · subst c57
                                    have H1 : (if x81_3 < (t909.length : Int) then (if (rd t909 x81_3) > ji32 then (some false) else (tumbrellaw05_RecordTorn.l1 k3 l0 ji32 x6_1 t909 t910 t908 (t908.length : Int) (wrap64 (x81_3 + 1)))) else (none)) = some r := by rw [if_pos rfl] at H; exact H
                                    clear H
                                    have H := H1
                                    clear H1
                                    by_cases c58 : x81_3 < (t909.length : Int)
                                    · rw [if_pos c58] at H
                                      have c58b0 : decide (x81_3 < (t909.length : Int)) = true := decide_eq_true c58
                                      clear c58
                                      by_cases c59 : (rd t909 x81_3) > ji32
                                      · rw [if_pos c59] at H
                                        have c59b0 : decide (ji32 < (rd t909 x81_3)) = true := decide_eq_true c59
                                        clear c59
                                        obtain rfl := Option.some.inj H
                                        have p915 : 0 ≤ (x81_3 : Int) := of_decide_eq_true (by first | (with_reducible assumption) | assumption)
                                        have q915 : x81_3 < (t908.length : Int) := of_decide_eq_true (by first | (with_reducible assumption) | assumption)
                                        obtain ⟨ad915, A915_1, c915_1, e915, hx915_0, hx915_1, hx915_2, hl915_1, hi915_1⟩ := at_T80 (Kd.S_reads' HO_79.out).2.2 x81_3 p915 q915
                                        cases e915
                                        obtain ⟨ce915, hce915, hMe915, hcc915⟩ := Kd.S_get HO_79.out z80 x81_3 p915 (by first | exact q915 | exact of_decide_eq_true (by first | (with_reducible assumption) | assumption) | (have e_ := (Kd.S_reads' HO_79.out).1; omega))
                                        obtain ⟨ve915_1, rfl, ge915_1⟩ := k80_openM hMe915
                                        have hv915_1 := hcc915 1 _ rfl
                                        rw [add_field _ _ 1 (by omega)] at hv915_1
                                        replace hv915_1 := Option.some.inj (hv915_1.symm.trans hx915_1)
                                        rw [hv915_1] at ge915_1
                                        have HL915_1 := Aside0.mk (show Kd.R (Kd.int .u64) 22 _ _ _ _ ((rd_T80 t908 x81_3).f1) from ge915_1)
                                        clear hv915_1 ge915_1
                                        clear hcc915 hce915
                                        have HR915_1 := Aside0.mk hi915_1
                                        have HC915_1 := Aside0.mk hl915_1
                                        clear hi915_1 hl915_1
                                        replace p915 := eq_true p915
                                        replace q915 := eq_true q915
                                        try go_wp2_with (first | ((with_reducible refine gate_dst (N := 15) rfl ?_); (try (refine gate_guard (by rfl) ?_; dsimp only)); refine box_event ?hg (N := 15) ?hd (cs := #[.int .i64 0, .slice none 0 0, .string (⟨#[]⟩ : ByteArray)]) (t := 80) ?hr ?_; (case hd => rfl); (case hg => rfl); (case hr => first | (go_simp; done) | (go_simp; rfl)); intro gb916 hg w60 hbox hb; have n0_ := Aside0.mk (Kd.R_below (by (with_reducible repeat (first | apply Kd.R_alloc | apply Kd.R_drewN | apply Kd.R_drew)); exact HO_12.out) hb); have n1_ := Aside0.mk (Kd.S_below (Kd.S_elderB (by (with_reducible repeat (first | apply Kd.S_alloc | apply Kd.S_drewN | apply Kd.S_drew)); exact HO_79.out) gb916 (Nat.le_of_eq hg.symm)) hb); have n2_ := Aside0.mk (Kd.R_below (by (with_reducible repeat (first | apply Kd.R_alloc | apply Kd.R_drewN | apply Kd.R_drew)); exact HL915_1.out) hb); have n3_ := Aside0.mk (Kd.C_below (by repeat (first | (with_reducible exact HR915_1.out) | (with_reducible refine Kd.C_alloc ?_ _) | (with_reducible refine Kd.C_drewN ?_ _) | (with_reducible refine Kd.C_drew ?_) | exact HR915_1.out)) hb); have n4_ := Aside0.mk (below_step (by repeat (first | (with_reducible first | exact HB.out | apply below_alloc | apply pw_below_drewN | apply below_drew1) | exact HB.out)) hb); have n5_ := Aside0.mk (hbox); have n6_ := Aside0.mk ((by rw [hg]; exact (below_size (by repeat (first | (with_reducible first | exact HB.out | apply below_alloc | apply pw_below_drewN | apply below_drew1) | exact HB.out))) : w.heap.size ≤ gb916)); have n7_ := Aside0.mk ((by rw [hg]; exact (below_size (by repeat (first | (with_reducible first | exact HB.out | apply below_alloc | apply pw_below_drewN | apply below_drew1) | exact HB.out))) : w.heap.size ≤ gb916)); clear HO_12; clear HO_79; clear HL915_1; clear HR915_1; clear HB; have HO_12 := n0_; have HO_79 := n1_; have HL915_1 := n2_; have HR915_1 := n3_; have HB := n4_; have BK916 := n5_; have GW916 := n6_; have GE916 := n7_; clear n0_ n1_ n2_ n3_ n4_ n5_ n6_ n7_; clear hb hbox hg; have hcz61_0 : w60.cell? ⟨gb916, 0, none⟩ = some (.int .i64 0) := (blk_cell BK916.out 0).trans rfl; have hcz61_1 : w60.cell? ⟨gb916, 1, none⟩ = some (.slice none 0 0) := (blk_cell BK916.out 1).trans rfl; have hcz61_2 : w60.cell? ⟨gb916, 2, none⟩ = some (.string (⟨#[]⟩ : ByteArray)) := (blk_cell BK916.out 2).trans rfl; have hfz61_0 := blk_frozen BK916.out 0; have hfz61_1 := blk_frozen BK916.out 1; have hfz61_2 := blk_frozen BK916.out 2))
                                        have n0_ : Aside0 (Kd.R (Kd.int .i64) 3 (((w60.setCell ⟨gb916, 0, none⟩ (.int .i64 ((rd_T80 t908 x81_3).f0))).setCell ⟨gb916, 1, none⟩ (.slice A915_1 ((rd_T80 t908 x81_3).f1).length c915_1)).setCell ⟨gb916, 2, none⟩ (.string ((rd_T80 t908 x81_3).f2))) w.heap.size (fun _ => True) v913 t909) := ⟨by (with_reducible repeat (first | apply Kd.R_alloc | apply Kd.R_drewN | apply Kd.R_drew)); exact Kd.R_mono (Kd.R_far (p := ⟨gb916, 2, none⟩) (Kd.R_far (p := ⟨gb916, 1, none⟩) (Kd.R_far (p := ⟨gb916, 0, none⟩) (Kd.R_types HO_12.out BK916.out (by decide)) (fun _ hk => hk.2) (.int .i64 ((rd_T80 t908 x81_3).f0))) (fun _ hk => hk.2) (.slice A915_1 ((rd_T80 t908 x81_3).f1).length c915_1)) (fun _ hk => hk.2) (.string ((rd_T80 t908 x81_3).f2))) (fun _ hk => trivial)⟩
                                        have n1_ : Aside0 (Kd.S k80 80 (((w60.setCell ⟨gb916, 0, none⟩ (.int .i64 ((rd_T80 t908 x81_3).f0))).setCell ⟨gb916, 1, none⟩ (.slice A915_1 ((rd_T80 t908 x81_3).f1).length c915_1)).setCell ⟨gb916, 2, none⟩ (.string ((rd_T80 t908 x81_3).f2))) w.heap.size (fun k_ => k_ ≠ gb916) (.slice (some ad915) t908.length co51) t908) := ⟨by (with_reducible repeat (first | apply Kd.S_alloc | apply Kd.S_drewN | apply Kd.S_drew)); exact Kd.S_mono (Kd.S_far (p := ⟨gb916, 2, none⟩) (Kd.S_far (p := ⟨gb916, 1, none⟩) (Kd.S_far (p := ⟨gb916, 0, none⟩) (Kd.S_mono HO_79.out (fun k_ hk => (⟨hk, hk.2⟩ : _ ∧ k_ ≠ gb916))) (fun _ hk => hk.2) (.int .i64 ((rd_T80 t908 x81_3).f0))) (fun _ hk => hk.2) (.slice A915_1 ((rd_T80 t908 x81_3).f1).length c915_1)) (fun _ hk => hk.2) (.string ((rd_T80 t908 x81_3).f2))) (fun _ hk => hk.1.2)⟩
                                        have n2_ : Aside0 (Kd.R (Kd.int .u64) 22 (((w60.setCell ⟨gb916, 0, none⟩ (.int .i64 ((rd_T80 t908 x81_3).f0))).setCell ⟨gb916, 1, none⟩ (.slice A915_1 ((rd_T80 t908 x81_3).f1).length c915_1)).setCell ⟨gb916, 2, none⟩ (.string ((rd_T80 t908 x81_3).f2))) w.heap.size (fun k_ => some k_ ≠ (.slice (some ad915) t908.length co51 : Value).ownBlock) (.slice A915_1 ((rd_T80 t908 x81_3).f1).length c915_1) ((rd_T80 t908 x81_3).f1)) := ⟨by (with_reducible repeat (first | apply Kd.R_alloc | apply Kd.R_drewN | apply Kd.R_drew)); exact Kd.R_mono (Kd.R_far (p := ⟨gb916, 2, none⟩) (Kd.R_far (p := ⟨gb916, 1, none⟩) (Kd.R_far (p := ⟨gb916, 0, none⟩) (Kd.R_types HL915_1.out BK916.out (by decide)) (fun _ hk => hk.2) (.int .i64 ((rd_T80 t908 x81_3).f0))) (fun _ hk => hk.2) (.slice A915_1 ((rd_T80 t908 x81_3).f1).length c915_1)) (fun _ hk => hk.2) (.string ((rd_T80 t908 x81_3).f2))) (fun _ hk => hk.1.2)⟩
                                        have n3_ : Aside0 ((((w60.setCell ⟨gb916, 0, none⟩ (.int .i64 ((rd_T80 t908 x81_3).f0))).setCell ⟨gb916, 1, none⟩ (.slice A915_1 ((rd_T80 t908 x81_3).f1).length c915_1)).setCell ⟨gb916, 2, none⟩ (.string ((rd_T80 t908 x81_3).f2))).heap[gb916]? = some (.cells #[.int .i64 ((rd_T80 t908 x81_3).f0), .slice A915_1 ((rd_T80 t908 x81_3).f1).length c915_1, .string ((rd_T80 t908 x81_3).f2)] 80 (0, 0))) := ⟨by (with_reducible repeat (first | refine blk_drewN ?_ _ | refine blk_drew ?_ | refine blk_alloc ?_ _)); refine blk_put (cs := #[.int .i64 ((rd_T80 t908 x81_3).f0), .slice A915_1 ((rd_T80 t908 x81_3).f1).length c915_1, .string (⟨#[]⟩ : ByteArray)]) ?_ 2 _ rfl; (with_reducible repeat (first | refine blk_drewN ?_ _ | refine blk_drew ?_ | refine blk_alloc ?_ _)); refine blk_put (cs := #[.int .i64 ((rd_T80 t908 x81_3).f0), .slice none 0 0, .string (⟨#[]⟩ : ByteArray)]) ?_ 1 _ rfl; (with_reducible repeat (first | refine blk_drewN ?_ _ | refine blk_drew ?_ | refine blk_alloc ?_ _)); refine blk_put (cs := #[.int .i64 0, .slice none 0 0, .string (⟨#[]⟩ : ByteArray)]) ?_ 0 _ rfl; (with_reducible repeat (first | refine blk_drewN ?_ _ | refine blk_drew ?_ | refine blk_alloc ?_ _)); exact BK916.out⟩
                                        have n4_ : Aside0 (Below w.heap.size w (((w60.setCell ⟨gb916, 0, none⟩ (.int .i64 ((rd_T80 t908 x81_3).f0))).setCell ⟨gb916, 1, none⟩ (.slice A915_1 ((rd_T80 t908 x81_3).f1).length c915_1)).setCell ⟨gb916, 2, none⟩ (.string ((rd_T80 t908 x81_3).f2)))) := ⟨by repeat (first | (with_reducible first | exact HB.out | apply below_alloc | apply pw_below_drewN | apply below_drew1 | refine below_set ?_ GE916.out) | exact HB.out)⟩
                                        (try clear HO_12)
                                        (try clear HO_79)
                                        (try clear HL915_1)
                                        (try clear BK916)
                                        (try clear HB)
                                        generalize (((w60.setCell ⟨gb916, 0, none⟩ (.int .i64 ((rd_T80 t908 x81_3).f0))).setCell ⟨gb916, 1, none⟩ (.slice A915_1 ((rd_T80 t908 x81_3).f1).length c915_1)).setCell ⟨gb916, 2, none⟩ (.string ((rd_T80 t908 x81_3).f2))) = w62 at n0_ n1_ n2_ n3_ n4_ ⊢
                                        have HO_12 := n0_
                                        have HO_79 := n1_
                                        have HL915_1 := n2_
                                        have BK916 := n3_
                                        have HB := n4_
                                        clear n0_ n1_ n2_ n3_ n4_
                                        have n0_ := Aside0.mk (Kd.R_drew HO_12.out)
                                        have n1_ := Aside0.mk (Kd.S_drew HO_79.out)
                                        have n2_ := Aside0.mk (Kd.R_drew HL915_1.out)
                                        have n3_ := Aside0.mk (blk_drew BK916.out)
                                        have n4_ := Aside0.mk (below_drew1 HB.out)
                                        clear HO_12
                                        clear HO_79
                                        clear HL915_1
                                        clear BK916
                                        clear HB
                                        have HO_12 := n0_
                                        have HO_79 := n1_
                                        have HL915_1 := n2_
                                        have BK916 := n3_
                                        have HB := n4_
                                        clear n0_ n1_ n2_ n3_ n4_
                                        have p917 : 0 ≤ (x81_3 : Int) := of_decide_eq_true (by first | (with_reducible assumption) | assumption)
                                        have q917 : x81_3 < (l0.length : Int) := of_decide_eq_true (by first | (with_reducible assumption) | assumption)
                                        obtain ⟨ad917, A917_1, c917_1, e917, hx917_0, hx917_1, hx917_2, hl917_1, hi917_1⟩ := at_T80 HR0.out x81_3 p917 q917
                                        have hw917_2 := hx917_2
                                        have hw917_1 := hx917_1
                                        have hw917_0 := hx917_0
                                        cases e917
                                        replace hx917_0 := (HB.out.cell (World.block_lt_of_cell? w _ hx917_0)).trans hx917_0
                                        replace hx917_1 := (HB.out.cell (World.block_lt_of_cell? w _ hx917_1)).trans hx917_1
                                        replace hx917_2 := (HB.out.cell (World.block_lt_of_cell? w _ hx917_2)).trans hx917_2
                                        have HR917_1 := Aside0.mk hi917_1
                                        have HC917_1 := Aside0.mk hl917_1
                                        clear hi917_1 hl917_1
                                        replace p917 := eq_true p917
                                        replace q917 := eq_true q917
                                        have p919 : 0 ≤ (x81_3 : Int) := of_decide_eq_true (by first | (with_reducible assumption) | assumption)
                                        have q919 : x81_3 < (t909.length : Int) := of_decide_eq_true (by first | (with_reducible assumption) | assumption)
                                        obtain ⟨Aq913, cq913, eq913⟩ := Kd.R_slice HO_12.out
                                        subst eq913
                                        obtain ⟨ad919, e919, hx919_0⟩ := Kd.at_int (Kd.R_reads' HO_12.out).2.2 x81_3 p919 q919
                                        cases e919
                                        replace p919 := eq_true p919
                                        replace q919 := eq_true q919
                                        refine start_ (n := 15) (S := fun w' => w'.cell? ⟨gb916, 0, none⟩ = some (.int .i64 ((rd_T80 t908 x81_3).f0)) ∧ w'.cell? ⟨gb916, 1, none⟩ = some (.slice A915_1 ((rd_T80 t908 x81_3).f1).length c915_1) ∧ w'.cell? ⟨gb916, 2, none⟩ = some (.string ((rd_T80 t908 x81_3).f2)) ∧ w'.cell? (ad917.add ((x81_3).toNat * 3)) = some (.int .i64 ((rd_T80 l0 x81_3).f0)) ∧ w'.cell? ⟨(ad917.add ((x81_3).toNat * 3)).block, (ad917.add ((x81_3).toNat * 3)).off + 1, none⟩ = some (.slice A917_1 ((rd_T80 l0 x81_3).f1).length c917_1) ∧ w'.cell? ⟨(ad917.add ((x81_3).toNat * 3)).block, (ad917.add ((x81_3).toNat * 3)).off + 2, none⟩ = some (.string ((rd_T80 l0 x81_3).f2)) ∧ w'.cell? (ad919.add (x81_3).toNat) = some (.int .i64 (rd t909 x81_3))) (ds := []) #[false, false, false, false, false, false, false, false, false, false, false, false, false, false, false] (by kernel_rfl) rfl rfl ⟨(blk_cell BK916.out 0).trans rfl, (blk_cell BK916.out 1).trans rfl, (blk_cell BK916.out 2).trans rfl, ((HB.out.cell (World.block_lt_of_cell? w _ hw917_0)).trans hw917_0), ((HB.out.cell (World.block_lt_of_cell? w _ hw917_1)).trans hw917_1), ((HB.out.cell (World.block_lt_of_cell? w _ hw917_2)).trans hw917_2), hx919_0⟩ (fun hHeld => ?_); refine with_tabW tumbrellaw05_RecordTorn.tab24 tumbrellaw05_RecordTorn.bits24 (fun HT_ HW_ => ?_)
                                        generalize w62.drew = w63 at HO_12 HO_79 HL915_1 BK916 HB HR917_1 hx917_0 hx917_1 hx917_2 hx919_0 hHeld ⊢
                                        refine pure_ (i := 1) (N := some 87) (v := ?_) (a' := ?_) #[false, true, false, false, false, false, false, false, false, false, false, false, false, false, false] rfl rfl (any_of HT_.out (by kernel_rfl)) (fun _ _ _ h => h) (Or.inl ⟨by rfl, ?_⟩) ?_ ?_
                                        rotate_left
                                        · intro w'
                                          go_simp
                                          with_reducible rfl
                                        rotate_left
                                        · simp only [Act.put, List.setIfInBounds_toArray, List.set_cons_zero, List.set_cons_succ, i64_w, i32_w]
                                          rfl
                                        refine pure_ (i := 2) (N := some 88) (v := ?_) (a' := ?_) #[false, true, true, false, false, false, false, false, false, false, false, false, false, false, false] rfl rfl (any_of HT_.out (by kernel_rfl)) (fun _ _ _ h => h) (Or.inl ⟨by rfl, ?_⟩) ?_ ?_
                                        rotate_left
                                        · intro w'
                                          go_simp
                                          with_reducible rfl
                                        rotate_left
                                        · simp only [Act.put, List.setIfInBounds_toArray, List.set_cons_zero, List.set_cons_succ, i64_w, i32_w]
                                          rfl
                                        refine pure_ (i := 3) (N := some 89) (v := ?_) (a' := ?_) #[false, true, true, true, false, false, false, false, false, false, false, false, false, false, false] rfl rfl (any_of HT_.out (by kernel_rfl)) (fun _ _ _ h => h) (Or.inl ⟨by rfl, ?_⟩) ?_ ?_
                                        rotate_left
                                        · intro w'
                                          go_simp
                                          with_reducible rfl
                                        rotate_left
                                        · simp only [Act.put, List.setIfInBounds_toArray, List.set_cons_zero, List.set_cons_succ, i64_w, i32_w]
                                          rfl
                                        refine take_ (i := 0) (N := some 86) (v := ?_) (a' := ?_) #[true, true, true, true, false, false, false, false, false, false, false, false, false, false, false] rfl rfl (take_ofW HT_.out HW_.out (by kernel_rfl)) (fun _ _ _ h => h) (Or.inl ⟨by rfl, ?_⟩) hHeld ?_ ?_
                                        rotate_left
                                        · rintro w' ⟨s0, s1, s2, s3, s4, s5, s6⟩
                                          go_simp
                                          with_reducible rfl
                                        rotate_left
                                        · simp only [Act.put, List.setIfInBounds_toArray, List.set_cons_zero, List.set_cons_succ, i64_w, i32_w]
                                          rfl
                                        refine take_ (i := 4) (N := some 90) (v := ?_) (a' := ?_) #[true, true, true, true, true, false, false, false, false, false, false, false, false, false, false] rfl rfl (take_ofW HT_.out HW_.out (by kernel_rfl)) (fun _ _ _ h => h) (Or.inl ⟨by rfl, ?_⟩) hHeld ?_ ?_
                                        rotate_left
                                        · rintro w' ⟨s0, s1, s2, s3, s4, s5, s6⟩
                                          go_simp
                                          with_reducible rfl
                                        rotate_left
                                        · simp only [Act.put, List.setIfInBounds_toArray, List.set_cons_zero, List.set_cons_succ, i64_w, i32_w]
                                          rfl
                                        refine one_ (i := 5) (N := some 91) #[true, true, true, true, true, true, false, false, false, false, false, false, false, false, false] rfl rfl (one_of HT_.out (by kernel_rfl)) (by decide) (fun K hK => ?_)
                                        refine goes_ Try.func64 (by kernel_rfl) rfl #[.agg #[.int .i64 ((rd_T80 t908 x81_3).f0), .slice A915_1 ((rd_T80 t908 x81_3).f1).length c915_1, .string ((rd_T80 t908 x81_3).f2)], .agg #[.int .i64 ((rd_T80 l0 x81_3).f0), .slice A917_1 ((rd_T80 l0 x81_3).f1).length c917_1, .string ((rd_T80 l0 x81_3).f2)]] (by rfl) rfl rfl (by (try simp only [List.map_toArray, List.map_cons, List.map_nil]); first | done | rfl | (simp only [List.length_drop, List.length_take]; rfl)) ?_
                                        with_reducible refine (record_Same.calls k3 ((rd_T80 t908 x81_3).f0) _ _ ((rd_T80 t908 x81_3).f1) ((rd_T80 t908 x81_3).f2) ((rd_T80 l0 x81_3).f0) _ _ ((rd_T80 l0 x81_3).f1) ((rd_T80 l0 x81_3).f2) true _ ?side1 ?side2 ?side3 ?side4 A56.out).mono ?_
                                        (case side1 => repeat (first | exact ((Kd.R_reads' (by (with_reducible repeat (first | apply Kd.R_alloc | apply Kd.R_drewN | apply Kd.R_drew)); exact HL915_1.out)).2.2) | (with_reducible refine Kd.C_alloc ?_ _) | (with_reducible refine Kd.C_drewN ?_ _) | (with_reducible refine Kd.C_drew ?_)))
                                        (case side2 => exact HC915_1.out)
                                        (case side3 => repeat (first | exact (Kd.C_below HR917_1.out HB.out) | (with_reducible refine Kd.C_alloc ?_ _) | (with_reducible refine Kd.C_drewN ?_ _) | (with_reducible refine Kd.C_drew ?_)))
                                        (case side4 => exact HC917_1.out)
                                        rintro e w64 ⟨rfl, hb⟩
                                        have HS6_ := (hb.cell (World.block_lt_of_cell? _ _ (hHeld.2.2.2.2.2.2))).trans (hHeld.2.2.2.2.2.2)
                                        refine ⟨_, rfl, ?_⟩
                                        have n0_ := Aside0.mk (Kd.R_below (by (with_reducible repeat (first | apply Kd.R_alloc | apply Kd.R_drewN | apply Kd.R_drew)); exact HO_12.out) hb)
                                        have n1_ := Aside0.mk (Kd.S_below (by (with_reducible repeat (first | apply Kd.S_alloc | apply Kd.S_drewN | apply Kd.S_drew)); exact HO_79.out) hb)
                                        have n2_ := Aside0.mk (Kd.R_below (by (with_reducible repeat (first | apply Kd.R_alloc | apply Kd.R_drewN | apply Kd.R_drew)); exact HL915_1.out) hb)
                                        have n3_ := Aside0.mk (blk_below (g := gb916) (o := .cells #[.int .i64 ((rd_T80 t908 x81_3).f0), .slice A915_1 ((rd_T80 t908 x81_3).f1).length c915_1, .string ((rd_T80 t908 x81_3).f2)] 80 (0, 0)) (by (with_reducible repeat (first | refine blk_drewN ?_ _ | refine blk_drew ?_ | refine blk_alloc ?_ _)); exact BK916.out) hb)
                                        have n4_ := Aside0.mk (below_step (by repeat (first | (with_reducible first | exact HB.out | apply below_alloc | apply pw_below_drewN | apply below_drew1 | refine below_set ?_ GE916.out) | exact HB.out)) hb)
                                        clear HO_12
                                        clear HO_79
                                        clear HL915_1
                                        clear BK916
                                        clear HB
                                        have HO_12 := n0_
                                        have HO_79 := n1_
                                        have HL915_1 := n2_
                                        have BK916 := n3_
                                        have HB := n4_
                                        clear n0_ n1_ n2_ n3_ n4_
                                        (try clear hb)
                                        (try clear hb2)
                                        (try clear hk)
                                        (try clear hi)
                                        obtain ⟨Ao65, co65, eo65⟩ := Kd.R_slice HO_12.out
                                        (first | subst eo65 | (injection eo65 with f1_ f2_ f3_; have f4_ := f1_.symm; have f5_ := f3_.symm; clear f1_ f2_ f3_; subst f4_; subst f5_))
                                        refine hK.out _ _ ⟨(blk_cell BK916.out 0).trans rfl, (blk_cell BK916.out 1).trans rfl, (blk_cell BK916.out 2).trans rfl, ((HB.out.cell (World.block_lt_of_cell? w _ hw917_0)).trans hw917_0), ((HB.out.cell (World.block_lt_of_cell? w _ hw917_1)).trans hw917_1), ((HB.out.cell (World.block_lt_of_cell? w _ hw917_2)).trans hw917_2), HS6_⟩ (fun hHeld => ?_)
                                        clear hK K
                                        refine norm_ (a' := ?_) ?_ ?_
                                        rotate_left
                                        · show Act.put _ (some 91) _ = _
                                          simp only [Act.put, List.setIfInBounds_toArray, List.set_cons_zero, List.set_cons_succ, i64_w, i32_w]
                                          rfl
                                        refine pure_ (i := 6) (N := some 92) (v := ?_) (a' := ?_) #[true, true, true, true, true, true, true, false, false, false, false, false, false, false, false] rfl rfl (any_of HT_.out (by kernel_rfl)) (fun _ _ _ h => h) (Or.inl ⟨by rfl, ?_⟩) ?_ ?_
                                        rotate_left
                                        · intro w'
                                          go_simp
                                          with_reducible rfl
                                        rotate_left
                                        · simp only [Act.put, List.setIfInBounds_toArray, List.set_cons_zero, List.set_cons_succ, i64_w, i32_w]
                                          rfl
                                        refine pure_ (i := 7) (N := some 93) (v := ?_) (a' := ?_) #[true, true, true, true, true, true, true, true, false, false, false, false, false, false, false] rfl rfl (any_of HT_.out (by kernel_rfl)) (fun _ _ _ h => h) (Or.inl ⟨by rfl, ?_⟩) ?_ ?_
                                        rotate_left
                                        · intro w'
                                          go_simp
                                          with_reducible rfl
                                        rotate_left
                                        · simp only [Act.put, List.setIfInBounds_toArray, List.set_cons_zero, List.set_cons_succ, i64_w, i32_w]
                                          rfl
                                        refine pure_ (i := 8) (N := some 94) (v := ?_) (a' := ?_) #[true, true, true, true, true, true, true, true, true, false, false, false, false, false, false] rfl rfl (any_of HT_.out (by kernel_rfl)) (fun _ _ _ h => h) (Or.inl ⟨by rfl, ?_⟩) ?_ ?_
                                        rotate_left
                                        · intro w'
                                          go_simp
                                          with_reducible rfl
                                        rotate_left
                                        · simp only [Act.put, List.setIfInBounds_toArray, List.set_cons_zero, List.set_cons_succ, i64_w, i32_w]
                                          rfl
                                        refine pure_ (i := 9) (N := some 95) (v := ?_) (a' := ?_) #[true, true, true, true, true, true, true, true, true, true, false, false, false, false, false] rfl rfl (any_of HT_.out (by kernel_rfl)) (fun _ _ _ h => h) (Or.inl ⟨by rfl, ?_⟩) ?_ ?_
                                        rotate_left
                                        · intro w'
                                          go_simp
                                          with_reducible rfl
                                        rotate_left
                                        · simp only [Act.put, List.setIfInBounds_toArray, List.set_cons_zero, List.set_cons_succ, i64_w, i32_w]
                                          rfl
                                        refine pure_ (i := 10) (N := some 96) (v := ?_) (a' := ?_) #[true, true, true, true, true, true, true, true, true, true, true, false, false, false, false] rfl rfl (any_of HT_.out (by kernel_rfl)) (fun _ _ _ h => h) (Or.inl ⟨by rfl, ?_⟩) ?_ ?_
                                        rotate_left
                                        · intro w'
                                          go_simp
                                          with_reducible rfl
                                        rotate_left
                                        · simp only [Act.put, List.setIfInBounds_toArray, List.set_cons_zero, List.set_cons_succ, i64_w, i32_w]
                                          rfl
                                        refine pure_ (i := 12) (N := some 98) (v := ?_) (a' := ?_) #[true, true, true, true, true, true, true, true, true, true, true, false, true, false, false] rfl rfl (any_of HT_.out (by kernel_rfl)) (fun _ _ _ h => h) (Or.inl ⟨by rfl, ?_⟩) ?_ ?_
                                        rotate_left
                                        · intro w'
                                          go_simp
                                          with_reducible rfl
                                        rotate_left
                                        · simp only [Act.put, List.setIfInBounds_toArray, List.set_cons_zero, List.set_cons_succ, i64_w, i32_w]
                                          rfl
                                        refine take_ (i := 11) (N := some 97) (v := ?_) (a' := ?_) #[true, true, true, true, true, true, true, true, true, true, true, true, true, false, false] rfl rfl (take_ofW HT_.out HW_.out (by kernel_rfl)) (fun _ _ _ h => h) (Or.inl ⟨by rfl, ?_⟩) hHeld ?_ ?_
                                        rotate_left
                                        · rintro w' ⟨s0, s1, s2, s3, s4, s5, s6⟩
                                          go_simp
                                          with_reducible rfl
                                        rotate_left
                                        · simp only [Act.put, List.setIfInBounds_toArray, List.set_cons_zero, List.set_cons_succ, i64_w, i32_w]
                                          rfl
                                        refine pure_ (i := 13) (N := some 99) (v := ?_) (a' := ?_) #[true, true, true, true, true, true, true, true, true, true, true, true, true, true, false] rfl rfl (any_of HT_.out (by kernel_rfl)) (fun _ _ _ h => h) (Or.inl ⟨by rfl, ?_⟩) ?_ ?_
                                        rotate_left
                                        · intro w'
                                          go_simp
                                          with_reducible rfl
                                        rotate_left
                                        · simp only [Act.put, List.setIfInBounds_toArray, List.set_cons_zero, List.set_cons_succ, i64_w, i32_w]
                                          rfl
                                        refine pure_ (i := 14) (N := some 100) (v := ?_) (a' := ?_) #[true, true, true, true, true, true, true, true, true, true, true, true, true, true, true] rfl rfl (any_of HT_.out (by kernel_rfl)) (fun _ _ _ h => h) (Or.inl ⟨by rfl, ?_⟩) ?_ ?_
                                        rotate_left
                                        · intro w'
                                          go_simp
                                          with_reducible rfl
                                        rotate_left
                                        · simp only [Act.put, List.setIfInBounds_toArray, List.set_cons_zero, List.set_cons_succ, i64_w, i32_w]
                                          rfl
                                        refine done_ (done_of HT_.out (by kernel_rfl)) ?_
                                        try go_wp2
                                        go_ret
                                        exact ⟨by first | rfl | (simp [errW_none, errW_some] <;> rfl) | (simp only [← hji31, ← hji32]; first | rfl | (simp [errW_none, errW_some] <;> rfl)) | (simp [*, errW_none, errW_some] <;> rfl), by repeat (first | (with_reducible first | exact HB.out | apply below_alloc | apply pw_below_drewN | apply below_drew1 | refine below_set ?_ GE916.out) | exact HB.out)⟩
                                      · rw [if_neg c59] at H
                                        have c59b0 : decide (ji32 < (rd t909 x81_3)) = false := decide_eq_false c59
                                        clear c59
                                        have H' := Aside0.mk H
                                        clear H
                                        have p915 : 0 ≤ (x81_3 : Int) := of_decide_eq_true (by first | (with_reducible assumption) | assumption)
                                        have q915 : x81_3 < (t908.length : Int) := of_decide_eq_true (by first | (with_reducible assumption) | assumption)
                                        obtain ⟨ad915, A915_1, c915_1, e915, hx915_0, hx915_1, hx915_2, hl915_1, hi915_1⟩ := at_T80 (Kd.S_reads' HO_79.out).2.2 x81_3 p915 q915
                                        cases e915
                                        obtain ⟨ce915, hce915, hMe915, hcc915⟩ := Kd.S_get HO_79.out z80 x81_3 p915 (by first | exact q915 | exact of_decide_eq_true (by first | (with_reducible assumption) | assumption) | (have e_ := (Kd.S_reads' HO_79.out).1; omega))
                                        obtain ⟨ve915_1, rfl, ge915_1⟩ := k80_openM hMe915
                                        have hv915_1 := hcc915 1 _ rfl
                                        rw [add_field _ _ 1 (by omega)] at hv915_1
                                        replace hv915_1 := Option.some.inj (hv915_1.symm.trans hx915_1)
                                        rw [hv915_1] at ge915_1
                                        have HL915_1 := Aside0.mk (show Kd.R (Kd.int .u64) 22 _ _ _ _ ((rd_T80 t908 x81_3).f1) from ge915_1)
                                        clear hv915_1 ge915_1
                                        clear hcc915 hce915
                                        have HR915_1 := Aside0.mk hi915_1
                                        have HC915_1 := Aside0.mk hl915_1
                                        clear hi915_1 hl915_1
                                        replace p915 := eq_true p915
                                        replace q915 := eq_true q915
                                        try go_wp2_with (first | ((with_reducible refine gate_dst (N := 15) rfl ?_); (try (refine gate_guard (by rfl) ?_; dsimp only)); refine box_event ?hg (N := 15) ?hd (cs := #[.int .i64 0, .slice none 0 0, .string (⟨#[]⟩ : ByteArray)]) (t := 80) ?hr ?_; (case hd => rfl); (case hg => rfl); (case hr => first | (go_simp; done) | (go_simp; rfl)); intro gb916 hg w66 hbox hb; have n0_ := Aside0.mk (Kd.R_below (by (with_reducible repeat (first | apply Kd.R_alloc | apply Kd.R_drewN | apply Kd.R_drew)); exact HO_12.out) hb); have n1_ := Aside0.mk (Kd.S_below (Kd.S_elderB (by (with_reducible repeat (first | apply Kd.S_alloc | apply Kd.S_drewN | apply Kd.S_drew)); exact HO_79.out) gb916 (Nat.le_of_eq hg.symm)) hb); have n2_ := Aside0.mk (Kd.R_below (by (with_reducible repeat (first | apply Kd.R_alloc | apply Kd.R_drewN | apply Kd.R_drew)); exact HL915_1.out) hb); have n3_ := Aside0.mk (Kd.C_below (by repeat (first | (with_reducible exact HR915_1.out) | (with_reducible refine Kd.C_alloc ?_ _) | (with_reducible refine Kd.C_drewN ?_ _) | (with_reducible refine Kd.C_drew ?_) | exact HR915_1.out)) hb); have n4_ := Aside0.mk (below_step (by repeat (first | (with_reducible first | exact HB.out | apply below_alloc | apply pw_below_drewN | apply below_drew1) | exact HB.out)) hb); have n5_ := Aside0.mk (hbox); have n6_ := Aside0.mk ((by rw [hg]; exact (below_size (by repeat (first | (with_reducible first | exact HB.out | apply below_alloc | apply pw_below_drewN | apply below_drew1) | exact HB.out))) : w.heap.size ≤ gb916)); have n7_ := Aside0.mk ((by rw [hg]; exact (below_size (by repeat (first | (with_reducible first | exact HB.out | apply below_alloc | apply pw_below_drewN | apply below_drew1) | exact HB.out))) : w.heap.size ≤ gb916)); clear HO_12; clear HO_79; clear HL915_1; clear HR915_1; clear HB; have HO_12 := n0_; have HO_79 := n1_; have HL915_1 := n2_; have HR915_1 := n3_; have HB := n4_; have BK916 := n5_; have GW916 := n6_; have GE916 := n7_; clear n0_ n1_ n2_ n3_ n4_ n5_ n6_ n7_; clear hb hbox hg; have hcz67_0 : w66.cell? ⟨gb916, 0, none⟩ = some (.int .i64 0) := (blk_cell BK916.out 0).trans rfl; have hcz67_1 : w66.cell? ⟨gb916, 1, none⟩ = some (.slice none 0 0) := (blk_cell BK916.out 1).trans rfl; have hcz67_2 : w66.cell? ⟨gb916, 2, none⟩ = some (.string (⟨#[]⟩ : ByteArray)) := (blk_cell BK916.out 2).trans rfl; have hfz67_0 := blk_frozen BK916.out 0; have hfz67_1 := blk_frozen BK916.out 1; have hfz67_2 := blk_frozen BK916.out 2))
                                        have n0_ : Aside0 (Kd.R (Kd.int .i64) 3 (((w66.setCell ⟨gb916, 0, none⟩ (.int .i64 ((rd_T80 t908 x81_3).f0))).setCell ⟨gb916, 1, none⟩ (.slice A915_1 ((rd_T80 t908 x81_3).f1).length c915_1)).setCell ⟨gb916, 2, none⟩ (.string ((rd_T80 t908 x81_3).f2))) w.heap.size (fun _ => True) v913 t909) := ⟨by (with_reducible repeat (first | apply Kd.R_alloc | apply Kd.R_drewN | apply Kd.R_drew)); exact Kd.R_mono (Kd.R_far (p := ⟨gb916, 2, none⟩) (Kd.R_far (p := ⟨gb916, 1, none⟩) (Kd.R_far (p := ⟨gb916, 0, none⟩) (Kd.R_types HO_12.out BK916.out (by decide)) (fun _ hk => hk.2) (.int .i64 ((rd_T80 t908 x81_3).f0))) (fun _ hk => hk.2) (.slice A915_1 ((rd_T80 t908 x81_3).f1).length c915_1)) (fun _ hk => hk.2) (.string ((rd_T80 t908 x81_3).f2))) (fun _ hk => trivial)⟩
                                        have n1_ : Aside0 (Kd.S k80 80 (((w66.setCell ⟨gb916, 0, none⟩ (.int .i64 ((rd_T80 t908 x81_3).f0))).setCell ⟨gb916, 1, none⟩ (.slice A915_1 ((rd_T80 t908 x81_3).f1).length c915_1)).setCell ⟨gb916, 2, none⟩ (.string ((rd_T80 t908 x81_3).f2))) w.heap.size (fun k_ => k_ ≠ gb916) (.slice (some ad915) t908.length co51) t908) := ⟨by (with_reducible repeat (first | apply Kd.S_alloc | apply Kd.S_drewN | apply Kd.S_drew)); exact Kd.S_mono (Kd.S_far (p := ⟨gb916, 2, none⟩) (Kd.S_far (p := ⟨gb916, 1, none⟩) (Kd.S_far (p := ⟨gb916, 0, none⟩) (Kd.S_mono HO_79.out (fun k_ hk => (⟨hk, hk.2⟩ : _ ∧ k_ ≠ gb916))) (fun _ hk => hk.2) (.int .i64 ((rd_T80 t908 x81_3).f0))) (fun _ hk => hk.2) (.slice A915_1 ((rd_T80 t908 x81_3).f1).length c915_1)) (fun _ hk => hk.2) (.string ((rd_T80 t908 x81_3).f2))) (fun _ hk => hk.1.2)⟩
                                        have n2_ : Aside0 (Kd.R (Kd.int .u64) 22 (((w66.setCell ⟨gb916, 0, none⟩ (.int .i64 ((rd_T80 t908 x81_3).f0))).setCell ⟨gb916, 1, none⟩ (.slice A915_1 ((rd_T80 t908 x81_3).f1).length c915_1)).setCell ⟨gb916, 2, none⟩ (.string ((rd_T80 t908 x81_3).f2))) w.heap.size (fun k_ => some k_ ≠ (.slice (some ad915) t908.length co51 : Value).ownBlock) (.slice A915_1 ((rd_T80 t908 x81_3).f1).length c915_1) ((rd_T80 t908 x81_3).f1)) := ⟨by (with_reducible repeat (first | apply Kd.R_alloc | apply Kd.R_drewN | apply Kd.R_drew)); exact Kd.R_mono (Kd.R_far (p := ⟨gb916, 2, none⟩) (Kd.R_far (p := ⟨gb916, 1, none⟩) (Kd.R_far (p := ⟨gb916, 0, none⟩) (Kd.R_types HL915_1.out BK916.out (by decide)) (fun _ hk => hk.2) (.int .i64 ((rd_T80 t908 x81_3).f0))) (fun _ hk => hk.2) (.slice A915_1 ((rd_T80 t908 x81_3).f1).length c915_1)) (fun _ hk => hk.2) (.string ((rd_T80 t908 x81_3).f2))) (fun _ hk => hk.1.2)⟩
                                        have n3_ : Aside0 ((((w66.setCell ⟨gb916, 0, none⟩ (.int .i64 ((rd_T80 t908 x81_3).f0))).setCell ⟨gb916, 1, none⟩ (.slice A915_1 ((rd_T80 t908 x81_3).f1).length c915_1)).setCell ⟨gb916, 2, none⟩ (.string ((rd_T80 t908 x81_3).f2))).heap[gb916]? = some (.cells #[.int .i64 ((rd_T80 t908 x81_3).f0), .slice A915_1 ((rd_T80 t908 x81_3).f1).length c915_1, .string ((rd_T80 t908 x81_3).f2)] 80 (0, 0))) := ⟨by (with_reducible repeat (first | refine blk_drewN ?_ _ | refine blk_drew ?_ | refine blk_alloc ?_ _)); refine blk_put (cs := #[.int .i64 ((rd_T80 t908 x81_3).f0), .slice A915_1 ((rd_T80 t908 x81_3).f1).length c915_1, .string (⟨#[]⟩ : ByteArray)]) ?_ 2 _ rfl; (with_reducible repeat (first | refine blk_drewN ?_ _ | refine blk_drew ?_ | refine blk_alloc ?_ _)); refine blk_put (cs := #[.int .i64 ((rd_T80 t908 x81_3).f0), .slice none 0 0, .string (⟨#[]⟩ : ByteArray)]) ?_ 1 _ rfl; (with_reducible repeat (first | refine blk_drewN ?_ _ | refine blk_drew ?_ | refine blk_alloc ?_ _)); refine blk_put (cs := #[.int .i64 0, .slice none 0 0, .string (⟨#[]⟩ : ByteArray)]) ?_ 0 _ rfl; (with_reducible repeat (first | refine blk_drewN ?_ _ | refine blk_drew ?_ | refine blk_alloc ?_ _)); exact BK916.out⟩
                                        have n4_ : Aside0 (Below w.heap.size w (((w66.setCell ⟨gb916, 0, none⟩ (.int .i64 ((rd_T80 t908 x81_3).f0))).setCell ⟨gb916, 1, none⟩ (.slice A915_1 ((rd_T80 t908 x81_3).f1).length c915_1)).setCell ⟨gb916, 2, none⟩ (.string ((rd_T80 t908 x81_3).f2)))) := ⟨by repeat (first | (with_reducible first | exact HB.out | apply below_alloc | apply pw_below_drewN | apply below_drew1 | refine below_set ?_ GE916.out) | exact HB.out)⟩
                                        (try clear HO_12)
                                        (try clear HO_79)
                                        (try clear HL915_1)
                                        (try clear BK916)
                                        (try clear HB)
                                        generalize (((w66.setCell ⟨gb916, 0, none⟩ (.int .i64 ((rd_T80 t908 x81_3).f0))).setCell ⟨gb916, 1, none⟩ (.slice A915_1 ((rd_T80 t908 x81_3).f1).length c915_1)).setCell ⟨gb916, 2, none⟩ (.string ((rd_T80 t908 x81_3).f2))) = w68 at n0_ n1_ n2_ n3_ n4_ ⊢
                                        have HO_12 := n0_
                                        have HO_79 := n1_
                                        have HL915_1 := n2_
                                        have BK916 := n3_
                                        have HB := n4_
                                        clear n0_ n1_ n2_ n3_ n4_
                                        have n0_ := Aside0.mk (Kd.R_drew HO_12.out)
                                        have n1_ := Aside0.mk (Kd.S_drew HO_79.out)
                                        have n2_ := Aside0.mk (Kd.R_drew HL915_1.out)
                                        have n3_ := Aside0.mk (blk_drew BK916.out)
                                        have n4_ := Aside0.mk (below_drew1 HB.out)
                                        clear HO_12
                                        clear HO_79
                                        clear HL915_1
                                        clear BK916
                                        clear HB
                                        have HO_12 := n0_
                                        have HO_79 := n1_
                                        have HL915_1 := n2_
                                        have BK916 := n3_
                                        have HB := n4_
                                        clear n0_ n1_ n2_ n3_ n4_
                                        have p917 : 0 ≤ (x81_3 : Int) := of_decide_eq_true (by first | (with_reducible assumption) | assumption)
                                        have q917 : x81_3 < (l0.length : Int) := of_decide_eq_true (by first | (with_reducible assumption) | assumption)
                                        obtain ⟨ad917, A917_1, c917_1, e917, hx917_0, hx917_1, hx917_2, hl917_1, hi917_1⟩ := at_T80 HR0.out x81_3 p917 q917
                                        have hw917_2 := hx917_2
                                        have hw917_1 := hx917_1
                                        have hw917_0 := hx917_0
                                        cases e917
                                        replace hx917_0 := (HB.out.cell (World.block_lt_of_cell? w _ hx917_0)).trans hx917_0
                                        replace hx917_1 := (HB.out.cell (World.block_lt_of_cell? w _ hx917_1)).trans hx917_1
                                        replace hx917_2 := (HB.out.cell (World.block_lt_of_cell? w _ hx917_2)).trans hx917_2
                                        have HR917_1 := Aside0.mk hi917_1
                                        have HC917_1 := Aside0.mk hl917_1
                                        clear hi917_1 hl917_1
                                        replace p917 := eq_true p917
                                        replace q917 := eq_true q917
                                        have p919 : 0 ≤ (x81_3 : Int) := of_decide_eq_true (by first | (with_reducible assumption) | assumption)
                                        have q919 : x81_3 < (t909.length : Int) := of_decide_eq_true (by first | (with_reducible assumption) | assumption)
                                        obtain ⟨Aq913, cq913, eq913⟩ := Kd.R_slice HO_12.out
                                        subst eq913
                                        obtain ⟨ad919, e919, hx919_0⟩ := Kd.at_int (Kd.R_reads' HO_12.out).2.2 x81_3 p919 q919
                                        cases e919
                                        replace p919 := eq_true p919
                                        replace q919 := eq_true q919
                                        refine start_ (n := 15) (S := fun w' => w'.cell? ⟨gb916, 0, none⟩ = some (.int .i64 ((rd_T80 t908 x81_3).f0)) ∧ w'.cell? ⟨gb916, 1, none⟩ = some (.slice A915_1 ((rd_T80 t908 x81_3).f1).length c915_1) ∧ w'.cell? ⟨gb916, 2, none⟩ = some (.string ((rd_T80 t908 x81_3).f2)) ∧ w'.cell? (ad917.add ((x81_3).toNat * 3)) = some (.int .i64 ((rd_T80 l0 x81_3).f0)) ∧ w'.cell? ⟨(ad917.add ((x81_3).toNat * 3)).block, (ad917.add ((x81_3).toNat * 3)).off + 1, none⟩ = some (.slice A917_1 ((rd_T80 l0 x81_3).f1).length c917_1) ∧ w'.cell? ⟨(ad917.add ((x81_3).toNat * 3)).block, (ad917.add ((x81_3).toNat * 3)).off + 2, none⟩ = some (.string ((rd_T80 l0 x81_3).f2)) ∧ w'.cell? (ad919.add (x81_3).toNat) = some (.int .i64 (rd t909 x81_3))) (ds := []) #[false, false, false, false, false, false, false, false, false, false, false, false, false, false, false] (by kernel_rfl) rfl rfl ⟨(blk_cell BK916.out 0).trans rfl, (blk_cell BK916.out 1).trans rfl, (blk_cell BK916.out 2).trans rfl, ((HB.out.cell (World.block_lt_of_cell? w _ hw917_0)).trans hw917_0), ((HB.out.cell (World.block_lt_of_cell? w _ hw917_1)).trans hw917_1), ((HB.out.cell (World.block_lt_of_cell? w _ hw917_2)).trans hw917_2), hx919_0⟩ (fun hHeld => ?_); refine with_tabW tumbrellaw05_RecordTorn.tab24 tumbrellaw05_RecordTorn.bits24 (fun HT_ HW_ => ?_)
                                        generalize w68.drew = w69 at HO_12 HO_79 HL915_1 BK916 HB HR917_1 hx917_0 hx917_1 hx917_2 hx919_0 hHeld ⊢
                                        refine pure_ (i := 1) (N := some 87) (v := ?_) (a' := ?_) #[false, true, false, false, false, false, false, false, false, false, false, false, false, false, false] rfl rfl (any_of HT_.out (by kernel_rfl)) (fun _ _ _ h => h) (Or.inl ⟨by rfl, ?_⟩) ?_ ?_
                                        rotate_left
                                        · intro w'
                                          go_simp
                                          with_reducible rfl
                                        rotate_left
                                        · simp only [Act.put, List.setIfInBounds_toArray, List.set_cons_zero, List.set_cons_succ, i64_w, i32_w]
                                          rfl
                                        refine pure_ (i := 2) (N := some 88) (v := ?_) (a' := ?_) #[false, true, true, false, false, false, false, false, false, false, false, false, false, false, false] rfl rfl (any_of HT_.out (by kernel_rfl)) (fun _ _ _ h => h) (Or.inl ⟨by rfl, ?_⟩) ?_ ?_
                                        rotate_left
                                        · intro w'
                                          go_simp
                                          with_reducible rfl
                                        rotate_left
                                        · simp only [Act.put, List.setIfInBounds_toArray, List.set_cons_zero, List.set_cons_succ, i64_w, i32_w]
                                          rfl
                                        refine pure_ (i := 3) (N := some 89) (v := ?_) (a' := ?_) #[false, true, true, true, false, false, false, false, false, false, false, false, false, false, false] rfl rfl (any_of HT_.out (by kernel_rfl)) (fun _ _ _ h => h) (Or.inl ⟨by rfl, ?_⟩) ?_ ?_
                                        rotate_left
                                        · intro w'
                                          go_simp
                                          with_reducible rfl
                                        rotate_left
                                        · simp only [Act.put, List.setIfInBounds_toArray, List.set_cons_zero, List.set_cons_succ, i64_w, i32_w]
                                          rfl
                                        refine take_ (i := 0) (N := some 86) (v := ?_) (a' := ?_) #[true, true, true, true, false, false, false, false, false, false, false, false, false, false, false] rfl rfl (take_ofW HT_.out HW_.out (by kernel_rfl)) (fun _ _ _ h => h) (Or.inl ⟨by rfl, ?_⟩) hHeld ?_ ?_
                                        rotate_left
                                        · rintro w' ⟨s0, s1, s2, s3, s4, s5, s6⟩
                                          go_simp
                                          with_reducible rfl
                                        rotate_left
                                        · simp only [Act.put, List.setIfInBounds_toArray, List.set_cons_zero, List.set_cons_succ, i64_w, i32_w]
                                          rfl
                                        refine take_ (i := 4) (N := some 90) (v := ?_) (a' := ?_) #[true, true, true, true, true, false, false, false, false, false, false, false, false, false, false] rfl rfl (take_ofW HT_.out HW_.out (by kernel_rfl)) (fun _ _ _ h => h) (Or.inl ⟨by rfl, ?_⟩) hHeld ?_ ?_
                                        rotate_left
                                        · rintro w' ⟨s0, s1, s2, s3, s4, s5, s6⟩
                                          go_simp
                                          with_reducible rfl
                                        rotate_left
                                        · simp only [Act.put, List.setIfInBounds_toArray, List.set_cons_zero, List.set_cons_succ, i64_w, i32_w]
                                          rfl
                                        refine one_ (i := 5) (N := some 91) #[true, true, true, true, true, true, false, false, false, false, false, false, false, false, false] rfl rfl (one_of HT_.out (by kernel_rfl)) (by decide) (fun K hK => ?_)
                                        refine goes_ Try.func64 (by kernel_rfl) rfl #[.agg #[.int .i64 ((rd_T80 t908 x81_3).f0), .slice A915_1 ((rd_T80 t908 x81_3).f1).length c915_1, .string ((rd_T80 t908 x81_3).f2)], .agg #[.int .i64 ((rd_T80 l0 x81_3).f0), .slice A917_1 ((rd_T80 l0 x81_3).f1).length c917_1, .string ((rd_T80 l0 x81_3).f2)]] (by rfl) rfl rfl (by (try simp only [List.map_toArray, List.map_cons, List.map_nil]); first | done | rfl | (simp only [List.length_drop, List.length_take]; rfl)) ?_
                                        with_reducible refine (record_Same.calls k3 ((rd_T80 t908 x81_3).f0) _ _ ((rd_T80 t908 x81_3).f1) ((rd_T80 t908 x81_3).f2) ((rd_T80 l0 x81_3).f0) _ _ ((rd_T80 l0 x81_3).f1) ((rd_T80 l0 x81_3).f2) true _ ?side1 ?side2 ?side3 ?side4 A56.out).mono ?_
                                        (case side1 => repeat (first | exact ((Kd.R_reads' (by (with_reducible repeat (first | apply Kd.R_alloc | apply Kd.R_drewN | apply Kd.R_drew)); exact HL915_1.out)).2.2) | (with_reducible refine Kd.C_alloc ?_ _) | (with_reducible refine Kd.C_drewN ?_ _) | (with_reducible refine Kd.C_drew ?_)))
                                        (case side2 => exact HC915_1.out)
                                        (case side3 => repeat (first | exact (Kd.C_below HR917_1.out HB.out) | (with_reducible refine Kd.C_alloc ?_ _) | (with_reducible refine Kd.C_drewN ?_ _) | (with_reducible refine Kd.C_drew ?_)))
                                        (case side4 => exact HC917_1.out)
                                        rintro e w70 ⟨rfl, hb⟩
                                        have HS6_ := (hb.cell (World.block_lt_of_cell? _ _ (hHeld.2.2.2.2.2.2))).trans (hHeld.2.2.2.2.2.2)
                                        refine ⟨_, rfl, ?_⟩
                                        have n0_ := Aside0.mk (Kd.R_below (by (with_reducible repeat (first | apply Kd.R_alloc | apply Kd.R_drewN | apply Kd.R_drew)); exact HO_12.out) hb)
                                        have n1_ := Aside0.mk (Kd.S_below (by (with_reducible repeat (first | apply Kd.S_alloc | apply Kd.S_drewN | apply Kd.S_drew)); exact HO_79.out) hb)
                                        have n2_ := Aside0.mk (Kd.R_below (by (with_reducible repeat (first | apply Kd.R_alloc | apply Kd.R_drewN | apply Kd.R_drew)); exact HL915_1.out) hb)
                                        have n3_ := Aside0.mk (blk_below (g := gb916) (o := .cells #[.int .i64 ((rd_T80 t908 x81_3).f0), .slice A915_1 ((rd_T80 t908 x81_3).f1).length c915_1, .string ((rd_T80 t908 x81_3).f2)] 80 (0, 0)) (by (with_reducible repeat (first | refine blk_drewN ?_ _ | refine blk_drew ?_ | refine blk_alloc ?_ _)); exact BK916.out) hb)
                                        have n4_ := Aside0.mk (below_step (by repeat (first | (with_reducible first | exact HB.out | apply below_alloc | apply pw_below_drewN | apply below_drew1 | refine below_set ?_ GE916.out) | exact HB.out)) hb)
                                        clear HO_12
                                        clear HO_79
                                        clear HL915_1
                                        clear BK916
                                        clear HB
                                        have HO_12 := n0_
                                        have HO_79 := n1_
                                        have HL915_1 := n2_
                                        have BK916 := n3_
                                        have HB := n4_
                                        clear n0_ n1_ n2_ n3_ n4_
                                        (try clear hb)
                                        (try clear hb2)
                                        (try clear hk)
                                        (try clear hi)
                                        obtain ⟨Ao71, co71, eo71⟩ := Kd.R_slice HO_12.out
                                        (first | subst eo71 | (injection eo71 with f1_ f2_ f3_; have f4_ := f1_.symm; have f5_ := f3_.symm; clear f1_ f2_ f3_; subst f4_; subst f5_))
                                        refine hK.out _ _ ⟨(blk_cell BK916.out 0).trans rfl, (blk_cell BK916.out 1).trans rfl, (blk_cell BK916.out 2).trans rfl, ((HB.out.cell (World.block_lt_of_cell? w _ hw917_0)).trans hw917_0), ((HB.out.cell (World.block_lt_of_cell? w _ hw917_1)).trans hw917_1), ((HB.out.cell (World.block_lt_of_cell? w _ hw917_2)).trans hw917_2), HS6_⟩ (fun hHeld => ?_)
                                        clear hK K
                                        refine norm_ (a' := ?_) ?_ ?_
                                        rotate_left
                                        · show Act.put _ (some 91) _ = _
                                          simp only [Act.put, List.setIfInBounds_toArray, List.set_cons_zero, List.set_cons_succ, i64_w, i32_w]
                                          rfl
                                        refine pure_ (i := 6) (N := some 92) (v := ?_) (a' := ?_) #[true, true, true, true, true, true, true, false, false, false, false, false, false, false, false] rfl rfl (any_of HT_.out (by kernel_rfl)) (fun _ _ _ h => h) (Or.inl ⟨by rfl, ?_⟩) ?_ ?_
                                        rotate_left
                                        · intro w'
                                          go_simp
                                          with_reducible rfl
                                        rotate_left
                                        · simp only [Act.put, List.setIfInBounds_toArray, List.set_cons_zero, List.set_cons_succ, i64_w, i32_w]
                                          rfl
                                        refine pure_ (i := 7) (N := some 93) (v := ?_) (a' := ?_) #[true, true, true, true, true, true, true, true, false, false, false, false, false, false, false] rfl rfl (any_of HT_.out (by kernel_rfl)) (fun _ _ _ h => h) (Or.inl ⟨by rfl, ?_⟩) ?_ ?_
                                        rotate_left
                                        · intro w'
                                          go_simp
                                          with_reducible rfl
                                        rotate_left
                                        · simp only [Act.put, List.setIfInBounds_toArray, List.set_cons_zero, List.set_cons_succ, i64_w, i32_w]
                                          rfl
                                        refine pure_ (i := 8) (N := some 94) (v := ?_) (a' := ?_) #[true, true, true, true, true, true, true, true, true, false, false, false, false, false, false] rfl rfl (any_of HT_.out (by kernel_rfl)) (fun _ _ _ h => h) (Or.inl ⟨by rfl, ?_⟩) ?_ ?_
                                        rotate_left
                                        · intro w'
                                          go_simp
                                          with_reducible rfl
                                        rotate_left
                                        · simp only [Act.put, List.setIfInBounds_toArray, List.set_cons_zero, List.set_cons_succ, i64_w, i32_w]
                                          rfl
                                        refine pure_ (i := 9) (N := some 95) (v := ?_) (a' := ?_) #[true, true, true, true, true, true, true, true, true, true, false, false, false, false, false] rfl rfl (any_of HT_.out (by kernel_rfl)) (fun _ _ _ h => h) (Or.inl ⟨by rfl, ?_⟩) ?_ ?_
                                        rotate_left
                                        · intro w'
                                          go_simp
                                          with_reducible rfl
                                        rotate_left
                                        · simp only [Act.put, List.setIfInBounds_toArray, List.set_cons_zero, List.set_cons_succ, i64_w, i32_w]
                                          rfl
                                        refine pure_ (i := 10) (N := some 96) (v := ?_) (a' := ?_) #[true, true, true, true, true, true, true, true, true, true, true, false, false, false, false] rfl rfl (any_of HT_.out (by kernel_rfl)) (fun _ _ _ h => h) (Or.inl ⟨by rfl, ?_⟩) ?_ ?_
                                        rotate_left
                                        · intro w'
                                          go_simp
                                          with_reducible rfl
                                        rotate_left
                                        · simp only [Act.put, List.setIfInBounds_toArray, List.set_cons_zero, List.set_cons_succ, i64_w, i32_w]
                                          rfl
                                        refine pure_ (i := 12) (N := some 98) (v := ?_) (a' := ?_) #[true, true, true, true, true, true, true, true, true, true, true, false, true, false, false] rfl rfl (any_of HT_.out (by kernel_rfl)) (fun _ _ _ h => h) (Or.inl ⟨by rfl, ?_⟩) ?_ ?_
                                        rotate_left
                                        · intro w'
                                          go_simp
                                          with_reducible rfl
                                        rotate_left
                                        · simp only [Act.put, List.setIfInBounds_toArray, List.set_cons_zero, List.set_cons_succ, i64_w, i32_w]
                                          rfl
                                        refine take_ (i := 11) (N := some 97) (v := ?_) (a' := ?_) #[true, true, true, true, true, true, true, true, true, true, true, true, true, false, false] rfl rfl (take_ofW HT_.out HW_.out (by kernel_rfl)) (fun _ _ _ h => h) (Or.inl ⟨by rfl, ?_⟩) hHeld ?_ ?_
                                        rotate_left
                                        · rintro w' ⟨s0, s1, s2, s3, s4, s5, s6⟩
                                          go_simp
                                          with_reducible rfl
                                        rotate_left
                                        · simp only [Act.put, List.setIfInBounds_toArray, List.set_cons_zero, List.set_cons_succ, i64_w, i32_w]
                                          rfl
                                        refine pure_ (i := 13) (N := some 99) (v := ?_) (a' := ?_) #[true, true, true, true, true, true, true, true, true, true, true, true, true, true, false] rfl rfl (any_of HT_.out (by kernel_rfl)) (fun _ _ _ h => h) (Or.inl ⟨by rfl, ?_⟩) ?_ ?_
                                        rotate_left
                                        · intro w'
                                          go_simp
                                          with_reducible rfl
                                        rotate_left
                                        · simp only [Act.put, List.setIfInBounds_toArray, List.set_cons_zero, List.set_cons_succ, i64_w, i32_w]
                                          rfl
                                        refine pure_ (i := 14) (N := some 100) (v := ?_) (a' := ?_) #[true, true, true, true, true, true, true, true, true, true, true, true, true, true, true] rfl rfl (any_of HT_.out (by kernel_rfl)) (fun _ _ _ h => h) (Or.inl ⟨by rfl, ?_⟩) ?_ ?_
                                        rotate_left
                                        · intro w'
                                          go_simp
                                          with_reducible rfl
                                        rotate_left
                                        · simp only [Act.put, List.setIfInBounds_toArray, List.set_cons_zero, List.set_cons_succ, i64_w, i32_w]
                                          rfl
                                        refine done_ (done_of HT_.out (by kernel_rfl)) ?_
                                        try go_wp2
                                        go_roundg k3
                                        case measure => have := HK1.out; have := HJ35.out; have := HK3.out; omega
                                        case rel => exact ⟨(wrap64 (x81_3 + 1)), (by first | rfl | (simp; done) | (simp [*]; done)), H', ⟨by have := HK1.out; have := HJ35.out; have := HK3.out; omega⟩, ⟨by (with_reducible repeat (first | apply Kd.R_alloc | apply Kd.R_drewN | apply Kd.R_drew)); exact HO_12.out⟩, ⟨by (with_reducible repeat (first | apply Kd.S_alloc | apply Kd.S_drewN | apply Kd.S_drew)); exact Kd.S_mono HO_79.out (fun _ hk => trivial)⟩, ⟨by repeat (first | (with_reducible first | exact HB.out | apply below_alloc | apply pw_below_drewN | apply below_drew1 | refine below_set ?_ GE916.out) | exact HB.out)⟩⟩
                                    · rw [if_neg c58] at H
                                      exact absurd H (by simp)
                                  · replace c57 := Bool.eq_false_iff.mpr c57
                                    subst c57
                                    have H1 : (some false) = some r := by rw [if_neg (show ¬ (false = true) by decide)] at H; exact H
                                    clear H
                                    have H := H1
                                    clear H1
                                    obtain rfl := Option.some.inj H
                                    have p915 : 0 ≤ (x81_3 : Int) := of_decide_eq_true (by first | (with_reducible assumption) | assumption)
                                    have q915 : x81_3 < (t908.length : Int) := of_decide_eq_true (by first | (with_reducible assumption) | assumption)
                                    obtain ⟨ad915, A915_1, c915_1, e915, hx915_0, hx915_1, hx915_2, hl915_1, hi915_1⟩ := at_T80 (Kd.S_reads' HO_79.out).2.2 x81_3 p915 q915
                                    cases e915
                                    obtain ⟨ce915, hce915, hMe915, hcc915⟩ := Kd.S_get HO_79.out z80 x81_3 p915 (by first | exact q915 | exact of_decide_eq_true (by first | (with_reducible assumption) | assumption) | (have e_ := (Kd.S_reads' HO_79.out).1; omega))
                                    obtain ⟨ve915_1, rfl, ge915_1⟩ := k80_openM hMe915
                                    have hv915_1 := hcc915 1 _ rfl
                                    rw [add_field _ _ 1 (by omega)] at hv915_1
                                    replace hv915_1 := Option.some.inj (hv915_1.symm.trans hx915_1)
                                    rw [hv915_1] at ge915_1
                                    have HL915_1 := Aside0.mk (show Kd.R (Kd.int .u64) 22 _ _ _ _ ((rd_T80 t908 x81_3).f1) from ge915_1)
                                    clear hv915_1 ge915_1
                                    clear hcc915 hce915
                                    have HR915_1 := Aside0.mk hi915_1
                                    have HC915_1 := Aside0.mk hl915_1
                                    clear hi915_1 hl915_1
                                    replace p915 := eq_true p915
                                    replace q915 := eq_true q915
                                    try go_wp2_with (first | ((with_reducible refine gate_dst (N := 15) rfl ?_); (try (refine gate_guard (by rfl) ?_; dsimp only)); refine box_event ?hg (N := 15) ?hd (cs := #[.int .i64 0, .slice none 0 0, .string (⟨#[]⟩ : ByteArray)]) (t := 80) ?hr ?_; (case hd => rfl); (case hg => rfl); (case hr => first | (go_simp; done) | (go_simp; rfl)); intro gb916 hg w72 hbox hb; have n0_ := Aside0.mk (Kd.R_below (by (with_reducible repeat (first | apply Kd.R_alloc | apply Kd.R_drewN | apply Kd.R_drew)); exact HO_12.out) hb); have n1_ := Aside0.mk (Kd.S_below (Kd.S_elderB (by (with_reducible repeat (first | apply Kd.S_alloc | apply Kd.S_drewN | apply Kd.S_drew)); exact HO_79.out) gb916 (Nat.le_of_eq hg.symm)) hb); have n2_ := Aside0.mk (Kd.R_below (by (with_reducible repeat (first | apply Kd.R_alloc | apply Kd.R_drewN | apply Kd.R_drew)); exact HL915_1.out) hb); have n3_ := Aside0.mk (Kd.C_below (by repeat (first | (with_reducible exact HR915_1.out) | (with_reducible refine Kd.C_alloc ?_ _) | (with_reducible refine Kd.C_drewN ?_ _) | (with_reducible refine Kd.C_drew ?_) | exact HR915_1.out)) hb); have n4_ := Aside0.mk (below_step (by repeat (first | (with_reducible first | exact HB.out | apply below_alloc | apply pw_below_drewN | apply below_drew1) | exact HB.out)) hb); have n5_ := Aside0.mk (hbox); have n6_ := Aside0.mk ((by rw [hg]; exact (below_size (by repeat (first | (with_reducible first | exact HB.out | apply below_alloc | apply pw_below_drewN | apply below_drew1) | exact HB.out))) : w.heap.size ≤ gb916)); have n7_ := Aside0.mk ((by rw [hg]; exact (below_size (by repeat (first | (with_reducible first | exact HB.out | apply below_alloc | apply pw_below_drewN | apply below_drew1) | exact HB.out))) : w.heap.size ≤ gb916)); clear HO_12; clear HO_79; clear HL915_1; clear HR915_1; clear HB; have HO_12 := n0_; have HO_79 := n1_; have HL915_1 := n2_; have HR915_1 := n3_; have HB := n4_; have BK916 := n5_; have GW916 := n6_; have GE916 := n7_; clear n0_ n1_ n2_ n3_ n4_ n5_ n6_ n7_; clear hb hbox hg; have hcz73_0 : w72.cell? ⟨gb916, 0, none⟩ = some (.int .i64 0) := (blk_cell BK916.out 0).trans rfl; have hcz73_1 : w72.cell? ⟨gb916, 1, none⟩ = some (.slice none 0 0) := (blk_cell BK916.out 1).trans rfl; have hcz73_2 : w72.cell? ⟨gb916, 2, none⟩ = some (.string (⟨#[]⟩ : ByteArray)) := (blk_cell BK916.out 2).trans rfl; have hfz73_0 := blk_frozen BK916.out 0; have hfz73_1 := blk_frozen BK916.out 1; have hfz73_2 := blk_frozen BK916.out 2))
                                    have n0_ : Aside0 (Kd.R (Kd.int .i64) 3 (((w72.setCell ⟨gb916, 0, none⟩ (.int .i64 ((rd_T80 t908 x81_3).f0))).setCell ⟨gb916, 1, none⟩ (.slice A915_1 ((rd_T80 t908 x81_3).f1).length c915_1)).setCell ⟨gb916, 2, none⟩ (.string ((rd_T80 t908 x81_3).f2))) w.heap.size (fun _ => True) v913 t909) := ⟨by (with_reducible repeat (first | apply Kd.R_alloc | apply Kd.R_drewN | apply Kd.R_drew)); exact Kd.R_mono (Kd.R_far (p := ⟨gb916, 2, none⟩) (Kd.R_far (p := ⟨gb916, 1, none⟩) (Kd.R_far (p := ⟨gb916, 0, none⟩) (Kd.R_types HO_12.out BK916.out (by decide)) (fun _ hk => hk.2) (.int .i64 ((rd_T80 t908 x81_3).f0))) (fun _ hk => hk.2) (.slice A915_1 ((rd_T80 t908 x81_3).f1).length c915_1)) (fun _ hk => hk.2) (.string ((rd_T80 t908 x81_3).f2))) (fun _ hk => trivial)⟩
                                    have n1_ : Aside0 (Kd.S k80 80 (((w72.setCell ⟨gb916, 0, none⟩ (.int .i64 ((rd_T80 t908 x81_3).f0))).setCell ⟨gb916, 1, none⟩ (.slice A915_1 ((rd_T80 t908 x81_3).f1).length c915_1)).setCell ⟨gb916, 2, none⟩ (.string ((rd_T80 t908 x81_3).f2))) w.heap.size (fun k_ => k_ ≠ gb916) (.slice (some ad915) t908.length co51) t908) := ⟨by (with_reducible repeat (first | apply Kd.S_alloc | apply Kd.S_drewN | apply Kd.S_drew)); exact Kd.S_mono (Kd.S_far (p := ⟨gb916, 2, none⟩) (Kd.S_far (p := ⟨gb916, 1, none⟩) (Kd.S_far (p := ⟨gb916, 0, none⟩) (Kd.S_mono HO_79.out (fun k_ hk => (⟨hk, hk.2⟩ : _ ∧ k_ ≠ gb916))) (fun _ hk => hk.2) (.int .i64 ((rd_T80 t908 x81_3).f0))) (fun _ hk => hk.2) (.slice A915_1 ((rd_T80 t908 x81_3).f1).length c915_1)) (fun _ hk => hk.2) (.string ((rd_T80 t908 x81_3).f2))) (fun _ hk => hk.1.2)⟩
                                    have n2_ : Aside0 (Kd.R (Kd.int .u64) 22 (((w72.setCell ⟨gb916, 0, none⟩ (.int .i64 ((rd_T80 t908 x81_3).f0))).setCell ⟨gb916, 1, none⟩ (.slice A915_1 ((rd_T80 t908 x81_3).f1).length c915_1)).setCell ⟨gb916, 2, none⟩ (.string ((rd_T80 t908 x81_3).f2))) w.heap.size (fun k_ => some k_ ≠ (.slice (some ad915) t908.length co51 : Value).ownBlock) (.slice A915_1 ((rd_T80 t908 x81_3).f1).length c915_1) ((rd_T80 t908 x81_3).f1)) := ⟨by (with_reducible repeat (first | apply Kd.R_alloc | apply Kd.R_drewN | apply Kd.R_drew)); exact Kd.R_mono (Kd.R_far (p := ⟨gb916, 2, none⟩) (Kd.R_far (p := ⟨gb916, 1, none⟩) (Kd.R_far (p := ⟨gb916, 0, none⟩) (Kd.R_types HL915_1.out BK916.out (by decide)) (fun _ hk => hk.2) (.int .i64 ((rd_T80 t908 x81_3).f0))) (fun _ hk => hk.2) (.slice A915_1 ((rd_T80 t908 x81_3).f1).length c915_1)) (fun _ hk => hk.2) (.string ((rd_T80 t908 x81_3).f2))) (fun _ hk => hk.1.2)⟩
                                    have n3_ : Aside0 ((((w72.setCell ⟨gb916, 0, none⟩ (.int .i64 ((rd_T80 t908 x81_3).f0))).setCell ⟨gb916, 1, none⟩ (.slice A915_1 ((rd_T80 t908 x81_3).f1).length c915_1)).setCell ⟨gb916, 2, none⟩ (.string ((rd_T80 t908 x81_3).f2))).heap[gb916]? = some (.cells #[.int .i64 ((rd_T80 t908 x81_3).f0), .slice A915_1 ((rd_T80 t908 x81_3).f1).length c915_1, .string ((rd_T80 t908 x81_3).f2)] 80 (0, 0))) := ⟨by (with_reducible repeat (first | refine blk_drewN ?_ _ | refine blk_drew ?_ | refine blk_alloc ?_ _)); refine blk_put (cs := #[.int .i64 ((rd_T80 t908 x81_3).f0), .slice A915_1 ((rd_T80 t908 x81_3).f1).length c915_1, .string (⟨#[]⟩ : ByteArray)]) ?_ 2 _ rfl; (with_reducible repeat (first | refine blk_drewN ?_ _ | refine blk_drew ?_ | refine blk_alloc ?_ _)); refine blk_put (cs := #[.int .i64 ((rd_T80 t908 x81_3).f0), .slice none 0 0, .string (⟨#[]⟩ : ByteArray)]) ?_ 1 _ rfl; (with_reducible repeat (first | refine blk_drewN ?_ _ | refine blk_drew ?_ | refine blk_alloc ?_ _)); refine blk_put (cs := #[.int .i64 0, .slice none 0 0, .string (⟨#[]⟩ : ByteArray)]) ?_ 0 _ rfl; (with_reducible repeat (first | refine blk_drewN ?_ _ | refine blk_drew ?_ | refine blk_alloc ?_ _)); exact BK916.out⟩
                                    have n4_ : Aside0 (Below w.heap.size w (((w72.setCell ⟨gb916, 0, none⟩ (.int .i64 ((rd_T80 t908 x81_3).f0))).setCell ⟨gb916, 1, none⟩ (.slice A915_1 ((rd_T80 t908 x81_3).f1).length c915_1)).setCell ⟨gb916, 2, none⟩ (.string ((rd_T80 t908 x81_3).f2)))) := ⟨by repeat (first | (with_reducible first | exact HB.out | apply below_alloc | apply pw_below_drewN | apply below_drew1 | refine below_set ?_ GE916.out) | exact HB.out)⟩
                                    (try clear HO_12)
                                    (try clear HO_79)
                                    (try clear HL915_1)
                                    (try clear BK916)
                                    (try clear HB)
                                    generalize (((w72.setCell ⟨gb916, 0, none⟩ (.int .i64 ((rd_T80 t908 x81_3).f0))).setCell ⟨gb916, 1, none⟩ (.slice A915_1 ((rd_T80 t908 x81_3).f1).length c915_1)).setCell ⟨gb916, 2, none⟩ (.string ((rd_T80 t908 x81_3).f2))) = w74 at n0_ n1_ n2_ n3_ n4_ ⊢
                                    have HO_12 := n0_
                                    have HO_79 := n1_
                                    have HL915_1 := n2_
                                    have BK916 := n3_
                                    have HB := n4_
                                    clear n0_ n1_ n2_ n3_ n4_
                                    have n0_ := Aside0.mk (Kd.R_drew HO_12.out)
                                    have n1_ := Aside0.mk (Kd.S_drew HO_79.out)
                                    have n2_ := Aside0.mk (Kd.R_drew HL915_1.out)
                                    have n3_ := Aside0.mk (blk_drew BK916.out)
                                    have n4_ := Aside0.mk (below_drew1 HB.out)
                                    clear HO_12
                                    clear HO_79
                                    clear HL915_1
                                    clear BK916
                                    clear HB
                                    have HO_12 := n0_
                                    have HO_79 := n1_
                                    have HL915_1 := n2_
                                    have BK916 := n3_
                                    have HB := n4_
                                    clear n0_ n1_ n2_ n3_ n4_
                                    have p917 : 0 ≤ (x81_3 : Int) := of_decide_eq_true (by first | (with_reducible assumption) | assumption)
                                    have q917 : x81_3 < (l0.length : Int) := of_decide_eq_true (by first | (with_reducible assumption) | assumption)
                                    obtain ⟨ad917, A917_1, c917_1, e917, hx917_0, hx917_1, hx917_2, hl917_1, hi917_1⟩ := at_T80 HR0.out x81_3 p917 q917
                                    have hw917_2 := hx917_2
                                    have hw917_1 := hx917_1
                                    have hw917_0 := hx917_0
                                    cases e917
                                    replace hx917_0 := (HB.out.cell (World.block_lt_of_cell? w _ hx917_0)).trans hx917_0
                                    replace hx917_1 := (HB.out.cell (World.block_lt_of_cell? w _ hx917_1)).trans hx917_1
                                    replace hx917_2 := (HB.out.cell (World.block_lt_of_cell? w _ hx917_2)).trans hx917_2
                                    have HR917_1 := Aside0.mk hi917_1
                                    have HC917_1 := Aside0.mk hl917_1
                                    clear hi917_1 hl917_1
                                    replace p917 := eq_true p917
                                    replace q917 := eq_true q917
                                    refine start_ (n := 15) (S := fun w' => w'.cell? ⟨gb916, 0, none⟩ = some (.int .i64 ((rd_T80 t908 x81_3).f0)) ∧ w'.cell? ⟨gb916, 1, none⟩ = some (.slice A915_1 ((rd_T80 t908 x81_3).f1).length c915_1) ∧ w'.cell? ⟨gb916, 2, none⟩ = some (.string ((rd_T80 t908 x81_3).f2)) ∧ w'.cell? (ad917.add ((x81_3).toNat * 3)) = some (.int .i64 ((rd_T80 l0 x81_3).f0)) ∧ w'.cell? ⟨(ad917.add ((x81_3).toNat * 3)).block, (ad917.add ((x81_3).toNat * 3)).off + 1, none⟩ = some (.slice A917_1 ((rd_T80 l0 x81_3).f1).length c917_1) ∧ w'.cell? ⟨(ad917.add ((x81_3).toNat * 3)).block, (ad917.add ((x81_3).toNat * 3)).off + 2, none⟩ = some (.string ((rd_T80 l0 x81_3).f2))) (ds := []) #[false, false, false, false, false, false, false, false, false, false, false, false, false, false, false] (by kernel_rfl) rfl rfl ⟨(blk_cell BK916.out 0).trans rfl, (blk_cell BK916.out 1).trans rfl, (blk_cell BK916.out 2).trans rfl, ((HB.out.cell (World.block_lt_of_cell? w _ hw917_0)).trans hw917_0), ((HB.out.cell (World.block_lt_of_cell? w _ hw917_1)).trans hw917_1), ((HB.out.cell (World.block_lt_of_cell? w _ hw917_2)).trans hw917_2)⟩ (fun hHeld => ?_); refine with_tabW tumbrellaw05_RecordTorn.tab24 tumbrellaw05_RecordTorn.bits24 (fun HT_ HW_ => ?_)
                                    generalize w74.drew = w75 at HO_12 HO_79 HL915_1 BK916 HB HR917_1 hx917_0 hx917_1 hx917_2 hHeld ⊢
                                    refine pure_ (i := 1) (N := some 87) (v := ?_) (a' := ?_) #[false, true, false, false, false, false, false, false, false, false, false, false, false, false, false] rfl rfl (any_of HT_.out (by kernel_rfl)) (fun _ _ _ h => h) (Or.inl ⟨by rfl, ?_⟩) ?_ ?_
                                    rotate_left
                                    · intro w'
                                      go_simp
                                      with_reducible rfl
                                    rotate_left
                                    · simp only [Act.put, List.setIfInBounds_toArray, List.set_cons_zero, List.set_cons_succ, i64_w, i32_w]
                                      rfl
                                    refine pure_ (i := 2) (N := some 88) (v := ?_) (a' := ?_) #[false, true, true, false, false, false, false, false, false, false, false, false, false, false, false] rfl rfl (any_of HT_.out (by kernel_rfl)) (fun _ _ _ h => h) (Or.inl ⟨by rfl, ?_⟩) ?_ ?_
                                    rotate_left
                                    · intro w'
                                      go_simp
                                      with_reducible rfl
                                    rotate_left
                                    · simp only [Act.put, List.setIfInBounds_toArray, List.set_cons_zero, List.set_cons_succ, i64_w, i32_w]
                                      rfl
                                    refine pure_ (i := 3) (N := some 89) (v := ?_) (a' := ?_) #[false, true, true, true, false, false, false, false, false, false, false, false, false, false, false] rfl rfl (any_of HT_.out (by kernel_rfl)) (fun _ _ _ h => h) (Or.inl ⟨by rfl, ?_⟩) ?_ ?_
                                    rotate_left
                                    · intro w'
                                      go_simp
                                      with_reducible rfl
                                    rotate_left
                                    · simp only [Act.put, List.setIfInBounds_toArray, List.set_cons_zero, List.set_cons_succ, i64_w, i32_w]
                                      rfl
                                    refine take_ (i := 0) (N := some 86) (v := ?_) (a' := ?_) #[true, true, true, true, false, false, false, false, false, false, false, false, false, false, false] rfl rfl (take_ofW HT_.out HW_.out (by kernel_rfl)) (fun _ _ _ h => h) (Or.inl ⟨by rfl, ?_⟩) hHeld ?_ ?_
                                    rotate_left
                                    · rintro w' ⟨s0, s1, s2, s3, s4, s5⟩
                                      go_simp
                                      with_reducible rfl
                                    rotate_left
                                    · simp only [Act.put, List.setIfInBounds_toArray, List.set_cons_zero, List.set_cons_succ, i64_w, i32_w]
                                      rfl
                                    refine take_ (i := 4) (N := some 90) (v := ?_) (a' := ?_) #[true, true, true, true, true, false, false, false, false, false, false, false, false, false, false] rfl rfl (take_ofW HT_.out HW_.out (by kernel_rfl)) (fun _ _ _ h => h) (Or.inl ⟨by rfl, ?_⟩) hHeld ?_ ?_
                                    rotate_left
                                    · rintro w' ⟨s0, s1, s2, s3, s4, s5⟩
                                      go_simp
                                      with_reducible rfl
                                    rotate_left
                                    · simp only [Act.put, List.setIfInBounds_toArray, List.set_cons_zero, List.set_cons_succ, i64_w, i32_w]
                                      rfl
                                    refine one_ (i := 5) (N := some 91) #[true, true, true, true, true, true, false, false, false, false, false, false, false, false, false] rfl rfl (one_of HT_.out (by kernel_rfl)) (by decide) (fun K hK => ?_)
                                    refine goes_ Try.func64 (by kernel_rfl) rfl #[.agg #[.int .i64 ((rd_T80 t908 x81_3).f0), .slice A915_1 ((rd_T80 t908 x81_3).f1).length c915_1, .string ((rd_T80 t908 x81_3).f2)], .agg #[.int .i64 ((rd_T80 l0 x81_3).f0), .slice A917_1 ((rd_T80 l0 x81_3).f1).length c917_1, .string ((rd_T80 l0 x81_3).f2)]] (by rfl) rfl rfl (by (try simp only [List.map_toArray, List.map_cons, List.map_nil]); first | done | rfl | (simp only [List.length_drop, List.length_take]; rfl)) ?_
                                    with_reducible refine (record_Same.calls k3 ((rd_T80 t908 x81_3).f0) _ _ ((rd_T80 t908 x81_3).f1) ((rd_T80 t908 x81_3).f2) ((rd_T80 l0 x81_3).f0) _ _ ((rd_T80 l0 x81_3).f1) ((rd_T80 l0 x81_3).f2) false _ ?side1 ?side2 ?side3 ?side4 A56.out).mono ?_
                                    (case side1 => repeat (first | exact ((Kd.R_reads' (by (with_reducible repeat (first | apply Kd.R_alloc | apply Kd.R_drewN | apply Kd.R_drew)); exact HL915_1.out)).2.2) | (with_reducible refine Kd.C_alloc ?_ _) | (with_reducible refine Kd.C_drewN ?_ _) | (with_reducible refine Kd.C_drew ?_)))
                                    (case side2 => exact HC915_1.out)
                                    (case side3 => repeat (first | exact (Kd.C_below HR917_1.out HB.out) | (with_reducible refine Kd.C_alloc ?_ _) | (with_reducible refine Kd.C_drewN ?_ _) | (with_reducible refine Kd.C_drew ?_)))
                                    (case side4 => exact HC917_1.out)
                                    rintro e w76 ⟨rfl, hb⟩
                                    refine ⟨_, rfl, ?_⟩
                                    have n0_ := Aside0.mk (Kd.R_below (by (with_reducible repeat (first | apply Kd.R_alloc | apply Kd.R_drewN | apply Kd.R_drew)); exact HO_12.out) hb)
                                    have n1_ := Aside0.mk (Kd.S_below (by (with_reducible repeat (first | apply Kd.S_alloc | apply Kd.S_drewN | apply Kd.S_drew)); exact HO_79.out) hb)
                                    have n2_ := Aside0.mk (Kd.R_below (by (with_reducible repeat (first | apply Kd.R_alloc | apply Kd.R_drewN | apply Kd.R_drew)); exact HL915_1.out) hb)
                                    have n3_ := Aside0.mk (blk_below (g := gb916) (o := .cells #[.int .i64 ((rd_T80 t908 x81_3).f0), .slice A915_1 ((rd_T80 t908 x81_3).f1).length c915_1, .string ((rd_T80 t908 x81_3).f2)] 80 (0, 0)) (by (with_reducible repeat (first | refine blk_drewN ?_ _ | refine blk_drew ?_ | refine blk_alloc ?_ _)); exact BK916.out) hb)
                                    have n4_ := Aside0.mk (below_step (by repeat (first | (with_reducible first | exact HB.out | apply below_alloc | apply pw_below_drewN | apply below_drew1 | refine below_set ?_ GE916.out) | exact HB.out)) hb)
                                    clear HO_12
                                    clear HO_79
                                    clear HL915_1
                                    clear BK916
                                    clear HB
                                    have HO_12 := n0_
                                    have HO_79 := n1_
                                    have HL915_1 := n2_
                                    have BK916 := n3_
                                    have HB := n4_
                                    clear n0_ n1_ n2_ n3_ n4_
                                    (try clear hb)
                                    (try clear hb2)
                                    (try clear hk)
                                    (try clear hi)
                                    refine hK.out _ _ ⟨(blk_cell BK916.out 0).trans rfl, (blk_cell BK916.out 1).trans rfl, (blk_cell BK916.out 2).trans rfl, ((HB.out.cell (World.block_lt_of_cell? w _ hw917_0)).trans hw917_0), ((HB.out.cell (World.block_lt_of_cell? w _ hw917_1)).trans hw917_1), ((HB.out.cell (World.block_lt_of_cell? w _ hw917_2)).trans hw917_2)⟩ (fun hHeld => ?_)
                                    clear hK K
                                    refine norm_ (a' := ?_) ?_ ?_
                                    rotate_left
                                    · show Act.put _ (some 91) _ = _
                                      simp only [Act.put, List.setIfInBounds_toArray, List.set_cons_zero, List.set_cons_succ, i64_w, i32_w]
                                      rfl
                                    refine pure_ (i := 6) (N := some 92) (v := ?_) (a' := ?_) #[true, true, true, true, true, true, true, false, false, false, false, false, false, false, false] rfl rfl (any_of HT_.out (by kernel_rfl)) (fun _ _ _ h => h) (Or.inl ⟨by rfl, ?_⟩) ?_ ?_
                                    rotate_left
                                    · intro w'
                                      go_simp
                                      with_reducible rfl
                                    rotate_left
                                    · simp only [Act.put, List.setIfInBounds_toArray, List.set_cons_zero, List.set_cons_succ, i64_w, i32_w]
                                      rfl
                                    refine pure_ (i := 7) (N := some 93) (v := ?_) (a' := ?_) #[true, true, true, true, true, true, true, true, false, false, false, false, false, false, false] rfl rfl (any_of HT_.out (by kernel_rfl)) (fun _ _ _ h => h) (Or.inl ⟨by rfl, ?_⟩) ?_ ?_
                                    rotate_left
                                    · intro w'
                                      go_simp
                                      with_reducible rfl
                                    rotate_left
                                    · simp only [Act.put, List.setIfInBounds_toArray, List.set_cons_zero, List.set_cons_succ, i64_w, i32_w]
                                      rfl
                                    refine pure_ (i := 8) (N := some 94) (v := undef) (a' := ?_) #[true, true, true, true, true, true, true, true, true, false, false, false, false, false, false] rfl rfl (any_of HT_.out (by kernel_rfl)) (fun _ _ _ h => h) (Or.inr ⟨by rfl, rfl⟩) ?_ ?_
                                    rotate_left
                                    · simp only [Act.put, List.setIfInBounds_toArray, List.set_cons_zero, List.set_cons_succ, i64_w, i32_w]
                                      rfl
                                    refine pure_ (i := 9) (N := some 95) (v := undef) (a' := ?_) #[true, true, true, true, true, true, true, true, true, true, false, false, false, false, false] rfl rfl (any_of HT_.out (by kernel_rfl)) (fun _ _ _ h => h) (Or.inr ⟨by rfl, rfl⟩) ?_ ?_
                                    rotate_left
                                    · simp only [Act.put, List.setIfInBounds_toArray, List.set_cons_zero, List.set_cons_succ, i64_w, i32_w]
                                      rfl
                                    refine pure_ (i := 10) (N := some 96) (v := undef) (a' := ?_) #[true, true, true, true, true, true, true, true, true, true, true, false, false, false, false] rfl rfl (any_of HT_.out (by kernel_rfl)) (fun _ _ _ h => h) (Or.inr ⟨by rfl, rfl⟩) ?_ ?_
                                    rotate_left
                                    · simp only [Act.put, List.setIfInBounds_toArray, List.set_cons_zero, List.set_cons_succ, i64_w, i32_w]
                                      rfl
                                    refine pure_ (i := 11) (N := some 97) (v := undef) (a' := ?_) #[true, true, true, true, true, true, true, true, true, true, true, true, false, false, false] rfl rfl (any_of HT_.out (by kernel_rfl)) (fun _ _ _ h => h) (Or.inr ⟨by rfl, rfl⟩) ?_ ?_
                                    rotate_left
                                    · simp only [Act.put, List.setIfInBounds_toArray, List.set_cons_zero, List.set_cons_succ, i64_w, i32_w]
                                      rfl
                                    refine pure_ (i := 12) (N := some 98) (v := undef) (a' := ?_) #[true, true, true, true, true, true, true, true, true, true, true, true, true, false, false] rfl rfl (any_of HT_.out (by kernel_rfl)) (fun _ _ _ h => h) (Or.inr ⟨by rfl, rfl⟩) ?_ ?_
                                    rotate_left
                                    · simp only [Act.put, List.setIfInBounds_toArray, List.set_cons_zero, List.set_cons_succ, i64_w, i32_w]
                                      rfl
                                    refine pure_ (i := 13) (N := some 99) (v := undef) (a' := ?_) #[true, true, true, true, true, true, true, true, true, true, true, true, true, true, false] rfl rfl (any_of HT_.out (by kernel_rfl)) (fun _ _ _ h => h) (Or.inr ⟨by rfl, rfl⟩) ?_ ?_
                                    rotate_left
                                    · simp only [Act.put, List.setIfInBounds_toArray, List.set_cons_zero, List.set_cons_succ, i64_w, i32_w]
                                      rfl
                                    refine pure_ (i := 14) (N := some 100) (v := ?_) (a' := ?_) #[true, true, true, true, true, true, true, true, true, true, true, true, true, true, true] rfl rfl (any_of HT_.out (by kernel_rfl)) (fun _ _ _ h => h) (Or.inl ⟨by rfl, ?_⟩) ?_ ?_
                                    rotate_left
                                    · intro w'
                                      go_simp
                                      with_reducible rfl
                                    rotate_left
                                    · simp only [Act.put, List.setIfInBounds_toArray, List.set_cons_zero, List.set_cons_succ, i64_w, i32_w]
                                      rfl
                                    refine done_ (done_of HT_.out (by kernel_rfl)) ?_
                                    try go_wp2
                                    go_ret
                                    exact ⟨by first | rfl | (simp [errW_none, errW_some] <;> rfl) | (simp only [← hji31, ← hji32]; first | rfl | (simp [errW_none, errW_some] <;> rfl)) | (simp [*, errW_none, errW_some] <;> rfl), by repeat (first | (with_reducible first | exact HB.out | apply below_alloc | apply pw_below_drewN | apply below_drew1 | refine below_set ?_ GE916.out) | exact HB.out)⟩
                                · rw [if_neg c55] at H
                                  exact absurd H (by simp)
                              · rw [if_neg c54] at H
                                exact absurd H (by simp)
                            · rw [if_neg c53] at H
                              exact absurd H (by simp)
                          · rw [if_neg c52] at H
                            have c52b0 : decide (x81_3 < (t908.length : Int)) = false := decide_eq_false c52
                            clear c52
                            by_cases c77 : x6_1 > 0
                            · rw [if_pos c77] at H
                              have c77b0 : decide (0 < x6_1) = true := decide_eq_true c77
                              clear c77
                              obtain ⟨ji78, hji78⟩ : ∃ j_ : Int, (wrap64 (x6_1 - 1)) = j_ := ⟨_, rfl⟩
                              replace H : (if 0 ≤ (ji78) then (if (ji78) < (t909.length : Int) then (some ((t910 == 0) == ((rd t909 (ji78)) == ji32))) else (none)) else (none)) = some r := by first | (rw [hji78] at H; exact H) | (simp only [hji78] at H ⊢; exact H)
                              have hji78w : (IntKind.i64.wrap (x6_1 - 1)) = ji78 := (i64_w _).trans hji78
                              by_cases c79 : 0 ≤ (ji78)
                              · rw [if_pos c79] at H
                                have c79b0 : decide (0 ≤ (ji78)) = true := decide_eq_true c79
                                clear c79
                                by_cases c80 : (ji78) < (t909.length : Int)
                                · rw [if_pos c80] at H
                                  have c80b0 : decide ((ji78) < (t909.length : Int)) = true := decide_eq_true c80
                                  clear c80
                                  obtain rfl := Option.some.inj H
                                  obtain ⟨Ao81, co81, eo81⟩ := Kd.R_slice HO_12.out
                                  subst eo81
                                  have p920 : 0 ≤ ((ji78) : Int) := of_decide_eq_true (by first | (with_reducible assumption) | assumption)
                                  have q920 : (ji78) < (t909.length : Int) := of_decide_eq_true (by first | (with_reducible assumption) | assumption)
                                  obtain ⟨ad920, e920, hx920_0⟩ := Kd.at_int (Kd.R_reads' HO_12.out).2.2 (ji78) p920 q920
                                  cases e920
                                  replace p920 := eq_true p920
                                  replace q920 := eq_true q920
                                  go_wp2
                                  go_ret
                                  exact ⟨by first | rfl | (simp [errW_none, errW_some] <;> rfl) | (simp only [← hji31, ← hji32, ← hji78]; first | rfl | (simp [errW_none, errW_some] <;> rfl)) | (simp [*, errW_none, errW_some] <;> rfl), by repeat (first | (with_reducible first | exact HB.out | apply below_alloc | apply pw_below_drewN | apply below_drew1) | exact HB.out)⟩
                                · rw [if_neg c80] at H
                                  exact absurd H (by simp)
                              · rw [if_neg c79] at H
                                exact absurd H (by simp)
                            · rw [if_neg c77] at H
                              have c77b0 : decide (0 < x6_1) = false := decide_eq_false c77
                              clear c77
                              obtain rfl := Option.some.inj H
                              go_wp2
                              go_ret
                              exact ⟨by first | rfl | (simp [errW_none, errW_some] <;> rfl) | (simp only [← hji31, ← hji32]; first | rfl | (simp [errW_none, errW_some] <;> rfl)) | (simp [*, errW_none, errW_some] <;> rfl), by repeat (first | (with_reducible first | exact HB.out | apply below_alloc | apply pw_below_drewN | apply below_drew1) | exact HB.out)⟩
              · rw [if_neg c34] at H
                exact absurd H (by simp)
            · rw [if_neg c33] at H
              exact absurd H (by simp)
  · replace c4 := Bool.eq_false_iff.mpr c4
    subst c4
    have H1 : (some false) = some r := by rw [if_neg (show ¬ (false = true) by decide)] at H; exact H
    clear H
    have H := H1
    clear H1
    obtain rfl := Option.some.inj H
    go_enter Try.func18, Try.ntmps18
    go_wp2_with (first | ((with_reducible refine gate_callee (f := 54) rfl ?_); refine goesL_ (some 17) rfl rfl Try.func54 (by kernel_rfl) rfl #[] rfl (by (try simp only [List.map_toArray, List.map_cons, List.map_nil]); first | done | rfl | (simp only [List.length_drop, List.length_take]; rfl)) ?_; (with_reducible refine (tumbrellaw05_awake.calls k  false _ A3.out).mono ?_); rintro e w82 ⟨rfl, hb⟩; refine ⟨_, rfl, ?_⟩; have n0_ := Aside0.mk (below_step (by repeat (first | (with_reducible first | exact HB.out | apply below_alloc | apply pw_below_drewN | apply below_drew1) | exact HB.out)) hb); clear HB; have HB := n0_; clear n0_; (try clear hb); (try clear hb2); (try clear hk); (try clear hi)))
    go_ret
    exact ⟨by first | rfl | (simp [errW_none, errW_some] <;> rfl) | (simp [*, errW_none, errW_some] <;> rfl), by repeat (first | (with_reducible first | exact HB.out | apply below_alloc | apply pw_below_drewN | apply below_drew1) | exact HB.out)⟩
end Go.Proofs.Ytojepleodijdeaa.B
namespace Go.Proofs.Ytojepleodijdeaa.VP
set_option linter.unusedVariables false
set_option linter.unusedSimpArgs false
open Go.RowKit Go.Proofs.Ytojepleodijdeaa.B Go.Proofs.YtojepleodijdeaaW.PrintWords Go.Proofs.YtojepleodijdeaaW.PrintLast Go.Proofs.YtojepleodijdeaaW.PrintMore
def isB (l : List Int) : Prop := ∀ x ∈ l, 0 ≤ x ∧ x ≤ 255
theorem isB_drop {l : List Int} (h : isB l) (n : Nat) : isB (l.drop n) := fun x hx => h x (List.mem_of_mem_drop hx)
theorem isB_take {l : List Int} (h : isB l) (n : Nat) : isB (l.take n) := fun x hx => h x (List.mem_of_mem_take hx)
theorem isB_append {l m : List Int} (h : isB l) (h' : isB m) : isB (l ++ m) := fun x hx => (List.mem_append.1 hx).elim (h x) (h' x)
/-- the number that bytes begin with, from the i-th on -/
def gget : Nat → Int → List Int → Int × Int × Int
  | _, _, [] => (0, 0, 3)
  | i, acc, c :: l =>
    if i = 9 ∧ c > 1 then (0, 0, 2)
    else if c ≥ 128 then gget (i + 1) (acc + (c % 128) * 128 ^ i) l
    else if c = 0 ∧ 0 < i then (0, 0, 2)
    else (acc + (c % 128) * 128 ^ i, (i : Int) + 1, 0)
theorem or_comm64 (x y : Int) : bits .or .u64 x y = bits .or .u64 y x := by
  simp only [bits]; rw [BitVec.or_comm]
theorem pow_128 (i : Nat) : (128 : Int) ^ i = 2 ^ (7 * i) := by
  rw [show (128 : Int) = 2 ^ 7 from rfl, ← Int.pow_mul]
theorem wraps_u64 (n : Int) (h₀ : 0 ≤ n) (h₁ : n < 2 ^ 64) : IntKind.u64.wrap n = n := by rw [IntKind.wrap_u64]; omega
theorem pow_le8 (i : Nat) (hi : i ≤ 8) : (128 : Int) ^ i ≤ 72057594037927936 := by
  rw [show (72057594037927936 : Int) = 128 ^ 8 from rfl]
  exact_mod_cast Nat.pow_le_pow_right (show 0 < 128 by decide) hi
theorem pow_pos128 (i : Nat) : (0 : Int) < 128 ^ i := Int.pow_pos (by decide)
theorem pow_le9 (i : Nat) (hi : i ≤ 9) : (128 : Int) ^ i ≤ 9223372036854775808 := by
  rw [show (9223372036854775808 : Int) = 128 ^ 9 from rfl]
  exact_mod_cast Nat.pow_le_pow_right (show 0 < 128 by decide) hi
theorem part_lt (i : Nat) (hi : i ≤ 9) (c : Int) (h0 : 0 ≤ c) (h1 : i = 9 → c ≤ 1) : 0 ≤ (c % 128) * 128 ^ i ∧ (c % 128) * 128 ^ i ≤ 9223372036854775808 := by
  have hp := pow_pos128 i
  refine ⟨Int.mul_nonneg (by omega) (by omega), ?_⟩
  rcases Nat.lt_or_ge i 9 with h9 | h9
  · have h8 := pow_le8 i (by omega)
    calc (c % 128) * 128 ^ i ≤ 127 * 128 ^ i := Int.mul_le_mul_of_nonneg_right (by omega) (by omega)
      _ ≤ 9223372036854775808 := by omega
  · have : i = 9 := by omega
    subst this
    have := h1 rfl
    have h2 : c % 128 ≤ 1 := by omega
    omega
theorem or_step (i : Nat) (hi : i ≤ 9) (acc c : Int) (h0 : 0 ≤ acc) (h1 : acc < 128 ^ i) (hc0 : 0 ≤ c) (hc : i = 9 → c ≤ 1) :
    bits .or .u64 acc (shl .u64 (IntKind.u64.wrap (Int.tmod c 128)) (7 * (i : Int))) = acc + (c % 128) * 128 ^ i := by
  have hp := part_lt i hi c hc0 hc
  have h9 := pow_le9 i hi
  rw [Int.tmod_eq_emod_of_nonneg hc0, wraps_u64 (c % 128) (by omega) (by omega)]
  have e : min (7 * (i : Int)).toNat IntKind.u64.bits = 7 * i := by
    have : (7 * (i : Int)).toNat = 7 * i := by omega
    rw [this]; simp [IntKind.bits]; omega
  rw [shl, e, ← pow_128, wraps_u64 _ hp.1 (by omega), or_comm64]
  have hw : ∀ n : Int, 0 ≤ n → n < 2 ^ 64 → IntKind.u64.wrap n = n := wraps_u64
  rw [bits_join .u64 64 (by decide) hw (7 * i) _ acc hp.1 (by rw [← pow_128]; exact Int.mul_emod_left _ _) (by omega) h0 (by rw [← pow_128]; exact h1) (by omega)]
  omega
theorem rd_at {l : List Int} {i : Nat} (h : i < l.length) : rd l (i : Int) = l[i] := by
  simp [rd, List.getD_eq_getElem?_getD, List.getElem?_eq_getElem h]
theorem wrap_succ (i : Nat) (h : i < 9223372036854775807) : wrap64 ((i : Int) + 1) = ((i + 1 : Nat) : Int) := by
  unfold wrap64; omega
theorem wrap_7 (i : Nat) (h : i ≤ 9) : wrap64 (7 * (i : Int)) = 7 * (i : Int) := by
  unfold wrap64; omega
theorem get_loop (l : List Int) (hb : isB l) (hl : l.length ≤ 140737488355328) : ∀ (d i : Nat) (acc : Int), l.length - i = d → i ≤ 9 → 0 ≤ acc → acc < 128 ^ i →
    Ev (fun k => vint_Get.l0 k acc l (l.length : Int) (i : Int)) (gget i acc (l.drop i)) := by
  intro d
  induction d with
  | zero =>
    intro i acc hd hi h0 h1
    rw [List.drop_of_length_le (by omega)]
    refine Ev.step (f := fun _ => some (0, 0, 3)) (fun k => ?_) (Ev.now _)
    simp only [vint_Get.l0]
    rw [if_neg (by omega)]
  | succ d ih =>
    intro i acc hd hi h0 h1
    have hlt : i < l.length := by omega
    have hc := hb l[i] (List.getElem_mem hlt)
    rw [List.drop_eq_getElem_cons hlt]
    refine Ev.step (f := fun k => vint_Get.j1 k acc i l[i] l (l.length : Int) i (decide (i = 9) && decide (l[i] > 1))) (fun k => ?_) ?_
    · simp only [vint_Get.l0]
      rw [if_pos (by omega), if_pos (by omega), if_pos (by omega), rd_at hlt]
      by_cases h9 : i = 9
      · subst h9; simp
      · rw [if_neg (by omega)]; simp [h9]
    · have hw7 := wrap_7 i hi
      by_cases hbad : i = 9 ∧ l[i] > 1
      · refine Ev.step (f := fun _ => some (0, 0, 2)) (fun k => ?_) (by rw [gget, if_pos hbad]; exact Ev.now _)
        simp only [vint_Get.j1]
        rw [if_pos (by rw [Bool.and_eq_true]; exact ⟨decide_eq_true hbad.1, decide_eq_true hbad.2⟩)]
      · have hcond : (decide (i = 9) && decide (l[i] > 1)) = false := by
          simp only [Bool.and_eq_false_iff, decide_eq_false_iff_not]
          by_cases h9 : i = 9
          · exact .inr (fun h => hbad ⟨h9, h⟩)
          · exact .inl h9
        have hor := or_step i hi acc l[i] h0 h1 hc.1 (fun h9 => by have := fun h => hbad ⟨h9, h⟩; omega)
        rw [hcond, gget, if_neg hbad]
        by_cases h128 : l[i] ≥ 128
        · rw [if_pos h128]
          have hi8 : i ≤ 8 := by
            rcases Nat.lt_or_ge i 9 with h | h
            · omega
            · exact absurd ⟨by omega, by omega⟩ hbad
          refine Ev.step (f := fun k => vint_Get.l0 k (acc + (l[i] % 128) * 128 ^ i) l (l.length : Int) ((i + 1 : Nat) : Int)) (fun k => ?_) ?_
          · simp only [vint_Get.j1]
            rw [if_neg (by decide), hw7, if_pos (by omega), if_pos h128, hor, wrap_succ i (by omega)]
          · refine ih (i + 1) _ (by omega) (by omega) ?_ ?_
            · have := part_lt i hi l[i] hc.1 (fun h => by omega)
              omega
            · have hp := pow_pos128 i
              rw [Int.pow_succ]
              have : (l[i] % 128) * 128 ^ i ≤ 127 * 128 ^ i := Int.mul_le_mul_of_nonneg_right (by omega) (by omega)
              omega
        · rw [if_neg h128]
          by_cases hz : l[i] = 0 ∧ 0 < i
          · rw [if_pos hz]
            refine Ev.step (f := fun _ => some (0, 0, 2)) (fun k => ?_) (Ev.now _)
            simp only [vint_Get.j1]
            rw [if_neg (by decide), hw7, if_pos (by omega), if_neg h128, if_pos hz.1, if_pos (by omega)]
          · rw [if_neg hz]
            refine Ev.step (f := fun _ => some (acc + (l[i] % 128) * 128 ^ i, (i : Int) + 1, 0)) (fun k => ?_) (Ev.now _)
            simp only [vint_Get.j1]
            rw [if_neg (by decide), hw7, if_pos (by omega), if_neg h128, hor, wrap_succ i (by omega)]
            by_cases h0' : l[i] = 0
            · rw [if_pos h0', if_neg (by omega)]; rfl
            · rw [if_neg h0']; rfl
theorem get_ev (l : List Int) (hb : isB l) (hl : l.length ≤ 140737488355328) : Ev (fun k => vint_Get.f k l) (gget 0 0 l) := by
  have := get_loop l hb hl l.length 0 0 (by omega) (by omega) (by omega) (by decide)
  simpa [vint_Get.f] using this
end Go.Proofs.Ytojepleodijdeaa.VP
namespace Go.Proofs.Ytojepleodijdeaa.VP
set_option linter.unusedVariables false
set_option linter.unusedSimpArgs false
open Go.RowKit Go.Proofs.Ytojepleodijdeaa.B Go.Proofs.YtojepleodijdeaaW.PrintWords Go.Proofs.YtojepleodijdeaaW.PrintLast Go.Proofs.YtojepleodijdeaaW.PrintMore
/-- behind its bytes, whatever is behind, the number -/
theorem gget_put (k : Nat) : ∀ (n i : Nat) (acc : Int) (more : List Int), i + k ≤ 9 → n < 128 ^ (k + 1) → (i + k = 9 → n < 2 * 128 ^ k) → (0 < i → 0 < n) →
    gget i acc (vputF k n ++ more) = (acc + (n : Int) * 128 ^ i, ((i + (vputF k n).length : Nat) : Int), 0) := by
  induction k with
  | zero =>
    intro n i acc more hi hn h9 hz
    simp only [vputF, List.singleton_append, gget, List.length_singleton]
    rw [if_neg, if_neg (by omega), if_neg (by omega)]
    · rw [show (n : Int) % 128 = n by omega]; rfl
    · rintro ⟨h1, h2⟩
      have := h9 (by omega)
      omega
  | succ k ih =>
    intro n i acc more hi hn h9 hz
    unfold vputF
    by_cases h : n < 128
    · rw [if_pos h]
      simp only [List.singleton_append, gget, List.length_singleton]
      rw [if_neg (by rintro ⟨h1, h2⟩; omega), if_neg (by omega), if_neg (by omega)]
      rw [show (n : Int) % 128 = n by omega]; rfl
    · rw [if_neg h]
      simp only [List.cons_append, gget, List.length_cons]
      rw [if_neg (by rintro ⟨h1, h2⟩; omega), if_pos (by omega)]
      have e1 : n / 128 < 128 ^ (k + 1) := by
        rw [Nat.div_lt_iff_lt_mul (by decide)]
        rw [Nat.pow_succ] at hn; exact hn
      have e2 : i + 1 + k = 9 → n / 128 < 2 * 128 ^ k := by
        intro hh
        have := h9 (by omega)
        rw [Nat.div_lt_iff_lt_mul (by decide)]
        rw [Nat.pow_succ] at this; omega
      rw [ih (n / 128) (i + 1) _ more (by omega) e1 e2 (by omega)]
      refine Prod.ext ?_ (Prod.ext ?_ rfl)
      · simp only
        have e3 : (((n % 128 + 128 : Nat) : Int)) % 128 = ((n % 128 : Nat) : Int) := by omega
        rw [e3, Int.pow_succ, Int.add_assoc, ← Int.mul_assoc, Int.mul_right_comm, ← Int.add_mul]
        congr 2
        omega
      · simp only; omega
/-- bytes that are a number's are just those that it has -/
theorem gget_back (l : List Int) : ∀ (i : Nat) (acc m u : Int), isB l → i ≤ 9 → gget i acc l = (m, u, 0) →
    ∃ n : Nat, m = acc + (n : Int) * 128 ^ i ∧ u = ((i + (vputF (9 - i) n).length : Nat) : Int) ∧ l.take (vputF (9 - i) n).length = vputF (9 - i) n ∧ (vputF (9 - i) n).length ≤ l.length ∧ (0 < i → 0 < n) ∧ n < 128 ^ (9 - i) * 2 := by
  induction l with
  | nil => intro i acc m u _ _ h; simp [gget] at h
  | cons c l ih =>
    intro i acc m u hb hi h
    have hc := hb c (List.mem_cons_self ..)
    have hb' : isB l := fun x hx => hb x (List.mem_cons_of_mem _ hx)
    have hp : 0 < 128 ^ (9 - i) := Nat.pow_pos (by decide)
    rw [gget] at h
    by_cases h1 : i = 9 ∧ c > 1
    · rw [if_pos h1] at h; simp at h
    rw [if_neg h1] at h
    by_cases h2 : c ≥ 128
    · rw [if_pos h2] at h
      have hi8 : i ≤ 8 := by
        rcases Nat.lt_or_ge i 9 with h | h
        · omega
        · exact absurd ⟨by omega, by omega⟩ h1
      obtain ⟨n, e1, e2, e3, e4, e5, e6⟩ := ih (i + 1) _ _ _ hb' (by omega) h
      have hn := e5 (by omega)
      refine ⟨128 * n + (c % 128).toNat, ?_, ?_, ?_, ?_, by omega, ?_⟩
      all_goals
        have e9 : 9 - i = (9 - (i + 1)) + 1 := by omega
        have hv : vputF (9 - i) (128 * n + (c % 128).toNat) = c :: vputF (9 - (i + 1)) n := by
          rw [e9, vputF, if_neg (by omega)]
          have q1 : (128 * n + (c % 128).toNat) / 128 = n := by omega
          have q2 : (((128 * n + (c % 128).toNat) % 128 + 128 : Nat) : Int) = c := by omega
          rw [q1, q2]
      · rw [e1, Int.pow_succ]
        have : ((128 * n + (c % 128).toNat : Nat) : Int) = 128 * (n : Int) + c % 128 := by omega
        rw [this, Int.add_mul, Int.mul_comm (128 ^ i) 128, ← Int.mul_assoc, Int.mul_comm (n : Int) 128]
        omega
      · rw [e2, hv, List.length_cons]; omega
      · rw [hv, List.length_cons, List.take_succ_cons, e3]
      · rw [hv, List.length_cons, List.length_cons]; omega
      · rw [e9, Nat.pow_succ]; omega
    · rw [if_neg h2] at h
      by_cases h3 : c = 0 ∧ 0 < i
      · rw [if_pos h3] at h; simp at h
      rw [if_neg h3] at h
      simp only [Prod.mk.injEq, and_true] at h
      have hv : vputF (9 - i) c.toNat = [c] := by
        have q : ((c.toNat : Nat) : Int) = c := by omega
        cases h9 : 9 - i with
        | zero => simp [vputF, q]
        | succ j => rw [vputF, if_pos (by omega), q]
      refine ⟨c.toNat, ?_, ?_, ?_, ?_, by omega, ?_⟩
      · rw [← h.1]
        have q : c % 128 = ((c.toNat : Nat) : Int) := by omega
        rw [q]
      · rw [hv, ← h.2]; simp
      · rw [hv]; rfl
      · rw [hv]; simp
      · rcases Nat.lt_or_ge i 9 with h9 | h9
        · have : 128 ^ 1 ≤ 128 ^ (9 - i) := Nat.pow_le_pow_right (by decide) (by omega)
          omega
        · have : i = 9 := by omega
          subst this
          simp
          omega
theorem vputF_isB (k : Nat) : ∀ n, n < 128 ^ (k + 1) → isB (vputF k n) := by
  induction k with
  | zero => intro n hn x hx; simp [vputF] at hx; subst hx; omega
  | succ k ih =>
    intro n hn x hx
    unfold vputF at hx
    split at hx
    · simp at hx; subst hx; omega
    · rcases List.mem_cons.1 hx with rfl | hx
      · omega
      · exact ih _ (by rw [Nat.div_lt_iff_lt_mul (by decide)]; rw [Nat.pow_succ] at hn; exact hn) x hx
/-- the bytes of a number -/
def vput (n : Nat) : List Int := vputF 9 n
theorem vput_f {a : Int} (h0 : 0 ≤ a) (h1 : a < 18446744073709551616) : vint_Put.f a = some (vput a.toNat) := by
  unfold vint_Put.f vput; rw [if_pos ⟨h0, h1⟩]
theorem wf_u64 {a : Int} (h : (Lit.int .u64 a).wf = true) : 0 ≤ a ∧ a < 18446744073709551616 := by
  simp [Lit.wf, IntKind.min, IntKind.max, IntKind.signed, IntKind.bits] at h
  omega
theorem vput_isB {n : Nat} (h : n < 18446744073709551616) : isB (vput n) := vputF_isB 9 n (Nat.lt_trans h (by decide))
theorem get_put {n : Nat} (h : n < 18446744073709551616) (more : List Int) : gget 0 0 (vput n ++ more) = ((n : Int), ((vput n).length : Int), 0) := by
  have := gget_put 9 n 0 0 more (by omega) (Nat.lt_trans h (by decide)) (fun _ => h) (by omega)
  simpa [vput] using this
theorem dec_cons {x y : Int} {l m : List Int} (h : x = y) : decide (x :: l = y :: m) = decide (l = m) := by subst h; simp
theorem dec_cons_ne {x y : Int} {l m : List Int} (h : x ≠ y) : decide (x :: l = y :: m) = false := by simp [h]
end Go.Proofs.Ytojepleodijdeaa.VP
namespace Go.Proofs.Ytojepleodijdeaa.VP
set_option linter.unusedVariables false
set_option linter.unusedSimpArgs false
open Go.RowKit Go.Proofs.Ytojepleodijdeaa.B Go.Proofs.YtojepleodijdeaaW.PrintWords Go.Proofs.YtojepleodijdeaaW.PrintLast Go.Proofs.YtojepleodijdeaaW.PrintMore
open Go.Proofs.Ytojepleodijdeaa.Crc (steps)
/-- the sum of more bytes -/
def moreL (a : Int) (l : List Int) : Int := w32 (~~~ crcL (~~~ BitVec.ofNat 32 a.toNat) l)
theorem more_f {a : Int} {l : List Int} (h : 0 ≤ a ∧ a < 4294967296) (hb : isB l) : sum_More.f a l = some (moreL a l) := by
  unfold sum_More.f; rw [if_pos ⟨h, hb⟩]; rfl
theorem of_f {l : List Int} (hb : isB l) : sum_Of.f l = some (ofL l) := by
  unfold sum_Of.f; rw [more_f (by decide) hb]; rfl
theorem put_f {l : List Int} (hb : isB l) (hl : l.length ≤ 1000000000) : sum_Put.f l = some (putL l) := by
  unfold sum_Put.f; rw [if_pos ⟨hb, by omega⟩]
theorem fourL_len (a : Int) : (fourL a).length = 4 := rfl
theorem putL_len (l : List Int) : (putL l).length = l.length + 4 := by simp [putL, fourL_len]
theorem fourL_isB {a : Int} : isB (fourL a) := by
  intro x hx
  simp only [fourL, List.mem_cons, List.not_mem_nil, or_false] at hx
  omega
theorem putL_isB {l : List Int} (hb : isB l) : isB (putL l) := isB_append hb fourL_isB
/-- without the sum -/
def cutL (l : List Int) : List Int × Bool :=
  if l.length < 4 then ([], false)
  else if l.drop (l.length - 4) = fourL (ofL (l.take (l.length - 4))) then (l.take (l.length - 4), true) else ([], false)
theorem eq_loop (a b : List Int) (hl : a.length = b.length) (h : a.length ≤ 140737488355328) : ∀ (d i : Nat), a.length - i = d → Ev (fun k => slices_Equal_byte_byte.l0 k a b (a.length : Int) (i : Int)) (decide (a.drop i = b.drop i)) := by
  intro d
  induction d with
  | zero =>
    intro i hd
    refine Ev.step (f := fun _ => some true) (fun k => ?_) ?_
    · simp only [slices_Equal_byte_byte.l0]; rw [if_neg (by omega)]
    · rw [List.drop_of_length_le (by omega), List.drop_of_length_le (by omega)]; exact Ev.now _
  | succ d ih =>
    intro i hd
    have h1 : i < a.length := by omega
    have h2 : i < b.length := by omega
    rw [List.drop_eq_getElem_cons h1, List.drop_eq_getElem_cons h2]
    by_cases he : a[i] = b[i]
    · refine Ev.step (f := fun k => slices_Equal_byte_byte.l0 k a b (a.length : Int) ((i + 1 : Nat) : Int)) (fun k => ?_) ?_
      · simp only [slices_Equal_byte_byte.l0]
        rw [if_pos (by omega), if_pos (by omega), if_pos (by omega), if_pos (by omega), rd_at h1, rd_at h2, if_pos he, wrap_succ i (by omega)]
      · rw [dec_cons he]; exact ih (i + 1) (by omega)
    · refine Ev.step (f := fun _ => some false) (fun k => ?_) ?_
      · simp only [slices_Equal_byte_byte.l0]
        rw [if_pos (by omega), if_pos (by omega), if_pos (by omega), if_pos (by omega), rd_at h1, rd_at h2, if_neg he]
      · rw [dec_cons_ne he]; exact Ev.now _
theorem eq_ev (a b : List Int) (h : a.length ≤ 140737488355328) : Ev (fun k => slices_Equal_byte_byte.f k a b) (decide (a = b)) := by
  by_cases hl : a.length = b.length
  · refine Ev.congr (f := fun k => slices_Equal_byte_byte.l0 k a b (a.length : Int) ((0 : Nat) : Int)) (fun k => ?_) ?_
    · simp only [slices_Equal_byte_byte.f]; rw [if_pos (by omega)]; rfl
    · have := eq_loop a b hl h a.length 0 (by omega)
      simpa using this
  · refine Ev.congr (f := fun _ => some false) (fun k => ?_) ?_
    · simp only [slices_Equal_byte_byte.f]; rw [if_neg (by omega)]
    · have : decide (a = b) = false := by simp; intro e; exact hl (by rw [e])
      rw [this]; exact Ev.now _
theorem cut_ev {l : List Int} (hb : isB l) (hl : l.length ≤ 1000000000) : Ev (fun k => sum_Cut.f k l) (cutL l) := by
  unfold cutL
  by_cases h4 : l.length < 4
  · rw [if_pos h4]
    refine Ev.congr (f := fun _ => some (([] : List Int), false)) (fun k => ?_) (Ev.now _)
    simp only [sum_Cut.f]
    rw [if_pos (by unfold wrap64; omega)]
  · rw [if_neg h4]
    have hw : wrap64 ((l.length : Int) - 4) = ((l.length - 4 : Nat) : Int) := by unfold wrap64; omega
    have hbt := isB_take hb (l.length - 4)
    obtain ⟨K, hK⟩ := eq_ev (l.drop (l.length - 4)) (fourL (ofL (l.take (l.length - 4)))) (by rw [List.length_drop]; omega)
    dsimp only at hK
    refine ⟨K, fun k hk => ?_⟩
    simp only [sum_Cut.f, hw]
    rw [if_neg (by omega), if_pos (by omega), if_pos (by omega)]
    simp only [Int.toNat_natCast, of_f hbt, Option.bind_some]
    have hf : sum_four.f (ofL (l.take (l.length - 4))) = some (fourL (ofL (l.take (l.length - 4)))) := rfl
    rw [hf]
    simp only [Option.bind_some]
    rw [hK k hk]
    simp only [Option.bind_some]
    by_cases he : l.drop (l.length - 4) = fourL (ofL (l.take (l.length - 4)))
    · rw [if_pos he, if_pos (decide_eq_true he)]
      have hc : slices_Clone_byte_byte.f (l.take (l.length - 4)) = some (l.take (l.length - 4)) := by
        unfold slices_Clone_byte_byte.f
        rw [if_pos (by rw [List.length_take]; omega)]
      rw [hc]; rfl
    · rw [if_neg he, if_neg (by simpa using he)]
theorem cutL_put {l : List Int} : cutL (putL l) = (l, true) := by
  unfold cutL
  rw [if_neg (by rw [putL_len]; omega)]
  have e : (putL l).length - 4 = l.length := by rw [putL_len]; omega
  rw [e]
  have e1 : (putL l).take l.length = l := by simp [putL]
  have e2 : (putL l).drop l.length = fourL (ofL l) := by simp [putL]
  rw [e1, e2, if_pos rfl]
end Go.Proofs.Ytojepleodijdeaa.VP
namespace Go.Proofs.Ytojepleodijdeaa.VP
set_option linter.unusedVariables false
set_option linter.unusedSimpArgs false
open Go.RowKit Go.Proofs.Ytojepleodijdeaa.B Go.Proofs.YtojepleodijdeaaW.PrintWords Go.Proofs.YtojepleodijdeaaW.PrintLast Go.Proofs.YtojepleodijdeaaW.PrintMore
open Go.Proofs.Ytojepleodijdeaa.Crc (steps feed word feed_word feed_append feed_xor burst steps_xor steps_eq_zero)
theorem cutL_false {q : List Int} (h : (cutL q).2 = false) : cutL q = ([], false) := by
  unfold cutL at h ⊢
  split
  · rfl
  · rename_i h4
    rw [if_neg h4] at h
    split
    · rename_i he; rw [if_pos he] at h; cases h
    · rfl
end Go.Proofs.Ytojepleodijdeaa.VP
namespace Go.Proofs.Ytojepleodijdeaa.VP
set_option linter.unusedVariables false
set_option linter.unusedSimpArgs false
open Go.RowKit Go.Proofs.Ytojepleodijdeaa.B Go.Proofs.YtojepleodijdeaaW.PrintWords Go.Proofs.YtojepleodijdeaaW.PrintLast Go.Proofs.YtojepleodijdeaaW.PrintMore
/-- the number of two bytes -/
def two (h : List Int) : Int := h.getD 1 0 + 256 * h.getD 2 0
/-- the frame that bytes begin with -/
def fread (l : List Int) : Int × List Int × Int × Int :=
  if l.length < 7 then (0, [], 0, 3)
  else if (cutL (l.take 7)).2 = false then (0, [], 0, 8)
  else if two (cutL (l.take 7)).1 > 400 then (0, [], 0, 2)
  else if (l.length : Int) < 11 + two (cutL (l.take 7)).1 then (0, [], 0, 3)
  else if (cutL ((l.take (11 + two (cutL (l.take 7)).1).toNat).drop 7)).2 = false then (0, [], 0, 8)
  else ((cutL (l.take 7)).1.getD 0 0, (cutL ((l.take (11 + two (cutL (l.take 7)).1).toNat).drop 7)).1, 11 + two (cutL (l.take 7)).1, 0)
theorem cutL_true {l : List Int} (h : (cutL l).2 = true) : cutL l = (l.take (l.length - 4), true) ∧ 4 ≤ l.length := by
  unfold cutL at *
  split at h <;> rename_i h4
  · cases h
  rw [if_neg h4]
  split at h <;> rename_i h5
  · rw [if_pos h5]; exact ⟨rfl, by omega⟩
  · cases h
theorem cutL_isB {l : List Int} (hb : isB l) : isB (cutL l).1 := by
  cases h : (cutL l).2
  · rw [cutL_false h]; intro x hx; cases hx
  · rw [(cutL_true h).1]; exact isB_take hb _
theorem getD_isB {l : List Int} (hb : isB l) (i : Nat) : 0 ≤ l.getD i 0 ∧ l.getD i 0 ≤ 255 := by
  by_cases h : i < l.length
  · have : l.getD i 0 = l[i] := by simp [h]
    rw [this]; exact hb _ (List.getElem_mem h)
  · have : l.getD i 0 = 0 := by simp [List.getD_eq_getElem?_getD, List.getElem?_eq_none (by omega : l.length ≤ i)]
    rw [this]; omega
theorem or_two {a b : Int} (ha : 0 ≤ a ∧ a ≤ 255) (hb : 0 ≤ b ∧ b ≤ 255) : bits .or .i64 a (b * 256) = a + 256 * b := by
  have hc : bits .or .i64 a (b * 256) = bits .or .i64 (b * 256) a := by simp only [bits]; rw [BitVec.or_comm]
  have hw : ∀ n : Int, 0 ≤ n → n < 2 ^ 63 → IntKind.i64.wrap n = n := fun n h0 h1 => by
    rw [IntKind.wrap_i64]; omega
  rw [hc, bits_join .i64 63 (by decide) hw 8 _ a (by omega) (by omega) (by omega) (by omega) (by omega) (by omega)]
  omega
theorem read_ev {l : List Int} (hb : isB l) (hl : l.length ≤ 1000000000) : Ev (fun k => frame_Read.f k l) (fread l) := by
  obtain ⟨K1, h1⟩ := cut_ev (isB_take hb 7) (by rw [List.length_take]; omega)
  dsimp only at h1
  have hn1 := getD_isB (cutL_isB (isB_take hb 7)) 1
  have hn2 := getD_isB (cutL_isB (isB_take hb 7)) 2
  obtain ⟨K2, h2⟩ := cut_ev (isB_drop (isB_take hb (11 + two (cutL (l.take 7)).1).toNat) 7) (by rw [List.length_drop, List.length_take]; omega)
  dsimp only at h2
  refine ⟨K1 + K2, fun k hk => ?_⟩
  unfold fread
  simp only [frame_Read.f]
  by_cases h7 : l.length < 7
  · rw [if_pos (by omega), if_pos h7]
  rw [if_neg (by omega), if_neg h7, if_pos (by omega), h1 k (by omega)]
  simp only [Option.bind_some]
  by_cases hc : (cutL (l.take 7)).2 = false
  · rw [if_pos hc, if_neg (by rw [hc]; decide)]
  have hc' : (cutL (l.take 7)).2 = true := by simpa using hc
  rw [if_neg hc, if_pos hc']
  have h3 : (cutL (l.take 7)).1.length = 3 := by rw [(cutL_true hc').1]; simp; omega
  rw [if_pos (by omega), if_pos (by omega)]
  have hr : ∀ i : Nat, rd (cutL (l.take 7)).1 (i : Int) = (cutL (l.take 7)).1.getD i 0 := fun i => rfl
  have e1 : rd (cutL (l.take 7)).1 1 = (cutL (l.take 7)).1.getD 1 0 := hr 1
  have e2 : rd (cutL (l.take 7)).1 2 = (cutL (l.take 7)).1.getD 2 0 := hr 2
  have w1 : ∀ x : Int, 0 ≤ x ∧ x ≤ 1000000000 → wrap64 x = x := fun x hx => by unfold wrap64; omega
  rw [e1, e2, w1 _ (by omega), w1 ((cutL (l.take 7)).1.getD 2 0) (by omega), w1 _ (by omega), or_two hn1 hn2]
  change (if two (cutL (l.take 7)).1 > 400 then _ else _) = _
  have ht : 0 ≤ two (cutL (l.take 7)).1 := by unfold two; omega
  by_cases h400 : two (cutL (l.take 7)).1 > 400
  · rw [if_pos h400, if_pos h400]
  rw [if_neg h400, if_neg h400]
  have e3 : (cutL (l.take 7)).1.getD 1 0 + 256 * (cutL (l.take 7)).1.getD 2 0 = two (cutL (l.take 7)).1 := rfl
  rw [e3, w1 (7 + _) (by omega), w1 _ (by omega), show 7 + two (cutL (l.take 7)).1 + 4 = 11 + two (cutL (l.take 7)).1 by omega]
  by_cases hs : (l.length : Int) < 11 + two (cutL (l.take 7)).1
  · rw [if_pos hs, if_pos hs]
  rw [if_neg hs, if_neg hs, if_pos (by omega), if_pos (by omega), h2 k (by omega)]
  simp only [Option.bind_some]
  by_cases hd : (cutL ((l.take (11 + two (cutL (l.take 7)).1).toNat).drop 7)).2 = false
  · rw [if_pos hd, if_neg (by rw [hd]; decide)]
  · rw [if_neg hd, if_pos (by simpa using hd), if_pos (by omega)]
    rfl
end Go.Proofs.Ytojepleodijdeaa.VP
namespace Go.Proofs.Ytojepleodijdeaa.VP
set_option linter.unusedVariables false
set_option linter.unusedSimpArgs false
open Go.RowKit Go.Proofs.Ytojepleodijdeaa.B Go.Proofs.YtojepleodijdeaaW.PrintWords Go.Proofs.YtojepleodijdeaaW.PrintLast Go.Proofs.YtojepleodijdeaaW.PrintMore
theorem fread_used {l : List Int} (hb : isB l) (h : (fread l).2.2.2 = 0) : 11 ≤ (fread l).2.2.1 ∧ (fread l).2.2.1 ≤ l.length ∧ (fread l).2.1.length + 11 = (fread l).2.2.1 ∧ (fread l).2.1.length ≤ 400 ∧ isB (fread l).2.1 := by
  have hn1 := getD_isB (cutL_isB (isB_take hb 7)) 1
  have hn2 := getD_isB (cutL_isB (isB_take hb 7)) 2
  have ht : 0 ≤ two (cutL (l.take 7)).1 := by unfold two; omega
  have hbb := cutL_isB (isB_drop (isB_take hb (11 + two (cutL (l.take 7)).1).toNat) 7)
  unfold fread at *
  split at h
  · simp at h
  split at h
  · simp at h
  split at h
  · simp at h
  split at h
  · simp at h
  split at h
  · simp at h
  rename_i h1 h2 h3 h4 h5
  rw [if_neg h1, if_neg h2, if_neg h3, if_neg h4, if_neg h5]
  have hc := (cutL_true (by simpa using h5)).1
  have hl : (cutL ((l.take (11 + two (cutL (l.take 7)).1).toNat).drop 7)).1.length + 11 = 11 + two (cutL (l.take 7)).1 := by
    rw [hc]
    simp only [List.length_take, List.length_drop]
    omega
  dsimp only
  exact ⟨by omega, by omega, hl, by omega, hbb⟩
theorem fread_kind {l : List Int} (hb : isB l) : 0 ≤ (fread l).1 ∧ (fread l).1 ≤ 255 := by
  have h := getD_isB (cutL_isB (isB_take hb 7)) 0
  unfold fread
  split
  · simp
  split
  · simp
  split
  · simp
  split
  · simp
  split
  · simp
  exact h
/-- all frames of bytes -/
def gall : Nat → List Int → List S56 × Nat × Int
  | 0, _ => ([], 0, 0)
  | d + 1, l =>
    if l = [] then ([], 0, 0)
    else if (fread l).2.2.2 = 0 then (⟨(fread l).1, (fread l).2.1⟩ :: (gall d (l.drop (fread l).2.2.1.toNat)).1, (fread l).2.2.1.toNat + (gall d (l.drop (fread l).2.2.1.toNat)).2.1, (gall d (l.drop (fread l).2.2.1.toNat)).2.2)
    else ([], 0, (fread l).2.2.2)
theorem gall_at : ∀ (d : Nat) (l : List Int), l.length ≤ d → isB l → (gall d l).2.1 ≤ l.length ∧ 11 * (gall d l).1.length ≤ (gall d l).2.1 ∧ ((gall d l).2.2 = 0 ↔ (gall d l).2.1 = l.length) := by
  intro d
  induction d with
  | zero => intro l hd hb; simp [gall]; omega
  | succ d ih =>
    intro l hd hb
    rw [gall]
    by_cases he : l = []
    · subst he; simp
    rw [if_neg he]
    have hpos : 0 < l.length := List.length_pos_iff.2 he
    by_cases h0 : (fread l).2.2.2 = 0
    · have hu := fread_used hb h0
      have := ih (l.drop (fread l).2.2.1.toNat) (by rw [List.length_drop]; omega) (isB_drop hb _)
      rw [List.length_drop] at this
      rw [if_pos h0]
      simp only [List.length_cons]
      omega
    · rw [if_neg h0]
      simp only [List.length_nil]
      omega
theorem fall_loop (b : List Int) (hb : isB b) (hl : b.length ≤ 1000000000) : ∀ (d i : Nat) (out : List S56), b.length - i ≤ d → i ≤ b.length → out.length ≤ i →
    Ev (fun k => frame_All.l0 k b out (i : Int)) (out ++ (gall d (b.drop i)).1, ((i + (gall d (b.drop i)).2.1 : Nat) : Int), (gall d (b.drop i)).2.2) := by
  intro d
  induction d with
  | zero =>
    intro i out hd hi ho
    refine Ev.step (f := fun _ => some (out, (i : Int), 0)) (fun k => ?_) ?_
    · simp only [frame_All.l0]; rw [if_neg (by omega)]
    · simp only [gall, List.append_nil, Nat.add_zero]; exact Ev.now _
  | succ d ih =>
    intro i out hd hi ho
    rw [gall]
    by_cases he : b.drop i = []
    · have : b.length - i = 0 := by rw [← List.length_drop, he]; rfl
      rw [if_pos he]
      refine Ev.step (f := fun _ => some (out, (i : Int), 0)) (fun k => ?_) ?_
      · simp only [frame_All.l0]; rw [if_neg (by omega)]
      · simp only [List.append_nil, Nat.add_zero]; exact Ev.now _
    · rw [if_neg he]
      have hpos : 0 < (b.drop i).length := List.length_pos_iff.2 he
      rw [List.length_drop] at hpos
      have hbd := isB_drop hb i
      refine Ev.step (f := fun k => (frame_Read.f k (b.drop i)).bind fun bt => (if bt.2.2.2 = 0 then (if out.length < 4398046511104 then (frame_All.l0 k b (out ++ [(⟨bt.1, bt.2.1⟩ : S56)]) (wrap64 ((i : Int) + bt.2.2.1))) else (none)) else (some (out, (i : Int), bt.2.2.2)))) (fun k => ?_) ?_
      · simp only [frame_All.l0]
        rw [if_pos (by omega), if_pos (by omega), if_pos (by omega)]
        simp only [Int.toNat_natCast]
      · refine Ev.bind (f := fun k bt => (if bt.2.2.2 = 0 then (if out.length < 4398046511104 then (frame_All.l0 k b (out ++ [(⟨bt.1, bt.2.1⟩ : S56)]) (wrap64 ((i : Int) + bt.2.2.1))) else (none)) else (some (out, (i : Int), bt.2.2.2)))) (read_ev hbd (by rw [List.length_drop]; omega)) ?_
        by_cases h0 : (fread (b.drop i)).2.2.2 = 0
        · have hu := fread_used hbd h0
          rw [List.length_drop] at hu
          rw [if_pos h0]
          have hw : wrap64 ((i : Int) + (fread (b.drop i)).2.2.1) = ((i + (fread (b.drop i)).2.2.1.toNat : Nat) : Int) := by unfold wrap64; omega
          have hq := ih (i + (fread (b.drop i)).2.2.1.toNat) (out ++ [⟨(fread (b.drop i)).1, (fread (b.drop i)).2.1⟩]) (by omega) (by omega) (by rw [List.length_append, List.length_singleton]; omega)
          rw [List.drop_drop]
          refine Ev.congr (f := fun k => frame_All.l0 k b (out ++ [⟨(fread (b.drop i)).1, (fread (b.drop i)).2.1⟩]) ((i + (fread (b.drop i)).2.2.1.toNat : Nat) : Int)) (fun k => ?_) ?_
          · rw [if_pos h0, if_pos (by omega), hw]
          · simpa only [List.append_assoc, List.singleton_append, Nat.add_assoc] using hq
        · rw [if_neg h0]
          refine Ev.congr (f := fun _ => some (out, (i : Int), (fread (b.drop i)).2.2.2)) (fun k => ?_) ?_
          · rw [if_neg h0]
          · simp only [List.append_nil, Nat.add_zero]; exact Ev.now _
theorem fall_ev (b : List Int) (hb : isB b) (hl : b.length ≤ 1000000000) : Ev (fun k => frame_All.f k b) ((gall b.length b).1, ((gall b.length b).2.1 : Int), (gall b.length b).2.2) := by
  have := fall_loop b hb hl b.length 0 [] (by omega) (by omega) (by simp)
  simpa [frame_All.f] using this
end Go.Proofs.Ytojepleodijdeaa.VP
namespace Go.Proofs.Ytojepleodijdeaa.VP
set_option linter.unusedVariables false
set_option linter.unusedSimpArgs false
open Go.RowKit Go.Proofs.Ytojepleodijdeaa.B Go.Proofs.YtojepleodijdeaaW.PrintWords Go.Proofs.YtojepleodijdeaaW.PrintLast Go.Proofs.YtojepleodijdeaaW.PrintMore
def isU (l : List Int) : Prop := ∀ x ∈ l, 0 ≤ x ∧ x < 18446744073709551616
theorem isU_of_wf {l : List Int} (h : ∀ x ∈ l, (Lit.int .u64 x).wf = true) : isU l := fun x hx => wf_u64 (h x hx)
/-- the bytes of numbers -/
def vall : List Int → List Int
  | [] => []
  | x :: l => vput x.toNat ++ vall l
theorem vput_len (n : Nat) : 1 ≤ (vput n).length ∧ (vput n).length ≤ 10 := vputF_length 9 n
theorem vall_len (l : List Int) : (vall l).length ≤ 10 * l.length := by
  induction l with
  | nil => simp [vall]
  | cons x l ih => have := (vput_len x.toNat).2; simp only [vall, List.length_append, List.length_cons]; omega
theorem vall_isB {l : List Int} (h : isU l) : isB (vall l) := by
  induction l with
  | nil => intro x hx; cases hx
  | cons x l ih =>
    have hx := h x (List.mem_cons_self ..)
    exact isB_append (vput_isB (by omega)) (ih fun y hy => h y (List.mem_cons_of_mem _ hy))
theorem vput_f' {a : Int} (h : 0 ≤ a ∧ a < 18446744073709551616) : vint_Put.f a = some (vput a.toNat) := vput_f h.1 h.2
theorem drop_cons {l : List Int} {i : Nat} (h : i < l.length) : l.drop i = l[i] :: l.drop (i + 1) := List.drop_eq_getElem_cons h
theorem all_loop (l : List Int) (hu : isU l) (hl : l.length ≤ 1000000000) : ∀ (d i : Nat) (out : List Int), l.length - i = d → out.length ≤ 10 * i →
    Ev (fun k => vint_All.l0 k out l (l.length : Int) (i : Int)) (out ++ vall (l.drop i)) := by
  intro d
  induction d with
  | zero =>
    intro i out hd ho
    refine Ev.step (f := fun _ => some out) (fun k => ?_) ?_
    · simp only [vint_All.l0]; rw [if_neg (by omega)]
    · rw [List.drop_of_length_le (by omega)]; simp only [vall, List.append_nil]; exact Ev.now _
  | succ d ih =>
    intro i out hd ho
    have h1 : i < l.length := by omega
    have hx := hu l[i] (List.getElem_mem h1)
    have hv := vput_len l[i].toNat
    refine Ev.step (f := fun k => vint_All.l0 k (out ++ vput l[i].toNat) l (l.length : Int) ((i + 1 : Nat) : Int)) (fun k => ?_) ?_
    · simp only [vint_All.l0]
      rw [if_pos (by omega), if_pos (by omega), if_pos (by omega), rd_at h1, vput_f' hx]
      simp only [Option.bind_some]
      rw [if_pos (by omega), wrap_succ i (by omega)]
    · rw [drop_cons h1]
      have := ih (i + 1) (out ++ vput l[i].toNat) (by omega) (by rw [List.length_append]; omega)
      rw [List.append_assoc] at this
      exact this
theorem all_ev (l : List Int) (hu : isU l) (hl : l.length ≤ 1000000000) : Ev (fun k => vint_All.f k l) (vall l) := by
  have := all_loop l hu hl l.length 0 [] (by omega) (by simp)
  simpa [vint_All.f] using this
theorem gget_used {l : List Int} (hb : isB l) (h : (gget 0 0 l).2.2 = 0) : 1 ≤ (gget 0 0 l).2.1 ∧ (gget 0 0 l).2.1 ≤ l.length := by
  obtain ⟨n, _, h2, h3, h4, _⟩ := gget_back l 0 0 (gget 0 0 l).1 (gget 0 0 l).2.1 hb (by omega) (Prod.ext rfl (Prod.ext rfl h))
  have := vputF_length (9 - 0) n
  omega
end Go.Proofs.Ytojepleodijdeaa.VP
namespace Go.Proofs.Ytojepleodijdeaa.VP
set_option linter.unusedVariables false
set_option linter.unusedSimpArgs false
open Go.RowKit Go.Proofs.Ytojepleodijdeaa.B Go.Proofs.YtojepleodijdeaaW.PrintWords Go.Proofs.YtojepleodijdeaaW.PrintLast Go.Proofs.YtojepleodijdeaaW.PrintMore
/-- a frame's head -/
def fhead (a : Int) (n : Nat) : List Int := [a, (n : Int) % 256, (n : Int) / 256]
/-- a frame's bytes -/
def fb (a : Int) (body : List Int) : List Int := putL (fhead a body.length) ++ putL body
theorem and255 {a : Int} (h0 : 0 ≤ a) (h1 : a ≤ 1000000000) : bits .and .i64 a 255 = a % 256 := by
  have hw : ∀ n : Int, 0 ≤ n → n < 2 ^ 63 → IntKind.i64.wrap n = n := fun n h0 h1 => by rw [IntKind.wrap_i64]; omega
  exact bits_mask .i64 63 (by decide) hw 8 (by decide) a h0 (by omega)
theorem low_f {a : Int} (h0 : 0 ≤ a) (h1 : a ≤ 1000000000) : frame_low_int.f a = some (a % 256, a / 256) := by
  unfold frame_low_int.f
  rw [and255 h0 h1]
  congr 2
  omega
theorem fhead_isB {a : Int} (ha : 0 ≤ a ∧ a ≤ 255) {n : Nat} (hn : n ≤ 400) : isB (fhead a n) := by
  intro x hx
  simp only [fhead, List.mem_cons, List.not_mem_nil, or_false] at hx
  omega
theorem fb_len (a : Int) (body : List Int) : (fb a body).length = body.length + 11 := by
  unfold fb
  rw [List.length_append, putL_len, putL_len]
  simp [fhead]
  omega
theorem fb_isB {a : Int} (ha : 0 ≤ a ∧ a ≤ 255) {body : List Int} (hb : isB body) (hn : body.length ≤ 400) : isB (fb a body) := isB_append (putL_isB (fhead_isB ha hn)) (putL_isB hb)
theorem fbytes_f {a : Int} (ha : 0 ≤ a ∧ a ≤ 255) {body : List Int} (hb : isB body) (hn : body.length ≤ 400) : frame_Bytes.f a body = some (fb a body, 0) := by
  have hh := fhead_isB ha hn
  unfold frame_Bytes.f
  rw [if_neg (by omega), low_f (by omega) (by omega)]
  simp only [Option.bind_some]
  rw [low_f (by omega) (by omega)]
  simp only [Option.bind_some]
  have e : ([a, (body.length : Int) % 256, (body.length : Int) / 256 % 256] : List Int) = fhead a body.length := by
    unfold fhead
    rw [show (body.length : Int) / 256 % 256 = (body.length : Int) / 256 by omega]
  rw [e, put_f hh (by simp [fhead]), Option.bind_some, put_f hb (by omega), Option.bind_some, if_pos (by rw [putL_len, putL_len]; simp [fhead]; omega)]
  rfl
theorem head_len (a : Int) (n : Nat) : (putL (fhead a n)).length = 7 := by rw [putL_len]; rfl
theorem take7 (a : Int) (n : Nat) (m : List Int) : (putL (fhead a n) ++ m).take 7 = putL (fhead a n) := by
  rw [← head_len a n, List.take_left]
theorem two_head (a : Int) (n : Nat) : two (fhead a n) = n := by
  unfold two fhead
  simp
  omega
theorem fread_fb {a : Int} {body : List Int} (hn : body.length ≤ 400) (more : List Int) : fread (fb a body ++ more) = (a, body, (body.length : Int) + 11, 0) := by
  have e7 : (fb a body ++ more).take 7 = putL (fhead a body.length) := by unfold fb; rw [List.append_assoc, take7]
  have el : (fb a body ++ more).length = body.length + 11 + more.length := by rw [List.length_append, fb_len]
  unfold fread
  rw [e7, cutL_put]
  dsimp only
  rw [two_head]
  have ed : ((fb a body ++ more).take (11 + (body.length : Int)).toNat).drop 7 = putL body := by
    rw [show (11 + (body.length : Int)).toNat = (fb a body).length by rw [fb_len]; omega, List.take_left]
    unfold fb
    rw [← head_len a body.length, List.drop_left]
  rw [ed, cutL_put, if_neg (by omega), if_neg (by simp), if_neg (by omega), if_neg (by omega), if_neg (by simp)]
  refine Prod.ext rfl (Prod.ext rfl (Prod.ext ?_ rfl))
  dsimp only
  omega
theorem fread_cut {a : Int} {body : List Int} (hn : body.length ≤ 400) (cut : Nat) (hc : cut < body.length + 11) : fread ((fb a body).take cut) = (0, [], 0, 3) := by
  have el : ((fb a body).take cut).length = cut := by rw [List.length_take, fb_len]; omega
  unfold fread
  by_cases h7 : cut < 7
  · rw [if_pos (by omega)]
  have e7 : ((fb a body).take cut).take 7 = putL (fhead a body.length) := by
    rw [List.take_take, Nat.min_eq_left (by omega)]
    unfold fb; rw [take7]
  rw [if_neg (by omega), e7, cutL_put]
  dsimp only
  rw [two_head, if_neg (by simp), if_neg (by omega), if_pos (by omega)]
end Go.Proofs.Ytojepleodijdeaa.VP
namespace Go.Proofs.Ytojepleodijdeaa.VP
set_option linter.unusedVariables false
set_option linter.unusedSimpArgs false
open Go.RowKit Go.Proofs.Ytojepleodijdeaa.B Go.Proofs.YtojepleodijdeaaW.PrintWords Go.Proofs.YtojepleodijdeaaW.PrintLast Go.Proofs.YtojepleodijdeaaW.PrintMore
/-- n numbers of bytes: they, and what is left -/
def gnums : Nat → List Int → List Int → List Int × List Int × Int
  | 0, acc, l => (acc, l, 0)
  | n + 1, acc, l => if (gget 0 0 l).2.2 = 0 then gnums n (acc ++ [(gget 0 0 l).1]) (l.drop (gget 0 0 l).2.1.toNat) else ([], [], (gget 0 0 l).2.2)
def isKind (k : Int) : Prop := 1 ≤ k ∧ k ≤ 17
instance (k : Int) : Decidable (isKind k) := by unfold isKind; infer_instance
def fit (k : Int) (n : Nat) : Bool := decide (n = 0 ∨ ((k = 10 ∨ k = 11 ∨ k = 16) ∧ n ≤ 64))
/-- a frame's record -/
def rread (k : Int) (l : List Int) : Int × List Int × ByteArray × Int :=
  if isKind k then (if (gnums (numE k.toNat).toNat [] l).2.2 = 0 then (if fit k (gnums (numE k.toNat).toNat [] l).2.1.length = true then (k, (gnums (numE k.toNat).toNat [] l).1, strOfNums (gnums (numE k.toNat).toNat [] l).2.1, 0) else (0, [], ⟨#[]⟩, 2)) else (0, [], ⟨#[]⟩, (gnums (numE k.toNat).toNat [] l).2.2)) else (0, [], ⟨#[]⟩, 2)
theorem known_f (k : Int) : record_known.f k = some (decide (isKind k)) := by
  unfold record_known.f
  by_cases h : k ≥ 1
  · rw [if_pos h]; congr 1; apply decide_eq_decide.mpr; unfold isKind; omega
  · rw [if_neg h]; congr 1; symm; apply decide_eq_false; unfold isKind; omega
theorem fits_f (k : Int) (n : Nat) : record_fits.f k (n : Int) = some (fit k n) := by
  unfold record_fits.f record_worded.f fit
  by_cases h0 : (n : Int) = 0
  · rw [if_pos h0]; congr 1; symm; apply decide_eq_true; left; omega
  rw [if_neg h0]
  by_cases h1 : k = 10
  · rw [if_pos h1, Option.bind_some, if_pos rfl]; congr 1; apply decide_eq_decide.mpr; omega
  rw [if_neg h1]
  by_cases h2 : k = 11
  · rw [if_pos h2, Option.bind_some, if_pos rfl]; congr 1; apply decide_eq_decide.mpr; omega
  rw [if_neg h2, Option.bind_some]
  by_cases h3 : k = 16
  · rw [if_pos (by simp [h3])]; congr 1; apply decide_eq_decide.mpr; omega
  · rw [if_neg (by simp [h3])]; congr 1; symm; apply decide_eq_false; omega
theorem numE_at (k : Int) (h : isKind k) : 0 ≤ numE k.toNat ∧ numE k.toNat ≤ 10 ∧ rd ([(-1), 0, 5, 2, 1, 2, 2, 1, 1, 1, 1, 1, 5, 7, 10, 2, 1, 1] : List Int) k = numE k.toNat := by
  obtain ⟨h1, h2⟩ := h
  obtain ⟨j, rfl⟩ := Int.eq_ofNat_of_zero_le (show 0 ≤ k by omega)
  have hj : j = 1 ∨ j = 2 ∨ j = 3 ∨ j = 4 ∨ j = 5 ∨ j = 6 ∨ j = 7 ∨ j = 8 ∨ j = 9 ∨ j = 10 ∨ j = 11 ∨ j = 12 ∨ j = 13 ∨ j = 14 ∨ j = 15 ∨ j = 16 ∨ j = 17 := by omega
  rcases hj with rfl | rfl | rfl | rfl | rfl | rfl | rfl | rfl | rfl | rfl | rfl | rfl | rfl | rfl | rfl | rfl | rfl <;> exact ⟨by decide, by decide, rfl⟩
theorem recread_loop (ki : Int) (N : Nat) (hN : N ≤ 10) : ∀ (d i : Nat) (l acc : List Int), i + d = N → isB l → l.length ≤ 1000000000 → acc.length ≤ 10 →  acc.length ≤ i →
    Ev (fun k => record_Read.l0 k l (N : Int) (i : Int) ki acc (⟨#[]⟩ : ByteArray)) (if (gnums d acc l).2.2 = 0 then (if fit ki (gnums d acc l).2.1.length = true then (ki, (gnums d acc l).1, strOfNums (gnums d acc l).2.1, 0) else (0, [], ⟨#[]⟩, 2)) else (0, [], ⟨#[]⟩, (gnums d acc l).2.2)) := by
  intro d
  induction d with
  | zero =>
    intro i l acc hi hb hl ha hai
    refine Ev.step (f := fun _ => (record_fits.f ki (l.length : Int)).bind fun t722 => (if t722 = true then (some (ki, acc, strOfNums l, 0)) else (some (0, ([] : List Int), (⟨#[]⟩ : ByteArray), 2)))) (fun k => ?_) ?_
    · simp only [record_Read.l0]; rw [if_neg (by omega)]
    · show Ev _ (if (0 : Int) = 0 then (if fit ki l.length = true then (ki, acc, strOfNums l, 0) else (0, [], ⟨#[]⟩, 2)) else (0, [], ⟨#[]⟩, 0))
      rw [if_pos rfl, fits_f, Option.bind_some]
      by_cases hf : fit ki l.length = true
      · rw [if_pos hf, if_pos hf]; exact Ev.now _
      · rw [if_neg hf, if_neg hf]; exact Ev.now _
  | succ d ih =>
    intro i l acc hi hb hl ha hai
    refine Ev.step (f := fun k => (vint_Get.f k l).bind fun bt => (if bt.2.2 = 0 then (if acc.length < 17592186044416 then (if 0 ≤ bt.2.1 then (if bt.2.1 ≤ (l.length : Int) then (record_Read.l0 k (l.drop (bt.2.1 : Int).toNat) (N : Int) (wrap64 ((i : Int) + 1)) ki (acc ++ [bt.1]) (⟨#[]⟩ : ByteArray)) else (none)) else (none)) else (none)) else (some (0, ([] : List Int), (⟨#[]⟩ : ByteArray), bt.2.2)))) (fun k => ?_) ?_
    · simp only [record_Read.l0]; rw [if_pos (by omega)]
    · refine Ev.bind (f := fun k bt => (if bt.2.2 = 0 then (if acc.length < 17592186044416 then (if 0 ≤ bt.2.1 then (if bt.2.1 ≤ (l.length : Int) then (record_Read.l0 k (l.drop (bt.2.1 : Int).toNat) (N : Int) (wrap64 ((i : Int) + 1)) ki (acc ++ [bt.1]) (⟨#[]⟩ : ByteArray)) else (none)) else (none)) else (none)) else (some (0, ([] : List Int), (⟨#[]⟩ : ByteArray), bt.2.2)))) (get_ev l hb (by omega)) ?_
      rw [gnums]
      by_cases h0 : (gget 0 0 l).2.2 = 0
      · have hu := gget_used hb h0
        rw [if_pos h0]
        refine Ev.congr (f := fun k => record_Read.l0 k (l.drop (gget 0 0 l).2.1.toNat) (N : Int) ((i + 1 : Nat) : Int) ki (acc ++ [(gget 0 0 l).1]) (⟨#[]⟩ : ByteArray)) (fun k => ?_) ?_
        · rw [if_pos h0, if_pos (by omega), if_pos (by omega), if_pos hu.2, wrap_succ i (by omega)]
        · exact ih (i + 1) _ _ (by omega) (isB_drop hb _) (by rw [List.length_drop]; omega) (by rw [List.length_append, List.length_singleton]; omega) (by rw [List.length_append, List.length_singleton]; omega)
      · rw [if_neg h0]
        refine Ev.congr (f := fun _ => some (0, [], (⟨#[]⟩ : ByteArray), (gget 0 0 l).2.2)) (fun k => ?_) ?_
        · rw [if_neg h0]
        · rw [if_neg h0]; exact Ev.now _
theorem recread_ev {ki : Int} (hk : 0 ≤ ki ∧ ki ≤ 255) {l : List Int} (hb : isB l) (hl : l.length ≤ 1000000000) : Ev (fun k => record_Read.f k ki l) (rread ki l) := by
  have hw : wrap64 ki = ki := by unfold wrap64; omega
  unfold rread
  refine Ev.congr (f := fun k => if decide (isKind ki) = true then (record_Read.l0 k l (numE ki.toNat) 0 ki ([] : List Int) (⟨#[]⟩ : ByteArray)) else some (0, ([] : List Int), (⟨#[]⟩ : ByteArray), 2)) (fun k => ?_) ?_
  · unfold record_Read.f
    rw [hw, known_f, Option.bind_some, show record_numbers.f = some () from rfl, Option.bind_some]
    by_cases h : isKind ki
    · have h' := h
      unfold isKind at h'
      rw [if_pos (by simp [h]), if_pos (by omega), if_pos (by omega), if_pos (by simp [h])]
    · rw [if_neg (by simp [h]), if_neg (by simp [h])]
  · by_cases h : isKind ki
    · have hn := numE_at ki h
      rw [if_pos h]
      have hc : ((numE ki.toNat).toNat : Int) = numE ki.toNat := by omega
      have := recread_loop ki (numE ki.toNat).toNat (by omega) (numE ki.toNat).toNat 0 l [] (by omega) hb hl (by simp) (by simp)
      refine Ev.congr (fun k => ?_) this
      rw [if_pos (by simp [h]), hc]; rfl
    · rw [if_neg h]
      refine Ev.congr (f := fun _ => some (0, [], (⟨#[]⟩ : ByteArray), 2)) (fun k => ?_) (Ev.now _)
      rw [if_neg (by simp [h])]
end Go.Proofs.Ytojepleodijdeaa.VP
namespace Go.Proofs.Ytojepleodijdeaa.VP
set_option linter.unusedVariables false
set_option linter.unusedSimpArgs false
open Go.RowKit Go.Proofs.Ytojepleodijdeaa.B Go.Proofs.YtojepleodijdeaaW.PrintWords Go.Proofs.YtojepleodijdeaaW.PrintLast Go.Proofs.YtojepleodijdeaaW.PrintMore
def isFr (x : S56) : Prop := isB x.f1 ∧ (0 ≤ x.f0 ∧ x.f0 ≤ 255) ∧ x.f1.length ≤ 400
theorem gall_fr : ∀ (d : Nat) (l : List Int), isB l → ∀ x ∈ (gall d l).1, isFr x := by
  intro d
  induction d with
  | zero => intro l _ x hx; simp [gall] at hx
  | succ d ih =>
    intro l hb x hx
    rw [gall] at hx
    by_cases hn : l = []
    · rw [if_pos hn] at hx; simp at hx
    rw [if_neg hn] at hx
    by_cases h0 : (fread l).2.2.2 = 0
    · rw [if_pos h0] at hx
      rcases List.mem_cons.1 hx with rfl | hx
      · have := fread_used hb h0
        exact ⟨this.2.2.2.2, fread_kind hb, this.2.2.2.1⟩
      · exact ih _ (isB_drop hb _) x hx
    · rw [if_neg h0] at hx; simp at hx
theorem gall_few : ∀ (d : Nat) (l : List Int), l.length ≤ d → isB l → (gall d l).1.length ≤ l.length := by
  intro d l hd hb
  have := gall_at d l hd hb
  omega
/-- the records of frames, where they end, and why there are no more -/
def recs : List S56 → Int → List S80 → List Int → Int → List S80 × List Int × Int
  | [], _, out, ends, e => (out, ends, e)
  | x :: xs, at_, out, ends, e =>
    if (rread x.f0 x.f1).2.2.2 = 0 then recs xs (at_ + (x.f1.length : Int) + 11) (out ++ [⟨(rread x.f0 x.f1).1, (rread x.f0 x.f1).2.1, (rread x.f0 x.f1).2.2.1⟩]) (ends ++ [at_ + (x.f1.length : Int) + 11]) e
    else (out, ends, (rread x.f0 x.f1).2.2.2)
theorem rd56_at {l : List S56} {i : Nat} (h : i < l.length) : rd_T56 l (i : Int) = l[i] := by
  unfold rd_T56
  rw [Int.toNat_natCast, List.getD_eq_getElem?_getD, List.getElem?_eq_getElem h]; rfl
theorem rd80_at {l : List S80} {i : Nat} (h : i < l.length) : rd_T80 l (i : Int) = l[i] := by
  unfold rd_T80
  rw [Int.toNat_natCast, List.getD_eq_getElem?_getD, List.getElem?_eq_getElem h]; rfl
theorem recall_loop (fs : List S56) (hf : ∀ x ∈ fs, isFr x) (hl : fs.length ≤ 1000000) (e : Int) : ∀ (d i : Nat) (at_ : Int) (out : List S80) (ends : List Int), fs.length - i = d → i ≤ fs.length → 0 ≤ at_ ∧ at_ ≤ 411 * i → out.length ≤ i → ends.length ≤ i →
    Ev (fun k => record_All.l0 k e out ends at_ fs (fs.length : Int) (i : Int)) (recs (fs.drop i) at_ out ends e) := by
  intro d
  induction d with
  | zero =>
    intro i at_ out ends hd hi ha ho he
    refine Ev.step (f := fun _ => some (out, ends, e)) (fun k => ?_) ?_
    · simp only [record_All.l0]; rw [if_neg (by omega)]
    · rw [List.drop_eq_nil_of_le (by omega)]; exact Ev.now _
  | succ d ih =>
    intro i at_ out ends hd hi ha ho he
    have hlt : i < fs.length := by omega
    obtain ⟨hb, hk, h4⟩ := hf _ (List.getElem_mem hlt)
    rw [List.drop_eq_getElem_cons hlt, recs]
    refine Ev.step (f := fun k => (record_Read.f k (fs[i]).f0 (fs[i]).f1).bind fun bt => (if bt.2.2.2 = 0 then ((frame_Bytes.f (fs[i]).f0 (fs[i]).f1).bind fun bt742 => (if out.length < 2932031007402 then (if ends.length < 17592186044416 then (record_All.l0 k e (out ++ [(⟨bt.1, bt.2.1, bt.2.2.1⟩ : S80)]) (ends ++ [wrap64 (at_ + (bt742.1.length : Int))]) (wrap64 (at_ + (bt742.1.length : Int))) fs (fs.length : Int) (wrap64 ((i : Int) + 1))) else (none)) else (none))) else (some (out, ends, bt.2.2.2)))) (fun k => ?_) ?_
    · simp only [record_All.l0]; rw [if_pos (by omega), if_pos (by omega), if_pos (by omega), rd56_at hlt]
    · refine Ev.bind (f := fun k bt => (if bt.2.2.2 = 0 then ((frame_Bytes.f (fs[i]).f0 (fs[i]).f1).bind fun bt742 => (if out.length < 2932031007402 then (if ends.length < 17592186044416 then (record_All.l0 k e (out ++ [(⟨bt.1, bt.2.1, bt.2.2.1⟩ : S80)]) (ends ++ [wrap64 (at_ + (bt742.1.length : Int))]) (wrap64 (at_ + (bt742.1.length : Int))) fs (fs.length : Int) (wrap64 ((i : Int) + 1))) else (none)) else (none))) else (some (out, ends, bt.2.2.2)))) (recread_ev hk hb (by omega)) ?_
      by_cases h0 : (rread (fs[i]).f0 (fs[i]).f1).2.2.2 = 0
      · rw [if_pos h0]
        have hw : wrap64 (at_ + ((fb (fs[i]).f0 (fs[i]).f1).length : Int)) = at_ + ((fs[i]).f1.length : Int) + 11 := by rw [fb_len]; unfold wrap64; omega
        refine Ev.congr (fun k => ?_) (ih (i + 1) (at_ + ((fs[i]).f1.length : Int) + 11) (out ++ [⟨(rread (fs[i]).f0 (fs[i]).f1).1, (rread (fs[i]).f0 (fs[i]).f1).2.1, (rread (fs[i]).f0 (fs[i]).f1).2.2.1⟩]) (ends ++ [at_ + ((fs[i]).f1.length : Int) + 11]) (by omega) (by omega) (by omega) (by rw [List.length_append, List.length_singleton]; omega) (by rw [List.length_append, List.length_singleton]; omega))
        rw [if_pos h0, fbytes_f hk hb h4, Option.bind_some, if_pos (by omega), if_pos (by omega), hw, wrap_succ i (by omega)]
      · rw [if_neg h0]
        refine Ev.congr (f := fun _ => some (out, ends, (rread (fs[i]).f0 (fs[i]).f1).2.2.2)) (fun k => ?_) (Ev.now _)
        rw [if_neg h0]
theorem recall_ev (b : List Int) (hb : isB b) (hl : b.length ≤ 1000000) : Ev (fun k => record_All.f k b) (recs (gall b.length b).1 0 [] [] (gall b.length b).2.2) := by
  have hfew := gall_few b.length b (by omega) hb
  refine Ev.bind (f := fun k bt => record_All.l0 k bt.2.2 ([] : List (S80)) ([] : List Int) 0 bt.1 (bt.1.length : Int) 0) (fall_ev b hb (by omega)) ?_
  have := recall_loop (gall b.length b).1 (gall_fr _ b hb) (by omega) (gall b.length b).2.2 (gall b.length b).1.length 0 0 [] [] (by omega) (by omega) (by omega) (by simp) (by simp)
  simpa using this
end Go.Proofs.Ytojepleodijdeaa.VP
namespace Go.Proofs.Ytojepleodijdeaa.VP
open Go.RowKit Go.Proofs.Ytojepleodijdeaa.B Go.Proofs.YtojepleodijdeaaW.PrintWords
theorem aw5_40 : aw5.f 40 = some true := by decide +kernel
theorem awake5_ev : Ev (fun k => tumbrellaw05_awake.f k) true := by
  refine Ev.of (fun k => tumbrellaw05_awake.mono k) (k := 40) ?_
  unfold tumbrellaw05_awake.f
  rw [if_pos aw5_40]
end Go.Proofs.Ytojepleodijdeaa.VP
