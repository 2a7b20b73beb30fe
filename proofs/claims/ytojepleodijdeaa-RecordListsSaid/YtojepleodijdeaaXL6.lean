/- Own texts and printed ones, those declarations alone that this claim needs, laid into one text by a program of this session. -/
import Derived.Test.YtojepleodijdeaaXL1
import Derived.Test.YtojepleodijdeaaXL2
import Derived.Test.YtojepleodijdeaaXL3
import Derived.Test.YtojepleodijdeaaXL4
import Derived.Test.YtojepleodijdeaaXL5
import Derived.SizedLaws
import Derived.ChangeSlices
namespace Go.Proofs.Ytojepleodijdeaa.B
open Go.RowKit Go.Proofs.YtojepleodijdeaaW.PrintWords Go.Proofs.YtojepleodijdeaaW.PrintLast Go.Proofs.YtojepleodijdeaaW.PrintMore
attribute [local go_sem] max2_int min2_int max_two min_two max_three min_three max_four min_four   -- for this text's walks alone
set_option linter.unusedVariables false
set_option linter.unusedSimpArgs false
def aw5.f (k : Nat)  : Option (Bool) := (record_Bytes.f k 7 (([5] : List Int)) (⟨#[]⟩ : ByteArray)).bind fun bt757 => (if bt757.1.length < 140737488355328 then ((record_All.f k (bt757.1 ++ [1])).bind fun bt764 => ((record_Bytes.f k 7 ([] : List Int) (⟨#[]⟩ : ByteArray)).bind fun bt771 => ((record_Read.f k 99 ([] : List Int)).bind fun bt775 => (if bt757.2 = 0 then (if (bt757.1.length : Int) = 12 then (if (bt764.1.length : Int) = 1 then ((tumbrelref05_Ints.f k bt764.2.1 (([12] : List Int))).bind fun t785 => (if t785 = true then (if bt764.2.2 = 3 then (if bt771.2 = 1 then (if bt775.2.2.2 = 2 then (if 0 < (bt764.1.length : Int) then ((record_Same.f k ((rd_T80 bt764.1 0).f0) ((rd_T80 bt764.1 0).f1) ((rd_T80 bt764.1 0).f2) 7 (([5] : List Int)) (⟨#[]⟩ : ByteArray)).bind fun t790 => (if t790 = true then ((record_Right.f ((rd_T80 bt764.1 0).f0) ((rd_T80 bt764.1 0).f1) ((rd_T80 bt764.1 0).f2)).bind fun t792 => (if t792 = true then (some true) else (some false))) else (some false))) else (none)) else (some false)) else (some false)) else (some false)) else (some false))) else (some false)) else (some false)) else (some false))))) else (none))
theorem aw5.mono : ∀ k, LeO (aw5.f k ) (aw5.f (k + 1) ) := by
  intro  k
  unfold aw5.f
  repeat' first
      | (with_reducible exact record_All.mono _ _)
      | (with_reducible exact record_Bytes.mono _ _ _ _)
      | (with_reducible exact record_Read.mono _ _ _)
      | (with_reducible exact record_Same.mono _ _ _ _ _ _ _)
      | (with_reducible exact tumbrelref05_Ints.mono _ _ _)
      | (with_reducible exact LeO.refl _)
      | (with_reducible exact LeO.none _)
      | (with_reducible refine LeO.ite ?_ ?_)
      | (with_reducible refine LeO.bind ?_ (fun _ => ?_))
      | exact record_All.mono _ _
      | exact record_Bytes.mono _ _ _ _
      | exact record_Read.mono _ _ _
      | exact record_Same.mono _ _ _ _ _ _ _
      | exact tumbrelref05_Ints.mono _ _ _
      | exact LeO.none _
      | refine LeO.ite ?_ ?_
      | refine LeO.bind ?_ (fun _ => ?_)
set_option maxHeartbeats 8000000 in
set_option maxRecDepth 100000 in
theorem aw5.calls (k : Nat)  (r : Bool) (w : World) (h : aw5.f k  = some r) (hr_ : r = true) :
    Calls Try.prog 54 #[] w fun e w' => e = .returned (.bool r) ∧ Below w.heap.size w w' := by
  have hu80 := Try.underlying80
  have hu56 := Try.underlying56
  have HB := Aside0.mk (Below.refl w.heap.size w)
  have H : ((record_Bytes.f k 7 (([5] : List Int)) (⟨#[]⟩ : ByteArray)).bind fun bt757 => (if bt757.1.length < 140737488355328 then ((record_All.f k (bt757.1 ++ [1])).bind fun bt764 => ((record_Bytes.f k 7 ([] : List Int) (⟨#[]⟩ : ByteArray)).bind fun bt771 => ((record_Read.f k 99 ([] : List Int)).bind fun bt775 => (if bt757.2 = 0 then (if (bt757.1.length : Int) = 12 then (if (bt764.1.length : Int) = 1 then ((tumbrelref05_Ints.f k bt764.2.1 (([12] : List Int))).bind fun t785 => (if t785 = true then (if bt764.2.2 = 3 then (if bt771.2 = 1 then (if bt775.2.2.2 = 2 then (if 0 < (bt764.1.length : Int) then ((record_Same.f k ((rd_T80 bt764.1 0).f0) ((rd_T80 bt764.1 0).f1) ((rd_T80 bt764.1 0).f2) 7 (([5] : List Int)) (⟨#[]⟩ : ByteArray)).bind fun t790 => (if t790 = true then ((record_Right.f ((rd_T80 bt764.1 0).f0) ((rd_T80 bt764.1 0).f1) ((rd_T80 bt764.1 0).f2)).bind fun t792 => (if t792 = true then (some true) else (some false))) else (some false))) else (none)) else (some false)) else (some false)) else (some false)) else (some false))) else (some false)) else (some false)) else (some false))))) else (none))) = some r := h
  clear h
  obtain ⟨y754, hy754⟩ : ∃ y_ : List Int, y_ = (([5] : List Int)) := ⟨_, rfl⟩
  replace H : ((record_Bytes.f k 7 y754 (⟨#[]⟩ : ByteArray)).bind fun bt757 => (if bt757.1.length < 140737488355328 then ((record_All.f k (bt757.1 ++ [1])).bind fun bt764 => ((record_Bytes.f k 7 ([] : List Int) (⟨#[]⟩ : ByteArray)).bind fun bt771 => ((record_Read.f k 99 ([] : List Int)).bind fun bt775 => (if bt757.2 = 0 then (if (bt757.1.length : Int) = 12 then (if (bt764.1.length : Int) = 1 then ((tumbrelref05_Ints.f k bt764.2.1 (([12] : List Int))).bind fun t785 => (if t785 = true then (if bt764.2.2 = 3 then (if bt771.2 = 1 then (if bt775.2.2.2 = 2 then (if 0 < (bt764.1.length : Int) then ((record_Same.f k ((rd_T80 bt764.1 0).f0) ((rd_T80 bt764.1 0).f1) ((rd_T80 bt764.1 0).f2) 7 (([5] : List Int)) (⟨#[]⟩ : ByteArray)).bind fun t790 => (if t790 = true then ((record_Right.f ((rd_T80 bt764.1 0).f0) ((rd_T80 bt764.1 0).f1) ((rd_T80 bt764.1 0).f2)).bind fun t792 => (if t792 = true then (some true) else (some false))) else (some false))) else (none)) else (some false)) else (some false)) else (some false)) else (some false))) else (some false)) else (some false)) else (some false))))) else (none))) = some r := by first | (rw [hy754]; with_reducible exact H) | (have H2_ := (Option.bind_some _ _).symm.trans H; rw [hy754]; with_reducible exact H2_) | (have H2_ := (Option.bind_some _ _).symm.trans H; with_reducible exact H2_) | with_reducible exact H | (rw [hy754]; exact H) | exact H
  have Ny754 := Aside0.mk hy754
  clear hy754
  replace H := Option.bind_eq_some_iff.mp H
  obtain ⟨⟨t757, t760⟩, A10, H⟩ := H
  replace H : (if t757.length < 140737488355328 then ((record_All.f k (t757 ++ [1])).bind fun bt764 => ((record_Bytes.f k 7 ([] : List Int) (⟨#[]⟩ : ByteArray)).bind fun bt771 => ((record_Read.f k 99 ([] : List Int)).bind fun bt775 => (if t760 = 0 then (if (t757.length : Int) = 12 then (if (bt764.1.length : Int) = 1 then ((tumbrelref05_Ints.f k bt764.2.1 (([12] : List Int))).bind fun t785 => (if t785 = true then (if bt764.2.2 = 3 then (if bt771.2 = 1 then (if bt775.2.2.2 = 2 then (if 0 < (bt764.1.length : Int) then ((record_Same.f k ((rd_T80 bt764.1 0).f0) ((rd_T80 bt764.1 0).f1) ((rd_T80 bt764.1 0).f2) 7 (([5] : List Int)) (⟨#[]⟩ : ByteArray)).bind fun t790 => (if t790 = true then ((record_Right.f ((rd_T80 bt764.1 0).f0) ((rd_T80 bt764.1 0).f1) ((rd_T80 bt764.1 0).f2)).bind fun t792 => (if t792 = true then (some true) else (some false))) else (some false))) else (none)) else (some false)) else (some false)) else (some false)) else (some false))) else (some false)) else (some false)) else (some false))))) else (none)) = some r := H
  have A1 := Aside0.mk A10
  clear A10
  by_cases c2 : t757.length < 140737488355328
  · rw [if_pos c2] at H
    have LMc2 := Aside0.mk c2
    clear c2
    obtain ⟨y761, hy761⟩ : ∃ y_ : List Int, y_ = (t757 ++ [1]) := ⟨_, rfl⟩
    replace H : ((record_All.f k y761).bind fun bt764 => ((record_Bytes.f k 7 ([] : List Int) (⟨#[]⟩ : ByteArray)).bind fun bt771 => ((record_Read.f k 99 ([] : List Int)).bind fun bt775 => (if t760 = 0 then (if (t757.length : Int) = 12 then (if (bt764.1.length : Int) = 1 then ((tumbrelref05_Ints.f k bt764.2.1 (([12] : List Int))).bind fun t785 => (if t785 = true then (if bt764.2.2 = 3 then (if bt771.2 = 1 then (if bt775.2.2.2 = 2 then (if 0 < (bt764.1.length : Int) then ((record_Same.f k ((rd_T80 bt764.1 0).f0) ((rd_T80 bt764.1 0).f1) ((rd_T80 bt764.1 0).f2) 7 (([5] : List Int)) (⟨#[]⟩ : ByteArray)).bind fun t790 => (if t790 = true then ((record_Right.f ((rd_T80 bt764.1 0).f0) ((rd_T80 bt764.1 0).f1) ((rd_T80 bt764.1 0).f2)).bind fun t792 => (if t792 = true then (some true) else (some false))) else (some false))) else (none)) else (some false)) else (some false)) else (some false)) else (some false))) else (some false)) else (some false)) else (some false))))) = some r := by first | (rw [hy761]; with_reducible exact H) | (have H2_ := (Option.bind_some _ _).symm.trans H; rw [hy761]; with_reducible exact H2_) | (have H2_ := (Option.bind_some _ _).symm.trans H; with_reducible exact H2_) | with_reducible exact H | (rw [hy761]; exact H) | exact H
    have Ny761 := Aside0.mk hy761
    clear hy761
    replace H := Option.bind_eq_some_iff.mp H
    obtain ⟨⟨t764, t765, t766⟩, A30, H⟩ := H
    replace H : ((record_Bytes.f k 7 ([] : List Int) (⟨#[]⟩ : ByteArray)).bind fun bt771 => ((record_Read.f k 99 ([] : List Int)).bind fun bt775 => (if t760 = 0 then (if (t757.length : Int) = 12 then (if (t764.length : Int) = 1 then ((tumbrelref05_Ints.f k t765 (([12] : List Int))).bind fun t785 => (if t785 = true then (if t766 = 3 then (if bt771.2 = 1 then (if bt775.2.2.2 = 2 then (if 0 < (t764.length : Int) then ((record_Same.f k ((rd_T80 t764 0).f0) ((rd_T80 t764 0).f1) ((rd_T80 t764 0).f2) 7 (([5] : List Int)) (⟨#[]⟩ : ByteArray)).bind fun t790 => (if t790 = true then ((record_Right.f ((rd_T80 t764 0).f0) ((rd_T80 t764 0).f1) ((rd_T80 t764 0).f2)).bind fun t792 => (if t792 = true then (some true) else (some false))) else (some false))) else (none)) else (some false)) else (some false)) else (some false)) else (some false))) else (some false)) else (some false)) else (some false)))) = some r := H
    have A3 := Aside0.mk A30
    clear A30
    replace H := Option.bind_eq_some_iff.mp H
    obtain ⟨⟨t771, t774⟩, A40, H⟩ := H
    replace H : ((record_Read.f k 99 ([] : List Int)).bind fun bt775 => (if t760 = 0 then (if (t757.length : Int) = 12 then (if (t764.length : Int) = 1 then ((tumbrelref05_Ints.f k t765 (([12] : List Int))).bind fun t785 => (if t785 = true then (if t766 = 3 then (if t774 = 1 then (if bt775.2.2.2 = 2 then (if 0 < (t764.length : Int) then ((record_Same.f k ((rd_T80 t764 0).f0) ((rd_T80 t764 0).f1) ((rd_T80 t764 0).f2) 7 (([5] : List Int)) (⟨#[]⟩ : ByteArray)).bind fun t790 => (if t790 = true then ((record_Right.f ((rd_T80 t764 0).f0) ((rd_T80 t764 0).f1) ((rd_T80 t764 0).f2)).bind fun t792 => (if t792 = true then (some true) else (some false))) else (some false))) else (none)) else (some false)) else (some false)) else (some false)) else (some false))) else (some false)) else (some false)) else (some false))) = some r := H
    have A4 := Aside0.mk A40
    clear A40
    replace H := Option.bind_eq_some_iff.mp H
    obtain ⟨⟨t775, t776, t779, t780⟩, A50, H⟩ := H
    replace H : (if t760 = 0 then (if (t757.length : Int) = 12 then (if (t764.length : Int) = 1 then ((tumbrelref05_Ints.f k t765 (([12] : List Int))).bind fun t785 => (if t785 = true then (if t766 = 3 then (if t774 = 1 then (if t780 = 2 then (if 0 < (t764.length : Int) then ((record_Same.f k ((rd_T80 t764 0).f0) ((rd_T80 t764 0).f1) ((rd_T80 t764 0).f2) 7 (([5] : List Int)) (⟨#[]⟩ : ByteArray)).bind fun t790 => (if t790 = true then ((record_Right.f ((rd_T80 t764 0).f0) ((rd_T80 t764 0).f1) ((rd_T80 t764 0).f2)).bind fun t792 => (if t792 = true then (some true) else (some false))) else (some false))) else (none)) else (some false)) else (some false)) else (some false)) else (some false))) else (some false)) else (some false)) else (some false)) = some r := H
    have A5 := Aside0.mk A50
    clear A50
    by_cases c6 : t760 = 0
    · rw [if_pos c6] at H
      have c6b0 : (t760 == 0) = true := beq_iff_eq.mpr c6
      have c6b1 : (t760 != 0) = false := bne_eq_false_iff_eq.mpr c6
      clear c6
      by_cases c7 : (t757.length : Int) = 12
      · rw [if_pos c7] at H
        have c7b0 : ((t757.length : Int) == 12) = true := beq_iff_eq.mpr c7
        have c7b1 : ((t757.length : Int) != 12) = false := bne_eq_false_iff_eq.mpr c7
        clear c7
        by_cases c8 : (t764.length : Int) = 1
        · rw [if_pos c8] at H
          have c8b0 : ((t764.length : Int) == 1) = true := beq_iff_eq.mpr c8
          have c8b1 : ((t764.length : Int) != 1) = false := bne_eq_false_iff_eq.mpr c8
          clear c8
          obtain ⟨y782, hy782⟩ : ∃ y_ : List Int, y_ = (([12] : List Int)) := ⟨_, rfl⟩
          replace H : ((tumbrelref05_Ints.f k t765 y782).bind fun t785 => (if t785 = true then (if t766 = 3 then (if t774 = 1 then (if t780 = 2 then (if 0 < (t764.length : Int) then ((record_Same.f k ((rd_T80 t764 0).f0) ((rd_T80 t764 0).f1) ((rd_T80 t764 0).f2) 7 (([5] : List Int)) (⟨#[]⟩ : ByteArray)).bind fun t790 => (if t790 = true then ((record_Right.f ((rd_T80 t764 0).f0) ((rd_T80 t764 0).f1) ((rd_T80 t764 0).f2)).bind fun t792 => (if t792 = true then (some true) else (some false))) else (some false))) else (none)) else (some false)) else (some false)) else (some false)) else (some false))) = some r := by first | (rw [hy782]; with_reducible exact H) | (have H2_ := (Option.bind_some _ _).symm.trans H; rw [hy782]; with_reducible exact H2_) | (have H2_ := (Option.bind_some _ _).symm.trans H; with_reducible exact H2_) | with_reducible exact H | (rw [hy782]; exact H) | exact H
          have Ny782 := Aside0.mk hy782
          clear hy782
          replace H := Option.bind_eq_some_iff.mp H
          obtain ⟨t785, A90, H⟩ := H
          replace H : (if t785 = true then (if t766 = 3 then (if t774 = 1 then (if t780 = 2 then (if 0 < (t764.length : Int) then ((record_Same.f k ((rd_T80 t764 0).f0) ((rd_T80 t764 0).f1) ((rd_T80 t764 0).f2) 7 (([5] : List Int)) (⟨#[]⟩ : ByteArray)).bind fun t790 => (if t790 = true then ((record_Right.f ((rd_T80 t764 0).f0) ((rd_T80 t764 0).f1) ((rd_T80 t764 0).f2)).bind fun t792 => (if t792 = true then (some true) else (some false))) else (some false))) else (none)) else (some false)) else (some false)) else (some false)) else (some false)) = some r := H
          have A9 := Aside0.mk A90
          clear A90
          by_cases c10 : t785 = true
          · subst c10
            have H1 : (if t766 = 3 then (if t774 = 1 then (if t780 = 2 then (if 0 < (t764.length : Int) then ((record_Same.f k ((rd_T80 t764 0).f0) ((rd_T80 t764 0).f1) ((rd_T80 t764 0).f2) 7 (([5] : List Int)) (⟨#[]⟩ : ByteArray)).bind fun t790 => (if t790 = true then ((record_Right.f ((rd_T80 t764 0).f0) ((rd_T80 t764 0).f1) ((rd_T80 t764 0).f2)).bind fun t792 => (if t792 = true then (some true) else (some false))) else (some false))) else (none)) else (some false)) else (some false)) else (some false)) = some r := by rw [if_pos rfl] at H; exact H
            clear H
            have H := H1
            clear H1
            by_cases c11 : t766 = 3
            · rw [if_pos c11] at H
              have c11b0 : (t766 == 3) = true := beq_iff_eq.mpr c11
              have c11b1 : (t766 != 3) = false := bne_eq_false_iff_eq.mpr c11
              clear c11
              by_cases c12 : t774 = 1
              · rw [if_pos c12] at H
                have c12b0 : (t774 == 1) = true := beq_iff_eq.mpr c12
                have c12b1 : (t774 != 1) = false := bne_eq_false_iff_eq.mpr c12
                clear c12
                by_cases c13 : t780 = 2
                · rw [if_pos c13] at H
                  have c13b0 : (t780 == 2) = true := beq_iff_eq.mpr c13
                  have c13b1 : (t780 != 2) = false := bne_eq_false_iff_eq.mpr c13
                  clear c13
                  by_cases c14 : 0 < (t764.length : Int)
                  · rw [if_pos c14] at H
                    have c14b0 : decide (0 < (t764.length : Int)) = true := decide_eq_true c14
                    have c14b1 : decide (0 < t764.length) = true := decide_eq_true (by omega)
                    clear c14
                    obtain ⟨y787, hy787⟩ : ∃ y_ : List Int, y_ = (([5] : List Int)) := ⟨_, rfl⟩
                    replace H : ((record_Same.f k ((rd_T80 t764 0).f0) ((rd_T80 t764 0).f1) ((rd_T80 t764 0).f2) 7 y787 (⟨#[]⟩ : ByteArray)).bind fun t790 => (if t790 = true then ((record_Right.f ((rd_T80 t764 0).f0) ((rd_T80 t764 0).f1) ((rd_T80 t764 0).f2)).bind fun t792 => (if t792 = true then (some true) else (some false))) else (some false))) = some r := by first | (rw [hy787]; with_reducible exact H) | (have H2_ := (Option.bind_some _ _).symm.trans H; rw [hy787]; with_reducible exact H2_) | (have H2_ := (Option.bind_some _ _).symm.trans H; with_reducible exact H2_) | with_reducible exact H | (rw [hy787]; exact H) | exact H
                    have Ny787 := Aside0.mk hy787
                    clear hy787
                    replace H := Option.bind_eq_some_iff.mp H
                    obtain ⟨t790, A150, H⟩ := H
                    replace H : (if t790 = true then ((record_Right.f ((rd_T80 t764 0).f0) ((rd_T80 t764 0).f1) ((rd_T80 t764 0).f2)).bind fun t792 => (if t792 = true then (some true) else (some false))) else (some false)) = some r := H
                    have A15 := Aside0.mk A150
                    clear A150
                    by_cases c16 : t790 = true
                    · subst c16
                      have H1 : ((record_Right.f ((rd_T80 t764 0).f0) ((rd_T80 t764 0).f1) ((rd_T80 t764 0).f2)).bind fun t792 => (if t792 = true then (some true) else (some false))) = some r := by rw [if_pos rfl] at H; exact H
                      clear H
                      have H := H1
                      clear H1
                      replace H := Option.bind_eq_some_iff.mp H
                      obtain ⟨t792, A170, H⟩ := H
                      replace H : (if t792 = true then (some true) else (some false)) = some r := H
                      have A17 := Aside0.mk A170
                      clear A170
                      by_cases c18 : t792 = true
                      · subst c18
                        have H1 : (some true) = some r := by rw [if_pos rfl] at H; exact H
                        clear H
                        have H := H1
                        clear H1
                        obtain rfl := Option.some.inj H
                        go_enter Try.func54, Try.ntmps54
                        go_wp2_with (first | ((with_reducible refine gate_dst (N := 11) rfl ?_); (try (refine gate_guard (by rfl) ?_; dsimp only)); refine Kd.R_lit (Kd.int .u64) _ 22 ?hg (N := 11) ?hd (xs := ([5] : List Int)) (inner := [.int .u64 5]) (ok := fun _ => True) (okp := fun _ => True) ?hr ?hp (fun _ hk => hk) trivial (Below.refl _ _) (Nat.le_refl _) (by simp) ?_; (case hd => rfl); (case hg => rfl); (case hr => first | (go_simp; done) | (go_simp; rfl)); (case hp => exact (Reps.one (show Kd.M (Kd.int .u64) _ _ _ 5 [.int .u64 5] from rfl) (Reps.none _ _))); intro v755 w19 ho20 hb hg_ hnew_; clear hg_ hnew_; (first | rw [← Ny754.out] at ho20 | (simp only [Int.reduceToNat] at ho20; rw [← Ny754.out] at ho20)); have n0_ := Aside0.mk (Kd.R_lower ho20 (below_size (by repeat (first | (with_reducible first | exact HB.out | apply below_alloc | apply pw_below_drewN | apply below_drew1) | exact HB.out)))); have n1_ := Aside0.mk (below_step (by repeat (first | (with_reducible first | exact HB.out | apply below_alloc | apply pw_below_drewN | apply below_drew1) | exact HB.out)) hb); clear HB; have HO756 := n0_; have HB := n1_; clear n0_ n1_; clear hb ho20; obtain ⟨Ao21, co21, eo21⟩ := Kd.R_slice HO756.out; subst eo21) | ((with_reducible refine gate_callee (f := 56) rfl ?_); refine goesL_ (some 13) rfl rfl Try.func56 (by kernel_rfl) rfl #[.agg #[.int .i64 7, .slice Ao21 y754.length co21, .string (⟨#[]⟩ : ByteArray)]] rfl (by (try simp only [List.map_toArray, List.map_cons, List.map_nil]); first | done | rfl | (simp only [List.length_drop, List.length_take]; rfl)) ?_; (with_reducible refine (record_Bytes.calls k 7 _ _ y754 (⟨#[]⟩ : ByteArray) t757 t760 _ ?side1 ?side2 A1.out).mono ?_); (case side1 => repeat (first | exact (Kd.R_reads' HO756.out).2.2 | (with_reducible refine Kd.C_alloc ?_ _) | (with_reducible refine Kd.C_drewN ?_ _) | (with_reducible refine Kd.C_drew ?_))); (case side2 => exact (Kd.R_reads' HO756.out).2.1); rintro e w22 ⟨v758, rfl, ho0, hb⟩; obtain ⟨Ao31, co31, eo31⟩ := Kd.R_slice ho0; have EO31 := Aside0.mk eo31; clear eo31; refine ⟨_, rfl, ?_⟩; have n0_ := Aside0.mk (Kd.R_below (by (with_reducible repeat (first | apply Kd.R_alloc | apply Kd.R_drewN | apply Kd.R_drew)); exact HO756.out) hb); have n1_ := Aside0.mk (Kd.R_lower ho0 (below_size (by repeat (first | (with_reducible first | exact HB.out | apply below_alloc | apply pw_below_drewN | apply below_drew1) | exact HB.out)))); have n2_ := Aside0.mk (below_step (by repeat (first | (with_reducible first | exact HB.out | apply below_alloc | apply pw_below_drewN | apply below_drew1) | exact HB.out)) hb); clear HO756; clear HB; have HO756 := n0_; have HO759 := n1_; have HB := n2_; clear n0_ n1_ n2_; (try clear hb); (try clear hb2); (try clear hk); (try clear hi); (try clear ho0)) | ((with_reducible refine gate_builtin (b := .append) (xs := #[.tmp 17, .tmp 18]) rfl ?_); (try (refine gate_guard (by rfl) ?_; dsimp only)); at_builtin; refine Kd.R_append (Kd.int .u8) (w0 := w) w.heap.size rfl (.tmp 17) (.tmp 18) 23 5 (.int .u8 0) 1 rfl Try.underlying23 info5 rfl (by decide) (by omega) v758 t757 1 [.int .u8 1] (fun _ => True) (fun _ => False) rfl rfl ?aP (fun _ hk => hk.elim) ?aF ?aO ?aB ?aS ?aL ?_; (case aP => exact rfl); (case aB => exact (by repeat (first | (with_reducible first | exact HB.out | apply below_alloc | apply pw_below_drewN | apply below_drew1) | exact HB.out))); (case aF => exact (fun _ _ => trivial)); (case aO => exact (by (with_reducible repeat (first | apply Kd.R_alloc | apply Kd.R_drewN | apply Kd.R_drew)); exact HO759.out)); (case aS => exact (below_size (by repeat (first | (with_reducible first | exact HB.out | apply below_alloc | apply pw_below_drewN | apply below_drew1) | exact HB.out)))); (case aL => have := LMc2.out; omega); intro v762 w23 ho hb hg hat; rw [← Ny761.out] at ho; have n0_ := Aside0.mk (Kd.R_over' (by (with_reducible repeat (first | apply Kd.R_alloc | apply Kd.R_drewN | apply Kd.R_drew)); exact HO756.out) (Kd.R_typed (by (with_reducible repeat (first | apply Kd.R_alloc | apply Kd.R_drewN | apply Kd.R_drew)); exact HO759.out)) (by decide) hg); have n1_ := Aside0.mk (hb); have n2_ := Aside0.mk (ho); clear HO756; clear HB; clear HO759; have HO756 := n0_; have HB := n1_; have HO763 := n2_; clear n0_ n1_ n2_; clear ho hb hg hat; obtain ⟨Ao24, co24, eo24⟩ := Kd.R_slice HO763.out; subst eo24) | ((with_reducible refine gate_callee (f := 65) rfl ?_); refine goesL_ (some 20) rfl rfl Try.func65 (by kernel_rfl) rfl #[.slice Ao24 y761.length co24] rfl (by (try simp only [List.map_toArray, List.map_cons, List.map_nil]); first | done | rfl | (simp only [List.length_drop, List.length_take]; rfl)) ?_; (with_reducible refine (record_All.calls k _ _ y761 t764 t765 t766 _ ?side1 ?side2 A3.out).mono ?_); (case side1 => repeat (first | exact (Kd.R_reads' HO763.out).2.2 | (with_reducible refine Kd.C_alloc ?_ _) | (with_reducible refine Kd.C_drewN ?_ _) | (with_reducible refine Kd.C_drew ?_))); (case side2 => exact (Kd.R_reads' HO763.out).2.1); rintro e w25 ⟨v767, v769, rfl, ho0, ho1, hb⟩; refine ⟨_, rfl, ?_⟩; have n0_ := Aside0.mk (Kd.R_below (by (with_reducible repeat (first | apply Kd.R_alloc | apply Kd.R_drewN | apply Kd.R_drew)); exact HO756.out) hb); have n1_ := Aside0.mk (Kd.R_below (by (with_reducible repeat (first | apply Kd.R_alloc | apply Kd.R_drewN | apply Kd.R_drew)); exact HO763.out) hb); have n2_ := Aside0.mk (Kd.S_lower (Kd.S_new' ho0 (Kd.R_lt (by (with_reducible repeat (first | apply Kd.R_alloc | apply Kd.R_drewN | apply Kd.R_drew)); exact HO756.out))) (below_size (by repeat (first | (with_reducible first | exact HB.out | apply below_alloc | apply pw_below_drewN | apply below_drew1) | exact HB.out)))); have n3_ := Aside0.mk (Kd.R_lower ho1 (below_size (by repeat (first | (with_reducible first | exact HB.out | apply below_alloc | apply pw_below_drewN | apply below_drew1) | exact HB.out)))); have n4_ := Aside0.mk (below_step (by repeat (first | (with_reducible first | exact HB.out | apply below_alloc | apply pw_below_drewN | apply below_drew1) | exact HB.out)) hb); clear HO756; clear HO763; clear HB; have HO756 := n0_; have HO763 := n1_; have HO768 := n2_; have HO770 := n3_; have HB := n4_; clear n0_ n1_ n2_ n3_ n4_; (try clear hb); (try clear hb2); (try clear hk); (try clear hi); (try clear ho0); (try clear ho1)) | ((with_reducible refine gate_callee (f := 56) rfl ?_); refine goesL_ (some 26) rfl rfl Try.func56 (by kernel_rfl) rfl #[.agg #[.int .i64 7, .slice none 0 0, .string (⟨#[]⟩ : ByteArray)]] rfl (by (try simp only [List.map_toArray, List.map_cons, List.map_nil]); first | done | rfl | (simp only [List.length_drop, List.length_take]; rfl)) ?_; (refine (record_Bytes.calls k 7 _ _ ([] : List Int) (⟨#[]⟩ : ByteArray) t771 t774 _ ?side1 ?side2 A4.out).mono ?_); (case side1 => exact Kd.C_nil _ _); (case side2 => exact Nat.le_refl _); rintro e w26 ⟨v772, rfl, ho0, hb⟩; refine ⟨_, rfl, ?_⟩; have n0_ := Aside0.mk (Kd.R_below (by (with_reducible repeat (first | apply Kd.R_alloc | apply Kd.R_drewN | apply Kd.R_drew)); exact HO756.out) hb); have n1_ := Aside0.mk (Kd.R_elder' (by (with_reducible repeat (first | apply Kd.R_alloc | apply Kd.R_drewN | apply Kd.R_drew)); exact HO763.out) (Kd.R_base ho0) hb); have n2_ := Aside0.mk (Kd.S_below (by (with_reducible repeat (first | apply Kd.S_alloc | apply Kd.S_drewN | apply Kd.S_drew)); exact HO768.out) hb); have n3_ := Aside0.mk (Kd.R_below (by (with_reducible repeat (first | apply Kd.R_alloc | apply Kd.R_drewN | apply Kd.R_drew)); exact HO770.out) hb); have n4_ := Aside0.mk (Kd.R_lower (Kd.R_new' ho0 (Kd.R_lt (by (with_reducible repeat (first | apply Kd.R_alloc | apply Kd.R_drewN | apply Kd.R_drew)); exact HO763.out))) (below_size (by repeat (first | (with_reducible first | exact HB.out | apply below_alloc | apply pw_below_drewN | apply below_drew1) | exact HB.out)))); have n5_ := Aside0.mk (below_step (by repeat (first | (with_reducible first | exact HB.out | apply below_alloc | apply pw_below_drewN | apply below_drew1) | exact HB.out)) hb); clear HO756; clear HO763; clear HO768; clear HO770; clear HB; have HO756 := n0_; have HO763 := n1_; have HO768 := n2_; have HO770 := n3_; have HO773 := n4_; have HB := n5_; clear n0_ n1_ n2_ n3_ n4_ n5_; (try clear hb); (try clear hb2); (try clear hk); (try clear hi); (try clear ho0)) | ((with_reducible refine gate_callee (f := 58) rfl ?_); refine goesL_ (some 31) rfl rfl Try.func58 (by kernel_rfl) rfl #[.agg #[.int .u8 99, .slice none 0 0]] rfl (by (try simp only [List.map_toArray, List.map_cons, List.map_nil]); first | done | rfl | (simp only [List.length_drop, List.length_take]; rfl)) ?_; (refine (record_Read.calls k 99 (fun k_ => False) _ _ ([] : List Int) t775 t776 t779 t780 _ ?side1 A5.out).mono ?_); (case side1 => exact Kd.V_nil _ _ _ _ _); rintro e w27 ⟨v777, rfl, ho0, hb⟩; refine ⟨_, rfl, ?_⟩; have n0_ := Aside0.mk (Kd.R_elder' (by (with_reducible repeat (first | apply Kd.R_alloc | apply Kd.R_drewN | apply Kd.R_drew)); exact HO756.out) (Kd.R_base ho0) hb); have n1_ := Aside0.mk (Kd.R_below (by (with_reducible repeat (first | apply Kd.R_alloc | apply Kd.R_drewN | apply Kd.R_drew)); exact HO763.out) hb); have n2_ := Aside0.mk (Kd.S_elder' (by (with_reducible repeat (first | apply Kd.S_alloc | apply Kd.S_drewN | apply Kd.S_drew)); exact HO768.out) (Kd.R_base ho0) hb); have n3_ := Aside0.mk (Kd.R_below (by (with_reducible repeat (first | apply Kd.R_alloc | apply Kd.R_drewN | apply Kd.R_drew)); exact HO770.out) hb); have n4_ := Aside0.mk (Kd.R_below (by (with_reducible repeat (first | apply Kd.R_alloc | apply Kd.R_drewN | apply Kd.R_drew)); exact HO773.out) hb); have n5_ := Aside0.mk (Kd.R_lower (Kd.R_new' (Kd.R_mono (ok' := fun k_ => True) ho0 (fun _ hk_ => trivial)) (Kd.R_lt (by (with_reducible repeat (first | apply Kd.R_alloc | apply Kd.R_drewN | apply Kd.R_drew)); exact HO756.out))) (below_size (by repeat (first | (with_reducible first | exact HB.out | apply below_alloc | apply pw_below_drewN | apply below_drew1) | exact HB.out)))); have n6_ := Aside0.mk (below_step (by repeat (first | (with_reducible first | exact HB.out | apply below_alloc | apply pw_below_drewN | apply below_drew1) | exact HB.out)) hb); clear HO756; clear HO763; clear HO768; clear HO770; clear HO773; clear HB; have HO756 := n0_; have HO763 := n1_; have HO768 := n2_; have HO770 := n3_; have HO773 := n4_; have HO778 := n5_; have HB := n6_; clear n0_ n1_ n2_ n3_ n4_ n5_ n6_; (try clear hb); (try clear hb2); (try clear hk); (try clear hi); (try clear ho0)) | ((with_reducible refine gate_dst (N := 8) rfl ?_); (try (refine gate_guard (by rfl) ?_; dsimp only)); refine box_event ?hg (N := 8) ?hd (cs := #[.int .i64 0, .slice none 0 0, .string (⟨#[]⟩ : ByteArray)]) (t := 80) ?hr ?_; (case hd => rfl); (case hg => rfl); (case hr => first | (go_simp; done) | (go_simp; rfl)); intro gb781 hg w28 hbox hb; have n0_ := Aside0.mk (Kd.R_below (by (with_reducible repeat (first | apply Kd.R_alloc | apply Kd.R_drewN | apply Kd.R_drew)); exact HO756.out) hb); have n1_ := Aside0.mk (Kd.R_below (by (with_reducible repeat (first | apply Kd.R_alloc | apply Kd.R_drewN | apply Kd.R_drew)); exact HO763.out) hb); have n2_ := Aside0.mk (Kd.S_below (Kd.S_elderB (by (with_reducible repeat (first | apply Kd.S_alloc | apply Kd.S_drewN | apply Kd.S_drew)); exact HO768.out) gb781 (Nat.le_of_eq hg.symm)) hb); have n3_ := Aside0.mk (Kd.R_below (by (with_reducible repeat (first | apply Kd.R_alloc | apply Kd.R_drewN | apply Kd.R_drew)); exact HO770.out) hb); have n4_ := Aside0.mk (Kd.R_below (by (with_reducible repeat (first | apply Kd.R_alloc | apply Kd.R_drewN | apply Kd.R_drew)); exact HO773.out) hb); have n5_ := Aside0.mk (Kd.R_below (by (with_reducible repeat (first | apply Kd.R_alloc | apply Kd.R_drewN | apply Kd.R_drew)); exact HO778.out) hb); have n6_ := Aside0.mk (below_step (by repeat (first | (with_reducible first | exact HB.out | apply below_alloc | apply pw_below_drewN | apply below_drew1) | exact HB.out)) hb); have n7_ := Aside0.mk (hbox); have n8_ := Aside0.mk ((by rw [hg]; exact (below_size (by repeat (first | (with_reducible first | exact HB.out | apply below_alloc | apply pw_below_drewN | apply below_drew1) | exact HB.out))) : w.heap.size ≤ gb781)); have n9_ := Aside0.mk ((by rw [hg]; exact (below_size (by repeat (first | (with_reducible first | exact HB.out | apply below_alloc | apply pw_below_drewN | apply below_drew1) | exact HB.out))) : w.heap.size ≤ gb781)); clear HO756; clear HO763; clear HO768; clear HO770; clear HO773; clear HO778; clear HB; have HO756 := n0_; have HO763 := n1_; have HO768 := n2_; have HO770 := n3_; have HO773 := n4_; have HO778 := n5_; have HB := n6_; have BK781 := n7_; have GW781 := n8_; have GE781 := n9_; clear n0_ n1_ n2_ n3_ n4_ n5_ n6_ n7_ n8_ n9_; clear hb hbox hg; have hcz29_0 : w28.cell? ⟨gb781, 0, none⟩ = some (.int .i64 0) := (blk_cell BK781.out 0).trans rfl; have hcz29_1 : w28.cell? ⟨gb781, 1, none⟩ = some (.slice none 0 0) := (blk_cell BK781.out 1).trans rfl; have hcz29_2 : w28.cell? ⟨gb781, 2, none⟩ = some (.string (⟨#[]⟩ : ByteArray)) := (blk_cell BK781.out 2).trans rfl; have hfz29_0 := blk_frozen BK781.out 0; have hfz29_1 := blk_frozen BK781.out 1; have hfz29_2 := blk_frozen BK781.out 2; obtain ⟨Ao30, co30, eo30⟩ := Kd.R_slice HO778.out; subst eo30; have eo31 := EO31.out; clear EO31; subst eo31; obtain ⟨Ao32, co32, eo32⟩ := Kd.S_slice HO768.out; subst eo32) | ((with_reducible refine gate_dst (N := 48) rfl ?_); (try (refine gate_guard (by rfl) ?_; dsimp only)); refine Kd.R_lit (Kd.int .i64) _ 3 ?hg (N := 48) ?hd (xs := ([12] : List Int)) (inner := [.int .i64 12]) (ok := fun _ => True) (okp := fun _ => True) ?hr ?hp (fun _ hk => hk) trivial (Below.refl _ _) (Nat.le_refl _) (by simp) ?_; (case hd => rfl); (case hg => rfl); (case hr => first | (go_simp; done) | (go_simp; rfl)); (case hp => exact (Reps.one (show Kd.M (Kd.int .i64) _ _ _ 12 [.int .i64 12] from rfl) (Reps.none _ _))); intro v783 w33 ho34 hb hg_ hnew_; clear hg_ hnew_; (first | rw [← Ny782.out] at ho34 | (simp only [Int.reduceToNat] at ho34; rw [← Ny782.out] at ho34)); have n0_ := Aside0.mk (Kd.R_below (by (with_reducible repeat (first | apply Kd.R_alloc | apply Kd.R_drewN | apply Kd.R_drew)); exact (Kd.R_mono (Kd.R_far (p := ⟨gb781, 2, none⟩) (Kd.R_far (p := ⟨gb781, 1, none⟩) (Kd.R_far (p := ⟨gb781, 0, none⟩) (Kd.R_types HO756.out BK781.out (by decide)) (fun _ hk => hk.2) (.int .i64 t775)) (fun _ hk => hk.2) (.slice Ao30 t776.length co30)) (fun _ hk => hk.2) (.string t779)) (fun _ h_ => h_.1))) hb); have n1_ := Aside0.mk (Kd.R_below (by (with_reducible repeat (first | apply Kd.R_alloc | apply Kd.R_drewN | apply Kd.R_drew)); exact (Kd.R_mono (Kd.R_far (p := ⟨gb781, 2, none⟩) (Kd.R_far (p := ⟨gb781, 1, none⟩) (Kd.R_far (p := ⟨gb781, 0, none⟩) (Kd.R_types HO763.out BK781.out (by decide)) (fun _ hk => hk.2) (.int .i64 t775)) (fun _ hk => hk.2) (.slice Ao30 t776.length co30)) (fun _ hk => hk.2) (.string t779)) (fun _ h_ => h_.1))) hb); have n2_ := Aside0.mk (Kd.S_below (by (with_reducible repeat (first | apply Kd.S_alloc | apply Kd.S_drewN | apply Kd.S_drew)); exact (Kd.S_mono (Kd.S_far (p := ⟨gb781, 2, none⟩) (Kd.S_far (p := ⟨gb781, 1, none⟩) (Kd.S_far (p := ⟨gb781, 0, none⟩) (Kd.S_mono HO768.out (fun k_ hk => (⟨hk, hk.2⟩ : _ ∧ k_ ≠ gb781))) (fun _ hk => hk.2) (.int .i64 t775)) (fun _ hk => hk.2) (.slice Ao30 t776.length co30)) (fun _ hk => hk.2) (.string t779)) (fun _ h_ => h_.1))) hb); have n3_ := Aside0.mk (Kd.R_elder' (by (with_reducible repeat (first | apply Kd.R_alloc | apply Kd.R_drewN | apply Kd.R_drew)); exact (Kd.R_mono (Kd.R_far (p := ⟨gb781, 2, none⟩) (Kd.R_far (p := ⟨gb781, 1, none⟩) (Kd.R_far (p := ⟨gb781, 0, none⟩) (Kd.R_types HO770.out BK781.out (by decide)) (fun _ hk => hk.2) (.int .i64 t775)) (fun _ hk => hk.2) (.slice Ao30 t776.length co30)) (fun _ hk => hk.2) (.string t779)) (fun _ h_ => h_.1))) (Kd.R_base ho34) hb); have n4_ := Aside0.mk (Kd.R_below (by (with_reducible repeat (first | apply Kd.R_alloc | apply Kd.R_drewN | apply Kd.R_drew)); exact (Kd.R_mono (Kd.R_far (p := ⟨gb781, 2, none⟩) (Kd.R_far (p := ⟨gb781, 1, none⟩) (Kd.R_far (p := ⟨gb781, 0, none⟩) (Kd.R_types HO773.out BK781.out (by decide)) (fun _ hk => hk.2) (.int .i64 t775)) (fun _ hk => hk.2) (.slice Ao30 t776.length co30)) (fun _ hk => hk.2) (.string t779)) (fun _ h_ => h_.1))) hb); have n5_ := Aside0.mk (Kd.R_below (by (with_reducible repeat (first | apply Kd.R_alloc | apply Kd.R_drewN | apply Kd.R_drew)); exact (Kd.R_mono (Kd.R_far (p := ⟨gb781, 2, none⟩) (Kd.R_far (p := ⟨gb781, 1, none⟩) (Kd.R_far (p := ⟨gb781, 0, none⟩) (Kd.R_types HO778.out BK781.out (by decide)) (fun _ hk => hk.2) (.int .i64 t775)) (fun _ hk => hk.2) (.slice Ao30 t776.length co30)) (fun _ hk => hk.2) (.string t779)) (fun _ h_ => h_.1))) hb); have n6_ := Aside0.mk (Kd.R_lower (Kd.R_new' ho34 (Kd.R_lt (by (with_reducible repeat (first | apply Kd.R_alloc | apply Kd.R_drewN | apply Kd.R_drew)); exact (Kd.R_mono (Kd.R_far (p := ⟨gb781, 2, none⟩) (Kd.R_far (p := ⟨gb781, 1, none⟩) (Kd.R_far (p := ⟨gb781, 0, none⟩) (Kd.R_types HO770.out BK781.out (by decide)) (fun _ hk => hk.2) (.int .i64 t775)) (fun _ hk => hk.2) (.slice Ao30 t776.length co30)) (fun _ hk => hk.2) (.string t779)) (fun _ h_ => h_.1))))) (below_size (by repeat (first | (with_reducible first | exact HB.out | apply below_alloc | apply pw_below_drewN | apply below_drew1 | refine below_set ?_ GE781.out) | exact HB.out)))); have n7_ := Aside0.mk (blk_below (g := gb781) (o := .cells #[.int .i64 t775, .slice Ao30 t776.length co30, .string t779] 80 (0, 0)) (by (with_reducible repeat (first | refine blk_drewN ?_ _ | refine blk_drew ?_ | refine blk_alloc ?_ _)); refine blk_put (cs := #[.int .i64 t775, .slice Ao30 t776.length co30, .string (⟨#[]⟩ : ByteArray)]) ?_ 2 _ rfl; (with_reducible repeat (first | refine blk_drewN ?_ _ | refine blk_drew ?_ | refine blk_alloc ?_ _)); refine blk_put (cs := #[.int .i64 t775, .slice none 0 0, .string (⟨#[]⟩ : ByteArray)]) ?_ 1 _ rfl; (with_reducible repeat (first | refine blk_drewN ?_ _ | refine blk_drew ?_ | refine blk_alloc ?_ _)); refine blk_put (cs := #[.int .i64 0, .slice none 0 0, .string (⟨#[]⟩ : ByteArray)]) ?_ 0 _ rfl; (with_reducible repeat (first | refine blk_drewN ?_ _ | refine blk_drew ?_ | refine blk_alloc ?_ _)); exact BK781.out) hb); have n8_ := Aside0.mk (below_step (by repeat (first | (with_reducible first | exact HB.out | apply below_alloc | apply pw_below_drewN | apply below_drew1 | refine below_set ?_ GE781.out) | exact HB.out)) hb); clear HO756; clear HO763; clear HO768; clear HO770; clear HO773; clear HO778; clear BK781; clear HB; have HO756 := n0_; have HO763 := n1_; have HO768 := n2_; have HO770 := n3_; have HO773 := n4_; have HO778 := n5_; have HO784 := n6_; have BK781 := n7_; have HB := n8_; clear n0_ n1_ n2_ n3_ n4_ n5_ n6_ n7_ n8_; clear hb ho34; obtain ⟨Ao35, co35, eo35⟩ := Kd.R_slice HO770.out; subst eo35; obtain ⟨Ao36, co36, eo36⟩ := Kd.R_slice HO784.out; subst eo36) | (go_at_call 67; (with_reducible refine (tumbrelref05_Ints.calls k _ _ t765 _ _ y782 true _ ?side1 ?side2 ?side3 ?side4 A9.out).mono ?_); (case side1 => repeat (first | exact (Kd.R_reads' HO770.out).2.2 | (with_reducible refine Kd.C_alloc ?_ _) | (with_reducible refine Kd.C_drewN ?_ _) | (with_reducible refine Kd.C_drew ?_))); (case side2 => exact (Kd.R_reads' HO770.out).2.1); (case side3 => repeat (first | exact (Kd.R_reads' HO784.out).2.2 | (with_reducible refine Kd.C_alloc ?_ _) | (with_reducible refine Kd.C_drewN ?_ _) | (with_reducible refine Kd.C_drew ?_))); (case side4 => exact (Kd.R_reads' HO784.out).2.1); rintro e w' ⟨rfl, ⟨nd, rfl⟩⟩; have p786 : 0 ≤ (0 : Int) := (by omega); have q786 : 0 < (t764.length : Int) := of_decide_eq_true (by first | (with_reducible assumption) | assumption); obtain ⟨ad786, A786_1, c786_1, e786, hx786_0, hx786_1, hx786_2, hl786_1, hi786_1⟩ := at_T80 (Kd.S_reads' HO768.out).2.2 0 p786 q786; cases e786; obtain ⟨ce786, hce786, hMe786, hcc786⟩ := Kd.S_get HO768.out z80 0 p786 (by first | exact q786 | exact of_decide_eq_true (by first | (with_reducible assumption) | assumption) | (have e_ := (Kd.S_reads' HO768.out).1; omega)); obtain ⟨ve786_1, rfl, ge786_1⟩ := k80_openM hMe786; have hv786_1 := hcc786 1 _ rfl; rw [add_field _ _ 1 (by omega)] at hv786_1; replace hv786_1 := Option.some.inj (hv786_1.symm.trans hx786_1); rw [hv786_1] at ge786_1; have HL786_1 := Aside0.mk (show Kd.R (Kd.int .u64) 22 _ _ _ _ ((rd_T80 t764 0).f1) from ge786_1); clear hv786_1 ge786_1; clear hcc786 hce786; have qi786 : (0 < t764.length) = True := eq_true (by omega); (try rw [show ((0 : Int)).toNat = 0 from rfl] at hx786_0); (try rw [show 0 * 3 = 0 from rfl] at hx786_0); (try rw [Addr.add_zero'] at hx786_0); (try rw [show ((0 : Int)).toNat = 0 from rfl] at hx786_1); (try rw [show 0 * 3 = 0 from rfl] at hx786_1); (try rw [Addr.add_zero'] at hx786_1); (try rw [show ((0 : Int)).toNat = 0 from rfl] at hx786_2); (try rw [show 0 * 3 = 0 from rfl] at hx786_2); (try rw [Addr.add_zero'] at hx786_2); have HR786_1 := Aside0.mk hi786_1; have HC786_1 := Aside0.mk hl786_1; clear hi786_1 hl786_1; replace p786 := eq_true p786; replace q786 := eq_true q786) | ((with_reducible refine gate_dst (N := 67) rfl ?_); (try (refine gate_guard (by rfl) ?_; dsimp only)); refine Kd.R_lit (Kd.int .u64) _ 22 ?hg (N := 67) ?hd (xs := ([5] : List Int)) (inner := [.int .u64 5]) (ok := fun _ => True) (okp := fun _ => True) ?hr ?hp (fun _ hk => hk) trivial (Below.refl _ _) (Nat.le_refl _) (by simp) ?_; (case hd => rfl); (case hg => rfl); (case hr => first | (go_simp; done) | (go_simp; rfl)); (case hp => exact (Reps.one (show Kd.M (Kd.int .u64) _ _ _ 5 [.int .u64 5] from rfl) (Reps.none _ _))); intro v788 w37 ho38 hb hg_ hnew_; clear hg_ hnew_; (first | rw [← Ny787.out] at ho38 | (simp only [Int.reduceToNat] at ho38; rw [← Ny787.out] at ho38)); have n0_ := Aside0.mk (Kd.R_elder' (by (with_reducible repeat (first | apply Kd.R_alloc | apply Kd.R_drewN | apply Kd.R_drew)); exact HO756.out) (Kd.R_base ho38) hb); have n1_ := Aside0.mk (Kd.R_below (by (with_reducible repeat (first | apply Kd.R_alloc | apply Kd.R_drewN | apply Kd.R_drew)); exact HO763.out) hb); have n2_ := Aside0.mk (Kd.S_elder' (by (with_reducible repeat (first | apply Kd.S_alloc | apply Kd.S_drewN | apply Kd.S_drew)); exact HO768.out) (Kd.R_base ho38) hb); have n3_ := Aside0.mk (Kd.R_below (by (with_reducible repeat (first | apply Kd.R_alloc | apply Kd.R_drewN | apply Kd.R_drew)); exact HO770.out) hb); have n4_ := Aside0.mk (Kd.R_below (by (with_reducible repeat (first | apply Kd.R_alloc | apply Kd.R_drewN | apply Kd.R_drew)); exact HO773.out) hb); have n5_ := Aside0.mk (Kd.R_elder' (by (with_reducible repeat (first | apply Kd.R_alloc | apply Kd.R_drewN | apply Kd.R_drew)); exact HO778.out) (Kd.R_base ho38) hb); have n6_ := Aside0.mk (Kd.R_below (by (with_reducible repeat (first | apply Kd.R_alloc | apply Kd.R_drewN | apply Kd.R_drew)); exact HO784.out) hb); have n7_ := Aside0.mk (Kd.R_elder' (by (with_reducible repeat (first | apply Kd.R_alloc | apply Kd.R_drewN | apply Kd.R_drew)); exact HL786_1.out) (Kd.R_base ho38) hb); have n8_ := Aside0.mk (Kd.R_lower (Kd.R_new' (Kd.R_new' (Kd.R_new' ho38 (Kd.R_lt (by (with_reducible repeat (first | apply Kd.R_alloc | apply Kd.R_drewN | apply Kd.R_drew)); exact HO756.out))) (Kd.R_lt (by (with_reducible repeat (first | apply Kd.R_alloc | apply Kd.R_drewN | apply Kd.R_drew)); exact HO778.out))) (Kd.R_lt (by (with_reducible repeat (first | apply Kd.R_alloc | apply Kd.R_drewN | apply Kd.R_drew)); exact HL786_1.out))) (below_size (by repeat (first | (with_reducible first | exact HB.out | apply below_alloc | apply pw_below_drewN | apply below_drew1 | refine below_set ?_ GE781.out) | exact HB.out)))); have n9_ := Aside0.mk (blk_below (g := gb781) (o := .cells #[.int .i64 t775, .slice Ao30 t776.length co30, .string t779] 80 (0, 0)) (by (with_reducible repeat (first | refine blk_drewN ?_ _ | refine blk_drew ?_ | refine blk_alloc ?_ _)); exact BK781.out) hb); have n10_ := Aside0.mk (Kd.C_below (by repeat (first | (with_reducible exact HR786_1.out) | (with_reducible refine Kd.C_alloc ?_ _) | (with_reducible refine Kd.C_drewN ?_ _) | (with_reducible refine Kd.C_drew ?_) | exact HR786_1.out)) hb); have n11_ := Aside0.mk (below_step (by repeat (first | (with_reducible first | exact HB.out | apply below_alloc | apply pw_below_drewN | apply below_drew1 | refine below_set ?_ GE781.out) | exact HB.out)) hb); clear HO756; clear HO763; clear HO768; clear HO770; clear HO773; clear HO778; clear HO784; clear HL786_1; clear BK781; clear HR786_1; clear HB; have HO756 := n0_; have HO763 := n1_; have HO768 := n2_; have HO770 := n3_; have HO773 := n4_; have HO778 := n5_; have HO784 := n6_; have HL786_1 := n7_; have HO789 := n8_; have BK781 := n9_; have HR786_1 := n10_; have HB := n11_; clear n0_ n1_ n2_ n3_ n4_ n5_ n6_ n7_ n8_ n9_ n10_ n11_; clear hb ho38; obtain ⟨Ao39, co39, eo39⟩ := Kd.R_slice HO789.out; subst eo39) | (go_at_call 64; (with_reducible refine (record_Same.calls k ((rd_T80 t764 0).f0) _ _ ((rd_T80 t764 0).f1) ((rd_T80 t764 0).f2) 7 _ _ y787 (⟨#[]⟩ : ByteArray) true _ ?side1 ?side2 ?side3 ?side4 A15.out).mono ?_); (case side1 => repeat (first | exact (by repeat (first | (with_reducible exact HR786_1.out) | (with_reducible refine Kd.C_alloc ?_ _) | (with_reducible refine Kd.C_drewN ?_ _) | (with_reducible refine Kd.C_drew ?_) | exact HR786_1.out)) | (with_reducible refine Kd.C_alloc ?_ _) | (with_reducible refine Kd.C_drewN ?_ _) | (with_reducible refine Kd.C_drew ?_))); (case side2 => exact HC786_1.out); (case side3 => repeat (first | exact (Kd.R_reads' HO789.out).2.2 | (with_reducible refine Kd.C_alloc ?_ _) | (with_reducible refine Kd.C_drewN ?_ _) | (with_reducible refine Kd.C_drew ?_))); (case side4 => exact (Kd.R_reads' HO789.out).2.1); rintro e w40 ⟨rfl, hb⟩; have n0_ := Aside0.mk (Kd.R_below (by (with_reducible repeat (first | apply Kd.R_alloc | apply Kd.R_drewN | apply Kd.R_drew)); exact HO756.out) hb); have n1_ := Aside0.mk (Kd.R_below (by (with_reducible repeat (first | apply Kd.R_alloc | apply Kd.R_drewN | apply Kd.R_drew)); exact HO763.out) hb); have n2_ := Aside0.mk (Kd.S_below (by (with_reducible repeat (first | apply Kd.S_alloc | apply Kd.S_drewN | apply Kd.S_drew)); exact HO768.out) hb); have n3_ := Aside0.mk (Kd.R_below (by (with_reducible repeat (first | apply Kd.R_alloc | apply Kd.R_drewN | apply Kd.R_drew)); exact HO770.out) hb); have n4_ := Aside0.mk (Kd.R_below (by (with_reducible repeat (first | apply Kd.R_alloc | apply Kd.R_drewN | apply Kd.R_drew)); exact HO773.out) hb); have n5_ := Aside0.mk (Kd.R_below (by (with_reducible repeat (first | apply Kd.R_alloc | apply Kd.R_drewN | apply Kd.R_drew)); exact HO778.out) hb); have n6_ := Aside0.mk (Kd.R_below (by (with_reducible repeat (first | apply Kd.R_alloc | apply Kd.R_drewN | apply Kd.R_drew)); exact HO784.out) hb); have n7_ := Aside0.mk (Kd.R_below (by (with_reducible repeat (first | apply Kd.R_alloc | apply Kd.R_drewN | apply Kd.R_drew)); exact HL786_1.out) hb); have n8_ := Aside0.mk (Kd.R_below (by (with_reducible repeat (first | apply Kd.R_alloc | apply Kd.R_drewN | apply Kd.R_drew)); exact HO789.out) hb); have n9_ := Aside0.mk (blk_below (g := gb781) (o := .cells #[.int .i64 t775, .slice Ao30 t776.length co30, .string t779] 80 (0, 0)) (by (with_reducible repeat (first | refine blk_drewN ?_ _ | refine blk_drew ?_ | refine blk_alloc ?_ _)); exact BK781.out) hb); have n10_ := Aside0.mk (Kd.C_below (by repeat (first | (with_reducible exact HR786_1.out) | (with_reducible refine Kd.C_alloc ?_ _) | (with_reducible refine Kd.C_drewN ?_ _) | (with_reducible refine Kd.C_drew ?_) | exact HR786_1.out)) hb); have n11_ := Aside0.mk (below_step (by repeat (first | (with_reducible first | exact HB.out | apply below_alloc | apply pw_below_drewN | apply below_drew1 | refine below_set ?_ GE781.out) | exact HB.out)) hb); clear HO756; clear HO763; clear HO768; clear HO770; clear HO773; clear HO778; clear HO784; clear HL786_1; clear HO789; clear BK781; clear HR786_1; clear HB; have HO756 := n0_; have HO763 := n1_; have HO768 := n2_; have HO770 := n3_; have HO773 := n4_; have HO778 := n5_; have HO784 := n6_; have HL786_1 := n7_; have HO789 := n8_; have BK781 := n9_; have HR786_1 := n10_; have HB := n11_; clear n0_ n1_ n2_ n3_ n4_ n5_ n6_ n7_ n8_ n9_ n10_ n11_; (try clear hb); (try clear hb2); (try clear hk); (try clear hi); have p791 : 0 ≤ (0 : Int) := (by omega); have q791 : 0 < (t764.length : Int) := of_decide_eq_true (by first | (with_reducible assumption) | assumption); obtain ⟨ad791, A791_1, c791_1, e791, hx791_0, hx791_1, hx791_2, hl791_1, hi791_1⟩ := at_T80 (Kd.S_reads' HO768.out).2.2 0 p791 q791; obtain rfl : ad786 = ad791 := (by injection e791); obtain ⟨ce791, hce791, hMe791, hcc791⟩ := Kd.S_get HO768.out z80 0 p791 (by first | exact q791 | exact of_decide_eq_true (by first | (with_reducible assumption) | assumption) | (have e_ := (Kd.S_reads' HO768.out).1; omega)); obtain ⟨ve791_1, rfl, ge791_1⟩ := k80_openM hMe791; have hv791_1 := hcc791 1 _ rfl; rw [add_field _ _ 1 (by omega)] at hv791_1; replace hv791_1 := Option.some.inj (hv791_1.symm.trans hx791_1); rw [hv791_1] at ge791_1; have HL791_1 := Aside0.mk (show Kd.R (Kd.int .u64) 22 _ _ _ _ ((rd_T80 t764 0).f1) from ge791_1); clear hv791_1 ge791_1; clear hcc791 hce791; have qi791 : (0 < t764.length) = True := eq_true (by omega); (try rw [show ((0 : Int)).toNat = 0 from rfl] at hx791_0); (try rw [show 0 * 3 = 0 from rfl] at hx791_0); (try rw [Addr.add_zero'] at hx791_0); (try rw [show ((0 : Int)).toNat = 0 from rfl] at hx791_1); (try rw [show 0 * 3 = 0 from rfl] at hx791_1); (try rw [Addr.add_zero'] at hx791_1); (try rw [show ((0 : Int)).toNat = 0 from rfl] at hx791_2); (try rw [show 0 * 3 = 0 from rfl] at hx791_2); (try rw [Addr.add_zero'] at hx791_2); have HR791_1 := Aside0.mk hi791_1; have HC791_1 := Aside0.mk hl791_1; clear hi791_1 hl791_1; replace p791 := eq_true p791; replace q791 := eq_true q791) | (go_at_call 60; (with_reducible refine (record_Right.calls ((rd_T80 t764 0).f0) _ _ ((rd_T80 t764 0).f1) ((rd_T80 t764 0).f2) true _ ?side1 ?side2 A17.out).mono ?_); (case side1 => repeat (first | exact (by repeat (first | (with_reducible exact HR791_1.out) | (with_reducible refine Kd.C_alloc ?_ _) | (with_reducible refine Kd.C_drewN ?_ _) | (with_reducible refine Kd.C_drew ?_) | exact HR791_1.out)) | (with_reducible refine Kd.C_alloc ?_ _) | (with_reducible refine Kd.C_drewN ?_ _) | (with_reducible refine Kd.C_drew ?_))); (case side2 => exact HC791_1.out); rintro e w41 ⟨rfl, hb⟩; have n0_ := Aside0.mk (Kd.R_below (by (with_reducible repeat (first | apply Kd.R_alloc | apply Kd.R_drewN | apply Kd.R_drew)); exact HO756.out) hb); have n1_ := Aside0.mk (Kd.R_below (by (with_reducible repeat (first | apply Kd.R_alloc | apply Kd.R_drewN | apply Kd.R_drew)); exact HO763.out) hb); have n2_ := Aside0.mk (Kd.S_below (by (with_reducible repeat (first | apply Kd.S_alloc | apply Kd.S_drewN | apply Kd.S_drew)); exact HO768.out) hb); have n3_ := Aside0.mk (Kd.R_below (by (with_reducible repeat (first | apply Kd.R_alloc | apply Kd.R_drewN | apply Kd.R_drew)); exact HO770.out) hb); have n4_ := Aside0.mk (Kd.R_below (by (with_reducible repeat (first | apply Kd.R_alloc | apply Kd.R_drewN | apply Kd.R_drew)); exact HO773.out) hb); have n5_ := Aside0.mk (Kd.R_below (by (with_reducible repeat (first | apply Kd.R_alloc | apply Kd.R_drewN | apply Kd.R_drew)); exact HO778.out) hb); have n6_ := Aside0.mk (Kd.R_below (by (with_reducible repeat (first | apply Kd.R_alloc | apply Kd.R_drewN | apply Kd.R_drew)); exact HO784.out) hb); have n7_ := Aside0.mk (Kd.R_below (by (with_reducible repeat (first | apply Kd.R_alloc | apply Kd.R_drewN | apply Kd.R_drew)); exact HL786_1.out) hb); have n8_ := Aside0.mk (Kd.R_below (by (with_reducible repeat (first | apply Kd.R_alloc | apply Kd.R_drewN | apply Kd.R_drew)); exact HO789.out) hb); have n9_ := Aside0.mk (Kd.R_below (by (with_reducible repeat (first | apply Kd.R_alloc | apply Kd.R_drewN | apply Kd.R_drew)); exact HL791_1.out) hb); have n10_ := Aside0.mk (blk_below (g := gb781) (o := .cells #[.int .i64 t775, .slice Ao30 t776.length co30, .string t779] 80 (0, 0)) (by (with_reducible repeat (first | refine blk_drewN ?_ _ | refine blk_drew ?_ | refine blk_alloc ?_ _)); exact BK781.out) hb); have n11_ := Aside0.mk (Kd.C_below (by repeat (first | (with_reducible exact HR786_1.out) | (with_reducible refine Kd.C_alloc ?_ _) | (with_reducible refine Kd.C_drewN ?_ _) | (with_reducible refine Kd.C_drew ?_) | exact HR786_1.out)) hb); have n12_ := Aside0.mk (Kd.C_below (by repeat (first | (with_reducible exact HR791_1.out) | (with_reducible refine Kd.C_alloc ?_ _) | (with_reducible refine Kd.C_drewN ?_ _) | (with_reducible refine Kd.C_drew ?_) | exact HR791_1.out)) hb); have n13_ := Aside0.mk (below_step (by repeat (first | (with_reducible first | exact HB.out | apply below_alloc | apply pw_below_drewN | apply below_drew1 | refine below_set ?_ GE781.out) | exact HB.out)) hb); clear HO756; clear HO763; clear HO768; clear HO770; clear HO773; clear HO778; clear HO784; clear HL786_1; clear HO789; clear HL791_1; clear BK781; clear HR786_1; clear HR791_1; clear HB; have HO756 := n0_; have HO763 := n1_; have HO768 := n2_; have HO770 := n3_; have HO773 := n4_; have HO778 := n5_; have HO784 := n6_; have HL786_1 := n7_; have HO789 := n8_; have HL791_1 := n9_; have BK781 := n10_; have HR786_1 := n11_; have HR791_1 := n12_; have HB := n13_; clear n0_ n1_ n2_ n3_ n4_ n5_ n6_ n7_ n8_ n9_ n10_ n11_ n12_ n13_; (try clear hb); (try clear hb2); (try clear hk); (try clear hi)))
                        go_ret
                        exact ⟨by first | rfl | (simp [errW_none, errW_some] <;> rfl) | (simp [*, errW_none, errW_some] <;> rfl), by repeat (first | (with_reducible first | exact HB.out | apply below_alloc | apply pw_below_drewN | apply below_drew1 | refine below_set ?_ GE781.out) | exact HB.out)⟩
                      · replace c18 := Bool.eq_false_iff.mpr c18
                        subst c18
                        have H1 : (some false) = some r := by rw [if_neg (show ¬ (false = true) by decide)] at H; exact H
                        clear H
                        have H := H1
                        clear H1
                        exact absurd (hr_.symm.trans (Option.some.inj H).symm) (by decide)
                    · replace c16 := Bool.eq_false_iff.mpr c16
                      subst c16
                      have H1 : (some false) = some r := by rw [if_neg (show ¬ (false = true) by decide)] at H; exact H
                      clear H
                      have H := H1
                      clear H1
                      exact absurd (hr_.symm.trans (Option.some.inj H).symm) (by decide)
                  · rw [if_neg c14] at H
                    exact absurd H (by simp)
                · rw [if_neg c13] at H
                  have c13b0 : (t780 == 2) = false := beq_eq_false_iff_ne.mpr c13
                  have c13b1 : (t780 != 2) = true := bne_iff_ne.mpr c13
                  exact absurd (hr_.symm.trans (Option.some.inj H).symm) (by decide)
              · rw [if_neg c12] at H
                have c12b0 : (t774 == 1) = false := beq_eq_false_iff_ne.mpr c12
                have c12b1 : (t774 != 1) = true := bne_iff_ne.mpr c12
                exact absurd (hr_.symm.trans (Option.some.inj H).symm) (by decide)
            · rw [if_neg c11] at H
              have c11b0 : (t766 == 3) = false := beq_eq_false_iff_ne.mpr c11
              have c11b1 : (t766 != 3) = true := bne_iff_ne.mpr c11
              exact absurd (hr_.symm.trans (Option.some.inj H).symm) (by decide)
          · replace c10 := Bool.eq_false_iff.mpr c10
            subst c10
            have H1 : (some false) = some r := by rw [if_neg (show ¬ (false = true) by decide)] at H; exact H
            clear H
            have H := H1
            clear H1
            exact absurd (hr_.symm.trans (Option.some.inj H).symm) (by decide)
        · rw [if_neg c8] at H
          have c8b0 : ((t764.length : Int) == 1) = false := beq_eq_false_iff_ne.mpr c8
          have c8b1 : ((t764.length : Int) != 1) = true := bne_iff_ne.mpr c8
          exact absurd (hr_.symm.trans (Option.some.inj H).symm) (by decide)
      · rw [if_neg c7] at H
        have c7b0 : ((t757.length : Int) == 12) = false := beq_eq_false_iff_ne.mpr c7
        have c7b1 : ((t757.length : Int) != 12) = true := bne_iff_ne.mpr c7
        exact absurd (hr_.symm.trans (Option.some.inj H).symm) (by decide)
    · rw [if_neg c6] at H
      have c6b0 : (t760 == 0) = false := beq_eq_false_iff_ne.mpr c6
      have c6b1 : (t760 != 0) = true := bne_iff_ne.mpr c6
      exact absurd (hr_.symm.trans (Option.some.inj H).symm) (by decide)
  · rw [if_neg c2] at H
    exact absurd H (by simp)
def tumbrellaw05_awake.f (k : Nat) : Option Bool := if aw5.f k = some true then some true else none
theorem tumbrellaw05_awake.mono : ∀ k, LeO (tumbrellaw05_awake.f k) (tumbrellaw05_awake.f (k + 1)) := by
  intro k r h
  unfold tumbrellaw05_awake.f at h ⊢
  split at h
  case isFalse => exact absurd h (by simp)
  rename_i hh
  rw [if_pos (aw5.mono k true hh)]; exact h
theorem tumbrellaw05_awake.calls (k : Nat) (r : Bool) (w : World) (h : tumbrellaw05_awake.f k = some r) :
    Calls Try.prog 54 #[] w fun e w' => e = .returned (.bool r) ∧ Below w.heap.size w w' := by
  unfold tumbrellaw05_awake.f at h
  split at h
  case isFalse => exact absurd h (by simp)
  rename_i hh
  obtain rfl := Option.some.inj h
  exact aw5.calls k true w hh rfl
end Go.Proofs.Ytojepleodijdeaa.B
namespace Go.Proofs.Ytojepleodijdeaa.B
open Go.RowKit Go.Proofs.YtojepleodijdeaaW.PrintWords Go.Proofs.YtojepleodijdeaaW.PrintLast Go.Proofs.YtojepleodijdeaaW.PrintMore
attribute [local go_sem] max2_int min2_int max_two min_two max_three min_three max_four min_four   -- for this text's walks alone
set_option linter.unusedVariables false
set_option linter.unusedSimpArgs false
def tumbrellaw05_RecordLists.f (k : Nat) (l0 : List Int) : Option (Bool) := (tumbrellaw05_awake.f k).bind fun t871 => (if t871 = true then (if (l0.length : Int) > 1200 then (some true) else ((record_All.f k l0).bind fun bt872 => ((tumbrelref05_All.f k l0).bind fun bt879 => ((tumbrellaw05_own.f k bt872.1).bind fun t886 => ((tumbrelref05_Same.f k t886 bt879.1).bind fun t889 => (if t889 = true then ((tumbrelref05_Ints.f k bt872.2.1 bt879.2.1).bind fun t890 => (if t890 = true then (some (bt872.2.2 == bt879.2.2)) else (some false))) else (some false))))))) else (some false))
set_option maxHeartbeats 8000000 in
set_option maxRecDepth 100000 in
theorem tumbrellaw05_RecordLists.calls (k : Nat) (A0 : Option Addr) (c0 : Nat) (l0 : List Int) (r : Bool) (w : World) (hr0 : Kd.C (Kd.int .u8) w A0 l0.length l0) (hc0 : l0.length ≤ c0) (h : tumbrellaw05_RecordLists.f k l0 = some r) :
    Calls Try.prog 17 #[.slice A0 l0.length c0] w fun e w' => e = .returned (.bool r) ∧ Below w.heap.size w w' := by
  have HR0 := Aside0.mk hr0
  have HC0 := Aside0.mk hc0
  clear hr0 hc0
  have HB := Aside0.mk (Below.refl w.heap.size w)
  have H : ((tumbrellaw05_awake.f k).bind fun t871 => (if t871 = true then (if (l0.length : Int) > 1200 then (some true) else ((record_All.f k l0).bind fun bt872 => ((tumbrelref05_All.f k l0).bind fun bt879 => ((tumbrellaw05_own.f k bt872.1).bind fun t886 => ((tumbrelref05_Same.f k t886 bt879.1).bind fun t889 => (if t889 = true then ((tumbrelref05_Ints.f k bt872.2.1 bt879.2.1).bind fun t890 => (if t890 = true then (some (bt872.2.2 == bt879.2.2)) else (some false))) else (some false))))))) else (some false))) = some r := h
  clear h
  replace H := Option.bind_eq_some_iff.mp H
  obtain ⟨t871, A20, H⟩ := H
  replace H : (if t871 = true then (if (l0.length : Int) > 1200 then (some true) else ((record_All.f k l0).bind fun bt872 => ((tumbrelref05_All.f k l0).bind fun bt879 => ((tumbrellaw05_own.f k bt872.1).bind fun t886 => ((tumbrelref05_Same.f k t886 bt879.1).bind fun t889 => (if t889 = true then ((tumbrelref05_Ints.f k bt872.2.1 bt879.2.1).bind fun t890 => (if t890 = true then (some (bt872.2.2 == bt879.2.2)) else (some false))) else (some false))))))) else (some false)) = some r := H
  have A2 := Aside0.mk A20
  clear A20
  by_cases c3 : t871 = true
  · subst c3
    have H1 : (if (l0.length : Int) > 1200 then (some true) else ((record_All.f k l0).bind fun bt872 => ((tumbrelref05_All.f k l0).bind fun bt879 => ((tumbrellaw05_own.f k bt872.1).bind fun t886 => ((tumbrelref05_Same.f k t886 bt879.1).bind fun t889 => (if t889 = true then ((tumbrelref05_Ints.f k bt872.2.1 bt879.2.1).bind fun t890 => (if t890 = true then (some (bt872.2.2 == bt879.2.2)) else (some false))) else (some false))))))) = some r := by rw [if_pos rfl] at H; exact H
    clear H
    have H := H1
    clear H1
    by_cases c4 : (l0.length : Int) > 1200
    · rw [if_pos c4] at H
      have c4b0 : decide (1200 < (l0.length : Int)) = true := decide_eq_true c4
      have c4b1 : decide (1200 < l0.length) = true := decide_eq_true (by omega)
      clear c4
      obtain rfl := Option.some.inj H
      go_enter Try.func17, Try.ntmps17
      go_wp2_with (first | ((with_reducible refine gate_callee (f := 54) rfl ?_); refine goesL_ (some 9) rfl rfl Try.func54 (by kernel_rfl) rfl #[] rfl (by (try simp only [List.map_toArray, List.map_cons, List.map_nil]); first | done | rfl | (simp only [List.length_drop, List.length_take]; rfl)) ?_; (with_reducible refine (tumbrellaw05_awake.calls k  true _ A2.out).mono ?_); rintro e w5 ⟨rfl, hb⟩; refine ⟨_, rfl, ?_⟩; have n0_ := Aside0.mk (below_step (by repeat (first | (with_reducible first | exact HB.out | apply below_alloc | apply pw_below_drewN | apply below_drew1) | exact HB.out)) hb); clear HB; have HB := n0_; clear n0_; (try clear hb); (try clear hb2); (try clear hk); (try clear hi)))
      go_ret
      exact ⟨by first | rfl | (simp [errW_none, errW_some] <;> rfl) | (simp [*, errW_none, errW_some] <;> rfl), by repeat (first | (with_reducible first | exact HB.out | apply below_alloc | apply pw_below_drewN | apply below_drew1) | exact HB.out)⟩
    · rw [if_neg c4] at H
      have c4b0 : decide (1200 < (l0.length : Int)) = false := decide_eq_false c4
      have c4b1 : decide (1200 < l0.length) = false := decide_eq_false (by omega)
      clear c4
      replace H := Option.bind_eq_some_iff.mp H
      obtain ⟨⟨t872, t873, t874⟩, A60, H⟩ := H
      replace H : ((tumbrelref05_All.f k l0).bind fun bt879 => ((tumbrellaw05_own.f k t872).bind fun t886 => ((tumbrelref05_Same.f k t886 bt879.1).bind fun t889 => (if t889 = true then ((tumbrelref05_Ints.f k t873 bt879.2.1).bind fun t890 => (if t890 = true then (some (t874 == bt879.2.2)) else (some false))) else (some false))))) = some r := H
      have A6 := Aside0.mk A60
      clear A60
      replace H := Option.bind_eq_some_iff.mp H
      obtain ⟨⟨t879, t880, t881⟩, A70, H⟩ := H
      replace H : ((tumbrellaw05_own.f k t872).bind fun t886 => ((tumbrelref05_Same.f k t886 t879).bind fun t889 => (if t889 = true then ((tumbrelref05_Ints.f k t873 t880).bind fun t890 => (if t890 = true then (some (t874 == t881)) else (some false))) else (some false)))) = some r := H
      have A7 := Aside0.mk A70
      clear A70
      replace H := Option.bind_eq_some_iff.mp H
      obtain ⟨t886, A80, H⟩ := H
      replace H : ((tumbrelref05_Same.f k t886 t879).bind fun t889 => (if t889 = true then ((tumbrelref05_Ints.f k t873 t880).bind fun t890 => (if t890 = true then (some (t874 == t881)) else (some false))) else (some false))) = some r := H
      have A8 := Aside0.mk A80
      clear A80
      replace H := Option.bind_eq_some_iff.mp H
      obtain ⟨t889, A90, H⟩ := H
      replace H : (if t889 = true then ((tumbrelref05_Ints.f k t873 t880).bind fun t890 => (if t890 = true then (some (t874 == t881)) else (some false))) else (some false)) = some r := H
      have A9 := Aside0.mk A90
      clear A90
      by_cases c10 : t889 = true
      · subst c10
        have H1 : ((tumbrelref05_Ints.f k t873 t880).bind fun t890 => (if t890 = true then (some (t874 == t881)) else (some false))) = some r := by rw [if_pos rfl] at H; exact H
        clear H
        have H := H1
        clear H1
        replace H := Option.bind_eq_some_iff.mp H
        obtain ⟨t890, A110, H⟩ := H
        replace H : (if t890 = true then (some (t874 == t881)) else (some false)) = some r := H
        have A11 := Aside0.mk A110
        clear A110
        by_cases c12 : t890 = true
        · subst c12
          have H1 : (some (t874 == t881)) = some r := by rw [if_pos rfl] at H; exact H
          clear H
          have H := H1
          clear H1
          obtain rfl := Option.some.inj H
          go_enter Try.func17, Try.ntmps17
          go_wp2_with (first | ((with_reducible refine gate_callee (f := 54) rfl ?_); refine goesL_ (some 9) rfl rfl Try.func54 (by kernel_rfl) rfl #[] rfl (by (try simp only [List.map_toArray, List.map_cons, List.map_nil]); first | done | rfl | (simp only [List.length_drop, List.length_take]; rfl)) ?_; (with_reducible refine (tumbrellaw05_awake.calls k  true _ A2.out).mono ?_); rintro e w13 ⟨rfl, hb⟩; refine ⟨_, rfl, ?_⟩; have n0_ := Aside0.mk (below_step (by repeat (first | (with_reducible first | exact HB.out | apply below_alloc | apply pw_below_drewN | apply below_drew1) | exact HB.out)) hb); clear HB; have HB := n0_; clear n0_; (try clear hb); (try clear hb2); (try clear hk); (try clear hi)) | ((with_reducible refine gate_callee (f := 65) rfl ?_); refine goesL_ (some 16) rfl rfl Try.func65 (by kernel_rfl) rfl #[.slice A0 l0.length c0] rfl (by (try simp only [List.map_toArray, List.map_cons, List.map_nil]); first | done | rfl | (simp only [List.length_drop, List.length_take]; rfl)) ?_; (with_reducible refine (record_All.calls k _ _ l0 t872 t873 t874 _ ?side1 ?side2 A6.out).mono ?_); (case side1 => repeat (first | exact (Kd.C_below HR0.out HB.out) | (with_reducible refine Kd.C_alloc ?_ _) | (with_reducible refine Kd.C_drewN ?_ _) | (with_reducible refine Kd.C_drew ?_))); (case side2 => exact HC0.out); rintro e w14 ⟨v875, v877, rfl, ho0, ho1, hb⟩; refine ⟨_, rfl, ?_⟩; have n0_ := Aside0.mk (Kd.N_lower (Kd.N_mono (ok' := fun k_ => some k_ ≠ (v877 : Value).ownBlock) (Kd.S_N (Kd.S_bound (Kd.S_apart' ho0 (Kd.R_typed ho1) (by decide)))) (fun k_ hk_ => hk_.1.2)) (below_size (by repeat (first | (with_reducible first | exact HB.out | apply below_alloc | apply pw_below_drewN | apply below_drew1) | exact HB.out)))); have n1_ := Aside0.mk (Kd.R_lower ho1 (below_size (by repeat (first | (with_reducible first | exact HB.out | apply below_alloc | apply pw_below_drewN | apply below_drew1) | exact HB.out)))); have n2_ := Aside0.mk (below_step (by repeat (first | (with_reducible first | exact HB.out | apply below_alloc | apply pw_below_drewN | apply below_drew1) | exact HB.out)) hb); clear HB; have HO876 := n0_; have HO878 := n1_; have HB := n2_; clear n0_ n1_ n2_; (try clear hb); (try clear hb2); (try clear hk); (try clear hi); (try clear ho0); (try clear ho1)) | ((with_reducible refine gate_callee (f := 66) rfl ?_); refine goesL_ (some 22) rfl rfl Try.func66 (by kernel_rfl) rfl #[.slice A0 l0.length c0] rfl (by (try simp only [List.map_toArray, List.map_cons, List.map_nil]); first | done | rfl | (simp only [List.length_drop, List.length_take]; rfl)) ?_; (with_reducible refine (tumbrelref05_All.calls k _ _ l0 t879 t880 t881 _ ?side1 ?side2 A7.out).mono ?_); (case side1 => repeat (first | exact (Kd.C_below HR0.out HB.out) | (with_reducible refine Kd.C_alloc ?_ _) | (with_reducible refine Kd.C_drewN ?_ _) | (with_reducible refine Kd.C_drew ?_))); (case side2 => exact HC0.out); rintro e w15 ⟨v882, v884, rfl, ho0, ho1, hb⟩; refine ⟨_, rfl, ?_⟩; have n0_ := Aside0.mk (Kd.N_mono (Kd.N_told (Kd.N_told (Kd.N_old (by (with_reducible repeat (first | apply Kd.N_alloc | apply Kd.N_drewN | apply Kd.N_drew)); exact HO876.out) hb) (Kd.N_base (by first | exact ho0 | exact Kd.S_N ho0))) (Kd.R_base ho1)) (fun _ h_ => h_.1)); have n1_ := Aside0.mk (Kd.R_elder' (by (with_reducible repeat (first | apply Kd.R_alloc | apply Kd.R_drewN | apply Kd.R_drew)); exact HO878.out) (Kd.R_base ho1) hb); have n2_ := Aside0.mk (Kd.N_lower (Kd.N_mono (ok' := fun k_ => some k_ ≠ (v884 : Value).ownBlock ∧ some k_ ≠ (v875 : Value).ownBlock ∧ some k_ ≠ (v877 : Value).ownBlock) (Kd.S_N (Kd.S_bound (Kd.S_apart' ho0 (Kd.R_typed ho1) (by decide)))) (fun k_ hk_ => ⟨hk_.1.2, (Kd.fresh' (Kd.N_lt (by (with_reducible repeat (first | apply Kd.N_alloc | apply Kd.N_drewN | apply Kd.N_drew)); exact HO876.out)) k_ hk_.2.1), (Kd.fresh' (Kd.R_lt (by (with_reducible repeat (first | apply Kd.R_alloc | apply Kd.R_drewN | apply Kd.R_drew)); exact HO878.out)) k_ hk_.2.1)⟩)) (below_size (by repeat (first | (with_reducible first | exact HB.out | apply below_alloc | apply pw_below_drewN | apply below_drew1) | exact HB.out)))); have n3_ := Aside0.mk (Kd.R_lower (Kd.R_new' ho1 (Kd.R_lt (by (with_reducible repeat (first | apply Kd.R_alloc | apply Kd.R_drewN | apply Kd.R_drew)); exact HO878.out))) (below_size (by repeat (first | (with_reducible first | exact HB.out | apply below_alloc | apply pw_below_drewN | apply below_drew1) | exact HB.out)))); have n4_ := Aside0.mk (below_step (by repeat (first | (with_reducible first | exact HB.out | apply below_alloc | apply pw_below_drewN | apply below_drew1) | exact HB.out)) hb); clear HO876; clear HO878; clear HB; have HO876 := n0_; have HO878 := n1_; have HO883 := n2_; have HO885 := n3_; have HB := n4_; clear n0_ n1_ n2_ n3_ n4_; (try clear hb); (try clear hb2); (try clear hk); (try clear hi); (try clear ho0); (try clear ho1); obtain ⟨Ao16, co16, eo16⟩ := Kd.N_slice HO876.out; subst eo16) | ((with_reducible refine gate_callee (f := 63) rfl ?_); refine goesL_ (some 27) rfl rfl Try.func63 (by kernel_rfl) rfl #[.slice Ao16 t872.length co16] rfl (by (try simp only [List.map_toArray, List.map_cons, List.map_nil]); first | done | rfl | (simp only [List.length_drop, List.length_take]; rfl)) ?_; (with_reducible refine (tumbrellaw05_own.calls k (fun k_ => ((some k_ ≠ (v877 : Value).ownBlock ∧ some k_ ≠ (v882 : Value).ownBlock) ∧ some k_ ≠ (v884 : Value).ownBlock)) _ _ t872 t886 _ ?side1 A8.out).mono ?_); (case side1 => exact Kd.N_V (HO876.out)); rintro e w17 ⟨v887, rfl, ho0, hb⟩; refine ⟨_, rfl, ?_⟩; have n0_ := Aside0.mk (Kd.N_elder' (by (with_reducible repeat (first | apply Kd.N_alloc | apply Kd.N_drewN | apply Kd.N_drew)); exact HO876.out) (Kd.N_base (by first | exact ho0 | exact Kd.S_N ho0)) hb); have n1_ := Aside0.mk (Kd.R_below (by (with_reducible repeat (first | apply Kd.R_alloc | apply Kd.R_drewN | apply Kd.R_drew)); exact HO878.out) hb); have n2_ := Aside0.mk (Kd.N_elder' (by (with_reducible repeat (first | apply Kd.N_alloc | apply Kd.N_drewN | apply Kd.N_drew)); exact HO883.out) (Kd.N_base (by first | exact ho0 | exact Kd.S_N ho0)) hb); have n3_ := Aside0.mk (Kd.R_below (by (with_reducible repeat (first | apply Kd.R_alloc | apply Kd.R_drewN | apply Kd.R_drew)); exact HO885.out) hb); have n4_ := Aside0.mk (Kd.N_lower (Kd.N_mono (ok' := fun k_ => some k_ ≠ (v877 : Value).ownBlock ∧ some k_ ≠ (v882 : Value).ownBlock ∧ some k_ ≠ (v884 : Value).ownBlock) ho0 (fun k_ hk_ => ⟨Or.elim hk_ (fun hs_ => hs_.1.1) (fun hn_ => (Kd.fresh' (Kd.R_lt (by (with_reducible repeat (first | apply Kd.R_alloc | apply Kd.R_drewN | apply Kd.R_drew)); exact HO878.out)) k_ hn_)), Or.elim hk_ (fun hs_ => hs_.1.2) (fun hn_ => (Kd.fresh' (Kd.N_lt (by (with_reducible repeat (first | apply Kd.N_alloc | apply Kd.N_drewN | apply Kd.N_drew)); exact HO883.out)) k_ hn_)), Or.elim hk_ (fun hs_ => hs_.2) (fun hn_ => (Kd.fresh' (Kd.R_lt (by (with_reducible repeat (first | apply Kd.R_alloc | apply Kd.R_drewN | apply Kd.R_drew)); exact HO885.out)) k_ hn_))⟩)) (below_size (by repeat (first | (with_reducible first | exact HB.out | apply below_alloc | apply pw_below_drewN | apply below_drew1) | exact HB.out)))); have n5_ := Aside0.mk (below_step (by repeat (first | (with_reducible first | exact HB.out | apply below_alloc | apply pw_below_drewN | apply below_drew1) | exact HB.out)) hb); clear HO876; clear HO878; clear HO883; clear HO885; clear HB; have HO876 := n0_; have HO878 := n1_; have HO883 := n2_; have HO885 := n3_; have HO888 := n4_; have HB := n5_; clear n0_ n1_ n2_ n3_ n4_ n5_; (try clear hb); (try clear hb2); (try clear hk); (try clear hi); (try clear ho0); obtain ⟨Ao18, co18, eo18⟩ := Kd.N_slice HO888.out; subst eo18; obtain ⟨Ao19, co19, eo19⟩ := Kd.N_slice HO883.out; subst eo19) | ((with_reducible refine gate_callee (f := 62) rfl ?_); refine goesL_ (some 29) rfl rfl Try.func62 (by kernel_rfl) rfl #[.slice Ao18 t886.length co18, .slice Ao19 t879.length co19] rfl (by (try simp only [List.map_toArray, List.map_cons, List.map_nil]); first | done | rfl | (simp only [List.length_drop, List.length_take]; rfl)) ?_; (with_reducible refine (tumbrelref05_Same.calls k _ _ t886 _ _ t879 true _ ?side1 ?side2 ?side3 ?side4 A9.out).mono ?_); (case side1 => repeat (first | exact (Kd.N_reads' HO888.out).2.2 | (with_reducible refine Kd.C_alloc ?_ _) | (with_reducible refine Kd.C_drewN ?_ _) | (with_reducible refine Kd.C_drew ?_))); (case side2 => exact (Kd.N_reads' HO888.out).2.1); (case side3 => repeat (first | exact (Kd.N_reads' HO883.out).2.2 | (with_reducible refine Kd.C_alloc ?_ _) | (with_reducible refine Kd.C_drewN ?_ _) | (with_reducible refine Kd.C_drew ?_))); (case side4 => exact (Kd.N_reads' HO883.out).2.1); rintro e w20 ⟨rfl, hb⟩; refine ⟨_, rfl, ?_⟩; have n0_ := Aside0.mk (Kd.N_below (by (with_reducible repeat (first | apply Kd.N_alloc | apply Kd.N_drewN | apply Kd.N_drew)); exact HO876.out) hb); have n1_ := Aside0.mk (Kd.R_below (by (with_reducible repeat (first | apply Kd.R_alloc | apply Kd.R_drewN | apply Kd.R_drew)); exact HO878.out) hb); have n2_ := Aside0.mk (Kd.N_below (by (with_reducible repeat (first | apply Kd.N_alloc | apply Kd.N_drewN | apply Kd.N_drew)); exact HO883.out) hb); have n3_ := Aside0.mk (Kd.R_below (by (with_reducible repeat (first | apply Kd.R_alloc | apply Kd.R_drewN | apply Kd.R_drew)); exact HO885.out) hb); have n4_ := Aside0.mk (Kd.N_below (by (with_reducible repeat (first | apply Kd.N_alloc | apply Kd.N_drewN | apply Kd.N_drew)); exact HO888.out) hb); have n5_ := Aside0.mk (below_step (by repeat (first | (with_reducible first | exact HB.out | apply below_alloc | apply pw_below_drewN | apply below_drew1) | exact HB.out)) hb); clear HO876; clear HO878; clear HO883; clear HO885; clear HO888; clear HB; have HO876 := n0_; have HO878 := n1_; have HO883 := n2_; have HO885 := n3_; have HO888 := n4_; have HB := n5_; clear n0_ n1_ n2_ n3_ n4_ n5_; (try clear hb); (try clear hb2); (try clear hk); (try clear hi); obtain ⟨Ao21, co21, eo21⟩ := Kd.R_slice HO878.out; subst eo21; obtain ⟨Ao22, co22, eo22⟩ := Kd.R_slice HO885.out; subst eo22) | (go_at_call 67; (with_reducible refine (tumbrelref05_Ints.calls k _ _ t873 _ _ t880 true _ ?side1 ?side2 ?side3 ?side4 A11.out).mono ?_); (case side1 => repeat (first | exact (Kd.R_reads' HO878.out).2.2 | (with_reducible refine Kd.C_alloc ?_ _) | (with_reducible refine Kd.C_drewN ?_ _) | (with_reducible refine Kd.C_drew ?_))); (case side2 => exact (Kd.R_reads' HO878.out).2.1); (case side3 => repeat (first | exact (Kd.R_reads' HO885.out).2.2 | (with_reducible refine Kd.C_alloc ?_ _) | (with_reducible refine Kd.C_drewN ?_ _) | (with_reducible refine Kd.C_drew ?_))); (case side4 => exact (Kd.R_reads' HO885.out).2.1); rintro e w' ⟨rfl, ⟨nd, rfl⟩⟩))
          go_ret
          exact ⟨by first | rfl | (simp [errW_none, errW_some] <;> rfl) | (simp [*, errW_none, errW_some] <;> rfl), by repeat (first | (with_reducible first | exact HB.out | apply below_alloc | apply pw_below_drewN | apply below_drew1) | exact HB.out)⟩
        · replace c12 := Bool.eq_false_iff.mpr c12
          subst c12
          have H1 : (some false) = some r := by rw [if_neg (show ¬ (false = true) by decide)] at H; exact H
          clear H
          have H := H1
          clear H1
          obtain rfl := Option.some.inj H
          go_enter Try.func17, Try.ntmps17
          go_wp2_with (first | ((with_reducible refine gate_callee (f := 54) rfl ?_); refine goesL_ (some 9) rfl rfl Try.func54 (by kernel_rfl) rfl #[] rfl (by (try simp only [List.map_toArray, List.map_cons, List.map_nil]); first | done | rfl | (simp only [List.length_drop, List.length_take]; rfl)) ?_; (with_reducible refine (tumbrellaw05_awake.calls k  true _ A2.out).mono ?_); rintro e w23 ⟨rfl, hb⟩; refine ⟨_, rfl, ?_⟩; have n0_ := Aside0.mk (below_step (by repeat (first | (with_reducible first | exact HB.out | apply below_alloc | apply pw_below_drewN | apply below_drew1) | exact HB.out)) hb); clear HB; have HB := n0_; clear n0_; (try clear hb); (try clear hb2); (try clear hk); (try clear hi)) | ((with_reducible refine gate_callee (f := 65) rfl ?_); refine goesL_ (some 16) rfl rfl Try.func65 (by kernel_rfl) rfl #[.slice A0 l0.length c0] rfl (by (try simp only [List.map_toArray, List.map_cons, List.map_nil]); first | done | rfl | (simp only [List.length_drop, List.length_take]; rfl)) ?_; (with_reducible refine (record_All.calls k _ _ l0 t872 t873 t874 _ ?side1 ?side2 A6.out).mono ?_); (case side1 => repeat (first | exact (Kd.C_below HR0.out HB.out) | (with_reducible refine Kd.C_alloc ?_ _) | (with_reducible refine Kd.C_drewN ?_ _) | (with_reducible refine Kd.C_drew ?_))); (case side2 => exact HC0.out); rintro e w24 ⟨v875, v877, rfl, ho0, ho1, hb⟩; refine ⟨_, rfl, ?_⟩; have n0_ := Aside0.mk (Kd.N_lower (Kd.N_mono (ok' := fun k_ => some k_ ≠ (v877 : Value).ownBlock) (Kd.S_N (Kd.S_bound (Kd.S_apart' ho0 (Kd.R_typed ho1) (by decide)))) (fun k_ hk_ => hk_.1.2)) (below_size (by repeat (first | (with_reducible first | exact HB.out | apply below_alloc | apply pw_below_drewN | apply below_drew1) | exact HB.out)))); have n1_ := Aside0.mk (Kd.R_lower ho1 (below_size (by repeat (first | (with_reducible first | exact HB.out | apply below_alloc | apply pw_below_drewN | apply below_drew1) | exact HB.out)))); have n2_ := Aside0.mk (below_step (by repeat (first | (with_reducible first | exact HB.out | apply below_alloc | apply pw_below_drewN | apply below_drew1) | exact HB.out)) hb); clear HB; have HO876 := n0_; have HO878 := n1_; have HB := n2_; clear n0_ n1_ n2_; (try clear hb); (try clear hb2); (try clear hk); (try clear hi); (try clear ho0); (try clear ho1)) | ((with_reducible refine gate_callee (f := 66) rfl ?_); refine goesL_ (some 22) rfl rfl Try.func66 (by kernel_rfl) rfl #[.slice A0 l0.length c0] rfl (by (try simp only [List.map_toArray, List.map_cons, List.map_nil]); first | done | rfl | (simp only [List.length_drop, List.length_take]; rfl)) ?_; (with_reducible refine (tumbrelref05_All.calls k _ _ l0 t879 t880 t881 _ ?side1 ?side2 A7.out).mono ?_); (case side1 => repeat (first | exact (Kd.C_below HR0.out HB.out) | (with_reducible refine Kd.C_alloc ?_ _) | (with_reducible refine Kd.C_drewN ?_ _) | (with_reducible refine Kd.C_drew ?_))); (case side2 => exact HC0.out); rintro e w25 ⟨v882, v884, rfl, ho0, ho1, hb⟩; refine ⟨_, rfl, ?_⟩; have n0_ := Aside0.mk (Kd.N_mono (Kd.N_told (Kd.N_told (Kd.N_old (by (with_reducible repeat (first | apply Kd.N_alloc | apply Kd.N_drewN | apply Kd.N_drew)); exact HO876.out) hb) (Kd.N_base (by first | exact ho0 | exact Kd.S_N ho0))) (Kd.R_base ho1)) (fun _ h_ => h_.1)); have n1_ := Aside0.mk (Kd.R_elder' (by (with_reducible repeat (first | apply Kd.R_alloc | apply Kd.R_drewN | apply Kd.R_drew)); exact HO878.out) (Kd.R_base ho1) hb); have n2_ := Aside0.mk (Kd.N_lower (Kd.N_mono (ok' := fun k_ => some k_ ≠ (v884 : Value).ownBlock ∧ some k_ ≠ (v875 : Value).ownBlock ∧ some k_ ≠ (v877 : Value).ownBlock) (Kd.S_N (Kd.S_bound (Kd.S_apart' ho0 (Kd.R_typed ho1) (by decide)))) (fun k_ hk_ => ⟨hk_.1.2, (Kd.fresh' (Kd.N_lt (by (with_reducible repeat (first | apply Kd.N_alloc | apply Kd.N_drewN | apply Kd.N_drew)); exact HO876.out)) k_ hk_.2.1), (Kd.fresh' (Kd.R_lt (by (with_reducible repeat (first | apply Kd.R_alloc | apply Kd.R_drewN | apply Kd.R_drew)); exact HO878.out)) k_ hk_.2.1)⟩)) (below_size (by repeat (first | (with_reducible first | exact HB.out | apply below_alloc | apply pw_below_drewN | apply below_drew1) | exact HB.out)))); have n3_ := Aside0.mk (Kd.R_lower (Kd.R_new' ho1 (Kd.R_lt (by (with_reducible repeat (first | apply Kd.R_alloc | apply Kd.R_drewN | apply Kd.R_drew)); exact HO878.out))) (below_size (by repeat (first | (with_reducible first | exact HB.out | apply below_alloc | apply pw_below_drewN | apply below_drew1) | exact HB.out)))); have n4_ := Aside0.mk (below_step (by repeat (first | (with_reducible first | exact HB.out | apply below_alloc | apply pw_below_drewN | apply below_drew1) | exact HB.out)) hb); clear HO876; clear HO878; clear HB; have HO876 := n0_; have HO878 := n1_; have HO883 := n2_; have HO885 := n3_; have HB := n4_; clear n0_ n1_ n2_ n3_ n4_; (try clear hb); (try clear hb2); (try clear hk); (try clear hi); (try clear ho0); (try clear ho1); obtain ⟨Ao26, co26, eo26⟩ := Kd.N_slice HO876.out; subst eo26) | ((with_reducible refine gate_callee (f := 63) rfl ?_); refine goesL_ (some 27) rfl rfl Try.func63 (by kernel_rfl) rfl #[.slice Ao26 t872.length co26] rfl (by (try simp only [List.map_toArray, List.map_cons, List.map_nil]); first | done | rfl | (simp only [List.length_drop, List.length_take]; rfl)) ?_; (with_reducible refine (tumbrellaw05_own.calls k (fun k_ => ((some k_ ≠ (v877 : Value).ownBlock ∧ some k_ ≠ (v882 : Value).ownBlock) ∧ some k_ ≠ (v884 : Value).ownBlock)) _ _ t872 t886 _ ?side1 A8.out).mono ?_); (case side1 => exact Kd.N_V (HO876.out)); rintro e w27 ⟨v887, rfl, ho0, hb⟩; refine ⟨_, rfl, ?_⟩; have n0_ := Aside0.mk (Kd.N_elder' (by (with_reducible repeat (first | apply Kd.N_alloc | apply Kd.N_drewN | apply Kd.N_drew)); exact HO876.out) (Kd.N_base (by first | exact ho0 | exact Kd.S_N ho0)) hb); have n1_ := Aside0.mk (Kd.R_below (by (with_reducible repeat (first | apply Kd.R_alloc | apply Kd.R_drewN | apply Kd.R_drew)); exact HO878.out) hb); have n2_ := Aside0.mk (Kd.N_elder' (by (with_reducible repeat (first | apply Kd.N_alloc | apply Kd.N_drewN | apply Kd.N_drew)); exact HO883.out) (Kd.N_base (by first | exact ho0 | exact Kd.S_N ho0)) hb); have n3_ := Aside0.mk (Kd.R_below (by (with_reducible repeat (first | apply Kd.R_alloc | apply Kd.R_drewN | apply Kd.R_drew)); exact HO885.out) hb); have n4_ := Aside0.mk (Kd.N_lower (Kd.N_mono (ok' := fun k_ => some k_ ≠ (v877 : Value).ownBlock ∧ some k_ ≠ (v882 : Value).ownBlock ∧ some k_ ≠ (v884 : Value).ownBlock) ho0 (fun k_ hk_ => ⟨Or.elim hk_ (fun hs_ => hs_.1.1) (fun hn_ => (Kd.fresh' (Kd.R_lt (by (with_reducible repeat (first | apply Kd.R_alloc | apply Kd.R_drewN | apply Kd.R_drew)); exact HO878.out)) k_ hn_)), Or.elim hk_ (fun hs_ => hs_.1.2) (fun hn_ => (Kd.fresh' (Kd.N_lt (by (with_reducible repeat (first | apply Kd.N_alloc | apply Kd.N_drewN | apply Kd.N_drew)); exact HO883.out)) k_ hn_)), Or.elim hk_ (fun hs_ => hs_.2) (fun hn_ => (Kd.fresh' (Kd.R_lt (by (with_reducible repeat (first | apply Kd.R_alloc | apply Kd.R_drewN | apply Kd.R_drew)); exact HO885.out)) k_ hn_))⟩)) (below_size (by repeat (first | (with_reducible first | exact HB.out | apply below_alloc | apply pw_below_drewN | apply below_drew1) | exact HB.out)))); have n5_ := Aside0.mk (below_step (by repeat (first | (with_reducible first | exact HB.out | apply below_alloc | apply pw_below_drewN | apply below_drew1) | exact HB.out)) hb); clear HO876; clear HO878; clear HO883; clear HO885; clear HB; have HO876 := n0_; have HO878 := n1_; have HO883 := n2_; have HO885 := n3_; have HO888 := n4_; have HB := n5_; clear n0_ n1_ n2_ n3_ n4_ n5_; (try clear hb); (try clear hb2); (try clear hk); (try clear hi); (try clear ho0); obtain ⟨Ao28, co28, eo28⟩ := Kd.N_slice HO888.out; subst eo28; obtain ⟨Ao29, co29, eo29⟩ := Kd.N_slice HO883.out; subst eo29) | ((with_reducible refine gate_callee (f := 62) rfl ?_); refine goesL_ (some 29) rfl rfl Try.func62 (by kernel_rfl) rfl #[.slice Ao28 t886.length co28, .slice Ao29 t879.length co29] rfl (by (try simp only [List.map_toArray, List.map_cons, List.map_nil]); first | done | rfl | (simp only [List.length_drop, List.length_take]; rfl)) ?_; (with_reducible refine (tumbrelref05_Same.calls k _ _ t886 _ _ t879 true _ ?side1 ?side2 ?side3 ?side4 A9.out).mono ?_); (case side1 => repeat (first | exact (Kd.N_reads' HO888.out).2.2 | (with_reducible refine Kd.C_alloc ?_ _) | (with_reducible refine Kd.C_drewN ?_ _) | (with_reducible refine Kd.C_drew ?_))); (case side2 => exact (Kd.N_reads' HO888.out).2.1); (case side3 => repeat (first | exact (Kd.N_reads' HO883.out).2.2 | (with_reducible refine Kd.C_alloc ?_ _) | (with_reducible refine Kd.C_drewN ?_ _) | (with_reducible refine Kd.C_drew ?_))); (case side4 => exact (Kd.N_reads' HO883.out).2.1); rintro e w30 ⟨rfl, hb⟩; refine ⟨_, rfl, ?_⟩; have n0_ := Aside0.mk (Kd.N_below (by (with_reducible repeat (first | apply Kd.N_alloc | apply Kd.N_drewN | apply Kd.N_drew)); exact HO876.out) hb); have n1_ := Aside0.mk (Kd.R_below (by (with_reducible repeat (first | apply Kd.R_alloc | apply Kd.R_drewN | apply Kd.R_drew)); exact HO878.out) hb); have n2_ := Aside0.mk (Kd.N_below (by (with_reducible repeat (first | apply Kd.N_alloc | apply Kd.N_drewN | apply Kd.N_drew)); exact HO883.out) hb); have n3_ := Aside0.mk (Kd.R_below (by (with_reducible repeat (first | apply Kd.R_alloc | apply Kd.R_drewN | apply Kd.R_drew)); exact HO885.out) hb); have n4_ := Aside0.mk (Kd.N_below (by (with_reducible repeat (first | apply Kd.N_alloc | apply Kd.N_drewN | apply Kd.N_drew)); exact HO888.out) hb); have n5_ := Aside0.mk (below_step (by repeat (first | (with_reducible first | exact HB.out | apply below_alloc | apply pw_below_drewN | apply below_drew1) | exact HB.out)) hb); clear HO876; clear HO878; clear HO883; clear HO885; clear HO888; clear HB; have HO876 := n0_; have HO878 := n1_; have HO883 := n2_; have HO885 := n3_; have HO888 := n4_; have HB := n5_; clear n0_ n1_ n2_ n3_ n4_ n5_; (try clear hb); (try clear hb2); (try clear hk); (try clear hi); obtain ⟨Ao31, co31, eo31⟩ := Kd.R_slice HO878.out; subst eo31; obtain ⟨Ao32, co32, eo32⟩ := Kd.R_slice HO885.out; subst eo32) | (go_at_call 67; (with_reducible refine (tumbrelref05_Ints.calls k _ _ t873 _ _ t880 false _ ?side1 ?side2 ?side3 ?side4 A11.out).mono ?_); (case side1 => repeat (first | exact (Kd.R_reads' HO878.out).2.2 | (with_reducible refine Kd.C_alloc ?_ _) | (with_reducible refine Kd.C_drewN ?_ _) | (with_reducible refine Kd.C_drew ?_))); (case side2 => exact (Kd.R_reads' HO878.out).2.1); (case side3 => repeat (first | exact (Kd.R_reads' HO885.out).2.2 | (with_reducible refine Kd.C_alloc ?_ _) | (with_reducible refine Kd.C_drewN ?_ _) | (with_reducible refine Kd.C_drew ?_))); (case side4 => exact (Kd.R_reads' HO885.out).2.1); rintro e w' ⟨rfl, ⟨nd, rfl⟩⟩))
          go_ret
          exact ⟨by first | rfl | (simp [errW_none, errW_some] <;> rfl) | (simp [*, errW_none, errW_some] <;> rfl), by repeat (first | (with_reducible first | exact HB.out | apply below_alloc | apply pw_below_drewN | apply below_drew1) | exact HB.out)⟩
      · replace c10 := Bool.eq_false_iff.mpr c10
        subst c10
        have H1 : (some false) = some r := by rw [if_neg (show ¬ (false = true) by decide)] at H; exact H
        clear H
        have H := H1
        clear H1
        obtain rfl := Option.some.inj H
        go_enter Try.func17, Try.ntmps17
        go_wp2_with (first | ((with_reducible refine gate_callee (f := 54) rfl ?_); refine goesL_ (some 9) rfl rfl Try.func54 (by kernel_rfl) rfl #[] rfl (by (try simp only [List.map_toArray, List.map_cons, List.map_nil]); first | done | rfl | (simp only [List.length_drop, List.length_take]; rfl)) ?_; (with_reducible refine (tumbrellaw05_awake.calls k  true _ A2.out).mono ?_); rintro e w33 ⟨rfl, hb⟩; refine ⟨_, rfl, ?_⟩; have n0_ := Aside0.mk (below_step (by repeat (first | (with_reducible first | exact HB.out | apply below_alloc | apply pw_below_drewN | apply below_drew1) | exact HB.out)) hb); clear HB; have HB := n0_; clear n0_; (try clear hb); (try clear hb2); (try clear hk); (try clear hi)) | ((with_reducible refine gate_callee (f := 65) rfl ?_); refine goesL_ (some 16) rfl rfl Try.func65 (by kernel_rfl) rfl #[.slice A0 l0.length c0] rfl (by (try simp only [List.map_toArray, List.map_cons, List.map_nil]); first | done | rfl | (simp only [List.length_drop, List.length_take]; rfl)) ?_; (with_reducible refine (record_All.calls k _ _ l0 t872 t873 t874 _ ?side1 ?side2 A6.out).mono ?_); (case side1 => repeat (first | exact (Kd.C_below HR0.out HB.out) | (with_reducible refine Kd.C_alloc ?_ _) | (with_reducible refine Kd.C_drewN ?_ _) | (with_reducible refine Kd.C_drew ?_))); (case side2 => exact HC0.out); rintro e w34 ⟨v875, v877, rfl, ho0, ho1, hb⟩; refine ⟨_, rfl, ?_⟩; have n0_ := Aside0.mk (Kd.N_lower (Kd.N_mono (ok' := fun k_ => some k_ ≠ (v877 : Value).ownBlock) (Kd.S_N (Kd.S_bound (Kd.S_apart' ho0 (Kd.R_typed ho1) (by decide)))) (fun k_ hk_ => hk_.1.2)) (below_size (by repeat (first | (with_reducible first | exact HB.out | apply below_alloc | apply pw_below_drewN | apply below_drew1) | exact HB.out)))); have n1_ := Aside0.mk (Kd.R_lower ho1 (below_size (by repeat (first | (with_reducible first | exact HB.out | apply below_alloc | apply pw_below_drewN | apply below_drew1) | exact HB.out)))); have n2_ := Aside0.mk (below_step (by repeat (first | (with_reducible first | exact HB.out | apply below_alloc | apply pw_below_drewN | apply below_drew1) | exact HB.out)) hb); clear HB; have HO876 := n0_; have HO878 := n1_; have HB := n2_; clear n0_ n1_ n2_; (try clear hb); (try clear hb2); (try clear hk); (try clear hi); (try clear ho0); (try clear ho1)) | ((with_reducible refine gate_callee (f := 66) rfl ?_); refine goesL_ (some 22) rfl rfl Try.func66 (by kernel_rfl) rfl #[.slice A0 l0.length c0] rfl (by (try simp only [List.map_toArray, List.map_cons, List.map_nil]); first | done | rfl | (simp only [List.length_drop, List.length_take]; rfl)) ?_; (with_reducible refine (tumbrelref05_All.calls k _ _ l0 t879 t880 t881 _ ?side1 ?side2 A7.out).mono ?_); (case side1 => repeat (first | exact (Kd.C_below HR0.out HB.out) | (with_reducible refine Kd.C_alloc ?_ _) | (with_reducible refine Kd.C_drewN ?_ _) | (with_reducible refine Kd.C_drew ?_))); (case side2 => exact HC0.out); rintro e w35 ⟨v882, v884, rfl, ho0, ho1, hb⟩; refine ⟨_, rfl, ?_⟩; have n0_ := Aside0.mk (Kd.N_mono (Kd.N_told (Kd.N_told (Kd.N_old (by (with_reducible repeat (first | apply Kd.N_alloc | apply Kd.N_drewN | apply Kd.N_drew)); exact HO876.out) hb) (Kd.N_base (by first | exact ho0 | exact Kd.S_N ho0))) (Kd.R_base ho1)) (fun _ h_ => h_.1)); have n1_ := Aside0.mk (Kd.R_elder' (by (with_reducible repeat (first | apply Kd.R_alloc | apply Kd.R_drewN | apply Kd.R_drew)); exact HO878.out) (Kd.R_base ho1) hb); have n2_ := Aside0.mk (Kd.N_lower (Kd.N_mono (ok' := fun k_ => some k_ ≠ (v884 : Value).ownBlock ∧ some k_ ≠ (v875 : Value).ownBlock ∧ some k_ ≠ (v877 : Value).ownBlock) (Kd.S_N (Kd.S_bound (Kd.S_apart' ho0 (Kd.R_typed ho1) (by decide)))) (fun k_ hk_ => ⟨hk_.1.2, (Kd.fresh' (Kd.N_lt (by (with_reducible repeat (first | apply Kd.N_alloc | apply Kd.N_drewN | apply Kd.N_drew)); exact HO876.out)) k_ hk_.2.1), (Kd.fresh' (Kd.R_lt (by (with_reducible repeat (first | apply Kd.R_alloc | apply Kd.R_drewN | apply Kd.R_drew)); exact HO878.out)) k_ hk_.2.1)⟩)) (below_size (by repeat (first | (with_reducible first | exact HB.out | apply below_alloc | apply pw_below_drewN | apply below_drew1) | exact HB.out)))); have n3_ := Aside0.mk (Kd.R_lower (Kd.R_new' ho1 (Kd.R_lt (by (with_reducible repeat (first | apply Kd.R_alloc | apply Kd.R_drewN | apply Kd.R_drew)); exact HO878.out))) (below_size (by repeat (first | (with_reducible first | exact HB.out | apply below_alloc | apply pw_below_drewN | apply below_drew1) | exact HB.out)))); have n4_ := Aside0.mk (below_step (by repeat (first | (with_reducible first | exact HB.out | apply below_alloc | apply pw_below_drewN | apply below_drew1) | exact HB.out)) hb); clear HO876; clear HO878; clear HB; have HO876 := n0_; have HO878 := n1_; have HO883 := n2_; have HO885 := n3_; have HB := n4_; clear n0_ n1_ n2_ n3_ n4_; (try clear hb); (try clear hb2); (try clear hk); (try clear hi); (try clear ho0); (try clear ho1); obtain ⟨Ao36, co36, eo36⟩ := Kd.N_slice HO876.out; subst eo36) | ((with_reducible refine gate_callee (f := 63) rfl ?_); refine goesL_ (some 27) rfl rfl Try.func63 (by kernel_rfl) rfl #[.slice Ao36 t872.length co36] rfl (by (try simp only [List.map_toArray, List.map_cons, List.map_nil]); first | done | rfl | (simp only [List.length_drop, List.length_take]; rfl)) ?_; (with_reducible refine (tumbrellaw05_own.calls k (fun k_ => ((some k_ ≠ (v877 : Value).ownBlock ∧ some k_ ≠ (v882 : Value).ownBlock) ∧ some k_ ≠ (v884 : Value).ownBlock)) _ _ t872 t886 _ ?side1 A8.out).mono ?_); (case side1 => exact Kd.N_V (HO876.out)); rintro e w37 ⟨v887, rfl, ho0, hb⟩; refine ⟨_, rfl, ?_⟩; have n0_ := Aside0.mk (Kd.N_elder' (by (with_reducible repeat (first | apply Kd.N_alloc | apply Kd.N_drewN | apply Kd.N_drew)); exact HO876.out) (Kd.N_base (by first | exact ho0 | exact Kd.S_N ho0)) hb); have n1_ := Aside0.mk (Kd.R_below (by (with_reducible repeat (first | apply Kd.R_alloc | apply Kd.R_drewN | apply Kd.R_drew)); exact HO878.out) hb); have n2_ := Aside0.mk (Kd.N_elder' (by (with_reducible repeat (first | apply Kd.N_alloc | apply Kd.N_drewN | apply Kd.N_drew)); exact HO883.out) (Kd.N_base (by first | exact ho0 | exact Kd.S_N ho0)) hb); have n3_ := Aside0.mk (Kd.R_below (by (with_reducible repeat (first | apply Kd.R_alloc | apply Kd.R_drewN | apply Kd.R_drew)); exact HO885.out) hb); have n4_ := Aside0.mk (Kd.N_lower (Kd.N_mono (ok' := fun k_ => some k_ ≠ (v877 : Value).ownBlock ∧ some k_ ≠ (v882 : Value).ownBlock ∧ some k_ ≠ (v884 : Value).ownBlock) ho0 (fun k_ hk_ => ⟨Or.elim hk_ (fun hs_ => hs_.1.1) (fun hn_ => (Kd.fresh' (Kd.R_lt (by (with_reducible repeat (first | apply Kd.R_alloc | apply Kd.R_drewN | apply Kd.R_drew)); exact HO878.out)) k_ hn_)), Or.elim hk_ (fun hs_ => hs_.1.2) (fun hn_ => (Kd.fresh' (Kd.N_lt (by (with_reducible repeat (first | apply Kd.N_alloc | apply Kd.N_drewN | apply Kd.N_drew)); exact HO883.out)) k_ hn_)), Or.elim hk_ (fun hs_ => hs_.2) (fun hn_ => (Kd.fresh' (Kd.R_lt (by (with_reducible repeat (first | apply Kd.R_alloc | apply Kd.R_drewN | apply Kd.R_drew)); exact HO885.out)) k_ hn_))⟩)) (below_size (by repeat (first | (with_reducible first | exact HB.out | apply below_alloc | apply pw_below_drewN | apply below_drew1) | exact HB.out)))); have n5_ := Aside0.mk (below_step (by repeat (first | (with_reducible first | exact HB.out | apply below_alloc | apply pw_below_drewN | apply below_drew1) | exact HB.out)) hb); clear HO876; clear HO878; clear HO883; clear HO885; clear HB; have HO876 := n0_; have HO878 := n1_; have HO883 := n2_; have HO885 := n3_; have HO888 := n4_; have HB := n5_; clear n0_ n1_ n2_ n3_ n4_ n5_; (try clear hb); (try clear hb2); (try clear hk); (try clear hi); (try clear ho0); obtain ⟨Ao38, co38, eo38⟩ := Kd.N_slice HO888.out; subst eo38; obtain ⟨Ao39, co39, eo39⟩ := Kd.N_slice HO883.out; subst eo39) | ((with_reducible refine gate_callee (f := 62) rfl ?_); refine goesL_ (some 29) rfl rfl Try.func62 (by kernel_rfl) rfl #[.slice Ao38 t886.length co38, .slice Ao39 t879.length co39] rfl (by (try simp only [List.map_toArray, List.map_cons, List.map_nil]); first | done | rfl | (simp only [List.length_drop, List.length_take]; rfl)) ?_; (with_reducible refine (tumbrelref05_Same.calls k _ _ t886 _ _ t879 false _ ?side1 ?side2 ?side3 ?side4 A9.out).mono ?_); (case side1 => repeat (first | exact (Kd.N_reads' HO888.out).2.2 | (with_reducible refine Kd.C_alloc ?_ _) | (with_reducible refine Kd.C_drewN ?_ _) | (with_reducible refine Kd.C_drew ?_))); (case side2 => exact (Kd.N_reads' HO888.out).2.1); (case side3 => repeat (first | exact (Kd.N_reads' HO883.out).2.2 | (with_reducible refine Kd.C_alloc ?_ _) | (with_reducible refine Kd.C_drewN ?_ _) | (with_reducible refine Kd.C_drew ?_))); (case side4 => exact (Kd.N_reads' HO883.out).2.1); rintro e w40 ⟨rfl, hb⟩; refine ⟨_, rfl, ?_⟩; have n0_ := Aside0.mk (Kd.N_below (by (with_reducible repeat (first | apply Kd.N_alloc | apply Kd.N_drewN | apply Kd.N_drew)); exact HO876.out) hb); have n1_ := Aside0.mk (Kd.R_below (by (with_reducible repeat (first | apply Kd.R_alloc | apply Kd.R_drewN | apply Kd.R_drew)); exact HO878.out) hb); have n2_ := Aside0.mk (Kd.N_below (by (with_reducible repeat (first | apply Kd.N_alloc | apply Kd.N_drewN | apply Kd.N_drew)); exact HO883.out) hb); have n3_ := Aside0.mk (Kd.R_below (by (with_reducible repeat (first | apply Kd.R_alloc | apply Kd.R_drewN | apply Kd.R_drew)); exact HO885.out) hb); have n4_ := Aside0.mk (Kd.N_below (by (with_reducible repeat (first | apply Kd.N_alloc | apply Kd.N_drewN | apply Kd.N_drew)); exact HO888.out) hb); have n5_ := Aside0.mk (below_step (by repeat (first | (with_reducible first | exact HB.out | apply below_alloc | apply pw_below_drewN | apply below_drew1) | exact HB.out)) hb); clear HO876; clear HO878; clear HO883; clear HO885; clear HO888; clear HB; have HO876 := n0_; have HO878 := n1_; have HO883 := n2_; have HO885 := n3_; have HO888 := n4_; have HB := n5_; clear n0_ n1_ n2_ n3_ n4_ n5_; (try clear hb); (try clear hb2); (try clear hk); (try clear hi)))
        go_ret
        exact ⟨by first | rfl | (simp [errW_none, errW_some] <;> rfl) | (simp [*, errW_none, errW_some] <;> rfl), by repeat (first | (with_reducible first | exact HB.out | apply below_alloc | apply pw_below_drewN | apply below_drew1) | exact HB.out)⟩
  · replace c3 := Bool.eq_false_iff.mpr c3
    subst c3
    have H1 : (some false) = some r := by rw [if_neg (show ¬ (false = true) by decide)] at H; exact H
    clear H
    have H := H1
    clear H1
    obtain rfl := Option.some.inj H
    go_enter Try.func17, Try.ntmps17
    go_wp2_with (first | ((with_reducible refine gate_callee (f := 54) rfl ?_); refine goesL_ (some 9) rfl rfl Try.func54 (by kernel_rfl) rfl #[] rfl (by (try simp only [List.map_toArray, List.map_cons, List.map_nil]); first | done | rfl | (simp only [List.length_drop, List.length_take]; rfl)) ?_; (with_reducible refine (tumbrellaw05_awake.calls k  false _ A2.out).mono ?_); rintro e w41 ⟨rfl, hb⟩; refine ⟨_, rfl, ?_⟩; have n0_ := Aside0.mk (below_step (by repeat (first | (with_reducible first | exact HB.out | apply below_alloc | apply pw_below_drewN | apply below_drew1) | exact HB.out)) hb); clear HB; have HB := n0_; clear n0_; (try clear hb); (try clear hb2); (try clear hk); (try clear hi)))
    go_ret
    exact ⟨by first | rfl | (simp [errW_none, errW_some] <;> rfl) | (simp [*, errW_none, errW_some] <;> rfl), by repeat (first | (with_reducible first | exact HB.out | apply below_alloc | apply pw_below_drewN | apply below_drew1) | exact HB.out)⟩
/-- THE ONE PURE STATEMENT of tumbrellaw05_RecordLists: yours. -/
def tumbrellaw05_RecordLists.Pure : Prop := ∀ (l0 : List Int), l0.length ≤ maxLen → l0.length * 1 ≤ 140737488351232 → (∀ x ∈ l0, (Lit.int .u8 x).wf = true) → ∃ k, tumbrellaw05_RecordLists.f k l0 = some true
theorem tumbrellaw05_RecordLists.walk (P : tumbrellaw05_RecordLists.Pure) (a0 : Option Addr) (len0 cap0 : Nat) (z0 : List Int) (w : World) (w0 : (a0 = none ∧ len0 = 0 ∧ cap0 = 0 ∧ z0 = []) ∨ ∃ x, a0 = some x ∧ len0 ≤ cap0 ∧ cap0 ≤ maxLen ∧ z0.length = cap0 ∧ (∀ i, i < z0.length → w.cell? (x.add i) = some (.int .u8 (z0.getD i 0))) ∧ ∀ n ∈ z0, (Lit.int .u8 n).wf = true) (y0 : len0 * 1 ≤ 140737488351232) :
    Calls Try.prog 17 #[.slice a0 len0 cap0] w fun e w' => e = .returned (.bool true) ∧ Below w.heap.size w w' := by
  obtain ⟨l0, rfl, hr0, hm0, hw0, hc0⟩ := ReadsInt.ofRowC w0
  obtain ⟨k, h⟩ := P l0 hm0 y0 hw0
  refine (tumbrellaw05_RecordLists.calls k _ _ l0 true w (Kd.C_of_reads (d := (0 : Int)) (h1 := fun _ => rfl) hr0) hc0 h).mono ?_
  rintro e w' ⟨rfl, hd⟩
  exact ⟨rfl, hd⟩
end Go.Proofs.Ytojepleodijdeaa.B
namespace Go.Proofs.Ytojepleodijdeaa.VP
set_option linter.unusedVariables false
set_option linter.unusedSimpArgs false
open Go.RowKit Go.Proofs.Ytojepleodijdeaa.B Go.Proofs.YtojepleodijdeaaW.PrintWords Go.Proofs.YtojepleodijdeaaW.PrintLast Go.Proofs.YtojepleodijdeaaW.PrintMore
def isB (l : List Int) : Prop := ∀ x ∈ l, 0 ≤ x ∧ x ≤ 255
theorem isB_of_wf {l : List Int} (h : ∀ x ∈ l, (Lit.int .u8 x).wf = true) : isB l := fun x hx => by
  have := h x hx
  simp [Lit.wf, IntKind.min, IntKind.max, IntKind.signed, IntKind.bits] at this
  omega
theorem isB_drop {l : List Int} (h : isB l) (n : Nat) : isB (l.drop n) := fun x hx => h x (List.mem_of_mem_drop hx)
theorem isB_take {l : List Int} (h : isB l) (n : Nat) : isB (l.take n) := fun x hx => h x (List.mem_of_mem_take hx)
/-- the number that bytes begin with, from the i-th on -/
def gget : Nat → Int → List Int → Int × Int × Int
  | _, _, [] => (0, 0, 3)
  | i, acc, c :: l =>
    if i = 9 ∧ c > 1 then (0, 0, 2)
    else if c ≥ 128 then gget (i + 1) (acc + (c % 128) * 128 ^ i) l
    else if c = 0 ∧ 0 < i then (0, 0, 2)
    else (acc + (c % 128) * 128 ^ i, (i : Int) + 1, 0)
theorem or_comm64 (x y : Int) : bits .or .u64 x y = bits .or .u64 y x := by
  simp only [bits]; rw [BitVec.or_comm]
theorem pow_128 (i : Nat) : (128 : Int) ^ i = 2 ^ (7 * i) := by
  rw [show (128 : Int) = 2 ^ 7 from rfl, ← Int.pow_mul]
theorem wraps_u64 (n : Int) (h₀ : 0 ≤ n) (h₁ : n < 2 ^ 64) : IntKind.u64.wrap n = n := by rw [IntKind.wrap_u64]; omega
theorem pow_le8 (i : Nat) (hi : i ≤ 8) : (128 : Int) ^ i ≤ 72057594037927936 := by
  rw [show (72057594037927936 : Int) = 128 ^ 8 from rfl]
  exact_mod_cast Nat.pow_le_pow_right (show 0 < 128 by decide) hi
theorem pow_pos128 (i : Nat) : (0 : Int) < 128 ^ i := Int.pow_pos (by decide)
theorem pow_le9 (i : Nat) (hi : i ≤ 9) : (128 : Int) ^ i ≤ 9223372036854775808 := by
  rw [show (9223372036854775808 : Int) = 128 ^ 9 from rfl]
  exact_mod_cast Nat.pow_le_pow_right (show 0 < 128 by decide) hi
theorem part_lt (i : Nat) (hi : i ≤ 9) (c : Int) (h0 : 0 ≤ c) (h1 : i = 9 → c ≤ 1) : 0 ≤ (c % 128) * 128 ^ i ∧ (c % 128) * 128 ^ i ≤ 9223372036854775808 := by
  have hp := pow_pos128 i
  refine ⟨Int.mul_nonneg (by omega) (by omega), ?_⟩
  rcases Nat.lt_or_ge i 9 with h9 | h9
  · have h8 := pow_le8 i (by omega)
    calc (c % 128) * 128 ^ i ≤ 127 * 128 ^ i := Int.mul_le_mul_of_nonneg_right (by omega) (by omega)
      _ ≤ 9223372036854775808 := by omega
  · have : i = 9 := by omega
    subst this
    have := h1 rfl
    have h2 : c % 128 ≤ 1 := by omega
    omega
theorem or_step (i : Nat) (hi : i ≤ 9) (acc c : Int) (h0 : 0 ≤ acc) (h1 : acc < 128 ^ i) (hc0 : 0 ≤ c) (hc : i = 9 → c ≤ 1) :
    bits .or .u64 acc (shl .u64 (IntKind.u64.wrap (Int.tmod c 128)) (7 * (i : Int))) = acc + (c % 128) * 128 ^ i := by
  have hp := part_lt i hi c hc0 hc
  have h9 := pow_le9 i hi
  rw [Int.tmod_eq_emod_of_nonneg hc0, wraps_u64 (c % 128) (by omega) (by omega)]
  have e : min (7 * (i : Int)).toNat IntKind.u64.bits = 7 * i := by
    have : (7 * (i : Int)).toNat = 7 * i := by omega
    rw [this]; simp [IntKind.bits]; omega
  rw [shl, e, ← pow_128, wraps_u64 _ hp.1 (by omega), or_comm64]
  have hw : ∀ n : Int, 0 ≤ n → n < 2 ^ 64 → IntKind.u64.wrap n = n := wraps_u64
  rw [bits_join .u64 64 (by decide) hw (7 * i) _ acc hp.1 (by rw [← pow_128]; exact Int.mul_emod_left _ _) (by omega) h0 (by rw [← pow_128]; exact h1) (by omega)]
  omega
theorem rd_at {l : List Int} {i : Nat} (h : i < l.length) : rd l (i : Int) = l[i] := by
  simp [rd, List.getD_eq_getElem?_getD, List.getElem?_eq_getElem h]
theorem wrap_succ (i : Nat) (h : i < 9223372036854775807) : wrap64 ((i : Int) + 1) = ((i + 1 : Nat) : Int) := by
  unfold wrap64; omega
theorem wrap_7 (i : Nat) (h : i ≤ 9) : wrap64 (7 * (i : Int)) = 7 * (i : Int) := by
  unfold wrap64; omega
theorem get_loop (l : List Int) (hb : isB l) (hl : l.length ≤ 140737488355328) : ∀ (d i : Nat) (acc : Int), l.length - i = d → i ≤ 9 → 0 ≤ acc → acc < 128 ^ i →
    Ev (fun k => vint_Get.l0 k acc l (l.length : Int) (i : Int)) (gget i acc (l.drop i)) := by
  intro d
  induction d with
  | zero =>
    intro i acc hd hi h0 h1
    rw [List.drop_of_length_le (by omega)]
    refine Ev.step (f := fun _ => some (0, 0, 3)) (fun k => ?_) (Ev.now _)
    simp only [vint_Get.l0]
    rw [if_neg (by omega)]
  | succ d ih =>
    intro i acc hd hi h0 h1
    have hlt : i < l.length := by omega
    have hc := hb l[i] (List.getElem_mem hlt)
    rw [List.drop_eq_getElem_cons hlt]
    refine Ev.step (f := fun k => vint_Get.j1 k acc i l[i] l (l.length : Int) i (decide (i = 9) && decide (l[i] > 1))) (fun k => ?_) ?_
    · simp only [vint_Get.l0]
      rw [if_pos (by omega), if_pos (by omega), if_pos (by omega), rd_at hlt]
      by_cases h9 : i = 9
      · subst h9; simp
      · rw [if_neg (by omega)]; simp [h9]
    · have hw7 := wrap_7 i hi
      by_cases hbad : i = 9 ∧ l[i] > 1
      · refine Ev.step (f := fun _ => some (0, 0, 2)) (fun k => ?_) (by rw [gget, if_pos hbad]; exact Ev.now _)
        simp only [vint_Get.j1]
        rw [if_pos (by rw [Bool.and_eq_true]; exact ⟨decide_eq_true hbad.1, decide_eq_true hbad.2⟩)]
      · have hcond : (decide (i = 9) && decide (l[i] > 1)) = false := by
          simp only [Bool.and_eq_false_iff, decide_eq_false_iff_not]
          by_cases h9 : i = 9
          · exact .inr (fun h => hbad ⟨h9, h⟩)
          · exact .inl h9
        have hor := or_step i hi acc l[i] h0 h1 hc.1 (fun h9 => by have := fun h => hbad ⟨h9, h⟩; omega)
        rw [hcond, gget, if_neg hbad]
        by_cases h128 : l[i] ≥ 128
        · rw [if_pos h128]
          have hi8 : i ≤ 8 := by
            rcases Nat.lt_or_ge i 9 with h | h
            · omega
            · exact absurd ⟨by omega, by omega⟩ hbad
          refine Ev.step (f := fun k => vint_Get.l0 k (acc + (l[i] % 128) * 128 ^ i) l (l.length : Int) ((i + 1 : Nat) : Int)) (fun k => ?_) ?_
          · simp only [vint_Get.j1]
            rw [if_neg (by decide), hw7, if_pos (by omega), if_pos h128, hor, wrap_succ i (by omega)]
          · refine ih (i + 1) _ (by omega) (by omega) ?_ ?_
            · have := part_lt i hi l[i] hc.1 (fun h => by omega)
              omega
            · have hp := pow_pos128 i
              rw [Int.pow_succ]
              have : (l[i] % 128) * 128 ^ i ≤ 127 * 128 ^ i := Int.mul_le_mul_of_nonneg_right (by omega) (by omega)
              omega
        · rw [if_neg h128]
          by_cases hz : l[i] = 0 ∧ 0 < i
          · rw [if_pos hz]
            refine Ev.step (f := fun _ => some (0, 0, 2)) (fun k => ?_) (Ev.now _)
            simp only [vint_Get.j1]
            rw [if_neg (by decide), hw7, if_pos (by omega), if_neg h128, if_pos hz.1, if_pos (by omega)]
          · rw [if_neg hz]
            refine Ev.step (f := fun _ => some (acc + (l[i] % 128) * 128 ^ i, (i : Int) + 1, 0)) (fun k => ?_) (Ev.now _)
            simp only [vint_Get.j1]
            rw [if_neg (by decide), hw7, if_pos (by omega), if_neg h128, hor, wrap_succ i (by omega)]
            by_cases h0' : l[i] = 0
            · rw [if_pos h0', if_neg (by omega)]; rfl
            · rw [if_neg h0']; rfl
theorem get_ev (l : List Int) (hb : isB l) (hl : l.length ≤ 140737488355328) : Ev (fun k => vint_Get.f k l) (gget 0 0 l) := by
  have := get_loop l hb hl l.length 0 0 (by omega) (by omega) (by omega) (by decide)
  simpa [vint_Get.f] using this
end Go.Proofs.Ytojepleodijdeaa.VP
namespace Go.Proofs.Ytojepleodijdeaa.VP
set_option linter.unusedVariables false
set_option linter.unusedSimpArgs false
open Go.RowKit Go.Proofs.Ytojepleodijdeaa.B Go.Proofs.YtojepleodijdeaaW.PrintWords Go.Proofs.YtojepleodijdeaaW.PrintLast Go.Proofs.YtojepleodijdeaaW.PrintMore
/-- bytes that are a number's are just those that it has -/
theorem gget_back (l : List Int) : ∀ (i : Nat) (acc m u : Int), isB l → i ≤ 9 → gget i acc l = (m, u, 0) →
    ∃ n : Nat, m = acc + (n : Int) * 128 ^ i ∧ u = ((i + (vputF (9 - i) n).length : Nat) : Int) ∧ l.take (vputF (9 - i) n).length = vputF (9 - i) n ∧ (vputF (9 - i) n).length ≤ l.length ∧ (0 < i → 0 < n) ∧ n < 128 ^ (9 - i) * 2 := by
  induction l with
  | nil => intro i acc m u _ _ h; simp [gget] at h
  | cons c l ih =>
    intro i acc m u hb hi h
    have hc := hb c (List.mem_cons_self ..)
    have hb' : isB l := fun x hx => hb x (List.mem_cons_of_mem _ hx)
    have hp : 0 < 128 ^ (9 - i) := Nat.pow_pos (by decide)
    rw [gget] at h
    by_cases h1 : i = 9 ∧ c > 1
    · rw [if_pos h1] at h; simp at h
    rw [if_neg h1] at h
    by_cases h2 : c ≥ 128
    · rw [if_pos h2] at h
      have hi8 : i ≤ 8 := by
        rcases Nat.lt_or_ge i 9 with h | h
        · omega
        · exact absurd ⟨by omega, by omega⟩ h1
      obtain ⟨n, e1, e2, e3, e4, e5, e6⟩ := ih (i + 1) _ _ _ hb' (by omega) h
      have hn := e5 (by omega)
      refine ⟨128 * n + (c % 128).toNat, ?_, ?_, ?_, ?_, by omega, ?_⟩
      all_goals
        have e9 : 9 - i = (9 - (i + 1)) + 1 := by omega
        have hv : vputF (9 - i) (128 * n + (c % 128).toNat) = c :: vputF (9 - (i + 1)) n := by
          rw [e9, vputF, if_neg (by omega)]
          have q1 : (128 * n + (c % 128).toNat) / 128 = n := by omega
          have q2 : (((128 * n + (c % 128).toNat) % 128 + 128 : Nat) : Int) = c := by omega
          rw [q1, q2]
      · rw [e1, Int.pow_succ]
        have : ((128 * n + (c % 128).toNat : Nat) : Int) = 128 * (n : Int) + c % 128 := by omega
        rw [this, Int.add_mul, Int.mul_comm (128 ^ i) 128, ← Int.mul_assoc, Int.mul_comm (n : Int) 128]
        omega
      · rw [e2, hv, List.length_cons]; omega
      · rw [hv, List.length_cons, List.take_succ_cons, e3]
      · rw [hv, List.length_cons, List.length_cons]; omega
      · rw [e9, Nat.pow_succ]; omega
    · rw [if_neg h2] at h
      by_cases h3 : c = 0 ∧ 0 < i
      · rw [if_pos h3] at h; simp at h
      rw [if_neg h3] at h
      simp only [Prod.mk.injEq, and_true] at h
      have hv : vputF (9 - i) c.toNat = [c] := by
        have q : ((c.toNat : Nat) : Int) = c := by omega
        cases h9 : 9 - i with
        | zero => simp [vputF, q]
        | succ j => rw [vputF, if_pos (by omega), q]
      refine ⟨c.toNat, ?_, ?_, ?_, ?_, by omega, ?_⟩
      · rw [← h.1]
        have q : c % 128 = ((c.toNat : Nat) : Int) := by omega
        rw [q]
      · rw [hv, ← h.2]; simp
      · rw [hv]; rfl
      · rw [hv]; simp
      · rcases Nat.lt_or_ge i 9 with h9 | h9
        · have : 128 ^ 1 ≤ 128 ^ (9 - i) := Nat.pow_le_pow_right (by decide) (by omega)
          omega
        · have : i = 9 := by omega
          subst this
          simp
          omega
theorem dec_cons {x y : Int} {l m : List Int} (h : x = y) : decide (x :: l = y :: m) = decide (l = m) := by subst h; simp
theorem dec_cons_ne {x y : Int} {l m : List Int} (h : x ≠ y) : decide (x :: l = y :: m) = false := by simp [h]
theorem same_loop (a b : List Int) (hl : a.length = b.length) (h : a.length ≤ 140737488355328) : ∀ (d i : Nat), a.length - i = d → Ev (fun k => tumbrelref01_Same.l0 k a b (i : Int)) (decide (a.drop i = b.drop i)) := by
  intro d
  induction d with
  | zero =>
    intro i hd
    refine Ev.step (f := fun _ => some true) (fun k => ?_) ?_
    · simp only [tumbrelref01_Same.l0]; rw [if_neg (by omega)]
    · rw [List.drop_of_length_le (by omega), List.drop_of_length_le (by omega)]; exact Ev.now _
  | succ d ih =>
    intro i hd
    have h1 : i < a.length := by omega
    have h2 : i < b.length := by omega
    rw [List.drop_eq_getElem_cons h1, List.drop_eq_getElem_cons h2]
    by_cases he : a[i] = b[i]
    · refine Ev.step (f := fun k => tumbrelref01_Same.l0 k a b ((i + 1 : Nat) : Int)) (fun k => ?_) ?_
      · simp only [tumbrelref01_Same.l0]
        rw [if_pos (by omega), if_pos (by omega), if_pos (by omega), rd_at h1, rd_at h2, if_pos he, wrap_succ i (by omega)]
      · rw [dec_cons he]; exact ih (i + 1) (by omega)
    · refine Ev.step (f := fun _ => some false) (fun k => ?_) ?_
      · simp only [tumbrelref01_Same.l0]
        rw [if_pos (by omega), if_pos (by omega), if_pos (by omega), rd_at h1, rd_at h2, if_neg he]
      · rw [dec_cons_ne he]; exact Ev.now _
theorem same_ev (a b : List Int) (h : a.length ≤ 140737488355328) : Ev (fun k => tumbrelref01_Same.f k a b) (decide (a = b)) := by
  by_cases hl : a.length = b.length
  · refine Ev.congr (f := fun k => tumbrelref01_Same.l0 k a b ((0 : Nat) : Int)) (fun k => ?_) ?_
    · simp only [tumbrelref01_Same.f]; rw [if_pos (by omega)]; rfl
    · have := same_loop a b hl h a.length 0 (by omega)
      simpa using this
  · refine Ev.congr (f := fun _ => some false) (fun k => ?_) ?_
    · simp only [tumbrelref01_Same.f]; rw [if_neg (by omega)]
    · have : decide (a = b) = false := by simp; intro e; exact hl (by rw [e])
      rw [this]; exact Ev.now _
theorem same2_loop (a b : List Int) (hl : a.length = b.length) (h : a.length ≤ 140737488355328) : ∀ (d i : Nat), a.length - i = d → Ev (fun k => tumbrelref02_Same.l0 k a b (i : Int)) (decide (a.drop i = b.drop i)) := by
  intro d
  induction d with
  | zero =>
    intro i hd
    refine Ev.step (f := fun _ => some true) (fun k => ?_) ?_
    · simp only [tumbrelref02_Same.l0]; rw [if_neg (by omega)]
    · rw [List.drop_of_length_le (by omega), List.drop_of_length_le (by omega)]; exact Ev.now _
  | succ d ih =>
    intro i hd
    have h1 : i < a.length := by omega
    have h2 : i < b.length := by omega
    rw [List.drop_eq_getElem_cons h1, List.drop_eq_getElem_cons h2]
    by_cases he : a[i] = b[i]
    · refine Ev.step (f := fun k => tumbrelref02_Same.l0 k a b ((i + 1 : Nat) : Int)) (fun k => ?_) ?_
      · simp only [tumbrelref02_Same.l0]
        rw [if_pos (by omega), if_pos (by omega), if_pos (by omega), rd_at h1, rd_at h2, if_pos he, wrap_succ i (by omega)]
      · rw [dec_cons he]; exact ih (i + 1) (by omega)
    · refine Ev.step (f := fun _ => some false) (fun k => ?_) ?_
      · simp only [tumbrelref02_Same.l0]
        rw [if_pos (by omega), if_pos (by omega), if_pos (by omega), rd_at h1, rd_at h2, if_neg he]
      · rw [dec_cons_ne he]; exact Ev.now _
theorem same2_ev (a b : List Int) (h : a.length ≤ 140737488355328) : Ev (fun k => tumbrelref02_Same.f k a b) (decide (a = b)) := by
  by_cases hl : a.length = b.length
  · refine Ev.congr (f := fun k => tumbrelref02_Same.l0 k a b ((0 : Nat) : Int)) (fun k => ?_) ?_
    · simp only [tumbrelref02_Same.f]; rw [if_pos (by omega)]; rfl
    · have := same2_loop a b hl h a.length 0 (by omega)
      simpa using this
  · refine Ev.congr (f := fun _ => some false) (fun k => ?_) ?_
    · simp only [tumbrelref02_Same.f]; rw [if_neg (by omega)]
    · have : decide (a = b) = false := by simp; intro e; exact hl (by rw [e])
      rw [this]; exact Ev.now _
end Go.Proofs.Ytojepleodijdeaa.VP
namespace Go.Proofs.Ytojepleodijdeaa.VP
set_option linter.unusedVariables false
set_option linter.unusedSimpArgs false
open Go.RowKit Go.Proofs.Ytojepleodijdeaa.B Go.Proofs.YtojepleodijdeaaW.PrintWords Go.Proofs.YtojepleodijdeaaW.PrintLast Go.Proofs.YtojepleodijdeaaW.PrintMore
open Go.Proofs.Ytojepleodijdeaa.Crc (steps)
theorem w32_of {a : Int} (h : 0 ≤ a ∧ a < 4294967296) : w32 (BitVec.ofNat 32 a.toNat) = a := by
  unfold w32; rw [BitVec.toNat_ofNat]; omega
theorem w32_not (x : BitVec 32) : w32 (~~~ x) = 4294967295 - w32 x := by
  have := x.isLt
  unfold w32; rw [BitVec.toNat_not]; omega
/-- the sum of more bytes -/
def moreL (a : Int) (l : List Int) : Int := w32 (~~~ crcL (~~~ BitVec.ofNat 32 a.toNat) l)
theorem ofL_lt (l : List Int) : 0 ≤ ofL l ∧ ofL l < 4294967296 := w32_lt _
theorem more_f {a : Int} {l : List Int} (h : 0 ≤ a ∧ a < 4294967296) (hb : isB l) : sum_More.f a l = some (moreL a l) := by
  unfold sum_More.f; rw [if_pos ⟨h, hb⟩]; rfl
theorem of_f {l : List Int} (hb : isB l) : sum_Of.f l = some (ofL l) := by
  unfold sum_Of.f; rw [more_f (by decide) hb]; rfl
theorem put_f {l : List Int} (hb : isB l) (hl : l.length ≤ 1000000000) : sum_Put.f l = some (putL l) := by
  unfold sum_Put.f; rw [if_pos ⟨hb, by omega⟩]
theorem fourL_len (a : Int) : (fourL a).length = 4 := rfl
theorem putL_len (l : List Int) : (putL l).length = l.length + 4 := by simp [putL, fourL_len]
theorem rmore_loop (l : List Int) (hb : isB l) (hl : l.length ≤ 1000000000) : ∀ (d i : Nat) (s : BitVec 32), l.length - i = d → Ev (fun k => tumbrelref01_More.l0 k l (w32 s) (i : Int)) (w32 (~~~ crcL s (l.drop i))) := by
  intro d
  induction d with
  | zero =>
    intro i s hd
    rw [List.drop_of_length_le (by omega)]
    refine Ev.step (f := fun _ => some (w32 (~~~ s))) (fun k => ?_) (Ev.now _)
    have h := w32_lt s
    simp only [tumbrelref01_More.l0]
    rw [if_neg (by omega), w32_not]
    congr 1
    omega
  | succ d ih =>
    intro i s hd
    have h1 : i < l.length := by omega
    have hc := hb l[i] (List.getElem_mem h1)
    rw [List.drop_eq_getElem_cons h1]
    obtain ⟨K, hK⟩ := rentry_ev (s ^^^ b32 l[i])
    obtain ⟨K2, hK2⟩ := ih (i + 1) (crcByte s l[i]) (by omega)
    dsimp only at hK hK2
    refine ⟨K + K2 + 1, fun k hk => ?_⟩
    obtain ⟨k, rfl⟩ : ∃ m, k = m + 1 := ⟨k - 1, by omega⟩
    simp only [tumbrelref01_More.l0]
    rw [if_pos (by omega), if_pos (by omega), rd_at h1, show l[i] % (4294967296 : Int) = w32 (b32 l[i]) by rw [b32_val hc]; omega, xor32, hK k (by omega)]
    simp only [Option.bind_some]
    rw [wrap_succ i (by omega)]
    exact hK2 k (by omega)
theorem rmore_ev {a : Int} {l : List Int} (h : 0 ≤ a ∧ a < 4294967296) (hb : isB l) (hl : l.length ≤ 1000000000) : Ev (fun k => tumbrelref01_More.f k a l) (moreL a l) := by
  have := rmore_loop l hb hl l.length 0 (~~~ BitVec.ofNat 32 a.toNat) (by omega)
  rw [w32_not, w32_of h] at this
  refine Ev.congr (fun k => ?_) this
  simp only [tumbrelref01_More.f]
  rw [show ((4294967295 : Int) - a) % 4294967296 = 4294967295 - a by omega]
  rfl
theorem rof_ev {l : List Int} (hb : isB l) (hl : l.length ≤ 1000000000) : Ev (fun k => tumbrelref01_Of.f k l) (ofL l) := by
  obtain ⟨K, hK⟩ := rmore_ev (a := 0) (by decide) hb hl
  exact ⟨K, fun k hk => by have := hK k hk; dsimp only at this; simp only [tumbrelref01_Of.f, this, Option.bind_some]; rfl⟩
theorem rfour_ev {a : Int} (h : 0 ≤ a ∧ a < 4294967296) : Ev (fun k => tumbrelref01_Four.f k a) (fourL a) := by
  refine ⟨5, fun k hk => at_rounds (g := fun k => tumbrelref01_Four.f k a) (fun k => tumbrelref01_Four.mono a k) hk ?_⟩
  have d : ∀ x : Int, 0 ≤ x → Int.tdiv x 256 = x / 256 := fun x hx => Int.tdiv_eq_ediv_of_nonneg hx
  have m : ∀ x : Int, 0 ≤ x → Int.tmod x 256 = x % 256 := fun x hx => Int.tmod_eq_emod_of_nonneg hx
  have w : ∀ i : Int, 0 ≤ i → i < 10 → wrap64 (i + 1) = i + 1 := fun i h0 h1 => by unfold wrap64; omega
  simp only [tumbrelref01_Four.f, tumbrelref01_Four.l0]
  rw [if_pos (by decide), if_pos (by decide), w 0 (by decide) (by decide), if_pos (by decide), if_pos (by simp), w (0 + 1) (by decide) (by decide), if_pos (by decide), if_pos (by simp), w (0 + 1 + 1) (by decide) (by decide), if_pos (by decide), if_pos (by simp), w (0 + 1 + 1 + 1) (by decide) (by decide), if_neg (by decide)]
  simp only [List.nil_append, List.cons_append, fourL]
  congr 1
  rw [d a h.1, d _ (by omega), d _ (by omega), m a h.1, m _ (by omega), m _ (by omega), m _ (by omega)]
  simp only [List.cons.injEq, and_true]
  omega
theorem rput_ev1 {l : List Int} (hb : isB l) (hl : l.length ≤ 1000000000) : Ev (fun k => tumbrelref01_Put.f k l) (putL l) := by
  obtain ⟨K1, h1⟩ := rof_ev hb hl
  obtain ⟨K2, h2⟩ := rfour_ev (ofL_lt l)
  dsimp only at h1 h2
  refine ⟨K1 + K2, fun k hk => ?_⟩
  simp only [tumbrelref01_Put.f, Option.bind_some, List.nil_append, List.length_nil]
  rw [if_pos (by omega), h1 k (by omega)]
  simp only [Option.bind_some]
  rw [h2 k (by omega)]
  simp only [Option.bind_some]
  rw [if_pos (by rw [fourL_len]; omega)]
  rfl
/-- without the sum -/
def cutL (l : List Int) : List Int × Bool :=
  if l.length < 4 then ([], false)
  else if l.drop (l.length - 4) = fourL (ofL (l.take (l.length - 4))) then (l.take (l.length - 4), true) else ([], false)
theorem eq_loop (a b : List Int) (hl : a.length = b.length) (h : a.length ≤ 140737488355328) : ∀ (d i : Nat), a.length - i = d → Ev (fun k => slices_Equal_byte_byte.l0 k a b (a.length : Int) (i : Int)) (decide (a.drop i = b.drop i)) := by
  intro d
  induction d with
  | zero =>
    intro i hd
    refine Ev.step (f := fun _ => some true) (fun k => ?_) ?_
    · simp only [slices_Equal_byte_byte.l0]; rw [if_neg (by omega)]
    · rw [List.drop_of_length_le (by omega), List.drop_of_length_le (by omega)]; exact Ev.now _
  | succ d ih =>
    intro i hd
    have h1 : i < a.length := by omega
    have h2 : i < b.length := by omega
    rw [List.drop_eq_getElem_cons h1, List.drop_eq_getElem_cons h2]
    by_cases he : a[i] = b[i]
    · refine Ev.step (f := fun k => slices_Equal_byte_byte.l0 k a b (a.length : Int) ((i + 1 : Nat) : Int)) (fun k => ?_) ?_
      · simp only [slices_Equal_byte_byte.l0]
        rw [if_pos (by omega), if_pos (by omega), if_pos (by omega), if_pos (by omega), rd_at h1, rd_at h2, if_pos he, wrap_succ i (by omega)]
      · rw [dec_cons he]; exact ih (i + 1) (by omega)
    · refine Ev.step (f := fun _ => some false) (fun k => ?_) ?_
      · simp only [slices_Equal_byte_byte.l0]
        rw [if_pos (by omega), if_pos (by omega), if_pos (by omega), if_pos (by omega), rd_at h1, rd_at h2, if_neg he]
      · rw [dec_cons_ne he]; exact Ev.now _
theorem eq_ev (a b : List Int) (h : a.length ≤ 140737488355328) : Ev (fun k => slices_Equal_byte_byte.f k a b) (decide (a = b)) := by
  by_cases hl : a.length = b.length
  · refine Ev.congr (f := fun k => slices_Equal_byte_byte.l0 k a b (a.length : Int) ((0 : Nat) : Int)) (fun k => ?_) ?_
    · simp only [slices_Equal_byte_byte.f]; rw [if_pos (by omega)]; rfl
    · have := eq_loop a b hl h a.length 0 (by omega)
      simpa using this
  · refine Ev.congr (f := fun _ => some false) (fun k => ?_) ?_
    · simp only [slices_Equal_byte_byte.f]; rw [if_neg (by omega)]
    · have : decide (a = b) = false := by simp; intro e; exact hl (by rw [e])
      rw [this]; exact Ev.now _
theorem cut_ev {l : List Int} (hb : isB l) (hl : l.length ≤ 1000000000) : Ev (fun k => sum_Cut.f k l) (cutL l) := by
  unfold cutL
  by_cases h4 : l.length < 4
  · rw [if_pos h4]
    refine Ev.congr (f := fun _ => some (([] : List Int), false)) (fun k => ?_) (Ev.now _)
    simp only [sum_Cut.f]
    rw [if_pos (by unfold wrap64; omega)]
  · rw [if_neg h4]
    have hw : wrap64 ((l.length : Int) - 4) = ((l.length - 4 : Nat) : Int) := by unfold wrap64; omega
    have hbt := isB_take hb (l.length - 4)
    obtain ⟨K, hK⟩ := eq_ev (l.drop (l.length - 4)) (fourL (ofL (l.take (l.length - 4)))) (by rw [List.length_drop]; omega)
    dsimp only at hK
    refine ⟨K, fun k hk => ?_⟩
    simp only [sum_Cut.f, hw]
    rw [if_neg (by omega), if_pos (by omega), if_pos (by omega)]
    simp only [Int.toNat_natCast, of_f hbt, Option.bind_some]
    have hf : sum_four.f (ofL (l.take (l.length - 4))) = some (fourL (ofL (l.take (l.length - 4)))) := rfl
    rw [hf]
    simp only [Option.bind_some]
    rw [hK k hk]
    simp only [Option.bind_some]
    by_cases he : l.drop (l.length - 4) = fourL (ofL (l.take (l.length - 4)))
    · rw [if_pos he, if_pos (decide_eq_true he)]
      have hc : slices_Clone_byte_byte.f (l.take (l.length - 4)) = some (l.take (l.length - 4)) := by
        unfold slices_Clone_byte_byte.f
        rw [if_pos (by rw [List.length_take]; omega)]
      rw [hc]; rfl
    · rw [if_neg he, if_neg (by simpa using he)]
theorem rcut_ev {l : List Int} (hb : isB l) (hl : l.length ≤ 1000000000) : Ev (fun k => tumbrelref01_Cut.f k l) (cutL l) := by
  unfold cutL
  by_cases h4 : l.length < 4
  · rw [if_pos h4]
    refine Ev.congr (f := fun _ => some (([] : List Int), false)) (fun k => ?_) (Ev.now _)
    simp only [tumbrelref01_Cut.f]
    rw [if_pos (by omega)]
  · rw [if_neg h4]
    have hw : wrap64 ((l.length : Int) - 4) = ((l.length - 4 : Nat) : Int) := by unfold wrap64; omega
    have hbt := isB_take hb (l.length - 4)
    have hlt : (l.take (l.length - 4)).length = l.length - 4 := by rw [List.length_take]; omega
    obtain ⟨K1, h1⟩ := rput_ev1 hbt (by omega)
    obtain ⟨K2, h2⟩ := same_ev (putL (l.take (l.length - 4))) l (by rw [putL_len]; omega)
    dsimp only at h1 h2
    refine ⟨K1 + K2, fun k hk => ?_⟩
    simp only [tumbrelref01_Cut.f, hw]
    rw [if_neg (by omega)]
    simp only [Option.bind_some, List.nil_append, List.length_nil, Int.toNat_natCast]
    rw [if_pos (by omega), if_pos (by omega), if_pos (by omega)]
    rw [h1 k (by omega)]
    simp only [Option.bind_some]
    rw [h2 k (by omega)]
    simp only [Option.bind_some]
    have hiff : putL (l.take (l.length - 4)) = l ↔ l.drop (l.length - 4) = fourL (ofL (l.take (l.length - 4))) := by
      constructor
      · intro h
        have h3 := congrArg (List.drop (l.length - 4)) h
        rw [← h3, putL, List.drop_left' hlt]
      · intro h
        rw [putL, ← h]
        exact List.take_append_drop _ _
    by_cases he : l.drop (l.length - 4) = fourL (ofL (l.take (l.length - 4)))
    · rw [if_pos he, if_pos (decide_eq_true (hiff.2 he))]
    · rw [if_neg he, if_neg (by simp only [decide_eq_true_eq]; exact fun hh => he (hiff.1 hh))]
end Go.Proofs.Ytojepleodijdeaa.VP
namespace Go.Proofs.Ytojepleodijdeaa.VP
set_option linter.unusedVariables false
set_option linter.unusedSimpArgs false
open Go.RowKit Go.Proofs.Ytojepleodijdeaa.B Go.Proofs.YtojepleodijdeaaW.PrintWords Go.Proofs.YtojepleodijdeaaW.PrintLast Go.Proofs.YtojepleodijdeaaW.PrintMore
open Go.Proofs.Ytojepleodijdeaa.Crc (steps feed word feed_word feed_append feed_xor burst steps_xor steps_eq_zero)
theorem cutL_false {q : List Int} (h : (cutL q).2 = false) : cutL q = ([], false) := by
  unfold cutL at h ⊢
  split
  · rfl
  · rename_i h4
    rw [if_neg h4] at h
    split
    · rename_i he; rw [if_pos he] at h; cases h
    · rfl
end Go.Proofs.Ytojepleodijdeaa.VP
namespace Go.Proofs.Ytojepleodijdeaa.VP
set_option linter.unusedVariables false
set_option linter.unusedSimpArgs false
open Go.RowKit Go.Proofs.Ytojepleodijdeaa.B Go.Proofs.YtojepleodijdeaaW.PrintWords Go.Proofs.YtojepleodijdeaaW.PrintLast Go.Proofs.YtojepleodijdeaaW.PrintMore
/-- the number of two bytes -/
def two (h : List Int) : Int := h.getD 1 0 + 256 * h.getD 2 0
/-- the frame that bytes begin with -/
def fread (l : List Int) : Int × List Int × Int × Int :=
  if l.length < 7 then (0, [], 0, 3)
  else if (cutL (l.take 7)).2 = false then (0, [], 0, 8)
  else if two (cutL (l.take 7)).1 > 400 then (0, [], 0, 2)
  else if (l.length : Int) < 11 + two (cutL (l.take 7)).1 then (0, [], 0, 3)
  else if (cutL ((l.take (11 + two (cutL (l.take 7)).1).toNat).drop 7)).2 = false then (0, [], 0, 8)
  else ((cutL (l.take 7)).1.getD 0 0, (cutL ((l.take (11 + two (cutL (l.take 7)).1).toNat).drop 7)).1, 11 + two (cutL (l.take 7)).1, 0)
theorem cutL_true {l : List Int} (h : (cutL l).2 = true) : cutL l = (l.take (l.length - 4), true) ∧ 4 ≤ l.length := by
  unfold cutL at *
  split at h <;> rename_i h4
  · cases h
  rw [if_neg h4]
  split at h <;> rename_i h5
  · rw [if_pos h5]; exact ⟨rfl, by omega⟩
  · cases h
theorem cutL_isB {l : List Int} (hb : isB l) : isB (cutL l).1 := by
  cases h : (cutL l).2
  · rw [cutL_false h]; intro x hx; cases hx
  · rw [(cutL_true h).1]; exact isB_take hb _
theorem getD_isB {l : List Int} (hb : isB l) (i : Nat) : 0 ≤ l.getD i 0 ∧ l.getD i 0 ≤ 255 := by
  by_cases h : i < l.length
  · have : l.getD i 0 = l[i] := by simp [h]
    rw [this]; exact hb _ (List.getElem_mem h)
  · have : l.getD i 0 = 0 := by simp [List.getD_eq_getElem?_getD, List.getElem?_eq_none (by omega : l.length ≤ i)]
    rw [this]; omega
theorem or_two {a b : Int} (ha : 0 ≤ a ∧ a ≤ 255) (hb : 0 ≤ b ∧ b ≤ 255) : bits .or .i64 a (b * 256) = a + 256 * b := by
  have hc : bits .or .i64 a (b * 256) = bits .or .i64 (b * 256) a := by simp only [bits]; rw [BitVec.or_comm]
  have hw : ∀ n : Int, 0 ≤ n → n < 2 ^ 63 → IntKind.i64.wrap n = n := fun n h0 h1 => by
    rw [IntKind.wrap_i64]; omega
  rw [hc, bits_join .i64 63 (by decide) hw 8 _ a (by omega) (by omega) (by omega) (by omega) (by omega) (by omega)]
  omega
theorem read_ev {l : List Int} (hb : isB l) (hl : l.length ≤ 1000000000) : Ev (fun k => frame_Read.f k l) (fread l) := by
  obtain ⟨K1, h1⟩ := cut_ev (isB_take hb 7) (by rw [List.length_take]; omega)
  dsimp only at h1
  have hn1 := getD_isB (cutL_isB (isB_take hb 7)) 1
  have hn2 := getD_isB (cutL_isB (isB_take hb 7)) 2
  obtain ⟨K2, h2⟩ := cut_ev (isB_drop (isB_take hb (11 + two (cutL (l.take 7)).1).toNat) 7) (by rw [List.length_drop, List.length_take]; omega)
  dsimp only at h2
  refine ⟨K1 + K2, fun k hk => ?_⟩
  unfold fread
  simp only [frame_Read.f]
  by_cases h7 : l.length < 7
  · rw [if_pos (by omega), if_pos h7]
  rw [if_neg (by omega), if_neg h7, if_pos (by omega), h1 k (by omega)]
  simp only [Option.bind_some]
  by_cases hc : (cutL (l.take 7)).2 = false
  · rw [if_pos hc, if_neg (by rw [hc]; decide)]
  have hc' : (cutL (l.take 7)).2 = true := by simpa using hc
  rw [if_neg hc, if_pos hc']
  have h3 : (cutL (l.take 7)).1.length = 3 := by rw [(cutL_true hc').1]; simp; omega
  rw [if_pos (by omega), if_pos (by omega)]
  have hr : ∀ i : Nat, rd (cutL (l.take 7)).1 (i : Int) = (cutL (l.take 7)).1.getD i 0 := fun i => rfl
  have e1 : rd (cutL (l.take 7)).1 1 = (cutL (l.take 7)).1.getD 1 0 := hr 1
  have e2 : rd (cutL (l.take 7)).1 2 = (cutL (l.take 7)).1.getD 2 0 := hr 2
  have w1 : ∀ x : Int, 0 ≤ x ∧ x ≤ 1000000000 → wrap64 x = x := fun x hx => by unfold wrap64; omega
  rw [e1, e2, w1 _ (by omega), w1 ((cutL (l.take 7)).1.getD 2 0) (by omega), w1 _ (by omega), or_two hn1 hn2]
  change (if two (cutL (l.take 7)).1 > 400 then _ else _) = _
  have ht : 0 ≤ two (cutL (l.take 7)).1 := by unfold two; omega
  by_cases h400 : two (cutL (l.take 7)).1 > 400
  · rw [if_pos h400, if_pos h400]
  rw [if_neg h400, if_neg h400]
  have e3 : (cutL (l.take 7)).1.getD 1 0 + 256 * (cutL (l.take 7)).1.getD 2 0 = two (cutL (l.take 7)).1 := rfl
  rw [e3, w1 (7 + _) (by omega), w1 _ (by omega), show 7 + two (cutL (l.take 7)).1 + 4 = 11 + two (cutL (l.take 7)).1 by omega]
  by_cases hs : (l.length : Int) < 11 + two (cutL (l.take 7)).1
  · rw [if_pos hs, if_pos hs]
  rw [if_neg hs, if_neg hs, if_pos (by omega), if_pos (by omega), h2 k (by omega)]
  simp only [Option.bind_some]
  by_cases hd : (cutL ((l.take (11 + two (cutL (l.take 7)).1).toNat).drop 7)).2 = false
  · rw [if_pos hd, if_neg (by rw [hd]; decide)]
  · rw [if_neg hd, if_pos (by simpa using hd), if_pos (by omega)]
    rfl
end Go.Proofs.Ytojepleodijdeaa.VP
namespace Go.Proofs.Ytojepleodijdeaa.VP
set_option linter.unusedVariables false
set_option linter.unusedSimpArgs false
open Go.RowKit Go.Proofs.Ytojepleodijdeaa.B Go.Proofs.YtojepleodijdeaaW.PrintWords Go.Proofs.YtojepleodijdeaaW.PrintLast Go.Proofs.YtojepleodijdeaaW.PrintMore
theorem fread_used {l : List Int} (hb : isB l) (h : (fread l).2.2.2 = 0) : 11 ≤ (fread l).2.2.1 ∧ (fread l).2.2.1 ≤ l.length ∧ (fread l).2.1.length + 11 = (fread l).2.2.1 ∧ (fread l).2.1.length ≤ 400 ∧ isB (fread l).2.1 := by
  have hn1 := getD_isB (cutL_isB (isB_take hb 7)) 1
  have hn2 := getD_isB (cutL_isB (isB_take hb 7)) 2
  have ht : 0 ≤ two (cutL (l.take 7)).1 := by unfold two; omega
  have hbb := cutL_isB (isB_drop (isB_take hb (11 + two (cutL (l.take 7)).1).toNat) 7)
  unfold fread at *
  split at h
  · simp at h
  split at h
  · simp at h
  split at h
  · simp at h
  split at h
  · simp at h
  split at h
  · simp at h
  rename_i h1 h2 h3 h4 h5
  rw [if_neg h1, if_neg h2, if_neg h3, if_neg h4, if_neg h5]
  have hc := (cutL_true (by simpa using h5)).1
  have hl : (cutL ((l.take (11 + two (cutL (l.take 7)).1).toNat).drop 7)).1.length + 11 = 11 + two (cutL (l.take 7)).1 := by
    rw [hc]
    simp only [List.length_take, List.length_drop]
    omega
  dsimp only
  exact ⟨by omega, by omega, hl, by omega, hbb⟩
theorem fread_kind {l : List Int} (hb : isB l) : 0 ≤ (fread l).1 ∧ (fread l).1 ≤ 255 := by
  have h := getD_isB (cutL_isB (isB_take hb 7)) 0
  unfold fread
  split
  · simp
  split
  · simp
  split
  · simp
  split
  · simp
  split
  · simp
  exact h
/-- all frames of bytes -/
def gall : Nat → List Int → List S56 × Nat × Int
  | 0, _ => ([], 0, 0)
  | d + 1, l =>
    if l = [] then ([], 0, 0)
    else if (fread l).2.2.2 = 0 then (⟨(fread l).1, (fread l).2.1⟩ :: (gall d (l.drop (fread l).2.2.1.toNat)).1, (fread l).2.2.1.toNat + (gall d (l.drop (fread l).2.2.1.toNat)).2.1, (gall d (l.drop (fread l).2.2.1.toNat)).2.2)
    else ([], 0, (fread l).2.2.2)
theorem gall_at : ∀ (d : Nat) (l : List Int), l.length ≤ d → isB l → (gall d l).2.1 ≤ l.length ∧ 11 * (gall d l).1.length ≤ (gall d l).2.1 ∧ ((gall d l).2.2 = 0 ↔ (gall d l).2.1 = l.length) := by
  intro d
  induction d with
  | zero => intro l hd hb; simp [gall]; omega
  | succ d ih =>
    intro l hd hb
    rw [gall]
    by_cases he : l = []
    · subst he; simp
    rw [if_neg he]
    have hpos : 0 < l.length := List.length_pos_iff.2 he
    by_cases h0 : (fread l).2.2.2 = 0
    · have hu := fread_used hb h0
      have := ih (l.drop (fread l).2.2.1.toNat) (by rw [List.length_drop]; omega) (isB_drop hb _)
      rw [List.length_drop] at this
      rw [if_pos h0]
      simp only [List.length_cons]
      omega
    · rw [if_neg h0]
      simp only [List.length_nil]
      omega
theorem fall_loop (b : List Int) (hb : isB b) (hl : b.length ≤ 1000000000) : ∀ (d i : Nat) (out : List S56), b.length - i ≤ d → i ≤ b.length → out.length ≤ i →
    Ev (fun k => frame_All.l0 k b out (i : Int)) (out ++ (gall d (b.drop i)).1, ((i + (gall d (b.drop i)).2.1 : Nat) : Int), (gall d (b.drop i)).2.2) := by
  intro d
  induction d with
  | zero =>
    intro i out hd hi ho
    refine Ev.step (f := fun _ => some (out, (i : Int), 0)) (fun k => ?_) ?_
    · simp only [frame_All.l0]; rw [if_neg (by omega)]
    · simp only [gall, List.append_nil, Nat.add_zero]; exact Ev.now _
  | succ d ih =>
    intro i out hd hi ho
    rw [gall]
    by_cases he : b.drop i = []
    · have : b.length - i = 0 := by rw [← List.length_drop, he]; rfl
      rw [if_pos he]
      refine Ev.step (f := fun _ => some (out, (i : Int), 0)) (fun k => ?_) ?_
      · simp only [frame_All.l0]; rw [if_neg (by omega)]
      · simp only [List.append_nil, Nat.add_zero]; exact Ev.now _
    · rw [if_neg he]
      have hpos : 0 < (b.drop i).length := List.length_pos_iff.2 he
      rw [List.length_drop] at hpos
      have hbd := isB_drop hb i
      refine Ev.step (f := fun k => (frame_Read.f k (b.drop i)).bind fun bt => (if bt.2.2.2 = 0 then (if out.length < 4398046511104 then (frame_All.l0 k b (out ++ [(⟨bt.1, bt.2.1⟩ : S56)]) (wrap64 ((i : Int) + bt.2.2.1))) else (none)) else (some (out, (i : Int), bt.2.2.2)))) (fun k => ?_) ?_
      · simp only [frame_All.l0]
        rw [if_pos (by omega), if_pos (by omega), if_pos (by omega)]
        simp only [Int.toNat_natCast]
      · refine Ev.bind (f := fun k bt => (if bt.2.2.2 = 0 then (if out.length < 4398046511104 then (frame_All.l0 k b (out ++ [(⟨bt.1, bt.2.1⟩ : S56)]) (wrap64 ((i : Int) + bt.2.2.1))) else (none)) else (some (out, (i : Int), bt.2.2.2)))) (read_ev hbd (by rw [List.length_drop]; omega)) ?_
        by_cases h0 : (fread (b.drop i)).2.2.2 = 0
        · have hu := fread_used hbd h0
          rw [List.length_drop] at hu
          rw [if_pos h0]
          have hw : wrap64 ((i : Int) + (fread (b.drop i)).2.2.1) = ((i + (fread (b.drop i)).2.2.1.toNat : Nat) : Int) := by unfold wrap64; omega
          have hq := ih (i + (fread (b.drop i)).2.2.1.toNat) (out ++ [⟨(fread (b.drop i)).1, (fread (b.drop i)).2.1⟩]) (by omega) (by omega) (by rw [List.length_append, List.length_singleton]; omega)
          rw [List.drop_drop]
          refine Ev.congr (f := fun k => frame_All.l0 k b (out ++ [⟨(fread (b.drop i)).1, (fread (b.drop i)).2.1⟩]) ((i + (fread (b.drop i)).2.2.1.toNat : Nat) : Int)) (fun k => ?_) ?_
          · rw [if_pos h0, if_pos (by omega), hw]
          · simpa only [List.append_assoc, List.singleton_append, Nat.add_assoc] using hq
        · rw [if_neg h0]
          refine Ev.congr (f := fun _ => some (out, (i : Int), (fread (b.drop i)).2.2.2)) (fun k => ?_) ?_
          · rw [if_neg h0]
          · simp only [List.append_nil, Nat.add_zero]; exact Ev.now _
theorem fall_ev (b : List Int) (hb : isB b) (hl : b.length ≤ 1000000000) : Ev (fun k => frame_All.f k b) ((gall b.length b).1, ((gall b.length b).2.1 : Int), (gall b.length b).2.2) := by
  have := fall_loop b hb hl b.length 0 [] (by omega) (by omega) (by simp)
  simpa [frame_All.f] using this
end Go.Proofs.Ytojepleodijdeaa.VP
namespace Go.Proofs.Ytojepleodijdeaa.VP
set_option linter.unusedVariables false
set_option linter.unusedSimpArgs false
open Go.RowKit Go.Proofs.Ytojepleodijdeaa.B Go.Proofs.YtojepleodijdeaaW.PrintWords Go.Proofs.YtojepleodijdeaaW.PrintLast Go.Proofs.YtojepleodijdeaaW.PrintMore
theorem rread4_ev {l : List Int} (hb : isB l) (hl : l.length ≤ 1000000000) : Ev (fun k => tumbrelref04_Read.f k l) (fread l) := by
  obtain ⟨K1, h1⟩ := rcut_ev (isB_take hb 7) (by rw [List.length_take]; omega)
  dsimp only at h1
  have hn1 := getD_isB (cutL_isB (isB_take hb 7)) 1
  have hn2 := getD_isB (cutL_isB (isB_take hb 7)) 2
  obtain ⟨K2, h2⟩ := rcut_ev (isB_drop (isB_take hb (11 + two (cutL (l.take 7)).1).toNat) 7) (by rw [List.length_drop, List.length_take]; omega)
  dsimp only at h2
  refine ⟨K1 + K2, fun k hk => ?_⟩
  unfold fread
  simp only [tumbrelref04_Read.f]
  by_cases h7 : l.length < 7
  · rw [if_pos (by omega), if_pos h7]
  rw [if_neg (by omega), if_neg h7, if_pos (by omega), h1 k (by omega)]
  simp only [Option.bind_some]
  by_cases hc : (cutL (l.take 7)).2 = false
  · rw [if_pos hc, if_neg (by rw [hc]; decide)]
  have hc' : (cutL (l.take 7)).2 = true := by simpa using hc
  rw [if_neg hc, if_pos hc']
  have h3 : (cutL (l.take 7)).1.length = 3 := by rw [(cutL_true hc').1]; simp; omega
  rw [if_pos (by omega), if_pos (by omega)]
  have hr : ∀ i : Nat, rd (cutL (l.take 7)).1 (i : Int) = (cutL (l.take 7)).1.getD i 0 := fun i => rfl
  have e1 : rd (cutL (l.take 7)).1 1 = (cutL (l.take 7)).1.getD 1 0 := hr 1
  have e2 : rd (cutL (l.take 7)).1 2 = (cutL (l.take 7)).1.getD 2 0 := hr 2
  have w1 : ∀ x : Int, 0 ≤ x ∧ x ≤ 1000000000 → wrap64 x = x := fun x hx => by unfold wrap64; omega
  have e3 : (cutL (l.take 7)).1.getD 1 0 + 256 * (cutL (l.take 7)).1.getD 2 0 = two (cutL (l.take 7)).1 := rfl
  have ht : 0 ≤ two (cutL (l.take 7)).1 ∧ two (cutL (l.take 7)).1 ≤ 100000 := by unfold two; omega
  rw [e1, e2, w1 ((cutL (l.take 7)).1.getD 1 0) (by omega), w1 ((cutL (l.take 7)).1.getD 2 0) (by omega), w1 (256 * _) (by omega), e3, w1 (two _) (by omega)]
  by_cases h400 : two (cutL (l.take 7)).1 > 400
  · rw [if_pos h400, if_pos h400]
  rw [if_neg h400, if_neg h400, w1 (_ + 11) (by omega), show two (cutL (l.take 7)).1 + 11 = 11 + two (cutL (l.take 7)).1 by omega]
  by_cases hs : (l.length : Int) < 11 + two (cutL (l.take 7)).1
  · rw [if_pos hs, if_pos hs]
  rw [if_neg hs, if_neg hs, if_pos (by omega), if_pos (by omega), h2 k (by omega)]
  simp only [Option.bind_some]
  by_cases hd : (cutL ((l.take (11 + two (cutL (l.take 7)).1).toNat).drop 7)).2 = false
  · rw [if_pos hd, if_neg (by rw [hd]; decide)]
  · rw [if_neg hd, if_pos (by simpa using hd), if_pos (by omega)]
    rfl
def to60 (f : S56) : S60 := ⟨f.f0, f.f1⟩
theorem rfall_loop (b : List Int) (hb : isB b) (hl : b.length ≤ 1000000000) : ∀ (d i : Nat) (out : List S60), b.length - i ≤ d → i ≤ b.length → out.length ≤ i →
    Ev (fun k => tumbrelref04_All.l0 k b out (i : Int)) (out ++ (gall d (b.drop i)).1.map to60, ((i + (gall d (b.drop i)).2.1 : Nat) : Int), (gall d (b.drop i)).2.2) := by
  intro d
  induction d with
  | zero =>
    intro i out hd hi ho
    refine Ev.step (f := fun _ => some (out, (i : Int), 0)) (fun k => ?_) ?_
    · simp only [tumbrelref04_All.l0]; rw [if_neg (by omega)]
    · simp only [gall, List.map_nil, List.append_nil, Nat.add_zero]; exact Ev.now _
  | succ d ih =>
    intro i out hd hi ho
    rw [gall]
    by_cases he : b.drop i = []
    · have : b.length - i = 0 := by rw [← List.length_drop, he]; rfl
      rw [if_pos he]
      refine Ev.step (f := fun _ => some (out, (i : Int), 0)) (fun k => ?_) ?_
      · simp only [tumbrelref04_All.l0]; rw [if_neg (by omega)]
      · simp only [List.map_nil, List.append_nil, Nat.add_zero]; exact Ev.now _
    · rw [if_neg he]
      have hpos : 0 < (b.drop i).length := List.length_pos_iff.2 he
      rw [List.length_drop] at hpos
      have hbd := isB_drop hb i
      refine Ev.step (f := fun k => (tumbrelref04_Read.f k (b.drop i)).bind fun bt => (if bt.2.2.2 = 0 then (if out.length < 4398046511104 then (tumbrelref04_All.l0 k b (out ++ [(⟨bt.1, bt.2.1⟩ : S60)]) (wrap64 ((i : Int) + bt.2.2.1))) else (none)) else (some (out, (i : Int), bt.2.2.2)))) (fun k => ?_) ?_
      · simp only [tumbrelref04_All.l0]
        rw [if_pos (by omega), if_pos (by omega), if_pos (by omega)]
        simp only [Int.toNat_natCast]
      · refine Ev.bind (f := fun k bt => (if bt.2.2.2 = 0 then (if out.length < 4398046511104 then (tumbrelref04_All.l0 k b (out ++ [(⟨bt.1, bt.2.1⟩ : S60)]) (wrap64 ((i : Int) + bt.2.2.1))) else (none)) else (some (out, (i : Int), bt.2.2.2)))) (rread4_ev hbd (by rw [List.length_drop]; omega)) ?_
        by_cases h0 : (fread (b.drop i)).2.2.2 = 0
        · have hu := fread_used hbd h0
          rw [List.length_drop] at hu
          rw [if_pos h0]
          have hw : wrap64 ((i : Int) + (fread (b.drop i)).2.2.1) = ((i + (fread (b.drop i)).2.2.1.toNat : Nat) : Int) := by unfold wrap64; omega
          have hq := ih (i + (fread (b.drop i)).2.2.1.toNat) (out ++ [⟨(fread (b.drop i)).1, (fread (b.drop i)).2.1⟩]) (by omega) (by omega) (by rw [List.length_append, List.length_singleton]; omega)
          rw [List.drop_drop]
          refine Ev.congr (f := fun k => tumbrelref04_All.l0 k b (out ++ [⟨(fread (b.drop i)).1, (fread (b.drop i)).2.1⟩]) ((i + (fread (b.drop i)).2.2.1.toNat : Nat) : Int)) (fun k => ?_) ?_
          · rw [if_pos h0, if_pos (by omega), hw]
          · simpa only [List.append_assoc, List.singleton_append, Nat.add_assoc, List.map_cons, to60] using hq
        · rw [if_neg h0]
          refine Ev.congr (f := fun _ => some (out, (i : Int), (fread (b.drop i)).2.2.2)) (fun k => ?_) ?_
          · rw [if_neg h0]
          · simp only [List.map_nil, List.append_nil, Nat.add_zero]; exact Ev.now _
theorem rfall_ev (b : List Int) (hb : isB b) (hl : b.length ≤ 1000000000) : Ev (fun k => tumbrelref04_All.f k b) ((gall b.length b).1.map to60, ((gall b.length b).2.1 : Int), (gall b.length b).2.2) := by
  have := rfall_loop b hb hl b.length 0 [] (by omega) (by omega) (by simp)
  simpa [tumbrelref04_All.f] using this
end Go.Proofs.Ytojepleodijdeaa.VP
namespace Go.Proofs.Ytojepleodijdeaa.VP
set_option linter.unusedVariables false
set_option linter.unusedSimpArgs false
open Go.RowKit Go.Proofs.Ytojepleodijdeaa.B Go.Proofs.YtojepleodijdeaaW.PrintWords Go.Proofs.YtojepleodijdeaaW.PrintLast Go.Proofs.YtojepleodijdeaaW.PrintMore
theorem drop_cons {l : List Int} {i : Nat} (h : i < l.length) : l.drop i = l[i] :: l.drop (i + 1) := List.drop_eq_getElem_cons h
theorem gget_used {l : List Int} (hb : isB l) (h : (gget 0 0 l).2.2 = 0) : 1 ≤ (gget 0 0 l).2.1 ∧ (gget 0 0 l).2.1 ≤ l.length := by
  obtain ⟨n, _, h2, h3, h4, _⟩ := gget_back l 0 0 (gget 0 0 l).1 (gget 0 0 l).2.1 hb (by omega) (Prod.ext rfl (Prod.ext rfl h))
  have := vputF_length (9 - 0) n
  omega
end Go.Proofs.Ytojepleodijdeaa.VP
namespace Go.Proofs.Ytojepleodijdeaa.VP
set_option linter.unusedVariables false
set_option linter.unusedSimpArgs false
open Go.RowKit Go.Proofs.Ytojepleodijdeaa.B Go.Proofs.YtojepleodijdeaaW.PrintWords Go.Proofs.YtojepleodijdeaaW.PrintLast Go.Proofs.YtojepleodijdeaaW.PrintMore
/-- what the first i bytes say -/
def val (l : List Int) : Nat → Int
  | 0 => 0
  | i + 1 => val l i + (l.getD i 0 % 128) * 128 ^ i
theorem val_bd (l : List Int) : ∀ i, 0 ≤ val l i ∧ val l i < 128 ^ i := by
  intro i
  induction i with
  | zero => simp [val]
  | succ i ih =>
    have hp := pow_pos128 i
    have h1 : 0 ≤ (l.getD i 0 % 128) * 128 ^ i := Int.mul_nonneg (by omega) (by omega)
    have h2 : (l.getD i 0 % 128) * 128 ^ i ≤ 127 * 128 ^ i := Int.mul_le_mul_of_nonneg_right (by omega) (by omega)
    simp only [val, Int.pow_succ]
    omega
theorem getD_at {l : List Int} {i : Nat} (h : i < l.length) : l.getD i 0 = l[i] := by
  simp [List.getD_eq_getElem?_getD, List.getElem?_eq_getElem h]
theorem rget_back (l : List Int) (hb : isB l) (hl : l.length ≤ 140737488355328) (many : Nat) (hm : many < l.length) (T : Int) (hT : T = val l (many + 1)) (hT64 : T < 18446744073709551616) : ∀ (j : Nat) (n : Int), j ≤ many + 1 → 0 ≤ n → n * 128 ^ j + val l j = T →
    Ev (fun k => tumbrelref02_Get.l1 k l (many : Int) n ((j : Int) - 1)) (T, (many : Int) + 1, 0) := by
  intro j
  induction j with
  | zero =>
    intro n hj hn he
    refine Ev.step (f := fun _ => some (T, (many : Int) + 1, 0)) (fun k => ?_) (Ev.now _)
    simp only [tumbrelref02_Get.l1]
    rw [if_neg (by omega), wrap_succ many (by omega)]
    simp [val] at he
    rw [he]; rfl
  | succ j ih =>
    intro n hj hn he
    have h1 : j < l.length := by omega
    have hc := hb l[j] (List.getElem_mem h1)
    have hp := pow_pos128 j
    have hv := val_bd l j
    simp only [val, getD_at h1] at he
    have he2 : (128 * n + l[j] % 128) * 128 ^ j + val l j = T := by
      rw [← he, Int.pow_succ, Int.add_mul, Int.mul_comm (128 ^ j) 128, ← Int.mul_assoc, Int.mul_comm n 128]
      omega
    have hn' : 0 ≤ 128 * n + l[j] % 128 := by omega
    have hle : 128 * n + l[j] % 128 ≤ T := by
      have h3 : (128 * n + l[j] % 128) * 1 ≤ (128 * n + l[j] % 128) * 128 ^ j := Int.mul_le_mul_of_nonneg_left (by omega) hn'
      omega
    refine Ev.step (f := fun k => tumbrelref02_Get.l1 k l (many : Int) (128 * n + l[j] % 128) ((j : Int) - 1)) (fun k => ?_) (ih _ (by omega) hn' he2)
    simp only [tumbrelref02_Get.l1]
    have ej : (((j + 1 : Nat) : Int) - 1) = (j : Int) := by omega
    rw [ej, if_pos (by omega), if_pos (by omega), if_pos (by omega), rd_at h1, Int.tmod_eq_emod_of_nonneg hc.1]
    rw [wraps_u64 (128 * n) (by omega) (by omega), wraps_u64 (l[j] % 128) (by omega) (by omega), wraps_u64 _ hn' (by omega)]
    rw [show wrap64 ((j : Int) - 1) = (j : Int) - 1 by unfold wrap64; omega]
theorem rget_j2 (l : List Int) (hb : isB l) (hl : l.length ≤ 140737488355328) (i : Nat) (hi : i ≤ 9) (h1 : i < l.length) (hlast : i = 9 → l[i] ≤ 1) :
    Ev (fun k => tumbrelref02_Get.j2 k l (i : Int) false) (val l i + (l[i] % 128) * 128 ^ i, (i : Int) + 1, 0) := by
  have hc := hb l[i] (List.getElem_mem h1)
  have hp := part_lt i hi l[i] hc.1 hlast
  have hv := val_bd l i
  have h9 := pow_le9 i hi
  have hT : val l i + (l[i] % 128) * 128 ^ i = val l (i + 1) := by simp only [val, getD_at h1]
  have := rget_back l hb hl i h1 _ hT (by omega) (i + 1) 0 (by omega) (by omega) (by rw [← hT]; omega)
  refine Ev.step (f := fun k => tumbrelref02_Get.l1 k l (i : Int) 0 (i : Int)) (fun k => ?_) ?_
  · simp only [tumbrelref02_Get.j2]; rw [if_neg (by decide)]
  · rwa [show (((i + 1 : Nat) : Int) - 1) = (i : Int) by omega] at this
theorem rget_j2t (l : List Int) (x : Int) : Ev (fun k => tumbrelref02_Get.j2 k l x true) (0, 0, 2) :=
  Ev.step (f := fun _ => some (0, 0, 2)) (fun k => by simp only [tumbrelref02_Get.j2, if_true]) (Ev.now _)
theorem rget_loop (l : List Int) (hb : isB l) (hl : l.length ≤ 140737488355328) : ∀ (d i : Nat), l.length - i = d → i ≤ 9 → i ≤ l.length →
    Ev (fun k => tumbrelref02_Get.l0 k l (i : Int)) (gget i (val l i) (l.drop i)) := by
  intro d
  induction d with
  | zero =>
    intro i hd hi hil
    rw [List.drop_of_length_le (by omega), gget]
    refine Ev.step (f := fun k => tumbrelref02_Get.j1 k l (i : Int)) (fun k => ?_) (Ev.step (f := fun _ => some (0, 0, 3)) (fun k => ?_) (Ev.now _))
    · simp only [tumbrelref02_Get.l0]; rw [if_neg (by omega)]
    · simp only [tumbrelref02_Get.j1]; rw [if_pos (by omega)]
  | succ d ih =>
    intro i hd hi hil
    have h1 : i < l.length := by omega
    have hc := hb l[i] (List.getElem_mem h1)
    rw [drop_cons h1, gget]
    by_cases h9 : i = 9
    · subst h9
      refine Ev.step (f := fun k => tumbrelref02_Get.j1 k l ((9 : Nat) : Int)) (fun k => ?_) ?_
      · simp only [tumbrelref02_Get.l0]; rw [if_pos (by omega), if_neg (by omega)]
      · have hr : rd l 9 = l[9] := rd_at (i := 9) h1
        by_cases hbig : l[9] > 1
        · rw [if_pos ⟨rfl, hbig⟩]
          refine Ev.step (f := fun k => tumbrelref02_Get.j2 k l ((9 : Nat) : Int) true) (fun k => ?_) (rget_j2t _ _)
          simp only [tumbrelref02_Get.j1]
          rw [if_neg (by omega), if_pos (by omega), if_pos (by omega), hr, if_pos hbig]
        · rw [if_neg (fun h => hbig h.2), if_neg (by omega)]
          by_cases hz : l[9] = 0
          · rw [if_pos ⟨hz, by omega⟩]
            refine Ev.step (f := fun k => tumbrelref02_Get.j2 k l ((9 : Nat) : Int) true) (fun k => ?_) (rget_j2t _ _)
            simp only [tumbrelref02_Get.j1]
            rw [if_neg (by omega), if_pos (by omega), if_pos (by omega), hr, if_neg hbig, if_pos (by omega), if_pos (by omega), if_pos (by omega), rd_at h1, hz]
            rfl
          · rw [if_neg (fun h => hz h.1)]
            refine Ev.step (f := fun k => tumbrelref02_Get.j2 k l ((9 : Nat) : Int) false) (fun k => ?_) (rget_j2 l hb hl 9 (by omega) h1 (fun _ => by omega))
            simp only [tumbrelref02_Get.j1]
            rw [if_neg (by omega), if_pos (by omega), if_pos (by omega), hr, if_neg hbig, if_pos (by omega), if_pos (by omega), if_pos (by omega), rd_at h1, show (l[9] == 0) = false by simpa using hz]
    · rw [if_neg (fun h => h9 h.1)]
      by_cases h128 : l[i] ≥ 128
      · rw [if_pos h128]
        have := ih (i + 1) (by omega) (by omega) (by omega)
        simp only [val, getD_at h1] at this
        refine Ev.step (f := fun k => tumbrelref02_Get.l0 k l ((i + 1 : Nat) : Int)) (fun k => ?_) this
        simp only [tumbrelref02_Get.l0]
        rw [if_pos (by omega), if_pos (by omega), if_pos (by omega), rd_at h1, if_pos h128, wrap_succ i (by omega)]
      · rw [if_neg h128]
        refine Ev.step (f := fun k => tumbrelref02_Get.j1 k l (i : Int)) (fun k => ?_) ?_
        · simp only [tumbrelref02_Get.l0]
          rw [if_pos (by omega), if_pos (by omega), if_pos (by omega), rd_at h1, if_neg h128]
        · by_cases hz : l[i] = 0 ∧ 0 < i
          · rw [if_pos hz]
            refine Ev.step (f := fun k => tumbrelref02_Get.j2 k l (i : Int) true) (fun k => ?_) (rget_j2t _ _)
            simp only [tumbrelref02_Get.j1]
            rw [if_neg (by omega), if_neg (by omega), if_pos (by omega), if_pos (by omega), if_pos (by omega), rd_at h1, hz.1]
            rfl
          · rw [if_neg hz]
            refine Ev.step (f := fun k => tumbrelref02_Get.j2 k l (i : Int) false) (fun k => ?_) (rget_j2 l hb hl i hi h1 (fun h => absurd h h9))
            simp only [tumbrelref02_Get.j1]
            by_cases h0 : 0 < i
            · rw [if_neg (by omega), if_neg (by omega), if_pos (by omega), if_pos (by omega), if_pos (by omega), rd_at h1, show (l[i] == 0) = false by simpa using (fun h => hz ⟨h, h0⟩)]
            · rw [if_neg (by omega), if_neg (by omega), if_neg (by omega)]
theorem rget_ev (l : List Int) (hb : isB l) (hl : l.length ≤ 140737488355328) : Ev (fun k => tumbrelref02_Get.f k l) (gget 0 0 l) := by
  have := rget_loop l hb hl l.length 0 (by omega) (by omega) (by omega)
  simpa [tumbrelref02_Get.f, val] using this
end Go.Proofs.Ytojepleodijdeaa.VP
namespace Go.Proofs.Ytojepleodijdeaa.VP
set_option linter.unusedVariables false
set_option linter.unusedSimpArgs false
open Go.RowKit Go.Proofs.Ytojepleodijdeaa.B Go.Proofs.YtojepleodijdeaaW.PrintWords Go.Proofs.YtojepleodijdeaaW.PrintLast Go.Proofs.YtojepleodijdeaaW.PrintMore
/-- a frame's head -/
def fhead (a : Int) (n : Nat) : List Int := [a, (n : Int) % 256, (n : Int) / 256]
/-- a frame's bytes -/
def fb (a : Int) (body : List Int) : List Int := putL (fhead a body.length) ++ putL body
theorem and255 {a : Int} (h0 : 0 ≤ a) (h1 : a ≤ 1000000000) : bits .and .i64 a 255 = a % 256 := by
  have hw : ∀ n : Int, 0 ≤ n → n < 2 ^ 63 → IntKind.i64.wrap n = n := fun n h0 h1 => by rw [IntKind.wrap_i64]; omega
  exact bits_mask .i64 63 (by decide) hw 8 (by decide) a h0 (by omega)
theorem low_f {a : Int} (h0 : 0 ≤ a) (h1 : a ≤ 1000000000) : frame_low_int.f a = some (a % 256, a / 256) := by
  unfold frame_low_int.f
  rw [and255 h0 h1]
  congr 2
  omega
theorem fhead_isB {a : Int} (ha : 0 ≤ a ∧ a ≤ 255) {n : Nat} (hn : n ≤ 400) : isB (fhead a n) := by
  intro x hx
  simp only [fhead, List.mem_cons, List.not_mem_nil, or_false] at hx
  omega
theorem fb_len (a : Int) (body : List Int) : (fb a body).length = body.length + 11 := by
  unfold fb
  rw [List.length_append, putL_len, putL_len]
  simp [fhead]
  omega
theorem fbytes_f {a : Int} (ha : 0 ≤ a ∧ a ≤ 255) {body : List Int} (hb : isB body) (hn : body.length ≤ 400) : frame_Bytes.f a body = some (fb a body, 0) := by
  have hh := fhead_isB ha hn
  unfold frame_Bytes.f
  rw [if_neg (by omega), low_f (by omega) (by omega)]
  simp only [Option.bind_some]
  rw [low_f (by omega) (by omega)]
  simp only [Option.bind_some]
  have e : ([a, (body.length : Int) % 256, (body.length : Int) / 256 % 256] : List Int) = fhead a body.length := by
    unfold fhead
    rw [show (body.length : Int) / 256 % 256 = (body.length : Int) / 256 by omega]
  rw [e, put_f hh (by simp [fhead]), Option.bind_some, put_f hb (by omega), Option.bind_some, if_pos (by rw [putL_len, putL_len]; simp [fhead]; omega)]
  rfl
end Go.Proofs.Ytojepleodijdeaa.VP
namespace Go.Proofs.Ytojepleodijdeaa.VP
set_option linter.unusedVariables false
set_option linter.unusedSimpArgs false
open Go.RowKit Go.Proofs.Ytojepleodijdeaa.B Go.Proofs.YtojepleodijdeaaW.PrintWords Go.Proofs.YtojepleodijdeaaW.PrintLast Go.Proofs.YtojepleodijdeaaW.PrintMore
/-- n numbers of bytes: they, and what is left -/
def gnums : Nat → List Int → List Int → List Int × List Int × Int
  | 0, acc, l => (acc, l, 0)
  | n + 1, acc, l => if (gget 0 0 l).2.2 = 0 then gnums n (acc ++ [(gget 0 0 l).1]) (l.drop (gget 0 0 l).2.1.toNat) else ([], [], (gget 0 0 l).2.2)
def isKind (k : Int) : Prop := 1 ≤ k ∧ k ≤ 17
instance (k : Int) : Decidable (isKind k) := by unfold isKind; infer_instance
def fit (k : Int) (n : Nat) : Bool := decide (n = 0 ∨ ((k = 10 ∨ k = 11 ∨ k = 16) ∧ n ≤ 64))
/-- a frame's record -/
def rread (k : Int) (l : List Int) : Int × List Int × ByteArray × Int :=
  if isKind k then (if (gnums (numE k.toNat).toNat [] l).2.2 = 0 then (if fit k (gnums (numE k.toNat).toNat [] l).2.1.length = true then (k, (gnums (numE k.toNat).toNat [] l).1, strOfNums (gnums (numE k.toNat).toNat [] l).2.1, 0) else (0, [], ⟨#[]⟩, 2)) else (0, [], ⟨#[]⟩, (gnums (numE k.toNat).toNat [] l).2.2)) else (0, [], ⟨#[]⟩, 2)
theorem known_f (k : Int) : record_known.f k = some (decide (isKind k)) := by
  unfold record_known.f
  by_cases h : k ≥ 1
  · rw [if_pos h]; congr 1; apply decide_eq_decide.mpr; unfold isKind; omega
  · rw [if_neg h]; congr 1; symm; apply decide_eq_false; unfold isKind; omega
theorem fits_f (k : Int) (n : Nat) : record_fits.f k (n : Int) = some (fit k n) := by
  unfold record_fits.f record_worded.f fit
  by_cases h0 : (n : Int) = 0
  · rw [if_pos h0]; congr 1; symm; apply decide_eq_true; left; omega
  rw [if_neg h0]
  by_cases h1 : k = 10
  · rw [if_pos h1, Option.bind_some, if_pos rfl]; congr 1; apply decide_eq_decide.mpr; omega
  rw [if_neg h1]
  by_cases h2 : k = 11
  · rw [if_pos h2, Option.bind_some, if_pos rfl]; congr 1; apply decide_eq_decide.mpr; omega
  rw [if_neg h2, Option.bind_some]
  by_cases h3 : k = 16
  · rw [if_pos (by simp [h3])]; congr 1; apply decide_eq_decide.mpr; omega
  · rw [if_neg (by simp [h3])]; congr 1; symm; apply decide_eq_false; omega
theorem rtexts_f (k : Int) (n : Nat) : tumbrelref05_texts.f k (n : Int) = some (fit k n) := by
  unfold tumbrelref05_texts.f fit
  by_cases h1 : k = 10
  · rw [if_pos h1]; congr 1; apply decide_eq_decide.mpr; omega
  rw [if_neg h1]
  by_cases h2 : k = 11
  · rw [if_pos h2]; congr 1; apply decide_eq_decide.mpr; omega
  rw [if_neg h2]
  by_cases h3 : k = 16
  · rw [if_pos h3]; congr 1; apply decide_eq_decide.mpr; omega
  · rw [if_neg h3]; congr 1
    rw [show ((n : Int) == 0) = decide ((n : Int) = 0) from rfl]
    apply decide_eq_decide.mpr; omega
theorem numE_at (k : Int) (h : isKind k) : 0 ≤ numE k.toNat ∧ numE k.toNat ≤ 10 ∧ rd ([(-1), 0, 5, 2, 1, 2, 2, 1, 1, 1, 1, 1, 5, 7, 10, 2, 1, 1] : List Int) k = numE k.toNat := by
  obtain ⟨h1, h2⟩ := h
  obtain ⟨j, rfl⟩ := Int.eq_ofNat_of_zero_le (show 0 ≤ k by omega)
  have hj : j = 1 ∨ j = 2 ∨ j = 3 ∨ j = 4 ∨ j = 5 ∨ j = 6 ∨ j = 7 ∨ j = 8 ∨ j = 9 ∨ j = 10 ∨ j = 11 ∨ j = 12 ∨ j = 13 ∨ j = 14 ∨ j = 15 ∨ j = 16 ∨ j = 17 := by omega
  rcases hj with rfl | rfl | rfl | rfl | rfl | rfl | rfl | rfl | rfl | rfl | rfl | rfl | rfl | rfl | rfl | rfl | rfl <;> exact ⟨by decide, by decide, rfl⟩
theorem many_f (k : Int) (h0 : 0 ≤ k) : tumbrelref05_many.f k = some (if isKind k then numE k.toNat else -1) := by
  unfold tumbrelref05_many.f
  rw [Option.bind_some, if_neg (by omega)]
  by_cases h : isKind k
  · have := numE_at k h
    have h2 := h
    unfold isKind at h2
    rw [if_neg (by omega), if_pos h0, if_pos (by simp; omega), this.2.2, if_pos h]
  · rw [if_neg h]
    unfold isKind at h
    by_cases h17 : k > 17
    · rw [if_pos h17]
    · rw [if_neg h17, if_pos h0, if_pos (by simp; omega), show k = 0 by omega]; rfl
theorem recread_loop (ki : Int) (N : Nat) (hN : N ≤ 10) : ∀ (d i : Nat) (l acc : List Int), i + d = N → isB l → l.length ≤ 1000000000 → acc.length ≤ 10 →  acc.length ≤ i →
    Ev (fun k => record_Read.l0 k l (N : Int) (i : Int) ki acc (⟨#[]⟩ : ByteArray)) (if (gnums d acc l).2.2 = 0 then (if fit ki (gnums d acc l).2.1.length = true then (ki, (gnums d acc l).1, strOfNums (gnums d acc l).2.1, 0) else (0, [], ⟨#[]⟩, 2)) else (0, [], ⟨#[]⟩, (gnums d acc l).2.2)) := by
  intro d
  induction d with
  | zero =>
    intro i l acc hi hb hl ha hai
    refine Ev.step (f := fun _ => (record_fits.f ki (l.length : Int)).bind fun t722 => (if t722 = true then (some (ki, acc, strOfNums l, 0)) else (some (0, ([] : List Int), (⟨#[]⟩ : ByteArray), 2)))) (fun k => ?_) ?_
    · simp only [record_Read.l0]; rw [if_neg (by omega)]
    · show Ev _ (if (0 : Int) = 0 then (if fit ki l.length = true then (ki, acc, strOfNums l, 0) else (0, [], ⟨#[]⟩, 2)) else (0, [], ⟨#[]⟩, 0))
      rw [if_pos rfl, fits_f, Option.bind_some]
      by_cases hf : fit ki l.length = true
      · rw [if_pos hf, if_pos hf]; exact Ev.now _
      · rw [if_neg hf, if_neg hf]; exact Ev.now _
  | succ d ih =>
    intro i l acc hi hb hl ha hai
    refine Ev.step (f := fun k => (vint_Get.f k l).bind fun bt => (if bt.2.2 = 0 then (if acc.length < 17592186044416 then (if 0 ≤ bt.2.1 then (if bt.2.1 ≤ (l.length : Int) then (record_Read.l0 k (l.drop (bt.2.1 : Int).toNat) (N : Int) (wrap64 ((i : Int) + 1)) ki (acc ++ [bt.1]) (⟨#[]⟩ : ByteArray)) else (none)) else (none)) else (none)) else (some (0, ([] : List Int), (⟨#[]⟩ : ByteArray), bt.2.2)))) (fun k => ?_) ?_
    · simp only [record_Read.l0]; rw [if_pos (by omega)]
    · refine Ev.bind (f := fun k bt => (if bt.2.2 = 0 then (if acc.length < 17592186044416 then (if 0 ≤ bt.2.1 then (if bt.2.1 ≤ (l.length : Int) then (record_Read.l0 k (l.drop (bt.2.1 : Int).toNat) (N : Int) (wrap64 ((i : Int) + 1)) ki (acc ++ [bt.1]) (⟨#[]⟩ : ByteArray)) else (none)) else (none)) else (none)) else (some (0, ([] : List Int), (⟨#[]⟩ : ByteArray), bt.2.2)))) (get_ev l hb (by omega)) ?_
      rw [gnums]
      by_cases h0 : (gget 0 0 l).2.2 = 0
      · have hu := gget_used hb h0
        rw [if_pos h0]
        refine Ev.congr (f := fun k => record_Read.l0 k (l.drop (gget 0 0 l).2.1.toNat) (N : Int) ((i + 1 : Nat) : Int) ki (acc ++ [(gget 0 0 l).1]) (⟨#[]⟩ : ByteArray)) (fun k => ?_) ?_
        · rw [if_pos h0, if_pos (by omega), if_pos (by omega), if_pos hu.2, wrap_succ i (by omega)]
        · exact ih (i + 1) _ _ (by omega) (isB_drop hb _) (by rw [List.length_drop]; omega) (by rw [List.length_append, List.length_singleton]; omega) (by rw [List.length_append, List.length_singleton]; omega)
      · rw [if_neg h0]
        refine Ev.congr (f := fun _ => some (0, [], (⟨#[]⟩ : ByteArray), (gget 0 0 l).2.2)) (fun k => ?_) ?_
        · rw [if_neg h0]
        · rw [if_neg h0]; exact Ev.now _
theorem recread_ev {ki : Int} (hk : 0 ≤ ki ∧ ki ≤ 255) {l : List Int} (hb : isB l) (hl : l.length ≤ 1000000000) : Ev (fun k => record_Read.f k ki l) (rread ki l) := by
  have hw : wrap64 ki = ki := by unfold wrap64; omega
  unfold rread
  refine Ev.congr (f := fun k => if decide (isKind ki) = true then (record_Read.l0 k l (numE ki.toNat) 0 ki ([] : List Int) (⟨#[]⟩ : ByteArray)) else some (0, ([] : List Int), (⟨#[]⟩ : ByteArray), 2)) (fun k => ?_) ?_
  · unfold record_Read.f
    rw [hw, known_f, Option.bind_some, show record_numbers.f = some () from rfl, Option.bind_some]
    by_cases h : isKind ki
    · have h' := h
      unfold isKind at h'
      rw [if_pos (by simp [h]), if_pos (by omega), if_pos (by omega), if_pos (by simp [h])]
    · rw [if_neg (by simp [h]), if_neg (by simp [h])]
  · by_cases h : isKind ki
    · have hn := numE_at ki h
      rw [if_pos h]
      have hc : ((numE ki.toNat).toNat : Int) = numE ki.toNat := by omega
      have := recread_loop ki (numE ki.toNat).toNat (by omega) (numE ki.toNat).toNat 0 l [] (by omega) hb hl (by simp) (by simp)
      refine Ev.congr (fun k => ?_) this
      rw [if_pos (by simp [h]), hc]; rfl
    · rw [if_neg h]
      refine Ev.congr (f := fun _ => some (0, [], (⟨#[]⟩ : ByteArray), 2)) (fun k => ?_) (Ev.now _)
      rw [if_neg (by simp [h])]
end Go.Proofs.Ytojepleodijdeaa.VP
namespace Go.Proofs.Ytojepleodijdeaa.VP
set_option linter.unusedVariables false
set_option linter.unusedSimpArgs false
open Go.RowKit Go.Proofs.Ytojepleodijdeaa.B Go.Proofs.YtojepleodijdeaaW.PrintWords Go.Proofs.YtojepleodijdeaaW.PrintLast Go.Proofs.YtojepleodijdeaaW.PrintMore
theorem rrecread_loop (k0 ki : Int) (N : Nat) (hN : N ≤ 10) (b : List Int) (hb : isB b) (hl : b.length ≤ 1000000000) : ∀ (d i at_ : Nat) (acc : List Int), i + d = N → at_ ≤ b.length → acc.length ≤ i →
    Ev (fun k => tumbrelref05_Read.l0 k (N : Int) (at_ : Int) (i : Int) k0 b ki acc (⟨#[]⟩ : ByteArray)) (if (gnums d acc (b.drop at_)).2.2 = 0 then (if fit ki (gnums d acc (b.drop at_)).2.1.length = true then (ki, (gnums d acc (b.drop at_)).1, strOfNums (gnums d acc (b.drop at_)).2.1, 0) else (0, [], ⟨#[]⟩, 2)) else (0, [], ⟨#[]⟩, (gnums d acc (b.drop at_)).2.2)) := by
  intro d
  induction d with
  | zero =>
    intro i at_ acc hi ha hai
    refine Ev.step (f := fun _ => (if fit ki (b.drop at_).length = true then (some (ki, acc, strOfNums (b.drop at_), 0)) else (some (0, ([] : List Int), (⟨#[]⟩ : ByteArray), 2)))) (fun k => ?_) ?_
    · simp only [tumbrelref05_Read.l0]
      have e : wrap64 ((b.length : Int) - (at_ : Int)) = ((b.drop at_).length : Int) := by rw [List.length_drop]; unfold wrap64; omega
      rw [if_neg (by omega), e, rtexts_f, Option.bind_some, Int.toNat_natCast]
      by_cases hf : fit ki (b.drop at_).length = true
      · rw [if_pos hf, if_pos hf, if_pos (by omega), if_pos (by omega)]
      · rw [if_neg hf, if_neg hf]
    · show Ev _ (if (0 : Int) = 0 then (if fit ki (b.drop at_).length = true then (ki, acc, strOfNums (b.drop at_), 0) else (0, [], ⟨#[]⟩, 2)) else (0, [], ⟨#[]⟩, 0))
      rw [if_pos rfl]
      by_cases hf : fit ki (b.drop at_).length = true
      · rw [if_pos hf, if_pos hf]; exact Ev.now _
      · rw [if_neg hf, if_neg hf]; exact Ev.now _
  | succ d ih =>
    intro i at_ acc hi ha hai
    have hbd := isB_drop hb at_
    refine Ev.step (f := fun k => (tumbrelref02_Get.f k (b.drop at_)).bind fun bt => (if bt.2.2 = 0 then (if acc.length < 17592186044416 then (tumbrelref05_Read.l0 k (N : Int) (wrap64 ((at_ : Int) + bt.2.1)) (wrap64 ((i : Int) + 1)) k0 b ki (acc ++ [bt.1]) (⟨#[]⟩ : ByteArray)) else (none)) else (some (0, ([] : List Int), (⟨#[]⟩ : ByteArray), bt.2.2)))) (fun k => ?_) ?_
    · simp only [tumbrelref05_Read.l0]; rw [if_pos (by omega), if_pos (by omega), if_pos (by omega), Int.toNat_natCast]
    · refine Ev.bind (f := fun k bt => (if bt.2.2 = 0 then (if acc.length < 17592186044416 then (tumbrelref05_Read.l0 k (N : Int) (wrap64 ((at_ : Int) + bt.2.1)) (wrap64 ((i : Int) + 1)) k0 b ki (acc ++ [bt.1]) (⟨#[]⟩ : ByteArray)) else (none)) else (some (0, ([] : List Int), (⟨#[]⟩ : ByteArray), bt.2.2)))) (rget_ev (b.drop at_) hbd (by rw [List.length_drop]; omega)) ?_
      rw [gnums]
      by_cases h0 : (gget 0 0 (b.drop at_)).2.2 = 0
      · have hu := gget_used hbd h0
        rw [List.length_drop] at hu
        rw [if_pos h0, List.drop_drop]
        have hw : wrap64 ((at_ : Int) + (gget 0 0 (b.drop at_)).2.1) = ((at_ + (gget 0 0 (b.drop at_)).2.1.toNat : Nat) : Int) := by unfold wrap64; omega
        refine Ev.congr (f := fun k => tumbrelref05_Read.l0 k (N : Int) ((at_ + (gget 0 0 (b.drop at_)).2.1.toNat : Nat) : Int) ((i + 1 : Nat) : Int) k0 b ki (acc ++ [(gget 0 0 (b.drop at_)).1]) (⟨#[]⟩ : ByteArray)) (fun k => ?_) ?_
        · rw [if_pos h0, if_pos (by omega), wrap_succ i (by omega), hw]
        · exact ih (i + 1) _ _ (by omega) (by omega) (by rw [List.length_append, List.length_singleton]; omega)
      · rw [if_neg h0]
        refine Ev.congr (f := fun _ => some (0, [], (⟨#[]⟩ : ByteArray), (gget 0 0 (b.drop at_)).2.2)) (fun k => ?_) ?_
        · rw [if_neg h0]
        · rw [if_neg h0]; exact Ev.now _
theorem rrecread_ev {ki : Int} (hk : 0 ≤ ki ∧ ki ≤ 255) {l : List Int} (hb : isB l) (hl : l.length ≤ 1000000000) : Ev (fun k => tumbrelref05_Read.f k ki l) (rread ki l) := by
  have hw : wrap64 ki = ki := by unfold wrap64; omega
  unfold rread
  by_cases h : isKind ki
  · have hn := numE_at ki h
    rw [if_pos h]
    have hc : ((numE ki.toNat).toNat : Int) = numE ki.toNat := by omega
    have := rrecread_loop ki ki (numE ki.toNat).toNat (by omega) l hb hl (numE ki.toNat).toNat 0 0 [] (by omega) (by omega) (by simp)
    rw [List.drop_zero] at this
    refine Ev.congr (fun k => ?_) this
    unfold tumbrelref05_Read.f
    rw [hw, many_f ki hk.1, Option.bind_some, if_pos h, if_neg (by omega), hc]
    rfl
  · rw [if_neg h]
    refine Ev.congr (f := fun _ => some (0, [], (⟨#[]⟩ : ByteArray), 2)) (fun k => ?_) (Ev.now _)
    unfold tumbrelref05_Read.f
    rw [hw, many_f ki hk.1, Option.bind_some, if_neg h, if_pos (by omega)]
end Go.Proofs.Ytojepleodijdeaa.VP
namespace Go.Proofs.Ytojepleodijdeaa.VP
set_option linter.unusedVariables false
set_option linter.unusedSimpArgs false
open Go.RowKit Go.Proofs.Ytojepleodijdeaa.B Go.Proofs.YtojepleodijdeaaW.PrintWords Go.Proofs.YtojepleodijdeaaW.PrintLast Go.Proofs.YtojepleodijdeaaW.PrintMore
def isFr (x : S56) : Prop := isB x.f1 ∧ (0 ≤ x.f0 ∧ x.f0 ≤ 255) ∧ x.f1.length ≤ 400
theorem gall_fr : ∀ (d : Nat) (l : List Int), isB l → ∀ x ∈ (gall d l).1, isFr x := by
  intro d
  induction d with
  | zero => intro l _ x hx; simp [gall] at hx
  | succ d ih =>
    intro l hb x hx
    rw [gall] at hx
    by_cases hn : l = []
    · rw [if_pos hn] at hx; simp at hx
    rw [if_neg hn] at hx
    by_cases h0 : (fread l).2.2.2 = 0
    · rw [if_pos h0] at hx
      rcases List.mem_cons.1 hx with rfl | hx
      · have := fread_used hb h0
        exact ⟨this.2.2.2.2, fread_kind hb, this.2.2.2.1⟩
      · exact ih _ (isB_drop hb _) x hx
    · rw [if_neg h0] at hx; simp at hx
theorem gall_few : ∀ (d : Nat) (l : List Int), l.length ≤ d → isB l → (gall d l).1.length ≤ l.length := by
  intro d l hd hb
  have := gall_at d l hd hb
  omega
/-- the records of frames, where they end, and why there are no more -/
def recs : List S56 → Int → List S80 → List Int → Int → List S80 × List Int × Int
  | [], _, out, ends, e => (out, ends, e)
  | x :: xs, at_, out, ends, e =>
    if (rread x.f0 x.f1).2.2.2 = 0 then recs xs (at_ + (x.f1.length : Int) + 11) (out ++ [⟨(rread x.f0 x.f1).1, (rread x.f0 x.f1).2.1, (rread x.f0 x.f1).2.2.1⟩]) (ends ++ [at_ + (x.f1.length : Int) + 11]) e
    else (out, ends, (rread x.f0 x.f1).2.2.2)
theorem rd56_at {l : List S56} {i : Nat} (h : i < l.length) : rd_T56 l (i : Int) = l[i] := by
  unfold rd_T56
  rw [Int.toNat_natCast, List.getD_eq_getElem?_getD, List.getElem?_eq_getElem h]; rfl
theorem rd60_at {l : List S60} {i : Nat} (h : i < l.length) : rd_T60 l (i : Int) = l[i] := by
  unfold rd_T60
  rw [Int.toNat_natCast, List.getD_eq_getElem?_getD, List.getElem?_eq_getElem h]; rfl
theorem rd80_at {l : List S80} {i : Nat} (h : i < l.length) : rd_T80 l (i : Int) = l[i] := by
  unfold rd_T80
  rw [Int.toNat_natCast, List.getD_eq_getElem?_getD, List.getElem?_eq_getElem h]; rfl
theorem rd82_at {l : List S82} {i : Nat} (h : i < l.length) : rd_T82 l (i : Int) = l[i] := by
  unfold rd_T82
  rw [Int.toNat_natCast, List.getD_eq_getElem?_getD, List.getElem?_eq_getElem h]; rfl
theorem recall_loop (fs : List S56) (hf : ∀ x ∈ fs, isFr x) (hl : fs.length ≤ 1000000) (e : Int) : ∀ (d i : Nat) (at_ : Int) (out : List S80) (ends : List Int), fs.length - i = d → i ≤ fs.length → 0 ≤ at_ ∧ at_ ≤ 411 * i → out.length ≤ i → ends.length ≤ i →
    Ev (fun k => record_All.l0 k e out ends at_ fs (fs.length : Int) (i : Int)) (recs (fs.drop i) at_ out ends e) := by
  intro d
  induction d with
  | zero =>
    intro i at_ out ends hd hi ha ho he
    refine Ev.step (f := fun _ => some (out, ends, e)) (fun k => ?_) ?_
    · simp only [record_All.l0]; rw [if_neg (by omega)]
    · rw [List.drop_eq_nil_of_le (by omega)]; exact Ev.now _
  | succ d ih =>
    intro i at_ out ends hd hi ha ho he
    have hlt : i < fs.length := by omega
    obtain ⟨hb, hk, h4⟩ := hf _ (List.getElem_mem hlt)
    rw [List.drop_eq_getElem_cons hlt, recs]
    refine Ev.step (f := fun k => (record_Read.f k (fs[i]).f0 (fs[i]).f1).bind fun bt => (if bt.2.2.2 = 0 then ((frame_Bytes.f (fs[i]).f0 (fs[i]).f1).bind fun bt742 => (if out.length < 2932031007402 then (if ends.length < 17592186044416 then (record_All.l0 k e (out ++ [(⟨bt.1, bt.2.1, bt.2.2.1⟩ : S80)]) (ends ++ [wrap64 (at_ + (bt742.1.length : Int))]) (wrap64 (at_ + (bt742.1.length : Int))) fs (fs.length : Int) (wrap64 ((i : Int) + 1))) else (none)) else (none))) else (some (out, ends, bt.2.2.2)))) (fun k => ?_) ?_
    · simp only [record_All.l0]; rw [if_pos (by omega), if_pos (by omega), if_pos (by omega), rd56_at hlt]
    · refine Ev.bind (f := fun k bt => (if bt.2.2.2 = 0 then ((frame_Bytes.f (fs[i]).f0 (fs[i]).f1).bind fun bt742 => (if out.length < 2932031007402 then (if ends.length < 17592186044416 then (record_All.l0 k e (out ++ [(⟨bt.1, bt.2.1, bt.2.2.1⟩ : S80)]) (ends ++ [wrap64 (at_ + (bt742.1.length : Int))]) (wrap64 (at_ + (bt742.1.length : Int))) fs (fs.length : Int) (wrap64 ((i : Int) + 1))) else (none)) else (none))) else (some (out, ends, bt.2.2.2)))) (recread_ev hk hb (by omega)) ?_
      by_cases h0 : (rread (fs[i]).f0 (fs[i]).f1).2.2.2 = 0
      · rw [if_pos h0]
        have hw : wrap64 (at_ + ((fb (fs[i]).f0 (fs[i]).f1).length : Int)) = at_ + ((fs[i]).f1.length : Int) + 11 := by rw [fb_len]; unfold wrap64; omega
        refine Ev.congr (fun k => ?_) (ih (i + 1) (at_ + ((fs[i]).f1.length : Int) + 11) (out ++ [⟨(rread (fs[i]).f0 (fs[i]).f1).1, (rread (fs[i]).f0 (fs[i]).f1).2.1, (rread (fs[i]).f0 (fs[i]).f1).2.2.1⟩]) (ends ++ [at_ + ((fs[i]).f1.length : Int) + 11]) (by omega) (by omega) (by omega) (by rw [List.length_append, List.length_singleton]; omega) (by rw [List.length_append, List.length_singleton]; omega))
        rw [if_pos h0, fbytes_f hk hb h4, Option.bind_some, if_pos (by omega), if_pos (by omega), hw, wrap_succ i (by omega)]
      · rw [if_neg h0]
        refine Ev.congr (f := fun _ => some (out, ends, (rread (fs[i]).f0 (fs[i]).f1).2.2.2)) (fun k => ?_) (Ev.now _)
        rw [if_neg h0]
theorem recall_ev (b : List Int) (hb : isB b) (hl : b.length ≤ 1000000) : Ev (fun k => record_All.f k b) (recs (gall b.length b).1 0 [] [] (gall b.length b).2.2) := by
  have hfew := gall_few b.length b (by omega) hb
  refine Ev.bind (f := fun k bt => record_All.l0 k bt.2.2 ([] : List (S80)) ([] : List Int) 0 bt.1 (bt.1.length : Int) 0) (fall_ev b hb (by omega)) ?_
  have := recall_loop (gall b.length b).1 (gall_fr _ b hb) (by omega) (gall b.length b).2.2 (gall b.length b).1.length 0 0 [] [] (by omega) (by omega) (by omega) (by simp) (by simp)
  simpa using this
def to82 (f : S80) : S82 := ⟨f.f0, f.f1, f.f2⟩
theorem rrecall_loop (fs : List S56) (hf : ∀ x ∈ fs, isFr x) (hl : fs.length ≤ 1000000) (e : Int) : ∀ (d i : Nat) (at_ : Int) (out : List S80) (ends : List Int), fs.length - i = d → i ≤ fs.length → 0 ≤ at_ ∧ at_ ≤ 411 * i → out.length ≤ i → ends.length ≤ i →
    Ev (fun k => tumbrelref05_All.l0 k (out.map to82) ends (fs.map to60) e at_ (i : Int)) ((recs (fs.drop i) at_ out ends e).1.map to82, (recs (fs.drop i) at_ out ends e).2) := by
  intro d
  have hml : (fs.map to60).length = fs.length := List.length_map ..
  induction d with
  | zero =>
    intro i at_ out ends hd hi ha ho he
    refine Ev.step (f := fun _ => some (out.map to82, ends, e)) (fun k => ?_) ?_
    · simp only [tumbrelref05_All.l0]; rw [if_neg (by omega)]
    · rw [List.drop_eq_nil_of_le (by omega)]; exact Ev.now _
  | succ d ih =>
    intro i at_ out ends hd hi ha ho he
    have hlt : i < fs.length := by omega
    have hlt2 : i < (fs.map to60).length := by omega
    obtain ⟨hb, hk, h4⟩ := hf _ (List.getElem_mem hlt)
    have hg : (fs.map to60)[i] = to60 fs[i] := List.getElem_map ..
    rw [List.drop_eq_getElem_cons hlt, recs]
    refine Ev.step (f := fun k => (tumbrelref05_Read.f k (fs[i]).f0 (fs[i]).f1).bind fun bt => (if bt.2.2.2 = 0 then (if (out.map to82).length < 2932031007402 then (if ends.length < 17592186044416 then (tumbrelref05_All.l0 k (out.map to82 ++ [(⟨bt.1, bt.2.1, bt.2.2.1⟩ : S82)]) (ends ++ [wrap64 ((wrap64 (at_ + (((fs[i]).f1).length : Int))) + 11)]) (fs.map to60) e (wrap64 ((wrap64 (at_ + (((fs[i]).f1).length : Int))) + 11)) (wrap64 ((i : Int) + 1))) else (none)) else (none)) else (some (out.map to82, ends, bt.2.2.2)))) (fun k => ?_) ?_
    · simp only [tumbrelref05_All.l0]; rw [if_pos (by omega), if_pos (by omega), rd60_at hlt2, hg]; rfl
    · refine Ev.bind (f := fun k bt => (if bt.2.2.2 = 0 then (if (out.map to82).length < 2932031007402 then (if ends.length < 17592186044416 then (tumbrelref05_All.l0 k (out.map to82 ++ [(⟨bt.1, bt.2.1, bt.2.2.1⟩ : S82)]) (ends ++ [wrap64 ((wrap64 (at_ + (((fs[i]).f1).length : Int))) + 11)]) (fs.map to60) e (wrap64 ((wrap64 (at_ + (((fs[i]).f1).length : Int))) + 11)) (wrap64 ((i : Int) + 1))) else (none)) else (none)) else (some (out.map to82, ends, bt.2.2.2)))) (rrecread_ev hk hb (by omega)) ?_
      by_cases h0 : (rread (fs[i]).f0 (fs[i]).f1).2.2.2 = 0
      · rw [if_pos h0]
        have hw : wrap64 ((wrap64 (at_ + (((fs[i]).f1).length : Int))) + 11) = at_ + ((fs[i]).f1.length : Int) + 11 := by unfold wrap64; omega
        refine Ev.congr (fun k => ?_) (ih (i + 1) (at_ + ((fs[i]).f1.length : Int) + 11) (out ++ [⟨(rread (fs[i]).f0 (fs[i]).f1).1, (rread (fs[i]).f0 (fs[i]).f1).2.1, (rread (fs[i]).f0 (fs[i]).f1).2.2.1⟩]) (ends ++ [at_ + ((fs[i]).f1.length : Int) + 11]) (by omega) (by omega) (by omega) (by rw [List.length_append, List.length_singleton]; omega) (by rw [List.length_append, List.length_singleton]; omega))
        rw [if_pos h0, if_pos (by rw [List.length_map]; omega), if_pos (by omega), hw, wrap_succ i (by omega), List.map_append]
        rfl
      · rw [if_neg h0]
        refine Ev.congr (f := fun _ => some (out.map to82, ends, (rread (fs[i]).f0 (fs[i]).f1).2.2.2)) (fun k => ?_) (Ev.now _)
        rw [if_neg h0]
theorem rrecall_ev (b : List Int) (hb : isB b) (hl : b.length ≤ 1000000) : Ev (fun k => tumbrelref05_All.f k b) ((recs (gall b.length b).1 0 [] [] (gall b.length b).2.2).1.map to82, (recs (gall b.length b).1 0 [] [] (gall b.length b).2.2).2) := by
  have hfew := gall_few b.length b (by omega) hb
  refine Ev.bind (f := fun k bt => tumbrelref05_All.l0 k (([] : List (S82))) (([] : List Int)) bt.1 bt.2.2 0 0) (rfall_ev b hb (by omega)) ?_
  have := rrecall_loop (gall b.length b).1 (gall_fr _ b hb) (by omega) (gall b.length b).2.2 (gall b.length b).1.length 0 0 [] [] (by omega) (by omega) (by omega) (by simp) (by simp)
  simpa using this
theorem own5_loop (l : List S80) (hl : l.length ≤ 1000000) : ∀ (d i : Nat) (out : List S82), l.length - i = d → i ≤ l.length → out.length ≤ i →
    Ev (fun k => tumbrellaw05_own.l0 k out l (l.length : Int) (i : Int)) (out ++ (l.drop i).map to82) := by
  intro d
  induction d with
  | zero =>
    intro i out hd hi ho
    refine Ev.step (f := fun _ => some out) (fun k => ?_) ?_
    · simp only [tumbrellaw05_own.l0]; rw [if_neg (by omega)]
    · rw [List.drop_eq_nil_of_le (by omega), List.map_nil, List.append_nil]; exact Ev.now _
  | succ d ih =>
    intro i out hd hi ho
    have hlt : i < l.length := by omega
    rw [List.drop_eq_getElem_cons hlt, List.map_cons, List.append_cons]
    refine Ev.step (f := fun k => tumbrellaw05_own.l0 k (out ++ [to82 l[i]]) l (l.length : Int) ((i + 1 : Nat) : Int)) (fun k => ?_) ?_
    · simp only [tumbrellaw05_own.l0]
      rw [if_pos (by omega), if_pos (by omega), if_pos (by omega), if_pos (by omega), rd80_at hlt, wrap_succ i (by omega)]
      rfl
    · exact ih (i + 1) _ (by omega) (by omega) (by rw [List.length_append, List.length_singleton]; omega)
theorem own5_ev (l : List S80) (hl : l.length ≤ 1000000) : Ev (fun k => tumbrellaw05_own.f k l) (l.map to82) := by
  have := own5_loop l hl l.length 0 [] (by omega) (by omega) (by simp)
  simpa [tumbrellaw05_own.f] using this
theorem same5_loop (l : List S82) (hl : l.length ≤ 1000000) (hn : ∀ x ∈ l, x.f1.length ≤ 1000000) : ∀ (d i : Nat), l.length - i = d → Ev (fun k => tumbrelref05_Same.l0 k l l (i : Int)) true := by
  intro d
  induction d with
  | zero =>
    intro i hd
    refine Ev.step (f := fun _ => some true) (fun k => ?_) (Ev.now _)
    simp only [tumbrelref05_Same.l0]; rw [if_neg (by omega)]
  | succ d ih =>
    intro i hd
    have hlt : i < l.length := by omega
    have := hn _ (List.getElem_mem hlt)
    refine Ev.step (f := fun k => (tumbrelref02_Same.f k (l[i]).f1 (l[i]).f1).bind fun t => (if t = true then (tumbrelref05_Same.l0 k l l ((i + 1 : Nat) : Int)) else (some false))) (fun k => ?_) ?_
    · simp only [tumbrelref05_Same.l0]
      rw [if_pos (by omega), if_pos (by omega), if_pos (by omega), rd82_at hlt, if_pos trivial, if_pos trivial, wrap_succ i (by omega)]
    · refine Ev.bind (f := fun k t => (if t = true then (tumbrelref05_Same.l0 k l l ((i + 1 : Nat) : Int)) else (some false))) (same2_ev (l[i]).f1 (l[i]).f1 (by omega)) ?_
      refine Ev.congr (fun k => ?_) (ih (i + 1) (by omega))
      rw [if_pos (by simp)]
theorem same5_ev (l : List S82) (hl : l.length ≤ 1000000) (hn : ∀ x ∈ l, x.f1.length ≤ 1000000) : Ev (fun k => tumbrelref05_Same.f k l l) true := by
  have := same5_loop l hl hn l.length 0 (by omega)
  simpa [tumbrelref05_Same.f] using this
theorem ints_loop (l : List Int) (hl : l.length ≤ 1000000) : ∀ (d i : Nat), l.length - i = d → Ev (fun k => tumbrelref05_Ints.l0 k l l (i : Int)) true := by
  intro d
  induction d with
  | zero =>
    intro i hd
    refine Ev.step (f := fun _ => some true) (fun k => ?_) (Ev.now _)
    simp only [tumbrelref05_Ints.l0]; rw [if_neg (by omega)]
  | succ d ih =>
    intro i hd
    refine Ev.step (f := fun k => tumbrelref05_Ints.l0 k l l ((i + 1 : Nat) : Int)) (fun k => ?_) (ih (i + 1) (by omega))
    simp only [tumbrelref05_Ints.l0]
    rw [if_pos (by omega), if_pos (by omega), if_pos (by omega), if_pos trivial, wrap_succ i (by omega)]
theorem ints_ev (l : List Int) (hl : l.length ≤ 1000000) : Ev (fun k => tumbrelref05_Ints.f k l l) true := by
  have := ints_loop l hl l.length 0 (by omega)
  simpa [tumbrelref05_Ints.f] using this
theorem gnums_few : ∀ (n : Nat) (acc l : List Int), (gnums n acc l).1.length ≤ acc.length + n := by
  intro n
  induction n with
  | zero => intro acc l; simp [gnums]
  | succ n ih =>
    intro acc l
    rw [gnums]
    split
    · have := ih (acc ++ [(gget 0 0 l).1]) (l.drop (gget 0 0 l).2.1.toNat)
      rw [List.length_append, List.length_singleton] at this
      omega
    · simp
theorem rread_few (ki : Int) (l : List Int) : (rread ki l).2.1.length ≤ 10 := by
  unfold rread
  by_cases h : isKind ki
  · have hn := numE_at ki h
    have := gnums_few (numE ki.toNat).toNat [] l
    rw [if_pos h]
    split
    · split
      · simp only [List.length_nil] at this; dsimp only; omega
      · simp
    · simp
  · rw [if_neg h]; simp
theorem recs_few : ∀ (fs : List S56) (at_ : Int) (out : List S80) (ends : List Int) (e : Int), (∀ x ∈ out, x.f1.length ≤ 10) → out.length = ends.length →
    (∀ x ∈ (recs fs at_ out ends e).1, x.f1.length ≤ 10) ∧ (recs fs at_ out ends e).1.length ≤ out.length + fs.length ∧ (recs fs at_ out ends e).2.1.length = (recs fs at_ out ends e).1.length := by
  intro fs
  induction fs with
  | nil => intro at_ out ends e h hl; exact ⟨h, by simp [recs], hl.symm⟩
  | cons x xs ih =>
    intro at_ out ends e h hl
    rw [recs]
    split
    · have := ih (at_ + (x.f1.length : Int) + 11) (out ++ [⟨(rread x.f0 x.f1).1, (rread x.f0 x.f1).2.1, (rread x.f0 x.f1).2.2.1⟩]) (ends ++ [at_ + (x.f1.length : Int) + 11]) e (by
        intro y hy
        rcases List.mem_append.1 hy with hy | hy
        · exact h y hy
        · rw [List.mem_singleton] at hy; subst hy; exact rread_few _ _) (by simp [hl])
      refine ⟨this.1, ?_, this.2.2⟩
      have h2 := this.2.1
      simp only [List.length_append, List.length_singleton, List.length_cons, List.length_nil] at h2 ⊢
      omega
    · exact ⟨h, by simp, hl.symm⟩
end Go.Proofs.Ytojepleodijdeaa.VP
namespace Go.Proofs.Ytojepleodijdeaa.VP
open Go.RowKit Go.Proofs.Ytojepleodijdeaa.B Go.Proofs.YtojepleodijdeaaW.PrintWords
theorem aw5_40 : aw5.f 40 = some true := by decide +kernel
theorem awake5_ev : Ev (fun k => tumbrellaw05_awake.f k) true := by
  refine Ev.of (fun k => tumbrellaw05_awake.mono k) (k := 40) ?_
  unfold tumbrellaw05_awake.f
  rw [if_pos aw5_40]
end Go.Proofs.Ytojepleodijdeaa.VP
namespace Go.Proofs.Ytojepleodijdeaa.Pure
set_option linter.unusedVariables false
set_option linter.unusedSimpArgs false
open Go.RowKit Go.Proofs.Ytojepleodijdeaa.B Go.Proofs.Ytojepleodijdeaa.VP Go.Proofs.YtojepleodijdeaaW.PrintWords Go.Proofs.YtojepleodijdeaaW.PrintLast Go.Proofs.YtojepleodijdeaaW.PrintMore
theorem RecordLists : tumbrellaw05_RecordLists.Pure := by
  intro l0 _ _ hb'
  have hb := isB_of_wf hb'
  obtain ⟨K0, h0⟩ := awake5_ev
  dsimp only at h0
  by_cases hlong : (l0.length : Int) > 1200
  · refine ⟨K0, ?_⟩
    unfold tumbrellaw05_RecordLists.f
    rw [h0 _ (Nat.le_refl _), Option.bind_some, if_pos rfl, if_pos hlong]
  have hfew := gall_few l0.length l0 (by omega) hb
  obtain ⟨K1, h1⟩ := recall_ev l0 hb (by omega)
  obtain ⟨K2, h2⟩ := rrecall_ev l0 hb (by omega)
  have hr := recs_few (gall l0.length l0).1 0 [] [] (gall l0.length l0).2.2 (by simp) rfl
  generalize recs (gall l0.length l0).1 0 [] [] (gall l0.length l0).2.2 = R at h1 h2 hr
  obtain ⟨hr1, hr2, hr3⟩ := hr
  simp only [List.length_nil, Nat.zero_add] at hr2
  obtain ⟨K3, h3⟩ := own5_ev R.1 (by omega)
  obtain ⟨K4, h4⟩ := same5_ev (R.1.map to82) (by rw [List.length_map]; omega) (by
    intro x hx
    obtain ⟨y, hy, rfl⟩ := List.mem_map.1 hx
    have := hr1 y hy
    show y.f1.length ≤ 1000000
    omega)
  obtain ⟨K5, h5⟩ := ints_ev R.2.1 (by omega)
  dsimp only at h1 h2 h3 h4 h5
  refine ⟨K0 + K1 + K2 + K3 + K4 + K5, ?_⟩
  unfold tumbrellaw05_RecordLists.f
  rw [h0 _ (by omega), Option.bind_some, if_pos rfl, if_neg hlong, h1 _ (by omega), Option.bind_some, h2 _ (by omega), Option.bind_some, h3 _ (by omega), Option.bind_some]
  dsimp only
  rw [h4 _ (by omega), Option.bind_some, if_pos rfl, h5 _ (by omega), Option.bind_some, if_pos rfl]
  simp
end Go.Proofs.Ytojepleodijdeaa.Pure
namespace Go.Proofs.YtojepleodijdeaaW.PrintWords
open Go.ChangeShapes Go.WideShapes
/-- A row's slice of whole numbers is no longer than its weight allows. -/
theorem sized_ints {H : Type} {enc : TypeId × Value → H} {P : Program} {W : World} {base : Nat} {spare : Nat → Bool} {held : Bool} {t e : TypeId} {k : IntKind} {a : Option Addr} {len cap : Nat} {d : DataW H} {ps : List MemPlace} {ts : List TypeId} {ds : List (DataW H)} {j : Nat}
    (hsz : (DataW.weightsEach P ts ds).all (· ≤ reachBytes) = true) (ht : ts[j]? = some t) (hd : ds[j]? = some d) (hu : P.underlying t = some (.slice e)) (he : P.underlying e = some (.int k)) (hc : P.cellsOf e = 1) {B : Nat} (hB : P.bytesOf e = B)
    (h : DataW.Trod enc P W base spare held t (.slice a len cap) d ps) : len * B ≤ 140737488351232 := by
  obtain ⟨fuel, hf⟩ := h
  rcases open_ints hu he hc hf with ⟨hcs, _⟩ | ⟨x, l, c, zs, hcs, _, hl, _, hz, hx, _, _⟩
  · simp [Value.cells] at hcs
    obtain ⟨rfl, rfl, rfl⟩ := hcs
    simp
  · simp [Value.cells] at hcs
    obtain ⟨rfl, rfl, rfl⟩ := hcs
    obtain ⟨hx, _⟩ := Prod.mk.inj hx
    subst hx
    have z := sized_slice hsz ht hd hu
    rw [hB] at z
    have hl2 : len ≤ zs.length := by
      rw [hz]
      split
      · exact hl
      · exact Nat.le_refl _
    have h1 : (lits (H := H) k (zs.take len)).length + (lits (H := H) k (zs.drop len)).length = zs.length := by
      simp [lits]
      omega
    rw [h1] at z
    exact Nat.le_trans (Nat.mul_le_mul_right _ hl2) z
end Go.Proofs.YtojepleodijdeaaW.PrintWords
