/- Own texts and printed ones, those declarations alone that this claim needs, laid into one text by a program of this session. -/
import Derived.Test.YtojepleodijdeaaXR1
import Derived.Test.YtojepleodijdeaaXR2
import Derived.Test.YtojepleodijdeaaXR3
import Derived.Test.YtojepleodijdeaaXR4
import Derived.Test.YtojepleodijdeaaXR5
namespace Go.Proofs.Ytojepleodijdeaa.B
open Go.RowKit Go.Proofs.YtojepleodijdeaaW.PrintWords Go.Proofs.YtojepleodijdeaaW.PrintLast Go.Proofs.YtojepleodijdeaaW.PrintMore
attribute [local go_sem] qgz qgx qhj qhk qfx qfj qgj qgk   -- for this text's walks alone
set_option linter.unusedVariables false
set_option linter.unusedSimpArgs false
def aw5.f (k : Nat)  : Option (Bool) := (record_Bytes.f k 7 (([5] : List Int)) (⟨#[]⟩ : ByteArray)).bind fun bt757 => (if bt757.1.length < 140737488355328 then ((record_All.f k (bt757.1 ++ [1])).bind fun bt764 => ((record_Bytes.f k 7 ([] : List Int) (⟨#[]⟩ : ByteArray)).bind fun bt771 => ((record_Read.f k 99 ([] : List Int)).bind fun bt775 => (if bt757.2 = 0 then (if (bt757.1.length : Int) = 12 then (if (bt764.1.length : Int) = 1 then ((tumbrelref05_Ints.f k bt764.2.1 (([12] : List Int))).bind fun t785 => (if t785 = true then (if bt764.2.2 = 3 then (if bt771.2 = 1 then (if bt775.2.2.2 = 2 then (if 0 < (bt764.1.length : Int) then ((record_Same.f k ((qck bt764.1 0).f0) ((qck bt764.1 0).f1) ((qck bt764.1 0).f2) 7 (([5] : List Int)) (⟨#[]⟩ : ByteArray)).bind fun t790 => (if t790 = true then ((record_Right.f ((qck bt764.1 0).f0) ((qck bt764.1 0).f1) ((qck bt764.1 0).f2)).bind fun t792 => (if t792 = true then (some true) else (some false))) else (some false))) else (none)) else (some false)) else (some false)) else (some false)) else (some false))) else (some false)) else (some false)) else (some false))))) else (none))
theorem aw5.mono : ∀ k, LeO (aw5.f k ) (aw5.f (k + 1) ) := by
 intro  k
 unfold aw5.f
 repeat' first
   | (with_reducible exact record_All.mono _ _)
   | (with_reducible exact record_Bytes.mono _ _ _ _)
   | (with_reducible exact record_Read.mono _ _ _)
   | (with_reducible exact record_Same.mono _ _ _ _ _ _ _)
   | (with_reducible exact tumbrelref05_Ints.mono _ _ _)
   | (with_reducible exact LeO.refl _)
   | (with_reducible exact LeO.none _)
   | (with_reducible refine LeO.ite ?_ ?_)
   | (with_reducible refine LeO.bind ?_ (fun _ => ?_))
   | exact record_All.mono _ _
   | exact record_Bytes.mono _ _ _ _
   | exact record_Read.mono _ _ _
   | exact record_Same.mono _ _ _ _ _ _ _
   | exact tumbrelref05_Ints.mono _ _ _
   | exact LeO.none _
   | refine LeO.ite ?_ ?_
   | refine LeO.bind ?_ (fun _ => ?_)
set_option maxHeartbeats 8000000 in
set_option maxRecDepth 100000 in
theorem aw5.calls (k : Nat)  (r : Bool) (w : World) (h : aw5.f k  = some r) (hr_ : r = true) :
  Calls Try.prog 54 #[] w fun e w' => e = .returned (.bool r) ∧ Below w.heap.size w w' := by
 have hu80 := Try.underlying80
 have hu56 := Try.underlying56
 have HB := Aside0.mk (Below.refl w.heap.size w)
 have H : ((record_Bytes.f k 7 (([5] : List Int)) (⟨#[]⟩ : ByteArray)).bind fun bt757 => (if bt757.1.length < 140737488355328 then ((record_All.f k (bt757.1 ++ [1])).bind fun bt764 => ((record_Bytes.f k 7 ([] : List Int) (⟨#[]⟩ : ByteArray)).bind fun bt771 => ((record_Read.f k 99 ([] : List Int)).bind fun bt775 => (if bt757.2 = 0 then (if (bt757.1.length : Int) = 12 then (if (bt764.1.length : Int) = 1 then ((tumbrelref05_Ints.f k bt764.2.1 (([12] : List Int))).bind fun t785 => (if t785 = true then (if bt764.2.2 = 3 then (if bt771.2 = 1 then (if bt775.2.2.2 = 2 then (if 0 < (bt764.1.length : Int) then ((record_Same.f k ((qck bt764.1 0).f0) ((qck bt764.1 0).f1) ((qck bt764.1 0).f2) 7 (([5] : List Int)) (⟨#[]⟩ : ByteArray)).bind fun t790 => (if t790 = true then ((record_Right.f ((qck bt764.1 0).f0) ((qck bt764.1 0).f1) ((qck bt764.1 0).f2)).bind fun t792 => (if t792 = true then (some true) else (some false))) else (some false))) else (none)) else (some false)) else (some false)) else (some false)) else (some false))) else (some false)) else (some false)) else (some false))))) else (none))) = some r := h
 clear h
 obtain ⟨y754, hy754⟩ : ∃ y_ : List Int, y_ = (([5] : List Int)) := ⟨_, rfl⟩
 replace H : ((record_Bytes.f k 7 y754 (⟨#[]⟩ : ByteArray)).bind fun bt757 => (if bt757.1.length < 140737488355328 then ((record_All.f k (bt757.1 ++ [1])).bind fun bt764 => ((record_Bytes.f k 7 ([] : List Int) (⟨#[]⟩ : ByteArray)).bind fun bt771 => ((record_Read.f k 99 ([] : List Int)).bind fun bt775 => (if bt757.2 = 0 then (if (bt757.1.length : Int) = 12 then (if (bt764.1.length : Int) = 1 then ((tumbrelref05_Ints.f k bt764.2.1 (([12] : List Int))).bind fun t785 => (if t785 = true then (if bt764.2.2 = 3 then (if bt771.2 = 1 then (if bt775.2.2.2 = 2 then (if 0 < (bt764.1.length : Int) then ((record_Same.f k ((qck bt764.1 0).f0) ((qck bt764.1 0).f1) ((qck bt764.1 0).f2) 7 (([5] : List Int)) (⟨#[]⟩ : ByteArray)).bind fun t790 => (if t790 = true then ((record_Right.f ((qck bt764.1 0).f0) ((qck bt764.1 0).f1) ((qck bt764.1 0).f2)).bind fun t792 => (if t792 = true then (some true) else (some false))) else (some false))) else (none)) else (some false)) else (some false)) else (some false)) else (some false))) else (some false)) else (some false)) else (some false))))) else (none))) = some r := by first | (rw [hy754]; with_reducible exact H) | (have H2_ := (Option.bind_some _ _).symm.trans H; rw [hy754]; with_reducible exact H2_) | (have H2_ := (Option.bind_some _ _).symm.trans H; with_reducible exact H2_) | with_reducible exact H | (rw [hy754]; exact H) | exact H
 have Ny754 := Aside0.mk hy754
 clear hy754
 replace H := Option.bind_eq_some_iff.mp H
 obtain ⟨⟨t757, t760⟩, A10, H⟩ := H
 replace H : (if t757.length < 140737488355328 then ((record_All.f k (t757 ++ [1])).bind fun bt764 => ((record_Bytes.f k 7 ([] : List Int) (⟨#[]⟩ : ByteArray)).bind fun bt771 => ((record_Read.f k 99 ([] : List Int)).bind fun bt775 => (if t760 = 0 then (if (t757.length : Int) = 12 then (if (bt764.1.length : Int) = 1 then ((tumbrelref05_Ints.f k bt764.2.1 (([12] : List Int))).bind fun t785 => (if t785 = true then (if bt764.2.2 = 3 then (if bt771.2 = 1 then (if bt775.2.2.2 = 2 then (if 0 < (bt764.1.length : Int) then ((record_Same.f k ((qck bt764.1 0).f0) ((qck bt764.1 0).f1) ((qck bt764.1 0).f2) 7 (([5] : List Int)) (⟨#[]⟩ : ByteArray)).bind fun t790 => (if t790 = true then ((record_Right.f ((qck bt764.1 0).f0) ((qck bt764.1 0).f1) ((qck bt764.1 0).f2)).bind fun t792 => (if t792 = true then (some true) else (some false))) else (some false))) else (none)) else (some false)) else (some false)) else (some false)) else (some false))) else (some false)) else (some false)) else (some false))))) else (none)) = some r := H
 have A1 := Aside0.mk A10
 clear A10
 by_cases c2 : t757.length < 140737488355328
 ·rw [if_pos c2] at H
  have LMc2 := Aside0.mk c2
  clear c2
  obtain ⟨y761, hy761⟩ : ∃ y_ : List Int, y_ = (t757 ++ [1]) := ⟨_, rfl⟩
  replace H : ((record_All.f k y761).bind fun bt764 => ((record_Bytes.f k 7 ([] : List Int) (⟨#[]⟩ : ByteArray)).bind fun bt771 => ((record_Read.f k 99 ([] : List Int)).bind fun bt775 => (if t760 = 0 then (if (t757.length : Int) = 12 then (if (bt764.1.length : Int) = 1 then ((tumbrelref05_Ints.f k bt764.2.1 (([12] : List Int))).bind fun t785 => (if t785 = true then (if bt764.2.2 = 3 then (if bt771.2 = 1 then (if bt775.2.2.2 = 2 then (if 0 < (bt764.1.length : Int) then ((record_Same.f k ((qck bt764.1 0).f0) ((qck bt764.1 0).f1) ((qck bt764.1 0).f2) 7 (([5] : List Int)) (⟨#[]⟩ : ByteArray)).bind fun t790 => (if t790 = true then ((record_Right.f ((qck bt764.1 0).f0) ((qck bt764.1 0).f1) ((qck bt764.1 0).f2)).bind fun t792 => (if t792 = true then (some true) else (some false))) else (some false))) else (none)) else (some false)) else (some false)) else (some false)) else (some false))) else (some false)) else (some false)) else (some false))))) = some r := by first | (rw [hy761]; with_reducible exact H) | (have H2_ := (Option.bind_some _ _).symm.trans H; rw [hy761]; with_reducible exact H2_) | (have H2_ := (Option.bind_some _ _).symm.trans H; with_reducible exact H2_) | with_reducible exact H | (rw [hy761]; exact H) | exact H
  have Ny761 := Aside0.mk hy761
  clear hy761
  replace H := Option.bind_eq_some_iff.mp H
  obtain ⟨⟨t764, t765, t766⟩, A30, H⟩ := H
  replace H : ((record_Bytes.f k 7 ([] : List Int) (⟨#[]⟩ : ByteArray)).bind fun bt771 => ((record_Read.f k 99 ([] : List Int)).bind fun bt775 => (if t760 = 0 then (if (t757.length : Int) = 12 then (if (t764.length : Int) = 1 then ((tumbrelref05_Ints.f k t765 (([12] : List Int))).bind fun t785 => (if t785 = true then (if t766 = 3 then (if bt771.2 = 1 then (if bt775.2.2.2 = 2 then (if 0 < (t764.length : Int) then ((record_Same.f k ((qck t764 0).f0) ((qck t764 0).f1) ((qck t764 0).f2) 7 (([5] : List Int)) (⟨#[]⟩ : ByteArray)).bind fun t790 => (if t790 = true then ((record_Right.f ((qck t764 0).f0) ((qck t764 0).f1) ((qck t764 0).f2)).bind fun t792 => (if t792 = true then (some true) else (some false))) else (some false))) else (none)) else (some false)) else (some false)) else (some false)) else (some false))) else (some false)) else (some false)) else (some false)))) = some r := H
  have A3 := Aside0.mk A30
  clear A30
  replace H := Option.bind_eq_some_iff.mp H
  obtain ⟨⟨t771, t774⟩, A40, H⟩ := H
  replace H : ((record_Read.f k 99 ([] : List Int)).bind fun bt775 => (if t760 = 0 then (if (t757.length : Int) = 12 then (if (t764.length : Int) = 1 then ((tumbrelref05_Ints.f k t765 (([12] : List Int))).bind fun t785 => (if t785 = true then (if t766 = 3 then (if t774 = 1 then (if bt775.2.2.2 = 2 then (if 0 < (t764.length : Int) then ((record_Same.f k ((qck t764 0).f0) ((qck t764 0).f1) ((qck t764 0).f2) 7 (([5] : List Int)) (⟨#[]⟩ : ByteArray)).bind fun t790 => (if t790 = true then ((record_Right.f ((qck t764 0).f0) ((qck t764 0).f1) ((qck t764 0).f2)).bind fun t792 => (if t792 = true then (some true) else (some false))) else (some false))) else (none)) else (some false)) else (some false)) else (some false)) else (some false))) else (some false)) else (some false)) else (some false))) = some r := H
  have A4 := Aside0.mk A40
  clear A40
  replace H := Option.bind_eq_some_iff.mp H
  obtain ⟨⟨t775, t776, t779, t780⟩, A50, H⟩ := H
  replace H : (if t760 = 0 then (if (t757.length : Int) = 12 then (if (t764.length : Int) = 1 then ((tumbrelref05_Ints.f k t765 (([12] : List Int))).bind fun t785 => (if t785 = true then (if t766 = 3 then (if t774 = 1 then (if t780 = 2 then (if 0 < (t764.length : Int) then ((record_Same.f k ((qck t764 0).f0) ((qck t764 0).f1) ((qck t764 0).f2) 7 (([5] : List Int)) (⟨#[]⟩ : ByteArray)).bind fun t790 => (if t790 = true then ((record_Right.f ((qck t764 0).f0) ((qck t764 0).f1) ((qck t764 0).f2)).bind fun t792 => (if t792 = true then (some true) else (some false))) else (some false))) else (none)) else (some false)) else (some false)) else (some false)) else (some false))) else (some false)) else (some false)) else (some false)) = some r := H
  have A5 := Aside0.mk A50
  clear A50
  by_cases c6 : t760 = 0
  ·rw [if_pos c6] at H
   have c6b0 : (t760 == 0) = true := beq_iff_eq.mpr c6
   have c6b1 : (t760 != 0) = false := bne_eq_false_iff_eq.mpr c6
   clear c6
   by_cases c7 : (t757.length : Int) = 12
   ·rw [if_pos c7] at H
    have c7b0 : ((t757.length : Int) == 12) = true := beq_iff_eq.mpr c7
    have c7b1 : ((t757.length : Int) != 12) = false := bne_eq_false_iff_eq.mpr c7
    clear c7
    by_cases c8 : (t764.length : Int) = 1
    ·rw [if_pos c8] at H
     have c8b0 : ((t764.length : Int) == 1) = true := beq_iff_eq.mpr c8
     have c8b1 : ((t764.length : Int) != 1) = false := bne_eq_false_iff_eq.mpr c8
     clear c8
     obtain ⟨y782, hy782⟩ : ∃ y_ : List Int, y_ = (([12] : List Int)) := ⟨_, rfl⟩
     replace H : ((tumbrelref05_Ints.f k t765 y782).bind fun t785 => (if t785 = true then (if t766 = 3 then (if t774 = 1 then (if t780 = 2 then (if 0 < (t764.length : Int) then ((record_Same.f k ((qck t764 0).f0) ((qck t764 0).f1) ((qck t764 0).f2) 7 (([5] : List Int)) (⟨#[]⟩ : ByteArray)).bind fun t790 => (if t790 = true then ((record_Right.f ((qck t764 0).f0) ((qck t764 0).f1) ((qck t764 0).f2)).bind fun t792 => (if t792 = true then (some true) else (some false))) else (some false))) else (none)) else (some false)) else (some false)) else (some false)) else (some false))) = some r := by first | (rw [hy782]; with_reducible exact H) | (have H2_ := (Option.bind_some _ _).symm.trans H; rw [hy782]; with_reducible exact H2_) | (have H2_ := (Option.bind_some _ _).symm.trans H; with_reducible exact H2_) | with_reducible exact H | (rw [hy782]; exact H) | exact H
     have Ny782 := Aside0.mk hy782
     clear hy782
     replace H := Option.bind_eq_some_iff.mp H
     obtain ⟨t785, A90, H⟩ := H
     replace H : (if t785 = true then (if t766 = 3 then (if t774 = 1 then (if t780 = 2 then (if 0 < (t764.length : Int) then ((record_Same.f k ((qck t764 0).f0) ((qck t764 0).f1) ((qck t764 0).f2) 7 (([5] : List Int)) (⟨#[]⟩ : ByteArray)).bind fun t790 => (if t790 = true then ((record_Right.f ((qck t764 0).f0) ((qck t764 0).f1) ((qck t764 0).f2)).bind fun t792 => (if t792 = true then (some true) else (some false))) else (some false))) else (none)) else (some false)) else (some false)) else (some false)) else (some false)) = some r := H
     have A9 := Aside0.mk A90
     clear A90
     by_cases c10 : t785 = true
     ·subst c10
      have H1 : (if t766 = 3 then (if t774 = 1 then (if t780 = 2 then (if 0 < (t764.length : Int) then ((record_Same.f k ((qck t764 0).f0) ((qck t764 0).f1) ((qck t764 0).f2) 7 (([5] : List Int)) (⟨#[]⟩ : ByteArray)).bind fun t790 => (if t790 = true then ((record_Right.f ((qck t764 0).f0) ((qck t764 0).f1) ((qck t764 0).f2)).bind fun t792 => (if t792 = true then (some true) else (some false))) else (some false))) else (none)) else (some false)) else (some false)) else (some false)) = some r := by rw [if_pos rfl] at H; exact H
      clear H
      have H := H1
      clear H1
      by_cases c11 : t766 = 3
      ·rw [if_pos c11] at H
       have c11b0 : (t766 == 3) = true := beq_iff_eq.mpr c11
       have c11b1 : (t766 != 3) = false := bne_eq_false_iff_eq.mpr c11
       clear c11
       by_cases c12 : t774 = 1
       ·rw [if_pos c12] at H
        have c12b0 : (t774 == 1) = true := beq_iff_eq.mpr c12
        have c12b1 : (t774 != 1) = false := bne_eq_false_iff_eq.mpr c12
        clear c12
        by_cases c13 : t780 = 2
        ·rw [if_pos c13] at H
         have c13b0 : (t780 == 2) = true := beq_iff_eq.mpr c13
         have c13b1 : (t780 != 2) = false := bne_eq_false_iff_eq.mpr c13
         clear c13
         by_cases c14 : 0 < (t764.length : Int)
         ·rw [if_pos c14] at H
          have c14b0 : decide (0 < (t764.length : Int)) = true := decide_eq_true c14
          have c14b1 : decide (0 < t764.length) = true := decide_eq_true (by omega)
          clear c14
          obtain ⟨y787, hy787⟩ : ∃ y_ : List Int, y_ = (([5] : List Int)) := ⟨_, rfl⟩
          replace H : ((record_Same.f k ((qck t764 0).f0) ((qck t764 0).f1) ((qck t764 0).f2) 7 y787 (⟨#[]⟩ : ByteArray)).bind fun t790 => (if t790 = true then ((record_Right.f ((qck t764 0).f0) ((qck t764 0).f1) ((qck t764 0).f2)).bind fun t792 => (if t792 = true then (some true) else (some false))) else (some false))) = some r := by first | (rw [hy787]; with_reducible exact H) | (have H2_ := (Option.bind_some _ _).symm.trans H; rw [hy787]; with_reducible exact H2_) | (have H2_ := (Option.bind_some _ _).symm.trans H; with_reducible exact H2_) | with_reducible exact H | (rw [hy787]; exact H) | exact H
          have Ny787 := Aside0.mk hy787
          clear hy787
          replace H := Option.bind_eq_some_iff.mp H
          obtain ⟨t790, A150, H⟩ := H
          replace H : (if t790 = true then ((record_Right.f ((qck t764 0).f0) ((qck t764 0).f1) ((qck t764 0).f2)).bind fun t792 => (if t792 = true then (some true) else (some false))) else (some false)) = some r := H
          have A15 := Aside0.mk A150
          clear A150
          by_cases c16 : t790 = true
          ·subst c16
           have H1 : ((record_Right.f ((qck t764 0).f0) ((qck t764 0).f1) ((qck t764 0).f2)).bind fun t792 => (if t792 = true then (some true) else (some false))) = some r := by rw [if_pos rfl] at H; exact H
           clear H
           have H := H1
           clear H1
           replace H := Option.bind_eq_some_iff.mp H
           obtain ⟨t792, A170, H⟩ := H
           replace H : (if t792 = true then (some true) else (some false)) = some r := H
           have A17 := Aside0.mk A170
           clear A170
           by_cases c18 : t792 = true
           ·subst c18
            have H1 : (some true) = some r := by rw [if_pos rfl] at H; exact H
            clear H
            have H := H1
            clear H1
            obtain rfl := Option.some.inj H
            go_enter Try.func54, Try.ntmps54
            go_wp2_with (first | ((with_reducible refine qcv (N := 11) rfl ?_); (try (refine qfz (by rfl) ?_; dsimp only)); refine Kd.R_lit (Kd.int .u64) _ 22 ?hg (N := 11) ?hd (xs := ([5] : List Int)) (inner := [.int .u64 5]) (ok := fun _ => True) (okp := fun _ => True) ?hr ?hp (fun _ hk => hk) trivial (Below.refl _ _) (Nat.le_refl _) (by simp) ?_; (case hd => rfl); (case hg => rfl); (case hr => first | (go_simp; done) | (go_simp; rfl)); (case hp => exact (Reps.one (show Kd.M (Kd.int .u64) _ _ _ 5 [.int .u64 5] from rfl) (Reps.none _ _))); intro v755 w19 ho20 hb hg_ hnew_; clear hg_ hnew_; (first | rw [← Ny754.out] at ho20 | (simp only [Int.reduceToNat] at ho20; rw [← Ny754.out] at ho20)); have n0_ := Aside0.mk (Kd.R_lower ho20 (qbx (by repeat (first | (with_reducible first | exact HB.out | apply qax | apply qaq | apply qaz) | exact HB.out)))); have n1_ := Aside0.mk (qbj (by repeat (first | (with_reducible first | exact HB.out | apply qax | apply qaq | apply qaz) | exact HB.out)) hb); clear HB; have HO756 := n0_; have HB := n1_; clear n0_ n1_; clear hb ho20; obtain ⟨Ao21, co21, eo21⟩ := Kd.R_slice HO756.out; subst eo21) | ((with_reducible refine qdq (f := 56) rfl ?_); refine qew (some 13) rfl rfl Try.func56 (by kernel_rfl) rfl #[.agg #[.int .i64 7, .slice Ao21 y754.length co21, .string (⟨#[]⟩ : ByteArray)]] rfl (by (try simp only [List.map_toArray, List.map_cons, List.map_nil]); first | done | rfl | (simp only [List.length_drop, List.length_take]; rfl)) ?_; (with_reducible refine (record_Bytes.calls k 7 _ _ y754 (⟨#[]⟩ : ByteArray) t757 t760 _ ?side1 ?side2 A1.out).mono ?_); (case side1 => repeat (first | exact (Kd.R_reads' HO756.out).2.2 | (with_reducible refine Kd.C_alloc ?_ _) | (with_reducible refine Kd.C_drewN ?_ _) | (with_reducible refine Kd.C_drew ?_))); (case side2 => exact (Kd.R_reads' HO756.out).2.1); rintro e w22 ⟨v758, rfl, ho0, hb⟩; obtain ⟨Ao31, co31, eo31⟩ := Kd.R_slice ho0; have EO31 := Aside0.mk eo31; clear eo31; refine ⟨_, rfl, ?_⟩; have n0_ := Aside0.mk (Kd.R_below (by (with_reducible repeat (first | apply Kd.R_alloc | apply Kd.R_drewN | apply Kd.R_drew)); exact HO756.out) hb); have n1_ := Aside0.mk (Kd.R_lower ho0 (qbx (by repeat (first | (with_reducible first | exact HB.out | apply qax | apply qaq | apply qaz) | exact HB.out)))); have n2_ := Aside0.mk (qbj (by repeat (first | (with_reducible first | exact HB.out | apply qax | apply qaq | apply qaz) | exact HB.out)) hb); clear HO756; clear HB; have HO756 := n0_; have HO759 := n1_; have HB := n2_; clear n0_ n1_ n2_; (try clear hb); (try clear hb2); (try clear hk); (try clear hi); (try clear ho0)) | ((with_reducible refine qev (b := .append) (xs := #[.tmp 17, .tmp 18]) rfl ?_); (try (refine qfz (by rfl) ?_; dsimp only)); at_builtin; refine Kd.R_append (Kd.int .u8) (w0 := w) w.heap.size rfl (.tmp 17) (.tmp 18) 23 5 (.int .u8 0) 1 rfl Try.underlying23 qgv rfl (by decide) (by omega) v758 t757 1 [.int .u8 1] (fun _ => True) (fun _ => False) rfl rfl ?aP (fun _ hk => hk.elim) ?aF ?aO ?aB ?aS ?aL ?_; (case aP => exact rfl); (case aB => exact (by repeat (first | (with_reducible first | exact HB.out | apply qax | apply qaq | apply qaz) | exact HB.out))); (case aF => exact (fun _ _ => trivial)); (case aO => exact (by (with_reducible repeat (first | apply Kd.R_alloc | apply Kd.R_drewN | apply Kd.R_drew)); exact HO759.out)); (case aS => exact (qbx (by repeat (first | (with_reducible first | exact HB.out | apply qax | apply qaq | apply qaz) | exact HB.out)))); (case aL => have := LMc2.out; omega); intro v762 w23 ho hb hg hat; rw [← Ny761.out] at ho; have n0_ := Aside0.mk (Kd.R_over' (by (with_reducible repeat (first | apply Kd.R_alloc | apply Kd.R_drewN | apply Kd.R_drew)); exact HO756.out) (Kd.R_typed (by (with_reducible repeat (first | apply Kd.R_alloc | apply Kd.R_drewN | apply Kd.R_drew)); exact HO759.out)) (by decide) hg); have n1_ := Aside0.mk (hb); have n2_ := Aside0.mk (ho); clear HO756; clear HB; clear HO759; have HO756 := n0_; have HB := n1_; have HO763 := n2_; clear n0_ n1_ n2_; clear ho hb hg hat; obtain ⟨Ao24, co24, eo24⟩ := Kd.R_slice HO763.out; subst eo24) | ((with_reducible refine qdq (f := 65) rfl ?_); refine qew (some 20) rfl rfl Try.func65 (by kernel_rfl) rfl #[.slice Ao24 y761.length co24] rfl (by (try simp only [List.map_toArray, List.map_cons, List.map_nil]); first | done | rfl | (simp only [List.length_drop, List.length_take]; rfl)) ?_; (with_reducible refine (record_All.calls k _ _ y761 t764 t765 t766 _ ?side1 ?side2 A3.out).mono ?_); (case side1 => repeat (first | exact (Kd.R_reads' HO763.out).2.2 | (with_reducible refine Kd.C_alloc ?_ _) | (with_reducible refine Kd.C_drewN ?_ _) | (with_reducible refine Kd.C_drew ?_))); (case side2 => exact (Kd.R_reads' HO763.out).2.1); rintro e w25 ⟨v767, v769, rfl, ho0, ho1, hb⟩; refine ⟨_, rfl, ?_⟩; have n0_ := Aside0.mk (Kd.R_below (by (with_reducible repeat (first | apply Kd.R_alloc | apply Kd.R_drewN | apply Kd.R_drew)); exact HO756.out) hb); have n1_ := Aside0.mk (Kd.R_below (by (with_reducible repeat (first | apply Kd.R_alloc | apply Kd.R_drewN | apply Kd.R_drew)); exact HO763.out) hb); have n2_ := Aside0.mk (Kd.S_lower (Kd.S_new' ho0 (Kd.R_lt (by (with_reducible repeat (first | apply Kd.R_alloc | apply Kd.R_drewN | apply Kd.R_drew)); exact HO756.out))) (qbx (by repeat (first | (with_reducible first | exact HB.out | apply qax | apply qaq | apply qaz) | exact HB.out)))); have n3_ := Aside0.mk (Kd.R_lower ho1 (qbx (by repeat (first | (with_reducible first | exact HB.out | apply qax | apply qaq | apply qaz) | exact HB.out)))); have n4_ := Aside0.mk (qbj (by repeat (first | (with_reducible first | exact HB.out | apply qax | apply qaq | apply qaz) | exact HB.out)) hb); clear HO756; clear HO763; clear HB; have HO756 := n0_; have HO763 := n1_; have HO768 := n2_; have HO770 := n3_; have HB := n4_; clear n0_ n1_ n2_ n3_ n4_; (try clear hb); (try clear hb2); (try clear hk); (try clear hi); (try clear ho0); (try clear ho1)) | ((with_reducible refine qdq (f := 56) rfl ?_); refine qew (some 26) rfl rfl Try.func56 (by kernel_rfl) rfl #[.agg #[.int .i64 7, .slice none 0 0, .string (⟨#[]⟩ : ByteArray)]] rfl (by (try simp only [List.map_toArray, List.map_cons, List.map_nil]); first | done | rfl | (simp only [List.length_drop, List.length_take]; rfl)) ?_; (refine (record_Bytes.calls k 7 _ _ ([] : List Int) (⟨#[]⟩ : ByteArray) t771 t774 _ ?side1 ?side2 A4.out).mono ?_); (case side1 => exact Kd.C_nil _ _); (case side2 => exact Nat.le_refl _); rintro e w26 ⟨v772, rfl, ho0, hb⟩; refine ⟨_, rfl, ?_⟩; have n0_ := Aside0.mk (Kd.R_below (by (with_reducible repeat (first | apply Kd.R_alloc | apply Kd.R_drewN | apply Kd.R_drew)); exact HO756.out) hb); have n1_ := Aside0.mk (Kd.R_elder' (by (with_reducible repeat (first | apply Kd.R_alloc | apply Kd.R_drewN | apply Kd.R_drew)); exact HO763.out) (Kd.R_base ho0) hb); have n2_ := Aside0.mk (Kd.S_below (by (with_reducible repeat (first | apply Kd.S_alloc | apply Kd.S_drewN | apply Kd.S_drew)); exact HO768.out) hb); have n3_ := Aside0.mk (Kd.R_below (by (with_reducible repeat (first | apply Kd.R_alloc | apply Kd.R_drewN | apply Kd.R_drew)); exact HO770.out) hb); have n4_ := Aside0.mk (Kd.R_lower (Kd.R_new' ho0 (Kd.R_lt (by (with_reducible repeat (first | apply Kd.R_alloc | apply Kd.R_drewN | apply Kd.R_drew)); exact HO763.out))) (qbx (by repeat (first | (with_reducible first | exact HB.out | apply qax | apply qaq | apply qaz) | exact HB.out)))); have n5_ := Aside0.mk (qbj (by repeat (first | (with_reducible first | exact HB.out | apply qax | apply qaq | apply qaz) | exact HB.out)) hb); clear HO756; clear HO763; clear HO768; clear HO770; clear HB; have HO756 := n0_; have HO763 := n1_; have HO768 := n2_; have HO770 := n3_; have HO773 := n4_; have HB := n5_; clear n0_ n1_ n2_ n3_ n4_ n5_; (try clear hb); (try clear hb2); (try clear hk); (try clear hi); (try clear ho0)) | ((with_reducible refine qdq (f := 58) rfl ?_); refine qew (some 31) rfl rfl Try.func58 (by kernel_rfl) rfl #[.agg #[.int .u8 99, .slice none 0 0]] rfl (by (try simp only [List.map_toArray, List.map_cons, List.map_nil]); first | done | rfl | (simp only [List.length_drop, List.length_take]; rfl)) ?_; (refine (record_Read.calls k 99 (fun k_ => False) _ _ ([] : List Int) t775 t776 t779 t780 _ ?side1 A5.out).mono ?_); (case side1 => exact Kd.V_nil _ _ _ _ _); rintro e w27 ⟨v777, rfl, ho0, hb⟩; refine ⟨_, rfl, ?_⟩; have n0_ := Aside0.mk (Kd.R_elder' (by (with_reducible repeat (first | apply Kd.R_alloc | apply Kd.R_drewN | apply Kd.R_drew)); exact HO756.out) (Kd.R_base ho0) hb); have n1_ := Aside0.mk (Kd.R_below (by (with_reducible repeat (first | apply Kd.R_alloc | apply Kd.R_drewN | apply Kd.R_drew)); exact HO763.out) hb); have n2_ := Aside0.mk (Kd.S_elder' (by (with_reducible repeat (first | apply Kd.S_alloc | apply Kd.S_drewN | apply Kd.S_drew)); exact HO768.out) (Kd.R_base ho0) hb); have n3_ := Aside0.mk (Kd.R_below (by (with_reducible repeat (first | apply Kd.R_alloc | apply Kd.R_drewN | apply Kd.R_drew)); exact HO770.out) hb); have n4_ := Aside0.mk (Kd.R_below (by (with_reducible repeat (first | apply Kd.R_alloc | apply Kd.R_drewN | apply Kd.R_drew)); exact HO773.out) hb); have n5_ := Aside0.mk (Kd.R_lower (Kd.R_new' (Kd.R_mono (ok' := fun k_ => True) ho0 (fun _ hk_ => trivial)) (Kd.R_lt (by (with_reducible repeat (first | apply Kd.R_alloc | apply Kd.R_drewN | apply Kd.R_drew)); exact HO756.out))) (qbx (by repeat (first | (with_reducible first | exact HB.out | apply qax | apply qaq | apply qaz) | exact HB.out)))); have n6_ := Aside0.mk (qbj (by repeat (first | (with_reducible first | exact HB.out | apply qax | apply qaq | apply qaz) | exact HB.out)) hb); clear HO756; clear HO763; clear HO768; clear HO770; clear HO773; clear HB; have HO756 := n0_; have HO763 := n1_; have HO768 := n2_; have HO770 := n3_; have HO773 := n4_; have HO778 := n5_; have HB := n6_; clear n0_ n1_ n2_ n3_ n4_ n5_ n6_; (try clear hb); (try clear hb2); (try clear hk); (try clear hi); (try clear ho0)) | ((with_reducible refine qcv (N := 8) rfl ?_); (try (refine qfz (by rfl) ?_; dsimp only)); refine qcw ?hg (N := 8) ?hd (cs := #[.int .i64 0, .slice none 0 0, .string (⟨#[]⟩ : ByteArray)]) (t := 80) ?hr ?_; (case hd => rfl); (case hg => rfl); (case hr => first | (go_simp; done) | (go_simp; rfl)); intro gb781 hg w28 hbox hb; have n0_ := Aside0.mk (Kd.R_below (by (with_reducible repeat (first | apply Kd.R_alloc | apply Kd.R_drewN | apply Kd.R_drew)); exact HO756.out) hb); have n1_ := Aside0.mk (Kd.R_below (by (with_reducible repeat (first | apply Kd.R_alloc | apply Kd.R_drewN | apply Kd.R_drew)); exact HO763.out) hb); have n2_ := Aside0.mk (Kd.S_below (Kd.S_elderB (by (with_reducible repeat (first | apply Kd.S_alloc | apply Kd.S_drewN | apply Kd.S_drew)); exact HO768.out) gb781 (Nat.le_of_eq hg.symm)) hb); have n3_ := Aside0.mk (Kd.R_below (by (with_reducible repeat (first | apply Kd.R_alloc | apply Kd.R_drewN | apply Kd.R_drew)); exact HO770.out) hb); have n4_ := Aside0.mk (Kd.R_below (by (with_reducible repeat (first | apply Kd.R_alloc | apply Kd.R_drewN | apply Kd.R_drew)); exact HO773.out) hb); have n5_ := Aside0.mk (Kd.R_below (by (with_reducible repeat (first | apply Kd.R_alloc | apply Kd.R_drewN | apply Kd.R_drew)); exact HO778.out) hb); have n6_ := Aside0.mk (qbj (by repeat (first | (with_reducible first | exact HB.out | apply qax | apply qaq | apply qaz) | exact HB.out)) hb); have n7_ := Aside0.mk (hbox); have n8_ := Aside0.mk ((by rw [hg]; exact (qbx (by repeat (first | (with_reducible first | exact HB.out | apply qax | apply qaq | apply qaz) | exact HB.out))) : w.heap.size ≤ gb781)); have n9_ := Aside0.mk ((by rw [hg]; exact (qbx (by repeat (first | (with_reducible first | exact HB.out | apply qax | apply qaq | apply qaz) | exact HB.out))) : w.heap.size ≤ gb781)); clear HO756; clear HO763; clear HO768; clear HO770; clear HO773; clear HO778; clear HB; have HO756 := n0_; have HO763 := n1_; have HO768 := n2_; have HO770 := n3_; have HO773 := n4_; have HO778 := n5_; have HB := n6_; have BK781 := n7_; have GW781 := n8_; have GE781 := n9_; clear n0_ n1_ n2_ n3_ n4_ n5_ n6_ n7_ n8_ n9_; clear hb hbox hg; have hcz29_0 : w28.cell? ⟨gb781, 0, none⟩ = some (.int .i64 0) := (qbq BK781.out 0).trans rfl; have hcz29_1 : w28.cell? ⟨gb781, 1, none⟩ = some (.slice none 0 0) := (qbq BK781.out 1).trans rfl; have hcz29_2 : w28.cell? ⟨gb781, 2, none⟩ = some (.string (⟨#[]⟩ : ByteArray)) := (qbq BK781.out 2).trans rfl; have hfz29_0 := qbz BK781.out 0; have hfz29_1 := qbz BK781.out 1; have hfz29_2 := qbz BK781.out 2; obtain ⟨Ao30, co30, eo30⟩ := Kd.R_slice HO778.out; subst eo30; have eo31 := EO31.out; clear EO31; subst eo31; obtain ⟨Ao32, co32, eo32⟩ := Kd.S_slice HO768.out; subst eo32) | ((with_reducible refine qcv (N := 48) rfl ?_); (try (refine qfz (by rfl) ?_; dsimp only)); refine Kd.R_lit (Kd.int .i64) _ 3 ?hg (N := 48) ?hd (xs := ([12] : List Int)) (inner := [.int .i64 12]) (ok := fun _ => True) (okp := fun _ => True) ?hr ?hp (fun _ hk => hk) trivial (Below.refl _ _) (Nat.le_refl _) (by simp) ?_; (case hd => rfl); (case hg => rfl); (case hr => first | (go_simp; done) | (go_simp; rfl)); (case hp => exact (Reps.one (show Kd.M (Kd.int .i64) _ _ _ 12 [.int .i64 12] from rfl) (Reps.none _ _))); intro v783 w33 ho34 hb hg_ hnew_; clear hg_ hnew_; (first | rw [← Ny782.out] at ho34 | (simp only [Int.reduceToNat] at ho34; rw [← Ny782.out] at ho34)); have n0_ := Aside0.mk (Kd.R_below (by (with_reducible repeat (first | apply Kd.R_alloc | apply Kd.R_drewN | apply Kd.R_drew)); exact (Kd.R_mono (Kd.R_far (p := ⟨gb781, 2, none⟩) (Kd.R_far (p := ⟨gb781, 1, none⟩) (Kd.R_far (p := ⟨gb781, 0, none⟩) (Kd.R_types HO756.out BK781.out (by decide)) (fun _ hk => hk.2) (.int .i64 t775)) (fun _ hk => hk.2) (.slice Ao30 t776.length co30)) (fun _ hk => hk.2) (.string t779)) (fun _ h_ => h_.1))) hb); have n1_ := Aside0.mk (Kd.R_below (by (with_reducible repeat (first | apply Kd.R_alloc | apply Kd.R_drewN | apply Kd.R_drew)); exact (Kd.R_mono (Kd.R_far (p := ⟨gb781, 2, none⟩) (Kd.R_far (p := ⟨gb781, 1, none⟩) (Kd.R_far (p := ⟨gb781, 0, none⟩) (Kd.R_types HO763.out BK781.out (by decide)) (fun _ hk => hk.2) (.int .i64 t775)) (fun _ hk => hk.2) (.slice Ao30 t776.length co30)) (fun _ hk => hk.2) (.string t779)) (fun _ h_ => h_.1))) hb); have n2_ := Aside0.mk (Kd.S_below (by (with_reducible repeat (first | apply Kd.S_alloc | apply Kd.S_drewN | apply Kd.S_drew)); exact (Kd.S_mono (Kd.S_far (p := ⟨gb781, 2, none⟩) (Kd.S_far (p := ⟨gb781, 1, none⟩) (Kd.S_far (p := ⟨gb781, 0, none⟩) (Kd.S_mono HO768.out (fun k_ hk => (⟨hk, hk.2⟩ : _ ∧ k_ ≠ gb781))) (fun _ hk => hk.2) (.int .i64 t775)) (fun _ hk => hk.2) (.slice Ao30 t776.length co30)) (fun _ hk => hk.2) (.string t779)) (fun _ h_ => h_.1))) hb); have n3_ := Aside0.mk (Kd.R_elder' (by (with_reducible repeat (first | apply Kd.R_alloc | apply Kd.R_drewN | apply Kd.R_drew)); exact (Kd.R_mono (Kd.R_far (p := ⟨gb781, 2, none⟩) (Kd.R_far (p := ⟨gb781, 1, none⟩) (Kd.R_far (p := ⟨gb781, 0, none⟩) (Kd.R_types HO770.out BK781.out (by decide)) (fun _ hk => hk.2) (.int .i64 t775)) (fun _ hk => hk.2) (.slice Ao30 t776.length co30)) (fun _ hk => hk.2) (.string t779)) (fun _ h_ => h_.1))) (Kd.R_base ho34) hb); have n4_ := Aside0.mk (Kd.R_below (by (with_reducible repeat (first | apply Kd.R_alloc | apply Kd.R_drewN | apply Kd.R_drew)); exact (Kd.R_mono (Kd.R_far (p := ⟨gb781, 2, none⟩) (Kd.R_far (p := ⟨gb781, 1, none⟩) (Kd.R_far (p := ⟨gb781, 0, none⟩) (Kd.R_types HO773.out BK781.out (by decide)) (fun _ hk => hk.2) (.int .i64 t775)) (fun _ hk => hk.2) (.slice Ao30 t776.length co30)) (fun _ hk => hk.2) (.string t779)) (fun _ h_ => h_.1))) hb); have n5_ := Aside0.mk (Kd.R_below (by (with_reducible repeat (first | apply Kd.R_alloc | apply Kd.R_drewN | apply Kd.R_drew)); exact (Kd.R_mono (Kd.R_far (p := ⟨gb781, 2, none⟩) (Kd.R_far (p := ⟨gb781, 1, none⟩) (Kd.R_far (p := ⟨gb781, 0, none⟩) (Kd.R_types HO778.out BK781.out (by decide)) (fun _ hk => hk.2) (.int .i64 t775)) (fun _ hk => hk.2) (.slice Ao30 t776.length co30)) (fun _ hk => hk.2) (.string t779)) (fun _ h_ => h_.1))) hb); have n6_ := Aside0.mk (Kd.R_lower (Kd.R_new' ho34 (Kd.R_lt (by (with_reducible repeat (first | apply Kd.R_alloc | apply Kd.R_drewN | apply Kd.R_drew)); exact (Kd.R_mono (Kd.R_far (p := ⟨gb781, 2, none⟩) (Kd.R_far (p := ⟨gb781, 1, none⟩) (Kd.R_far (p := ⟨gb781, 0, none⟩) (Kd.R_types HO770.out BK781.out (by decide)) (fun _ hk => hk.2) (.int .i64 t775)) (fun _ hk => hk.2) (.slice Ao30 t776.length co30)) (fun _ hk => hk.2) (.string t779)) (fun _ h_ => h_.1))))) (qbx (by repeat (first | (with_reducible first | exact HB.out | apply qax | apply qaq | apply qaz | refine qaj ?_ GE781.out) | exact HB.out)))); have n7_ := Aside0.mk (qcx (g := gb781) (o := .cells #[.int .i64 t775, .slice Ao30 t776.length co30, .string t779] 80 (0, 0)) (by (with_reducible repeat (first | refine qav ?_ _ | refine qaw ?_ | refine qak ?_ _)); refine qdx (cs := #[.int .i64 t775, .slice Ao30 t776.length co30, .string (⟨#[]⟩ : ByteArray)]) ?_ 2 _ rfl; (with_reducible repeat (first | refine qav ?_ _ | refine qaw ?_ | refine qak ?_ _)); refine qdx (cs := #[.int .i64 t775, .slice none 0 0, .string (⟨#[]⟩ : ByteArray)]) ?_ 1 _ rfl; (with_reducible repeat (first | refine qav ?_ _ | refine qaw ?_ | refine qak ?_ _)); refine qdx (cs := #[.int .i64 0, .slice none 0 0, .string (⟨#[]⟩ : ByteArray)]) ?_ 0 _ rfl; (with_reducible repeat (first | refine qav ?_ _ | refine qaw ?_ | refine qak ?_ _)); exact BK781.out) hb); have n8_ := Aside0.mk (qbj (by repeat (first | (with_reducible first | exact HB.out | apply qax | apply qaq | apply qaz | refine qaj ?_ GE781.out) | exact HB.out)) hb); clear HO756; clear HO763; clear HO768; clear HO770; clear HO773; clear HO778; clear BK781; clear HB; have HO756 := n0_; have HO763 := n1_; have HO768 := n2_; have HO770 := n3_; have HO773 := n4_; have HO778 := n5_; have HO784 := n6_; have BK781 := n7_; have HB := n8_; clear n0_ n1_ n2_ n3_ n4_ n5_ n6_ n7_ n8_; clear hb ho34; obtain ⟨Ao35, co35, eo35⟩ := Kd.R_slice HO770.out; subst eo35; obtain ⟨Ao36, co36, eo36⟩ := Kd.R_slice HO784.out; subst eo36) | (go_at_call 67; (with_reducible refine (tumbrelref05_Ints.calls k _ _ t765 _ _ y782 true _ ?side1 ?side2 ?side3 ?side4 A9.out).mono ?_); (case side1 => repeat (first | exact (Kd.R_reads' HO770.out).2.2 | (with_reducible refine Kd.C_alloc ?_ _) | (with_reducible refine Kd.C_drewN ?_ _) | (with_reducible refine Kd.C_drew ?_))); (case side2 => exact (Kd.R_reads' HO770.out).2.1); (case side3 => repeat (first | exact (Kd.R_reads' HO784.out).2.2 | (with_reducible refine Kd.C_alloc ?_ _) | (with_reducible refine Kd.C_drewN ?_ _) | (with_reducible refine Kd.C_drew ?_))); (case side4 => exact (Kd.R_reads' HO784.out).2.1); rintro e w' ⟨rfl, ⟨nd, rfl⟩⟩; have p786 : 0 ≤ (0 : Int) := (by omega); have q786 : 0 < (t764.length : Int) := of_decide_eq_true (by first | (with_reducible assumption) | assumption); obtain ⟨ad786, A786_1, c786_1, e786, hx786_0, hx786_1, hx786_2, hl786_1, hi786_1⟩ := zkz (Kd.S_reads' HO768.out).2.2 0 p786 q786; cases e786; obtain ⟨ce786, hce786, hMe786, hcc786⟩ := Kd.S_get HO768.out z80 0 p786 (by first | exact q786 | exact of_decide_eq_true (by first | (with_reducible assumption) | assumption) | (have e_ := (Kd.S_reads' HO768.out).1; omega)); obtain ⟨ve786_1, rfl, ge786_1⟩ := qyk hMe786; have hv786_1 := hcc786 1 _ rfl; rw [qik _ _ 1 (by omega)] at hv786_1; replace hv786_1 := Option.some.inj (hv786_1.symm.trans hx786_1); rw [hv786_1] at ge786_1; have HL786_1 := Aside0.mk (show Kd.R (Kd.int .u64) 22 _ _ _ _ ((qck t764 0).f1) from ge786_1); clear hv786_1 ge786_1; clear hcc786 hce786; have qi786 : (0 < t764.length) = True := eq_true (by omega); (try rw [show ((0 : Int)).toNat = 0 from rfl] at hx786_0); (try rw [show 0 * 3 = 0 from rfl] at hx786_0); (try rw [Addr.add_zero'] at hx786_0); (try rw [show ((0 : Int)).toNat = 0 from rfl] at hx786_1); (try rw [show 0 * 3 = 0 from rfl] at hx786_1); (try rw [Addr.add_zero'] at hx786_1); (try rw [show ((0 : Int)).toNat = 0 from rfl] at hx786_2); (try rw [show 0 * 3 = 0 from rfl] at hx786_2); (try rw [Addr.add_zero'] at hx786_2); have HR786_1 := Aside0.mk hi786_1; have HC786_1 := Aside0.mk hl786_1; clear hi786_1 hl786_1; replace p786 := eq_true p786; replace q786 := eq_true q786) | ((with_reducible refine qcv (N := 67) rfl ?_); (try (refine qfz (by rfl) ?_; dsimp only)); refine Kd.R_lit (Kd.int .u64) _ 22 ?hg (N := 67) ?hd (xs := ([5] : List Int)) (inner := [.int .u64 5]) (ok := fun _ => True) (okp := fun _ => True) ?hr ?hp (fun _ hk => hk) trivial (Below.refl _ _) (Nat.le_refl _) (by simp) ?_; (case hd => rfl); (case hg => rfl); (case hr => first | (go_simp; done) | (go_simp; rfl)); (case hp => exact (Reps.one (show Kd.M (Kd.int .u64) _ _ _ 5 [.int .u64 5] from rfl) (Reps.none _ _))); intro v788 w37 ho38 hb hg_ hnew_; clear hg_ hnew_; (first | rw [← Ny787.out] at ho38 | (simp only [Int.reduceToNat] at ho38; rw [← Ny787.out] at ho38)); have n0_ := Aside0.mk (Kd.R_elder' (by (with_reducible repeat (first | apply Kd.R_alloc | apply Kd.R_drewN | apply Kd.R_drew)); exact HO756.out) (Kd.R_base ho38) hb); have n1_ := Aside0.mk (Kd.R_below (by (with_reducible repeat (first | apply Kd.R_alloc | apply Kd.R_drewN | apply Kd.R_drew)); exact HO763.out) hb); have n2_ := Aside0.mk (Kd.S_elder' (by (with_reducible repeat (first | apply Kd.S_alloc | apply Kd.S_drewN | apply Kd.S_drew)); exact HO768.out) (Kd.R_base ho38) hb); have n3_ := Aside0.mk (Kd.R_below (by (with_reducible repeat (first | apply Kd.R_alloc | apply Kd.R_drewN | apply Kd.R_drew)); exact HO770.out) hb); have n4_ := Aside0.mk (Kd.R_below (by (with_reducible repeat (first | apply Kd.R_alloc | apply Kd.R_drewN | apply Kd.R_drew)); exact HO773.out) hb); have n5_ := Aside0.mk (Kd.R_elder' (by (with_reducible repeat (first | apply Kd.R_alloc | apply Kd.R_drewN | apply Kd.R_drew)); exact HO778.out) (Kd.R_base ho38) hb); have n6_ := Aside0.mk (Kd.R_below (by (with_reducible repeat (first | apply Kd.R_alloc | apply Kd.R_drewN | apply Kd.R_drew)); exact HO784.out) hb); have n7_ := Aside0.mk (Kd.R_elder' (by (with_reducible repeat (first | apply Kd.R_alloc | apply Kd.R_drewN | apply Kd.R_drew)); exact HL786_1.out) (Kd.R_base ho38) hb); have n8_ := Aside0.mk (Kd.R_lower (Kd.R_new' (Kd.R_new' (Kd.R_new' ho38 (Kd.R_lt (by (with_reducible repeat (first | apply Kd.R_alloc | apply Kd.R_drewN | apply Kd.R_drew)); exact HO756.out))) (Kd.R_lt (by (with_reducible repeat (first | apply Kd.R_alloc | apply Kd.R_drewN | apply Kd.R_drew)); exact HO778.out))) (Kd.R_lt (by (with_reducible repeat (first | apply Kd.R_alloc | apply Kd.R_drewN | apply Kd.R_drew)); exact HL786_1.out))) (qbx (by repeat (first | (with_reducible first | exact HB.out | apply qax | apply qaq | apply qaz | refine qaj ?_ GE781.out) | exact HB.out)))); have n9_ := Aside0.mk (qcx (g := gb781) (o := .cells #[.int .i64 t775, .slice Ao30 t776.length co30, .string t779] 80 (0, 0)) (by (with_reducible repeat (first | refine qav ?_ _ | refine qaw ?_ | refine qak ?_ _)); exact BK781.out) hb); have n10_ := Aside0.mk (Kd.C_below (by repeat (first | (with_reducible exact HR786_1.out) | (with_reducible refine Kd.C_alloc ?_ _) | (with_reducible refine Kd.C_drewN ?_ _) | (with_reducible refine Kd.C_drew ?_) | exact HR786_1.out)) hb); have n11_ := Aside0.mk (qbj (by repeat (first | (with_reducible first | exact HB.out | apply qax | apply qaq | apply qaz | refine qaj ?_ GE781.out) | exact HB.out)) hb); clear HO756; clear HO763; clear HO768; clear HO770; clear HO773; clear HO778; clear HO784; clear HL786_1; clear BK781; clear HR786_1; clear HB; have HO756 := n0_; have HO763 := n1_; have HO768 := n2_; have HO770 := n3_; have HO773 := n4_; have HO778 := n5_; have HO784 := n6_; have HL786_1 := n7_; have HO789 := n8_; have BK781 := n9_; have HR786_1 := n10_; have HB := n11_; clear n0_ n1_ n2_ n3_ n4_ n5_ n6_ n7_ n8_ n9_ n10_ n11_; clear hb ho38; obtain ⟨Ao39, co39, eo39⟩ := Kd.R_slice HO789.out; subst eo39) | (go_at_call 64; (with_reducible refine (record_Same.calls k ((qck t764 0).f0) _ _ ((qck t764 0).f1) ((qck t764 0).f2) 7 _ _ y787 (⟨#[]⟩ : ByteArray) true _ ?side1 ?side2 ?side3 ?side4 A15.out).mono ?_); (case side1 => repeat (first | exact (by repeat (first | (with_reducible exact HR786_1.out) | (with_reducible refine Kd.C_alloc ?_ _) | (with_reducible refine Kd.C_drewN ?_ _) | (with_reducible refine Kd.C_drew ?_) | exact HR786_1.out)) | (with_reducible refine Kd.C_alloc ?_ _) | (with_reducible refine Kd.C_drewN ?_ _) | (with_reducible refine Kd.C_drew ?_))); (case side2 => exact HC786_1.out); (case side3 => repeat (first | exact (Kd.R_reads' HO789.out).2.2 | (with_reducible refine Kd.C_alloc ?_ _) | (with_reducible refine Kd.C_drewN ?_ _) | (with_reducible refine Kd.C_drew ?_))); (case side4 => exact (Kd.R_reads' HO789.out).2.1); rintro e w40 ⟨rfl, hb⟩; have n0_ := Aside0.mk (Kd.R_below (by (with_reducible repeat (first | apply Kd.R_alloc | apply Kd.R_drewN | apply Kd.R_drew)); exact HO756.out) hb); have n1_ := Aside0.mk (Kd.R_below (by (with_reducible repeat (first | apply Kd.R_alloc | apply Kd.R_drewN | apply Kd.R_drew)); exact HO763.out) hb); have n2_ := Aside0.mk (Kd.S_below (by (with_reducible repeat (first | apply Kd.S_alloc | apply Kd.S_drewN | apply Kd.S_drew)); exact HO768.out) hb); have n3_ := Aside0.mk (Kd.R_below (by (with_reducible repeat (first | apply Kd.R_alloc | apply Kd.R_drewN | apply Kd.R_drew)); exact HO770.out) hb); have n4_ := Aside0.mk (Kd.R_below (by (with_reducible repeat (first | apply Kd.R_alloc | apply Kd.R_drewN | apply Kd.R_drew)); exact HO773.out) hb); have n5_ := Aside0.mk (Kd.R_below (by (with_reducible repeat (first | apply Kd.R_alloc | apply Kd.R_drewN | apply Kd.R_drew)); exact HO778.out) hb); have n6_ := Aside0.mk (Kd.R_below (by (with_reducible repeat (first | apply Kd.R_alloc | apply Kd.R_drewN | apply Kd.R_drew)); exact HO784.out) hb); have n7_ := Aside0.mk (Kd.R_below (by (with_reducible repeat (first | apply Kd.R_alloc | apply Kd.R_drewN | apply Kd.R_drew)); exact HL786_1.out) hb); have n8_ := Aside0.mk (Kd.R_below (by (with_reducible repeat (first | apply Kd.R_alloc | apply Kd.R_drewN | apply Kd.R_drew)); exact HO789.out) hb); have n9_ := Aside0.mk (qcx (g := gb781) (o := .cells #[.int .i64 t775, .slice Ao30 t776.length co30, .string t779] 80 (0, 0)) (by (with_reducible repeat (first | refine qav ?_ _ | refine qaw ?_ | refine qak ?_ _)); exact BK781.out) hb); have n10_ := Aside0.mk (Kd.C_below (by repeat (first | (with_reducible exact HR786_1.out) | (with_reducible refine Kd.C_alloc ?_ _) | (with_reducible refine Kd.C_drewN ?_ _) | (with_reducible refine Kd.C_drew ?_) | exact HR786_1.out)) hb); have n11_ := Aside0.mk (qbj (by repeat (first | (with_reducible first | exact HB.out | apply qax | apply qaq | apply qaz | refine qaj ?_ GE781.out) | exact HB.out)) hb); clear HO756; clear HO763; clear HO768; clear HO770; clear HO773; clear HO778; clear HO784; clear HL786_1; clear HO789; clear BK781; clear HR786_1; clear HB; have HO756 := n0_; have HO763 := n1_; have HO768 := n2_; have HO770 := n3_; have HO773 := n4_; have HO778 := n5_; have HO784 := n6_; have HL786_1 := n7_; have HO789 := n8_; have BK781 := n9_; have HR786_1 := n10_; have HB := n11_; clear n0_ n1_ n2_ n3_ n4_ n5_ n6_ n7_ n8_ n9_ n10_ n11_; (try clear hb); (try clear hb2); (try clear hk); (try clear hi); have p791 : 0 ≤ (0 : Int) := (by omega); have q791 : 0 < (t764.length : Int) := of_decide_eq_true (by first | (with_reducible assumption) | assumption); obtain ⟨ad791, A791_1, c791_1, e791, hx791_0, hx791_1, hx791_2, hl791_1, hi791_1⟩ := zkz (Kd.S_reads' HO768.out).2.2 0 p791 q791; obtain rfl : ad786 = ad791 := (by injection e791); obtain ⟨ce791, hce791, hMe791, hcc791⟩ := Kd.S_get HO768.out z80 0 p791 (by first | exact q791 | exact of_decide_eq_true (by first | (with_reducible assumption) | assumption) | (have e_ := (Kd.S_reads' HO768.out).1; omega)); obtain ⟨ve791_1, rfl, ge791_1⟩ := qyk hMe791; have hv791_1 := hcc791 1 _ rfl; rw [qik _ _ 1 (by omega)] at hv791_1; replace hv791_1 := Option.some.inj (hv791_1.symm.trans hx791_1); rw [hv791_1] at ge791_1; have HL791_1 := Aside0.mk (show Kd.R (Kd.int .u64) 22 _ _ _ _ ((qck t764 0).f1) from ge791_1); clear hv791_1 ge791_1; clear hcc791 hce791; have qi791 : (0 < t764.length) = True := eq_true (by omega); (try rw [show ((0 : Int)).toNat = 0 from rfl] at hx791_0); (try rw [show 0 * 3 = 0 from rfl] at hx791_0); (try rw [Addr.add_zero'] at hx791_0); (try rw [show ((0 : Int)).toNat = 0 from rfl] at hx791_1); (try rw [show 0 * 3 = 0 from rfl] at hx791_1); (try rw [Addr.add_zero'] at hx791_1); (try rw [show ((0 : Int)).toNat = 0 from rfl] at hx791_2); (try rw [show 0 * 3 = 0 from rfl] at hx791_2); (try rw [Addr.add_zero'] at hx791_2); have HR791_1 := Aside0.mk hi791_1; have HC791_1 := Aside0.mk hl791_1; clear hi791_1 hl791_1; replace p791 := eq_true p791; replace q791 := eq_true q791) | (go_at_call 60; (with_reducible refine (record_Right.calls ((qck t764 0).f0) _ _ ((qck t764 0).f1) ((qck t764 0).f2) true _ ?side1 ?side2 A17.out).mono ?_); (case side1 => repeat (first | exact (by repeat (first | (with_reducible exact HR791_1.out) | (with_reducible refine Kd.C_alloc ?_ _) | (with_reducible refine Kd.C_drewN ?_ _) | (with_reducible refine Kd.C_drew ?_) | exact HR791_1.out)) | (with_reducible refine Kd.C_alloc ?_ _) | (with_reducible refine Kd.C_drewN ?_ _) | (with_reducible refine Kd.C_drew ?_))); (case side2 => exact HC791_1.out); rintro e w41 ⟨rfl, hb⟩; have n0_ := Aside0.mk (Kd.R_below (by (with_reducible repeat (first | apply Kd.R_alloc | apply Kd.R_drewN | apply Kd.R_drew)); exact HO756.out) hb); have n1_ := Aside0.mk (Kd.R_below (by (with_reducible repeat (first | apply Kd.R_alloc | apply Kd.R_drewN | apply Kd.R_drew)); exact HO763.out) hb); have n2_ := Aside0.mk (Kd.S_below (by (with_reducible repeat (first | apply Kd.S_alloc | apply Kd.S_drewN | apply Kd.S_drew)); exact HO768.out) hb); have n3_ := Aside0.mk (Kd.R_below (by (with_reducible repeat (first | apply Kd.R_alloc | apply Kd.R_drewN | apply Kd.R_drew)); exact HO770.out) hb); have n4_ := Aside0.mk (Kd.R_below (by (with_reducible repeat (first | apply Kd.R_alloc | apply Kd.R_drewN | apply Kd.R_drew)); exact HO773.out) hb); have n5_ := Aside0.mk (Kd.R_below (by (with_reducible repeat (first | apply Kd.R_alloc | apply Kd.R_drewN | apply Kd.R_drew)); exact HO778.out) hb); have n6_ := Aside0.mk (Kd.R_below (by (with_reducible repeat (first | apply Kd.R_alloc | apply Kd.R_drewN | apply Kd.R_drew)); exact HO784.out) hb); have n7_ := Aside0.mk (Kd.R_below (by (with_reducible repeat (first | apply Kd.R_alloc | apply Kd.R_drewN | apply Kd.R_drew)); exact HL786_1.out) hb); have n8_ := Aside0.mk (Kd.R_below (by (with_reducible repeat (first | apply Kd.R_alloc | apply Kd.R_drewN | apply Kd.R_drew)); exact HO789.out) hb); have n9_ := Aside0.mk (Kd.R_below (by (with_reducible repeat (first | apply Kd.R_alloc | apply Kd.R_drewN | apply Kd.R_drew)); exact HL791_1.out) hb); have n10_ := Aside0.mk (qcx (g := gb781) (o := .cells #[.int .i64 t775, .slice Ao30 t776.length co30, .string t779] 80 (0, 0)) (by (with_reducible repeat (first | refine qav ?_ _ | refine qaw ?_ | refine qak ?_ _)); exact BK781.out) hb); have n11_ := Aside0.mk (Kd.C_below (by repeat (first | (with_reducible exact HR786_1.out) | (with_reducible refine Kd.C_alloc ?_ _) | (with_reducible refine Kd.C_drewN ?_ _) | (with_reducible refine Kd.C_drew ?_) | exact HR786_1.out)) hb); have n12_ := Aside0.mk (Kd.C_below (by repeat (first | (with_reducible exact HR791_1.out) | (with_reducible refine Kd.C_alloc ?_ _) | (with_reducible refine Kd.C_drewN ?_ _) | (with_reducible refine Kd.C_drew ?_) | exact HR791_1.out)) hb); have n13_ := Aside0.mk (qbj (by repeat (first | (with_reducible first | exact HB.out | apply qax | apply qaq | apply qaz | refine qaj ?_ GE781.out) | exact HB.out)) hb); clear HO756; clear HO763; clear HO768; clear HO770; clear HO773; clear HO778; clear HO784; clear HL786_1; clear HO789; clear HL791_1; clear BK781; clear HR786_1; clear HR791_1; clear HB; have HO756 := n0_; have HO763 := n1_; have HO768 := n2_; have HO770 := n3_; have HO773 := n4_; have HO778 := n5_; have HO784 := n6_; have HL786_1 := n7_; have HO789 := n8_; have HL791_1 := n9_; have BK781 := n10_; have HR786_1 := n11_; have HR791_1 := n12_; have HB := n13_; clear n0_ n1_ n2_ n3_ n4_ n5_ n6_ n7_ n8_ n9_ n10_ n11_ n12_ n13_; (try clear hb); (try clear hb2); (try clear hk); (try clear hi)))
            go_ret
            exact ⟨by first | rfl | (simp [qcq, qcz] <;> rfl) | (simp [*, qcq, qcz] <;> rfl), by repeat (first | (with_reducible first | exact HB.out | apply qax | apply qaq | apply qaz | refine qaj ?_ GE781.out) | exact HB.out)⟩
           ·replace c18 := Bool.eq_false_iff.mpr c18
            subst c18
            have H1 : (some false) = some r := by rw [if_neg (show ¬ (false = true) by decide)] at H; exact H
            clear H
            have H := H1
            clear H1
            exact absurd (hr_.symm.trans (Option.some.inj H).symm) (by decide)
          ·replace c16 := Bool.eq_false_iff.mpr c16
           subst c16
           have H1 : (some false) = some r := by rw [if_neg (show ¬ (false = true) by decide)] at H; exact H
           clear H
           have H := H1
           clear H1
           exact absurd (hr_.symm.trans (Option.some.inj H).symm) (by decide)
         ·rw [if_neg c14] at H
          exact absurd H (by simp)
        ·rw [if_neg c13] at H
         have c13b0 : (t780 == 2) = false := beq_eq_false_iff_ne.mpr c13
         have c13b1 : (t780 != 2) = true := bne_iff_ne.mpr c13
         exact absurd (hr_.symm.trans (Option.some.inj H).symm) (by decide)
       ·rw [if_neg c12] at H
        have c12b0 : (t774 == 1) = false := beq_eq_false_iff_ne.mpr c12
        have c12b1 : (t774 != 1) = true := bne_iff_ne.mpr c12
        exact absurd (hr_.symm.trans (Option.some.inj H).symm) (by decide)
      ·rw [if_neg c11] at H
       have c11b0 : (t766 == 3) = false := beq_eq_false_iff_ne.mpr c11
       have c11b1 : (t766 != 3) = true := bne_iff_ne.mpr c11
       exact absurd (hr_.symm.trans (Option.some.inj H).symm) (by decide)
     ·replace c10 := Bool.eq_false_iff.mpr c10
      subst c10
      have H1 : (some false) = some r := by rw [if_neg (show ¬ (false = true) by decide)] at H; exact H
      clear H
      have H := H1
      clear H1
      exact absurd (hr_.symm.trans (Option.some.inj H).symm) (by decide)
    ·rw [if_neg c8] at H
     have c8b0 : ((t764.length : Int) == 1) = false := beq_eq_false_iff_ne.mpr c8
     have c8b1 : ((t764.length : Int) != 1) = true := bne_iff_ne.mpr c8
     exact absurd (hr_.symm.trans (Option.some.inj H).symm) (by decide)
   ·rw [if_neg c7] at H
    have c7b0 : ((t757.length : Int) == 12) = false := beq_eq_false_iff_ne.mpr c7
    have c7b1 : ((t757.length : Int) != 12) = true := bne_iff_ne.mpr c7
    exact absurd (hr_.symm.trans (Option.some.inj H).symm) (by decide)
  ·rw [if_neg c6] at H
   have c6b0 : (t760 == 0) = false := beq_eq_false_iff_ne.mpr c6
   have c6b1 : (t760 != 0) = true := bne_iff_ne.mpr c6
   exact absurd (hr_.symm.trans (Option.some.inj H).symm) (by decide)
 ·rw [if_neg c2] at H
  exact absurd H (by simp)
def tumbrellaw05_awake.f (k : Nat) : Option Bool := if aw5.f k = some true then some true else none
theorem tumbrellaw05_awake.mono : ∀ k, LeO (tumbrellaw05_awake.f k) (tumbrellaw05_awake.f (k + 1)) := by
 intro k r h
 unfold tumbrellaw05_awake.f at h ⊢
 split at h
 case isFalse => exact absurd h (by simp)
 rename_i hh
 rw [if_pos (aw5.mono k true hh)]; exact h
theorem tumbrellaw05_awake.calls (k : Nat) (r : Bool) (w : World) (h : tumbrellaw05_awake.f k = some r) :
  Calls Try.prog 54 #[] w fun e w' => e = .returned (.bool r) ∧ Below w.heap.size w w' := by
 unfold tumbrellaw05_awake.f at h
 split at h
 case isFalse => exact absurd h (by simp)
 rename_i hh
 obtain rfl := Option.some.inj h
 exact aw5.calls k true w hh rfl
end Go.Proofs.Ytojepleodijdeaa.B
namespace Go.Proofs.Ytojepleodijdeaa.B
open Go.RowKit Go.Proofs.YtojepleodijdeaaW.PrintWords Go.Proofs.YtojepleodijdeaaW.PrintLast Go.Proofs.YtojepleodijdeaaW.PrintMore
set_option linter.unusedVariables false
set_option linter.unusedSimpArgs false
section
variable {P : Program} {ops : Array Oper} {o : Oper} {a : Act} {Q : Exit → Act → World → Prop} {Kc : Act → World → Prop}
theorem qzj {W : World} (hw : Region.wanted o (yielded ops a.tmps) = true) (src dst e : TypeId) (x : Operand) (ho : o.op = .convert src dst x) {u : TypeDesc} (hs : P.underlying src = some u) (hd : P.underlying dst = some (.slice e)) (he : P.underlying e = some (.int .u8))
  (s : ByteArray) (hx : a.eval x = .string s) (hl : s.size ≤ 9223372036854775807)
  (h : ∀ A c w1, ReadsInt w1 .u8 A s.size (qek s) → Below W.heap.size W w1 → Kc (a.put o.dst (.slice A s.size c)) w1) :
  if Region.wanted o (yielded ops a.tmps) = true then Oper.wp P o a W Kc Q else Kc (a.put o.dst undef) W := by
 rw [if_pos hw]
 unfold Oper.wp execOp
 rw [ho]
 simp only [hx]
 rw [Sem.run_bind, qqz src dst e hs hd he s W]
 exact h _ _ _ (zak W e s hl) (zav (Below.refl _ W) (Nat.le_refl _) e s)
theorem qnz {w0 W : World} (base : Nat) (hw : Region.wanted o (yielded ops a.tmps) = true) (s x : Operand) (t e : TypeId) (k : IntKind) (bytes : Nat)
  (ho : o.op = .call { callee := .builtin .append, args := #[s, x], argTypes := #[t, t] })
  (ht : P.underlying t = some (.slice e)) (hinfo : (P.info? e).map (fun i => (i.zero, i.size, i.bytes)) = some (some (.int k 0), 1, bytes)) (hb0 : 0 < bytes)
  (v : Value) (xs ys : List Int) (A : Option Addr) (m c : Nat) (hs : a.eval s = v) (hx : a.eval x = .slice A m c)
  (HO : W.ownsRow base e 1 v xs.length (nums k xs)) (HR : ReadsInt W k A m ys) (HB : Below base w0 W) (hbase : base ≤ W.heap.size) (hl : (xs.length + m) * bytes ≤ 140737488355328)
  (h : ∀ v1 w1, w1.ownsRow base e 1 v1 (xs ++ ys).length (nums k (xs ++ ys)) → Below base w0 w1 → W.grownBy w1 v.ownBlock → Kc (a.put o.dst v1) w1) :
  if Region.wanted o (yielded ops a.tmps) = true then Oper.wp P o a W Kc Q else Kc (a.put o.dst undef) W := by
 rw [if_pos hw]
 obtain ⟨i0, hi, hzz⟩ := Option.map_eq_some_iff.1 hinfo
 simp only [Prod.mk.injEq] at hzz
 obtain ⟨hz0, hz1, hz2⟩ := hzz
 have hm : ys.length = m := HR.1
 have hlen : xs.length + m ≤ 140737488355328 := Nat.le_trans (Nat.le_mul_of_pos_right _ hb0) hl
 have hrun : ∃ v1 w1, (Builtin.append_ #[t, t] o.type #[v, .slice A m c]).run P W = .ok v1 w1 ∧ w1.ownsRow base e 1 v1 (xs ++ ys).length (nums k (xs ++ ys)) ∧ W.grownBy w1 v.ownBlock := by
  rcases A with _ | ad
  ·have h0 : m = 0 := by
    rcases Nat.eq_zero_or_pos m with h0 | h0
    ·exact h0
    ·obtain ⟨ad, h, _⟩ := HR.2.2 h0
     cases h
   subst h0
   obtain rfl : ys = [] := List.eq_nil_of_length_eq_zero hm
   refine ⟨v, W, ?_, by simpa using HO, World.grownBy.refl W _⟩
   rcases HO.2 with ⟨rfl, hn⟩ | ⟨g, cap, cur, rfl, _, _, hnc, _⟩
   ·simp [Builtin.append_, run_underlying ht, sizeOf, typeInfo, hi, Builtin.lenOf, Builtin.firstCells]
   ·simp [Builtin.append_, run_underlying ht, sizeOf, typeInfo, hi, Builtin.lenOf, Builtin.firstCells, hnc, storeCells]
  ·have hcells : ∀ j u, (nums k ys)[j]? = some u → W.cell? (ad.add j) = some u := by
    intro j u hu
    have hj : j < ys.length := by
     rcases Nat.lt_or_ge j ys.length with h | h
     ·exact h
     ·simp [nums, List.getElem?_eq_none h] at hu
    obtain ⟨ad', h', hc⟩ := HR.2.2 (by omega)
    injection h' with h'
    subst h'
    have := hc j (by omega)
    simp [nums, List.getElem?_eq_getElem hj] at hu
    subst hu
    rw [this]
    simp [List.getD_eq_getElem?_getD, List.getElem?_eq_getElem hj]
   obtain ⟨v1, w1, hr, h2, h3, _, h5⟩ := run_append_own_at (P := P) W base t o.type e i0 (.int k 0) 1 bytes ht hi hz0 hz1 hz2 rfl (by omega) v xs.length (nums k xs) HO ad m c (nums k ys) (by simp [nums, hm]) hcells
    (by intro u hu; simp only [nums, List.mem_map] at hu; obtain ⟨q, _, rfl⟩ := hu; rfl) (by simp only [maxLen]; omega) hl hbase
   exact ⟨v1, w1, hr, by simpa [nums, hm] using h2, h3⟩
 obtain ⟨v1, w1, hr, hown, hg⟩ := hrun
 unfold Oper.wp execOp
 simp only [ho, resolve, invoke, builtin, Sem.run_bind, Sem.run_pure, Result.andThen_ok, List.map_toArray, List.map_cons, List.map_nil, hs, hx, hr]
 exact h v1 w1 hown (HB.grown hg hbase (qkw HO)) hg
end
end Go.Proofs.Ytojepleodijdeaa.B
namespace Go.Proofs.Ytojepleodijdeaa.B
open Go.RowKit Go.Proofs.YtojepleodijdeaaW.PrintWords Go.Proofs.YtojepleodijdeaaW.PrintLast Go.Proofs.YtojepleodijdeaaW.PrintMore
attribute [local go_sem] qgz qgx qhj qhk qfx qfj qgj qgk   -- for this text's walks alone
set_option linter.unusedVariables false
set_option linter.unusedSimpArgs false
def tumbrelref05_Bytes.f (k : Nat) (a0_0 : Int) (l0_1 : List Int) (a0_2 : ByteArray) : Option (List Int × Int) := (tumbrelref05_Right.f a0_0 l0_1 a0_2).bind fun t342 => (if t342 = true then ((tumbrelref02_All.f k l0_1).bind fun t343 => (if t343.length + a0_2.size < 140737488355328 then ((tumbrelref04_Bytes.f k ((a0_0) % 256) (t343 ++ qek a0_2)).bind fun bt349 => (some (bt349.1, bt349.2))) else (none))) else (some (([] : List Int), 1)))
def tumbrelref05_Bytes.T3 : Bool × List (List Nat × List Nat) := (true, [([], []), ([0], [0]), ([1], [1]), ([], []), ([3], [3]), ([4], [4]), ([], []), ([6], [6]), ([7], [7]), ([5, 8, 5], [5, 8]), ([2, 9], [2, 9]), ([10, 9], [10]), ([11], [11]), ([11], [11]), ([12, 11, 0, 1, 2, 3, 4, 5, 6, 7, 8, 9, 10, 11, 12, 13], [12]), ([13, 14, 0, 1, 2, 3, 4, 5, 6, 7, 8, 9, 10, 11, 12, 13, 14], [13])])
def tumbrelref05_Bytes.B3 : List Nat := [0, 1, 3, 0, 8, 24, 0, 64, 192, 504, 1023, 2047, 4095, 4095, 16383, 32767]
theorem tumbrelref05_Bytes.tab3 : rtab .any (qdv Try.f57 3) = tumbrelref05_Bytes.T3 := by kernel_rfl
theorem tumbrelref05_Bytes.bits3 : qjv tumbrelref05_Bytes.T3.2 tumbrelref05_Bytes.B3 = true := by kernel_rfl
set_option maxHeartbeats 8000000 in
set_option maxRecDepth 100000 in
theorem tumbrelref05_Bytes.calls (k : Nat) (a0_0 : Int) (A0_1 : Option Addr) (c0_1 : Nat) (l0_1 : List Int) (a0_2 : ByteArray) (r1 : List Int) (r2 : Int) (w : World) (hr0_1 : Kd.C (Kd.int .u64) w A0_1 l0_1.length l0_1) (hc0_1 : l0_1.length ≤ c0_1) (h : tumbrelref05_Bytes.f k a0_0 l0_1 a0_2 = some (r1, r2)) :
  Calls Try.prog 57 #[.agg #[.int .i64 a0_0, .slice A0_1 l0_1.length c0_1, .string a0_2]] w fun e w' => ∃ v0_ : Value, e = .returned (.tuple #[v0_, .int .i64 r2]) ∧ Kd.R (Kd.int .u8) 5 w' w.heap.size (fun _ => True) v0_ r1 ∧ Below w.heap.size w w' := by
 have hu82 := Try.underlying82
 have hu60 := Try.underlying60
 have HR0_1 := Aside0.mk hr0_1
 have HC0_1 := Aside0.mk hc0_1
 clear hr0_1 hc0_1
 have HB := Aside0.mk (Below.refl w.heap.size w)
 have H : ((tumbrelref05_Right.f a0_0 l0_1 a0_2).bind fun t342 => (if t342 = true then ((tumbrelref02_All.f k l0_1).bind fun t343 => (if t343.length + a0_2.size < 140737488355328 then ((tumbrelref04_Bytes.f k ((a0_0) % 256) (t343 ++ qek a0_2)).bind fun bt349 => (some (bt349.1, bt349.2))) else (none))) else (some (([] : List Int), 1)))) = some (r1, r2) := h
 clear h
 replace H := Option.bind_eq_some_iff.mp H
 obtain ⟨t342, A20, H⟩ := H
 replace H : (if t342 = true then ((tumbrelref02_All.f k l0_1).bind fun t343 => (if t343.length + a0_2.size < 140737488355328 then ((tumbrelref04_Bytes.f k ((a0_0) % 256) (t343 ++ qek a0_2)).bind fun bt349 => (some (bt349.1, bt349.2))) else (none))) else (some (([] : List Int), 1))) = some (r1, r2) := H
 have A2 := Aside0.mk A20
 clear A20
 by_cases c3 : t342 = true
 ·subst c3
  have H1 : ((tumbrelref02_All.f k l0_1).bind fun t343 => (if t343.length + a0_2.size < 140737488355328 then ((tumbrelref04_Bytes.f k ((a0_0) % 256) (t343 ++ qek a0_2)).bind fun bt349 => (some (bt349.1, bt349.2))) else (none))) = some (r1, r2) := by rw [if_pos rfl] at H; exact H
  clear H
  have H := H1
  clear H1
  replace H := Option.bind_eq_some_iff.mp H
  obtain ⟨t343, A40, H⟩ := H
  replace H : (if t343.length + a0_2.size < 140737488355328 then ((tumbrelref04_Bytes.f k ((a0_0) % 256) (t343 ++ qek a0_2)).bind fun bt349 => (some (bt349.1, bt349.2))) else (none)) = some (r1, r2) := H
  have A4 := Aside0.mk A40
  clear A40
  by_cases c5 : t343.length + a0_2.size < 140737488355328
  ·rw [if_pos c5] at H
   have LMc5 := Aside0.mk c5
   clear c5
   obtain ⟨y346, hy346⟩ : ∃ y_ : List Int, y_ = (t343 ++ qek a0_2) := ⟨_, rfl⟩
   replace H : ((tumbrelref04_Bytes.f k ((a0_0) % 256) y346).bind fun bt349 => (some (bt349.1, bt349.2))) = some (r1, r2) := by first | (rw [hy346]; with_reducible exact H) | (have H2_ := (Option.bind_some _ _).symm.trans H; rw [hy346]; with_reducible exact H2_) | (have H2_ := (Option.bind_some _ _).symm.trans H; with_reducible exact H2_) | with_reducible exact H | (rw [hy346]; exact H) | exact H
   have Ny346 := Aside0.mk hy346
   clear hy346
   replace H := Option.bind_eq_some_iff.mp H
   obtain ⟨⟨t349, t352⟩, A60, H⟩ := H
   replace H : (some (t349, t352)) = some (r1, r2) := H
   have A6 := Aside0.mk A60
   clear A60
   simp only [Option.some.injEq, Prod.mk.injEq] at H
   obtain ⟨rfl, rfl⟩ := H
   go_enter Try.func57, Try.ntmps57
   try go_wp2_with (first | ((with_reducible refine qcv (N := 1) rfl ?_); refine qcw ?hg (N := 1) ?hd (cs := #[.int .i64 a0_0, .slice A0_1 l0_1.length c0_1, .string a0_2]) (t := 82) ?hr ?_; (case hd => rfl); (case hg => rfl); (case hr => first | (go_simp; done) | (go_simp; rfl) | (go_simp; simp only [IntKind.wrap_u8]; rw [Int.tmod_eq_emod_of_nonneg (Int.natCast_nonneg _), Int.emod_emod])); intro gb341 hg w7 hbox hb; have n0_ := Aside0.mk (qbj (by repeat (first | (with_reducible first | exact HB.out | apply qax | apply qaq | apply qaz) | exact HB.out)) hb); have n1_ := Aside0.mk (hbox); have n2_ := Aside0.mk ((by rw [hg]; exact (qbx (by repeat (first | (with_reducible first | exact HB.out | apply qax | apply qaq | apply qaz) | exact HB.out))) : w.heap.size ≤ gb341)); have n3_ := Aside0.mk ((by rw [hg]; exact (qbx (by repeat (first | (with_reducible first | exact HB.out | apply qax | apply qaq | apply qaz) | exact HB.out))) : w.heap.size ≤ gb341)); clear HB; have HB := n0_; have BK341 := n1_; have GW341 := n2_; have GE341 := n3_; clear n0_ n1_ n2_ n3_; clear hb hbox hg; have hcz8_0 : w7.cell? ⟨gb341, 0, none⟩ = some (.int .i64 a0_0) := (qbq BK341.out 0).trans rfl; have hcz8_1 : w7.cell? ⟨gb341, 1, none⟩ = some (.slice A0_1 l0_1.length c0_1) := (qbq BK341.out 1).trans rfl; have hcz8_2 : w7.cell? ⟨gb341, 2, none⟩ = some (.string a0_2) := (qbq BK341.out 2).trans rfl; have hfz8_0 := qbz BK341.out 0; have hfz8_1 := qbz BK341.out 1; have hfz8_2 := qbz BK341.out 2) | ((with_reducible refine qdq (f := 61) rfl ?_); refine qew (some 5) rfl rfl Try.func61 (by kernel_rfl) rfl #[.agg #[.int .i64 a0_0, .slice A0_1 l0_1.length c0_1, .string a0_2]] rfl (by (try simp only [List.map_toArray, List.map_cons, List.map_nil]); first | done | rfl | (simp only [List.length_drop, List.length_take]; rfl)) ?_; (with_reducible refine (tumbrelref05_Right.calls a0_0 _ _ l0_1 a0_2 true _ ?side1 ?side2 A2.out).mono ?_); (case side1 => repeat (first | exact (Kd.C_below HR0_1.out HB.out) | (with_reducible refine Kd.C_alloc ?_ _) | (with_reducible refine Kd.C_drewN ?_ _) | (with_reducible refine Kd.C_drew ?_))); (case side2 => exact HC0_1.out); rintro e w9 ⟨rfl, hb⟩; refine ⟨_, rfl, ?_⟩; have n0_ := Aside0.mk (qcx (g := gb341) (o := .cells #[.int .i64 a0_0, .slice A0_1 l0_1.length c0_1, .string a0_2] 82 (0, 0)) (by (with_reducible repeat (first | refine qav ?_ _ | refine qaw ?_ | refine qak ?_ _)); exact BK341.out) hb); have n1_ := Aside0.mk (qbj (by repeat (first | (with_reducible first | exact HB.out | apply qax | apply qaq | apply qaz | refine qaj ?_ GE341.out) | exact HB.out)) hb); clear BK341; clear HB; have BK341 := n0_; have HB := n1_; clear n0_ n1_; (try clear hb); (try clear hb2); (try clear hk); (try clear hi)))
   have n0_ := Aside0.mk (qaw BK341.out)
   have n1_ := Aside0.mk (qaz HB.out)
   clear BK341
   clear HB
   have BK341 := n0_
   have HB := n1_
   clear n0_ n1_
   refine qjz (n := 16) (S := fun w' => w'.cell? ⟨gb341, 0, none⟩ = some (.int .i64 a0_0) ∧ w'.cell? ⟨gb341, 1, none⟩ = some (.slice A0_1 l0_1.length c0_1) ∧ w'.cell? ⟨gb341, 2, none⟩ = some (.string a0_2)) (ds := []) #[false, false, false, false, false, false, false, false, false, false, false, false, false, false, false, false] (by kernel_rfl) rfl rfl ⟨(qbq BK341.out 0).trans rfl, (qbq BK341.out 1).trans rfl, (qbq BK341.out 2).trans rfl⟩ (fun hHeld => ?_); refine qfw tumbrelref05_Bytes.tab3 tumbrelref05_Bytes.bits3 (fun HT_ HW_ => ?_)
   generalize w9.drew = w10 at BK341 HB hHeld ⊢
   refine qcj (i := 0) (N := some 7) (v := ?_) (a' := ?_) #[true, false, false, false, false, false, false, false, false, false, false, false, false, false, false, false] rfl rfl (qbk HT_.out (by kernel_rfl)) (fun _ _ _ h => h) (Or.inl ⟨by rfl, ?_⟩) ?_ ?_
   rotate_left
   ·intro w'
    go_simp
    with_reducible rfl
   rotate_left
   ·simp only [Act.put, List.setIfInBounds_toArray, List.set_cons_zero, List.set_cons_succ, qbv, qbw]
    rfl
   refine qcj (i := 3) (N := some 10) (v := ?_) (a' := ?_) #[true, false, false, true, false, false, false, false, false, false, false, false, false, false, false, false] rfl rfl (qbk HT_.out (by kernel_rfl)) (fun _ _ _ h => h) (Or.inl ⟨by rfl, ?_⟩) ?_ ?_
   rotate_left
   ·intro w'
    go_simp
    with_reducible rfl
   rotate_left
   ·simp only [Act.put, List.setIfInBounds_toArray, List.set_cons_zero, List.set_cons_succ, qbv, qbw]
    rfl
   refine qcj (i := 6) (N := some 13) (v := ?_) (a' := ?_) #[true, false, false, true, false, false, true, false, false, false, false, false, false, false, false, false] rfl rfl (qbk HT_.out (by kernel_rfl)) (fun _ _ _ h => h) (Or.inl ⟨by rfl, ?_⟩) ?_ ?_
   rotate_left
   ·intro w'
    go_simp
    with_reducible rfl
   rotate_left
   ·simp only [Act.put, List.setIfInBounds_toArray, List.set_cons_zero, List.set_cons_succ, qbv, qbw]
    rfl
   refine take_ (i := 1) (N := some 8) (v := ?_) (a' := ?_) #[true, true, false, true, false, false, true, false, false, false, false, false, false, false, false, false] rfl rfl (qdk HT_.out HW_.out (by kernel_rfl)) (fun _ _ _ h => h) (Or.inl ⟨by rfl, ?_⟩) hHeld ?_ ?_
   rotate_left
   ·rintro w' ⟨s0, s1, s2⟩
    go_simp
    with_reducible rfl
   rotate_left
   ·simp only [Act.put, List.setIfInBounds_toArray, List.set_cons_zero, List.set_cons_succ, qbv, qbw]
    rfl
   refine qcj (i := 2) (N := some 9) (v := ?_) (a' := ?_) #[true, true, true, true, false, false, true, false, false, false, false, false, false, false, false, false] rfl rfl (qbk HT_.out (by kernel_rfl)) (fun _ _ _ h => h) (Or.inl ⟨by rfl, ?_⟩) ?_ ?_
   rotate_left
   ·intro w'
    go_simp
    with_reducible rfl
   rotate_left
   ·simp only [Act.put, List.setIfInBounds_toArray, List.set_cons_zero, List.set_cons_succ, qbv, qbw]
    rfl
   refine take_ (i := 4) (N := some 11) (v := ?_) (a' := ?_) #[true, true, true, true, true, false, true, false, false, false, false, false, false, false, false, false] rfl rfl (qdk HT_.out HW_.out (by kernel_rfl)) (fun _ _ _ h => h) (Or.inl ⟨by rfl, ?_⟩) hHeld ?_ ?_
   rotate_left
   ·rintro w' ⟨s0, s1, s2⟩
    go_simp
    with_reducible rfl
   rotate_left
   ·simp only [Act.put, List.setIfInBounds_toArray, List.set_cons_zero, List.set_cons_succ, qbv, qbw]
    rfl
   refine take_ (i := 7) (N := some 14) (v := ?_) (a' := ?_) #[true, true, true, true, true, false, true, true, false, false, false, false, false, false, false, false] rfl rfl (qdk HT_.out HW_.out (by kernel_rfl)) (fun _ _ _ h => h) (Or.inl ⟨by rfl, ?_⟩) hHeld ?_ ?_
   rotate_left
   ·rintro w' ⟨s0, s1, s2⟩
    go_simp
    with_reducible rfl
   rotate_left
   ·simp only [Act.put, List.setIfInBounds_toArray, List.set_cons_zero, List.set_cons_succ, qbv, qbw]
    rfl
   refine two_ (i := 5) (j := 8) (Ni := some 12) (Nj := some 15) #[true, true, true, true, true, true, true, true, false, false, false, false, false, false, false, false] #[true, true, true, true, true, false, true, true, true, false, false, false, false, false, false, false] rfl rfl rfl rfl (two_of HT_.out (by kernel_rfl)) (by decide) (by decide) (fun K hK => ?_) (fun K hK => ?_)
   ·skip
    refine qhx Try.func31 (by kernel_rfl) rfl #[.slice A0_1 l0_1.length c0_1] (by rfl) rfl rfl (by (try simp only [List.map_toArray, List.map_cons, List.map_nil]); first | done | rfl | (simp only [List.length_drop, List.length_take]; rfl)) ?_
    with_reducible refine (tumbrelref02_All.calls k _ _ l0_1 t343 _ ?side1 ?side2 A4.out).mono ?_
    (case side1 => repeat (first | exact (Kd.C_below HR0_1.out HB.out) | (with_reducible refine Kd.C_alloc ?_ _) | (with_reducible refine Kd.C_drewN ?_ _) | (with_reducible refine Kd.C_drew ?_)))
    (case side2 => exact HC0_1.out)
    rintro e w11 ⟨v344, rfl, ho0, hb⟩
    refine ⟨_, rfl, ?_⟩
    have n0_ := Aside0.mk (Kd.R_lower ho0 (qbx (by repeat (first | (with_reducible first | exact HB.out | apply qax | apply qaq | apply qaz | refine qaj ?_ GE341.out) | exact HB.out))))
    have n1_ := Aside0.mk (qcx (g := gb341) (o := .cells #[.int .i64 a0_0, .slice A0_1 l0_1.length c0_1, .string a0_2] 82 (0, 0)) (by (with_reducible repeat (first | refine qav ?_ _ | refine qaw ?_ | refine qak ?_ _)); exact BK341.out) hb)
    have n2_ := Aside0.mk (qbj (by repeat (first | (with_reducible first | exact HB.out | apply qax | apply qaq | apply qaz | refine qaj ?_ GE341.out) | exact HB.out)) hb)
    clear BK341
    clear HB
    have HO345 := n0_
    have BK341 := n1_
    have HB := n2_
    clear n0_ n1_ n2_
    (try clear hb)
    (try clear hb2)
    (try clear hk)
    (try clear hi)
    (try clear ho0)
    refine hK.out _ _ ⟨(qbq BK341.out 0).trans rfl, (qbq BK341.out 1).trans rfl, (qbq BK341.out 2).trans rfl⟩ (fun hHeld => ?_)
    clear hK K
    refine qhz (a' := ?_) ?_ ?_
    rotate_left
    ·show Act.put _ (some 12) _ = _
     simp only [Act.put, List.setIfInBounds_toArray, List.set_cons_zero, List.set_cons_succ, qbv, qbw]
     rfl
    refine one_ (i := 8) (N := some 15) #[true, true, true, true, true, true, true, true, true, false, false, false, false, false, false, false] rfl rfl (qfk HT_.out (by kernel_rfl)) (by decide) (fun K hK => ?_)
    refine qzj (by rfl) 9 23 5 _ rfl Try.underlying9 Try.underlying23 Try.underlying5 a0_2 rfl (by have := LMc5.out; omega) ?_
    intro A15 c15 w15 hcv hb
    have n1_ := Aside0.mk (qcx (g := gb341) (o := .cells #[.int .i64 a0_0, .slice A0_1 l0_1.length c0_1, .string a0_2] 82 (0, 0)) (by (with_reducible repeat (first | refine qav ?_ _ | refine qaw ?_ | refine qak ?_ _)); exact BK341.out) hb)
    have n2_ := Aside0.mk (qbj (by repeat (first | (with_reducible first | exact HB.out | apply qax | apply qaq | apply qaz | refine qaj ?_ GE341.out) | exact HB.out)) hb)
    have n0_ := Aside0.mk (Kd.R_below HO345.out hb)
    clear BK341
    clear HB
    have BK341 := n1_
    have HB := n2_
    clear HO345
    have HO345 := n0_
    clear n0_
    clear n1_ n2_
    have CV := Aside0.mk hcv
    clear hb hcv
    refine hK.out _ _ ⟨(qbq BK341.out 0).trans rfl, (qbq BK341.out 1).trans rfl, (qbq BK341.out 2).trans rfl⟩ (fun hHeld => ?_)
    clear hK K
    refine qhz (a' := ?_) ?_ ?_
    rotate_left
    ·show Act.put _ (some 15) _ = _
     simp only [Act.put, List.setIfInBounds_toArray, List.set_cons_zero, List.set_cons_succ, qbv, qbw]
     rfl
    refine one_ (i := 9) (N := some 16) #[true, true, true, true, true, true, true, true, true, true, false, false, false, false, false, false] rfl rfl (qfk HT_.out (by kernel_rfl)) (by decide) (fun K hK => ?_)
    refine qnz (w0 := w) w.heap.size (by rfl) (.tmp 12) _ 23 5 .u8 1 rfl Try.underlying23 qgv (by decide) v344 t343 (qek a0_2) A15 _ c15 rfl rfl ?aO CV.out ?aB ?aS ?aL ?_
    (case aB => exact (by repeat (first | (with_reducible first | exact HB.out | apply qax | apply qaq | apply qaz | refine qaj ?_ GE341.out) | exact HB.out)))
    (case aO => exact (Kd.own_of_R (by (with_reducible repeat (first | apply Kd.R_alloc | apply Kd.R_drewN | apply Kd.R_drew)); exact HO345.out)))
    (case aS => exact (qbx (by repeat (first | (with_reducible first | exact HB.out | apply qax | apply qaq | apply qaz | refine qaj ?_ GE341.out) | exact HB.out))))
    (case aL => have := LMc5.out; omega)
    intro v347 w12 ho0 hb hg
    have ho := Kd.R_of_own (h1 := fun _ => rfl) (ok := fun _ => True) ho0 (fun _ _ => trivial)
    clear ho0
    have hat := True.intro
    rw [← Ny346.out] at ho
    change Kd.R (Kd.int .u8) 5 w12 w.heap.size (fun _ => True) v347 y346 at ho
    have n0_ := Aside0.mk (qgq (g := gb341) (o := .cells #[.int .i64 a0_0, .slice A0_1 l0_1.length c0_1, .string a0_2] 82 (0, 0)) (by (with_reducible repeat (first | refine qav ?_ _ | refine qaw ?_ | refine qak ?_ _)); exact BK341.out) hg (Kd.R_ne HO345.out BK341.out (by decide)))
    have n1_ := Aside0.mk (hb)
    have n2_ := Aside0.mk (ho)
    clear BK341
    clear HB
    clear HO345
    have BK341 := n0_
    have HB := n1_
    have HO348 := n2_
    clear n0_ n1_ n2_
    clear ho hb hg hat
    obtain ⟨Ao13, co13, eo13⟩ := Kd.R_slice HO348.out
    (first | subst eo13 | (injection eo13 with f1_ f2_ f3_; have f4_ := f1_.symm; have f5_ := f3_.symm; clear f1_ f2_ f3_; subst f4_; subst f5_))
    refine hK.out _ _ ⟨(qbq BK341.out 0).trans rfl, (qbq BK341.out 1).trans rfl, (qbq BK341.out 2).trans rfl⟩ (fun hHeld => ?_)
    clear hK K
    refine qhz (a' := ?_) ?_ ?_
    rotate_left
    ·show Act.put _ (some 16) _ = _
     simp only [Act.put, List.setIfInBounds_toArray, List.set_cons_zero, List.set_cons_succ, qbv, qbw]
     rfl
    refine qcj (i := 10) (N := some 17) (v := ?_) (a' := ?_) #[true, true, true, true, true, true, true, true, true, true, true, false, false, false, false, false] rfl rfl (qbk HT_.out (by kernel_rfl)) (fun _ _ _ h => h) (Or.inl ⟨by rfl, ?_⟩) ?_ ?_
    rotate_left
    ·intro w'
     go_simp
     with_reducible rfl
    rotate_left
    ·simp only [Act.put, List.setIfInBounds_toArray, List.set_cons_zero, List.set_cons_succ, qbv, qbw]
     rfl
    refine one_ (i := 11) (N := some 18) #[true, true, true, true, true, true, true, true, true, true, true, true, false, false, false, false] rfl rfl (qfk HT_.out (by kernel_rfl)) (by decide) (fun K hK => ?_)
    refine qhx Try.func46 (by kernel_rfl) rfl #[.agg #[.int .u8 ((a0_0) % 256), .slice Ao13 y346.length co13]] (by rfl) rfl rfl (by (try simp only [List.map_toArray, List.map_cons, List.map_nil]); first | done | rfl | (simp only [List.length_drop, List.length_take]; rfl)) ?_
    with_reducible refine (tumbrelref04_Bytes.calls k ((a0_0) % 256) _ _ y346 t349 t352 _ ?side1 ?side2 A6.out).mono ?_
    (case side1 => repeat (first | exact (Kd.R_reads' HO348.out).2.2 | (with_reducible refine Kd.C_alloc ?_ _) | (with_reducible refine Kd.C_drewN ?_ _) | (with_reducible refine Kd.C_drew ?_)))
    (case side2 => exact (Kd.R_reads' HO348.out).2.1)
    rintro e w14 ⟨v350, rfl, ho0, hb⟩
    refine ⟨_, rfl, ?_⟩
    have n0_ := Aside0.mk (Kd.R_elder' (by (with_reducible repeat (first | apply Kd.R_alloc | apply Kd.R_drewN | apply Kd.R_drew)); exact HO348.out) (Kd.R_base ho0) hb)
    have n1_ := Aside0.mk (Kd.R_lower (Kd.R_new' ho0 (Kd.R_lt (by (with_reducible repeat (first | apply Kd.R_alloc | apply Kd.R_drewN | apply Kd.R_drew)); exact HO348.out))) (qbx (by repeat (first | (with_reducible first | exact HB.out | apply qax | apply qaq | apply qaz | refine qaj ?_ GE341.out) | exact HB.out))))
    have n2_ := Aside0.mk (qcx (g := gb341) (o := .cells #[.int .i64 a0_0, .slice A0_1 l0_1.length c0_1, .string a0_2] 82 (0, 0)) (by (with_reducible repeat (first | refine qav ?_ _ | refine qaw ?_ | refine qak ?_ _)); exact BK341.out) hb)
    have n3_ := Aside0.mk (qbj (by repeat (first | (with_reducible first | exact HB.out | apply qax | apply qaq | apply qaz | refine qaj ?_ GE341.out) | exact HB.out)) hb)
    clear HO348
    clear BK341
    clear HB
    have HO348 := n0_
    have HO351 := n1_
    have BK341 := n2_
    have HB := n3_
    clear n0_ n1_ n2_ n3_
    (try clear hb)
    (try clear hb2)
    (try clear hk)
    (try clear hi)
    (try clear ho0)
    refine hK.out _ _ ⟨(qbq BK341.out 0).trans rfl, (qbq BK341.out 1).trans rfl, (qbq BK341.out 2).trans rfl⟩ (fun hHeld => ?_)
    clear hK K
    refine qhz (a' := ?_) ?_ ?_
    rotate_left
    ·show Act.put _ (some 18) _ = _
     simp only [Act.put, List.setIfInBounds_toArray, List.set_cons_zero, List.set_cons_succ, qbv, qbw]
     rfl
    refine qcj (i := 12) (N := some 19) (v := ?_) (a' := ?_) #[true, true, true, true, true, true, true, true, true, true, true, true, true, false, false, false] rfl rfl (qbk HT_.out (by kernel_rfl)) (fun _ _ _ h => h) (Or.inl ⟨by rfl, ?_⟩) ?_ ?_
    rotate_left
    ·intro w'
     go_simp
     with_reducible rfl
    rotate_left
    ·simp only [Act.put, List.setIfInBounds_toArray, List.set_cons_zero, List.set_cons_succ, qbv, qbw]
     rfl
    refine qcj (i := 13) (N := some 20) (v := ?_) (a' := ?_) #[true, true, true, true, true, true, true, true, true, true, true, true, true, true, false, false] rfl rfl (qbk HT_.out (by kernel_rfl)) (fun _ _ _ h => h) (Or.inl ⟨by rfl, ?_⟩) ?_ ?_
    rotate_left
    ·intro w'
     go_simp
     with_reducible rfl
    rotate_left
    ·simp only [Act.put, List.setIfInBounds_toArray, List.set_cons_zero, List.set_cons_succ, qbv, qbw]
     rfl
    refine qcj (i := 14) (N := some 2) (v := ?_) (a' := ?_) #[true, true, true, true, true, true, true, true, true, true, true, true, true, true, true, false] rfl rfl (qbk HT_.out (by kernel_rfl)) (fun _ _ _ h => h) (Or.inl ⟨by rfl, ?_⟩) ?_ ?_
    rotate_left
    ·intro w'
     go_simp
     with_reducible rfl
    rotate_left
    ·simp only [Act.put, List.setIfInBounds_toArray, List.set_cons_zero, List.set_cons_succ, qbv, qbw]
     rfl
    refine qcj (i := 15) (N := some 3) (v := ?_) (a' := ?_) #[true, true, true, true, true, true, true, true, true, true, true, true, true, true, true, true] rfl rfl (qbk HT_.out (by kernel_rfl)) (fun _ _ _ h => h) (Or.inl ⟨by rfl, ?_⟩) ?_ ?_
    rotate_left
    ·intro w'
     go_simp
     with_reducible rfl
    rotate_left
    ·simp only [Act.put, List.setIfInBounds_toArray, List.set_cons_zero, List.set_cons_succ, qbv, qbw]
     rfl
    refine qlv (qiq HT_.out (by kernel_rfl)) ?_
    try go_wp2
    go_ret2
    exact ⟨_, by first | rfl | (simp [qcq, qcz] <;> rfl) | (simp [*, qcq, qcz] <;> rfl), by (with_reducible repeat (first | apply Kd.R_alloc | apply Kd.R_drewN | apply Kd.R_drew)); exact Kd.R_mono HO351.out (fun _ hk => trivial), by repeat (first | (with_reducible first | exact HB.out | apply qax | apply qaq | apply qaz | refine qaj ?_ GE341.out) | exact HB.out)⟩
   ·skip
    refine qzj (by rfl) 9 23 5 _ rfl Try.underlying9 Try.underlying23 Try.underlying5 a0_2 rfl (by have := LMc5.out; omega) ?_
    intro A15 c15 w15 hcv hb
    have n1_ := Aside0.mk (qcx (g := gb341) (o := .cells #[.int .i64 a0_0, .slice A0_1 l0_1.length c0_1, .string a0_2] 82 (0, 0)) (by (with_reducible repeat (first | refine qav ?_ _ | refine qaw ?_ | refine qak ?_ _)); exact BK341.out) hb)
    have n2_ := Aside0.mk (qbj (by repeat (first | (with_reducible first | exact HB.out | apply qax | apply qaq | apply qaz | refine qaj ?_ GE341.out) | exact HB.out)) hb)
    clear BK341
    clear HB
    have BK341 := n1_
    have HB := n2_
    clear n1_ n2_
    have CV := Aside0.mk hcv
    clear hb hcv
    refine hK.out _ _ ⟨(qbq BK341.out 0).trans rfl, (qbq BK341.out 1).trans rfl, (qbq BK341.out 2).trans rfl⟩ (fun hHeld => ?_)
    clear hK K
    refine qhz (a' := ?_) ?_ ?_
    rotate_left
    ·show Act.put _ (some 15) _ = _
     simp only [Act.put, List.setIfInBounds_toArray, List.set_cons_zero, List.set_cons_succ, qbv, qbw]
     rfl
    refine one_ (i := 5) (N := some 12) #[true, true, true, true, true, true, true, true, true, false, false, false, false, false, false, false] rfl rfl (qfk HT_.out (by kernel_rfl)) (by decide) (fun K hK => ?_)
    refine qhx Try.func31 (by kernel_rfl) rfl #[.slice A0_1 l0_1.length c0_1] (by rfl) rfl rfl (by (try simp only [List.map_toArray, List.map_cons, List.map_nil]); first | done | rfl | (simp only [List.length_drop, List.length_take]; rfl)) ?_
    with_reducible refine (tumbrelref02_All.calls k _ _ l0_1 t343 _ ?side1 ?side2 A4.out).mono ?_
    (case side1 => repeat (first | exact (Kd.C_below HR0_1.out HB.out) | (with_reducible refine Kd.C_alloc ?_ _) | (with_reducible refine Kd.C_drewN ?_ _) | (with_reducible refine Kd.C_drew ?_)))
    (case side2 => exact HC0_1.out)
    rintro e w11 ⟨v344, rfl, ho0, hb⟩
    refine ⟨_, rfl, ?_⟩
    have n0_ := Aside0.mk (Kd.R_lower ho0 (qbx (by repeat (first | (with_reducible first | exact HB.out | apply qax | apply qaq | apply qaz | refine qaj ?_ GE341.out) | exact HB.out))))
    have n9_ := Aside0.mk (CV.out.below hb)
    have n1_ := Aside0.mk (qcx (g := gb341) (o := .cells #[.int .i64 a0_0, .slice A0_1 l0_1.length c0_1, .string a0_2] 82 (0, 0)) (by (with_reducible repeat (first | refine qav ?_ _ | refine qaw ?_ | refine qak ?_ _)); exact BK341.out) hb)
    have n2_ := Aside0.mk (qbj (by repeat (first | (with_reducible first | exact HB.out | apply qax | apply qaq | apply qaz | refine qaj ?_ GE341.out) | exact HB.out)) hb)
    clear BK341
    clear HB
    clear CV
    have CV := n9_
    clear n9_
    have HO345 := n0_
    have BK341 := n1_
    have HB := n2_
    clear n0_ n1_ n2_
    (try clear hb)
    (try clear hb2)
    (try clear hk)
    (try clear hi)
    (try clear ho0)
    refine hK.out _ _ ⟨(qbq BK341.out 0).trans rfl, (qbq BK341.out 1).trans rfl, (qbq BK341.out 2).trans rfl⟩ (fun hHeld => ?_)
    clear hK K
    refine qhz (a' := ?_) ?_ ?_
    rotate_left
    ·show Act.put _ (some 12) _ = _
     simp only [Act.put, List.setIfInBounds_toArray, List.set_cons_zero, List.set_cons_succ, qbv, qbw]
     rfl
    refine one_ (i := 9) (N := some 16) #[true, true, true, true, true, true, true, true, true, true, false, false, false, false, false, false] rfl rfl (qfk HT_.out (by kernel_rfl)) (by decide) (fun K hK => ?_)
    refine qnz (w0 := w) w.heap.size (by rfl) (.tmp 12) _ 23 5 .u8 1 rfl Try.underlying23 qgv (by decide) v344 t343 (qek a0_2) A15 _ c15 rfl rfl ?aO CV.out ?aB ?aS ?aL ?_
    (case aB => exact (by repeat (first | (with_reducible first | exact HB.out | apply qax | apply qaq | apply qaz | refine qaj ?_ GE341.out) | exact HB.out)))
    (case aO => exact (Kd.own_of_R (by (with_reducible repeat (first | apply Kd.R_alloc | apply Kd.R_drewN | apply Kd.R_drew)); exact HO345.out)))
    (case aS => exact (qbx (by repeat (first | (with_reducible first | exact HB.out | apply qax | apply qaq | apply qaz | refine qaj ?_ GE341.out) | exact HB.out))))
    (case aL => have := LMc5.out; omega)
    intro v347 w12 ho0 hb hg
    have ho := Kd.R_of_own (h1 := fun _ => rfl) (ok := fun _ => True) ho0 (fun _ _ => trivial)
    clear ho0
    have hat := True.intro
    rw [← Ny346.out] at ho
    change Kd.R (Kd.int .u8) 5 w12 w.heap.size (fun _ => True) v347 y346 at ho
    have n0_ := Aside0.mk (qgq (g := gb341) (o := .cells #[.int .i64 a0_0, .slice A0_1 l0_1.length c0_1, .string a0_2] 82 (0, 0)) (by (with_reducible repeat (first | refine qav ?_ _ | refine qaw ?_ | refine qak ?_ _)); exact BK341.out) hg (Kd.R_ne HO345.out BK341.out (by decide)))
    have n1_ := Aside0.mk (hb)
    have n2_ := Aside0.mk (ho)
    clear BK341
    clear HB
    clear HO345
    have BK341 := n0_
    have HB := n1_
    have HO348 := n2_
    clear n0_ n1_ n2_
    clear ho hb hg hat
    obtain ⟨Ao13, co13, eo13⟩ := Kd.R_slice HO348.out
    (first | subst eo13 | (injection eo13 with f1_ f2_ f3_; have f4_ := f1_.symm; have f5_ := f3_.symm; clear f1_ f2_ f3_; subst f4_; subst f5_))
    refine hK.out _ _ ⟨(qbq BK341.out 0).trans rfl, (qbq BK341.out 1).trans rfl, (qbq BK341.out 2).trans rfl⟩ (fun hHeld => ?_)
    clear hK K
    refine qhz (a' := ?_) ?_ ?_
    rotate_left
    ·show Act.put _ (some 16) _ = _
     simp only [Act.put, List.setIfInBounds_toArray, List.set_cons_zero, List.set_cons_succ, qbv, qbw]
     rfl
    refine qcj (i := 10) (N := some 17) (v := ?_) (a' := ?_) #[true, true, true, true, true, true, true, true, true, true, true, false, false, false, false, false] rfl rfl (qbk HT_.out (by kernel_rfl)) (fun _ _ _ h => h) (Or.inl ⟨by rfl, ?_⟩) ?_ ?_
    rotate_left
    ·intro w'
     go_simp
     with_reducible rfl
    rotate_left
    ·simp only [Act.put, List.setIfInBounds_toArray, List.set_cons_zero, List.set_cons_succ, qbv, qbw]
     rfl
    refine one_ (i := 11) (N := some 18) #[true, true, true, true, true, true, true, true, true, true, true, true, false, false, false, false] rfl rfl (qfk HT_.out (by kernel_rfl)) (by decide) (fun K hK => ?_)
    refine qhx Try.func46 (by kernel_rfl) rfl #[.agg #[.int .u8 ((a0_0) % 256), .slice Ao13 y346.length co13]] (by rfl) rfl rfl (by (try simp only [List.map_toArray, List.map_cons, List.map_nil]); first | done | rfl | (simp only [List.length_drop, List.length_take]; rfl)) ?_
    with_reducible refine (tumbrelref04_Bytes.calls k ((a0_0) % 256) _ _ y346 t349 t352 _ ?side1 ?side2 A6.out).mono ?_
    (case side1 => repeat (first | exact (Kd.R_reads' HO348.out).2.2 | (with_reducible refine Kd.C_alloc ?_ _) | (with_reducible refine Kd.C_drewN ?_ _) | (with_reducible refine Kd.C_drew ?_)))
    (case side2 => exact (Kd.R_reads' HO348.out).2.1)
    rintro e w14 ⟨v350, rfl, ho0, hb⟩
    refine ⟨_, rfl, ?_⟩
    have n0_ := Aside0.mk (Kd.R_elder' (by (with_reducible repeat (first | apply Kd.R_alloc | apply Kd.R_drewN | apply Kd.R_drew)); exact HO348.out) (Kd.R_base ho0) hb)
    have n1_ := Aside0.mk (Kd.R_lower (Kd.R_new' ho0 (Kd.R_lt (by (with_reducible repeat (first | apply Kd.R_alloc | apply Kd.R_drewN | apply Kd.R_drew)); exact HO348.out))) (qbx (by repeat (first | (with_reducible first | exact HB.out | apply qax | apply qaq | apply qaz | refine qaj ?_ GE341.out) | exact HB.out))))
    have n2_ := Aside0.mk (qcx (g := gb341) (o := .cells #[.int .i64 a0_0, .slice A0_1 l0_1.length c0_1, .string a0_2] 82 (0, 0)) (by (with_reducible repeat (first | refine qav ?_ _ | refine qaw ?_ | refine qak ?_ _)); exact BK341.out) hb)
    have n3_ := Aside0.mk (qbj (by repeat (first | (with_reducible first | exact HB.out | apply qax | apply qaq | apply qaz | refine qaj ?_ GE341.out) | exact HB.out)) hb)
    clear HO348
    clear BK341
    clear HB
    have HO348 := n0_
    have HO351 := n1_
    have BK341 := n2_
    have HB := n3_
    clear n0_ n1_ n2_ n3_
    (try clear hb)
    (try clear hb2)
    (try clear hk)
    (try clear hi)
    (try clear ho0)
    refine hK.out _ _ ⟨(qbq BK341.out 0).trans rfl, (qbq BK341.out 1).trans rfl, (qbq BK341.out 2).trans rfl⟩ (fun hHeld => ?_)
    clear hK K
    refine qhz (a' := ?_) ?_ ?_
    rotate_left
    ·show Act.put _ (some 18) _ = _
     simp only [Act.put, List.setIfInBounds_toArray, List.set_cons_zero, List.set_cons_succ, qbv, qbw]
     rfl
    refine qcj (i := 12) (N := some 19) (v := ?_) (a' := ?_) #[true, true, true, true, true, true, true, true, true, true, true, true, true, false, false, false] rfl rfl (qbk HT_.out (by kernel_rfl)) (fun _ _ _ h => h) (Or.inl ⟨by rfl, ?_⟩) ?_ ?_
    rotate_left
    ·intro w'
     go_simp
     with_reducible rfl
    rotate_left
    ·simp only [Act.put, List.setIfInBounds_toArray, List.set_cons_zero, List.set_cons_succ, qbv, qbw]
     rfl
    refine qcj (i := 13) (N := some 20) (v := ?_) (a' := ?_) #[true, true, true, true, true, true, true, true, true, true, true, true, true, true, false, false] rfl rfl (qbk HT_.out (by kernel_rfl)) (fun _ _ _ h => h) (Or.inl ⟨by rfl, ?_⟩) ?_ ?_
    rotate_left
    ·intro w'
     go_simp
     with_reducible rfl
    rotate_left
    ·simp only [Act.put, List.setIfInBounds_toArray, List.set_cons_zero, List.set_cons_succ, qbv, qbw]
     rfl
    refine qcj (i := 14) (N := some 2) (v := ?_) (a' := ?_) #[true, true, true, true, true, true, true, true, true, true, true, true, true, true, true, false] rfl rfl (qbk HT_.out (by kernel_rfl)) (fun _ _ _ h => h) (Or.inl ⟨by rfl, ?_⟩) ?_ ?_
    rotate_left
    ·intro w'
     go_simp
     with_reducible rfl
    rotate_left
    ·simp only [Act.put, List.setIfInBounds_toArray, List.set_cons_zero, List.set_cons_succ, qbv, qbw]
     rfl
    refine qcj (i := 15) (N := some 3) (v := ?_) (a' := ?_) #[true, true, true, true, true, true, true, true, true, true, true, true, true, true, true, true] rfl rfl (qbk HT_.out (by kernel_rfl)) (fun _ _ _ h => h) (Or.inl ⟨by rfl, ?_⟩) ?_ ?_
    rotate_left
    ·intro w'
     go_simp
     with_reducible rfl
    rotate_left
    ·simp only [Act.put, List.setIfInBounds_toArray, List.set_cons_zero, List.set_cons_succ, qbv, qbw]
     rfl
    refine qlv (qiq HT_.out (by kernel_rfl)) ?_
    try go_wp2
    go_ret2
    exact ⟨_, by first | rfl | (simp [qcq, qcz] <;> rfl) | (simp [*, qcq, qcz] <;> rfl), by (with_reducible repeat (first | apply Kd.R_alloc | apply Kd.R_drewN | apply Kd.R_drew)); exact Kd.R_mono HO351.out (fun _ hk => trivial), by repeat (first | (with_reducible first | exact HB.out | apply qax | apply qaq | apply qaz | refine qaj ?_ GE341.out) | exact HB.out)⟩
  ·rw [if_neg c5] at H
   exact absurd H (by simp)
 ·replace c3 := Bool.eq_false_iff.mpr c3
  subst c3
  have H1 : (some (([] : List Int), 1)) = some (r1, r2) := by rw [if_neg (show ¬ (false = true) by decide)] at H; exact H
  clear H
  have H := H1
  clear H1
  simp only [Option.some.injEq, Prod.mk.injEq] at H
  obtain ⟨rfl, rfl⟩ := H
  go_enter Try.func57, Try.ntmps57
  go_wp2_with (first | ((with_reducible refine qcv (N := 1) rfl ?_); refine qcw ?hg (N := 1) ?hd (cs := #[.int .i64 a0_0, .slice A0_1 l0_1.length c0_1, .string a0_2]) (t := 82) ?hr ?_; (case hd => rfl); (case hg => rfl); (case hr => first | (go_simp; done) | (go_simp; rfl) | (go_simp; simp only [IntKind.wrap_u8]; rw [Int.tmod_eq_emod_of_nonneg (Int.natCast_nonneg _), Int.emod_emod])); intro gb341 hg w15 hbox hb; have n0_ := Aside0.mk (qbj (by repeat (first | (with_reducible first | exact HB.out | apply qax | apply qaq | apply qaz) | exact HB.out)) hb); have n1_ := Aside0.mk (hbox); have n2_ := Aside0.mk ((by rw [hg]; exact (qbx (by repeat (first | (with_reducible first | exact HB.out | apply qax | apply qaq | apply qaz) | exact HB.out))) : w.heap.size ≤ gb341)); have n3_ := Aside0.mk ((by rw [hg]; exact (qbx (by repeat (first | (with_reducible first | exact HB.out | apply qax | apply qaq | apply qaz) | exact HB.out))) : w.heap.size ≤ gb341)); clear HB; have HB := n0_; have BK341 := n1_; have GW341 := n2_; have GE341 := n3_; clear n0_ n1_ n2_ n3_; clear hb hbox hg; have hcz16_0 : w15.cell? ⟨gb341, 0, none⟩ = some (.int .i64 a0_0) := (qbq BK341.out 0).trans rfl; have hcz16_1 : w15.cell? ⟨gb341, 1, none⟩ = some (.slice A0_1 l0_1.length c0_1) := (qbq BK341.out 1).trans rfl; have hcz16_2 : w15.cell? ⟨gb341, 2, none⟩ = some (.string a0_2) := (qbq BK341.out 2).trans rfl; have hfz16_0 := qbz BK341.out 0; have hfz16_1 := qbz BK341.out 1; have hfz16_2 := qbz BK341.out 2) | ((with_reducible refine qdq (f := 61) rfl ?_); refine qew (some 5) rfl rfl Try.func61 (by kernel_rfl) rfl #[.agg #[.int .i64 a0_0, .slice A0_1 l0_1.length c0_1, .string a0_2]] rfl (by (try simp only [List.map_toArray, List.map_cons, List.map_nil]); first | done | rfl | (simp only [List.length_drop, List.length_take]; rfl)) ?_; (with_reducible refine (tumbrelref05_Right.calls a0_0 _ _ l0_1 a0_2 false _ ?side1 ?side2 A2.out).mono ?_); (case side1 => repeat (first | exact (Kd.C_below HR0_1.out HB.out) | (with_reducible refine Kd.C_alloc ?_ _) | (with_reducible refine Kd.C_drewN ?_ _) | (with_reducible refine Kd.C_drew ?_))); (case side2 => exact HC0_1.out); rintro e w17 ⟨rfl, hb⟩; refine ⟨_, rfl, ?_⟩; have n0_ := Aside0.mk (qcx (g := gb341) (o := .cells #[.int .i64 a0_0, .slice A0_1 l0_1.length c0_1, .string a0_2] 82 (0, 0)) (by (with_reducible repeat (first | refine qav ?_ _ | refine qaw ?_ | refine qak ?_ _)); exact BK341.out) hb); have n1_ := Aside0.mk (qbj (by repeat (first | (with_reducible first | exact HB.out | apply qax | apply qaq | apply qaz | refine qaj ?_ GE341.out) | exact HB.out)) hb); clear BK341; clear HB; have BK341 := n0_; have HB := n1_; clear n0_ n1_; (try clear hb); (try clear hb2); (try clear hk); (try clear hi)))
  go_ret2
  exact ⟨_, by first | rfl | (simp [qcq, qcz] <;> rfl) | (simp [*, qcq, qcz] <;> rfl), by first | exact Kd.R_nil _ _ _ _ _ | exact Kd.N_nil _ _ _ _ _ | exact Kd.V_nil _ _ _ _ _ | exact Kd.Q_nil _ _ _ _ _ | exact Kd.S_nil _ _ _ _ _, by repeat (first | (with_reducible first | exact HB.out | apply qax | apply qaq | apply qaz | refine qaj ?_ GE341.out) | exact HB.out)⟩
end Go.Proofs.Ytojepleodijdeaa.B
namespace Go.Proofs.Ytojepleodijdeaa.B
open Go.RowKit Go.Proofs.YtojepleodijdeaaW.PrintWords Go.Proofs.YtojepleodijdeaaW.PrintLast Go.Proofs.YtojepleodijdeaaW.PrintMore
attribute [local go_sem] qgz qgx qhj qhk qfx qfj qgj qgk   -- for this text's walks alone
set_option linter.unusedVariables false
set_option linter.unusedSimpArgs false
def tumbrellaw05_RecordTells.j0 : Nat → Bool → Int → List Int → ByteArray → Int → List Int → ByteArray → Int → List Int → Option (Bool)
 | 0, _, _, _, _, _, _, _, _, _ => none
 | k + 1, x28, x389000, x389001, x389002, x390000, x390001, x390002, x391000, x391001 => if x28 = true then (some true) else ((record_Bytes.f k x389000 x389001 x389002).bind fun bt394 => ((tumbrelref05_Bytes.f k x389000 x389001 x389002).bind fun bt398 => ((record_Read.f k x391000 x391001).bind fun bt402 => ((tumbrelref05_Read.f k x391000 x391001).bind fun bt409 => ((record_Right.f x389000 x389001 x389002).bind fun t416 => ((tumbrelref05_Right.f x389000 x389001 x389002).bind fun t417 => (if (t416 == t417) = true then ((tumbrelref01_Same.f k bt394.1 bt398.1).bind fun t418 => (if t418 = true then (if bt394.2 = bt398.2 then ((tumbrellaw05_own.f k (([(⟨bt402.1, bt402.2.1, bt402.2.2.1⟩ : S80)] : List (S80)))).bind fun t422 => ((tumbrelref05_Same.f k t422 (([(⟨bt409.1, bt409.2.1, bt409.2.2.1⟩ : S82)] : List (S82)))).bind fun t428 => (if t428 = true then (if bt402.2.2.2 = bt409.2.2.2 then ((record_Same.f k x389000 x389001 x389002 x390000 x390001 x390002).bind fun t429 => ((tumbrellaw05_own.f k (([(⟨x389000, x389001, x389002⟩ : S80)] : List (S80)))).bind fun t433 => ((tumbrellaw05_own.f k (([(⟨x390000, x390001, x390002⟩ : S80)] : List (S80)))).bind fun t439 => ((tumbrelref05_Same.f k t433 t439).bind fun t442 => (some (t429 == t442)))))) else (some false)) else (some false)))) else (some false)) else (some false))) else (some false))))))))
def tumbrellaw05_RecordTells.f (k : Nat) (a0_0 : Int) (l0_1 : List Int) (a0_2 : ByteArray) (a1_0 : Int) (l1_1 : List Int) (a1_2 : ByteArray) (a2_0 : Int) (l2_1 : List Int) : Option (Bool) := (tumbrellaw05_awake.f k).bind fun t391 => (if t391 = true then ((tumbrelref05_Large.f a0_0 l0_1 a0_2).bind fun t392 => (if t392 = true then (tumbrellaw05_RecordTells.j0 k true a0_0 l0_1 a0_2 a1_0 l1_1 a1_2 a2_0 l2_1) else ((tumbrelref05_Large.f a1_0 l1_1 a1_2).bind fun t393 => (if t393 = true then (tumbrellaw05_RecordTells.j0 k true a0_0 l0_1 a0_2 a1_0 l1_1 a1_2 a2_0 l2_1) else (tumbrellaw05_RecordTells.j0 k (decide ((l2_1.length : Int) > 1200)) a0_0 l0_1 a0_2 a1_0 l1_1 a1_2 a2_0 l2_1))))) else (some false))
set_option maxHeartbeats 8000000 in
set_option maxRecDepth 100000 in
theorem tumbrellaw05_RecordTells.calls (k : Nat) (a0_0 : Int) (P0_1_ : Nat → Prop) (A0_1 : Option Addr) (c0_1 : Nat) (l0_1 : List Int) (a0_2 : ByteArray) (a1_0 : Int) (P1_1_ : Nat → Prop) (A1_1 : Option Addr) (c1_1 : Nat) (l1_1 : List Int) (a1_2 : ByteArray) (a2_0 : Int) (A2_1 : Option Addr) (c2_1 : Nat) (l2_1 : List Int) (r : Bool) (w : World) (hs0_1 : Kd.V (Kd.int .u64) 22 w w.heap.size (fun k_ => P0_1_ k_) (.slice A0_1 l0_1.length c0_1) l0_1) (hs1_1 : Kd.V (Kd.int .u64) 22 w w.heap.size (fun k_ => P1_1_ k_) (.slice A1_1 l1_1.length c1_1) l1_1) (hr2_1 : Kd.C (Kd.int .u8) w A2_1 l2_1.length l2_1) (hc2_1 : l2_1.length ≤ c2_1) (h : tumbrellaw05_RecordTells.f k a0_0 l0_1 a0_2 a1_0 l1_1 a1_2 a2_0 l2_1 = some r) (hr_ : r = true) :
  Calls Try.prog 16 #[.agg #[.int .i64 a0_0, .slice A0_1 l0_1.length c0_1, .string a0_2], .agg #[.int .i64 a1_0, .slice A1_1 l1_1.length c1_1, .string a1_2], .agg #[.int .u8 a2_0, .slice A2_1 l2_1.length c2_1]] w fun e w' => e = .returned (.bool r) ∧ Below w.heap.size w w' := by
 have hu80 := Try.underlying80
 have hu56 := Try.underlying56
 have hu82 := Try.underlying82
 have HO0_1 := Aside0.mk (show Kd.V (Kd.int .u64) 22 w w.heap.size (fun k_ => ((P0_1_ k_ ∨ P1_1_ k_) ∨ w.heap.size ≤ k_)) (.slice A0_1 l0_1.length c0_1) l0_1 from Kd.V_mono hs0_1 (fun k_ hk => .inl (.inl hk)))
 have HO1_1 := Aside0.mk (show Kd.V (Kd.int .u64) 22 w w.heap.size (fun k_ => ((P0_1_ k_ ∨ P1_1_ k_) ∨ w.heap.size ≤ k_)) (.slice A1_1 l1_1.length c1_1) l1_1 from Kd.V_mono hs1_1 (fun k_ hk => .inl (.inr hk)))
 have HR2_1 := Aside0.mk hr2_1
 have HC2_1 := Aside0.mk hc2_1
 clear hr2_1 hc2_1
 have HB := Aside0.mk (Below.refl w.heap.size w)
 have H : ((tumbrellaw05_awake.f k).bind fun t391 => (if t391 = true then ((tumbrelref05_Large.f a0_0 l0_1 a0_2).bind fun t392 => (if t392 = true then (tumbrellaw05_RecordTells.j0 k true a0_0 l0_1 a0_2 a1_0 l1_1 a1_2 a2_0 l2_1) else ((tumbrelref05_Large.f a1_0 l1_1 a1_2).bind fun t393 => (if t393 = true then (tumbrellaw05_RecordTells.j0 k true a0_0 l0_1 a0_2 a1_0 l1_1 a1_2 a2_0 l2_1) else (tumbrellaw05_RecordTells.j0 k (decide ((l2_1.length : Int) > 1200)) a0_0 l0_1 a0_2 a1_0 l1_1 a1_2 a2_0 l2_1))))) else (some false))) = some r := h
 clear h
 replace H := Option.bind_eq_some_iff.mp H
 obtain ⟨t391, A40, H⟩ := H
 replace H : (if t391 = true then ((tumbrelref05_Large.f a0_0 l0_1 a0_2).bind fun t392 => (if t392 = true then (tumbrellaw05_RecordTells.j0 k true a0_0 l0_1 a0_2 a1_0 l1_1 a1_2 a2_0 l2_1) else ((tumbrelref05_Large.f a1_0 l1_1 a1_2).bind fun t393 => (if t393 = true then (tumbrellaw05_RecordTells.j0 k true a0_0 l0_1 a0_2 a1_0 l1_1 a1_2 a2_0 l2_1) else (tumbrellaw05_RecordTells.j0 k (decide ((l2_1.length : Int) > 1200)) a0_0 l0_1 a0_2 a1_0 l1_1 a1_2 a2_0 l2_1))))) else (some false)) = some r := H
 have A4 := Aside0.mk A40
 clear A40
 by_cases c5 : t391 = true
 ·subst c5
  have H1 : ((tumbrelref05_Large.f a0_0 l0_1 a0_2).bind fun t392 => (if t392 = true then (tumbrellaw05_RecordTells.j0 k true a0_0 l0_1 a0_2 a1_0 l1_1 a1_2 a2_0 l2_1) else ((tumbrelref05_Large.f a1_0 l1_1 a1_2).bind fun t393 => (if t393 = true then (tumbrellaw05_RecordTells.j0 k true a0_0 l0_1 a0_2 a1_0 l1_1 a1_2 a2_0 l2_1) else (tumbrellaw05_RecordTells.j0 k (decide ((l2_1.length : Int) > 1200)) a0_0 l0_1 a0_2 a1_0 l1_1 a1_2 a2_0 l2_1))))) = some r := by rw [if_pos rfl] at H; exact H
  clear H
  have H := H1
  clear H1
  have HC6 := Aside0.mk H
  clear H
  go_enter Try.func16, Try.ntmps16
  go_upto_region 3 with (first | ((with_reducible refine qcv (N := 3) rfl ?_); (try (refine qfz (by rfl) ?_; dsimp only)); refine qcw ?hg (N := 3) ?hd (cs := #[.int .i64 a0_0, .slice A0_1 l0_1.length c0_1, .string a0_2]) (t := 80) ?hr ?_; (case hd => rfl); (case hg => rfl); (case hr => first | (go_simp; done) | (go_simp; rfl)); intro gb388 hg w7 hbox hb; have n0_ := Aside0.mk (Kd.V_below (Kd.V_elderB (by (with_reducible repeat (first | apply Kd.V_alloc | apply Kd.V_drewN | apply Kd.V_drew)); exact HO0_1.out) gb388 (Nat.le_of_eq hg.symm)) hb); have n1_ := Aside0.mk (Kd.V_below (Kd.V_elderB (by (with_reducible repeat (first | apply Kd.V_alloc | apply Kd.V_drewN | apply Kd.V_drew)); exact HO1_1.out) gb388 (Nat.le_of_eq hg.symm)) hb); have n2_ := Aside0.mk (qbj (by repeat (first | (with_reducible first | exact HB.out | apply qax | apply qaq | apply qaz) | exact HB.out)) hb); have n3_ := Aside0.mk (hbox); have n4_ := Aside0.mk ((by rw [hg]; exact (qbx (by repeat (first | (with_reducible first | exact HB.out | apply qax | apply qaq | apply qaz) | exact HB.out))) : w.heap.size ≤ gb388)); have n5_ := Aside0.mk ((by rw [hg]; exact (qbx (by repeat (first | (with_reducible first | exact HB.out | apply qax | apply qaq | apply qaz) | exact HB.out))) : w.heap.size ≤ gb388)); clear HO0_1; clear HO1_1; clear HB; have HO0_1 := n0_; have HO1_1 := n1_; have HB := n2_; have BK388 := n3_; have GW388 := n4_; have GE388 := n5_; clear n0_ n1_ n2_ n3_ n4_ n5_; clear hb hbox hg) | ((with_reducible refine qcv (N := 4) rfl ?_); (try (refine qfz (by rfl) ?_; dsimp only)); refine qcw ?hg (N := 4) ?hd (cs := #[.int .i64 a1_0, .slice A1_1 l1_1.length c1_1, .string a1_2]) (t := 80) ?hr ?_; (case hd => rfl); (case hg => rfl); (case hr => first | (go_simp; done) | (go_simp; rfl)); intro gb389 hg w8 hbox hb; have n0_ := Aside0.mk (Kd.V_below (Kd.V_elderB (by (with_reducible repeat (first | apply Kd.V_alloc | apply Kd.V_drewN | apply Kd.V_drew)); exact HO0_1.out) gb389 (Nat.le_of_eq hg.symm)) hb); have n1_ := Aside0.mk (Kd.V_below (Kd.V_elderB (by (with_reducible repeat (first | apply Kd.V_alloc | apply Kd.V_drewN | apply Kd.V_drew)); exact HO1_1.out) gb389 (Nat.le_of_eq hg.symm)) hb); have n2_ := Aside0.mk (qcx (g := gb388) (o := .cells #[.int .i64 a0_0, .slice A0_1 l0_1.length c0_1, .string a0_2] 80 (0, 0)) (by (with_reducible repeat (first | refine qav ?_ _ | refine qaw ?_ | refine qak ?_ _)); exact BK388.out) hb); have n3_ := Aside0.mk (qbj (by repeat (first | (with_reducible first | exact HB.out | apply qax | apply qaq | apply qaz | refine qaj ?_ GE388.out) | exact HB.out)) hb); have n4_ := Aside0.mk (hbox); have n5_ := Aside0.mk ((by rw [hg]; exact (qbx (by repeat (first | (with_reducible first | exact HB.out | apply qax | apply qaq | apply qaz | refine qaj ?_ GE388.out) | exact HB.out))) : w.heap.size ≤ gb389)); have n6_ := Aside0.mk ((by rw [hg]; exact (qbx (by repeat (first | (with_reducible first | exact HB.out | apply qax | apply qaq | apply qaz | refine qaj ?_ GE388.out) | exact HB.out))) : w.heap.size ≤ gb389)); have n7_ := Aside0.mk ((by rw [hg]; exact Nat.ne_of_lt (qez (g := gb388) (o := .cells #[.int .i64 a0_0, .slice A0_1 l0_1.length c0_1, .string a0_2] 80 (0, 0)) (by (with_reducible repeat (first | refine qav ?_ _ | refine qaw ?_ | refine qak ?_ _)); exact BK388.out)) : gb388 ≠ gb389)); have n8_ := Aside0.mk ((by rw [hg]; exact Nat.ne_of_gt (qez (g := gb388) (o := .cells #[.int .i64 a0_0, .slice A0_1 l0_1.length c0_1, .string a0_2] 80 (0, 0)) (by (with_reducible repeat (first | refine qav ?_ _ | refine qaw ?_ | refine qak ?_ _)); exact BK388.out)) : gb389 ≠ gb388)); clear HO0_1; clear HO1_1; clear BK388; clear HB; have HO0_1 := n0_; have HO1_1 := n1_; have BK388 := n2_; have HB := n3_; have BK389 := n4_; have GW389 := n5_; have GE389 := n6_; have NB388_389 := n7_; have NB389_388 := n8_; clear n0_ n1_ n2_ n3_ n4_ n5_ n6_ n7_ n8_; clear hb hbox hg) | ((with_reducible refine qcv (N := 5) rfl ?_); (try (refine qfz (by rfl) ?_; dsimp only)); refine qcw ?hg (N := 5) ?hd (cs := #[.int .u8 a2_0, .slice A2_1 l2_1.length c2_1]) (t := 56) ?hr ?_; (case hd => rfl); (case hg => rfl); (case hr => first | (go_simp; done) | (go_simp; rfl)); intro gb390 hg w9 hbox hb; have n0_ := Aside0.mk (Kd.V_below (Kd.V_elderB (by (with_reducible repeat (first | apply Kd.V_alloc | apply Kd.V_drewN | apply Kd.V_drew)); exact HO0_1.out) gb390 (Nat.le_of_eq hg.symm)) hb); have n1_ := Aside0.mk (Kd.V_below (Kd.V_elderB (by (with_reducible repeat (first | apply Kd.V_alloc | apply Kd.V_drewN | apply Kd.V_drew)); exact HO1_1.out) gb390 (Nat.le_of_eq hg.symm)) hb); have n2_ := Aside0.mk (qcx (g := gb388) (o := .cells #[.int .i64 a0_0, .slice A0_1 l0_1.length c0_1, .string a0_2] 80 (0, 0)) (by (with_reducible repeat (first | refine qav ?_ _ | refine qaw ?_ | refine qak ?_ _)); exact BK388.out) hb); have n3_ := Aside0.mk (qcx (g := gb389) (o := .cells #[.int .i64 a1_0, .slice A1_1 l1_1.length c1_1, .string a1_2] 80 (0, 0)) (by (with_reducible repeat (first | refine qav ?_ _ | refine qaw ?_ | refine qak ?_ _)); exact BK389.out) hb); have n4_ := Aside0.mk (qbj (by repeat (first | (with_reducible first | exact HB.out | apply qax | apply qaq | apply qaz | refine qaj ?_ GE388.out | refine qaj ?_ GE389.out) | exact HB.out)) hb); have n5_ := Aside0.mk (hbox); have n6_ := Aside0.mk ((by rw [hg]; exact (qbx (by repeat (first | (with_reducible first | exact HB.out | apply qax | apply qaq | apply qaz | refine qaj ?_ GE388.out | refine qaj ?_ GE389.out) | exact HB.out))) : w.heap.size ≤ gb390)); have n7_ := Aside0.mk ((by rw [hg]; exact (qbx (by repeat (first | (with_reducible first | exact HB.out | apply qax | apply qaq | apply qaz | refine qaj ?_ GE388.out | refine qaj ?_ GE389.out) | exact HB.out))) : w.heap.size ≤ gb390)); have n8_ := Aside0.mk ((by rw [hg]; exact Nat.ne_of_lt (qez (g := gb388) (o := .cells #[.int .i64 a0_0, .slice A0_1 l0_1.length c0_1, .string a0_2] 80 (0, 0)) (by (with_reducible repeat (first | refine qav ?_ _ | refine qaw ?_ | refine qak ?_ _)); exact BK388.out)) : gb388 ≠ gb390)); have n9_ := Aside0.mk ((by rw [hg]; exact Nat.ne_of_gt (qez (g := gb388) (o := .cells #[.int .i64 a0_0, .slice A0_1 l0_1.length c0_1, .string a0_2] 80 (0, 0)) (by (with_reducible repeat (first | refine qav ?_ _ | refine qaw ?_ | refine qak ?_ _)); exact BK388.out)) : gb390 ≠ gb388)); have n10_ := Aside0.mk ((by rw [hg]; exact Nat.ne_of_lt (qez (g := gb389) (o := .cells #[.int .i64 a1_0, .slice A1_1 l1_1.length c1_1, .string a1_2] 80 (0, 0)) (by (with_reducible repeat (first | refine qav ?_ _ | refine qaw ?_ | refine qak ?_ _)); exact BK389.out)) : gb389 ≠ gb390)); have n11_ := Aside0.mk ((by rw [hg]; exact Nat.ne_of_gt (qez (g := gb389) (o := .cells #[.int .i64 a1_0, .slice A1_1 l1_1.length c1_1, .string a1_2] 80 (0, 0)) (by (with_reducible repeat (first | refine qav ?_ _ | refine qaw ?_ | refine qak ?_ _)); exact BK389.out)) : gb390 ≠ gb389)); clear HO0_1; clear HO1_1; clear BK388; clear BK389; clear HB; have HO0_1 := n0_; have HO1_1 := n1_; have BK388 := n2_; have BK389 := n3_; have HB := n4_; have BK390 := n5_; have GW390 := n6_; have GE390 := n7_; have NB388_390 := n8_; have NB390_388 := n9_; have NB389_390 := n10_; have NB390_389 := n11_; clear n0_ n1_ n2_ n3_ n4_ n5_ n6_ n7_ n8_ n9_ n10_ n11_; clear hb hbox hg) | ((with_reducible refine qdq (f := 54) rfl ?_); refine qew (some 15) rfl rfl Try.func54 (by kernel_rfl) rfl #[] rfl (by (try simp only [List.map_toArray, List.map_cons, List.map_nil]); first | done | rfl | (simp only [List.length_drop, List.length_take]; rfl)) ?_; (with_reducible refine (tumbrellaw05_awake.calls k  true _ A4.out).mono ?_); rintro e w10 ⟨rfl, hb⟩; refine ⟨_, rfl, ?_⟩; have n0_ := Aside0.mk (Kd.V_below (by (with_reducible repeat (first | apply Kd.V_alloc | apply Kd.V_drewN | apply Kd.V_drew)); exact HO0_1.out) hb); have n1_ := Aside0.mk (Kd.V_below (by (with_reducible repeat (first | apply Kd.V_alloc | apply Kd.V_drewN | apply Kd.V_drew)); exact HO1_1.out) hb); have n2_ := Aside0.mk (qcx (g := gb388) (o := .cells #[.int .i64 a0_0, .slice A0_1 l0_1.length c0_1, .string a0_2] 80 (0, 0)) (by (with_reducible repeat (first | refine qav ?_ _ | refine qaw ?_ | refine qak ?_ _)); exact BK388.out) hb); have n3_ := Aside0.mk (qcx (g := gb389) (o := .cells #[.int .i64 a1_0, .slice A1_1 l1_1.length c1_1, .string a1_2] 80 (0, 0)) (by (with_reducible repeat (first | refine qav ?_ _ | refine qaw ?_ | refine qak ?_ _)); exact BK389.out) hb); have n4_ := Aside0.mk (qcx (g := gb390) (o := .cells #[.int .u8 a2_0, .slice A2_1 l2_1.length c2_1] 56 (0, 0)) (by (with_reducible repeat (first | refine qav ?_ _ | refine qaw ?_ | refine qak ?_ _)); exact BK390.out) hb); have n5_ := Aside0.mk (qbj (by repeat (first | (with_reducible first | exact HB.out | apply qax | apply qaq | apply qaz | refine qaj ?_ GE388.out | refine qaj ?_ GE389.out | refine qaj ?_ GE390.out) | exact HB.out)) hb); clear HO0_1; clear HO1_1; clear BK388; clear BK389; clear BK390; clear HB; have HO0_1 := n0_; have HO1_1 := n1_; have BK388 := n2_; have BK389 := n3_; have BK390 := n4_; have HB := n5_; clear n0_ n1_ n2_ n3_ n4_ n5_; (try clear hb); (try clear hb2); (try clear hk); (try clear hi)))
  (try simp only [Act.put, List.setIfInBounds_toArray, List.set_cons_zero, List.set_cons_succ])
  go_cut [28] (fun v28 wc => ∃ (kq : Nat) (x28_5 : Bool), v28 = .bool x28_5 ∧ Aside0 (tumbrellaw05_RecordTells.j0 kq x28_5 a0_0 l0_1 a0_2 a1_0 l1_1 a1_2 a2_0 l2_1 = some r) ∧ Aside0 (kq ≤ k) ∧ Aside0 (Kd.V (Kd.int .u64) 22 wc w.heap.size (fun k_ => ((P0_1_ k_ ∨ P1_1_ k_) ∨ w.heap.size ≤ k_) ∧ k_ ≠ gb388 ∧ k_ ≠ gb389 ∧ k_ ≠ gb390) (.slice A0_1 l0_1.length c0_1) l0_1) ∧ Aside0 (Kd.V (Kd.int .u64) 22 wc w.heap.size (fun k_ => ((P0_1_ k_ ∨ P1_1_ k_) ∨ w.heap.size ≤ k_) ∧ k_ ≠ gb388 ∧ k_ ≠ gb389 ∧ k_ ≠ gb390) (.slice A1_1 l1_1.length c1_1) l1_1) ∧ Aside0 (wc.heap[gb388]? = some (.cells #[.int .i64 a0_0, (.slice A0_1 l0_1.length c0_1), .string a0_2] 80 (0, 0))) ∧ Aside0 (wc.heap[gb389]? = some (.cells #[.int .i64 a1_0, (.slice A1_1 l1_1.length c1_1), .string a1_2] 80 (0, 0))) ∧ Aside0 (wc.heap[gb390]? = some (.cells #[.int .u8 a2_0, (.slice A2_1 l2_1.length c2_1)] 56 (0, 0))) ∧ Aside0 (Below w.heap.size w wc))
  case first =>
   have H := HC6.out
   clear HC6
   replace H := Option.bind_eq_some_iff.mp H
   obtain ⟨t392, A110, H⟩ := H
   replace H : (if t392 = true then (tumbrellaw05_RecordTells.j0 k true a0_0 l0_1 a0_2 a1_0 l1_1 a1_2 a2_0 l2_1) else ((tumbrelref05_Large.f a1_0 l1_1 a1_2).bind fun t393 => (if t393 = true then (tumbrellaw05_RecordTells.j0 k true a0_0 l0_1 a0_2 a1_0 l1_1 a1_2 a2_0 l2_1) else (tumbrellaw05_RecordTells.j0 k (decide ((l2_1.length : Int) > 1200)) a0_0 l0_1 a0_2 a1_0 l1_1 a1_2 a2_0 l2_1)))) = some r := H
   have A11 := Aside0.mk A110
   clear A110
   by_cases c12 : t392 = true
   ·subst c12
    have H1 : (tumbrellaw05_RecordTells.j0 k true a0_0 l0_1 a0_2 a1_0 l1_1 a1_2 a2_0 l2_1) = some r := by rw [if_pos rfl] at H; exact H
    clear H
    have H := H1
    clear H1
    have H' := Aside0.mk H
    clear H
    have hnb13 := NB388_389.out
    have hnc13 := NB389_388.out
    have hnb14 := NB388_390.out
    have hnc14 := NB390_388.out
    have hcz15_0 : w10.cell? ⟨gb388, 0, none⟩ = some (.int .i64 a0_0) := (qbq BK388.out 0).trans rfl
    have hcz15_1 : w10.cell? ⟨gb388, 1, none⟩ = some (.slice A0_1 l0_1.length c0_1) := (qbq BK388.out 1).trans rfl
    have hcz15_2 : w10.cell? ⟨gb388, 2, none⟩ = some (.string a0_2) := (qbq BK388.out 2).trans rfl
    have hfz15_0 := qbz BK388.out 0
    have hfz15_1 := qbz BK388.out 1
    have hfz15_2 := qbz BK388.out 2
    go_wp2_with (first | ((with_reducible refine qdq (f := 55) rfl ?_); refine qew (some 18) rfl rfl Try.func55 (by kernel_rfl) rfl #[.agg #[.int .i64 a0_0, .slice A0_1 l0_1.length c0_1, .string a0_2]] rfl (by (try simp only [List.map_toArray, List.map_cons, List.map_nil]); first | done | rfl | (simp only [List.length_drop, List.length_take]; rfl)) ?_; (with_reducible refine (tumbrelref05_Large.calls a0_0 _ _ l0_1 a0_2 true _ ?side1 ?side2 A11.out).mono ?_); (case side1 => repeat (first | exact (Kd.V_reads' HO0_1.out).2.2 | (with_reducible refine Kd.C_alloc ?_ _) | (with_reducible refine Kd.C_drewN ?_ _) | (with_reducible refine Kd.C_drew ?_))); (case side2 => exact (Kd.V_reads' HO0_1.out).2.1); rintro e w16 ⟨rfl, hb⟩; refine ⟨_, rfl, ?_⟩; have n0_ := Aside0.mk (Kd.V_below (by (with_reducible repeat (first | apply Kd.V_alloc | apply Kd.V_drewN | apply Kd.V_drew)); exact HO0_1.out) hb); have n1_ := Aside0.mk (Kd.V_below (by (with_reducible repeat (first | apply Kd.V_alloc | apply Kd.V_drewN | apply Kd.V_drew)); exact HO1_1.out) hb); have n2_ := Aside0.mk (qcx (g := gb388) (o := .cells #[.int .i64 a0_0, .slice A0_1 l0_1.length c0_1, .string a0_2] 80 (0, 0)) (by (with_reducible repeat (first | refine qav ?_ _ | refine qaw ?_ | refine qak ?_ _)); exact BK388.out) hb); have n3_ := Aside0.mk (qcx (g := gb389) (o := .cells #[.int .i64 a1_0, .slice A1_1 l1_1.length c1_1, .string a1_2] 80 (0, 0)) (by (with_reducible repeat (first | refine qav ?_ _ | refine qaw ?_ | refine qak ?_ _)); exact BK389.out) hb); have n4_ := Aside0.mk (qcx (g := gb390) (o := .cells #[.int .u8 a2_0, .slice A2_1 l2_1.length c2_1] 56 (0, 0)) (by (with_reducible repeat (first | refine qav ?_ _ | refine qaw ?_ | refine qak ?_ _)); exact BK390.out) hb); have n5_ := Aside0.mk (qbj (by repeat (first | (with_reducible first | exact HB.out | apply qax | apply qaq | apply qaz | refine qaj ?_ GE388.out | refine qaj ?_ GE389.out | refine qaj ?_ GE390.out) | exact HB.out)) hb); clear HO0_1; clear HO1_1; clear BK388; clear BK389; clear BK390; clear HB; have HO0_1 := n0_; have HO1_1 := n1_; have BK388 := n2_; have BK389 := n3_; have BK390 := n4_; have HB := n5_; clear n0_ n1_ n2_ n3_ n4_ n5_; (try clear hb); (try clear hb2); (try clear hk); (try clear hi)))
    go_meet
    case rel => exact ⟨_, (true), (by first | rfl | (simp; done) | (simp [*]; done)), H', ⟨by first | omega | exact Nat.le_refl _⟩, ⟨by (with_reducible repeat (first | apply Kd.V_alloc | apply Kd.V_drewN | apply Kd.V_drew)); exact Kd.V_mono HO0_1.out (fun _ hk => ⟨hk.1.1.1, ⟨hk.1.1.2, ⟨hk.1.2, hk.2⟩⟩⟩)⟩, ⟨by (with_reducible repeat (first | apply Kd.V_alloc | apply Kd.V_drewN | apply Kd.V_drew)); exact Kd.V_mono HO1_1.out (fun _ hk => ⟨hk.1.1.1, ⟨hk.1.1.2, ⟨hk.1.2, hk.2⟩⟩⟩)⟩, ⟨by (with_reducible repeat (first | refine qav ?_ _ | refine qaw ?_ | refine qak ?_ _)); exact BK388.out⟩, ⟨by (with_reducible repeat (first | refine qav ?_ _ | refine qaw ?_ | refine qak ?_ _)); exact BK389.out⟩, ⟨by (with_reducible repeat (first | refine qav ?_ _ | refine qaw ?_ | refine qak ?_ _)); exact BK390.out⟩, ⟨by repeat (first | (with_reducible first | exact HB.out | apply qax | apply qaq | apply qaz | refine qaj ?_ GE388.out | refine qaj ?_ GE389.out | refine qaj ?_ GE390.out) | exact HB.out)⟩⟩
   ·replace c12 := Bool.eq_false_iff.mpr c12
    subst c12
    have H1 : ((tumbrelref05_Large.f a1_0 l1_1 a1_2).bind fun t393 => (if t393 = true then (tumbrellaw05_RecordTells.j0 k true a0_0 l0_1 a0_2 a1_0 l1_1 a1_2 a2_0 l2_1) else (tumbrellaw05_RecordTells.j0 k (decide ((l2_1.length : Int) > 1200)) a0_0 l0_1 a0_2 a1_0 l1_1 a1_2 a2_0 l2_1))) = some r := by rw [if_neg (show ¬ (false = true) by decide)] at H; exact H
    clear H
    have H := H1
    clear H1
    replace H := Option.bind_eq_some_iff.mp H
    obtain ⟨t393, A170, H⟩ := H
    replace H : (if t393 = true then (tumbrellaw05_RecordTells.j0 k true a0_0 l0_1 a0_2 a1_0 l1_1 a1_2 a2_0 l2_1) else (tumbrellaw05_RecordTells.j0 k (decide ((l2_1.length : Int) > 1200)) a0_0 l0_1 a0_2 a1_0 l1_1 a1_2 a2_0 l2_1)) = some r := H
    have A17 := Aside0.mk A170
    clear A170
    by_cases c18 : t393 = true
    ·subst c18
     have H1 : (tumbrellaw05_RecordTells.j0 k true a0_0 l0_1 a0_2 a1_0 l1_1 a1_2 a2_0 l2_1) = some r := by rw [if_pos rfl] at H; exact H
     clear H
     have H := H1
     clear H1
     have H' := Aside0.mk H
     clear H
     have hnb19 := NB388_389.out
     have hnc19 := NB389_388.out
     have hnb20 := NB388_390.out
     have hnc20 := NB390_388.out
     have hcz21_0 : w10.cell? ⟨gb388, 0, none⟩ = some (.int .i64 a0_0) := (qbq BK388.out 0).trans rfl
     have hcz21_1 : w10.cell? ⟨gb388, 1, none⟩ = some (.slice A0_1 l0_1.length c0_1) := (qbq BK388.out 1).trans rfl
     have hcz21_2 : w10.cell? ⟨gb388, 2, none⟩ = some (.string a0_2) := (qbq BK388.out 2).trans rfl
     have hfz21_0 := qbz BK388.out 0
     have hfz21_1 := qbz BK388.out 1
     have hfz21_2 := qbz BK388.out 2
     go_wp2_with (first | ((with_reducible refine qdq (f := 55) rfl ?_); refine qew (some 18) rfl rfl Try.func55 (by kernel_rfl) rfl #[.agg #[.int .i64 a0_0, .slice A0_1 l0_1.length c0_1, .string a0_2]] rfl (by (try simp only [List.map_toArray, List.map_cons, List.map_nil]); first | done | rfl | (simp only [List.length_drop, List.length_take]; rfl)) ?_; (with_reducible refine (tumbrelref05_Large.calls a0_0 _ _ l0_1 a0_2 false _ ?side1 ?side2 A11.out).mono ?_); (case side1 => repeat (first | exact (Kd.V_reads' HO0_1.out).2.2 | (with_reducible refine Kd.C_alloc ?_ _) | (with_reducible refine Kd.C_drewN ?_ _) | (with_reducible refine Kd.C_drew ?_))); (case side2 => exact (Kd.V_reads' HO0_1.out).2.1); rintro e w22 ⟨rfl, hb⟩; refine ⟨_, rfl, ?_⟩; have n0_ := Aside0.mk (Kd.V_below (by (with_reducible repeat (first | apply Kd.V_alloc | apply Kd.V_drewN | apply Kd.V_drew)); exact HO0_1.out) hb); have n1_ := Aside0.mk (Kd.V_below (by (with_reducible repeat (first | apply Kd.V_alloc | apply Kd.V_drewN | apply Kd.V_drew)); exact HO1_1.out) hb); have n2_ := Aside0.mk (qcx (g := gb388) (o := .cells #[.int .i64 a0_0, .slice A0_1 l0_1.length c0_1, .string a0_2] 80 (0, 0)) (by (with_reducible repeat (first | refine qav ?_ _ | refine qaw ?_ | refine qak ?_ _)); exact BK388.out) hb); have n3_ := Aside0.mk (qcx (g := gb389) (o := .cells #[.int .i64 a1_0, .slice A1_1 l1_1.length c1_1, .string a1_2] 80 (0, 0)) (by (with_reducible repeat (first | refine qav ?_ _ | refine qaw ?_ | refine qak ?_ _)); exact BK389.out) hb); have n4_ := Aside0.mk (qcx (g := gb390) (o := .cells #[.int .u8 a2_0, .slice A2_1 l2_1.length c2_1] 56 (0, 0)) (by (with_reducible repeat (first | refine qav ?_ _ | refine qaw ?_ | refine qak ?_ _)); exact BK390.out) hb); have n5_ := Aside0.mk (qbj (by repeat (first | (with_reducible first | exact HB.out | apply qax | apply qaq | apply qaz | refine qaj ?_ GE388.out | refine qaj ?_ GE389.out | refine qaj ?_ GE390.out) | exact HB.out)) hb); clear HO0_1; clear HO1_1; clear BK388; clear BK389; clear BK390; clear HB; have HO0_1 := n0_; have HO1_1 := n1_; have BK388 := n2_; have BK389 := n3_; have BK390 := n4_; have HB := n5_; clear n0_ n1_ n2_ n3_ n4_ n5_; (try clear hb); (try clear hb2); (try clear hk); (try clear hi); have hnb23 := NB389_390.out; have hnc23 := NB390_389.out; have hcz24_0 : w22.cell? ⟨gb389, 0, none⟩ = some (.int .i64 a1_0) := (qbq BK389.out 0).trans rfl; have hcz24_1 : w22.cell? ⟨gb389, 1, none⟩ = some (.slice A1_1 l1_1.length c1_1) := (qbq BK389.out 1).trans rfl; have hcz24_2 : w22.cell? ⟨gb389, 2, none⟩ = some (.string a1_2) := (qbq BK389.out 2).trans rfl; have hfz24_0 := qbz BK389.out 0; have hfz24_1 := qbz BK389.out 1; have hfz24_2 := qbz BK389.out 2) | (go_at_call 55; (with_reducible refine (tumbrelref05_Large.calls a1_0 _ _ l1_1 a1_2 true _ ?side1 ?side2 A17.out).mono ?_); (case side1 => repeat (first | exact (Kd.V_reads' HO1_1.out).2.2 | (with_reducible refine Kd.C_alloc ?_ _) | (with_reducible refine Kd.C_drewN ?_ _) | (with_reducible refine Kd.C_drew ?_))); (case side2 => exact (Kd.V_reads' HO1_1.out).2.1); rintro e w25 ⟨rfl, hb⟩; have n0_ := Aside0.mk (Kd.V_below (by (with_reducible repeat (first | apply Kd.V_alloc | apply Kd.V_drewN | apply Kd.V_drew)); exact HO0_1.out) hb); have n1_ := Aside0.mk (Kd.V_below (by (with_reducible repeat (first | apply Kd.V_alloc | apply Kd.V_drewN | apply Kd.V_drew)); exact HO1_1.out) hb); have n2_ := Aside0.mk (qcx (g := gb388) (o := .cells #[.int .i64 a0_0, .slice A0_1 l0_1.length c0_1, .string a0_2] 80 (0, 0)) (by (with_reducible repeat (first | refine qav ?_ _ | refine qaw ?_ | refine qak ?_ _)); exact BK388.out) hb); have n3_ := Aside0.mk (qcx (g := gb389) (o := .cells #[.int .i64 a1_0, .slice A1_1 l1_1.length c1_1, .string a1_2] 80 (0, 0)) (by (with_reducible repeat (first | refine qav ?_ _ | refine qaw ?_ | refine qak ?_ _)); exact BK389.out) hb); have n4_ := Aside0.mk (qcx (g := gb390) (o := .cells #[.int .u8 a2_0, .slice A2_1 l2_1.length c2_1] 56 (0, 0)) (by (with_reducible repeat (first | refine qav ?_ _ | refine qaw ?_ | refine qak ?_ _)); exact BK390.out) hb); have n5_ := Aside0.mk (qbj (by repeat (first | (with_reducible first | exact HB.out | apply qax | apply qaq | apply qaz | refine qaj ?_ GE388.out | refine qaj ?_ GE389.out | refine qaj ?_ GE390.out) | exact HB.out)) hb); clear HO0_1; clear HO1_1; clear BK388; clear BK389; clear BK390; clear HB; have HO0_1 := n0_; have HO1_1 := n1_; have BK388 := n2_; have BK389 := n3_; have BK390 := n4_; have HB := n5_; clear n0_ n1_ n2_ n3_ n4_ n5_; (try clear hb); (try clear hb2); (try clear hk); (try clear hi)))
     go_meet
     case rel => exact ⟨_, (true), (by first | rfl | (simp; done) | (simp [*]; done)), H', ⟨by first | omega | exact Nat.le_refl _⟩, ⟨by (with_reducible repeat (first | apply Kd.V_alloc | apply Kd.V_drewN | apply Kd.V_drew)); exact Kd.V_mono HO0_1.out (fun _ hk => ⟨hk.1.1.1, ⟨hk.1.1.2, ⟨hk.1.2, hk.2⟩⟩⟩)⟩, ⟨by (with_reducible repeat (first | apply Kd.V_alloc | apply Kd.V_drewN | apply Kd.V_drew)); exact Kd.V_mono HO1_1.out (fun _ hk => ⟨hk.1.1.1, ⟨hk.1.1.2, ⟨hk.1.2, hk.2⟩⟩⟩)⟩, ⟨by (with_reducible repeat (first | refine qav ?_ _ | refine qaw ?_ | refine qak ?_ _)); exact BK388.out⟩, ⟨by (with_reducible repeat (first | refine qav ?_ _ | refine qaw ?_ | refine qak ?_ _)); exact BK389.out⟩, ⟨by (with_reducible repeat (first | refine qav ?_ _ | refine qaw ?_ | refine qak ?_ _)); exact BK390.out⟩, ⟨by repeat (first | (with_reducible first | exact HB.out | apply qax | apply qaq | apply qaz | refine qaj ?_ GE388.out | refine qaj ?_ GE389.out | refine qaj ?_ GE390.out) | exact HB.out)⟩⟩
    ·replace c18 := Bool.eq_false_iff.mpr c18
     subst c18
     have H1 : (tumbrellaw05_RecordTells.j0 k (decide ((l2_1.length : Int) > 1200)) a0_0 l0_1 a0_2 a1_0 l1_1 a1_2 a2_0 l2_1) = some r := by rw [if_neg (show ¬ (false = true) by decide)] at H; exact H
     clear H
     have H := H1
     clear H1
     have H' := Aside0.mk H
     clear H
     have hnb26 := NB388_389.out
     have hnc26 := NB389_388.out
     have hnb27 := NB388_390.out
     have hnc27 := NB390_388.out
     have hcz28_0 : w10.cell? ⟨gb388, 0, none⟩ = some (.int .i64 a0_0) := (qbq BK388.out 0).trans rfl
     have hcz28_1 : w10.cell? ⟨gb388, 1, none⟩ = some (.slice A0_1 l0_1.length c0_1) := (qbq BK388.out 1).trans rfl
     have hcz28_2 : w10.cell? ⟨gb388, 2, none⟩ = some (.string a0_2) := (qbq BK388.out 2).trans rfl
     have hfz28_0 := qbz BK388.out 0
     have hfz28_1 := qbz BK388.out 1
     have hfz28_2 := qbz BK388.out 2
     go_wp2_with (first | ((with_reducible refine qdq (f := 55) rfl ?_); refine qew (some 18) rfl rfl Try.func55 (by kernel_rfl) rfl #[.agg #[.int .i64 a0_0, .slice A0_1 l0_1.length c0_1, .string a0_2]] rfl (by (try simp only [List.map_toArray, List.map_cons, List.map_nil]); first | done | rfl | (simp only [List.length_drop, List.length_take]; rfl)) ?_; (with_reducible refine (tumbrelref05_Large.calls a0_0 _ _ l0_1 a0_2 false _ ?side1 ?side2 A11.out).mono ?_); (case side1 => repeat (first | exact (Kd.V_reads' HO0_1.out).2.2 | (with_reducible refine Kd.C_alloc ?_ _) | (with_reducible refine Kd.C_drewN ?_ _) | (with_reducible refine Kd.C_drew ?_))); (case side2 => exact (Kd.V_reads' HO0_1.out).2.1); rintro e w29 ⟨rfl, hb⟩; refine ⟨_, rfl, ?_⟩; have n0_ := Aside0.mk (Kd.V_below (by (with_reducible repeat (first | apply Kd.V_alloc | apply Kd.V_drewN | apply Kd.V_drew)); exact HO0_1.out) hb); have n1_ := Aside0.mk (Kd.V_below (by (with_reducible repeat (first | apply Kd.V_alloc | apply Kd.V_drewN | apply Kd.V_drew)); exact HO1_1.out) hb); have n2_ := Aside0.mk (qcx (g := gb388) (o := .cells #[.int .i64 a0_0, .slice A0_1 l0_1.length c0_1, .string a0_2] 80 (0, 0)) (by (with_reducible repeat (first | refine qav ?_ _ | refine qaw ?_ | refine qak ?_ _)); exact BK388.out) hb); have n3_ := Aside0.mk (qcx (g := gb389) (o := .cells #[.int .i64 a1_0, .slice A1_1 l1_1.length c1_1, .string a1_2] 80 (0, 0)) (by (with_reducible repeat (first | refine qav ?_ _ | refine qaw ?_ | refine qak ?_ _)); exact BK389.out) hb); have n4_ := Aside0.mk (qcx (g := gb390) (o := .cells #[.int .u8 a2_0, .slice A2_1 l2_1.length c2_1] 56 (0, 0)) (by (with_reducible repeat (first | refine qav ?_ _ | refine qaw ?_ | refine qak ?_ _)); exact BK390.out) hb); have n5_ := Aside0.mk (qbj (by repeat (first | (with_reducible first | exact HB.out | apply qax | apply qaq | apply qaz | refine qaj ?_ GE388.out | refine qaj ?_ GE389.out | refine qaj ?_ GE390.out) | exact HB.out)) hb); clear HO0_1; clear HO1_1; clear BK388; clear BK389; clear BK390; clear HB; have HO0_1 := n0_; have HO1_1 := n1_; have BK388 := n2_; have BK389 := n3_; have BK390 := n4_; have HB := n5_; clear n0_ n1_ n2_ n3_ n4_ n5_; (try clear hb); (try clear hb2); (try clear hk); (try clear hi); have hnb30 := NB389_390.out; have hnc30 := NB390_389.out; have hcz31_0 : w29.cell? ⟨gb389, 0, none⟩ = some (.int .i64 a1_0) := (qbq BK389.out 0).trans rfl; have hcz31_1 : w29.cell? ⟨gb389, 1, none⟩ = some (.slice A1_1 l1_1.length c1_1) := (qbq BK389.out 1).trans rfl; have hcz31_2 : w29.cell? ⟨gb389, 2, none⟩ = some (.string a1_2) := (qbq BK389.out 2).trans rfl; have hfz31_0 := qbz BK389.out 0; have hfz31_1 := qbz BK389.out 1; have hfz31_2 := qbz BK389.out 2) | (go_at_call 55; (with_reducible refine (tumbrelref05_Large.calls a1_0 _ _ l1_1 a1_2 false _ ?side1 ?side2 A17.out).mono ?_); (case side1 => repeat (first | exact (Kd.V_reads' HO1_1.out).2.2 | (with_reducible refine Kd.C_alloc ?_ _) | (with_reducible refine Kd.C_drewN ?_ _) | (with_reducible refine Kd.C_drew ?_))); (case side2 => exact (Kd.V_reads' HO1_1.out).2.1); rintro e w32 ⟨rfl, hb⟩; have n0_ := Aside0.mk (Kd.V_below (by (with_reducible repeat (first | apply Kd.V_alloc | apply Kd.V_drewN | apply Kd.V_drew)); exact HO0_1.out) hb); have n1_ := Aside0.mk (Kd.V_below (by (with_reducible repeat (first | apply Kd.V_alloc | apply Kd.V_drewN | apply Kd.V_drew)); exact HO1_1.out) hb); have n2_ := Aside0.mk (qcx (g := gb388) (o := .cells #[.int .i64 a0_0, .slice A0_1 l0_1.length c0_1, .string a0_2] 80 (0, 0)) (by (with_reducible repeat (first | refine qav ?_ _ | refine qaw ?_ | refine qak ?_ _)); exact BK388.out) hb); have n3_ := Aside0.mk (qcx (g := gb389) (o := .cells #[.int .i64 a1_0, .slice A1_1 l1_1.length c1_1, .string a1_2] 80 (0, 0)) (by (with_reducible repeat (first | refine qav ?_ _ | refine qaw ?_ | refine qak ?_ _)); exact BK389.out) hb); have n4_ := Aside0.mk (qcx (g := gb390) (o := .cells #[.int .u8 a2_0, .slice A2_1 l2_1.length c2_1] 56 (0, 0)) (by (with_reducible repeat (first | refine qav ?_ _ | refine qaw ?_ | refine qak ?_ _)); exact BK390.out) hb); have n5_ := Aside0.mk (qbj (by repeat (first | (with_reducible first | exact HB.out | apply qax | apply qaq | apply qaz | refine qaj ?_ GE388.out | refine qaj ?_ GE389.out | refine qaj ?_ GE390.out) | exact HB.out)) hb); clear HO0_1; clear HO1_1; clear BK388; clear BK389; clear BK390; clear HB; have HO0_1 := n0_; have HO1_1 := n1_; have BK388 := n2_; have BK389 := n3_; have BK390 := n4_; have HB := n5_; clear n0_ n1_ n2_ n3_ n4_ n5_; (try clear hb); (try clear hb2); (try clear hk); (try clear hi); have hcz33_0 : w32.cell? ⟨gb390, 0, none⟩ = some (.int .u8 a2_0) := (qbq BK390.out 0).trans rfl; have hcz33_1 : w32.cell? ⟨gb390, 1, none⟩ = some (.slice A2_1 l2_1.length c2_1) := (qbq BK390.out 1).trans rfl; have hfz33_0 := qbz BK390.out 0; have hfz33_1 := qbz BK390.out 1))
     go_meet
     case rel => exact ⟨_, (decide ((l2_1.length : Int) > 1200)), (by first | rfl | (simp; done) | (simp [*]; done)), H', ⟨by first | omega | exact Nat.le_refl _⟩, ⟨by (with_reducible repeat (first | apply Kd.V_alloc | apply Kd.V_drewN | apply Kd.V_drew)); exact Kd.V_mono HO0_1.out (fun _ hk => ⟨hk.1.1.1, ⟨hk.1.1.2, ⟨hk.1.2, hk.2⟩⟩⟩)⟩, ⟨by (with_reducible repeat (first | apply Kd.V_alloc | apply Kd.V_drewN | apply Kd.V_drew)); exact Kd.V_mono HO1_1.out (fun _ hk => ⟨hk.1.1.1, ⟨hk.1.1.2, ⟨hk.1.2, hk.2⟩⟩⟩)⟩, ⟨by (with_reducible repeat (first | refine qav ?_ _ | refine qaw ?_ | refine qak ?_ _)); exact BK388.out⟩, ⟨by (with_reducible repeat (first | refine qav ?_ _ | refine qaw ?_ | refine qak ?_ _)); exact BK389.out⟩, ⟨by (with_reducible repeat (first | refine qav ?_ _ | refine qaw ?_ | refine qak ?_ _)); exact BK390.out⟩, ⟨by repeat (first | (with_reducible first | exact HB.out | apply qax | apply qaq | apply qaz | refine qaj ?_ GE388.out | refine qaj ?_ GE389.out | refine qaj ?_ GE390.out) | exact HB.out)⟩⟩
  case rest =>
   clear HC6
   try clear c1
   try clear c2
   try clear p2
   try clear c3
   try clear c5
   try clear c12
   try clear c13
   try clear c14
   try clear c16
   try clear c18
   try clear c19
   try clear c20
   try clear c23
   try clear c26
   try clear c27
   try clear c30
   try clear hcz15_0
   try clear hcz15_1
   try clear hcz15_2
   try clear hcz21_0
   try clear hcz21_1
   try clear hcz21_2
   try clear hcz24_0
   try clear hcz24_1
   try clear hcz24_2
   try clear hcz28_0
   try clear hcz28_1
   try clear hcz28_2
   try clear hcz31_0
   try clear hcz31_1
   try clear hcz31_2
   try clear hcz33_0
   try clear hcz33_1
   try clear hfz15_0
   try clear hfz15_1
   try clear hfz15_2
   try clear hfz21_0
   try clear hfz21_1
   try clear hfz21_2
   try clear hfz24_0
   try clear hfz24_1
   try clear hfz24_2
   try clear hfz28_0
   try clear hfz28_1
   try clear hfz28_2
   try clear hfz31_0
   try clear hfz31_1
   try clear hfz31_2
   try clear hfz33_0
   try clear hfz33_1
   obtain ⟨kq, x28_5, rfl, HA, HJ5, HO_389001, HO_390001, BK388, BK389, BK390, HB⟩ := hcut
   cases kq with
   | zero => exact absurd HA.out (by simp [tumbrellaw05_RecordTells.j0])
   | succ kj5 =>
    have H := HA.out
    clear HA
    simp only [tumbrellaw05_RecordTells.j0] at H
    by_cases c34 : x28_5 = true
    ·subst c34
     have H1 : (some true) = some r := by rw [if_pos rfl] at H; exact H
     clear H
     have H := H1
     clear H1
     obtain rfl := Option.some.inj H
     go_wp2
     go_ret
     exact ⟨by first | rfl | (simp [qcq, qcz] <;> rfl) | (simp [*, qcq, qcz] <;> rfl), by repeat (first | (with_reducible first | exact HB.out | apply qax | apply qaq | apply qaz | refine qaj ?_ GE388.out | refine qaj ?_ GE389.out | refine qaj ?_ GE390.out) | exact HB.out)⟩
    ·replace c34 := Bool.eq_false_iff.mpr c34
     subst c34
     have H1 : ((record_Bytes.f kj5 a0_0 l0_1 a0_2).bind fun bt394 => ((tumbrelref05_Bytes.f kj5 a0_0 l0_1 a0_2).bind fun bt398 => ((record_Read.f kj5 a2_0 l2_1).bind fun bt402 => ((tumbrelref05_Read.f kj5 a2_0 l2_1).bind fun bt409 => ((record_Right.f a0_0 l0_1 a0_2).bind fun t416 => ((tumbrelref05_Right.f a0_0 l0_1 a0_2).bind fun t417 => (if (t416 == t417) = true then ((tumbrelref01_Same.f kj5 bt394.1 bt398.1).bind fun t418 => (if t418 = true then (if bt394.2 = bt398.2 then ((tumbrellaw05_own.f kj5 (([(⟨bt402.1, bt402.2.1, bt402.2.2.1⟩ : S80)] : List (S80)))).bind fun t422 => ((tumbrelref05_Same.f kj5 t422 (([(⟨bt409.1, bt409.2.1, bt409.2.2.1⟩ : S82)] : List (S82)))).bind fun t428 => (if t428 = true then (if bt402.2.2.2 = bt409.2.2.2 then ((record_Same.f kj5 a0_0 l0_1 a0_2 a1_0 l1_1 a1_2).bind fun t429 => ((tumbrellaw05_own.f kj5 (([(⟨a0_0, l0_1, a0_2⟩ : S80)] : List (S80)))).bind fun t433 => ((tumbrellaw05_own.f kj5 (([(⟨a1_0, l1_1, a1_2⟩ : S80)] : List (S80)))).bind fun t439 => ((tumbrelref05_Same.f kj5 t433 t439).bind fun t442 => (some (t429 == t442)))))) else (some false)) else (some false)))) else (some false)) else (some false))) else (some false)))))))) = some r := by rw [if_neg (show ¬ (false = true) by decide)] at H; exact H
     clear H
     have H := H1
     clear H1
     replace H := Option.bind_eq_some_iff.mp H
     obtain ⟨⟨t394, t397⟩, A350, H⟩ := H
     replace H : ((tumbrelref05_Bytes.f kj5 a0_0 l0_1 a0_2).bind fun bt398 => ((record_Read.f kj5 a2_0 l2_1).bind fun bt402 => ((tumbrelref05_Read.f kj5 a2_0 l2_1).bind fun bt409 => ((record_Right.f a0_0 l0_1 a0_2).bind fun t416 => ((tumbrelref05_Right.f a0_0 l0_1 a0_2).bind fun t417 => (if (t416 == t417) = true then ((tumbrelref01_Same.f kj5 t394 bt398.1).bind fun t418 => (if t418 = true then (if t397 = bt398.2 then ((tumbrellaw05_own.f kj5 (([(⟨bt402.1, bt402.2.1, bt402.2.2.1⟩ : S80)] : List (S80)))).bind fun t422 => ((tumbrelref05_Same.f kj5 t422 (([(⟨bt409.1, bt409.2.1, bt409.2.2.1⟩ : S82)] : List (S82)))).bind fun t428 => (if t428 = true then (if bt402.2.2.2 = bt409.2.2.2 then ((record_Same.f kj5 a0_0 l0_1 a0_2 a1_0 l1_1 a1_2).bind fun t429 => ((tumbrellaw05_own.f kj5 (([(⟨a0_0, l0_1, a0_2⟩ : S80)] : List (S80)))).bind fun t433 => ((tumbrellaw05_own.f kj5 (([(⟨a1_0, l1_1, a1_2⟩ : S80)] : List (S80)))).bind fun t439 => ((tumbrelref05_Same.f kj5 t433 t439).bind fun t442 => (some (t429 == t442)))))) else (some false)) else (some false)))) else (some false)) else (some false))) else (some false))))))) = some r := H
     have A35 := Aside0.mk A350
     clear A350
     replace H := Option.bind_eq_some_iff.mp H
     obtain ⟨⟨t398, t401⟩, A360, H⟩ := H
     replace H : ((record_Read.f kj5 a2_0 l2_1).bind fun bt402 => ((tumbrelref05_Read.f kj5 a2_0 l2_1).bind fun bt409 => ((record_Right.f a0_0 l0_1 a0_2).bind fun t416 => ((tumbrelref05_Right.f a0_0 l0_1 a0_2).bind fun t417 => (if (t416 == t417) = true then ((tumbrelref01_Same.f kj5 t394 t398).bind fun t418 => (if t418 = true then (if t397 = t401 then ((tumbrellaw05_own.f kj5 (([(⟨bt402.1, bt402.2.1, bt402.2.2.1⟩ : S80)] : List (S80)))).bind fun t422 => ((tumbrelref05_Same.f kj5 t422 (([(⟨bt409.1, bt409.2.1, bt409.2.2.1⟩ : S82)] : List (S82)))).bind fun t428 => (if t428 = true then (if bt402.2.2.2 = bt409.2.2.2 then ((record_Same.f kj5 a0_0 l0_1 a0_2 a1_0 l1_1 a1_2).bind fun t429 => ((tumbrellaw05_own.f kj5 (([(⟨a0_0, l0_1, a0_2⟩ : S80)] : List (S80)))).bind fun t433 => ((tumbrellaw05_own.f kj5 (([(⟨a1_0, l1_1, a1_2⟩ : S80)] : List (S80)))).bind fun t439 => ((tumbrelref05_Same.f kj5 t433 t439).bind fun t442 => (some (t429 == t442)))))) else (some false)) else (some false)))) else (some false)) else (some false))) else (some false)))))) = some r := H
     have A36 := Aside0.mk A360
     clear A360
     replace H := Option.bind_eq_some_iff.mp H
     obtain ⟨⟨t402, t403, t406, t407⟩, A370, H⟩ := H
     replace H : ((tumbrelref05_Read.f kj5 a2_0 l2_1).bind fun bt409 => ((record_Right.f a0_0 l0_1 a0_2).bind fun t416 => ((tumbrelref05_Right.f a0_0 l0_1 a0_2).bind fun t417 => (if (t416 == t417) = true then ((tumbrelref01_Same.f kj5 t394 t398).bind fun t418 => (if t418 = true then (if t397 = t401 then ((tumbrellaw05_own.f kj5 (([(⟨t402, t403, t406⟩ : S80)] : List (S80)))).bind fun t422 => ((tumbrelref05_Same.f kj5 t422 (([(⟨bt409.1, bt409.2.1, bt409.2.2.1⟩ : S82)] : List (S82)))).bind fun t428 => (if t428 = true then (if t407 = bt409.2.2.2 then ((record_Same.f kj5 a0_0 l0_1 a0_2 a1_0 l1_1 a1_2).bind fun t429 => ((tumbrellaw05_own.f kj5 (([(⟨a0_0, l0_1, a0_2⟩ : S80)] : List (S80)))).bind fun t433 => ((tumbrellaw05_own.f kj5 (([(⟨a1_0, l1_1, a1_2⟩ : S80)] : List (S80)))).bind fun t439 => ((tumbrelref05_Same.f kj5 t433 t439).bind fun t442 => (some (t429 == t442)))))) else (some false)) else (some false)))) else (some false)) else (some false))) else (some false))))) = some r := H
     have A37 := Aside0.mk A370
     clear A370
     replace H := Option.bind_eq_some_iff.mp H
     obtain ⟨⟨t409, t410, t413, t414⟩, A380, H⟩ := H
     replace H : ((record_Right.f a0_0 l0_1 a0_2).bind fun t416 => ((tumbrelref05_Right.f a0_0 l0_1 a0_2).bind fun t417 => (if (t416 == t417) = true then ((tumbrelref01_Same.f kj5 t394 t398).bind fun t418 => (if t418 = true then (if t397 = t401 then ((tumbrellaw05_own.f kj5 (([(⟨t402, t403, t406⟩ : S80)] : List (S80)))).bind fun t422 => ((tumbrelref05_Same.f kj5 t422 (([(⟨t409, t410, t413⟩ : S82)] : List (S82)))).bind fun t428 => (if t428 = true then (if t407 = t414 then ((record_Same.f kj5 a0_0 l0_1 a0_2 a1_0 l1_1 a1_2).bind fun t429 => ((tumbrellaw05_own.f kj5 (([(⟨a0_0, l0_1, a0_2⟩ : S80)] : List (S80)))).bind fun t433 => ((tumbrellaw05_own.f kj5 (([(⟨a1_0, l1_1, a1_2⟩ : S80)] : List (S80)))).bind fun t439 => ((tumbrelref05_Same.f kj5 t433 t439).bind fun t442 => (some (t429 == t442)))))) else (some false)) else (some false)))) else (some false)) else (some false))) else (some false)))) = some r := H
     have A38 := Aside0.mk A380
     clear A380
     replace H := Option.bind_eq_some_iff.mp H
     obtain ⟨t416, A390, H⟩ := H
     replace H : ((tumbrelref05_Right.f a0_0 l0_1 a0_2).bind fun t417 => (if (t416 == t417) = true then ((tumbrelref01_Same.f kj5 t394 t398).bind fun t418 => (if t418 = true then (if t397 = t401 then ((tumbrellaw05_own.f kj5 (([(⟨t402, t403, t406⟩ : S80)] : List (S80)))).bind fun t422 => ((tumbrelref05_Same.f kj5 t422 (([(⟨t409, t410, t413⟩ : S82)] : List (S82)))).bind fun t428 => (if t428 = true then (if t407 = t414 then ((record_Same.f kj5 a0_0 l0_1 a0_2 a1_0 l1_1 a1_2).bind fun t429 => ((tumbrellaw05_own.f kj5 (([(⟨a0_0, l0_1, a0_2⟩ : S80)] : List (S80)))).bind fun t433 => ((tumbrellaw05_own.f kj5 (([(⟨a1_0, l1_1, a1_2⟩ : S80)] : List (S80)))).bind fun t439 => ((tumbrelref05_Same.f kj5 t433 t439).bind fun t442 => (some (t429 == t442)))))) else (some false)) else (some false)))) else (some false)) else (some false))) else (some false))) = some r := H
     have A39 := Aside0.mk A390
     clear A390
     replace H := Option.bind_eq_some_iff.mp H
     obtain ⟨t417, A400, H⟩ := H
     replace H : (if (t416 == t417) = true then ((tumbrelref01_Same.f kj5 t394 t398).bind fun t418 => (if t418 = true then (if t397 = t401 then ((tumbrellaw05_own.f kj5 (([(⟨t402, t403, t406⟩ : S80)] : List (S80)))).bind fun t422 => ((tumbrelref05_Same.f kj5 t422 (([(⟨t409, t410, t413⟩ : S82)] : List (S82)))).bind fun t428 => (if t428 = true then (if t407 = t414 then ((record_Same.f kj5 a0_0 l0_1 a0_2 a1_0 l1_1 a1_2).bind fun t429 => ((tumbrellaw05_own.f kj5 (([(⟨a0_0, l0_1, a0_2⟩ : S80)] : List (S80)))).bind fun t433 => ((tumbrellaw05_own.f kj5 (([(⟨a1_0, l1_1, a1_2⟩ : S80)] : List (S80)))).bind fun t439 => ((tumbrelref05_Same.f kj5 t433 t439).bind fun t442 => (some (t429 == t442)))))) else (some false)) else (some false)))) else (some false)) else (some false))) else (some false)) = some r := H
     have A40 := Aside0.mk A400
     clear A400
     by_cases c41 : (t416 == t417) = true
     ·rw [if_pos c41] at H
      have c41b0 : (t416 == t417) = true := c41
      (try (have c41b1 : decide (t416 = t417) = true := by simpa using c41))
      (try (have c41b2 : (t416 == t417) = true := by simpa using c41))
      clear c41
      replace H := Option.bind_eq_some_iff.mp H
      obtain ⟨t418, A420, H⟩ := H
      replace H : (if t418 = true then (if t397 = t401 then ((tumbrellaw05_own.f kj5 (([(⟨t402, t403, t406⟩ : S80)] : List (S80)))).bind fun t422 => ((tumbrelref05_Same.f kj5 t422 (([(⟨t409, t410, t413⟩ : S82)] : List (S82)))).bind fun t428 => (if t428 = true then (if t407 = t414 then ((record_Same.f kj5 a0_0 l0_1 a0_2 a1_0 l1_1 a1_2).bind fun t429 => ((tumbrellaw05_own.f kj5 (([(⟨a0_0, l0_1, a0_2⟩ : S80)] : List (S80)))).bind fun t433 => ((tumbrellaw05_own.f kj5 (([(⟨a1_0, l1_1, a1_2⟩ : S80)] : List (S80)))).bind fun t439 => ((tumbrelref05_Same.f kj5 t433 t439).bind fun t442 => (some (t429 == t442)))))) else (some false)) else (some false)))) else (some false)) else (some false)) = some r := H
      have A42 := Aside0.mk A420
      clear A420
      by_cases c43 : t418 = true
      ·subst c43
       have H1 : (if t397 = t401 then ((tumbrellaw05_own.f kj5 (([(⟨t402, t403, t406⟩ : S80)] : List (S80)))).bind fun t422 => ((tumbrelref05_Same.f kj5 t422 (([(⟨t409, t410, t413⟩ : S82)] : List (S82)))).bind fun t428 => (if t428 = true then (if t407 = t414 then ((record_Same.f kj5 a0_0 l0_1 a0_2 a1_0 l1_1 a1_2).bind fun t429 => ((tumbrellaw05_own.f kj5 (([(⟨a0_0, l0_1, a0_2⟩ : S80)] : List (S80)))).bind fun t433 => ((tumbrellaw05_own.f kj5 (([(⟨a1_0, l1_1, a1_2⟩ : S80)] : List (S80)))).bind fun t439 => ((tumbrelref05_Same.f kj5 t433 t439).bind fun t442 => (some (t429 == t442)))))) else (some false)) else (some false)))) else (some false)) = some r := by rw [if_pos rfl] at H; exact H
       clear H
       have H := H1
       clear H1
       by_cases c44 : t397 = t401
       ·rw [if_pos c44] at H
        have c44b0 : (t397 == t401) = true := beq_iff_eq.mpr c44
        have c44b1 : (t397 != t401) = false := bne_eq_false_iff_eq.mpr c44
        clear c44
        obtain ⟨y419, hy419⟩ : ∃ y_ : List (S80), y_ = (([(⟨t402, t403, t406⟩ : S80)] : List (S80))) := ⟨_, rfl⟩
        replace H : ((tumbrellaw05_own.f kj5 y419).bind fun t422 => ((tumbrelref05_Same.f kj5 t422 (([(⟨t409, t410, t413⟩ : S82)] : List (S82)))).bind fun t428 => (if t428 = true then (if t407 = t414 then ((record_Same.f kj5 a0_0 l0_1 a0_2 a1_0 l1_1 a1_2).bind fun t429 => ((tumbrellaw05_own.f kj5 (([(⟨a0_0, l0_1, a0_2⟩ : S80)] : List (S80)))).bind fun t433 => ((tumbrellaw05_own.f kj5 (([(⟨a1_0, l1_1, a1_2⟩ : S80)] : List (S80)))).bind fun t439 => ((tumbrelref05_Same.f kj5 t433 t439).bind fun t442 => (some (t429 == t442)))))) else (some false)) else (some false)))) = some r := by first | (rw [hy419]; with_reducible exact H) | (have H2_ := (Option.bind_some _ _).symm.trans H; rw [hy419]; with_reducible exact H2_) | (have H2_ := (Option.bind_some _ _).symm.trans H; with_reducible exact H2_) | with_reducible exact H | (rw [hy419]; exact H) | exact H
        have Ny419 := Aside0.mk hy419
        clear hy419
        replace H := Option.bind_eq_some_iff.mp H
        obtain ⟨t422, A450, H⟩ := H
        replace H : ((tumbrelref05_Same.f kj5 t422 (([(⟨t409, t410, t413⟩ : S82)] : List (S82)))).bind fun t428 => (if t428 = true then (if t407 = t414 then ((record_Same.f kj5 a0_0 l0_1 a0_2 a1_0 l1_1 a1_2).bind fun t429 => ((tumbrellaw05_own.f kj5 (([(⟨a0_0, l0_1, a0_2⟩ : S80)] : List (S80)))).bind fun t433 => ((tumbrellaw05_own.f kj5 (([(⟨a1_0, l1_1, a1_2⟩ : S80)] : List (S80)))).bind fun t439 => ((tumbrelref05_Same.f kj5 t433 t439).bind fun t442 => (some (t429 == t442)))))) else (some false)) else (some false))) = some r := H
        have A45 := Aside0.mk A450
        clear A450
        obtain ⟨y425, hy425⟩ : ∃ y_ : List (S82), y_ = (([(⟨t409, t410, t413⟩ : S82)] : List (S82))) := ⟨_, rfl⟩
        replace H : ((tumbrelref05_Same.f kj5 t422 y425).bind fun t428 => (if t428 = true then (if t407 = t414 then ((record_Same.f kj5 a0_0 l0_1 a0_2 a1_0 l1_1 a1_2).bind fun t429 => ((tumbrellaw05_own.f kj5 (([(⟨a0_0, l0_1, a0_2⟩ : S80)] : List (S80)))).bind fun t433 => ((tumbrellaw05_own.f kj5 (([(⟨a1_0, l1_1, a1_2⟩ : S80)] : List (S80)))).bind fun t439 => ((tumbrelref05_Same.f kj5 t433 t439).bind fun t442 => (some (t429 == t442)))))) else (some false)) else (some false))) = some r := by first | (rw [hy425]; with_reducible exact H) | (have H2_ := (Option.bind_some _ _).symm.trans H; rw [hy425]; with_reducible exact H2_) | (have H2_ := (Option.bind_some _ _).symm.trans H; with_reducible exact H2_) | with_reducible exact H | (rw [hy425]; exact H) | exact H
        have Ny425 := Aside0.mk hy425
        clear hy425
        replace H := Option.bind_eq_some_iff.mp H
        obtain ⟨t428, A460, H⟩ := H
        replace H : (if t428 = true then (if t407 = t414 then ((record_Same.f kj5 a0_0 l0_1 a0_2 a1_0 l1_1 a1_2).bind fun t429 => ((tumbrellaw05_own.f kj5 (([(⟨a0_0, l0_1, a0_2⟩ : S80)] : List (S80)))).bind fun t433 => ((tumbrellaw05_own.f kj5 (([(⟨a1_0, l1_1, a1_2⟩ : S80)] : List (S80)))).bind fun t439 => ((tumbrelref05_Same.f kj5 t433 t439).bind fun t442 => (some (t429 == t442)))))) else (some false)) else (some false)) = some r := H
        have A46 := Aside0.mk A460
        clear A460
        by_cases c47 : t428 = true
        ·subst c47
         have H1 : (if t407 = t414 then ((record_Same.f kj5 a0_0 l0_1 a0_2 a1_0 l1_1 a1_2).bind fun t429 => ((tumbrellaw05_own.f kj5 (([(⟨a0_0, l0_1, a0_2⟩ : S80)] : List (S80)))).bind fun t433 => ((tumbrellaw05_own.f kj5 (([(⟨a1_0, l1_1, a1_2⟩ : S80)] : List (S80)))).bind fun t439 => ((tumbrelref05_Same.f kj5 t433 t439).bind fun t442 => (some (t429 == t442)))))) else (some false)) = some r := by rw [if_pos rfl] at H; exact H
         clear H
         have H := H1
         clear H1
         by_cases c48 : t407 = t414
         ·rw [if_pos c48] at H
          have c48b0 : (t407 == t414) = true := beq_iff_eq.mpr c48
          have c48b1 : (t407 != t414) = false := bne_eq_false_iff_eq.mpr c48
          clear c48
          replace H := Option.bind_eq_some_iff.mp H
          obtain ⟨t429, A490, H⟩ := H
          replace H : ((tumbrellaw05_own.f kj5 (([(⟨a0_0, l0_1, a0_2⟩ : S80)] : List (S80)))).bind fun t433 => ((tumbrellaw05_own.f kj5 (([(⟨a1_0, l1_1, a1_2⟩ : S80)] : List (S80)))).bind fun t439 => ((tumbrelref05_Same.f kj5 t433 t439).bind fun t442 => (some (t429 == t442))))) = some r := H
          have A49 := Aside0.mk A490
          clear A490
          obtain ⟨y430, hy430⟩ : ∃ y_ : List (S80), y_ = (([(⟨a0_0, l0_1, a0_2⟩ : S80)] : List (S80))) := ⟨_, rfl⟩
          replace H : ((tumbrellaw05_own.f kj5 y430).bind fun t433 => ((tumbrellaw05_own.f kj5 (([(⟨a1_0, l1_1, a1_2⟩ : S80)] : List (S80)))).bind fun t439 => ((tumbrelref05_Same.f kj5 t433 t439).bind fun t442 => (some (t429 == t442))))) = some r := by first | (rw [hy430]; with_reducible exact H) | (have H2_ := (Option.bind_some _ _).symm.trans H; rw [hy430]; with_reducible exact H2_) | (have H2_ := (Option.bind_some _ _).symm.trans H; with_reducible exact H2_) | with_reducible exact H | (rw [hy430]; exact H) | exact H
          have Ny430 := Aside0.mk hy430
          clear hy430
          replace H := Option.bind_eq_some_iff.mp H
          obtain ⟨t433, A500, H⟩ := H
          replace H : ((tumbrellaw05_own.f kj5 (([(⟨a1_0, l1_1, a1_2⟩ : S80)] : List (S80)))).bind fun t439 => ((tumbrelref05_Same.f kj5 t433 t439).bind fun t442 => (some (t429 == t442)))) = some r := H
          have A50 := Aside0.mk A500
          clear A500
          obtain ⟨y436, hy436⟩ : ∃ y_ : List (S80), y_ = (([(⟨a1_0, l1_1, a1_2⟩ : S80)] : List (S80))) := ⟨_, rfl⟩
          replace H : ((tumbrellaw05_own.f kj5 y436).bind fun t439 => ((tumbrelref05_Same.f kj5 t433 t439).bind fun t442 => (some (t429 == t442)))) = some r := by first | (rw [hy436]; with_reducible exact H) | (have H2_ := (Option.bind_some _ _).symm.trans H; rw [hy436]; with_reducible exact H2_) | (have H2_ := (Option.bind_some _ _).symm.trans H; with_reducible exact H2_) | with_reducible exact H | (rw [hy436]; exact H) | exact H
          have Ny436 := Aside0.mk hy436
          clear hy436
          replace H := Option.bind_eq_some_iff.mp H
          obtain ⟨t439, A510, H⟩ := H
          replace H : ((tumbrelref05_Same.f kj5 t433 t439).bind fun t442 => (some (t429 == t442))) = some r := H
          have A51 := Aside0.mk A510
          clear A510
          replace H := Option.bind_eq_some_iff.mp H
          obtain ⟨t442, A520, H⟩ := H
          replace H : (some (t429 == t442)) = some r := H
          have A52 := Aside0.mk A520
          clear A520
          obtain rfl := Option.some.inj H
          have hnb53 := NB388_389.out
          have hnc53 := NB389_388.out
          have hnb54 := NB388_390.out
          have hnc54 := NB390_388.out
          have hcz55_0 : wc.cell? ⟨gb388, 0, none⟩ = some (.int .i64 a0_0) := (qbq BK388.out 0).trans rfl
          have hcz55_1 : wc.cell? ⟨gb388, 1, none⟩ = some (.slice A0_1 l0_1.length c0_1) := (qbq BK388.out 1).trans rfl
          have hcz55_2 : wc.cell? ⟨gb388, 2, none⟩ = some (.string a0_2) := (qbq BK388.out 2).trans rfl
          have hfz55_0 := qbz BK388.out 0
          have hfz55_1 := qbz BK388.out 1
          have hfz55_2 := qbz BK388.out 2
          try go_wp2_with (first | ((with_reducible refine qdq (f := 56) rfl ?_); refine qew (some 31) rfl rfl Try.func56 (by kernel_rfl) rfl #[.agg #[.int .i64 a0_0, .slice A0_1 l0_1.length c0_1, .string a0_2]] rfl (by (try simp only [List.map_toArray, List.map_cons, List.map_nil]); first | done | rfl | (simp only [List.length_drop, List.length_take]; rfl)) ?_; (with_reducible refine (record_Bytes.calls kj5 a0_0 _ _ l0_1 a0_2 t394 t397 _ ?side1 ?side2 A35.out).mono ?_); (case side1 => repeat (first | exact (Kd.V_reads' HO_389001.out).2.2 | (with_reducible refine Kd.C_alloc ?_ _) | (with_reducible refine Kd.C_drewN ?_ _) | (with_reducible refine Kd.C_drew ?_))); (case side2 => exact (Kd.V_reads' HO_389001.out).2.1); rintro e w56 ⟨v395, rfl, ho0, hb⟩; refine ⟨_, rfl, ?_⟩; have n0_ := Aside0.mk (Kd.V_elder' (by (with_reducible repeat (first | apply Kd.V_alloc | apply Kd.V_drewN | apply Kd.V_drew)); exact HO_389001.out) (Kd.R_base ho0) hb); have n1_ := Aside0.mk (Kd.V_elder' (by (with_reducible repeat (first | apply Kd.V_alloc | apply Kd.V_drewN | apply Kd.V_drew)); exact HO_390001.out) (Kd.R_base ho0) hb); have n2_ := Aside0.mk (Kd.R_lower (Kd.R_newM (M := fun k_ => (w.heap.size ≤ k_)) ho0 (qbx (by repeat (first | (with_reducible first | exact HB.out | apply qax | apply qaq | apply qaz | refine qaj ?_ GE388.out | refine qaj ?_ GE389.out | refine qaj ?_ GE390.out) | exact HB.out))) (fun k_ h_ => h_)) (qbx (by repeat (first | (with_reducible first | exact HB.out | apply qax | apply qaq | apply qaz | refine qaj ?_ GE388.out | refine qaj ?_ GE389.out | refine qaj ?_ GE390.out) | exact HB.out)))); have n3_ := Aside0.mk (qcx (g := gb388) (o := .cells #[.int .i64 a0_0, .slice A0_1 l0_1.length c0_1, .string a0_2] 80 (0, 0)) (by (with_reducible repeat (first | refine qav ?_ _ | refine qaw ?_ | refine qak ?_ _)); exact BK388.out) hb); have n4_ := Aside0.mk (qcx (g := gb389) (o := .cells #[.int .i64 a1_0, .slice A1_1 l1_1.length c1_1, .string a1_2] 80 (0, 0)) (by (with_reducible repeat (first | refine qav ?_ _ | refine qaw ?_ | refine qak ?_ _)); exact BK389.out) hb); have n5_ := Aside0.mk (qcx (g := gb390) (o := .cells #[.int .u8 a2_0, .slice A2_1 l2_1.length c2_1] 56 (0, 0)) (by (with_reducible repeat (first | refine qav ?_ _ | refine qaw ?_ | refine qak ?_ _)); exact BK390.out) hb); have n6_ := Aside0.mk (qbj (by repeat (first | (with_reducible first | exact HB.out | apply qax | apply qaq | apply qaz | refine qaj ?_ GE388.out | refine qaj ?_ GE389.out | refine qaj ?_ GE390.out) | exact HB.out)) hb); clear HO_389001; clear HO_390001; clear BK388; clear BK389; clear BK390; clear HB; have HO_389001 := n0_; have HO_390001 := n1_; have HO396 := n2_; have BK388 := n3_; have BK389 := n4_; have BK390 := n5_; have HB := n6_; clear n0_ n1_ n2_ n3_ n4_ n5_ n6_; (try clear hb); (try clear hb2); (try clear hk); (try clear hi); (try clear ho0); have hcz57_0 : w56.cell? ⟨gb388, 0, none⟩ = some (.int .i64 a0_0) := (qbq BK388.out 0).trans rfl; have hcz57_1 : w56.cell? ⟨gb388, 1, none⟩ = some (.slice A0_1 l0_1.length c0_1) := (qbq BK388.out 1).trans rfl; have hcz57_2 : w56.cell? ⟨gb388, 2, none⟩ = some (.string a0_2) := (qbq BK388.out 2).trans rfl; have hfz57_0 := qbz BK388.out 0; have hfz57_1 := qbz BK388.out 1; have hfz57_2 := qbz BK388.out 2) | ((with_reducible refine qdq (f := 57) rfl ?_); refine qew (some 36) rfl rfl Try.func57 (by kernel_rfl) rfl #[.agg #[.int .i64 a0_0, .slice A0_1 l0_1.length c0_1, .string a0_2]] rfl (by (try simp only [List.map_toArray, List.map_cons, List.map_nil]); first | done | rfl | (simp only [List.length_drop, List.length_take]; rfl)) ?_; (with_reducible refine (tumbrelref05_Bytes.calls kj5 a0_0 _ _ l0_1 a0_2 t398 t401 _ ?side1 ?side2 A36.out).mono ?_); (case side1 => repeat (first | exact (Kd.V_reads' HO_389001.out).2.2 | (with_reducible refine Kd.C_alloc ?_ _) | (with_reducible refine Kd.C_drewN ?_ _) | (with_reducible refine Kd.C_drew ?_))); (case side2 => exact (Kd.V_reads' HO_389001.out).2.1); rintro e w58 ⟨v399, rfl, ho0, hb⟩; refine ⟨_, rfl, ?_⟩; have n0_ := Aside0.mk (Kd.V_elder' (by (with_reducible repeat (first | apply Kd.V_alloc | apply Kd.V_drewN | apply Kd.V_drew)); exact HO_389001.out) (Kd.R_base ho0) hb); have n1_ := Aside0.mk (Kd.V_elder' (by (with_reducible repeat (first | apply Kd.V_alloc | apply Kd.V_drewN | apply Kd.V_drew)); exact HO_390001.out) (Kd.R_base ho0) hb); have n2_ := Aside0.mk (Kd.R_elder' (by (with_reducible repeat (first | apply Kd.R_alloc | apply Kd.R_drewN | apply Kd.R_drew)); exact HO396.out) (Kd.R_base ho0) hb); have n3_ := Aside0.mk (Kd.R_lower (Kd.R_new' (Kd.R_newM (M := fun k_ => (w.heap.size ≤ k_)) ho0 (qbx (by repeat (first | (with_reducible first | exact HB.out | apply qax | apply qaq | apply qaz | refine qaj ?_ GE388.out | refine qaj ?_ GE389.out | refine qaj ?_ GE390.out) | exact HB.out))) (fun k_ h_ => h_)) (Kd.R_lt (by (with_reducible repeat (first | apply Kd.R_alloc | apply Kd.R_drewN | apply Kd.R_drew)); exact HO396.out))) (qbx (by repeat (first | (with_reducible first | exact HB.out | apply qax | apply qaq | apply qaz | refine qaj ?_ GE388.out | refine qaj ?_ GE389.out | refine qaj ?_ GE390.out) | exact HB.out)))); have n4_ := Aside0.mk (qcx (g := gb388) (o := .cells #[.int .i64 a0_0, .slice A0_1 l0_1.length c0_1, .string a0_2] 80 (0, 0)) (by (with_reducible repeat (first | refine qav ?_ _ | refine qaw ?_ | refine qak ?_ _)); exact BK388.out) hb); have n5_ := Aside0.mk (qcx (g := gb389) (o := .cells #[.int .i64 a1_0, .slice A1_1 l1_1.length c1_1, .string a1_2] 80 (0, 0)) (by (with_reducible repeat (first | refine qav ?_ _ | refine qaw ?_ | refine qak ?_ _)); exact BK389.out) hb); have n6_ := Aside0.mk (qcx (g := gb390) (o := .cells #[.int .u8 a2_0, .slice A2_1 l2_1.length c2_1] 56 (0, 0)) (by (with_reducible repeat (first | refine qav ?_ _ | refine qaw ?_ | refine qak ?_ _)); exact BK390.out) hb); have n7_ := Aside0.mk (qbj (by repeat (first | (with_reducible first | exact HB.out | apply qax | apply qaq | apply qaz | refine qaj ?_ GE388.out | refine qaj ?_ GE389.out | refine qaj ?_ GE390.out) | exact HB.out)) hb); clear HO_389001; clear HO_390001; clear HO396; clear BK388; clear BK389; clear BK390; clear HB; have HO_389001 := n0_; have HO_390001 := n1_; have HO396 := n2_; have HO400 := n3_; have BK388 := n4_; have BK389 := n5_; have BK390 := n6_; have HB := n7_; clear n0_ n1_ n2_ n3_ n4_ n5_ n6_ n7_; (try clear hb); (try clear hb2); (try clear hk); (try clear hi); (try clear ho0); have hnb59 := NB390_389.out; have hnc59 := NB389_390.out; have hcz60_0 : w58.cell? ⟨gb390, 0, none⟩ = some (.int .u8 a2_0) := (qbq BK390.out 0).trans rfl; have hcz60_1 : w58.cell? ⟨gb390, 1, none⟩ = some (.slice A2_1 l2_1.length c2_1) := (qbq BK390.out 1).trans rfl; have hfz60_0 := qbz BK390.out 0; have hfz60_1 := qbz BK390.out 1) | ((with_reducible refine qdq (f := 58) rfl ?_); refine qew (some 41) rfl rfl Try.func58 (by kernel_rfl) rfl #[.agg #[.int .u8 a2_0, .slice A2_1 l2_1.length c2_1]] rfl (by (try simp only [List.map_toArray, List.map_cons, List.map_nil]); first | done | rfl | (simp only [List.length_drop, List.length_take]; rfl)) ?_; (with_reducible refine (record_Read.calls kj5 a2_0 (fun k_ => k_ < w.heap.size) _ _ l2_1 t402 t403 t406 t407 _ ?side1 A37.out).mono ?_); (case side1 => exact Kd.V_mk HC2_1.out (Kd.F_below (Kd.C_F (Kd.heap_int .u8) HR2_1.out) (by repeat (first | (with_reducible first | exact HB.out | apply qax | apply qaq | apply qaz | refine qaj ?_ GE388.out | refine qaj ?_ GE389.out | refine qaj ?_ GE390.out) | exact HB.out)))); rintro e w61 ⟨v404, rfl, ho0, hb⟩; refine ⟨_, rfl, ?_⟩; have n0_ := Aside0.mk (Kd.V_elder' (by (with_reducible repeat (first | apply Kd.V_alloc | apply Kd.V_drewN | apply Kd.V_drew)); exact HO_389001.out) (Kd.R_base ho0) hb); have n1_ := Aside0.mk (Kd.V_elder' (by (with_reducible repeat (first | apply Kd.V_alloc | apply Kd.V_drewN | apply Kd.V_drew)); exact HO_390001.out) (Kd.R_base ho0) hb); have n2_ := Aside0.mk (Kd.R_below (by (with_reducible repeat (first | apply Kd.R_alloc | apply Kd.R_drewN | apply Kd.R_drew)); exact HO396.out) hb); have n3_ := Aside0.mk (Kd.R_below (by (with_reducible repeat (first | apply Kd.R_alloc | apply Kd.R_drewN | apply Kd.R_drew)); exact HO400.out) hb); have n4_ := Aside0.mk (Kd.R_lower (Kd.R_newM (M := fun k_ => (w.heap.size ≤ k_)) (Kd.R_mono (ok' := fun k_ => True) ho0 (fun _ hk_ => trivial)) (qbx (by repeat (first | (with_reducible first | exact HB.out | apply qax | apply qaq | apply qaz | refine qaj ?_ GE388.out | refine qaj ?_ GE389.out | refine qaj ?_ GE390.out) | exact HB.out))) (fun k_ h_ => h_)) (qbx (by repeat (first | (with_reducible first | exact HB.out | apply qax | apply qaq | apply qaz | refine qaj ?_ GE388.out | refine qaj ?_ GE389.out | refine qaj ?_ GE390.out) | exact HB.out)))); have n5_ := Aside0.mk (qcx (g := gb388) (o := .cells #[.int .i64 a0_0, .slice A0_1 l0_1.length c0_1, .string a0_2] 80 (0, 0)) (by (with_reducible repeat (first | refine qav ?_ _ | refine qaw ?_ | refine qak ?_ _)); exact BK388.out) hb); have n6_ := Aside0.mk (qcx (g := gb389) (o := .cells #[.int .i64 a1_0, .slice A1_1 l1_1.length c1_1, .string a1_2] 80 (0, 0)) (by (with_reducible repeat (first | refine qav ?_ _ | refine qaw ?_ | refine qak ?_ _)); exact BK389.out) hb); have n7_ := Aside0.mk (qcx (g := gb390) (o := .cells #[.int .u8 a2_0, .slice A2_1 l2_1.length c2_1] 56 (0, 0)) (by (with_reducible repeat (first | refine qav ?_ _ | refine qaw ?_ | refine qak ?_ _)); exact BK390.out) hb); have n8_ := Aside0.mk (qbj (by repeat (first | (with_reducible first | exact HB.out | apply qax | apply qaq | apply qaz | refine qaj ?_ GE388.out | refine qaj ?_ GE389.out | refine qaj ?_ GE390.out) | exact HB.out)) hb); clear HO_389001; clear HO_390001; clear HO396; clear HO400; clear BK388; clear BK389; clear BK390; clear HB; have HO_389001 := n0_; have HO_390001 := n1_; have HO396 := n2_; have HO400 := n3_; have HO405 := n4_; have BK388 := n5_; have BK389 := n6_; have BK390 := n7_; have HB := n8_; clear n0_ n1_ n2_ n3_ n4_ n5_ n6_ n7_ n8_; (try clear hb); (try clear hb2); (try clear hk); (try clear hi); (try clear ho0)) | ((with_reducible refine qcv (N := 11) rfl ?_); (try (refine qfz (by rfl) ?_; dsimp only)); refine qcw ?hg (N := 11) ?hd (cs := #[.int .i64 0, .slice none 0 0, .string (⟨#[]⟩ : ByteArray)]) (t := 80) ?hr ?_; (case hd => rfl); (case hg => rfl); (case hr => first | (go_simp; done) | (go_simp; rfl)); intro gb408 hg w62 hbox hb; have n0_ := Aside0.mk (Kd.V_below (Kd.V_elderB (by (with_reducible repeat (first | apply Kd.V_alloc | apply Kd.V_drewN | apply Kd.V_drew)); exact HO_389001.out) gb408 (Nat.le_of_eq hg.symm)) hb); have n1_ := Aside0.mk (Kd.V_below (Kd.V_elderB (by (with_reducible repeat (first | apply Kd.V_alloc | apply Kd.V_drewN | apply Kd.V_drew)); exact HO_390001.out) gb408 (Nat.le_of_eq hg.symm)) hb); have n2_ := Aside0.mk (Kd.R_below (by (with_reducible repeat (first | apply Kd.R_alloc | apply Kd.R_drewN | apply Kd.R_drew)); exact HO396.out) hb); have n3_ := Aside0.mk (Kd.R_below (by (with_reducible repeat (first | apply Kd.R_alloc | apply Kd.R_drewN | apply Kd.R_drew)); exact HO400.out) hb); have n4_ := Aside0.mk (Kd.R_below (by (with_reducible repeat (first | apply Kd.R_alloc | apply Kd.R_drewN | apply Kd.R_drew)); exact HO405.out) hb); have n5_ := Aside0.mk (qcx (g := gb388) (o := .cells #[.int .i64 a0_0, .slice A0_1 l0_1.length c0_1, .string a0_2] 80 (0, 0)) (by (with_reducible repeat (first | refine qav ?_ _ | refine qaw ?_ | refine qak ?_ _)); exact BK388.out) hb); have n6_ := Aside0.mk (qcx (g := gb389) (o := .cells #[.int .i64 a1_0, .slice A1_1 l1_1.length c1_1, .string a1_2] 80 (0, 0)) (by (with_reducible repeat (first | refine qav ?_ _ | refine qaw ?_ | refine qak ?_ _)); exact BK389.out) hb); have n7_ := Aside0.mk (qcx (g := gb390) (o := .cells #[.int .u8 a2_0, .slice A2_1 l2_1.length c2_1] 56 (0, 0)) (by (with_reducible repeat (first | refine qav ?_ _ | refine qaw ?_ | refine qak ?_ _)); exact BK390.out) hb); have n8_ := Aside0.mk (qbj (by repeat (first | (with_reducible first | exact HB.out | apply qax | apply qaq | apply qaz | refine qaj ?_ GE388.out | refine qaj ?_ GE389.out | refine qaj ?_ GE390.out) | exact HB.out)) hb); have n9_ := Aside0.mk (hbox); have n10_ := Aside0.mk ((by rw [hg]; exact (qbx (by repeat (first | (with_reducible first | exact HB.out | apply qax | apply qaq | apply qaz | refine qaj ?_ GE388.out | refine qaj ?_ GE389.out | refine qaj ?_ GE390.out) | exact HB.out))) : w.heap.size ≤ gb408)); have n11_ := Aside0.mk ((by rw [hg]; exact (qbx (by repeat (first | (with_reducible first | exact HB.out | apply qax | apply qaq | apply qaz | refine qaj ?_ GE388.out | refine qaj ?_ GE389.out | refine qaj ?_ GE390.out) | exact HB.out))) : w.heap.size ≤ gb408)); have n12_ := Aside0.mk ((by rw [hg]; exact Nat.ne_of_lt (qez (g := gb388) (o := .cells #[.int .i64 a0_0, .slice A0_1 l0_1.length c0_1, .string a0_2] 80 (0, 0)) (by (with_reducible repeat (first | refine qav ?_ _ | refine qaw ?_ | refine qak ?_ _)); exact BK388.out)) : gb388 ≠ gb408)); have n13_ := Aside0.mk ((by rw [hg]; exact Nat.ne_of_gt (qez (g := gb388) (o := .cells #[.int .i64 a0_0, .slice A0_1 l0_1.length c0_1, .string a0_2] 80 (0, 0)) (by (with_reducible repeat (first | refine qav ?_ _ | refine qaw ?_ | refine qak ?_ _)); exact BK388.out)) : gb408 ≠ gb388)); have n14_ := Aside0.mk ((by rw [hg]; exact Nat.ne_of_lt (qez (g := gb389) (o := .cells #[.int .i64 a1_0, .slice A1_1 l1_1.length c1_1, .string a1_2] 80 (0, 0)) (by (with_reducible repeat (first | refine qav ?_ _ | refine qaw ?_ | refine qak ?_ _)); exact BK389.out)) : gb389 ≠ gb408)); have n15_ := Aside0.mk ((by rw [hg]; exact Nat.ne_of_gt (qez (g := gb389) (o := .cells #[.int .i64 a1_0, .slice A1_1 l1_1.length c1_1, .string a1_2] 80 (0, 0)) (by (with_reducible repeat (first | refine qav ?_ _ | refine qaw ?_ | refine qak ?_ _)); exact BK389.out)) : gb408 ≠ gb389)); have n16_ := Aside0.mk ((by rw [hg]; exact Nat.ne_of_lt (qez (g := gb390) (o := .cells #[.int .u8 a2_0, .slice A2_1 l2_1.length c2_1] 56 (0, 0)) (by (with_reducible repeat (first | refine qav ?_ _ | refine qaw ?_ | refine qak ?_ _)); exact BK390.out)) : gb390 ≠ gb408)); have n17_ := Aside0.mk ((by rw [hg]; exact Nat.ne_of_gt (qez (g := gb390) (o := .cells #[.int .u8 a2_0, .slice A2_1 l2_1.length c2_1] 56 (0, 0)) (by (with_reducible repeat (first | refine qav ?_ _ | refine qaw ?_ | refine qak ?_ _)); exact BK390.out)) : gb408 ≠ gb390)); clear HO_389001; clear HO_390001; clear HO396; clear HO400; clear HO405; clear BK388; clear BK389; clear BK390; clear HB; have HO_389001 := n0_; have HO_390001 := n1_; have HO396 := n2_; have HO400 := n3_; have HO405 := n4_; have BK388 := n5_; have BK389 := n6_; have BK390 := n7_; have HB := n8_; have BK408 := n9_; have GW408 := n10_; have GE408 := n11_; have NB388_408 := n12_; have NB408_388 := n13_; have NB389_408 := n14_; have NB408_389 := n15_; have NB390_408 := n16_; have NB408_390 := n17_; clear n0_ n1_ n2_ n3_ n4_ n5_ n6_ n7_ n8_ n9_ n10_ n11_ n12_ n13_ n14_ n15_ n16_ n17_; clear hb hbox hg; have hnb63 := NB408_388.out; have hnc63 := NB388_408.out; have hnb64 := NB408_389.out; have hnc64 := NB389_408.out; have hnb65 := NB408_390.out; have hnc65 := NB390_408.out; have hcz66_0 : w62.cell? ⟨gb408, 0, none⟩ = some (.int .i64 0) := (qbq BK408.out 0).trans rfl; have hcz66_1 : w62.cell? ⟨gb408, 1, none⟩ = some (.slice none 0 0) := (qbq BK408.out 1).trans rfl; have hcz66_2 : w62.cell? ⟨gb408, 2, none⟩ = some (.string (⟨#[]⟩ : ByteArray)) := (qbq BK408.out 2).trans rfl; have hfz66_0 := qbz BK408.out 0; have hfz66_1 := qbz BK408.out 1; have hfz66_2 := qbz BK408.out 2; obtain ⟨Ao67, co67, eo67⟩ := Kd.R_slice HO405.out; subst eo67; have hcz68_0 : w62.cell? ⟨gb390, 0, none⟩ = some (.int .u8 a2_0) := (qbq BK390.out 0).trans rfl; have hcz68_1 : w62.cell? ⟨gb390, 1, none⟩ = some (.slice A2_1 l2_1.length c2_1) := (qbq BK390.out 1).trans rfl; have hfz68_0 := qbz BK390.out 0; have hfz68_1 := qbz BK390.out 1) | ((with_reducible refine qdq (f := 59) rfl ?_); refine qew (some 46) rfl rfl Try.func59 (by kernel_rfl) rfl #[.agg #[.int .u8 a2_0, .slice A2_1 l2_1.length c2_1]] rfl (by (try simp only [List.map_toArray, List.map_cons, List.map_nil]); first | done | rfl | (simp only [List.length_drop, List.length_take]; rfl)) ?_; (with_reducible refine (tumbrelref05_Read.calls kj5 a2_0 _ _ l2_1 t409 t410 t413 t414 _ ?side1 ?side2 A38.out).mono ?_); (case side1 => exact Kd.C_below HR2_1.out (by repeat (first | (with_reducible first | exact HB.out | apply qax | apply qaq | apply qaz | refine qaj ?_ GE388.out | refine qaj ?_ GE389.out | refine qaj ?_ GE390.out | refine qaj ?_ GE408.out) | exact HB.out))); (case side2 => exact HC2_1.out); rintro e w69 ⟨v411, rfl, ho0, hb⟩; refine ⟨_, rfl, ?_⟩; have n0_ := Aside0.mk (Kd.V_elder' (by (with_reducible repeat (first | apply Kd.V_alloc | apply Kd.V_drewN | apply Kd.V_drew)); exact (Kd.V_mono (Kd.V_far (p := ⟨gb408, 2, none⟩) (Kd.V_far (p := ⟨gb408, 1, none⟩) (Kd.V_far (p := ⟨gb408, 0, none⟩) (Kd.V_mono HO_389001.out (fun k_ hk => (⟨hk, hk.2⟩ : _ ∧ k_ ≠ gb408))) (fun _ hk => hk.2) (.int .i64 t402)) (fun _ hk => hk.2) (.slice Ao67 t403.length co67)) (fun _ hk => hk.2) (.string t406)) (fun _ h_ => h_.1))) (Kd.R_base ho0) hb); have n1_ := Aside0.mk (Kd.V_elder' (by (with_reducible repeat (first | apply Kd.V_alloc | apply Kd.V_drewN | apply Kd.V_drew)); exact (Kd.V_mono (Kd.V_far (p := ⟨gb408, 2, none⟩) (Kd.V_far (p := ⟨gb408, 1, none⟩) (Kd.V_far (p := ⟨gb408, 0, none⟩) (Kd.V_mono HO_390001.out (fun k_ hk => (⟨hk, hk.2⟩ : _ ∧ k_ ≠ gb408))) (fun _ hk => hk.2) (.int .i64 t402)) (fun _ hk => hk.2) (.slice Ao67 t403.length co67)) (fun _ hk => hk.2) (.string t406)) (fun _ h_ => h_.1))) (Kd.R_base ho0) hb); have n2_ := Aside0.mk (Kd.R_below (by (with_reducible repeat (first | apply Kd.R_alloc | apply Kd.R_drewN | apply Kd.R_drew)); exact (Kd.R_mono (Kd.R_far (p := ⟨gb408, 2, none⟩) (Kd.R_far (p := ⟨gb408, 1, none⟩) (Kd.R_far (p := ⟨gb408, 0, none⟩) (Kd.R_types HO396.out BK408.out (by decide)) (fun _ hk => hk.2) (.int .i64 t402)) (fun _ hk => hk.2) (.slice Ao67 t403.length co67)) (fun _ hk => hk.2) (.string t406)) (fun _ h_ => h_.1))) hb); have n3_ := Aside0.mk (Kd.R_below (by (with_reducible repeat (first | apply Kd.R_alloc | apply Kd.R_drewN | apply Kd.R_drew)); exact (Kd.R_mono (Kd.R_far (p := ⟨gb408, 2, none⟩) (Kd.R_far (p := ⟨gb408, 1, none⟩) (Kd.R_far (p := ⟨gb408, 0, none⟩) (Kd.R_types HO400.out BK408.out (by decide)) (fun _ hk => hk.2) (.int .i64 t402)) (fun _ hk => hk.2) (.slice Ao67 t403.length co67)) (fun _ hk => hk.2) (.string t406)) (fun _ h_ => h_.1))) hb); have n4_ := Aside0.mk (Kd.R_elder' (by (with_reducible repeat (first | apply Kd.R_alloc | apply Kd.R_drewN | apply Kd.R_drew)); exact (Kd.R_mono (Kd.R_far (p := ⟨gb408, 2, none⟩) (Kd.R_far (p := ⟨gb408, 1, none⟩) (Kd.R_far (p := ⟨gb408, 0, none⟩) (Kd.R_types HO405.out BK408.out (by decide)) (fun _ hk => hk.2) (.int .i64 t402)) (fun _ hk => hk.2) (.slice Ao67 t403.length co67)) (fun _ hk => hk.2) (.string t406)) (fun _ h_ => h_.1))) (Kd.R_base ho0) hb); have n5_ := Aside0.mk (Kd.R_lower (Kd.R_new' (Kd.R_newM (M := fun k_ => (w.heap.size ≤ k_)) ho0 (qbx (by repeat (first | (with_reducible first | exact HB.out | apply qax | apply qaq | apply qaz | refine qaj ?_ GE388.out | refine qaj ?_ GE389.out | refine qaj ?_ GE390.out | refine qaj ?_ GE408.out) | exact HB.out))) (fun k_ h_ => h_)) (Kd.R_lt (by (with_reducible repeat (first | apply Kd.R_alloc | apply Kd.R_drewN | apply Kd.R_drew)); exact (Kd.R_mono (Kd.R_far (p := ⟨gb408, 2, none⟩) (Kd.R_far (p := ⟨gb408, 1, none⟩) (Kd.R_far (p := ⟨gb408, 0, none⟩) (Kd.R_types HO405.out BK408.out (by decide)) (fun _ hk => hk.2) (.int .i64 t402)) (fun _ hk => hk.2) (.slice Ao67 t403.length co67)) (fun _ hk => hk.2) (.string t406)) (fun _ h_ => h_.1))))) (qbx (by repeat (first | (with_reducible first | exact HB.out | apply qax | apply qaq | apply qaz | refine qaj ?_ GE388.out | refine qaj ?_ GE389.out | refine qaj ?_ GE390.out | refine qaj ?_ GE408.out) | exact HB.out)))); have n6_ := Aside0.mk (qcx (g := gb388) (o := .cells #[.int .i64 a0_0, .slice A0_1 l0_1.length c0_1, .string a0_2] 80 (0, 0)) (by (with_reducible repeat (first | refine qav ?_ _ | refine qaw ?_ | refine qak ?_ _)); refine qej ?_ NB388_408.out _; (with_reducible repeat (first | refine qav ?_ _ | refine qaw ?_ | refine qak ?_ _)); refine qej ?_ NB388_408.out _; (with_reducible repeat (first | refine qav ?_ _ | refine qaw ?_ | refine qak ?_ _)); refine qej ?_ NB388_408.out _; (with_reducible repeat (first | refine qav ?_ _ | refine qaw ?_ | refine qak ?_ _)); exact BK388.out) hb); have n7_ := Aside0.mk (qcx (g := gb389) (o := .cells #[.int .i64 a1_0, .slice A1_1 l1_1.length c1_1, .string a1_2] 80 (0, 0)) (by (with_reducible repeat (first | refine qav ?_ _ | refine qaw ?_ | refine qak ?_ _)); refine qej ?_ NB389_408.out _; (with_reducible repeat (first | refine qav ?_ _ | refine qaw ?_ | refine qak ?_ _)); refine qej ?_ NB389_408.out _; (with_reducible repeat (first | refine qav ?_ _ | refine qaw ?_ | refine qak ?_ _)); refine qej ?_ NB389_408.out _; (with_reducible repeat (first | refine qav ?_ _ | refine qaw ?_ | refine qak ?_ _)); exact BK389.out) hb); have n8_ := Aside0.mk (qcx (g := gb390) (o := .cells #[.int .u8 a2_0, .slice A2_1 l2_1.length c2_1] 56 (0, 0)) (by (with_reducible repeat (first | refine qav ?_ _ | refine qaw ?_ | refine qak ?_ _)); refine qej ?_ NB390_408.out _; (with_reducible repeat (first | refine qav ?_ _ | refine qaw ?_ | refine qak ?_ _)); refine qej ?_ NB390_408.out _; (with_reducible repeat (first | refine qav ?_ _ | refine qaw ?_ | refine qak ?_ _)); refine qej ?_ NB390_408.out _; (with_reducible repeat (first | refine qav ?_ _ | refine qaw ?_ | refine qak ?_ _)); exact BK390.out) hb); have n9_ := Aside0.mk (qcx (g := gb408) (o := .cells #[.int .i64 t402, .slice Ao67 t403.length co67, .string t406] 80 (0, 0)) (by (with_reducible repeat (first | refine qav ?_ _ | refine qaw ?_ | refine qak ?_ _)); refine qdx (cs := #[.int .i64 t402, .slice Ao67 t403.length co67, .string (⟨#[]⟩ : ByteArray)]) ?_ 2 _ rfl; (with_reducible repeat (first | refine qav ?_ _ | refine qaw ?_ | refine qak ?_ _)); refine qdx (cs := #[.int .i64 t402, .slice none 0 0, .string (⟨#[]⟩ : ByteArray)]) ?_ 1 _ rfl; (with_reducible repeat (first | refine qav ?_ _ | refine qaw ?_ | refine qak ?_ _)); refine qdx (cs := #[.int .i64 0, .slice none 0 0, .string (⟨#[]⟩ : ByteArray)]) ?_ 0 _ rfl; (with_reducible repeat (first | refine qav ?_ _ | refine qaw ?_ | refine qak ?_ _)); exact BK408.out) hb); have n10_ := Aside0.mk (qbj (by repeat (first | (with_reducible first | exact HB.out | apply qax | apply qaq | apply qaz | refine qaj ?_ GE388.out | refine qaj ?_ GE389.out | refine qaj ?_ GE390.out | refine qaj ?_ GE408.out) | exact HB.out)) hb); clear HO_389001; clear HO_390001; clear HO396; clear HO400; clear HO405; clear BK388; clear BK389; clear BK390; clear BK408; clear HB; have HO_389001 := n0_; have HO_390001 := n1_; have HO396 := n2_; have HO400 := n3_; have HO405 := n4_; have HO412 := n5_; have BK388 := n6_; have BK389 := n7_; have BK390 := n8_; have BK408 := n9_; have HB := n10_; clear n0_ n1_ n2_ n3_ n4_ n5_ n6_ n7_ n8_ n9_ n10_; (try clear hb); (try clear hb2); (try clear hk); (try clear hi); (try clear ho0)) | ((with_reducible refine qcv (N := 13) rfl ?_); (try (refine qfz (by rfl) ?_; dsimp only)); refine qcw ?hg (N := 13) ?hd (cs := #[.int .i64 0, .slice none 0 0, .string (⟨#[]⟩ : ByteArray)]) (t := 82) ?hr ?_; (case hd => rfl); (case hg => rfl); (case hr => first | (go_simp; done) | (go_simp; rfl)); intro gb415 hg w70 hbox hb; have n0_ := Aside0.mk (Kd.V_below (Kd.V_elderB (by (with_reducible repeat (first | apply Kd.V_alloc | apply Kd.V_drewN | apply Kd.V_drew)); exact HO_389001.out) gb415 (Nat.le_of_eq hg.symm)) hb); have n1_ := Aside0.mk (Kd.V_below (Kd.V_elderB (by (with_reducible repeat (first | apply Kd.V_alloc | apply Kd.V_drewN | apply Kd.V_drew)); exact HO_390001.out) gb415 (Nat.le_of_eq hg.symm)) hb); have n2_ := Aside0.mk (Kd.R_below (by (with_reducible repeat (first | apply Kd.R_alloc | apply Kd.R_drewN | apply Kd.R_drew)); exact HO396.out) hb); have n3_ := Aside0.mk (Kd.R_below (by (with_reducible repeat (first | apply Kd.R_alloc | apply Kd.R_drewN | apply Kd.R_drew)); exact HO400.out) hb); have n4_ := Aside0.mk (Kd.R_below (by (with_reducible repeat (first | apply Kd.R_alloc | apply Kd.R_drewN | apply Kd.R_drew)); exact HO405.out) hb); have n5_ := Aside0.mk (Kd.R_below (by (with_reducible repeat (first | apply Kd.R_alloc | apply Kd.R_drewN | apply Kd.R_drew)); exact HO412.out) hb); have n6_ := Aside0.mk (qcx (g := gb388) (o := .cells #[.int .i64 a0_0, .slice A0_1 l0_1.length c0_1, .string a0_2] 80 (0, 0)) (by (with_reducible repeat (first | refine qav ?_ _ | refine qaw ?_ | refine qak ?_ _)); exact BK388.out) hb); have n7_ := Aside0.mk (qcx (g := gb389) (o := .cells #[.int .i64 a1_0, .slice A1_1 l1_1.length c1_1, .string a1_2] 80 (0, 0)) (by (with_reducible repeat (first | refine qav ?_ _ | refine qaw ?_ | refine qak ?_ _)); exact BK389.out) hb); have n8_ := Aside0.mk (qcx (g := gb390) (o := .cells #[.int .u8 a2_0, .slice A2_1 l2_1.length c2_1] 56 (0, 0)) (by (with_reducible repeat (first | refine qav ?_ _ | refine qaw ?_ | refine qak ?_ _)); exact BK390.out) hb); have n9_ := Aside0.mk (qcx (g := gb408) (o := .cells #[.int .i64 t402, .slice Ao67 t403.length co67, .string t406] 80 (0, 0)) (by (with_reducible repeat (first | refine qav ?_ _ | refine qaw ?_ | refine qak ?_ _)); exact BK408.out) hb); have n10_ := Aside0.mk (qbj (by repeat (first | (with_reducible first | exact HB.out | apply qax | apply qaq | apply qaz | refine qaj ?_ GE388.out | refine qaj ?_ GE389.out | refine qaj ?_ GE390.out | refine qaj ?_ GE408.out) | exact HB.out)) hb); have n11_ := Aside0.mk (hbox); have n12_ := Aside0.mk ((by rw [hg]; exact (qbx (by repeat (first | (with_reducible first | exact HB.out | apply qax | apply qaq | apply qaz | refine qaj ?_ GE388.out | refine qaj ?_ GE389.out | refine qaj ?_ GE390.out | refine qaj ?_ GE408.out) | exact HB.out))) : w.heap.size ≤ gb415)); have n13_ := Aside0.mk ((by rw [hg]; exact (qbx (by repeat (first | (with_reducible first | exact HB.out | apply qax | apply qaq | apply qaz | refine qaj ?_ GE388.out | refine qaj ?_ GE389.out | refine qaj ?_ GE390.out | refine qaj ?_ GE408.out) | exact HB.out))) : w.heap.size ≤ gb415)); have n14_ := Aside0.mk ((by rw [hg]; exact Nat.ne_of_lt (qez (g := gb388) (o := .cells #[.int .i64 a0_0, .slice A0_1 l0_1.length c0_1, .string a0_2] 80 (0, 0)) (by (with_reducible repeat (first | refine qav ?_ _ | refine qaw ?_ | refine qak ?_ _)); exact BK388.out)) : gb388 ≠ gb415)); have n15_ := Aside0.mk ((by rw [hg]; exact Nat.ne_of_gt (qez (g := gb388) (o := .cells #[.int .i64 a0_0, .slice A0_1 l0_1.length c0_1, .string a0_2] 80 (0, 0)) (by (with_reducible repeat (first | refine qav ?_ _ | refine qaw ?_ | refine qak ?_ _)); exact BK388.out)) : gb415 ≠ gb388)); have n16_ := Aside0.mk ((by rw [hg]; exact Nat.ne_of_lt (qez (g := gb389) (o := .cells #[.int .i64 a1_0, .slice A1_1 l1_1.length c1_1, .string a1_2] 80 (0, 0)) (by (with_reducible repeat (first | refine qav ?_ _ | refine qaw ?_ | refine qak ?_ _)); exact BK389.out)) : gb389 ≠ gb415)); have n17_ := Aside0.mk ((by rw [hg]; exact Nat.ne_of_gt (qez (g := gb389) (o := .cells #[.int .i64 a1_0, .slice A1_1 l1_1.length c1_1, .string a1_2] 80 (0, 0)) (by (with_reducible repeat (first | refine qav ?_ _ | refine qaw ?_ | refine qak ?_ _)); exact BK389.out)) : gb415 ≠ gb389)); have n18_ := Aside0.mk ((by rw [hg]; exact Nat.ne_of_lt (qez (g := gb390) (o := .cells #[.int .u8 a2_0, .slice A2_1 l2_1.length c2_1] 56 (0, 0)) (by (with_reducible repeat (first | refine qav ?_ _ | refine qaw ?_ | refine qak ?_ _)); exact BK390.out)) : gb390 ≠ gb415)); have n19_ := Aside0.mk ((by rw [hg]; exact Nat.ne_of_gt (qez (g := gb390) (o := .cells #[.int .u8 a2_0, .slice A2_1 l2_1.length c2_1] 56 (0, 0)) (by (with_reducible repeat (first | refine qav ?_ _ | refine qaw ?_ | refine qak ?_ _)); exact BK390.out)) : gb415 ≠ gb390)); have n20_ := Aside0.mk ((by rw [hg]; exact Nat.ne_of_lt (qez (g := gb408) (o := .cells #[.int .i64 t402, .slice Ao67 t403.length co67, .string t406] 80 (0, 0)) (by (with_reducible repeat (first | refine qav ?_ _ | refine qaw ?_ | refine qak ?_ _)); exact BK408.out)) : gb408 ≠ gb415)); have n21_ := Aside0.mk ((by rw [hg]; exact Nat.ne_of_gt (qez (g := gb408) (o := .cells #[.int .i64 t402, .slice Ao67 t403.length co67, .string t406] 80 (0, 0)) (by (with_reducible repeat (first | refine qav ?_ _ | refine qaw ?_ | refine qak ?_ _)); exact BK408.out)) : gb415 ≠ gb408)); clear HO_389001; clear HO_390001; clear HO396; clear HO400; clear HO405; clear HO412; clear BK388; clear BK389; clear BK390; clear BK408; clear HB; have HO_389001 := n0_; have HO_390001 := n1_; have HO396 := n2_; have HO400 := n3_; have HO405 := n4_; have HO412 := n5_; have BK388 := n6_; have BK389 := n7_; have BK390 := n8_; have BK408 := n9_; have HB := n10_; have BK415 := n11_; have GW415 := n12_; have GE415 := n13_; have NB388_415 := n14_; have NB415_388 := n15_; have NB389_415 := n16_; have NB415_389 := n17_; have NB390_415 := n18_; have NB415_390 := n19_; have NB408_415 := n20_; have NB415_408 := n21_; clear n0_ n1_ n2_ n3_ n4_ n5_ n6_ n7_ n8_ n9_ n10_ n11_ n12_ n13_ n14_ n15_ n16_ n17_ n18_ n19_ n20_ n21_; clear hb hbox hg; have hnb71 := NB415_388.out; have hnc71 := NB388_415.out; have hnb72 := NB415_389.out; have hnc72 := NB389_415.out; have hnb73 := NB415_390.out; have hnc73 := NB390_415.out; have hnb74 := NB415_408.out; have hnc74 := NB408_415.out; have hcz75_0 : w70.cell? ⟨gb415, 0, none⟩ = some (.int .i64 0) := (qbq BK415.out 0).trans rfl; have hcz75_1 : w70.cell? ⟨gb415, 1, none⟩ = some (.slice none 0 0) := (qbq BK415.out 1).trans rfl; have hcz75_2 : w70.cell? ⟨gb415, 2, none⟩ = some (.string (⟨#[]⟩ : ByteArray)) := (qbq BK415.out 2).trans rfl; have hfz75_0 := qbz BK415.out 0; have hfz75_1 := qbz BK415.out 1; have hfz75_2 := qbz BK415.out 2; obtain ⟨Ao76, co76, eo76⟩ := Kd.R_slice HO412.out; subst eo76; obtain ⟨Ao77, co77, eo77⟩ := Kd.R_slice HO396.out; subst eo77; obtain ⟨Ao78, co78, eo78⟩ := Kd.R_slice HO400.out; subst eo78))
          have n0_ : Aside0 (Kd.V (Kd.int .u64) 22 (((w70.setCell ⟨gb415, 0, none⟩ (.int .i64 t409)).setCell ⟨gb415, 1, none⟩ (.slice Ao76 t410.length co76)).setCell ⟨gb415, 2, none⟩ (.string t413)) w.heap.size (fun k_ => ((P0_1_ k_ ∨ P1_1_ k_) ∨ w.heap.size ≤ k_) ∧ some k_ ≠ (.slice Ao77 t394.length co77 : Value).ownBlock ∧ some k_ ≠ (.slice Ao78 t398.length co78 : Value).ownBlock ∧ some k_ ≠ (.slice Ao67 t403.length co67 : Value).ownBlock ∧ some k_ ≠ (.slice Ao76 t410.length co76 : Value).ownBlock ∧ k_ ≠ gb388 ∧ k_ ≠ gb389 ∧ k_ ≠ gb390 ∧ k_ ≠ gb408 ∧ k_ ≠ gb415) (.slice A0_1 l0_1.length c0_1) l0_1) := ⟨by (with_reducible repeat (first | apply Kd.V_alloc | apply Kd.V_drewN | apply Kd.V_drew)); exact Kd.V_mono (Kd.V_far (p := ⟨gb415, 2, none⟩) (Kd.V_far (p := ⟨gb415, 1, none⟩) (Kd.V_far (p := ⟨gb415, 0, none⟩) (Kd.V_mono HO_389001.out (fun k_ hk => (⟨hk, hk.2⟩ : _ ∧ k_ ≠ gb415))) (fun _ hk => hk.2) (.int .i64 t409)) (fun _ hk => hk.2) (.slice Ao76 t410.length co76)) (fun _ hk => hk.2) (.string t413)) (fun _ hk => ⟨hk.1.1.1.1.1.1.1.1, ⟨hk.1.1.1.1.1.1.2, ⟨hk.1.1.1.1.1.2, ⟨hk.1.1.1.1.2, ⟨hk.1.1.2, ⟨hk.1.1.1.1.1.1.1.2.1, ⟨hk.1.1.1.1.1.1.1.2.2.1, ⟨hk.1.1.1.1.1.1.1.2.2.2, ⟨hk.1.1.1.2, hk.1.2⟩⟩⟩⟩⟩⟩⟩⟩⟩)⟩
          have n1_ : Aside0 (Kd.V (Kd.int .u64) 22 (((w70.setCell ⟨gb415, 0, none⟩ (.int .i64 t409)).setCell ⟨gb415, 1, none⟩ (.slice Ao76 t410.length co76)).setCell ⟨gb415, 2, none⟩ (.string t413)) w.heap.size (fun k_ => ((P0_1_ k_ ∨ P1_1_ k_) ∨ w.heap.size ≤ k_) ∧ some k_ ≠ (.slice Ao77 t394.length co77 : Value).ownBlock ∧ some k_ ≠ (.slice Ao78 t398.length co78 : Value).ownBlock ∧ some k_ ≠ (.slice Ao67 t403.length co67 : Value).ownBlock ∧ some k_ ≠ (.slice Ao76 t410.length co76 : Value).ownBlock ∧ k_ ≠ gb388 ∧ k_ ≠ gb389 ∧ k_ ≠ gb390 ∧ k_ ≠ gb408 ∧ k_ ≠ gb415) (.slice A1_1 l1_1.length c1_1) l1_1) := ⟨by (with_reducible repeat (first | apply Kd.V_alloc | apply Kd.V_drewN | apply Kd.V_drew)); exact Kd.V_mono (Kd.V_far (p := ⟨gb415, 2, none⟩) (Kd.V_far (p := ⟨gb415, 1, none⟩) (Kd.V_far (p := ⟨gb415, 0, none⟩) (Kd.V_mono HO_390001.out (fun k_ hk => (⟨hk, hk.2⟩ : _ ∧ k_ ≠ gb415))) (fun _ hk => hk.2) (.int .i64 t409)) (fun _ hk => hk.2) (.slice Ao76 t410.length co76)) (fun _ hk => hk.2) (.string t413)) (fun _ hk => ⟨hk.1.1.1.1.1.1.1.1, ⟨hk.1.1.1.1.1.1.2, ⟨hk.1.1.1.1.1.2, ⟨hk.1.1.1.1.2, ⟨hk.1.1.2, ⟨hk.1.1.1.1.1.1.1.2.1, ⟨hk.1.1.1.1.1.1.1.2.2.1, ⟨hk.1.1.1.1.1.1.1.2.2.2, ⟨hk.1.1.1.2, hk.1.2⟩⟩⟩⟩⟩⟩⟩⟩⟩)⟩
          have n2_ : Aside0 (Kd.R (Kd.int .u8) 5 (((w70.setCell ⟨gb415, 0, none⟩ (.int .i64 t409)).setCell ⟨gb415, 1, none⟩ (.slice Ao76 t410.length co76)).setCell ⟨gb415, 2, none⟩ (.string t413)) w.heap.size (fun k_ => (w.heap.size ≤ k_) ∧ some k_ ≠ (.slice Ao78 t398.length co78 : Value).ownBlock) (.slice Ao77 t394.length co77) t394) := ⟨by (with_reducible repeat (first | apply Kd.R_alloc | apply Kd.R_drewN | apply Kd.R_drew)); exact Kd.R_mono (Kd.R_far (p := ⟨gb415, 2, none⟩) (Kd.R_far (p := ⟨gb415, 1, none⟩) (Kd.R_far (p := ⟨gb415, 0, none⟩) (Kd.R_types HO396.out BK415.out (by decide)) (fun _ hk => hk.2) (.int .i64 t409)) (fun _ hk => hk.2) (.slice Ao76 t410.length co76)) (fun _ hk => hk.2) (.string t413)) (fun _ hk => ⟨hk.1.1.1, hk.1.2⟩)⟩
          have n3_ : Aside0 (Kd.R (Kd.int .u8) 5 (((w70.setCell ⟨gb415, 0, none⟩ (.int .i64 t409)).setCell ⟨gb415, 1, none⟩ (.slice Ao76 t410.length co76)).setCell ⟨gb415, 2, none⟩ (.string t413)) w.heap.size (fun k_ => (w.heap.size ≤ k_) ∧ some k_ ≠ (.slice Ao77 t394.length co77 : Value).ownBlock) (.slice Ao78 t398.length co78) t398) := ⟨by (with_reducible repeat (first | apply Kd.R_alloc | apply Kd.R_drewN | apply Kd.R_drew)); exact Kd.R_mono (Kd.R_far (p := ⟨gb415, 2, none⟩) (Kd.R_far (p := ⟨gb415, 1, none⟩) (Kd.R_far (p := ⟨gb415, 0, none⟩) (Kd.R_types HO400.out BK415.out (by decide)) (fun _ hk => hk.2) (.int .i64 t409)) (fun _ hk => hk.2) (.slice Ao76 t410.length co76)) (fun _ hk => hk.2) (.string t413)) (fun _ hk => ⟨hk.1.1.1, hk.1.2⟩)⟩
          have n4_ : Aside0 (Kd.R (Kd.int .u64) 22 (((w70.setCell ⟨gb415, 0, none⟩ (.int .i64 t409)).setCell ⟨gb415, 1, none⟩ (.slice Ao76 t410.length co76)).setCell ⟨gb415, 2, none⟩ (.string t413)) w.heap.size (fun k_ => (w.heap.size ≤ k_) ∧ some k_ ≠ (.slice Ao76 t410.length co76 : Value).ownBlock) (.slice Ao67 t403.length co67) t403) := ⟨by (with_reducible repeat (first | apply Kd.R_alloc | apply Kd.R_drewN | apply Kd.R_drew)); exact Kd.R_mono (Kd.R_far (p := ⟨gb415, 2, none⟩) (Kd.R_far (p := ⟨gb415, 1, none⟩) (Kd.R_far (p := ⟨gb415, 0, none⟩) (Kd.R_types HO405.out BK415.out (by decide)) (fun _ hk => hk.2) (.int .i64 t409)) (fun _ hk => hk.2) (.slice Ao76 t410.length co76)) (fun _ hk => hk.2) (.string t413)) (fun _ hk => ⟨hk.1.1.1, hk.1.2⟩)⟩
          have n5_ : Aside0 (Kd.R (Kd.int .u64) 22 (((w70.setCell ⟨gb415, 0, none⟩ (.int .i64 t409)).setCell ⟨gb415, 1, none⟩ (.slice Ao76 t410.length co76)).setCell ⟨gb415, 2, none⟩ (.string t413)) w.heap.size (fun k_ => (w.heap.size ≤ k_) ∧ some k_ ≠ (.slice Ao67 t403.length co67 : Value).ownBlock) (.slice Ao76 t410.length co76) t410) := ⟨by (with_reducible repeat (first | apply Kd.R_alloc | apply Kd.R_drewN | apply Kd.R_drew)); exact Kd.R_mono (Kd.R_far (p := ⟨gb415, 2, none⟩) (Kd.R_far (p := ⟨gb415, 1, none⟩) (Kd.R_far (p := ⟨gb415, 0, none⟩) (Kd.R_types HO412.out BK415.out (by decide)) (fun _ hk => hk.2) (.int .i64 t409)) (fun _ hk => hk.2) (.slice Ao76 t410.length co76)) (fun _ hk => hk.2) (.string t413)) (fun _ hk => ⟨hk.1.1.1, hk.1.2⟩)⟩
          have n6_ : Aside0 ((((w70.setCell ⟨gb415, 0, none⟩ (.int .i64 t409)).setCell ⟨gb415, 1, none⟩ (.slice Ao76 t410.length co76)).setCell ⟨gb415, 2, none⟩ (.string t413)).heap[gb388]? = some (.cells #[.int .i64 a0_0, .slice A0_1 l0_1.length c0_1, .string a0_2] 80 (0, 0))) := ⟨by (with_reducible repeat (first | refine qav ?_ _ | refine qaw ?_ | refine qak ?_ _)); refine qej ?_ NB388_415.out _; (with_reducible repeat (first | refine qav ?_ _ | refine qaw ?_ | refine qak ?_ _)); refine qej ?_ NB388_415.out _; (with_reducible repeat (first | refine qav ?_ _ | refine qaw ?_ | refine qak ?_ _)); refine qej ?_ NB388_415.out _; (with_reducible repeat (first | refine qav ?_ _ | refine qaw ?_ | refine qak ?_ _)); exact BK388.out⟩
          have n7_ : Aside0 ((((w70.setCell ⟨gb415, 0, none⟩ (.int .i64 t409)).setCell ⟨gb415, 1, none⟩ (.slice Ao76 t410.length co76)).setCell ⟨gb415, 2, none⟩ (.string t413)).heap[gb389]? = some (.cells #[.int .i64 a1_0, .slice A1_1 l1_1.length c1_1, .string a1_2] 80 (0, 0))) := ⟨by (with_reducible repeat (first | refine qav ?_ _ | refine qaw ?_ | refine qak ?_ _)); refine qej ?_ NB389_415.out _; (with_reducible repeat (first | refine qav ?_ _ | refine qaw ?_ | refine qak ?_ _)); refine qej ?_ NB389_415.out _; (with_reducible repeat (first | refine qav ?_ _ | refine qaw ?_ | refine qak ?_ _)); refine qej ?_ NB389_415.out _; (with_reducible repeat (first | refine qav ?_ _ | refine qaw ?_ | refine qak ?_ _)); exact BK389.out⟩
          have n8_ : Aside0 ((((w70.setCell ⟨gb415, 0, none⟩ (.int .i64 t409)).setCell ⟨gb415, 1, none⟩ (.slice Ao76 t410.length co76)).setCell ⟨gb415, 2, none⟩ (.string t413)).heap[gb390]? = some (.cells #[.int .u8 a2_0, .slice A2_1 l2_1.length c2_1] 56 (0, 0))) := ⟨by (with_reducible repeat (first | refine qav ?_ _ | refine qaw ?_ | refine qak ?_ _)); refine qej ?_ NB390_415.out _; (with_reducible repeat (first | refine qav ?_ _ | refine qaw ?_ | refine qak ?_ _)); refine qej ?_ NB390_415.out _; (with_reducible repeat (first | refine qav ?_ _ | refine qaw ?_ | refine qak ?_ _)); refine qej ?_ NB390_415.out _; (with_reducible repeat (first | refine qav ?_ _ | refine qaw ?_ | refine qak ?_ _)); exact BK390.out⟩
          have n9_ : Aside0 ((((w70.setCell ⟨gb415, 0, none⟩ (.int .i64 t409)).setCell ⟨gb415, 1, none⟩ (.slice Ao76 t410.length co76)).setCell ⟨gb415, 2, none⟩ (.string t413)).heap[gb408]? = some (.cells #[.int .i64 t402, .slice Ao67 t403.length co67, .string t406] 80 (0, 0))) := ⟨by (with_reducible repeat (first | refine qav ?_ _ | refine qaw ?_ | refine qak ?_ _)); refine qej ?_ NB408_415.out _; (with_reducible repeat (first | refine qav ?_ _ | refine qaw ?_ | refine qak ?_ _)); refine qej ?_ NB408_415.out _; (with_reducible repeat (first | refine qav ?_ _ | refine qaw ?_ | refine qak ?_ _)); refine qej ?_ NB408_415.out _; (with_reducible repeat (first | refine qav ?_ _ | refine qaw ?_ | refine qak ?_ _)); exact BK408.out⟩
          have n10_ : Aside0 ((((w70.setCell ⟨gb415, 0, none⟩ (.int .i64 t409)).setCell ⟨gb415, 1, none⟩ (.slice Ao76 t410.length co76)).setCell ⟨gb415, 2, none⟩ (.string t413)).heap[gb415]? = some (.cells #[.int .i64 t409, .slice Ao76 t410.length co76, .string t413] 82 (0, 0))) := ⟨by (with_reducible repeat (first | refine qav ?_ _ | refine qaw ?_ | refine qak ?_ _)); refine qdx (cs := #[.int .i64 t409, .slice Ao76 t410.length co76, .string (⟨#[]⟩ : ByteArray)]) ?_ 2 _ rfl; (with_reducible repeat (first | refine qav ?_ _ | refine qaw ?_ | refine qak ?_ _)); refine qdx (cs := #[.int .i64 t409, .slice none 0 0, .string (⟨#[]⟩ : ByteArray)]) ?_ 1 _ rfl; (with_reducible repeat (first | refine qav ?_ _ | refine qaw ?_ | refine qak ?_ _)); refine qdx (cs := #[.int .i64 0, .slice none 0 0, .string (⟨#[]⟩ : ByteArray)]) ?_ 0 _ rfl; (with_reducible repeat (first | refine qav ?_ _ | refine qaw ?_ | refine qak ?_ _)); exact BK415.out⟩
          have n11_ : Aside0 (Below w.heap.size w (((w70.setCell ⟨gb415, 0, none⟩ (.int .i64 t409)).setCell ⟨gb415, 1, none⟩ (.slice Ao76 t410.length co76)).setCell ⟨gb415, 2, none⟩ (.string t413))) := ⟨by repeat (first | (with_reducible first | exact HB.out | apply qax | apply qaq | apply qaz | refine qaj ?_ GE388.out | refine qaj ?_ GE389.out | refine qaj ?_ GE390.out | refine qaj ?_ GE408.out | refine qaj ?_ GE415.out) | exact HB.out)⟩
          (try clear HO_389001)
          (try clear HO_390001)
          (try clear HO396)
          (try clear HO400)
          (try clear HO405)
          (try clear HO412)
          (try clear BK388)
          (try clear BK389)
          (try clear BK390)
          (try clear BK408)
          (try clear BK415)
          (try clear HB)
          generalize (((w70.setCell ⟨gb415, 0, none⟩ (.int .i64 t409)).setCell ⟨gb415, 1, none⟩ (.slice Ao76 t410.length co76)).setCell ⟨gb415, 2, none⟩ (.string t413)) = w79 at n0_ n1_ n2_ n3_ n4_ n5_ n6_ n7_ n8_ n9_ n10_ n11_ ⊢
          have HO_389001 := n0_
          have HO_390001 := n1_
          have HO396 := n2_
          have HO400 := n3_
          have HO405 := n4_
          have HO412 := n5_
          have BK388 := n6_
          have BK389 := n7_
          have BK390 := n8_
          have BK408 := n9_
          have BK415 := n10_
          have HB := n11_
          clear n0_ n1_ n2_ n3_ n4_ n5_ n6_ n7_ n8_ n9_ n10_ n11_
          have n0_ := Aside0.mk (Kd.V_drew HO_389001.out)
          have n1_ := Aside0.mk (Kd.V_drew HO_390001.out)
          have n2_ := Aside0.mk (Kd.R_drew HO396.out)
          have n3_ := Aside0.mk (Kd.R_drew HO400.out)
          have n4_ := Aside0.mk (Kd.R_drew HO405.out)
          have n5_ := Aside0.mk (Kd.R_drew HO412.out)
          have n6_ := Aside0.mk (qaw BK388.out)
          have n7_ := Aside0.mk (qaw BK389.out)
          have n8_ := Aside0.mk (qaw BK390.out)
          have n9_ := Aside0.mk (qaw BK408.out)
          have n10_ := Aside0.mk (qaw BK415.out)
          have n11_ := Aside0.mk (qaz HB.out)
          clear HO_389001
          clear HO_390001
          clear HO396
          clear HO400
          clear HO405
          clear HO412
          clear BK388
          clear BK389
          clear BK390
          clear BK408
          clear BK415
          clear HB
          have HO_389001 := n0_
          have HO_390001 := n1_
          have HO396 := n2_
          have HO400 := n3_
          have HO405 := n4_
          have HO412 := n5_
          have BK388 := n6_
          have BK389 := n7_
          have BK390 := n8_
          have BK408 := n9_
          have BK415 := n10_
          have HB := n11_
          clear n0_ n1_ n2_ n3_ n4_ n5_ n6_ n7_ n8_ n9_ n10_ n11_
          rename_i hK_
          refine D.region9 (c := { kj := kj5, g388 := gb388, g389 := gb389, g408 := gb408, g415 := gb415, co77 := co77, co78 := co78, co67 := co67, co76 := co76, c0 := c0_1, c1 := c1_1, Ao77 := Ao77, Ao78 := Ao78, Ao67 := Ao67, Ao76 := Ao76, A0 := A0_1, A1 := A1_1, t394 := t394, t398 := t398, t403 := t403, t410 := t410, l0 := l0_1, l1 := l1_1, t397 := t397, t401 := t401, t402 := t402, t407 := t407, t409 := t409, t414 := t414, a0 := a0_0, a1 := a1_0, s0 := a0_2, s1 := a1_2, t406 := t406, t413 := t413, t422 := t422, t433 := t433, t439 := t439, t416 := t416, t417 := t417, t429 := t429, t442 := t442 }) (w := w79) rfl ?hOk ?hQ
          case hOk =>
           exact { b3 := rfl, b4 := rfl, b7 := rfl, b8 := rfl, b9 := rfl, b10 := rfl, b11 := rfl, b12 := rfl, b13 := rfl, b14 := rfl, g388 := BK388.out, g389 := BK389.out, g408 := BK408.out, g415 := BK415.out, vp := Kd.V_mono (Kd.R_V (base' := 0) HO396.out) (fun _ _ => trivial), vq := Kd.V_mono (Kd.R_V (base' := 0) HO400.out) (fun _ _ => trivial), vu := Kd.V_mono (Kd.R_V (base' := 0) HO405.out) (fun _ _ => trivial), vv := Kd.V_mono (Kd.R_V (base' := 0) HO412.out) (fun _ _ => trivial), vx := Kd.V_mono (Kd.V_lower HO_389001.out (Nat.zero_le _)) (fun _ _ => trivial), vy := Kd.V_mono (Kd.V_lower HO_390001.out (Nat.zero_le _)) (fun _ _ => trivial), A39 := A39.out, A40 := A40.out, A42 := A42.out, A45 := by rw [← Ny419.out]; exact A45.out, A46 := by rw [← Ny425.out]; exact A46.out, A49 := A49.out, A50 := by rw [← Ny430.out]; exact A50.out, A51 := by rw [← Ny436.out]; exact A51.out, A52 := A52.out, e4 := eq_of_beq c41b0, e13 := eq_of_beq c44b0, e26 := eq_of_beq c48b0, e39 := eq_of_beq hr_ }
          case hQ =>
           rintro ⟨ts_, ds_⟩ w' hd_ h6_ hb_
           refine hK_ _ _ (wp_ret ?_)
           have hd1_ : ds_ = [] := hd_
           subst hd1_
           refine bodyPost_ret (results_tmp (t := 6) rfl _ _ _) rfl ⟨?_, qbj HB.out hb_⟩
           rw [hr_]
           have h7_ : ts_.getD 6 undef = .bool true := by rw [Array.getD_eq_getD_getElem?, show ts_[6]? = _ from h6_]; rfl
           rw [h7_]
         ·rw [if_neg c48] at H
          have c48b0 : (t407 == t414) = false := beq_eq_false_iff_ne.mpr c48
          have c48b1 : (t407 != t414) = true := bne_iff_ne.mpr c48
          exact absurd (hr_.symm.trans (Option.some.inj H).symm) (by decide)
        ·replace c47 := Bool.eq_false_iff.mpr c47
         subst c47
         have H1 : (some false) = some r := by rw [if_neg (show ¬ (false = true) by decide)] at H; exact H
         clear H
         have H := H1
         clear H1
         exact absurd (hr_.symm.trans (Option.some.inj H).symm) (by decide)
       ·rw [if_neg c44] at H
        have c44b0 : (t397 == t401) = false := beq_eq_false_iff_ne.mpr c44
        have c44b1 : (t397 != t401) = true := bne_iff_ne.mpr c44
        exact absurd (hr_.symm.trans (Option.some.inj H).symm) (by decide)
      ·replace c43 := Bool.eq_false_iff.mpr c43
       subst c43
       have H1 : (some false) = some r := by rw [if_neg (show ¬ (false = true) by decide)] at H; exact H
       clear H
       have H := H1
       clear H1
       exact absurd (hr_.symm.trans (Option.some.inj H).symm) (by decide)
     ·rw [if_neg c41] at H
      have c41b0 : (t416 == t417) = false := by simpa using c41
      (try (have c41b1 : decide (t416 = t417) = false := by simpa using c41))
      (try (have c41b2 : (t416 == t417) = false := by simpa using c41))
      (try (have c41b3 : ¬ (t416 = t417) := by simpa using c41))
      clear c41
      exact absurd (hr_.symm.trans (Option.some.inj H).symm) (by decide)
 ·replace c5 := Bool.eq_false_iff.mpr c5
  subst c5
  have H1 : (some false) = some r := by rw [if_neg (show ¬ (false = true) by decide)] at H; exact H
  clear H
  have H := H1
  clear H1
  exact absurd (hr_.symm.trans (Option.some.inj H).symm) (by decide)
end Go.Proofs.Ytojepleodijdeaa.B
namespace Go.Proofs.Ytojepleodijdeaa.VP
open Go.RowKit Go.Proofs.Ytojepleodijdeaa.B Go.Proofs.YtojepleodijdeaaW.PrintWords
theorem aw5_40 : aw5.f 40 = some true := by decide +kernel
theorem zlw : Ev (fun k => tumbrellaw05_awake.f k) true := by
 refine Ev.of (fun k => tumbrellaw05_awake.mono k) (k := 40) ?_
 unfold tumbrellaw05_awake.f
 rw [if_pos aw5_40]
end Go.Proofs.Ytojepleodijdeaa.VP
namespace Go.Proofs.Ytojepleodijdeaa.VP
set_option linter.unusedVariables false
set_option linter.unusedSimpArgs false
open Go.RowKit Go.Proofs.Ytojepleodijdeaa.B Go.Proofs.YtojepleodijdeaaW.PrintWords Go.Proofs.YtojepleodijdeaaW.PrintLast Go.Proofs.YtojepleodijdeaaW.PrintMore
def isB (l : List Int) : Prop := ∀ x ∈ l, 0 ≤ x ∧ x ≤ 255
theorem qzk {l : List Int} (h : ∀ x ∈ l, (Lit.int .u8 x).wf = true) : isB l := fun x hx => by
 have := h x hx
 simp [Lit.wf, IntKind.min, IntKind.max, IntKind.signed, IntKind.bits] at this
 omega
theorem zej {l : List Int} (h : isB l) (n : Nat) : isB (l.drop n) := fun x hx => h x (List.mem_of_mem_drop hx)
theorem qpz {l m : List Int} (h : isB l) (h' : isB m) : isB (l ++ m) := fun x hx => (List.mem_append.1 hx).elim (h x) (h' x)
def gget : Nat → Int → List Int → Int × Int × Int
 | _, _, [] => (0, 0, 3)
 | i, acc, c :: l =>
  if i = 9 ∧ c > 1 then (0, 0, 2)
  else if c ≥ 128 then gget (i + 1) (acc + (c % 128) * 128 ^ i) l
  else if c = 0 ∧ 0 < i then (0, 0, 2)
  else (acc + (c % 128) * 128 ^ i, (i : Int) + 1, 0)
theorem zmq (x y : Int) : bits .or .u64 x y = bits .or .u64 y x := by
 simp only [bits]; rw [BitVec.or_comm]
theorem zcz (i : Nat) : (128 : Int) ^ i = 2 ^ (7 * i) := by
 rw [show (128 : Int) = 2 ^ 7 from rfl, ← Int.pow_mul]
theorem qkq (n : Int) (h₀ : 0 ≤ n) (h₁ : n < 2 ^ 64) : IntKind.u64.wrap n = n := by rw [IntKind.wrap_u64]; omega
theorem pow_le8 (i : Nat) (hi : i ≤ 8) : (128 : Int) ^ i ≤ 72057594037927936 := by
 rw [show (72057594037927936 : Int) = 128 ^ 8 from rfl]
 exact_mod_cast Nat.pow_le_pow_right (show 0 < 128 by decide) hi
theorem qnk (i : Nat) : (0 : Int) < 128 ^ i := Int.pow_pos (by decide)
theorem zmz (i : Nat) (hi : i ≤ 9) : (128 : Int) ^ i ≤ 9223372036854775808 := by
 rw [show (9223372036854775808 : Int) = 128 ^ 9 from rfl]
 exact_mod_cast Nat.pow_le_pow_right (show 0 < 128 by decide) hi
theorem zcx (i : Nat) (hi : i ≤ 9) (c : Int) (h0 : 0 ≤ c) (h1 : i = 9 → c ≤ 1) : 0 ≤ (c % 128) * 128 ^ i ∧ (c % 128) * 128 ^ i ≤ 9223372036854775808 := by
 have hp := qnk i
 refine ⟨Int.mul_nonneg (by omega) (by omega), ?_⟩
 rcases Nat.lt_or_ge i 9 with h9 | h9
 ·have h8 := pow_le8 i (by omega)
  calc (c % 128) * 128 ^ i ≤ 127 * 128 ^ i := Int.mul_le_mul_of_nonneg_right (by omega) (by omega)
   _ ≤ 9223372036854775808 := by omega
 ·have : i = 9 := by omega
  subst this
  have := h1 rfl
  have h2 : c % 128 ≤ 1 := by omega
  omega
theorem or_step (i : Nat) (hi : i ≤ 9) (acc c : Int) (h0 : 0 ≤ acc) (h1 : acc < 128 ^ i) (hc0 : 0 ≤ c) (hc : i = 9 → c ≤ 1) :
  bits .or .u64 acc (shl .u64 (IntKind.u64.wrap (Int.tmod c 128)) (7 * (i : Int))) = acc + (c % 128) * 128 ^ i := by
 have hp := zcx i hi c hc0 hc
 have h9 := zmz i hi
 rw [Int.tmod_eq_emod_of_nonneg hc0, qkq (c % 128) (by omega) (by omega)]
 have e : min (7 * (i : Int)).toNat IntKind.u64.bits = 7 * i := by
  have : (7 * (i : Int)).toNat = 7 * i := by omega
  rw [this]; simp [IntKind.bits]; omega
 rw [shl, e, ← zcz, qkq _ hp.1 (by omega), zmq]
 have hw : ∀ n : Int, 0 ≤ n → n < 2 ^ 64 → IntKind.u64.wrap n = n := qkq
 rw [bits_join .u64 64 (by decide) hw (7 * i) _ acc hp.1 (by rw [← zcz]; exact Int.mul_emod_left _ _) (by omega) h0 (by rw [← zcz]; exact h1) (by omega)]
 omega
theorem qkz {l : List Int} {i : Nat} (h : i < l.length) : rd l (i : Int) = l[i] := by
 simp [rd, List.getD_eq_getElem?_getD, List.getElem?_eq_getElem h]
theorem qhq (i : Nat) (h : i < 9223372036854775807) : wrap64 ((i : Int) + 1) = ((i + 1 : Nat) : Int) := by
 unfold wrap64; omega
theorem wrap_7 (i : Nat) (h : i ≤ 9) : wrap64 (7 * (i : Int)) = 7 * (i : Int) := by
 unfold wrap64; omega
theorem get_loop (l : List Int) (hb : isB l) (hl : l.length ≤ 140737488355328) : ∀ (d i : Nat) (acc : Int), l.length - i = d → i ≤ 9 → 0 ≤ acc → acc < 128 ^ i →
  Ev (fun k => vint_Get.l0 k acc l (l.length : Int) (i : Int)) (gget i acc (l.drop i)) := by
 intro d
 induction d with
 | zero =>
  intro i acc hd hi h0 h1
  rw [List.drop_of_length_le (by omega)]
  refine Ev.step (f := fun _ => some (0, 0, 3)) (fun k => ?_) (Ev.now _)
  simp only [vint_Get.l0]
  rw [if_neg (by omega)]
 | succ d ih =>
  intro i acc hd hi h0 h1
  have hlt : i < l.length := by omega
  have hc := hb l[i] (List.getElem_mem hlt)
  rw [List.drop_eq_getElem_cons hlt]
  refine Ev.step (f := fun k => vint_Get.j1 k acc i l[i] l (l.length : Int) i (decide (i = 9) && decide (l[i] > 1))) (fun k => ?_) ?_
  ·simp only [vint_Get.l0]
   rw [if_pos (by omega), if_pos (by omega), if_pos (by omega), qkz hlt]
   by_cases h9 : i = 9
   ·subst h9; simp
   ·rw [if_neg (by omega)]; simp [h9]
  ·have hw7 := wrap_7 i hi
   by_cases hbad : i = 9 ∧ l[i] > 1
   ·refine Ev.step (f := fun _ => some (0, 0, 2)) (fun k => ?_) (by rw [gget, if_pos hbad]; exact Ev.now _)
    simp only [vint_Get.j1]
    rw [if_pos (by rw [Bool.and_eq_true]; exact ⟨decide_eq_true hbad.1, decide_eq_true hbad.2⟩)]
   ·have hcond : (decide (i = 9) && decide (l[i] > 1)) = false := by
     simp only [Bool.and_eq_false_iff, decide_eq_false_iff_not]
     by_cases h9 : i = 9
     ·exact .inr (fun h => hbad ⟨h9, h⟩)
     ·exact .inl h9
    have hor := or_step i hi acc l[i] h0 h1 hc.1 (fun h9 => by have := fun h => hbad ⟨h9, h⟩; omega)
    rw [hcond, gget, if_neg hbad]
    by_cases h128 : l[i] ≥ 128
    ·rw [if_pos h128]
     have hi8 : i ≤ 8 := by
      rcases Nat.lt_or_ge i 9 with h | h
      ·omega
      ·exact absurd ⟨by omega, by omega⟩ hbad
     refine Ev.step (f := fun k => vint_Get.l0 k (acc + (l[i] % 128) * 128 ^ i) l (l.length : Int) ((i + 1 : Nat) : Int)) (fun k => ?_) ?_
     ·simp only [vint_Get.j1]
      rw [if_neg (by decide), hw7, if_pos (by omega), if_pos h128, hor, qhq i (by omega)]
     ·refine ih (i + 1) _ (by omega) (by omega) ?_ ?_
      ·have := zcx i hi l[i] hc.1 (fun h => by omega)
       omega
      ·have hp := qnk i
       rw [Int.pow_succ]
       have : (l[i] % 128) * 128 ^ i ≤ 127 * 128 ^ i := Int.mul_le_mul_of_nonneg_right (by omega) (by omega)
       omega
    ·rw [if_neg h128]
     by_cases hz : l[i] = 0 ∧ 0 < i
     ·rw [if_pos hz]
      refine Ev.step (f := fun _ => some (0, 0, 2)) (fun k => ?_) (Ev.now _)
      simp only [vint_Get.j1]
      rw [if_neg (by decide), hw7, if_pos (by omega), if_neg h128, if_pos hz.1, if_pos (by omega)]
     ·rw [if_neg hz]
      refine Ev.step (f := fun _ => some (acc + (l[i] % 128) * 128 ^ i, (i : Int) + 1, 0)) (fun k => ?_) (Ev.now _)
      simp only [vint_Get.j1]
      rw [if_neg (by decide), hw7, if_pos (by omega), if_neg h128, hor, qhq i (by omega)]
      by_cases h0' : l[i] = 0
      ·rw [if_pos h0', if_neg (by omega)]; rfl
      ·rw [if_neg h0']; rfl
theorem get_ev (l : List Int) (hb : isB l) (hl : l.length ≤ 140737488355328) : Ev (fun k => vint_Get.f k l) (gget 0 0 l) := by
 have := get_loop l hb hl l.length 0 0 (by omega) (by omega) (by omega) (by decide)
 simpa [vint_Get.f] using this
end Go.Proofs.Ytojepleodijdeaa.VP
namespace Go.Proofs.Ytojepleodijdeaa.VP
set_option linter.unusedVariables false
set_option linter.unusedSimpArgs false
open Go.RowKit Go.Proofs.Ytojepleodijdeaa.B Go.Proofs.YtojepleodijdeaaW.PrintWords Go.Proofs.YtojepleodijdeaaW.PrintLast Go.Proofs.YtojepleodijdeaaW.PrintMore
theorem zmx (l : List Int) : ∀ (i : Nat) (acc m u : Int), isB l → i ≤ 9 → gget i acc l = (m, u, 0) →
  ∃ n : Nat, m = acc + (n : Int) * 128 ^ i ∧ u = ((i + (qix (9 - i) n).length : Nat) : Int) ∧ l.take (qix (9 - i) n).length = qix (9 - i) n ∧ (qix (9 - i) n).length ≤ l.length ∧ (0 < i → 0 < n) ∧ n < 128 ^ (9 - i) * 2 := by
 induction l with
 | nil => intro i acc m u _ _ h; simp [gget] at h
 | cons c l ih =>
  intro i acc m u hb hi h
  have hc := hb c (List.mem_cons_self ..)
  have hb' : isB l := fun x hx => hb x (List.mem_cons_of_mem _ hx)
  have hp : 0 < 128 ^ (9 - i) := Nat.pow_pos (by decide)
  rw [gget] at h
  by_cases h1 : i = 9 ∧ c > 1
  ·rw [if_pos h1] at h; simp at h
  rw [if_neg h1] at h
  by_cases h2 : c ≥ 128
  ·rw [if_pos h2] at h
   have hi8 : i ≤ 8 := by
    rcases Nat.lt_or_ge i 9 with h | h
    ·omega
    ·exact absurd ⟨by omega, by omega⟩ h1
   obtain ⟨n, e1, e2, e3, e4, e5, e6⟩ := ih (i + 1) _ _ _ hb' (by omega) h
   have hn := e5 (by omega)
   refine ⟨128 * n + (c % 128).toNat, ?_, ?_, ?_, ?_, by omega, ?_⟩
   all_goals
    have e9 : 9 - i = (9 - (i + 1)) + 1 := by omega
    have hv : qix (9 - i) (128 * n + (c % 128).toNat) = c :: qix (9 - (i + 1)) n := by
     rw [e9, qix, if_neg (by omega)]
     have q1 : (128 * n + (c % 128).toNat) / 128 = n := by omega
     have q2 : (((128 * n + (c % 128).toNat) % 128 + 128 : Nat) : Int) = c := by omega
     rw [q1, q2]
   ·rw [e1, Int.pow_succ]
    have : ((128 * n + (c % 128).toNat : Nat) : Int) = 128 * (n : Int) + c % 128 := by omega
    rw [this, Int.add_mul, Int.mul_comm (128 ^ i) 128, ← Int.mul_assoc, Int.mul_comm (n : Int) 128]
    omega
   ·rw [e2, hv, List.length_cons]; omega
   ·rw [hv, List.length_cons, List.take_succ_cons, e3]
   ·rw [hv, List.length_cons, List.length_cons]; omega
   ·rw [e9, Nat.pow_succ]; omega
  ·rw [if_neg h2] at h
   by_cases h3 : c = 0 ∧ 0 < i
   ·rw [if_pos h3] at h; simp at h
   rw [if_neg h3] at h
   simp only [Prod.mk.injEq, and_true] at h
   have hv : qix (9 - i) c.toNat = [c] := by
    have q : ((c.toNat : Nat) : Int) = c := by omega
    cases h9 : 9 - i with
    | zero => simp [qix, q]
    | succ j => rw [qix, if_pos (by omega), q]
   refine ⟨c.toNat, ?_, ?_, ?_, ?_, by omega, ?_⟩
   ·rw [← h.1]
    have q : c % 128 = ((c.toNat : Nat) : Int) := by omega
    rw [q]
   ·rw [hv, ← h.2]; simp
   ·rw [hv]; rfl
   ·rw [hv]; simp
   ·rcases Nat.lt_or_ge i 9 with h9 | h9
    ·have : 128 ^ 1 ≤ 128 ^ (9 - i) := Nat.pow_le_pow_right (by decide) (by omega)
     omega
    ·have : i = 9 := by omega
     subst this
     simp
     omega
theorem zmj (k : Nat) : ∀ n, n < 128 ^ (k + 1) → isB (qix k n) := by
 induction k with
 | zero => intro n hn x hx; simp [qix] at hx; subst hx; omega
 | succ k ih =>
  intro n hn x hx
  unfold qix at hx
  split at hx
  ·simp at hx; subst hx; omega
  ·rcases List.mem_cons.1 hx with rfl | hx
   ·omega
   ·exact ih _ (by rw [Nat.div_lt_iff_lt_mul (by decide)]; rw [Nat.pow_succ] at hn; exact hn) x hx
def vput (n : Nat) : List Int := qix 9 n
theorem vput_f {a : Int} (h0 : 0 ≤ a) (h1 : a < 18446744073709551616) : vint_Put.f a = some (vput a.toNat) := by
 unfold vint_Put.f vput; rw [if_pos ⟨h0, h1⟩]
theorem wf_u64 {a : Int} (h : (Lit.int .u64 a).wf = true) : 0 ≤ a ∧ a < 18446744073709551616 := by
 simp [Lit.wf, IntKind.min, IntKind.max, IntKind.signed, IntKind.bits] at h
 omega
theorem vput_isB {n : Nat} (h : n < 18446744073709551616) : isB (vput n) := zmj 9 n (Nat.lt_trans h (by decide))
theorem qwx {x y : Int} {l m : List Int} (h : x = y) : decide (x :: l = y :: m) = decide (l = m) := by subst h; simp
theorem qoz {x y : Int} {l m : List Int} (h : x ≠ y) : decide (x :: l = y :: m) = false := by simp [h]
theorem zmk (a b : List Int) (hl : a.length = b.length) (h : a.length ≤ 140737488355328) : ∀ (d i : Nat), a.length - i = d → Ev (fun k => tumbrelref01_Same.l0 k a b (i : Int)) (decide (a.drop i = b.drop i)) := by
 intro d
 induction d with
 | zero =>
  intro i hd
  refine Ev.step (f := fun _ => some true) (fun k => ?_) ?_
  ·simp only [tumbrelref01_Same.l0]; rw [if_neg (by omega)]
  ·rw [List.drop_of_length_le (by omega), List.drop_of_length_le (by omega)]; exact Ev.now _
 | succ d ih =>
  intro i hd
  have h1 : i < a.length := by omega
  have h2 : i < b.length := by omega
  rw [List.drop_eq_getElem_cons h1, List.drop_eq_getElem_cons h2]
  by_cases he : a[i] = b[i]
  ·refine Ev.step (f := fun k => tumbrelref01_Same.l0 k a b ((i + 1 : Nat) : Int)) (fun k => ?_) ?_
   ·simp only [tumbrelref01_Same.l0]
    rw [if_pos (by omega), if_pos (by omega), if_pos (by omega), qkz h1, qkz h2, if_pos he, qhq i (by omega)]
   ·rw [qwx he]; exact ih (i + 1) (by omega)
  ·refine Ev.step (f := fun _ => some false) (fun k => ?_) ?_
   ·simp only [tumbrelref01_Same.l0]
    rw [if_pos (by omega), if_pos (by omega), if_pos (by omega), qkz h1, qkz h2, if_neg he]
   ·rw [qoz he]; exact Ev.now _
theorem same_ev (a b : List Int) (h : a.length ≤ 140737488355328) : Ev (fun k => tumbrelref01_Same.f k a b) (decide (a = b)) := by
 by_cases hl : a.length = b.length
 ·refine Ev.congr (f := fun k => tumbrelref01_Same.l0 k a b ((0 : Nat) : Int)) (fun k => ?_) ?_
  ·simp only [tumbrelref01_Same.f]; rw [if_pos (by omega)]; rfl
  ·have := zmk a b hl h a.length 0 (by omega)
   simpa using this
 ·refine Ev.congr (f := fun _ => some false) (fun k => ?_) ?_
  ·simp only [tumbrelref01_Same.f]; rw [if_neg (by omega)]
  ·have : decide (a = b) = false := by simp; intro e; exact hl (by rw [e])
   rw [this]; exact Ev.now _
theorem zgk (a b : List Int) (hl : a.length = b.length) (h : a.length ≤ 140737488355328) : ∀ (d i : Nat), a.length - i = d → Ev (fun k => tumbrelref02_Same.l0 k a b (i : Int)) (decide (a.drop i = b.drop i)) := by
 intro d
 induction d with
 | zero =>
  intro i hd
  refine Ev.step (f := fun _ => some true) (fun k => ?_) ?_
  ·simp only [tumbrelref02_Same.l0]; rw [if_neg (by omega)]
  ·rw [List.drop_of_length_le (by omega), List.drop_of_length_le (by omega)]; exact Ev.now _
 | succ d ih =>
  intro i hd
  have h1 : i < a.length := by omega
  have h2 : i < b.length := by omega
  rw [List.drop_eq_getElem_cons h1, List.drop_eq_getElem_cons h2]
  by_cases he : a[i] = b[i]
  ·refine Ev.step (f := fun k => tumbrelref02_Same.l0 k a b ((i + 1 : Nat) : Int)) (fun k => ?_) ?_
   ·simp only [tumbrelref02_Same.l0]
    rw [if_pos (by omega), if_pos (by omega), if_pos (by omega), qkz h1, qkz h2, if_pos he, qhq i (by omega)]
   ·rw [qwx he]; exact ih (i + 1) (by omega)
  ·refine Ev.step (f := fun _ => some false) (fun k => ?_) ?_
   ·simp only [tumbrelref02_Same.l0]
    rw [if_pos (by omega), if_pos (by omega), if_pos (by omega), qkz h1, qkz h2, if_neg he]
   ·rw [qoz he]; exact Ev.now _
theorem zek (a b : List Int) (h : a.length ≤ 140737488355328) : Ev (fun k => tumbrelref02_Same.f k a b) (decide (a = b)) := by
 by_cases hl : a.length = b.length
 ·refine Ev.congr (f := fun k => tumbrelref02_Same.l0 k a b ((0 : Nat) : Int)) (fun k => ?_) ?_
  ·simp only [tumbrelref02_Same.f]; rw [if_pos (by omega)]; rfl
  ·have := zgk a b hl h a.length 0 (by omega)
   simpa using this
 ·refine Ev.congr (f := fun _ => some false) (fun k => ?_) ?_
  ·simp only [tumbrelref02_Same.f]; rw [if_neg (by omega)]
  ·have : decide (a = b) = false := by simp; intro e; exact hl (by rw [e])
   rw [this]; exact Ev.now _
end Go.Proofs.Ytojepleodijdeaa.VP
namespace Go.Proofs.Ytojepleodijdeaa.VP
set_option linter.unusedVariables false
set_option linter.unusedSimpArgs false
open Go.RowKit Go.Proofs.Ytojepleodijdeaa.B Go.Proofs.YtojepleodijdeaaW.PrintWords Go.Proofs.YtojepleodijdeaaW.PrintLast Go.Proofs.YtojepleodijdeaaW.PrintMore
open Go.Proofs.Ytojepleodijdeaa.Crc (qjx)
theorem w32_of {a : Int} (h : 0 ≤ a ∧ a < 4294967296) : w32 (BitVec.ofNat 32 a.toNat) = a := by
 unfold w32; rw [BitVec.toNat_ofNat]; omega
theorem zmv (x : BitVec 32) : w32 (~~~ x) = 4294967295 - w32 x := by
 have := x.isLt
 unfold w32; rw [BitVec.toNat_not]; omega
def moreL (a : Int) (l : List Int) : Int := w32 (~~~ crcL (~~~ BitVec.ofNat 32 a.toNat) l)
theorem ofL_lt (l : List Int) : 0 ≤ ofL l ∧ ofL l < 4294967296 := qtw _
theorem put_f {l : List Int} (hb : isB l) (hl : l.length ≤ 1000000000) : sum_Put.f l = some (putL l) := by
 unfold sum_Put.f; rw [if_pos ⟨hb, by omega⟩]
theorem qzv (a : Int) : (qwq a).length = 4 := rfl
theorem qnv (l : List Int) : (putL l).length = l.length + 4 := by simp [putL, qzv]
theorem zgv (l : List Int) (hb : isB l) (hl : l.length ≤ 1000000000) : ∀ (d i : Nat) (s : BitVec 32), l.length - i = d → Ev (fun k => tumbrelref01_More.l0 k l (w32 s) (i : Int)) (w32 (~~~ crcL s (l.drop i))) := by
 intro d
 induction d with
 | zero =>
  intro i s hd
  rw [List.drop_of_length_le (by omega)]
  refine Ev.step (f := fun _ => some (w32 (~~~ s))) (fun k => ?_) (Ev.now _)
  have h := qtw s
  simp only [tumbrelref01_More.l0]
  rw [if_neg (by omega), zmv]
  congr 1
  omega
 | succ d ih =>
  intro i s hd
  have h1 : i < l.length := by omega
  have hc := hb l[i] (List.getElem_mem h1)
  rw [List.drop_eq_getElem_cons h1]
  obtain ⟨K, hK⟩ := zlx (s ^^^ b32 l[i])
  obtain ⟨K2, hK2⟩ := ih (i + 1) (qoq s l[i]) (by omega)
  dsimp only at hK hK2
  refine ⟨K + K2 + 1, fun k hk => ?_⟩
  obtain ⟨k, rfl⟩ : ∃ m, k = m + 1 := ⟨k - 1, by omega⟩
  simp only [tumbrelref01_More.l0]
  rw [if_pos (by omega), if_pos (by omega), qkz h1, show l[i] % (4294967296 : Int) = w32 (b32 l[i]) by rw [b32_val hc]; omega, zgz, hK k (by omega)]
  simp only [Option.bind_some]
  rw [qhq i (by omega)]
  exact hK2 k (by omega)
theorem rmore_ev {a : Int} {l : List Int} (h : 0 ≤ a ∧ a < 4294967296) (hb : isB l) (hl : l.length ≤ 1000000000) : Ev (fun k => tumbrelref01_More.f k a l) (moreL a l) := by
 have := zgv l hb hl l.length 0 (~~~ BitVec.ofNat 32 a.toNat) (by omega)
 rw [zmv, w32_of h] at this
 refine Ev.congr (fun k => ?_) this
 simp only [tumbrelref01_More.f]
 rw [show ((4294967295 : Int) - a) % 4294967296 = 4294967295 - a by omega]
 rfl
theorem rof_ev {l : List Int} (hb : isB l) (hl : l.length ≤ 1000000000) : Ev (fun k => tumbrelref01_Of.f k l) (ofL l) := by
 obtain ⟨K, hK⟩ := rmore_ev (a := 0) (by decide) hb hl
 exact ⟨K, fun k hk => by have := hK k hk; dsimp only at this; simp only [tumbrelref01_Of.f, this, Option.bind_some]; rfl⟩
theorem rfour_ev {a : Int} (h : 0 ≤ a ∧ a < 4294967296) : Ev (fun k => tumbrelref01_Four.f k a) (qwq a) := by
 refine ⟨5, fun k hk => qxx (g := fun k => tumbrelref01_Four.f k a) (fun k => tumbrelref01_Four.mono a k) hk ?_⟩
 have d : ∀ x : Int, 0 ≤ x → Int.tdiv x 256 = x / 256 := fun x hx => Int.tdiv_eq_ediv_of_nonneg hx
 have m : ∀ x : Int, 0 ≤ x → Int.tmod x 256 = x % 256 := fun x hx => Int.tmod_eq_emod_of_nonneg hx
 have w : ∀ i : Int, 0 ≤ i → i < 10 → wrap64 (i + 1) = i + 1 := fun i h0 h1 => by unfold wrap64; omega
 simp only [tumbrelref01_Four.f, tumbrelref01_Four.l0]
 rw [if_pos (by decide), if_pos (by decide), w 0 (by decide) (by decide), if_pos (by decide), if_pos (by simp), w (0 + 1) (by decide) (by decide), if_pos (by decide), if_pos (by simp), w (0 + 1 + 1) (by decide) (by decide), if_pos (by decide), if_pos (by simp), w (0 + 1 + 1 + 1) (by decide) (by decide), if_neg (by decide)]
 simp only [List.nil_append, List.cons_append, qwq]
 congr 1
 rw [d a h.1, d _ (by omega), d _ (by omega), m a h.1, m _ (by omega), m _ (by omega), m _ (by omega)]
 simp only [List.cons.injEq, and_true]
 omega
theorem zev {l : List Int} (hb : isB l) (hl : l.length ≤ 1000000000) : Ev (fun k => tumbrelref01_Put.f k l) (putL l) := by
 obtain ⟨K1, h1⟩ := rof_ev hb hl
 obtain ⟨K2, h2⟩ := rfour_ev (ofL_lt l)
 dsimp only at h1 h2
 refine ⟨K1 + K2, fun k hk => ?_⟩
 simp only [tumbrelref01_Put.f, Option.bind_some, List.nil_append, List.length_nil]
 rw [if_pos (by omega), h1 k (by omega)]
 simp only [Option.bind_some]
 rw [h2 k (by omega)]
 simp only [Option.bind_some]
 rw [if_pos (by rw [qzv]; omega)]
 rfl
end Go.Proofs.Ytojepleodijdeaa.VP
namespace Go.Proofs.Ytojepleodijdeaa.VP
set_option linter.unusedVariables false
set_option linter.unusedSimpArgs false
open Go.RowKit Go.Proofs.Ytojepleodijdeaa.B Go.Proofs.YtojepleodijdeaaW.PrintWords Go.Proofs.YtojepleodijdeaaW.PrintLast Go.Proofs.YtojepleodijdeaaW.PrintMore
def two (h : List Int) : Int := h.getD 1 0 + 256 * h.getD 2 0
end Go.Proofs.Ytojepleodijdeaa.VP
namespace Go.Proofs.Ytojepleodijdeaa.VP
set_option linter.unusedVariables false
set_option linter.unusedSimpArgs false
open Go.RowKit Go.Proofs.Ytojepleodijdeaa.B Go.Proofs.YtojepleodijdeaaW.PrintWords Go.Proofs.YtojepleodijdeaaW.PrintLast Go.Proofs.YtojepleodijdeaaW.PrintMore
def isU (l : List Int) : Prop := ∀ x ∈ l, 0 ≤ x ∧ x < 18446744073709551616
theorem zmw {l : List Int} (h : ∀ x ∈ l, (Lit.int .u64 x).wf = true) : isU l := fun x hx => wf_u64 (h x hx)
def vall : List Int → List Int
 | [] => []
 | x :: l => vput x.toNat ++ vall l
theorem qwj (n : Nat) : 1 ≤ (vput n).length ∧ (vput n).length ≤ 10 := qlz 9 n
theorem vall_len (l : List Int) : (vall l).length ≤ 10 * l.length := by
 induction l with
 | nil => simp [vall]
 | cons x l ih => have := (qwj x.toNat).2; simp only [vall, List.length_append, List.length_cons]; omega
theorem zew {l : List Int} (h : isU l) : isB (vall l) := by
 induction l with
 | nil => intro x hx; cases hx
 | cons x l ih =>
  have hx := h x (List.mem_cons_self ..)
  exact qpz (vput_isB (by omega)) (ih fun y hy => h y (List.mem_cons_of_mem _ hy))
theorem vput_f' {a : Int} (h : 0 ≤ a ∧ a < 18446744073709551616) : vint_Put.f a = some (vput a.toNat) := vput_f h.1 h.2
theorem qrk {l : List Int} {i : Nat} (h : i < l.length) : l.drop i = l[i] :: l.drop (i + 1) := List.drop_eq_getElem_cons h
theorem all_loop (l : List Int) (hu : isU l) (hl : l.length ≤ 1000000000) : ∀ (d i : Nat) (out : List Int), l.length - i = d → out.length ≤ 10 * i →
  Ev (fun k => vint_All.l0 k out l (l.length : Int) (i : Int)) (out ++ vall (l.drop i)) := by
 intro d
 induction d with
 | zero =>
  intro i out hd ho
  refine Ev.step (f := fun _ => some out) (fun k => ?_) ?_
  ·simp only [vint_All.l0]; rw [if_neg (by omega)]
  ·rw [List.drop_of_length_le (by omega)]; simp only [vall, List.append_nil]; exact Ev.now _
 | succ d ih =>
  intro i out hd ho
  have h1 : i < l.length := by omega
  have hx := hu l[i] (List.getElem_mem h1)
  have hv := qwj l[i].toNat
  refine Ev.step (f := fun k => vint_All.l0 k (out ++ vput l[i].toNat) l (l.length : Int) ((i + 1 : Nat) : Int)) (fun k => ?_) ?_
  ·simp only [vint_All.l0]
   rw [if_pos (by omega), if_pos (by omega), if_pos (by omega), qkz h1, vput_f' hx]
   simp only [Option.bind_some]
   rw [if_pos (by omega), qhq i (by omega)]
  ·rw [qrk h1]
   have := ih (i + 1) (out ++ vput l[i].toNat) (by omega) (by rw [List.length_append]; omega)
   rw [List.append_assoc] at this
   exact this
theorem all_ev (l : List Int) (hu : isU l) (hl : l.length ≤ 1000000000) : Ev (fun k => vint_All.f k l) (vall l) := by
 have := all_loop l hu hl l.length 0 [] (by omega) (by simp)
 simpa [vint_All.f] using this
theorem qzw {l : List Int} (hb : isB l) (h : (gget 0 0 l).2.2 = 0) : 1 ≤ (gget 0 0 l).2.1 ∧ (gget 0 0 l).2.1 ≤ l.length := by
 obtain ⟨n, _, h2, h3, h4, _⟩ := zmx l 0 0 (gget 0 0 l).1 (gget 0 0 l).2.1 hb (by omega) (Prod.ext rfl (Prod.ext rfl h))
 have := qlz (9 - 0) n
 omega
end Go.Proofs.Ytojepleodijdeaa.VP
namespace Go.Proofs.Ytojepleodijdeaa.VP
set_option linter.unusedVariables false
set_option linter.unusedSimpArgs false
open Go.RowKit Go.Proofs.Ytojepleodijdeaa.B Go.Proofs.YtojepleodijdeaaW.PrintWords Go.Proofs.YtojepleodijdeaaW.PrintLast Go.Proofs.YtojepleodijdeaaW.PrintMore
theorem rput_ev' (j : Nat) : ∀ n : Nat, j ≤ 9 → n < 128 ^ (j + 1) → n < 18446744073709551616 → Ev (fun k => tumbrelref02_Put.f k (n : Int)) (qix j n) := by
 induction j with
 | zero =>
  intro n _ hn _
  refine Ev.step (f := fun _ => some [(n : Int)]) (fun k => ?_) (by simp only [qix]; exact Ev.now _)
  simp only [tumbrelref02_Put.f]
  rw [if_pos (by omega), show (n : Int) % 256 = n by omega]
 | succ j ih =>
  intro n hj hn h64
  by_cases h : n < 128
  ·refine Ev.step (f := fun _ => some [(n : Int)]) (fun k => ?_) (by rw [qix, if_pos h]; exact Ev.now _)
   simp only [tumbrelref02_Put.f]
   rw [if_pos (by omega), show (n : Int) % 256 = n by omega]
  ·have hd : n / 128 < 128 ^ (j + 1) := by rw [Nat.div_lt_iff_lt_mul (by decide)]; rw [Nat.pow_succ] at hn; exact hn
   have hl := qlz j (n / 128)
   obtain ⟨K, hK⟩ := ih (n / 128) (by omega) hd (by omega)
   dsimp only at hK
   refine ⟨K + 1, fun k hk => ?_⟩
   obtain ⟨k, rfl⟩ : ∃ m, k = m + 1 := ⟨k - 1, by omega⟩
   have e1 : IntKind.u64.wrap (Int.tdiv (n : Int) 128) = ((n / 128 : Nat) : Int) := by
    rw [Int.tdiv_eq_ediv_of_nonneg (by omega), qkq _ (by omega) (by omega)]; omega
   have e2 : (IntKind.u64.wrap (128 + Int.tmod (n : Int) 128)) % 256 = ((n % 128 + 128 : Nat) : Int) := by
    rw [Int.tmod_eq_emod_of_nonneg (by omega), qkq _ (by omega) (by omega)]; omega
   simp only [tumbrelref02_Put.f]
   rw [if_neg (by omega), e1, e2, hK k (by omega)]
   simp only [Option.bind_some, List.length_singleton]
   rw [qix, if_neg h, if_pos (by omega)]
   rfl
theorem rput_ev {a : Int} (h : 0 ≤ a ∧ a < 18446744073709551616) : Ev (fun k => tumbrelref02_Put.f k a) (vput a.toNat) := by
 have := rput_ev' 9 a.toNat (by omega) (Nat.lt_trans (by omega : a.toNat < 18446744073709551616) (by decide)) (by omega)
 rwa [show ((a.toNat : Nat) : Int) = a by omega] at this
theorem znq (l : List Int) (hu : isU l) (hl : l.length ≤ 1000000000) : ∀ (d i : Nat) (out : List Int), l.length - i = d → out.length ≤ 10 * i →
  Ev (fun k => tumbrelref02_All.l0 k l out (i : Int)) (out ++ vall (l.drop i)) := by
 intro d
 induction d with
 | zero =>
  intro i out hd ho
  refine Ev.step (f := fun _ => some out) (fun k => ?_) ?_
  ·simp only [tumbrelref02_All.l0]; rw [if_neg (by omega)]
  ·rw [List.drop_of_length_le (by omega)]; simp only [vall, List.append_nil]; exact Ev.now _
 | succ d ih =>
  intro i out hd ho
  have h1 : i < l.length := by omega
  have hx := hu l[i] (List.getElem_mem h1)
  have hv := qwj l[i].toNat
  obtain ⟨K, hK⟩ := rput_ev hx
  obtain ⟨K2, hK2⟩ := ih (i + 1) (out ++ vput l[i].toNat) (by omega) (by rw [List.length_append]; omega)
  dsimp only at hK hK2
  refine ⟨K + K2 + 1, fun k hk => ?_⟩
  obtain ⟨k, rfl⟩ : ∃ m, k = m + 1 := ⟨k - 1, by omega⟩
  simp only [tumbrelref02_All.l0]
  rw [if_pos (by omega), if_pos (by omega), qkz h1, hK k (by omega)]
  simp only [Option.bind_some]
  rw [if_pos (by omega), qhq i (by omega), hK2 k (by omega), qrk h1, List.append_assoc]
  rfl
theorem rall_ev (l : List Int) (hu : isU l) (hl : l.length ≤ 1000000000) : Ev (fun k => tumbrelref02_All.f k l) (vall l) := by
 have := znq l hu hl l.length 0 [] (by omega) (by simp)
 simpa [tumbrelref02_All.f] using this
def val (l : List Int) : Nat → Int
 | 0 => 0
 | i + 1 => val l i + (l.getD i 0 % 128) * 128 ^ i
theorem val_bd (l : List Int) : ∀ i, 0 ≤ val l i ∧ val l i < 128 ^ i := by
 intro i
 induction i with
 | zero => simp [val]
 | succ i ih =>
  have hp := qnk i
  have h1 : 0 ≤ (l.getD i 0 % 128) * 128 ^ i := Int.mul_nonneg (by omega) (by omega)
  have h2 : (l.getD i 0 % 128) * 128 ^ i ≤ 127 * 128 ^ i := Int.mul_le_mul_of_nonneg_right (by omega) (by omega)
  simp only [val, Int.pow_succ]
  omega
theorem zcj {l : List Int} {i : Nat} (h : i < l.length) : l.getD i 0 = l[i] := by
 simp [List.getD_eq_getElem?_getD, List.getElem?_eq_getElem h]
theorem znz (l : List Int) (hb : isB l) (hl : l.length ≤ 140737488355328) (many : Nat) (hm : many < l.length) (T : Int) (hT : T = val l (many + 1)) (hT64 : T < 18446744073709551616) : ∀ (j : Nat) (n : Int), j ≤ many + 1 → 0 ≤ n → n * 128 ^ j + val l j = T →
  Ev (fun k => tumbrelref02_Get.l1 k l (many : Int) n ((j : Int) - 1)) (T, (many : Int) + 1, 0) := by
 intro j
 induction j with
 | zero =>
  intro n hj hn he
  refine Ev.step (f := fun _ => some (T, (many : Int) + 1, 0)) (fun k => ?_) (Ev.now _)
  simp only [tumbrelref02_Get.l1]
  rw [if_neg (by omega), qhq many (by omega)]
  simp [val] at he
  rw [he]; rfl
 | succ j ih =>
  intro n hj hn he
  have h1 : j < l.length := by omega
  have hc := hb l[j] (List.getElem_mem h1)
  have hp := qnk j
  have hv := val_bd l j
  simp only [val, zcj h1] at he
  have he2 : (128 * n + l[j] % 128) * 128 ^ j + val l j = T := by
   rw [← he, Int.pow_succ, Int.add_mul, Int.mul_comm (128 ^ j) 128, ← Int.mul_assoc, Int.mul_comm n 128]
   omega
  have hn' : 0 ≤ 128 * n + l[j] % 128 := by omega
  have hle : 128 * n + l[j] % 128 ≤ T := by
   have h3 : (128 * n + l[j] % 128) * 1 ≤ (128 * n + l[j] % 128) * 128 ^ j := Int.mul_le_mul_of_nonneg_left (by omega) hn'
   omega
  refine Ev.step (f := fun k => tumbrelref02_Get.l1 k l (many : Int) (128 * n + l[j] % 128) ((j : Int) - 1)) (fun k => ?_) (ih _ (by omega) hn' he2)
  simp only [tumbrelref02_Get.l1]
  have ej : (((j + 1 : Nat) : Int) - 1) = (j : Int) := by omega
  rw [ej, if_pos (by omega), if_pos (by omega), if_pos (by omega), qkz h1, Int.tmod_eq_emod_of_nonneg hc.1]
  rw [qkq (128 * n) (by omega) (by omega), qkq (l[j] % 128) (by omega) (by omega), qkq _ hn' (by omega)]
  rw [show wrap64 ((j : Int) - 1) = (j : Int) - 1 by unfold wrap64; omega]
theorem znx (l : List Int) (hb : isB l) (hl : l.length ≤ 140737488355328) (i : Nat) (hi : i ≤ 9) (h1 : i < l.length) (hlast : i = 9 → l[i] ≤ 1) :
  Ev (fun k => tumbrelref02_Get.j2 k l (i : Int) false) (val l i + (l[i] % 128) * 128 ^ i, (i : Int) + 1, 0) := by
 have hc := hb l[i] (List.getElem_mem h1)
 have hp := zcx i hi l[i] hc.1 hlast
 have hv := val_bd l i
 have h9 := zmz i hi
 have hT : val l i + (l[i] % 128) * 128 ^ i = val l (i + 1) := by simp only [val, zcj h1]
 have := znz l hb hl i h1 _ hT (by omega) (i + 1) 0 (by omega) (by omega) (by rw [← hT]; omega)
 refine Ev.step (f := fun k => tumbrelref02_Get.l1 k l (i : Int) 0 (i : Int)) (fun k => ?_) ?_
 ·simp only [tumbrelref02_Get.j2]; rw [if_neg (by decide)]
 ·rwa [show (((i + 1 : Nat) : Int) - 1) = (i : Int) by omega] at this
theorem qwk (l : List Int) (x : Int) : Ev (fun k => tumbrelref02_Get.j2 k l x true) (0, 0, 2) :=
 Ev.step (f := fun _ => some (0, 0, 2)) (fun k => by simp only [tumbrelref02_Get.j2, if_true]) (Ev.now _)
theorem znj (l : List Int) (hb : isB l) (hl : l.length ≤ 140737488355328) : ∀ (d i : Nat), l.length - i = d → i ≤ 9 → i ≤ l.length →
  Ev (fun k => tumbrelref02_Get.l0 k l (i : Int)) (gget i (val l i) (l.drop i)) := by
 intro d
 induction d with
 | zero =>
  intro i hd hi hil
  rw [List.drop_of_length_le (by omega), gget]
  refine Ev.step (f := fun k => tumbrelref02_Get.j1 k l (i : Int)) (fun k => ?_) (Ev.step (f := fun _ => some (0, 0, 3)) (fun k => ?_) (Ev.now _))
  ·simp only [tumbrelref02_Get.l0]; rw [if_neg (by omega)]
  ·simp only [tumbrelref02_Get.j1]; rw [if_pos (by omega)]
 | succ d ih =>
  intro i hd hi hil
  have h1 : i < l.length := by omega
  have hc := hb l[i] (List.getElem_mem h1)
  rw [qrk h1, gget]
  by_cases h9 : i = 9
  ·subst h9
   refine Ev.step (f := fun k => tumbrelref02_Get.j1 k l ((9 : Nat) : Int)) (fun k => ?_) ?_
   ·simp only [tumbrelref02_Get.l0]; rw [if_pos (by omega), if_neg (by omega)]
   ·have hr : rd l 9 = l[9] := qkz (i := 9) h1
    by_cases hbig : l[9] > 1
    ·rw [if_pos ⟨rfl, hbig⟩]
     refine Ev.step (f := fun k => tumbrelref02_Get.j2 k l ((9 : Nat) : Int) true) (fun k => ?_) (qwk _ _)
     simp only [tumbrelref02_Get.j1]
     rw [if_neg (by omega), if_pos (by omega), if_pos (by omega), hr, if_pos hbig]
    ·rw [if_neg (fun h => hbig h.2), if_neg (by omega)]
     by_cases hz : l[9] = 0
     ·rw [if_pos ⟨hz, by omega⟩]
      refine Ev.step (f := fun k => tumbrelref02_Get.j2 k l ((9 : Nat) : Int) true) (fun k => ?_) (qwk _ _)
      simp only [tumbrelref02_Get.j1]
      rw [if_neg (by omega), if_pos (by omega), if_pos (by omega), hr, if_neg hbig, if_pos (by omega), if_pos (by omega), if_pos (by omega), qkz h1, hz]
      rfl
     ·rw [if_neg (fun h => hz h.1)]
      refine Ev.step (f := fun k => tumbrelref02_Get.j2 k l ((9 : Nat) : Int) false) (fun k => ?_) (znx l hb hl 9 (by omega) h1 (fun _ => by omega))
      simp only [tumbrelref02_Get.j1]
      rw [if_neg (by omega), if_pos (by omega), if_pos (by omega), hr, if_neg hbig, if_pos (by omega), if_pos (by omega), if_pos (by omega), qkz h1, show (l[9] == 0) = false by simpa using hz]
  ·rw [if_neg (fun h => h9 h.1)]
   by_cases h128 : l[i] ≥ 128
   ·rw [if_pos h128]
    have := ih (i + 1) (by omega) (by omega) (by omega)
    simp only [val, zcj h1] at this
    refine Ev.step (f := fun k => tumbrelref02_Get.l0 k l ((i + 1 : Nat) : Int)) (fun k => ?_) this
    simp only [tumbrelref02_Get.l0]
    rw [if_pos (by omega), if_pos (by omega), if_pos (by omega), qkz h1, if_pos h128, qhq i (by omega)]
   ·rw [if_neg h128]
    refine Ev.step (f := fun k => tumbrelref02_Get.j1 k l (i : Int)) (fun k => ?_) ?_
    ·simp only [tumbrelref02_Get.l0]
     rw [if_pos (by omega), if_pos (by omega), if_pos (by omega), qkz h1, if_neg h128]
    ·by_cases hz : l[i] = 0 ∧ 0 < i
     ·rw [if_pos hz]
      refine Ev.step (f := fun k => tumbrelref02_Get.j2 k l (i : Int) true) (fun k => ?_) (qwk _ _)
      simp only [tumbrelref02_Get.j1]
      rw [if_neg (by omega), if_neg (by omega), if_pos (by omega), if_pos (by omega), if_pos (by omega), qkz h1, hz.1]
      rfl
     ·rw [if_neg hz]
      refine Ev.step (f := fun k => tumbrelref02_Get.j2 k l (i : Int) false) (fun k => ?_) (znx l hb hl i hi h1 (fun h => absurd h h9))
      simp only [tumbrelref02_Get.j1]
      by_cases h0 : 0 < i
      ·rw [if_neg (by omega), if_neg (by omega), if_pos (by omega), if_pos (by omega), if_pos (by omega), qkz h1, show (l[i] == 0) = false by simpa using (fun h => hz ⟨h, h0⟩)]
      ·rw [if_neg (by omega), if_neg (by omega), if_neg (by omega)]
theorem rget_ev (l : List Int) (hb : isB l) (hl : l.length ≤ 140737488355328) : Ev (fun k => tumbrelref02_Get.f k l) (gget 0 0 l) := by
 have := znj l hb hl l.length 0 (by omega) (by omega) (by omega)
 simpa [tumbrelref02_Get.f, val] using this
end Go.Proofs.Ytojepleodijdeaa.VP
namespace Go.Proofs.Ytojepleodijdeaa.VP
set_option linter.unusedVariables false
set_option linter.unusedSimpArgs false
open Go.RowKit Go.Proofs.Ytojepleodijdeaa.B Go.Proofs.YtojepleodijdeaaW.PrintWords Go.Proofs.YtojepleodijdeaaW.PrintLast Go.Proofs.YtojepleodijdeaaW.PrintMore
def qox (a : Int) (n : Nat) : List Int := [a, (n : Int) % 256, (n : Int) / 256]
def fb (a : Int) (body : List Int) : List Int := putL (qox a body.length) ++ putL body
theorem and255 {a : Int} (h0 : 0 ≤ a) (h1 : a ≤ 1000000000) : bits .and .i64 a 255 = a % 256 := by
 have hw : ∀ n : Int, 0 ≤ n → n < 2 ^ 63 → IntKind.i64.wrap n = n := fun n h0 h1 => by rw [IntKind.wrap_i64]; omega
 exact bits_mask .i64 63 (by decide) hw 8 (by decide) a h0 (by omega)
theorem low_f {a : Int} (h0 : 0 ≤ a) (h1 : a ≤ 1000000000) : frame_low_int.f a = some (a % 256, a / 256) := by
 unfold frame_low_int.f
 rw [and255 h0 h1]
 congr 2
 omega
theorem zaq {a : Int} (ha : 0 ≤ a ∧ a ≤ 255) {n : Nat} (hn : n ≤ 400) : isB (qox a n) := by
 intro x hx
 simp only [qox, List.mem_cons, List.not_mem_nil, or_false] at hx
 omega
theorem fb_len (a : Int) (body : List Int) : (fb a body).length = body.length + 11 := by
 unfold fb
 rw [List.length_append, qnv, qnv]
 simp [qox]
 omega
theorem fbytes_f {a : Int} (ha : 0 ≤ a ∧ a ≤ 255) {body : List Int} (hb : isB body) (hn : body.length ≤ 400) : frame_Bytes.f a body = some (fb a body, 0) := by
 have hh := zaq ha hn
 unfold frame_Bytes.f
 rw [if_neg (by omega), low_f (by omega) (by omega)]
 simp only [Option.bind_some]
 rw [low_f (by omega) (by omega)]
 simp only [Option.bind_some]
 have e : ([a, (body.length : Int) % 256, (body.length : Int) / 256 % 256] : List Int) = qox a body.length := by
  unfold qox
  rw [show (body.length : Int) / 256 % 256 = (body.length : Int) / 256 by omega]
 rw [e, put_f hh (by simp [qox]), Option.bind_some, put_f hb (by omega), Option.bind_some, if_pos (by rw [qnv, qnv]; simp [qox]; omega)]
 rfl
end Go.Proofs.Ytojepleodijdeaa.VP
namespace Go.Proofs.Ytojepleodijdeaa.VP
set_option linter.unusedVariables false
set_option linter.unusedSimpArgs false
open Go.RowKit Go.Proofs.Ytojepleodijdeaa.B Go.Proofs.YtojepleodijdeaaW.PrintWords Go.Proofs.YtojepleodijdeaaW.PrintLast Go.Proofs.YtojepleodijdeaaW.PrintMore
def qlk : Nat → List Int → List Int → List Int × List Int × Int
 | 0, acc, l => (acc, l, 0)
 | n + 1, acc, l => if (gget 0 0 l).2.2 = 0 then qlk n (acc ++ [(gget 0 0 l).1]) (l.drop (gget 0 0 l).2.1.toNat) else ([], [], (gget 0 0 l).2.2)
def qiz (k : Int) : Prop := 1 ≤ k ∧ k ≤ 17
instance (k : Int) : Decidable (qiz k) := by unfold qiz; infer_instance
def fit (k : Int) (n : Nat) : Bool := decide (n = 0 ∨ ((k = 10 ∨ k = 11 ∨ k = 16) ∧ n ≤ 64))
def qpx (k : Int) (l : List Int) : Int × List Int × ByteArray × Int :=
 if qiz k then (if (qlk (numE k.toNat).toNat [] l).2.2 = 0 then (if fit k (qlk (numE k.toNat).toNat [] l).2.1.length = true then (k, (qlk (numE k.toNat).toNat [] l).1, strOfNums (qlk (numE k.toNat).toNat [] l).2.1, 0) else (0, [], ⟨#[]⟩, 2)) else (0, [], ⟨#[]⟩, (qlk (numE k.toNat).toNat [] l).2.2)) else (0, [], ⟨#[]⟩, 2)
theorem znk (k : Int) : record_known.f k = some (decide (qiz k)) := by
 unfold record_known.f
 by_cases h : k ≥ 1
 ·rw [if_pos h]; congr 1; apply decide_eq_decide.mpr; unfold qiz; omega
 ·rw [if_neg h]; congr 1; symm; apply decide_eq_false; unfold qiz; omega
theorem fits_f (k : Int) (n : Nat) : record_fits.f k (n : Int) = some (fit k n) := by
 unfold record_fits.f record_worded.f fit
 by_cases h0 : (n : Int) = 0
 ·rw [if_pos h0]; congr 1; symm; apply decide_eq_true; left; omega
 rw [if_neg h0]
 by_cases h1 : k = 10
 ·rw [if_pos h1, Option.bind_some, if_pos rfl]; congr 1; apply decide_eq_decide.mpr; omega
 rw [if_neg h1]
 by_cases h2 : k = 11
 ·rw [if_pos h2, Option.bind_some, if_pos rfl]; congr 1; apply decide_eq_decide.mpr; omega
 rw [if_neg h2, Option.bind_some]
 by_cases h3 : k = 16
 ·rw [if_pos (by simp [h3])]; congr 1; apply decide_eq_decide.mpr; omega
 ·rw [if_neg (by simp [h3])]; congr 1; symm; apply decide_eq_false; omega
theorem zfq (k : Int) (n : Nat) : tumbrelref05_texts.f k (n : Int) = some (fit k n) := by
 unfold tumbrelref05_texts.f fit
 by_cases h1 : k = 10
 ·rw [if_pos h1]; congr 1; apply decide_eq_decide.mpr; omega
 rw [if_neg h1]
 by_cases h2 : k = 11
 ·rw [if_pos h2]; congr 1; apply decide_eq_decide.mpr; omega
 rw [if_neg h2]
 by_cases h3 : k = 16
 ·rw [if_pos h3]; congr 1; apply decide_eq_decide.mpr; omega
 ·rw [if_neg h3]; congr 1
  rw [show ((n : Int) == 0) = decide ((n : Int) = 0) from rfl]
  apply decide_eq_decide.mpr; omega
theorem qpj (k : Int) (h : qiz k) : 0 ≤ numE k.toNat ∧ numE k.toNat ≤ 10 ∧ rd ([(-1), 0, 5, 2, 1, 2, 2, 1, 1, 1, 1, 1, 5, 7, 10, 2, 1, 1] : List Int) k = numE k.toNat := by
 obtain ⟨h1, h2⟩ := h
 obtain ⟨j, rfl⟩ := Int.eq_ofNat_of_zero_le (show 0 ≤ k by omega)
 have hj : j = 1 ∨ j = 2 ∨ j = 3 ∨ j = 4 ∨ j = 5 ∨ j = 6 ∨ j = 7 ∨ j = 8 ∨ j = 9 ∨ j = 10 ∨ j = 11 ∨ j = 12 ∨ j = 13 ∨ j = 14 ∨ j = 15 ∨ j = 16 ∨ j = 17 := by omega
 rcases hj with rfl | rfl | rfl | rfl | rfl | rfl | rfl | rfl | rfl | rfl | rfl | rfl | rfl | rfl | rfl | rfl | rfl <;> exact ⟨by decide, by decide, rfl⟩
theorem znv (k : Int) (h0 : 0 ≤ k) : tumbrelref05_many.f k = some (if qiz k then numE k.toNat else -1) := by
 unfold tumbrelref05_many.f
 rw [Option.bind_some, if_neg (by omega)]
 by_cases h : qiz k
 ·have := qpj k h
  have h2 := h
  unfold qiz at h2
  rw [if_neg (by omega), if_pos h0, if_pos (by simp; omega), this.2.2, if_pos h]
 ·rw [if_neg h]
  unfold qiz at h
  by_cases h17 : k > 17
  ·rw [if_pos h17]
  ·rw [if_neg h17, if_pos h0, if_pos (by simp; omega), show k = 0 by omega]; rfl
theorem zaz (ki : Int) (N : Nat) (hN : N ≤ 10) : ∀ (d i : Nat) (l acc : List Int), i + d = N → isB l → l.length ≤ 1000000000 → acc.length ≤ 10 →  acc.length ≤ i →
  Ev (fun k => record_Read.l0 k l (N : Int) (i : Int) ki acc (⟨#[]⟩ : ByteArray)) (if (qlk d acc l).2.2 = 0 then (if fit ki (qlk d acc l).2.1.length = true then (ki, (qlk d acc l).1, strOfNums (qlk d acc l).2.1, 0) else (0, [], ⟨#[]⟩, 2)) else (0, [], ⟨#[]⟩, (qlk d acc l).2.2)) := by
 intro d
 induction d with
 | zero =>
  intro i l acc hi hb hl ha hai
  refine Ev.step (f := fun _ => (record_fits.f ki (l.length : Int)).bind fun t722 => (if t722 = true then (some (ki, acc, strOfNums l, 0)) else (some (0, ([] : List Int), (⟨#[]⟩ : ByteArray), 2)))) (fun k => ?_) ?_
  ·simp only [record_Read.l0]; rw [if_neg (by omega)]
  ·show Ev _ (if (0 : Int) = 0 then (if fit ki l.length = true then (ki, acc, strOfNums l, 0) else (0, [], ⟨#[]⟩, 2)) else (0, [], ⟨#[]⟩, 0))
   rw [if_pos rfl, fits_f, Option.bind_some]
   by_cases hf : fit ki l.length = true
   ·rw [if_pos hf, if_pos hf]; exact Ev.now _
   ·rw [if_neg hf, if_neg hf]; exact Ev.now _
 | succ d ih =>
  intro i l acc hi hb hl ha hai
  refine Ev.step (f := fun k => (vint_Get.f k l).bind fun bt => (if bt.2.2 = 0 then (if acc.length < 17592186044416 then (if 0 ≤ bt.2.1 then (if bt.2.1 ≤ (l.length : Int) then (record_Read.l0 k (l.drop (bt.2.1 : Int).toNat) (N : Int) (wrap64 ((i : Int) + 1)) ki (acc ++ [bt.1]) (⟨#[]⟩ : ByteArray)) else (none)) else (none)) else (none)) else (some (0, ([] : List Int), (⟨#[]⟩ : ByteArray), bt.2.2)))) (fun k => ?_) ?_
  ·simp only [record_Read.l0]; rw [if_pos (by omega)]
  ·refine Ev.bind (f := fun k bt => (if bt.2.2 = 0 then (if acc.length < 17592186044416 then (if 0 ≤ bt.2.1 then (if bt.2.1 ≤ (l.length : Int) then (record_Read.l0 k (l.drop (bt.2.1 : Int).toNat) (N : Int) (wrap64 ((i : Int) + 1)) ki (acc ++ [bt.1]) (⟨#[]⟩ : ByteArray)) else (none)) else (none)) else (none)) else (some (0, ([] : List Int), (⟨#[]⟩ : ByteArray), bt.2.2)))) (get_ev l hb (by omega)) ?_
   rw [qlk]
   by_cases h0 : (gget 0 0 l).2.2 = 0
   ·have hu := qzw hb h0
    rw [if_pos h0]
    refine Ev.congr (f := fun k => record_Read.l0 k (l.drop (gget 0 0 l).2.1.toNat) (N : Int) ((i + 1 : Nat) : Int) ki (acc ++ [(gget 0 0 l).1]) (⟨#[]⟩ : ByteArray)) (fun k => ?_) ?_
    ·rw [if_pos h0, if_pos (by omega), if_pos (by omega), if_pos hu.2, qhq i (by omega)]
    ·exact ih (i + 1) _ _ (by omega) (zej hb _) (by rw [List.length_drop]; omega) (by rw [List.length_append, List.length_singleton]; omega) (by rw [List.length_append, List.length_singleton]; omega)
   ·rw [if_neg h0]
    refine Ev.congr (f := fun _ => some (0, [], (⟨#[]⟩ : ByteArray), (gget 0 0 l).2.2)) (fun k => ?_) ?_
    ·rw [if_neg h0]
    ·rw [if_neg h0]; exact Ev.now _
theorem zgw {ki : Int} (hk : 0 ≤ ki ∧ ki ≤ 255) {l : List Int} (hb : isB l) (hl : l.length ≤ 1000000000) : Ev (fun k => record_Read.f k ki l) (qpx ki l) := by
 have hw : wrap64 ki = ki := by unfold wrap64; omega
 unfold qpx
 refine Ev.congr (f := fun k => if decide (qiz ki) = true then (record_Read.l0 k l (numE ki.toNat) 0 ki ([] : List Int) (⟨#[]⟩ : ByteArray)) else some (0, ([] : List Int), (⟨#[]⟩ : ByteArray), 2)) (fun k => ?_) ?_
 ·unfold record_Read.f
  rw [hw, znk, Option.bind_some, show record_numbers.f = some () from rfl, Option.bind_some]
  by_cases h : qiz ki
  ·have h' := h
   unfold qiz at h'
   rw [if_pos (by simp [h]), if_pos (by omega), if_pos (by omega), if_pos (by simp [h])]
  ·rw [if_neg (by simp [h]), if_neg (by simp [h])]
 ·by_cases h : qiz ki
  ·have hn := qpj ki h
   rw [if_pos h]
   have hc : ((numE ki.toNat).toNat : Int) = numE ki.toNat := by omega
   have := zaz ki (numE ki.toNat).toNat (by omega) (numE ki.toNat).toNat 0 l [] (by omega) hb hl (by simp) (by simp)
   refine Ev.congr (fun k => ?_) this
   rw [if_pos (by simp [h]), hc]; rfl
  ·rw [if_neg h]
   refine Ev.congr (f := fun _ => some (0, [], (⟨#[]⟩ : ByteArray), 2)) (fun k => ?_) (Ev.now _)
   rw [if_neg (by simp [h])]
end Go.Proofs.Ytojepleodijdeaa.VP
namespace Go.Proofs.Ytojepleodijdeaa.VP
set_option linter.unusedVariables false
set_option linter.unusedSimpArgs false
open Go.RowKit Go.Proofs.Ytojepleodijdeaa.B Go.Proofs.YtojepleodijdeaaW.PrintWords Go.Proofs.YtojepleodijdeaaW.PrintLast Go.Proofs.YtojepleodijdeaaW.PrintMore
theorem qwv (k0 ki : Int) (N : Nat) (hN : N ≤ 10) (b : List Int) (hb : isB b) (hl : b.length ≤ 1000000000) : ∀ (d i at_ : Nat) (acc : List Int), i + d = N → at_ ≤ b.length → acc.length ≤ i →
  Ev (fun k => tumbrelref05_Read.l0 k (N : Int) (at_ : Int) (i : Int) k0 b ki acc (⟨#[]⟩ : ByteArray)) (if (qlk d acc (b.drop at_)).2.2 = 0 then (if fit ki (qlk d acc (b.drop at_)).2.1.length = true then (ki, (qlk d acc (b.drop at_)).1, strOfNums (qlk d acc (b.drop at_)).2.1, 0) else (0, [], ⟨#[]⟩, 2)) else (0, [], ⟨#[]⟩, (qlk d acc (b.drop at_)).2.2)) := by
 intro d
 induction d with
 | zero =>
  intro i at_ acc hi ha hai
  refine Ev.step (f := fun _ => (if fit ki (b.drop at_).length = true then (some (ki, acc, strOfNums (b.drop at_), 0)) else (some (0, ([] : List Int), (⟨#[]⟩ : ByteArray), 2)))) (fun k => ?_) ?_
  ·simp only [tumbrelref05_Read.l0]
   have e : wrap64 ((b.length : Int) - (at_ : Int)) = ((b.drop at_).length : Int) := by rw [List.length_drop]; unfold wrap64; omega
   rw [if_neg (by omega), e, zfq, Option.bind_some, Int.toNat_natCast]
   by_cases hf : fit ki (b.drop at_).length = true
   ·rw [if_pos hf, if_pos hf, if_pos (by omega), if_pos (by omega)]
   ·rw [if_neg hf, if_neg hf]
  ·show Ev _ (if (0 : Int) = 0 then (if fit ki (b.drop at_).length = true then (ki, acc, strOfNums (b.drop at_), 0) else (0, [], ⟨#[]⟩, 2)) else (0, [], ⟨#[]⟩, 0))
   rw [if_pos rfl]
   by_cases hf : fit ki (b.drop at_).length = true
   ·rw [if_pos hf, if_pos hf]; exact Ev.now _
   ·rw [if_neg hf, if_neg hf]; exact Ev.now _
 | succ d ih =>
  intro i at_ acc hi ha hai
  have hbd := zej hb at_
  refine Ev.step (f := fun k => (tumbrelref02_Get.f k (b.drop at_)).bind fun bt => (if bt.2.2 = 0 then (if acc.length < 17592186044416 then (tumbrelref05_Read.l0 k (N : Int) (wrap64 ((at_ : Int) + bt.2.1)) (wrap64 ((i : Int) + 1)) k0 b ki (acc ++ [bt.1]) (⟨#[]⟩ : ByteArray)) else (none)) else (some (0, ([] : List Int), (⟨#[]⟩ : ByteArray), bt.2.2)))) (fun k => ?_) ?_
  ·simp only [tumbrelref05_Read.l0]; rw [if_pos (by omega), if_pos (by omega), if_pos (by omega), Int.toNat_natCast]
  ·refine Ev.bind (f := fun k bt => (if bt.2.2 = 0 then (if acc.length < 17592186044416 then (tumbrelref05_Read.l0 k (N : Int) (wrap64 ((at_ : Int) + bt.2.1)) (wrap64 ((i : Int) + 1)) k0 b ki (acc ++ [bt.1]) (⟨#[]⟩ : ByteArray)) else (none)) else (some (0, ([] : List Int), (⟨#[]⟩ : ByteArray), bt.2.2)))) (rget_ev (b.drop at_) hbd (by rw [List.length_drop]; omega)) ?_
   rw [qlk]
   by_cases h0 : (gget 0 0 (b.drop at_)).2.2 = 0
   ·have hu := qzw hbd h0
    rw [List.length_drop] at hu
    rw [if_pos h0, List.drop_drop]
    have hw : wrap64 ((at_ : Int) + (gget 0 0 (b.drop at_)).2.1) = ((at_ + (gget 0 0 (b.drop at_)).2.1.toNat : Nat) : Int) := by unfold wrap64; omega
    refine Ev.congr (f := fun k => tumbrelref05_Read.l0 k (N : Int) ((at_ + (gget 0 0 (b.drop at_)).2.1.toNat : Nat) : Int) ((i + 1 : Nat) : Int) k0 b ki (acc ++ [(gget 0 0 (b.drop at_)).1]) (⟨#[]⟩ : ByteArray)) (fun k => ?_) ?_
    ·rw [if_pos h0, if_pos (by omega), qhq i (by omega), hw]
    ·exact ih (i + 1) _ _ (by omega) (by omega) (by rw [List.length_append, List.length_singleton]; omega)
   ·rw [if_neg h0]
    refine Ev.congr (f := fun _ => some (0, [], (⟨#[]⟩ : ByteArray), (gget 0 0 (b.drop at_)).2.2)) (fun k => ?_) ?_
    ·rw [if_neg h0]
    ·rw [if_neg h0]; exact Ev.now _
theorem zck {ki : Int} (hk : 0 ≤ ki ∧ ki ≤ 255) {l : List Int} (hb : isB l) (hl : l.length ≤ 1000000000) : Ev (fun k => tumbrelref05_Read.f k ki l) (qpx ki l) := by
 have hw : wrap64 ki = ki := by unfold wrap64; omega
 unfold qpx
 by_cases h : qiz ki
 ·have hn := qpj ki h
  rw [if_pos h]
  have hc : ((numE ki.toNat).toNat : Int) = numE ki.toNat := by omega
  have := qwv ki ki (numE ki.toNat).toNat (by omega) l hb hl (numE ki.toNat).toNat 0 0 [] (by omega) (by omega) (by simp)
  rw [List.drop_zero] at this
  refine Ev.congr (fun k => ?_) this
  unfold tumbrelref05_Read.f
  rw [hw, znv ki hk.1, Option.bind_some, if_pos h, if_neg (by omega), hc]
  rfl
 ·rw [if_neg h]
  refine Ev.congr (f := fun _ => some (0, [], (⟨#[]⟩ : ByteArray), 2)) (fun k => ?_) (Ev.now _)
  unfold tumbrelref05_Read.f
  rw [hw, znv ki hk.1, Option.bind_some, if_neg h, if_pos (by omega)]
end Go.Proofs.Ytojepleodijdeaa.VP
namespace Go.Proofs.Ytojepleodijdeaa.VP
set_option linter.unusedVariables false
set_option linter.unusedSimpArgs false
open Go.RowKit Go.Proofs.Ytojepleodijdeaa.B Go.Proofs.YtojepleodijdeaaW.PrintWords Go.Proofs.YtojepleodijdeaaW.PrintLast Go.Proofs.YtojepleodijdeaaW.PrintMore
theorem rd80_at {l : List S80} {i : Nat} (h : i < l.length) : qck l (i : Int) = l[i] := by
 unfold qck
 rw [Int.toNat_natCast, List.getD_eq_getElem?_getD, List.getElem?_eq_getElem h]; rfl
theorem rd82_at {l : List S82} {i : Nat} (h : i < l.length) : qdz l (i : Int) = l[i] := by
 unfold qdz
 rw [Int.toNat_natCast, List.getD_eq_getElem?_getD, List.getElem?_eq_getElem h]; rfl
def to82 (f : S80) : S82 := ⟨f.f0, f.f1, f.f2⟩
theorem znw (l : List S80) (hl : l.length ≤ 1000000) : ∀ (d i : Nat) (out : List S82), l.length - i = d → i ≤ l.length → out.length ≤ i →
  Ev (fun k => tumbrellaw05_own.l0 k out l (l.length : Int) (i : Int)) (out ++ (l.drop i).map to82) := by
 intro d
 induction d with
 | zero =>
  intro i out hd hi ho
  refine Ev.step (f := fun _ => some out) (fun k => ?_) ?_
  ·simp only [tumbrellaw05_own.l0]; rw [if_neg (by omega)]
  ·rw [List.drop_eq_nil_of_le (by omega), List.map_nil, List.append_nil]; exact Ev.now _
 | succ d ih =>
  intro i out hd hi ho
  have hlt : i < l.length := by omega
  rw [List.drop_eq_getElem_cons hlt, List.map_cons, List.append_cons]
  refine Ev.step (f := fun k => tumbrellaw05_own.l0 k (out ++ [to82 l[i]]) l (l.length : Int) ((i + 1 : Nat) : Int)) (fun k => ?_) ?_
  ·simp only [tumbrellaw05_own.l0]
   rw [if_pos (by omega), if_pos (by omega), if_pos (by omega), if_pos (by omega), rd80_at hlt, qhq i (by omega)]
   rfl
  ·exact ih (i + 1) _ (by omega) (by omega) (by rw [List.length_append, List.length_singleton]; omega)
theorem zcv (l : List S80) (hl : l.length ≤ 1000000) : Ev (fun k => tumbrellaw05_own.f k l) (l.map to82) := by
 have := znw l hl l.length 0 [] (by omega) (by omega) (by simp)
 simpa [tumbrellaw05_own.f] using this
theorem zhq (l : List S82) (hl : l.length ≤ 1000000) (hn : ∀ x ∈ l, x.f1.length ≤ 1000000) : ∀ (d i : Nat), l.length - i = d → Ev (fun k => tumbrelref05_Same.l0 k l l (i : Int)) true := by
 intro d
 induction d with
 | zero =>
  intro i hd
  refine Ev.step (f := fun _ => some true) (fun k => ?_) (Ev.now _)
  simp only [tumbrelref05_Same.l0]; rw [if_neg (by omega)]
 | succ d ih =>
  intro i hd
  have hlt : i < l.length := by omega
  have := hn _ (List.getElem_mem hlt)
  refine Ev.step (f := fun k => (tumbrelref02_Same.f k (l[i]).f1 (l[i]).f1).bind fun t => (if t = true then (tumbrelref05_Same.l0 k l l ((i + 1 : Nat) : Int)) else (some false))) (fun k => ?_) ?_
  ·simp only [tumbrelref05_Same.l0]
   rw [if_pos (by omega), if_pos (by omega), if_pos (by omega), rd82_at hlt, if_pos trivial, if_pos trivial, qhq i (by omega)]
  ·refine Ev.bind (f := fun k t => (if t = true then (tumbrelref05_Same.l0 k l l ((i + 1 : Nat) : Int)) else (some false))) (zek (l[i]).f1 (l[i]).f1 (by omega)) ?_
   refine Ev.congr (fun k => ?_) (ih (i + 1) (by omega))
   rw [if_pos (by simp)]
theorem same5_ev (l : List S82) (hl : l.length ≤ 1000000) (hn : ∀ x ∈ l, x.f1.length ≤ 1000000) : Ev (fun k => tumbrelref05_Same.f k l l) true := by
 have := zhq l hl hn l.length 0 (by omega)
 simpa [tumbrelref05_Same.f] using this
theorem zoq : ∀ (n : Nat) (acc l : List Int), (qlk n acc l).1.length ≤ acc.length + n := by
 intro n
 induction n with
 | zero => intro acc l; simp [qlk]
 | succ n ih =>
  intro acc l
  rw [qlk]
  split
  ·have := ih (acc ++ [(gget 0 0 l).1]) (l.drop (gget 0 0 l).2.1.toNat)
   rw [List.length_append, List.length_singleton] at this
   omega
  ·simp
theorem zoz (ki : Int) (l : List Int) : (qpx ki l).2.1.length ≤ 10 := by
 unfold qpx
 by_cases h : qiz ki
 ·have hn := qpj ki h
  have := zoq (numE ki.toNat).toNat [] l
  rw [if_pos h]
  split
  ·split
   ·simp only [List.length_nil] at this; dsimp only; omega
   ·simp
  ·simp
 ·rw [if_neg h]; simp
end Go.Proofs.Ytojepleodijdeaa.VP
namespace Go.Proofs.Ytojepleodijdeaa.VP
set_option linter.unusedVariables false
set_option linter.unusedSimpArgs false
open Go.RowKit Go.Proofs.Ytojepleodijdeaa.B Go.Proofs.YtojepleodijdeaaW.PrintWords Go.Proofs.YtojepleodijdeaaW.PrintLast Go.Proofs.YtojepleodijdeaaW.PrintMore
def qjq (k : Int) (N : List Int) (t : ByteArray) : Prop := qiz k ∧ (N.length : Int) = numE k.toNat ∧ fit k t.size = true
instance (k : Int) (N : List Int) (t : ByteArray) : Decidable (qjq k N t) := by unfold qjq; infer_instance
theorem zcw (k : Int) (N : List Int) (t : ByteArray) : record_Right.f k N t = some (decide (qjq k N t)) := by
 unfold record_Right.f
 rw [znk, Option.bind_some]
 by_cases h : qiz k
 ·have h2 := h
  unfold qiz at h2
  rw [if_pos (by simp [h]), show record_numbers.f = some () from rfl, Option.bind_some, if_pos (by omega), if_pos (by omega)]
  by_cases hn : (N.length : Int) = numE k.toNat
  ·rw [if_pos hn, fits_f, Option.bind_some]
   congr 1
   unfold qjq
   simp [h, hn]
  ·rw [if_neg hn]; congr 1; symm; apply decide_eq_false; unfold qjq; simp [hn]
 ·rw [if_neg (by simp [h])]; congr 1; symm; apply decide_eq_false; unfold qjq; simp [h]
theorem qrv (t : ByteArray) : isB (qek t) := by
 intro x hx
 unfold qek at hx
 obtain ⟨b, _, rfl⟩ := List.mem_map.1 hx
 have := b.toNat_lt
 omega
theorem fit_le {k : Int} {n : Nat} (h : fit k n = true) : n ≤ 64 := by
 unfold fit at h
 have := of_decide_eq_true h
 omega
theorem qrw {k : Int} {N : List Int} {t : ByteArray} (h : qjq k N t) : (vall N ++ qek t).length ≤ 400 ∧ N.length ≤ 10 := by
 obtain ⟨h1, h2, h3⟩ := h
 have h4 := qpj k h1
 have h5 := fit_le h3
 have h6 := vall_len N
 rw [List.length_append, qij]
 omega
theorem zdq {k : Int} {N : List Int} {t : ByteArray} (hu : isU N) (h : qjq k N t) : Ev (fun n => record_Bytes.f n k N t) (fb k (vall N ++ qek t), 0) := by
 obtain ⟨hl, hN⟩ := qrw h
 have hk := h.1
 unfold qiz at hk
 have hl2 := hl
 rw [List.length_append, qij] at hl2
 refine Ev.congr (f := fun n => (vint_All.f n N).bind fun t696 => (if t696.length + t.size < 140737488355328 then ((frame_Bytes.f (k % 256) (t696 ++ qek t)).bind fun bt702 => (some (bt702.1, bt702.2))) else (none))) (fun n => ?_) ?_
 ·unfold record_Bytes.f
  rw [zcw, Option.bind_some, if_pos (decide_eq_true h)]
 ·refine Ev.bind (f := fun n t696 => (if t696.length + t.size < 140737488355328 then ((frame_Bytes.f (k % 256) (t696 ++ qek t)).bind fun bt702 => (some (bt702.1, bt702.2))) else (none))) (all_ev N hu (by omega)) ?_
  refine Ev.congr (f := fun _ => some (fb k (vall N ++ qek t), 0)) (fun n => ?_) (Ev.now _)
  rw [if_pos (by omega), show k % 256 = k by omega, fbytes_f (by omega) (qpz (zew hu) (qrv t)) hl, Option.bind_some]
theorem zdz (n : Nat) {k : Int} {N : List Int} {t : ByteArray} (h : ¬ qjq k N t) : record_Bytes.f n k N t = some ([], 1) := by
 unfold record_Bytes.f
 rw [zcw, Option.bind_some, if_neg (by simp [h])]
end Go.Proofs.Ytojepleodijdeaa.VP
namespace Go.Proofs.Ytojepleodijdeaa.VP
set_option linter.unusedVariables false
set_option linter.unusedSimpArgs false
open Go.RowKit Go.Proofs.Ytojepleodijdeaa.B Go.Proofs.YtojepleodijdeaaW.PrintWords Go.Proofs.YtojepleodijdeaaW.PrintLast Go.Proofs.YtojepleodijdeaaW.PrintMore
theorem zhz {a : Int} (ha : 0 ≤ a ∧ a ≤ 255) {body : List Int} (hb : isB body) (hn : body.length ≤ 1000000) : Ev (fun k => tumbrelref04_Bytes.f k a body) (if body.length ≤ 400 then (fb a body, 0) else ([], 4)) := by
 by_cases h : body.length ≤ 400
 ·rw [if_pos h]
  have hh := zaq ha h
  have e : ([a, (body.length : Int) % 256, (wrap64 ((body.length : Int) / 256)) % 256] : List Int) = qox a body.length := by
   unfold qox
   rw [show (wrap64 ((body.length : Int) / 256)) % 256 = (body.length : Int) / 256 by unfold wrap64; omega]
  refine Ev.congr (f := fun k => (tumbrelref01_Put.f k (qox a body.length)).bind fun t459 => ((tumbrelref01_Put.f k body).bind fun t462 => (if t459.length + t462.length < 140737488355328 then (some ((t459 ++ t462), (0 : Int))) else (none)))) (fun k => ?_) ?_
  ·simp only [tumbrelref04_Bytes.f]
   rw [if_neg (by omega), e]
  ·refine Ev.bind (f := fun k t459 => ((tumbrelref01_Put.f k body).bind fun t462 => (if t459.length + t462.length < 140737488355328 then (some ((t459 ++ t462), (0 : Int))) else (none)))) (zev hh (by simp [qox])) ?_
   refine Ev.bind (f := fun k t462 => (if (putL (qox a body.length)).length + t462.length < 140737488355328 then (some ((putL (qox a body.length) ++ t462), (0 : Int))) else (none))) (zev hb (by omega)) ?_
   refine Ev.congr (f := fun _ => some (fb a body, (0 : Int))) (fun k => ?_) (Ev.now _)
   rw [if_pos (by rw [qnv, qnv]; simp [qox]; omega)]
   rfl
 ·rw [if_neg h]
  refine Ev.congr (f := fun _ => some (([] : List Int), (4 : Int))) (fun k => ?_) (Ev.now _)
  simp only [tumbrelref04_Bytes.f]
  rw [if_pos (by omega)]
end Go.Proofs.Ytojepleodijdeaa.VP
namespace Go.Proofs.Ytojepleodijdeaa.VP
set_option linter.unusedVariables false
set_option linter.unusedSimpArgs false
open Go.RowKit Go.Proofs.Ytojepleodijdeaa.B Go.Proofs.YtojepleodijdeaaW.PrintWords Go.Proofs.YtojepleodijdeaaW.PrintLast Go.Proofs.YtojepleodijdeaaW.PrintMore
theorem many_f' (k : Int) : tumbrelref05_many.f k = some (if qiz k then numE k.toNat else -1) := by
 by_cases h0 : 0 ≤ k
 ·exact znv k h0
 ·unfold tumbrelref05_many.f
  rw [Option.bind_some, if_pos (by omega), if_neg (by unfold qiz; omega)]
theorem qww (k : Int) (N : List Int) (t : ByteArray) : tumbrelref05_Right.f k N t = some (decide (qjq k N t)) := by
 unfold tumbrelref05_Right.f
 rw [many_f', Option.bind_some]
 by_cases h : qiz k
 ·have h4 := qpj k h
  rw [if_pos h, if_pos (by omega), Option.bind_some]
  by_cases hn : (N.length : Int) = numE k.toNat
  ·rw [if_pos hn, zfq, Option.bind_some]
   congr 1
   unfold qjq
   simp [h, hn]
  ·rw [if_neg hn]; congr 1; symm; apply decide_eq_false; unfold qjq; simp [hn]
 ·rw [if_neg h, if_neg (by decide)]; congr 1; symm; apply decide_eq_false; unfold qjq; simp [h]
theorem zax {k : Int} {N : List Int} {t : ByteArray} (hu : isU N) : Ev (fun n => tumbrelref05_Bytes.f n k N t) (if qjq k N t then (fb k (vall N ++ qek t), 0) else ([], 1)) := by
 by_cases h : qjq k N t
 ·rw [if_pos h]
  obtain ⟨hl, hN⟩ := qrw h
  have hk := h.1
  unfold qiz at hk
  have hl2 := hl
  rw [List.length_append, qij] at hl2
  refine Ev.congr (f := fun n => (tumbrelref02_All.f n N).bind fun t343 => (if t343.length + t.size < 140737488355328 then ((tumbrelref04_Bytes.f n (k % 256) (t343 ++ qek t)).bind fun bt349 => (some (bt349.1, bt349.2))) else (none))) (fun n => ?_) ?_
  ·unfold tumbrelref05_Bytes.f
   rw [qww, Option.bind_some, if_pos (decide_eq_true h)]
  ·refine Ev.bind (f := fun n t343 => (if t343.length + t.size < 140737488355328 then ((tumbrelref04_Bytes.f n (k % 256) (t343 ++ qek t)).bind fun bt349 => (some (bt349.1, bt349.2))) else (none))) (rall_ev N hu (by omega)) ?_
   refine Ev.congr (f := fun n => (tumbrelref04_Bytes.f n k (vall N ++ qek t)).bind fun bt349 => (some (bt349.1, bt349.2))) (fun n => ?_) ?_
   ·rw [if_pos (by omega), show k % 256 = k by omega]
   ·refine Ev.bind (f := fun n bt349 => (some (bt349.1, bt349.2))) (zhz (a := k) (by omega) (qpz (zew hu) (qrv t)) (by omega)) ?_
    rw [if_pos hl]
    exact Ev.now _
 ·rw [if_neg h]
  refine Ev.congr (f := fun _ => some (([] : List Int), (1 : Int))) (fun n => ?_) (Ev.now _)
  unfold tumbrelref05_Bytes.f
  rw [qww, Option.bind_some, if_neg (by simp [h])]
theorem zhx (a b : List Int) (hl : a.length = b.length) (h : a.length ≤ 1000000) : ∀ (d i : Nat), a.length - i = d → Ev (fun k => slices_Equal_uint64_uint64.l0 k a b (a.length : Int) (i : Int)) (decide (a.drop i = b.drop i)) := by
 intro d
 induction d with
 | zero =>
  intro i hd
  refine Ev.step (f := fun _ => some true) (fun k => ?_) ?_
  ·simp only [slices_Equal_uint64_uint64.l0]; rw [if_neg (by omega)]
  ·rw [List.drop_of_length_le (by omega), List.drop_of_length_le (by omega)]; exact Ev.now _
 | succ d ih =>
  intro i hd
  have h1 : i < a.length := by omega
  have h2 : i < b.length := by omega
  rw [List.drop_eq_getElem_cons h1, List.drop_eq_getElem_cons h2]
  by_cases he : a[i] = b[i]
  ·refine Ev.step (f := fun k => slices_Equal_uint64_uint64.l0 k a b (a.length : Int) ((i + 1 : Nat) : Int)) (fun k => ?_) ?_
   ·simp only [slices_Equal_uint64_uint64.l0]
    rw [if_pos (by omega), if_pos (by omega), if_pos (by omega), if_pos (by omega), qkz h1, qkz h2, if_pos he, qhq i (by omega)]
   ·rw [qwx he]; exact ih (i + 1) (by omega)
  ·refine Ev.step (f := fun _ => some false) (fun k => ?_) ?_
   ·simp only [slices_Equal_uint64_uint64.l0]
    rw [if_pos (by omega), if_pos (by omega), if_pos (by omega), if_pos (by omega), qkz h1, qkz h2, if_neg he]
   ·rw [qoz he]; exact Ev.now _
theorem eq64_ev (a b : List Int) (h : a.length ≤ 1000000) : Ev (fun k => slices_Equal_uint64_uint64.f k a b) (decide (a = b)) := by
 by_cases hl : a.length = b.length
 ·refine Ev.congr (f := fun k => slices_Equal_uint64_uint64.l0 k a b (a.length : Int) ((0 : Nat) : Int)) (fun k => ?_) ?_
  ·simp only [slices_Equal_uint64_uint64.f]; rw [if_pos (by omega)]; rfl
  ·have := zhx a b hl h a.length 0 (by omega)
   simpa using this
 ·refine Ev.congr (f := fun _ => some false) (fun k => ?_) ?_
  ·simp only [slices_Equal_uint64_uint64.f]; rw [if_neg (by omega)]
  ·have : decide (a = b) = false := by simp; intro e; exact hl (by rw [e])
   rw [this]; exact Ev.now _
theorem zdx (k j : Int) (N M : List Int) (t u : ByteArray) (h : N.length ≤ 1000000) : Ev (fun n => record_Same.f n k N t j M u) (decide (k = j ∧ t.toList = u.toList ∧ N = M)) := by
 by_cases h0 : k = j
 ·refine Ev.congr (f := fun n => (slices_Equal_uint64_uint64.f n N M).bind fun t691 => (if t691 = true then (some (t.toList == u.toList)) else (some false))) (fun n => ?_) ?_
  ·unfold record_Same.f; rw [if_pos h0]
  ·refine Ev.bind (f := fun n t691 => (if t691 = true then (some (t.toList == u.toList)) else (some false))) (eq64_ev N M h) ?_
   by_cases h1 : N = M
   ·refine Ev.congr (f := fun _ => some (decide (k = j ∧ t.toList = u.toList ∧ N = M))) (fun n => ?_) (Ev.now _)
    rw [if_pos (by simp [h1])]
    simp only [h0, h1, true_and, and_true]
    congr 1
    by_cases h2 : t.toList = u.toList <;> simp [h2]
   ·refine Ev.congr (f := fun _ => some (decide (k = j ∧ t.toList = u.toList ∧ N = M))) (fun n => ?_) (Ev.now _)
    rw [if_neg (by simp [h1])]
    simp [h1]
 ·refine Ev.congr (f := fun _ => some (decide (k = j ∧ t.toList = u.toList ∧ N = M))) (fun n => ?_) (Ev.now _)
  unfold record_Same.f; rw [if_neg h0]; simp [h0]
theorem zox (x y : S82) (h : x.f1.length ≤ 1000000) : Ev (fun n => tumbrelref05_Same.f n [x] [y]) (decide (x.f0 = y.f0 ∧ x.f2.toList = y.f2.toList ∧ x.f1 = y.f1)) := by
 have e1 : qdz [x] 0 = x := rfl
 have e2 : qdz [y] 0 = y := rfl
 refine Ev.congr (f := fun k => tumbrelref05_Same.l0 k [x] [y] 0) (fun k => by simp [tumbrelref05_Same.f]) ?_
 by_cases h0 : x.f0 = y.f0
 ·by_cases h2 : x.f2.toList = y.f2.toList
  ·refine Ev.step (f := fun k => (tumbrelref02_Same.f k x.f1 y.f1).bind fun t => (if t = true then (tumbrelref05_Same.l0 k [x] [y] 1) else (some false))) (fun k => ?_) ?_
   ·simp only [tumbrelref05_Same.l0]
    rw [if_pos (by simp), if_pos (by omega), if_pos (by simp), e1, e2, if_pos h0, if_pos h2, show wrap64 (0 + 1) = 1 by unfold wrap64; omega]
   ·refine Ev.bind (f := fun k t => (if t = true then (tumbrelref05_Same.l0 k [x] [y] 1) else (some false))) (zek x.f1 y.f1 (by omega)) ?_
    by_cases h1 : x.f1 = y.f1
    ·refine Ev.step (f := fun _ => some true) (fun k => ?_) ?_
     ·rw [if_pos (by simp [h1])]; simp only [tumbrelref05_Same.l0]; rw [if_neg (by simp)]
     ·simp only [h0, h1, h2, and_self, decide_true]; exact Ev.now _
    ·refine Ev.congr (f := fun _ => some false) (fun k => ?_) ?_
     ·rw [if_neg (by simp [h1])]
     ·simp only [h1, and_false, decide_false]; exact Ev.now _
  ·refine Ev.step (f := fun k => some false) (fun k => ?_) ?_
   ·simp only [tumbrelref05_Same.l0]
    rw [if_pos (by simp), if_pos (by omega), if_pos (by simp), e1, e2, if_pos h0, if_neg h2]
   ·simp only [h2, false_and, and_false, decide_false]; exact Ev.now _
 ·refine Ev.step (f := fun k => some false) (fun k => ?_) ?_
  ·simp only [tumbrelref05_Same.l0]
   rw [if_pos (by simp), if_pos (by omega), if_pos (by simp), e1, e2, if_neg h0]
  ·simp only [h0, false_and, decide_false]; exact Ev.now _
end Go.Proofs.Ytojepleodijdeaa.VP
