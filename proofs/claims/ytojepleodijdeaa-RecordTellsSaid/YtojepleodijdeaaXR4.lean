/- Own texts and printed ones, those declarations alone that this claim needs, laid into one text by a program of this session. -/
import Derived.Test.YtojepleodijdeaaXR1
import Derived.Test.YtojepleodijdeaaXR2
import Derived.Test.YtojepleodijdeaaXR3
import Derived.Laws.PanicsMore
namespace Go.Proofs.Ytojepleodijdeaa.B
open Go.RowKit Go.Proofs.YtojepleodijdeaaW.PrintWords Go.Proofs.YtojepleodijdeaaW.PrintLast Go.Proofs.YtojepleodijdeaaW.PrintMore
attribute [local go_sem] qgz qgx qhj qhk qfx qfj qgj qgk   -- for this text's walks alone
set_option linter.unusedVariables false
set_option linter.unusedSimpArgs false
def sum_Of.f (l0 : List Int) : Option (Int) := (sum_More.f 0 l0).bind fun t292 => (some t292)
set_option maxHeartbeats 8000000 in
set_option maxRecDepth 100000 in
theorem sum_Of.calls (A0 : Option Addr) (c0 : Nat) (l0 : List Int) (r : Int) (w : World) (hr0 : Kd.C (Kd.int .u8) w A0 l0.length l0) (hc0 : l0.length ≤ c0) (h : sum_Of.f l0 = some r) :
  Calls Try.prog 35 #[.slice A0 l0.length c0] w fun e w' => e = .returned (.int .u32 r) ∧ Below w.heap.size w w' := by
 have HR0 := Aside0.mk hr0
 have HC0 := Aside0.mk hc0
 clear hr0 hc0
 have HB := Aside0.mk (Below.refl w.heap.size w)
 have H : ((sum_More.f 0 l0).bind fun t292 => (some t292)) = some r := h
 clear h
 replace H := Option.bind_eq_some_iff.mp H
 obtain ⟨t292, A20, H⟩ := H
 replace H : (some t292) = some r := H
 have A2 := Aside0.mk A20
 clear A20
 obtain rfl := Option.some.inj H
 go_enter Try.func35, Try.ntmps35
 go_wp2_with (first | ((with_reducible refine qdq (f := 37) rfl ?_); refine qew (some 4) rfl rfl Try.func37 (by kernel_rfl) rfl #[.int .u32 0, .slice A0 l0.length c0] rfl (by (try simp only [List.map_toArray, List.map_cons, List.map_nil]); first | done | rfl | (simp only [List.length_drop, List.length_take]; rfl)) ?_; (with_reducible refine (sum_More.calls 0 _ _ l0 t292 _ ?side1 ?side2 A2.out).mono ?_); (case side1 => repeat (first | exact HR0.out | (with_reducible refine Kd.C_alloc ?_ _) | (with_reducible refine Kd.C_drewN ?_ _) | (with_reducible refine Kd.C_drew ?_))); (case side2 => exact HC0.out); rintro e w3 ⟨rfl, hb⟩; refine ⟨_, rfl, ?_⟩; have n0_ := Aside0.mk (qbj (by repeat (first | (with_reducible first | exact HB.out | apply qax | apply qaq | apply qaz) | exact HB.out)) hb); clear HB; have HB := n0_; clear n0_; (try clear hb); (try clear hb2); (try clear hk); (try clear hi)))
 go_ret
 exact ⟨by first | rfl | (simp [qcq, qcz] <;> rfl) | (simp [*, qcq, qcz] <;> rfl), by repeat (first | (with_reducible first | exact HB.out | apply qax | apply qaq | apply qaz) | exact HB.out)⟩
def sum_Cut.f (k : Nat) (l0 : List Int) : Option (List Int × Bool) := if (wrap64 ((l0.length : Int) - 4)) < 0 then (some (([] : List Int), false)) else (if 0 ≤ (wrap64 ((l0.length : Int) - 4)) then (if (wrap64 ((l0.length : Int) - 4)) ≤ (l0.length : Int) then ((sum_Of.f (l0.take ((wrap64 ((l0.length : Int) - 4)) : Int).toNat)).bind fun t300 => ((sum_four.f t300).bind fun t301 => ((slices_Equal_byte_byte.f k (l0.drop ((wrap64 ((l0.length : Int) - 4)) : Int).toNat) t301).bind fun t304 => (if t304 = true then ((slices_Clone_byte_byte.f (l0.take ((wrap64 ((l0.length : Int) - 4)) : Int).toNat)).bind fun t306 => (some (t306, true))) else (some (([] : List Int), false)))))) else (none)) else (none))
theorem sum_Cut.mono : ∀ a0 k, LeO (sum_Cut.f k a0) (sum_Cut.f (k + 1) a0) := by
 intro a0 k
 unfold sum_Cut.f
 repeat' first
   | (with_reducible exact slices_Equal_byte_byte.mono _ _ _)
   | (with_reducible exact LeO.refl _)
   | (with_reducible exact LeO.none _)
   | (with_reducible refine LeO.ite ?_ ?_)
   | (with_reducible refine LeO.bind ?_ (fun _ => ?_))
   | exact slices_Equal_byte_byte.mono _ _ _
   | exact LeO.none _
   | refine LeO.ite ?_ ?_
   | refine LeO.bind ?_ (fun _ => ?_)
def sum_Cut.T2 : Bool × List (List Nat × List Nat) := (true, [([], []), ([0], [0]), ([1], [1]), ([2], [2]), ([2], [2]), ([3, 4, 2], [2, 3, 4]), ([2], [2]), ([2], [2]), ([6, 7, 2], [2, 6, 7]), ([8, 2, 2], [2, 8]), ([9, 9, 2], [2, 9]), ([5, 10, 10, 2], [2, 5, 10]), ([11, 2], [2, 11]), ([2, 12], [2, 12])])
def sum_Cut.B2 : List Nat := [0, 1, 3, 7, 7, 31, 7, 7, 199, 455, 967, 2047, 4095, 8191]
theorem sum_Cut.tab2 : rtab .any (qdv Try.f33 2) = sum_Cut.T2 := by kernel_rfl
theorem sum_Cut.bits2 : qjv sum_Cut.T2.2 sum_Cut.B2 = true := by kernel_rfl
set_option maxHeartbeats 8000000 in
set_option maxRecDepth 100000 in
theorem sum_Cut.calls (k : Nat) (A0 : Option Addr) (c0 : Nat) (l0 : List Int) (r1 : List Int) (r2 : Bool) (w : World) (hr0 : Kd.C (Kd.int .u8) w A0 l0.length l0) (hc0 : l0.length ≤ c0) (h : sum_Cut.f k l0 = some (r1, r2)) :
  Calls Try.prog 33 #[.slice A0 l0.length c0] w fun e w' => ∃ v0_ : Value, e = .returned (.tuple #[v0_, .bool r2]) ∧ Kd.R (Kd.int .u8) 5 w' w.heap.size (fun _ => True) v0_ r1 ∧ Below w.heap.size w w' := by
 have HR0 := Aside0.mk hr0
 have HC0 := Aside0.mk hc0
 clear hr0 hc0
 have HB := Aside0.mk (Below.refl w.heap.size w)
 have H : (if (wrap64 ((l0.length : Int) - 4)) < 0 then (some (([] : List Int), false)) else (if 0 ≤ (wrap64 ((l0.length : Int) - 4)) then (if (wrap64 ((l0.length : Int) - 4)) ≤ (l0.length : Int) then ((sum_Of.f (l0.take ((wrap64 ((l0.length : Int) - 4)) : Int).toNat)).bind fun t300 => ((sum_four.f t300).bind fun t301 => ((slices_Equal_byte_byte.f k (l0.drop ((wrap64 ((l0.length : Int) - 4)) : Int).toNat) t301).bind fun t304 => (if t304 = true then ((slices_Clone_byte_byte.f (l0.take ((wrap64 ((l0.length : Int) - 4)) : Int).toNat)).bind fun t306 => (some (t306, true))) else (some (([] : List Int), false)))))) else (none)) else (none))) = some (r1, r2) := h
 clear h
 by_cases c2 : (wrap64 ((l0.length : Int) - 4)) < 0
 ·rw [if_pos c2] at H
  have c2b0 : decide ((wrap64 ((l0.length : Int) - 4)) < 0) = true := decide_eq_true c2
  clear c2
  simp only [Option.some.injEq, Prod.mk.injEq] at H
  obtain ⟨rfl, rfl⟩ := H
  go_enter Try.func33, Try.ntmps33
  try go_wp2
  have n0_ := Aside0.mk (qaz HB.out)
  clear HB
  have HB := n0_
  clear n0_
  refine qjz (n := 14) (S := fun w' => True) (ds := []) #[false, false, false, false, false, false, false, false, false, false, false, false, false, false] (by kernel_rfl) rfl rfl trivial (fun hHeld => ?_); refine qfw sum_Cut.tab2 sum_Cut.bits2 (fun HT_ HW_ => ?_)
  generalize w.drew = w3 at HB hHeld ⊢
  refine qcj (i := 0) (N := some 8) (v := ?_) (a' := ?_) #[true, false, false, false, false, false, false, false, false, false, false, false, false, false] rfl rfl (qbk HT_.out (by kernel_rfl)) (fun _ _ _ h => h) (Or.inl ⟨by rfl, ?_⟩) ?_ ?_
  rotate_left
  ·intro w'
   go_simp
   with_reducible rfl
  rotate_left
  ·simp only [Act.put, List.setIfInBounds_toArray, List.set_cons_zero, List.set_cons_succ, qbv, qbw]
   rfl
  refine qcj (i := 1) (N := some 9) (v := ?_) (a' := ?_) #[true, true, false, false, false, false, false, false, false, false, false, false, false, false] rfl rfl (qbk HT_.out (by kernel_rfl)) (fun _ _ _ h => h) (Or.inl ⟨by rfl, ?_⟩) ?_ ?_
  rotate_left
  ·intro w'
   go_simp
   with_reducible rfl
  rotate_left
  ·simp only [Act.put, List.setIfInBounds_toArray, List.set_cons_zero, List.set_cons_succ, qbv, qbw]
   rfl
  refine qcj (i := 2) (N := some 10) (v := ?_) (a' := ?_) #[true, true, true, false, false, false, false, false, false, false, false, false, false, false] rfl rfl (qbk HT_.out (by kernel_rfl)) (fun _ _ _ h => h) (Or.inl ⟨by rfl, ?_⟩) ?_ ?_
  rotate_left
  ·intro w'
   go_simp
   with_reducible rfl
  rotate_left
  ·simp only [Act.put, List.setIfInBounds_toArray, List.set_cons_zero, List.set_cons_succ, qbv, qbw]
   rfl
  refine qcj (i := 3) (N := some 11) (v := undef) (a' := ?_) #[true, true, true, true, false, false, false, false, false, false, false, false, false, false] rfl rfl (qbk HT_.out (by kernel_rfl)) (fun _ _ _ h => h) (Or.inr ⟨by rfl, rfl⟩) ?_ ?_
  rotate_left
  ·simp only [Act.put, List.setIfInBounds_toArray, List.set_cons_zero, List.set_cons_succ, qbv, qbw]
   rfl
  refine qcj (i := 4) (N := some 12) (v := undef) (a' := ?_) #[true, true, true, true, true, false, false, false, false, false, false, false, false, false] rfl rfl (qbk HT_.out (by kernel_rfl)) (fun _ _ _ h => h) (Or.inr ⟨by rfl, rfl⟩) ?_ ?_
  rotate_left
  ·simp only [Act.put, List.setIfInBounds_toArray, List.set_cons_zero, List.set_cons_succ, qbv, qbw]
   rfl
  refine qcj (i := 5) (N := some 13) (v := undef) (a' := ?_) #[true, true, true, true, true, true, false, false, false, false, false, false, false, false] rfl rfl (qbk HT_.out (by kernel_rfl)) (fun _ _ _ h => h) (Or.inr ⟨by rfl, rfl⟩) ?_ ?_
  rotate_left
  ·simp only [Act.put, List.setIfInBounds_toArray, List.set_cons_zero, List.set_cons_succ, qbv, qbw]
   rfl
  refine qcj (i := 6) (N := some 14) (v := undef) (a' := ?_) #[true, true, true, true, true, true, true, false, false, false, false, false, false, false] rfl rfl (qbk HT_.out (by kernel_rfl)) (fun _ _ _ h => h) (Or.inr ⟨by rfl, rfl⟩) ?_ ?_
  rotate_left
  ·simp only [Act.put, List.setIfInBounds_toArray, List.set_cons_zero, List.set_cons_succ, qbv, qbw]
   rfl
  refine qcj (i := 7) (N := some 15) (v := undef) (a' := ?_) #[true, true, true, true, true, true, true, true, false, false, false, false, false, false] rfl rfl (qbk HT_.out (by kernel_rfl)) (fun _ _ _ h => h) (Or.inr ⟨by rfl, rfl⟩) ?_ ?_
  rotate_left
  ·simp only [Act.put, List.setIfInBounds_toArray, List.set_cons_zero, List.set_cons_succ, qbv, qbw]
   rfl
  refine qcj (i := 8) (N := some 16) (v := undef) (a' := ?_) #[true, true, true, true, true, true, true, true, true, false, false, false, false, false] rfl rfl (qbk HT_.out (by kernel_rfl)) (fun _ _ _ h => h) (Or.inr ⟨by rfl, rfl⟩) ?_ ?_
  rotate_left
  ·simp only [Act.put, List.setIfInBounds_toArray, List.set_cons_zero, List.set_cons_succ, qbv, qbw]
   rfl
  refine qcj (i := 9) (N := some 17) (v := undef) (a' := ?_) #[true, true, true, true, true, true, true, true, true, true, false, false, false, false] rfl rfl (qbk HT_.out (by kernel_rfl)) (fun _ _ _ h => h) (Or.inr ⟨by rfl, rfl⟩) ?_ ?_
  rotate_left
  ·simp only [Act.put, List.setIfInBounds_toArray, List.set_cons_zero, List.set_cons_succ, qbv, qbw]
   rfl
  refine qcj (i := 10) (N := some 18) (v := undef) (a' := ?_) #[true, true, true, true, true, true, true, true, true, true, true, false, false, false] rfl rfl (qbk HT_.out (by kernel_rfl)) (fun _ _ _ h => h) (Or.inr ⟨by rfl, rfl⟩) ?_ ?_
  rotate_left
  ·simp only [Act.put, List.setIfInBounds_toArray, List.set_cons_zero, List.set_cons_succ, qbv, qbw]
   rfl
  refine qcj (i := 11) (N := some 19) (v := undef) (a' := ?_) #[true, true, true, true, true, true, true, true, true, true, true, true, false, false] rfl rfl (qbk HT_.out (by kernel_rfl)) (fun _ _ _ h => h) (Or.inr ⟨by rfl, rfl⟩) ?_ ?_
  rotate_left
  ·simp only [Act.put, List.setIfInBounds_toArray, List.set_cons_zero, List.set_cons_succ, qbv, qbw]
   rfl
  refine qcj (i := 12) (N := some 20) (v := undef) (a' := ?_) #[true, true, true, true, true, true, true, true, true, true, true, true, true, false] rfl rfl (qbk HT_.out (by kernel_rfl)) (fun _ _ _ h => h) (Or.inr ⟨by rfl, rfl⟩) ?_ ?_
  rotate_left
  ·simp only [Act.put, List.setIfInBounds_toArray, List.set_cons_zero, List.set_cons_succ, qbv, qbw]
   rfl
  refine qcj (i := 13) (N := some 21) (v := ?_) (a' := ?_) #[true, true, true, true, true, true, true, true, true, true, true, true, true, true] rfl rfl (qbk HT_.out (by kernel_rfl)) (fun _ _ _ h => h) (Or.inl ⟨by rfl, ?_⟩) ?_ ?_
  rotate_left
  ·intro w'
   go_simp
   with_reducible rfl
  rotate_left
  ·simp only [Act.put, List.setIfInBounds_toArray, List.set_cons_zero, List.set_cons_succ, qbv, qbw]
   rfl
  refine qlv (qiq HT_.out (by kernel_rfl)) ?_
  try go_wp2
  go_ret2
  exact ⟨_, by first | rfl | (simp [qcq, qcz] <;> rfl) | (simp [*, qcq, qcz] <;> rfl), by first | exact Kd.R_nil _ _ _ _ _ | exact Kd.N_nil _ _ _ _ _ | exact Kd.V_nil _ _ _ _ _ | exact Kd.Q_nil _ _ _ _ _ | exact Kd.S_nil _ _ _ _ _, by repeat (first | (with_reducible first | exact HB.out | apply qax | apply qaq | apply qaz) | exact HB.out)⟩
 ·rw [if_neg c2] at H
  have c2b0 : decide ((wrap64 ((l0.length : Int) - 4)) < 0) = false := decide_eq_false c2
  clear c2
  obtain ⟨ji4, hji4⟩ : ∃ j_ : Int, (wrap64 ((l0.length : Int) - 4)) = j_ := ⟨_, rfl⟩
  replace H : (if 0 ≤ (ji4) then (if (ji4) ≤ (l0.length : Int) then ((sum_Of.f (l0.take ((ji4) : Int).toNat)).bind fun t300 => ((sum_four.f t300).bind fun t301 => ((slices_Equal_byte_byte.f k (l0.drop ((ji4) : Int).toNat) t301).bind fun t304 => (if t304 = true then ((slices_Clone_byte_byte.f (l0.take ((ji4) : Int).toNat)).bind fun t306 => (some (t306, true))) else (some (([] : List Int), false)))))) else (none)) else (none)) = some (r1, r2) := by first | (rw [hji4] at H; exact H) | (simp only [hji4] at H ⊢; exact H)
  (try rw [hji4] at c2b0)
  have hji4w : (IntKind.i64.wrap ((l0.length : Int) - 4)) = ji4 := (qbv _).trans hji4
  by_cases c5 : 0 ≤ (ji4)
  ·rw [if_pos c5] at H
   have c5b0 := eq_true c5
   have c5b1 : decide (0 ≤ (ji4)) = true := decide_eq_true c5
   clear c5
   by_cases c6 : (ji4) ≤ (l0.length : Int)
   ·rw [if_pos c6] at H
    have c6b0 := eq_true c6
    have c6b1 : decide ((ji4) ≤ (l0.length : Int)) = true := decide_eq_true c6
    clear c6
    have c7b0 := eq_true (of_decide_eq_true (by first | (with_reducible assumption) | assumption) : 0 ≤ (ji4))
    have c8b0 := eq_true (of_decide_eq_true (by first | (with_reducible assumption) | assumption) : (ji4) ≤ (l0.length : Int))
    replace H := Option.bind_eq_some_iff.mp H
    obtain ⟨t300, A90, H⟩ := H
    replace H : ((sum_four.f t300).bind fun t301 => ((slices_Equal_byte_byte.f k (l0.drop ((ji4) : Int).toNat) t301).bind fun t304 => (if t304 = true then ((slices_Clone_byte_byte.f (l0.take ((ji4) : Int).toNat)).bind fun t306 => (some (t306, true))) else (some (([] : List Int), false))))) = some (r1, r2) := H
    have A9 := Aside0.mk A90
    clear A90
    replace H := Option.bind_eq_some_iff.mp H
    obtain ⟨t301, A100, H⟩ := H
    replace H : ((slices_Equal_byte_byte.f k (l0.drop ((ji4) : Int).toNat) t301).bind fun t304 => (if t304 = true then ((slices_Clone_byte_byte.f (l0.take ((ji4) : Int).toNat)).bind fun t306 => (some (t306, true))) else (some (([] : List Int), false)))) = some (r1, r2) := H
    have A10 := Aside0.mk A100
    clear A100
    replace H := Option.bind_eq_some_iff.mp H
    obtain ⟨t304, A110, H⟩ := H
    replace H : (if t304 = true then ((slices_Clone_byte_byte.f (l0.take ((ji4) : Int).toNat)).bind fun t306 => (some (t306, true))) else (some (([] : List Int), false))) = some (r1, r2) := H
    have A11 := Aside0.mk A110
    clear A110
    by_cases c12 : t304 = true
    ·subst c12
     have H1 : ((slices_Clone_byte_byte.f (l0.take ((ji4) : Int).toNat)).bind fun t306 => (some (t306, true))) = some (r1, r2) := by rw [if_pos rfl] at H; exact H
     clear H
     have H := H1
     clear H1
     have c13b0 := eq_true (of_decide_eq_true (by first | (with_reducible assumption) | assumption) : 0 ≤ (ji4))
     have c14b0 := eq_true (of_decide_eq_true (by first | (with_reducible assumption) | assumption) : (ji4) ≤ (l0.length : Int))
     replace H := Option.bind_eq_some_iff.mp H
     obtain ⟨t306, A150, H⟩ := H
     replace H : (some (t306, true)) = some (r1, r2) := H
     have A15 := Aside0.mk A150
     clear A150
     simp only [Option.some.injEq, Prod.mk.injEq] at H
     obtain ⟨rfl, rfl⟩ := H
     go_enter Try.func33, Try.ntmps33
     try go_wp2
     have n0_ := Aside0.mk (qaz HB.out)
     clear HB
     have HB := n0_
     clear n0_
     obtain ⟨i017, hi017, _, hsz17, _⟩ := info_parts qgv
     obtain ⟨A17, hcut17, hA17, hC17⟩ := qhw (P := Try.prog) (Value.int .u8) 0 23 5 .i64 Try.underlying23 hi017 hsz17 A0 c0 l0 (ji4) (of_decide_eq_true (by first | (with_reducible assumption) | assumption)) (of_decide_eq_true (by first | (with_reducible assumption) | assumption)) HC0.out
     have HR298 := Aside0.mk (Kd.C_of_reads (h1 := fun _ => rfl) (hA17 _ (Kd.reads_of_C HR0.out)))
     have HC298 := Aside0.mk hC17
     clear hA17 hC17 hi017 hsz17
     obtain ⟨i018, hi018, _, hsz18, _⟩ := info_parts qgv
     obtain ⟨hcut18, hA18, hC18⟩ := qex (P := Try.prog) (Value.int .u8) 0 23 5 .i64 Try.underlying23 hi018 hsz18 A0 c0 l0 (ji4) (of_decide_eq_true (by first | (with_reducible assumption) | assumption)) (of_decide_eq_true (by first | (with_reducible assumption) | assumption)) HC0.out
     have HR299 := Aside0.mk (Kd.C_of_reads (h1 := fun _ => rfl) (hA18 _ (Kd.reads_of_C HR0.out)))
     have HC299 := Aside0.mk hC18
     clear hA18 hC18 hi018 hsz18
     refine qjz (n := 14) (S := fun w' => True) (ds := []) #[false, false, false, false, false, false, false, false, false, false, false, false, false, false] (by kernel_rfl) rfl rfl trivial (fun hHeld => ?_); refine qfw sum_Cut.tab2 sum_Cut.bits2 (fun HT_ HW_ => ?_)
     generalize w.drew = w16 at HB HR298 HR299 hHeld ⊢
     refine qcj (i := 0) (N := some 8) (v := ?_) (a' := ?_) #[true, false, false, false, false, false, false, false, false, false, false, false, false, false] rfl rfl (qbk HT_.out (by kernel_rfl)) (fun _ _ _ h => h) (Or.inl ⟨by rfl, ?_⟩) ?_ ?_
     rotate_left
     ·intro w'
      go_simp
      with_reducible rfl
     rotate_left
     ·simp only [Act.put, List.setIfInBounds_toArray, List.set_cons_zero, List.set_cons_succ, qbv, qbw]
      rfl
     refine qcj (i := 1) (N := some 9) (v := ?_) (a' := ?_) #[true, true, false, false, false, false, false, false, false, false, false, false, false, false] rfl rfl (qbk HT_.out (by kernel_rfl)) (fun _ _ _ h => h) (Or.inl ⟨by rfl, ?_⟩) ?_ ?_
     rotate_left
     ·intro w'
      go_simp
      with_reducible rfl
     rotate_left
     ·simp only [Act.put, List.setIfInBounds_toArray, List.set_cons_zero, List.set_cons_succ, qbv, qbw]
      rfl
     refine qcj (i := 2) (N := some 10) (v := ?_) (a' := ?_) #[true, true, true, false, false, false, false, false, false, false, false, false, false, false] rfl rfl (qbk HT_.out (by kernel_rfl)) (fun _ _ _ h => h) (Or.inl ⟨by rfl, ?_⟩) ?_ ?_
     rotate_left
     ·intro w'
      go_simp
      with_reducible rfl
     rotate_left
     ·simp only [Act.put, List.setIfInBounds_toArray, List.set_cons_zero, List.set_cons_succ, qbv, qbw]
      rfl
     refine qcj (i := 3) (N := some 11) (v := ?_) (a' := ?_) #[true, true, true, true, false, false, false, false, false, false, false, false, false, false] rfl rfl (qbk HT_.out (by kernel_rfl)) (fun _ _ _ h => h) (Or.inl ⟨by rfl, ?_⟩) ?_ ?_
     rotate_left
     ·intro w'
      go_simp
      with_reducible rfl
     rotate_left
     ·simp only [Act.put, List.setIfInBounds_toArray, List.set_cons_zero, List.set_cons_succ, qbv, qbw]
      rfl
     refine qcj (i := 4) (N := some 12) (v := ?_) (a' := ?_) #[true, true, true, true, true, false, false, false, false, false, false, false, false, false] rfl rfl (qbk HT_.out (by kernel_rfl)) (fun _ _ _ h => h) (Or.inl ⟨by rfl, ?_⟩) ?_ ?_
     rotate_left
     ·intro w'
      go_simp
      with_reducible rfl
     rotate_left
     ·simp only [Act.put, List.setIfInBounds_toArray, List.set_cons_zero, List.set_cons_succ, qbv, qbw]
      rfl
     refine qcj (i := 5) (N := some 13) (v := ?_) (a' := ?_) #[true, true, true, true, true, true, false, false, false, false, false, false, false, false] rfl rfl (qbk HT_.out (by kernel_rfl)) (fun _ _ _ h => h) (Or.inl ⟨by rfl, ?_⟩) ?_ ?_
     rotate_left
     ·intro w'
      go_simp
      with_reducible rfl
     rotate_left
     ·simp only [Act.put, List.setIfInBounds_toArray, List.set_cons_zero, List.set_cons_succ, qbv, qbw]
      rfl
     refine qcj (i := 6) (N := some 14) (v := ?_) (a' := ?_) #[true, true, true, true, true, true, true, false, false, false, false, false, false, false] rfl rfl (qbk HT_.out (by kernel_rfl)) (fun _ _ _ h => h) (Or.inl ⟨by rfl, ?_⟩) ?_ ?_
     rotate_left
     ·intro w'
      go_simp
      with_reducible rfl
     rotate_left
     ·simp only [Act.put, List.setIfInBounds_toArray, List.set_cons_zero, List.set_cons_succ, qbv, qbw]
      rfl
     refine qcj (i := 7) (N := some 15) (v := ?_) (a' := ?_) #[true, true, true, true, true, true, true, true, false, false, false, false, false, false] rfl rfl (qbk HT_.out (by kernel_rfl)) (fun _ _ _ h => h) (Or.inl ⟨by rfl, ?_⟩) ?_ ?_
     rotate_left
     ·intro w'
      go_simp
      with_reducible rfl
     rotate_left
     ·simp only [Act.put, List.setIfInBounds_toArray, List.set_cons_zero, List.set_cons_succ, qbv, qbw]
      rfl
     refine qcj (i := 8) (N := some 16) (v := ?_) (a' := ?_) #[true, true, true, true, true, true, true, true, true, false, false, false, false, false] rfl rfl (qbk HT_.out (by kernel_rfl)) (fun _ _ _ h => h) (Or.inl ⟨by rfl, ?_⟩) ?_ ?_
     rotate_left
     ·intro w'
      go_simp
      with_reducible rfl
     rotate_left
     ·simp only [Act.put, List.setIfInBounds_toArray, List.set_cons_zero, List.set_cons_succ, qbv, qbw]
      rfl
     refine one_ (i := 9) (N := some 17) #[true, true, true, true, true, true, true, true, true, true, false, false, false, false] rfl rfl (qfk HT_.out (by kernel_rfl)) (by decide) (fun K hK => ?_)
     refine qhx Try.func35 (by kernel_rfl) rfl #[.slice A0 (l0.take ((ji4) : Int).toNat).length c0] (by rfl) rfl rfl (by (try simp only [List.map_toArray, List.map_cons, List.map_nil]); first | done | (rw [show (l0.take ((ji4) : Int).toNat).length = (ji4).toNat from (by rw [List.length_take]; have h_ : ((ji4) : Int) ≤ (l0.length : Int) := of_decide_eq_true (by first | (with_reducible assumption) | assumption); omega)] <;> rfl) | (simp only [hji4]; rfl) | rfl | (simp only [List.length_drop, List.length_take]; rfl)) ?_
     with_reducible refine (sum_Of.calls _ _ (l0.take ((ji4) : Int).toNat) t300 _ ?side1 ?side2 A9.out).mono ?_
     (case side1 => repeat (first | exact (Kd.C_below HR299.out HB.out) | (with_reducible refine Kd.C_alloc ?_ _) | (with_reducible refine Kd.C_drewN ?_ _) | (with_reducible refine Kd.C_drew ?_)))
     (case side2 => exact HC299.out)
     rintro e w19 ⟨rfl, hb⟩
     refine ⟨_, rfl, ?_⟩
     have n0_ := Aside0.mk (qbj (by repeat (first | (with_reducible first | exact HB.out | apply qax | apply qaq | apply qaz) | exact HB.out)) hb)
     clear HB
     have HB := n0_
     clear n0_
     (try clear hb)
     (try clear hb2)
     (try clear hk)
     (try clear hi)
     refine hK.out _ _ trivial (fun hHeld => ?_)
     clear hK K
     refine qhz (a' := ?_) ?_ ?_
     rotate_left
     ·show Act.put _ (some 17) _ = _
      simp only [Act.put, List.setIfInBounds_toArray, List.set_cons_zero, List.set_cons_succ, qbv, qbw]
      rfl
     refine one_ (i := 10) (N := some 18) #[true, true, true, true, true, true, true, true, true, true, true, false, false, false] rfl rfl (qfk HT_.out (by kernel_rfl)) (by decide) (fun K hK => ?_)
     refine qhx Try.func70 (by kernel_rfl) rfl #[.int .u32 t300] (by rfl) rfl rfl (by (try simp only [List.map_toArray, List.map_cons, List.map_nil]); first | done | rfl | (simp only [List.length_drop, List.length_take]; rfl)) ?_
     with_reducible refine (sum_four.calls t300 t301 _ A10.out).mono ?_
     rintro e w20 ⟨v302, rfl, ho0, hb⟩
     refine ⟨_, rfl, ?_⟩
     have n0_ := Aside0.mk (Kd.R_lower ho0 (qbx (by repeat (first | (with_reducible first | exact HB.out | apply qax | apply qaq | apply qaz) | exact HB.out))))
     have n1_ := Aside0.mk (qbj (by repeat (first | (with_reducible first | exact HB.out | apply qax | apply qaq | apply qaz) | exact HB.out)) hb)
     clear HB
     have HO303 := n0_
     have HB := n1_
     clear n0_ n1_
     (try clear hb)
     (try clear hb2)
     (try clear hk)
     (try clear hi)
     (try clear ho0)
     obtain ⟨Ao21, co21, eo21⟩ := Kd.R_slice HO303.out
     (first | subst eo21 | (injection eo21 with f1_ f2_ f3_; have f4_ := f1_.symm; have f5_ := f3_.symm; clear f1_ f2_ f3_; subst f4_; subst f5_))
     refine hK.out _ _ trivial (fun hHeld => ?_)
     clear hK K
     refine qhz (a' := ?_) ?_ ?_
     rotate_left
     ·show Act.put _ (some 18) _ = _
      simp only [Act.put, List.setIfInBounds_toArray, List.set_cons_zero, List.set_cons_succ, qbv, qbw]
      rfl
     refine one_ (i := 11) (N := some 19) #[true, true, true, true, true, true, true, true, true, true, true, true, false, false] rfl rfl (qfk HT_.out (by kernel_rfl)) (by decide) (fun K hK => ?_)
     refine qhx Try.func69 (by kernel_rfl) rfl #[.slice A17 (l0.drop ((ji4) : Int).toNat).length (c0 - (ji4).toNat), .slice Ao21 t301.length co21] (by rfl) rfl rfl (by (try simp only [List.map_toArray, List.map_cons, List.map_nil]); first | done | (rw [show (l0.drop ((ji4) : Int).toNat).length = (l0.length - (ji4).toNat) from List.length_drop] <;> rfl) | (simp only [hji4]; rfl) | rfl | (simp only [List.length_drop, List.length_take]; rfl)) ?_
     with_reducible refine (slices_Equal_byte_byte.calls k _ _ (l0.drop ((ji4) : Int).toNat) _ _ t301 true _ ?side1 ?side2 ?side3 ?side4 A11.out).mono ?_
     (case side1 => repeat (first | exact (Kd.C_below HR298.out HB.out) | (with_reducible refine Kd.C_alloc ?_ _) | (with_reducible refine Kd.C_drewN ?_ _) | (with_reducible refine Kd.C_drew ?_)))
     (case side2 => exact HC298.out)
     (case side3 => repeat (first | exact (Kd.R_reads' HO303.out).2.2 | (with_reducible refine Kd.C_alloc ?_ _) | (with_reducible refine Kd.C_drewN ?_ _) | (with_reducible refine Kd.C_drew ?_)))
     (case side4 => exact (Kd.R_reads' HO303.out).2.1)
     rintro e w' ⟨rfl, ⟨nd, rfl⟩⟩
     refine ⟨_, rfl, ?_⟩
     refine hK.out _ _ trivial (fun hHeld => ?_)
     clear hK K
     refine qhz (a' := ?_) ?_ ?_
     rotate_left
     ·show Act.put _ (some 19) _ = _
      simp only [Act.put, List.setIfInBounds_toArray, List.set_cons_zero, List.set_cons_succ, qbv, qbw]
      rfl
     refine qcj (i := 12) (N := some 20) (v := ?_) (a' := ?_) #[true, true, true, true, true, true, true, true, true, true, true, true, true, false] rfl rfl (qbk HT_.out (by kernel_rfl)) (fun _ _ _ h => h) (Or.inl ⟨by rfl, ?_⟩) ?_ ?_
     rotate_left
     ·intro w'
      go_simp
      with_reducible rfl
     rotate_left
     ·simp only [Act.put, List.setIfInBounds_toArray, List.set_cons_zero, List.set_cons_succ, qbv, qbw]
      rfl
     refine qcj (i := 13) (N := some 21) (v := ?_) (a' := ?_) #[true, true, true, true, true, true, true, true, true, true, true, true, true, true] rfl rfl (qbk HT_.out (by kernel_rfl)) (fun _ _ _ h => h) (Or.inl ⟨by rfl, ?_⟩) ?_ ?_
     rotate_left
     ·intro w'
      go_simp
      with_reducible rfl
     rotate_left
     ·simp only [Act.put, List.setIfInBounds_toArray, List.set_cons_zero, List.set_cons_succ, qbv, qbw]
      rfl
     refine qlv (qiq HT_.out (by kernel_rfl)) ?_
     obtain ⟨i022, hi022, _, hsz22, _⟩ := info_parts qgv
     obtain ⟨hcut22, hA22, hC22⟩ := qex (P := Try.prog) (Value.int .u8) 0 23 5 .i64 Try.underlying23 hi022 hsz22 A0 c0 l0 (ji4) (of_decide_eq_true (by first | (with_reducible assumption) | assumption)) (of_decide_eq_true (by first | (with_reducible assumption) | assumption)) HC0.out
     have HR305 := Aside0.mk (Kd.C_of_reads (h1 := fun _ => rfl) (hA22 _ (Kd.reads_of_C HR0.out)))
     have HC305 := Aside0.mk hC22
     clear hA22 hC22 hi022 hsz22
     try go_wp2_with (first | ((with_reducible refine qdq (f := 71) rfl ?_); refine qew (some 25) rfl rfl Try.func71 (by kernel_rfl) rfl #[.slice A0 (l0.take ((ji4) : Int).toNat).length c0] rfl (by (try simp only [List.map_toArray, List.map_cons, List.map_nil]); first | done | (rw [show (l0.take ((ji4) : Int).toNat).length = (ji4).toNat from (by rw [List.length_take]; have h_ : ((ji4) : Int) ≤ (l0.length : Int) := of_decide_eq_true (by first | (with_reducible assumption) | assumption); omega)] <;> rfl) | (simp only [hji4]; rfl) | rfl | (simp only [List.length_drop, List.length_take]; rfl)) ?_; (with_reducible refine (slices_Clone_byte_byte.calls _ _ (l0.take ((ji4) : Int).toNat) t306 _ ?side1 ?side2 A15.out).mono ?_); (case side1 => repeat (first | exact (Kd.C_below HR305.out (by repeat (first | (with_reducible first | exact HB.out | apply qax | apply qaq | apply qaz) | exact HB.out))) | (with_reducible refine Kd.C_alloc ?_ _) | (with_reducible refine Kd.C_drewN ?_ _) | (with_reducible refine Kd.C_drew ?_))); (case side2 => exact HC305.out); rintro e w23 ⟨v307, rfl, ho0, hb⟩; refine ⟨_, rfl, ?_⟩; have n0_ := Aside0.mk (Kd.R_elder' (by (with_reducible repeat (first | apply Kd.R_alloc | apply Kd.R_drewN | apply Kd.R_drew)); exact HO303.out) (Kd.R_base ho0) hb); have n1_ := Aside0.mk (Kd.R_lower (Kd.R_new' ho0 (Kd.R_lt (by (with_reducible repeat (first | apply Kd.R_alloc | apply Kd.R_drewN | apply Kd.R_drew)); exact HO303.out))) (qbx (by repeat (first | (with_reducible first | exact HB.out | apply qax | apply qaq | apply qaz) | exact HB.out)))); have n2_ := Aside0.mk (qbj (by repeat (first | (with_reducible first | exact HB.out | apply qax | apply qaq | apply qaz) | exact HB.out)) hb); clear HO303; clear HB; have HO303 := n0_; have HO308 := n1_; have HB := n2_; clear n0_ n1_ n2_; (try clear hb); (try clear hb2); (try clear hk); (try clear hi); (try clear ho0)))
     go_ret2
     exact ⟨_, by first | rfl | (simp [qcq, qcz] <;> rfl) | (simp only [← hji4]; first | rfl | (simp [qcq, qcz] <;> rfl)) | (simp [*, qcq, qcz] <;> rfl), by (with_reducible repeat (first | apply Kd.R_alloc | apply Kd.R_drewN | apply Kd.R_drew)); exact Kd.R_mono HO308.out (fun _ hk => trivial), by repeat (first | (with_reducible first | exact HB.out | apply qax | apply qaq | apply qaz) | exact HB.out)⟩
    ·replace c12 := Bool.eq_false_iff.mpr c12
     subst c12
     have H1 : (some (([] : List Int), false)) = some (r1, r2) := by rw [if_neg (show ¬ (false = true) by decide)] at H; exact H
     clear H
     have H := H1
     clear H1
     simp only [Option.some.injEq, Prod.mk.injEq] at H
     obtain ⟨rfl, rfl⟩ := H
     go_enter Try.func33, Try.ntmps33
     try go_wp2
     have n0_ := Aside0.mk (qaz HB.out)
     clear HB
     have HB := n0_
     clear n0_
     obtain ⟨i025, hi025, _, hsz25, _⟩ := info_parts qgv
     obtain ⟨A25, hcut25, hA25, hC25⟩ := qhw (P := Try.prog) (Value.int .u8) 0 23 5 .i64 Try.underlying23 hi025 hsz25 A0 c0 l0 (ji4) (of_decide_eq_true (by first | (with_reducible assumption) | assumption)) (of_decide_eq_true (by first | (with_reducible assumption) | assumption)) HC0.out
     have HR298 := Aside0.mk (Kd.C_of_reads (h1 := fun _ => rfl) (hA25 _ (Kd.reads_of_C HR0.out)))
     have HC298 := Aside0.mk hC25
     clear hA25 hC25 hi025 hsz25
     obtain ⟨i026, hi026, _, hsz26, _⟩ := info_parts qgv
     obtain ⟨hcut26, hA26, hC26⟩ := qex (P := Try.prog) (Value.int .u8) 0 23 5 .i64 Try.underlying23 hi026 hsz26 A0 c0 l0 (ji4) (of_decide_eq_true (by first | (with_reducible assumption) | assumption)) (of_decide_eq_true (by first | (with_reducible assumption) | assumption)) HC0.out
     have HR299 := Aside0.mk (Kd.C_of_reads (h1 := fun _ => rfl) (hA26 _ (Kd.reads_of_C HR0.out)))
     have HC299 := Aside0.mk hC26
     clear hA26 hC26 hi026 hsz26
     refine qjz (n := 14) (S := fun w' => True) (ds := []) #[false, false, false, false, false, false, false, false, false, false, false, false, false, false] (by kernel_rfl) rfl rfl trivial (fun hHeld => ?_); refine qfw sum_Cut.tab2 sum_Cut.bits2 (fun HT_ HW_ => ?_)
     generalize w.drew = w24 at HB HR298 HR299 hHeld ⊢
     refine qcj (i := 0) (N := some 8) (v := ?_) (a' := ?_) #[true, false, false, false, false, false, false, false, false, false, false, false, false, false] rfl rfl (qbk HT_.out (by kernel_rfl)) (fun _ _ _ h => h) (Or.inl ⟨by rfl, ?_⟩) ?_ ?_
     rotate_left
     ·intro w'
      go_simp
      with_reducible rfl
     rotate_left
     ·simp only [Act.put, List.setIfInBounds_toArray, List.set_cons_zero, List.set_cons_succ, qbv, qbw]
      rfl
     refine qcj (i := 1) (N := some 9) (v := ?_) (a' := ?_) #[true, true, false, false, false, false, false, false, false, false, false, false, false, false] rfl rfl (qbk HT_.out (by kernel_rfl)) (fun _ _ _ h => h) (Or.inl ⟨by rfl, ?_⟩) ?_ ?_
     rotate_left
     ·intro w'
      go_simp
      with_reducible rfl
     rotate_left
     ·simp only [Act.put, List.setIfInBounds_toArray, List.set_cons_zero, List.set_cons_succ, qbv, qbw]
      rfl
     refine qcj (i := 2) (N := some 10) (v := ?_) (a' := ?_) #[true, true, true, false, false, false, false, false, false, false, false, false, false, false] rfl rfl (qbk HT_.out (by kernel_rfl)) (fun _ _ _ h => h) (Or.inl ⟨by rfl, ?_⟩) ?_ ?_
     rotate_left
     ·intro w'
      go_simp
      with_reducible rfl
     rotate_left
     ·simp only [Act.put, List.setIfInBounds_toArray, List.set_cons_zero, List.set_cons_succ, qbv, qbw]
      rfl
     refine qcj (i := 3) (N := some 11) (v := ?_) (a' := ?_) #[true, true, true, true, false, false, false, false, false, false, false, false, false, false] rfl rfl (qbk HT_.out (by kernel_rfl)) (fun _ _ _ h => h) (Or.inl ⟨by rfl, ?_⟩) ?_ ?_
     rotate_left
     ·intro w'
      go_simp
      with_reducible rfl
     rotate_left
     ·simp only [Act.put, List.setIfInBounds_toArray, List.set_cons_zero, List.set_cons_succ, qbv, qbw]
      rfl
     refine qcj (i := 4) (N := some 12) (v := ?_) (a' := ?_) #[true, true, true, true, true, false, false, false, false, false, false, false, false, false] rfl rfl (qbk HT_.out (by kernel_rfl)) (fun _ _ _ h => h) (Or.inl ⟨by rfl, ?_⟩) ?_ ?_
     rotate_left
     ·intro w'
      go_simp
      with_reducible rfl
     rotate_left
     ·simp only [Act.put, List.setIfInBounds_toArray, List.set_cons_zero, List.set_cons_succ, qbv, qbw]
      rfl
     refine qcj (i := 5) (N := some 13) (v := ?_) (a' := ?_) #[true, true, true, true, true, true, false, false, false, false, false, false, false, false] rfl rfl (qbk HT_.out (by kernel_rfl)) (fun _ _ _ h => h) (Or.inl ⟨by rfl, ?_⟩) ?_ ?_
     rotate_left
     ·intro w'
      go_simp
      with_reducible rfl
     rotate_left
     ·simp only [Act.put, List.setIfInBounds_toArray, List.set_cons_zero, List.set_cons_succ, qbv, qbw]
      rfl
     refine qcj (i := 6) (N := some 14) (v := ?_) (a' := ?_) #[true, true, true, true, true, true, true, false, false, false, false, false, false, false] rfl rfl (qbk HT_.out (by kernel_rfl)) (fun _ _ _ h => h) (Or.inl ⟨by rfl, ?_⟩) ?_ ?_
     rotate_left
     ·intro w'
      go_simp
      with_reducible rfl
     rotate_left
     ·simp only [Act.put, List.setIfInBounds_toArray, List.set_cons_zero, List.set_cons_succ, qbv, qbw]
      rfl
     refine qcj (i := 7) (N := some 15) (v := ?_) (a' := ?_) #[true, true, true, true, true, true, true, true, false, false, false, false, false, false] rfl rfl (qbk HT_.out (by kernel_rfl)) (fun _ _ _ h => h) (Or.inl ⟨by rfl, ?_⟩) ?_ ?_
     rotate_left
     ·intro w'
      go_simp
      with_reducible rfl
     rotate_left
     ·simp only [Act.put, List.setIfInBounds_toArray, List.set_cons_zero, List.set_cons_succ, qbv, qbw]
      rfl
     refine qcj (i := 8) (N := some 16) (v := ?_) (a' := ?_) #[true, true, true, true, true, true, true, true, true, false, false, false, false, false] rfl rfl (qbk HT_.out (by kernel_rfl)) (fun _ _ _ h => h) (Or.inl ⟨by rfl, ?_⟩) ?_ ?_
     rotate_left
     ·intro w'
      go_simp
      with_reducible rfl
     rotate_left
     ·simp only [Act.put, List.setIfInBounds_toArray, List.set_cons_zero, List.set_cons_succ, qbv, qbw]
      rfl
     refine one_ (i := 9) (N := some 17) #[true, true, true, true, true, true, true, true, true, true, false, false, false, false] rfl rfl (qfk HT_.out (by kernel_rfl)) (by decide) (fun K hK => ?_)
     refine qhx Try.func35 (by kernel_rfl) rfl #[.slice A0 (l0.take ((ji4) : Int).toNat).length c0] (by rfl) rfl rfl (by (try simp only [List.map_toArray, List.map_cons, List.map_nil]); first | done | (rw [show (l0.take ((ji4) : Int).toNat).length = (ji4).toNat from (by rw [List.length_take]; have h_ : ((ji4) : Int) ≤ (l0.length : Int) := of_decide_eq_true (by first | (with_reducible assumption) | assumption); omega)] <;> rfl) | (simp only [hji4]; rfl) | rfl | (simp only [List.length_drop, List.length_take]; rfl)) ?_
     with_reducible refine (sum_Of.calls _ _ (l0.take ((ji4) : Int).toNat) t300 _ ?side1 ?side2 A9.out).mono ?_
     (case side1 => repeat (first | exact (Kd.C_below HR299.out HB.out) | (with_reducible refine Kd.C_alloc ?_ _) | (with_reducible refine Kd.C_drewN ?_ _) | (with_reducible refine Kd.C_drew ?_)))
     (case side2 => exact HC299.out)
     rintro e w27 ⟨rfl, hb⟩
     refine ⟨_, rfl, ?_⟩
     have n0_ := Aside0.mk (qbj (by repeat (first | (with_reducible first | exact HB.out | apply qax | apply qaq | apply qaz) | exact HB.out)) hb)
     clear HB
     have HB := n0_
     clear n0_
     (try clear hb)
     (try clear hb2)
     (try clear hk)
     (try clear hi)
     refine hK.out _ _ trivial (fun hHeld => ?_)
     clear hK K
     refine qhz (a' := ?_) ?_ ?_
     rotate_left
     ·show Act.put _ (some 17) _ = _
      simp only [Act.put, List.setIfInBounds_toArray, List.set_cons_zero, List.set_cons_succ, qbv, qbw]
      rfl
     refine one_ (i := 10) (N := some 18) #[true, true, true, true, true, true, true, true, true, true, true, false, false, false] rfl rfl (qfk HT_.out (by kernel_rfl)) (by decide) (fun K hK => ?_)
     refine qhx Try.func70 (by kernel_rfl) rfl #[.int .u32 t300] (by rfl) rfl rfl (by (try simp only [List.map_toArray, List.map_cons, List.map_nil]); first | done | rfl | (simp only [List.length_drop, List.length_take]; rfl)) ?_
     with_reducible refine (sum_four.calls t300 t301 _ A10.out).mono ?_
     rintro e w28 ⟨v302, rfl, ho0, hb⟩
     refine ⟨_, rfl, ?_⟩
     have n0_ := Aside0.mk (Kd.R_lower ho0 (qbx (by repeat (first | (with_reducible first | exact HB.out | apply qax | apply qaq | apply qaz) | exact HB.out))))
     have n1_ := Aside0.mk (qbj (by repeat (first | (with_reducible first | exact HB.out | apply qax | apply qaq | apply qaz) | exact HB.out)) hb)
     clear HB
     have HO303 := n0_
     have HB := n1_
     clear n0_ n1_
     (try clear hb)
     (try clear hb2)
     (try clear hk)
     (try clear hi)
     (try clear ho0)
     obtain ⟨Ao29, co29, eo29⟩ := Kd.R_slice HO303.out
     (first | subst eo29 | (injection eo29 with f1_ f2_ f3_; have f4_ := f1_.symm; have f5_ := f3_.symm; clear f1_ f2_ f3_; subst f4_; subst f5_))
     refine hK.out _ _ trivial (fun hHeld => ?_)
     clear hK K
     refine qhz (a' := ?_) ?_ ?_
     rotate_left
     ·show Act.put _ (some 18) _ = _
      simp only [Act.put, List.setIfInBounds_toArray, List.set_cons_zero, List.set_cons_succ, qbv, qbw]
      rfl
     refine one_ (i := 11) (N := some 19) #[true, true, true, true, true, true, true, true, true, true, true, true, false, false] rfl rfl (qfk HT_.out (by kernel_rfl)) (by decide) (fun K hK => ?_)
     refine qhx Try.func69 (by kernel_rfl) rfl #[.slice A25 (l0.drop ((ji4) : Int).toNat).length (c0 - (ji4).toNat), .slice Ao29 t301.length co29] (by rfl) rfl rfl (by (try simp only [List.map_toArray, List.map_cons, List.map_nil]); first | done | (rw [show (l0.drop ((ji4) : Int).toNat).length = (l0.length - (ji4).toNat) from List.length_drop] <;> rfl) | (simp only [hji4]; rfl) | rfl | (simp only [List.length_drop, List.length_take]; rfl)) ?_
     with_reducible refine (slices_Equal_byte_byte.calls k _ _ (l0.drop ((ji4) : Int).toNat) _ _ t301 false _ ?side1 ?side2 ?side3 ?side4 A11.out).mono ?_
     (case side1 => repeat (first | exact (Kd.C_below HR298.out HB.out) | (with_reducible refine Kd.C_alloc ?_ _) | (with_reducible refine Kd.C_drewN ?_ _) | (with_reducible refine Kd.C_drew ?_)))
     (case side2 => exact HC298.out)
     (case side3 => repeat (first | exact (Kd.R_reads' HO303.out).2.2 | (with_reducible refine Kd.C_alloc ?_ _) | (with_reducible refine Kd.C_drewN ?_ _) | (with_reducible refine Kd.C_drew ?_)))
     (case side4 => exact (Kd.R_reads' HO303.out).2.1)
     rintro e w' ⟨rfl, ⟨nd, rfl⟩⟩
     refine ⟨_, rfl, ?_⟩
     refine hK.out _ _ trivial (fun hHeld => ?_)
     clear hK K
     refine qhz (a' := ?_) ?_ ?_
     rotate_left
     ·show Act.put _ (some 19) _ = _
      simp only [Act.put, List.setIfInBounds_toArray, List.set_cons_zero, List.set_cons_succ, qbv, qbw]
      rfl
     refine qcj (i := 12) (N := some 20) (v := ?_) (a' := ?_) #[true, true, true, true, true, true, true, true, true, true, true, true, true, false] rfl rfl (qbk HT_.out (by kernel_rfl)) (fun _ _ _ h => h) (Or.inl ⟨by rfl, ?_⟩) ?_ ?_
     rotate_left
     ·intro w'
      go_simp
      with_reducible rfl
     rotate_left
     ·simp only [Act.put, List.setIfInBounds_toArray, List.set_cons_zero, List.set_cons_succ, qbv, qbw]
      rfl
     refine qcj (i := 13) (N := some 21) (v := ?_) (a' := ?_) #[true, true, true, true, true, true, true, true, true, true, true, true, true, true] rfl rfl (qbk HT_.out (by kernel_rfl)) (fun _ _ _ h => h) (Or.inl ⟨by rfl, ?_⟩) ?_ ?_
     rotate_left
     ·intro w'
      go_simp
      with_reducible rfl
     rotate_left
     ·simp only [Act.put, List.setIfInBounds_toArray, List.set_cons_zero, List.set_cons_succ, qbv, qbw]
      rfl
     refine qlv (qiq HT_.out (by kernel_rfl)) ?_
     try go_wp2
     go_ret2
     exact ⟨_, by first | rfl | (simp [qcq, qcz] <;> rfl) | (simp only [← hji4]; first | rfl | (simp [qcq, qcz] <;> rfl)) | (simp [*, qcq, qcz] <;> rfl), by first | exact Kd.R_nil _ _ _ _ _ | exact Kd.N_nil _ _ _ _ _ | exact Kd.V_nil _ _ _ _ _ | exact Kd.Q_nil _ _ _ _ _ | exact Kd.S_nil _ _ _ _ _, by repeat (first | (with_reducible first | exact HB.out | apply qax | apply qaq | apply qaz) | exact HB.out)⟩
   ·rw [if_neg c6] at H
    exact absurd H (by simp)
  ·rw [if_neg c5] at H
   exact absurd H (by simp)
def frame_Bytes.f (a0_0 : Int) (l0_1 : List Int) : Option (List Int × Int) := if (l0_1.length : Int) > 400 then (some (([] : List Int), 4)) else ((frame_low_int.f (l0_1.length : Int)).bind fun bt411 => ((frame_low_int.f bt411.2).bind fun bt413 => ((sum_Put.f (([a0_0, bt411.1, bt413.1] : List Int))).bind fun t418 => ((sum_Put.f l0_1).bind fun t421 => (if t418.length + t421.length < 140737488355328 then (some ((t418 ++ t421), 0)) else (none))))))
def frame_Bytes.T5 : Bool × List (List Nat × List Nat) := (true, [([], []), ([0], [0]), ([], []), ([], []), ([1, 2, 3], [1, 2, 3]), ([4], [4]), ([], []), ([6], [6]), ([7, 5], [7]), ([5, 8, 8], [5, 8]), ([9, 9, 0, 1, 2, 3, 4, 5, 6, 7, 8, 9], [9]), ([10, 0, 1, 2, 3, 4, 5, 6, 7, 8, 9, 10], [])])
def frame_Bytes.B5 : List Nat := [0, 1, 0, 0, 15, 31, 0, 64, 255, 511, 1023, 2047]
theorem frame_Bytes.tab5 : rtab .any (qdv Try.f45 5) = frame_Bytes.T5 := by kernel_rfl
theorem frame_Bytes.bits5 : qjv frame_Bytes.T5.2 frame_Bytes.B5 = true := by kernel_rfl
set_option maxHeartbeats 8000000 in
set_option maxRecDepth 100000 in
theorem frame_Bytes.calls (a0_0 : Int) (A0_1 : Option Addr) (c0_1 : Nat) (l0_1 : List Int) (r1 : List Int) (r2 : Int) (w : World) (hr0_1 : Kd.C (Kd.int .u8) w A0_1 l0_1.length l0_1) (hc0_1 : l0_1.length ≤ c0_1) (h : frame_Bytes.f a0_0 l0_1 = some (r1, r2)) :
  Calls Try.prog 45 #[.agg #[.int .u8 a0_0, .slice A0_1 l0_1.length c0_1]] w fun e w' => ∃ v0_ : Value, e = .returned (.tuple #[v0_, .int .i64 r2]) ∧ Kd.R (Kd.int .u8) 5 w' w.heap.size (fun _ => True) v0_ r1 ∧ Below w.heap.size w w' := by
 have hu56 := Try.underlying56
 have HR0_1 := Aside0.mk hr0_1
 have HC0_1 := Aside0.mk hc0_1
 clear hr0_1 hc0_1
 have HB := Aside0.mk (Below.refl w.heap.size w)
 have H : (if (l0_1.length : Int) > 400 then (some (([] : List Int), 4)) else ((frame_low_int.f (l0_1.length : Int)).bind fun bt411 => ((frame_low_int.f bt411.2).bind fun bt413 => ((sum_Put.f (([a0_0, bt411.1, bt413.1] : List Int))).bind fun t418 => ((sum_Put.f l0_1).bind fun t421 => (if t418.length + t421.length < 140737488355328 then (some ((t418 ++ t421), 0)) else (none))))))) = some (r1, r2) := h
 clear h
 by_cases c2 : (l0_1.length : Int) > 400
 ·rw [if_pos c2] at H
  have c2b0 : decide (400 < (l0_1.length : Int)) = true := decide_eq_true c2
  have c2b1 : decide (400 < l0_1.length) = true := decide_eq_true (by omega)
  clear c2
  simp only [Option.some.injEq, Prod.mk.injEq] at H
  obtain ⟨rfl, rfl⟩ := H
  go_enter Try.func45, Try.ntmps45
  go_wp2_with (first | ((with_reducible refine qcv (N := 1) rfl ?_); refine qcw ?hg (N := 1) ?hd (cs := #[.int .u8 a0_0, .slice A0_1 l0_1.length c0_1]) (t := 56) ?hr ?_; (case hd => rfl); (case hg => rfl); (case hr => first | (go_simp; done) | (go_simp; rfl)); intro gb410 hg w3 hbox hb; have n0_ := Aside0.mk (qbj (by repeat (first | (with_reducible first | exact HB.out | apply qax | apply qaq | apply qaz) | exact HB.out)) hb); have n1_ := Aside0.mk (hbox); have n2_ := Aside0.mk ((by rw [hg]; exact (qbx (by repeat (first | (with_reducible first | exact HB.out | apply qax | apply qaq | apply qaz) | exact HB.out))) : w.heap.size ≤ gb410)); have n3_ := Aside0.mk ((by rw [hg]; exact (qbx (by repeat (first | (with_reducible first | exact HB.out | apply qax | apply qaq | apply qaz) | exact HB.out))) : w.heap.size ≤ gb410)); clear HB; have HB := n0_; have BK410 := n1_; have GW410 := n2_; have GE410 := n3_; clear n0_ n1_ n2_ n3_; clear hb hbox hg; have hcz4_0 : w3.cell? ⟨gb410, 0, none⟩ = some (.int .u8 a0_0) := (qbq BK410.out 0).trans rfl; have hcz4_1 : w3.cell? ⟨gb410, 1, none⟩ = some (.slice A0_1 l0_1.length c0_1) := (qbq BK410.out 1).trans rfl; have hfz4_0 := qbz BK410.out 0; have hfz4_1 := qbz BK410.out 1))
  go_ret2
  exact ⟨_, by first | rfl | (simp [qcq, qcz] <;> rfl) | (simp [*, qcq, qcz] <;> rfl), by first | exact Kd.R_nil _ _ _ _ _ | exact Kd.N_nil _ _ _ _ _ | exact Kd.V_nil _ _ _ _ _ | exact Kd.Q_nil _ _ _ _ _ | exact Kd.S_nil _ _ _ _ _, by repeat (first | (with_reducible first | exact HB.out | apply qax | apply qaq | apply qaz | refine qaj ?_ GE410.out) | exact HB.out)⟩
 ·rw [if_neg c2] at H
  have c2b0 : decide (400 < (l0_1.length : Int)) = false := decide_eq_false c2
  have c2b1 : decide (400 < l0_1.length) = false := decide_eq_false (by omega)
  clear c2
  replace H := Option.bind_eq_some_iff.mp H
  obtain ⟨⟨t411, t412⟩, A50, H⟩ := H
  replace H : ((frame_low_int.f t412).bind fun bt413 => ((sum_Put.f (([a0_0, t411, bt413.1] : List Int))).bind fun t418 => ((sum_Put.f l0_1).bind fun t421 => (if t418.length + t421.length < 140737488355328 then (some ((t418 ++ t421), 0)) else (none))))) = some (r1, r2) := H
  have A5 := Aside0.mk A50
  clear A50
  replace H := Option.bind_eq_some_iff.mp H
  obtain ⟨⟨t413, t414⟩, A60, H⟩ := H
  replace H : ((sum_Put.f (([a0_0, t411, t413] : List Int))).bind fun t418 => ((sum_Put.f l0_1).bind fun t421 => (if t418.length + t421.length < 140737488355328 then (some ((t418 ++ t421), 0)) else (none)))) = some (r1, r2) := H
  have A6 := Aside0.mk A60
  clear A60
  obtain ⟨y415, hy415⟩ : ∃ y_ : List Int, y_ = (([a0_0, t411, t413] : List Int)) := ⟨_, rfl⟩
  replace H : ((sum_Put.f y415).bind fun t418 => ((sum_Put.f l0_1).bind fun t421 => (if t418.length + t421.length < 140737488355328 then (some ((t418 ++ t421), 0)) else (none)))) = some (r1, r2) := by first | (rw [hy415]; with_reducible exact H) | (have H2_ := (Option.bind_some _ _).symm.trans H; rw [hy415]; with_reducible exact H2_) | (have H2_ := (Option.bind_some _ _).symm.trans H; with_reducible exact H2_) | with_reducible exact H | (rw [hy415]; exact H) | exact H
  have Ny415 := Aside0.mk hy415
  clear hy415
  replace H := Option.bind_eq_some_iff.mp H
  obtain ⟨t418, A70, H⟩ := H
  replace H : ((sum_Put.f l0_1).bind fun t421 => (if t418.length + t421.length < 140737488355328 then (some ((t418 ++ t421), 0)) else (none))) = some (r1, r2) := H
  have A7 := Aside0.mk A70
  clear A70
  replace H := Option.bind_eq_some_iff.mp H
  obtain ⟨t421, A80, H⟩ := H
  replace H : (if t418.length + t421.length < 140737488355328 then (some ((t418 ++ t421), 0)) else (none)) = some (r1, r2) := H
  have A8 := Aside0.mk A80
  clear A80
  by_cases c9 : t418.length + t421.length < 140737488355328
  ·rw [if_pos c9] at H
   have LMc9 := Aside0.mk c9
   clear c9
   obtain ⟨y424, hy424⟩ : ∃ y_ : List Int, y_ = (t418 ++ t421) := ⟨_, rfl⟩
   replace H : (some (y424, 0)) = some (r1, r2) := by first | (rw [hy424]; with_reducible exact H) | (have H2_ := (Option.bind_some _ _).symm.trans H; rw [hy424]; with_reducible exact H2_) | (have H2_ := (Option.bind_some _ _).symm.trans H; with_reducible exact H2_) | with_reducible exact H | (rw [hy424]; exact H) | exact H
   have Ny424 := Aside0.mk hy424
   clear hy424
   simp only [Option.some.injEq, Prod.mk.injEq] at H
   obtain ⟨rfl, rfl⟩ := H
   go_enter Try.func45, Try.ntmps45
   try go_wp2_with (first | ((with_reducible refine qcv (N := 1) rfl ?_); refine qcw ?hg (N := 1) ?hd (cs := #[.int .u8 a0_0, .slice A0_1 l0_1.length c0_1]) (t := 56) ?hr ?_; (case hd => rfl); (case hg => rfl); (case hr => first | (go_simp; done) | (go_simp; rfl)); intro gb410 hg w10 hbox hb; have n0_ := Aside0.mk (qbj (by repeat (first | (with_reducible first | exact HB.out | apply qax | apply qaq | apply qaz) | exact HB.out)) hb); have n1_ := Aside0.mk (hbox); have n2_ := Aside0.mk ((by rw [hg]; exact (qbx (by repeat (first | (with_reducible first | exact HB.out | apply qax | apply qaq | apply qaz) | exact HB.out))) : w.heap.size ≤ gb410)); have n3_ := Aside0.mk ((by rw [hg]; exact (qbx (by repeat (first | (with_reducible first | exact HB.out | apply qax | apply qaq | apply qaz) | exact HB.out))) : w.heap.size ≤ gb410)); clear HB; have HB := n0_; have BK410 := n1_; have GW410 := n2_; have GE410 := n3_; clear n0_ n1_ n2_ n3_; clear hb hbox hg; have hcz11_0 : w10.cell? ⟨gb410, 0, none⟩ = some (.int .u8 a0_0) := (qbq BK410.out 0).trans rfl; have hcz11_1 : w10.cell? ⟨gb410, 1, none⟩ = some (.slice A0_1 l0_1.length c0_1) := (qbq BK410.out 1).trans rfl; have hfz11_0 := qbz BK410.out 0; have hfz11_1 := qbz BK410.out 1) | ((with_reducible refine qdq (f := 75) rfl ?_); refine qew (some 16) rfl rfl Try.func75 (by kernel_rfl) rfl #[.int .i64 (l0_1.length : Int)] rfl (by (try simp only [List.map_toArray, List.map_cons, List.map_nil]); first | done | rfl | (simp only [List.length_drop, List.length_take]; rfl)) ?_; (with_reducible refine (frame_low_int.calls (l0_1.length : Int) t411 t412 _ A5.out).mono ?_); rintro e w' ⟨rfl, ⟨nd, rfl⟩⟩; refine ⟨_, rfl, ?_⟩) | ((with_reducible refine qdq (f := 75) rfl ?_); refine qew (some 21) rfl rfl Try.func75 (by kernel_rfl) rfl #[.int .i64 t412] rfl (by (try simp only [List.map_toArray, List.map_cons, List.map_nil]); first | done | rfl | (simp only [List.length_drop, List.length_take]; rfl)) ?_; (with_reducible refine (frame_low_int.calls t412 t413 t414 _ A6.out).mono ?_); rintro e w' ⟨rfl, ⟨nd, rfl⟩⟩; refine ⟨_, rfl, ?_⟩))
   (try (rw [qhv w10]; generalize hq_ : World.drewN w10 _ = w10; have n0_ : Aside0 (w10.heap[gb410]? = some (.cells #[.int .u8 a0_0, .slice A0_1 l0_1.length c0_1] 56 (0, 0))) := ⟨by rw [← hq_]; exact (by (with_reducible repeat (first | refine qav ?_ _ | refine qaw ?_ | refine qak ?_ _)); exact BK410.out)⟩; have n1_ : Aside0 (Below w.heap.size w w10) := ⟨by rw [← hq_]; exact (by repeat (first | (with_reducible first | exact HB.out | apply qax | apply qaq | apply qaz | refine qaj ?_ GE410.out) | exact HB.out))⟩; clear BK410 HB hq_; have BK410 := n0_; have HB := n1_; clear n0_ n1_))
   have n0_ := Aside0.mk (qaw BK410.out)
   have n1_ := Aside0.mk (qaz HB.out)
   clear BK410
   clear HB
   have BK410 := n0_
   have HB := n1_
   clear n0_ n1_
   refine qjz (n := 12) (S := fun w' => w'.cell? ⟨gb410, 0, none⟩ = some (.int .u8 a0_0) ∧ w'.cell? ⟨gb410, 1, none⟩ = some (.slice A0_1 l0_1.length c0_1)) (ds := []) #[false, false, false, false, false, false, false, false, false, false, false, false] (by kernel_rfl) rfl rfl ⟨(qbq BK410.out 0).trans rfl, (qbq BK410.out 1).trans rfl⟩ (fun hHeld => ?_); refine qfw frame_Bytes.tab5 frame_Bytes.bits5 (fun HT_ HW_ => ?_)
   generalize w10.drew = w12 at BK410 HB hHeld ⊢
   refine qcj (i := 0) (N := some 24) (v := ?_) (a' := ?_) #[true, false, false, false, false, false, false, false, false, false, false, false] rfl rfl (qbk HT_.out (by kernel_rfl)) (fun _ _ _ h => h) (Or.inl ⟨by rfl, ?_⟩) ?_ ?_
   rotate_left
   ·intro w'
    go_simp
    with_reducible rfl
   rotate_left
   ·simp only [Act.put, List.setIfInBounds_toArray, List.set_cons_zero, List.set_cons_succ, qbv, qbw]
    rfl
   refine qcj (i := 2) (N := some 26) (v := ?_) (a' := ?_) #[true, false, true, false, false, false, false, false, false, false, false, false] rfl rfl (qbk HT_.out (by kernel_rfl)) (fun _ _ _ h => h) (Or.inl ⟨by rfl, ?_⟩) ?_ ?_
   rotate_left
   ·intro w'
    go_simp
    with_reducible rfl
   rotate_left
   ·simp only [Act.put, List.setIfInBounds_toArray, List.set_cons_zero, List.set_cons_succ, qbv, qbw]
    rfl
   refine qcj (i := 3) (N := some 27) (v := ?_) (a' := ?_) #[true, false, true, true, false, false, false, false, false, false, false, false] rfl rfl (qbk HT_.out (by kernel_rfl)) (fun _ _ _ h => h) (Or.inl ⟨by rfl, ?_⟩) ?_ ?_
   rotate_left
   ·intro w'
    go_simp
    with_reducible rfl
   rotate_left
   ·simp only [Act.put, List.setIfInBounds_toArray, List.set_cons_zero, List.set_cons_succ, qbv, qbw]
    rfl
   refine qcj (i := 6) (N := some 30) (v := ?_) (a' := ?_) #[true, false, true, true, false, false, true, false, false, false, false, false] rfl rfl (qbk HT_.out (by kernel_rfl)) (fun _ _ _ h => h) (Or.inl ⟨by rfl, ?_⟩) ?_ ?_
   rotate_left
   ·intro w'
    go_simp
    with_reducible rfl
   rotate_left
   ·simp only [Act.put, List.setIfInBounds_toArray, List.set_cons_zero, List.set_cons_succ, qbv, qbw]
    rfl
   refine take_ (i := 1) (N := some 25) (v := ?_) (a' := ?_) #[true, true, true, true, false, false, true, false, false, false, false, false] rfl rfl (qdk HT_.out HW_.out (by kernel_rfl)) (fun _ _ _ h => h) (Or.inl ⟨by rfl, ?_⟩) hHeld ?_ ?_
   rotate_left
   ·rintro w' ⟨s0, s1⟩
    go_simp
    with_reducible rfl
   rotate_left
   ·simp only [Act.put, List.setIfInBounds_toArray, List.set_cons_zero, List.set_cons_succ, qbv, qbw]
    rfl
   refine take_ (i := 7) (N := some 31) (v := ?_) (a' := ?_) #[true, true, true, true, false, false, true, true, false, false, false, false] rfl rfl (qdk HT_.out HW_.out (by kernel_rfl)) (fun _ _ _ h => h) (Or.inl ⟨by rfl, ?_⟩) hHeld ?_ ?_
   rotate_left
   ·rintro w' ⟨s0, s1⟩
    go_simp
    with_reducible rfl
   rotate_left
   ·simp only [Act.put, List.setIfInBounds_toArray, List.set_cons_zero, List.set_cons_succ, qbv, qbw]
    rfl
   refine one_ (i := 4) (N := some 28) #[true, true, true, true, true, false, true, true, false, false, false, false] rfl rfl (qfk HT_.out (by kernel_rfl)) (by decide) (fun K hK => ?_)
   refine Kd.R_lit_step (Kd.int .u8) _ 5 ?hg (N := 28) ?hd (xs := ([a0_0, t411, t413] : List Int)) (inner := [.int .u8 a0_0, .int .u8 t411, .int .u8 t413]) (ok := fun _ => True) (okp := fun _ => True) ?hr ?hp (fun _ hk => hk) trivial (Below.refl _ _) (Nat.le_refl _) (by simp) ?_; (case hd => rfl); (case hg => rfl); (case hr => first | (go_simp; done) | (go_simp; rfl)); (case hp => exact (Reps.one (show Kd.M (Kd.int .u8) _ _ _ a0_0 [.int .u8 a0_0] from rfl) (Reps.one (show Kd.M (Kd.int .u8) _ _ _ t411 [.int .u8 t411] from rfl) (Reps.one (show Kd.M (Kd.int .u8) _ _ _ t413 [.int .u8 t413] from rfl) (Reps.none _ _)))))
   intro v416 w13 ho14 hb hg_ hnew_
   clear hg_ hnew_
   (first | rw [← Ny415.out] at ho14 | (simp only [Int.reduceToNat] at ho14; rw [← Ny415.out] at ho14))
   have n0_ := Aside0.mk (Kd.R_lower ho14 (qbx (by repeat (first | (with_reducible first | exact HB.out | apply qax | apply qaq | apply qaz | refine qaj ?_ GE410.out) | exact HB.out))))
   have n1_ := Aside0.mk (qcx (g := gb410) (o := .cells #[.int .u8 a0_0, .slice A0_1 l0_1.length c0_1] 56 (0, 0)) (by (with_reducible repeat (first | refine qav ?_ _ | refine qaw ?_ | refine qak ?_ _)); exact BK410.out) hb)
   have n2_ := Aside0.mk (qbj (by repeat (first | (with_reducible first | exact HB.out | apply qax | apply qaq | apply qaz | refine qaj ?_ GE410.out) | exact HB.out)) hb)
   clear BK410
   clear HB
   have HO417 := n0_
   have BK410 := n1_
   have HB := n2_
   clear n0_ n1_ n2_
   clear hb ho14
   obtain ⟨Ao15, co15, eo15⟩ := Kd.R_slice HO417.out
   (first | subst eo15 | (injection eo15 with f1_ f2_ f3_; have f4_ := f1_.symm; have f5_ := f3_.symm; clear f1_ f2_ f3_; subst f4_; subst f5_))
   refine hK.out _ _ ⟨(qbq BK410.out 0).trans rfl, (qbq BK410.out 1).trans rfl⟩ (fun hHeld => ?_)
   clear hK K
   refine qhz (a' := ?_) ?_ ?_
   rotate_left
   ·show Act.put _ (some 28) _ = _
    simp only [Act.put, List.setIfInBounds_toArray, List.set_cons_zero, List.set_cons_succ, qbv, qbw]
    rfl
   refine one_ (i := 5) (N := some 29) #[true, true, true, true, true, true, true, true, false, false, false, false] rfl rfl (qfk HT_.out (by kernel_rfl)) (by decide) (fun K hK => ?_)
   refine qhx Try.func39 (by kernel_rfl) rfl #[.slice Ao15 y415.length co15] (by rfl) rfl rfl (by (try simp only [List.map_toArray, List.map_cons, List.map_nil]); first | done | rfl | (simp only [List.length_drop, List.length_take]; rfl)) ?_
   with_reducible refine (sum_Put.calls _ _ y415 t418 _ ?side1 ?side2 A7.out).mono ?_
   (case side1 => repeat (first | exact (Kd.R_reads' HO417.out).2.2 | (with_reducible refine Kd.C_alloc ?_ _) | (with_reducible refine Kd.C_drewN ?_ _) | (with_reducible refine Kd.C_drew ?_)))
   (case side2 => exact (Kd.R_reads' HO417.out).2.1)
   rintro e w16 ⟨v419, rfl, ho0, hb⟩
   refine ⟨_, rfl, ?_⟩
   have n0_ := Aside0.mk (Kd.R_elder' (by (with_reducible repeat (first | apply Kd.R_alloc | apply Kd.R_drewN | apply Kd.R_drew)); exact HO417.out) (Kd.R_base ho0) hb)
   have n1_ := Aside0.mk (Kd.R_lower (Kd.R_new' ho0 (Kd.R_lt (by (with_reducible repeat (first | apply Kd.R_alloc | apply Kd.R_drewN | apply Kd.R_drew)); exact HO417.out))) (qbx (by repeat (first | (with_reducible first | exact HB.out | apply qax | apply qaq | apply qaz | refine qaj ?_ GE410.out) | exact HB.out))))
   have n2_ := Aside0.mk (qcx (g := gb410) (o := .cells #[.int .u8 a0_0, .slice A0_1 l0_1.length c0_1] 56 (0, 0)) (by (with_reducible repeat (first | refine qav ?_ _ | refine qaw ?_ | refine qak ?_ _)); exact BK410.out) hb)
   have n3_ := Aside0.mk (qbj (by repeat (first | (with_reducible first | exact HB.out | apply qax | apply qaq | apply qaz | refine qaj ?_ GE410.out) | exact HB.out)) hb)
   clear HO417
   clear BK410
   clear HB
   have HO417 := n0_
   have HO420 := n1_
   have BK410 := n2_
   have HB := n3_
   clear n0_ n1_ n2_ n3_
   (try clear hb)
   (try clear hb2)
   (try clear hk)
   (try clear hi)
   (try clear ho0)
   refine hK.out _ _ ⟨(qbq BK410.out 0).trans rfl, (qbq BK410.out 1).trans rfl⟩ (fun hHeld => ?_)
   clear hK K
   refine qhz (a' := ?_) ?_ ?_
   rotate_left
   ·show Act.put _ (some 29) _ = _
    simp only [Act.put, List.setIfInBounds_toArray, List.set_cons_zero, List.set_cons_succ, qbv, qbw]
    rfl
   refine one_ (i := 8) (N := some 32) #[true, true, true, true, true, true, true, true, true, false, false, false] rfl rfl (qfk HT_.out (by kernel_rfl)) (by decide) (fun K hK => ?_)
   refine qhx Try.func39 (by kernel_rfl) rfl #[.slice A0_1 l0_1.length c0_1] (by rfl) rfl rfl (by (try simp only [List.map_toArray, List.map_cons, List.map_nil]); first | done | rfl | (simp only [List.length_drop, List.length_take]; rfl)) ?_
   with_reducible refine (sum_Put.calls _ _ l0_1 t421 _ ?side1 ?side2 A8.out).mono ?_
   (case side1 => repeat (first | exact (Kd.C_below HR0_1.out HB.out) | (with_reducible refine Kd.C_alloc ?_ _) | (with_reducible refine Kd.C_drewN ?_ _) | (with_reducible refine Kd.C_drew ?_)))
   (case side2 => exact HC0_1.out)
   rintro e w17 ⟨v422, rfl, ho0, hb⟩
   refine ⟨_, rfl, ?_⟩
   have n0_ := Aside0.mk (Kd.R_elder' (by (with_reducible repeat (first | apply Kd.R_alloc | apply Kd.R_drewN | apply Kd.R_drew)); exact HO417.out) (Kd.R_base ho0) hb)
   have n1_ := Aside0.mk (Kd.R_elder' (by (with_reducible repeat (first | apply Kd.R_alloc | apply Kd.R_drewN | apply Kd.R_drew)); exact HO420.out) (Kd.R_base ho0) hb)
   have n2_ := Aside0.mk (Kd.R_lower (Kd.R_new' (Kd.R_new' ho0 (Kd.R_lt (by (with_reducible repeat (first | apply Kd.R_alloc | apply Kd.R_drewN | apply Kd.R_drew)); exact HO417.out))) (Kd.R_lt (by (with_reducible repeat (first | apply Kd.R_alloc | apply Kd.R_drewN | apply Kd.R_drew)); exact HO420.out))) (qbx (by repeat (first | (with_reducible first | exact HB.out | apply qax | apply qaq | apply qaz | refine qaj ?_ GE410.out) | exact HB.out))))
   have n3_ := Aside0.mk (qcx (g := gb410) (o := .cells #[.int .u8 a0_0, .slice A0_1 l0_1.length c0_1] 56 (0, 0)) (by (with_reducible repeat (first | refine qav ?_ _ | refine qaw ?_ | refine qak ?_ _)); exact BK410.out) hb)
   have n4_ := Aside0.mk (qbj (by repeat (first | (with_reducible first | exact HB.out | apply qax | apply qaq | apply qaz | refine qaj ?_ GE410.out) | exact HB.out)) hb)
   clear HO417
   clear HO420
   clear BK410
   clear HB
   have HO417 := n0_
   have HO420 := n1_
   have HO423 := n2_
   have BK410 := n3_
   have HB := n4_
   clear n0_ n1_ n2_ n3_ n4_
   (try clear hb)
   (try clear hb2)
   (try clear hk)
   (try clear hi)
   (try clear ho0)
   obtain ⟨Ao19, co19, eo19⟩ := Kd.R_slice HO423.out
   (first | subst eo19 | (injection eo19 with f1_ f2_ f3_; have f4_ := f1_.symm; have f5_ := f3_.symm; clear f1_ f2_ f3_; subst f4_; subst f5_))
   refine hK.out _ _ ⟨(qbq BK410.out 0).trans rfl, (qbq BK410.out 1).trans rfl⟩ (fun hHeld => ?_)
   clear hK K
   refine qhz (a' := ?_) ?_ ?_
   rotate_left
   ·show Act.put _ (some 32) _ = _
    simp only [Act.put, List.setIfInBounds_toArray, List.set_cons_zero, List.set_cons_succ, qbv, qbw]
    rfl
   refine one_ (i := 9) (N := some 33) #[true, true, true, true, true, true, true, true, true, true, false, false] rfl rfl (qfk HT_.out (by kernel_rfl)) (by decide) (fun K hK => ?_)
   refine Kd.R_append_rows_step (Kd.int .u8) (w0 := w) w.heap.size (by rfl) (.tmp 29) (.tmp 32) 23 5 (.int .u8 0) 1 rfl Try.underlying23 qgv rfl (by decide) (by omega) v419 t418 t421 _ _ _ (fun k_ => some k_ ≠ (.slice Ao15 y415.length co15 : Value).ownBlock ∧ some k_ ≠ (.slice Ao19 t421.length co19 : Value).ownBlock) (fun _ => False) rfl rfl ?aO ?aR (fun _ _ h => h) (fun _ h => h.elim) ?aF ?aB ?aS ?aL ?_
   (case aR => repeat (first | exact (Kd.R_reads' HO423.out).2.2 | (with_reducible refine Kd.C_alloc ?_ _) | (with_reducible refine Kd.C_drewN ?_ _) | (with_reducible refine Kd.C_drew ?_)))
   (case aB => exact (by repeat (first | (with_reducible first | exact HB.out | apply qax | apply qaq | apply qaz | refine qaj ?_ GE410.out) | exact HB.out)))
   (case aF => exact (fun k_ hk => ⟨Kd.fresh' (Kd.R_lt (by (with_reducible repeat (first | apply Kd.R_alloc | apply Kd.R_drewN | apply Kd.R_drew)); exact HO417.out)) k_ hk, Kd.fresh' (Kd.R_lt (by (with_reducible repeat (first | apply Kd.R_alloc | apply Kd.R_drewN | apply Kd.R_drew)); exact HO423.out)) k_ hk⟩))
   (case aO => exact (by (with_reducible repeat (first | apply Kd.R_alloc | apply Kd.R_drewN | apply Kd.R_drew)); exact Kd.R_mono HO420.out (fun _ hk => ⟨hk.1.2, hk.2⟩)))
   (case aS => exact (qbx (by repeat (first | (with_reducible first | exact HB.out | apply qax | apply qaq | apply qaz | refine qaj ?_ GE410.out) | exact HB.out))))
   (case aL => have := LMc9.out; omega)
   intro v425 w18 ho hb hg hat
   rw [← Ny424.out] at ho
   have n0_ := Aside0.mk (qgq (g := gb410) (o := .cells #[.int .u8 a0_0, .slice A0_1 l0_1.length c0_1] 56 (0, 0)) (by (with_reducible repeat (first | refine qav ?_ _ | refine qaw ?_ | refine qak ?_ _)); exact BK410.out) hg (Kd.R_ne HO420.out BK410.out (by decide)))
   have n1_ := Aside0.mk (Kd.R_after (ok := (fun k_ => some k_ ≠ (.slice Ao19 t421.length co19 : Value).ownBlock)) (by (with_reducible repeat (first | apply Kd.R_alloc | apply Kd.R_drewN | apply Kd.R_drew)); exact Kd.R_mono HO417.out (fun _ hk => ⟨hk.2, hk.1.2⟩)) hg hat)
   have n2_ := Aside0.mk (Kd.R_after (ok := (fun k_ => some k_ ≠ (.slice Ao15 y415.length co15 : Value).ownBlock)) (by (with_reducible repeat (first | apply Kd.R_alloc | apply Kd.R_drewN | apply Kd.R_drew)); exact Kd.R_mono HO423.out (fun _ hk => ⟨hk.1.2, hk.2⟩)) hg hat)
   have n3_ := Aside0.mk (hb)
   have n4_ := Aside0.mk (ho)
   clear BK410
   clear HO417
   clear HO423
   clear HB
   clear HO420
   have BK410 := n0_
   have HO417 := n1_
   have HO423 := n2_
   have HB := n3_
   have HO426 := n4_
   clear n0_ n1_ n2_ n3_ n4_
   clear ho hb hg hat
   refine hK.out _ _ ⟨(qbq BK410.out 0).trans rfl, (qbq BK410.out 1).trans rfl⟩ (fun hHeld => ?_)
   clear hK K
   refine qhz (a' := ?_) ?_ ?_
   rotate_left
   ·show Act.put _ (some 33) _ = _
    simp only [Act.put, List.setIfInBounds_toArray, List.set_cons_zero, List.set_cons_succ, qbv, qbw]
    rfl
   refine qcj (i := 10) (N := some 2) (v := ?_) (a' := ?_) #[true, true, true, true, true, true, true, true, true, true, true, false] rfl rfl (qbk HT_.out (by kernel_rfl)) (fun _ _ _ h => h) (Or.inl ⟨by rfl, ?_⟩) ?_ ?_
   rotate_left
   ·intro w'
    go_simp
    with_reducible rfl
   rotate_left
   ·simp only [Act.put, List.setIfInBounds_toArray, List.set_cons_zero, List.set_cons_succ, qbv, qbw]
    rfl
   refine qcj (i := 11) (N := some 3) (v := ?_) (a' := ?_) #[true, true, true, true, true, true, true, true, true, true, true, true] rfl rfl (qbk HT_.out (by kernel_rfl)) (fun _ _ _ h => h) (Or.inl ⟨by rfl, ?_⟩) ?_ ?_
   rotate_left
   ·intro w'
    go_simp
    with_reducible rfl
   rotate_left
   ·simp only [Act.put, List.setIfInBounds_toArray, List.set_cons_zero, List.set_cons_succ, qbv, qbw]
    rfl
   refine qlv (qiq HT_.out (by kernel_rfl)) ?_
   try go_wp2
   go_ret2
   exact ⟨_, by first | rfl | (simp [qcq, qcz] <;> rfl) | (simp [*, qcq, qcz] <;> rfl), by (with_reducible repeat (first | apply Kd.R_alloc | apply Kd.R_drewN | apply Kd.R_drew)); exact Kd.R_mono HO426.out (fun _ hk => trivial), by repeat (first | (with_reducible first | exact HB.out | apply qax | apply qaq | apply qaz | refine qaj ?_ GE410.out) | exact HB.out)⟩
  ·rw [if_neg c9] at H
   exact absurd H (by simp)
end Go.Proofs.Ytojepleodijdeaa.B
namespace Go.Proofs.Ytojepleodijdeaa.B
open Go.RowKit Go.Proofs.YtojepleodijdeaaW.PrintWords Go.Proofs.YtojepleodijdeaaW.PrintLast Go.Proofs.YtojepleodijdeaaW.PrintMore
set_option linter.unusedVariables false
set_option linter.unusedSimpArgs false
def numL : List Int := [0, 0, 5, 2, 1, 2, 2, 1, 1, 1, 1, 1, 5, 7, 10, 2, 1, 1]
def numE (j : Nat) : Int := numL.getD j 0
def numT : Array Value := (numL.map (Value.int .i64)).toArray
def numV (_ : Unit) : Value := .agg numT
def record_numbers.f : Option Unit := some ()
theorem info112 : (Try.prog.info? 112).map (·.size) = some 18 := by kernel_rfl
def zerT : Array Value := #[.int .i64 0, .int .i64 0, .int .i64 0, .int .i64 0, .int .i64 0, .int .i64 0, .int .i64 0, .int .i64 0, .int .i64 0, .int .i64 0, .int .i64 0, .int .i64 0, .int .i64 0, .int .i64 0, .int .i64 0, .int .i64 0, .int .i64 0, .int .i64 0]
theorem numT_eq : numT = #[.int .i64 0, .int .i64 0, .int .i64 5, .int .i64 2, .int .i64 1, .int .i64 2, .int .i64 2, .int .i64 1, .int .i64 1, .int .i64 1, .int .i64 1, .int .i64 1, .int .i64 5, .int .i64 7, .int .i64 10, .int .i64 2, .int .i64 1, .int .i64 1] := rfl
set_option maxRecDepth 100000 in
theorem record_numbers.calls (r : Unit) (w : World) (h : record_numbers.f = some r) : Calls Try.prog 78 #[] w fun e w' => e = .returned (numV r) ∧ Below w.heap.size w w' := by
 have HH := Aside0.mk (qnw w (.cells zerT 112 (0, 0)))
 have HI : Aside0 ((Try.prog.info? 112).map (·.size) = some numT.size) := ⟨info112⟩
 have HZ : Aside0 (zerT.size = numT.size) := ⟨rfl⟩
 have H1 : Aside0 (numT.all (·.oneCell') = true) := ⟨by rw [numT_eq]; simp [Value.oneCell']⟩
 have HB := Aside0.mk (qax (Below.refl w.heap.size w) (.cells zerT 112 (0, 0)))
 go_enter Try.func78, Try.ntmps78
 go_wp2_with (refine wpList_store_row rfl 112 _ _ rfl w.heap.size numT rfl rfl 112 zerT HH.out HI.out HZ.out H1.out ?_)
 exact bodyPost_ret (results_cell_row rfl _ _ w.heap.size 112 _ (0, 0) _ rfl (setRow_heap _ _ _ _ _ _ HH.out) Try.underlying112 rfl HI.out) rfl ⟨rfl, qmw HB.out (Nat.le_refl _) _⟩
theorem num_at (j : Nat) (hj : j < 18) : numT[j]? = some (.int .i64 (numE j)) := by
 unfold numT numE
 rw [List.getElem?_toArray, List.getElem?_map, List.getD_eq_getElem?_getD, List.getElem?_eq_getElem (show j < numL.length from hj)]
 rfl
set_option maxRecDepth 100000 in
theorem zcq (x : Unit) (i : Int) (h0 : 0 ≤ i) (h1 : i < (18 : Int)) : ∀ (k : IntKind) (W : World), (Instr.index 112 (numV x) (.int k i)).run Try.prog W = .ok (.int .i64 (numE i.toNat)) W := by
 intro k W
 obtain ⟨j, rfl⟩ := Int.eq_ofNat_of_zero_le h0
 have hj : j < 18 := by omega
 have ht := num_at j hj
 unfold numV
 generalize numT = T at ht
 simp [Instr.index, run_underlying Try.underlying112, asIntOf, hj, go_sem]
 simp [ht, go_sem]
end Go.Proofs.Ytojepleodijdeaa.B
namespace Go.Proofs.Ytojepleodijdeaa.B
open Go.RowKit Go.Proofs.YtojepleodijdeaaW.PrintWords Go.Proofs.YtojepleodijdeaaW.PrintLast Go.Proofs.YtojepleodijdeaaW.PrintMore
attribute [local go_sem] qgz qgx qhj qhk qfx qfj qgj qgk   -- for this text's walks alone
set_option linter.unusedVariables false
set_option linter.unusedSimpArgs false
def record_Right.f (a0_0 : Int) (l0_1 : List Int) (a0_2 : ByteArray) : Option (Bool) := (record_known.f a0_0).bind fun t691 => (if t691 = true then ((record_numbers.f).bind fun t692 => (if 0 ≤ a0_0 then (if a0_0 < 18 then (if (l0_1.length : Int) = (numE (a0_0 : Int).toNat) then ((record_fits.f a0_0 (a0_2.size : Int)).bind fun t693 => (some t693)) else (some false)) else (none)) else (none))) else (some false))
def record_Right.T1 : Bool × List (List Nat × List Nat) := (true, [([], []), ([0], [0]), ([1], [1]), ([2, 2], [2]), ([3], [3]), ([4, 3], [3, 4]), ([5, 3], [3, 5]), ([3, 3], [3]), ([3], [3]), ([8, 3], [3, 8]), ([7, 9, 3], [3, 7, 9]), ([6, 10, 3], [3, 6, 10]), ([3, 11], [3, 11]), ([12, 7], [12]), ([13], [13]), ([14, 13], [13, 14]), ([13], [13]), ([16, 13], [13, 16]), ([17, 13], [13, 17]), ([15, 18, 13, 13], [13, 15, 18]), ([13, 19], [13, 19]), ([20, 19, 0, 1, 2, 3, 4, 5, 6, 7, 8, 9, 10, 11, 12, 13, 14, 15, 16, 17, 18, 19, 20], [20])])
def record_Right.B1 : List Nat := [0, 1, 3, 7, 15, 31, 63, 15, 15, 271, 911, 2047, 4095, 8191, 16383, 32767, 16383, 81919, 212991, 524287, 1048575, 2097151]
theorem record_Right.tab1 : rtab .any (qdv Try.f60 1) = record_Right.T1 := by kernel_rfl
theorem record_Right.bits1 : qjv record_Right.T1.2 record_Right.B1 = true := by kernel_rfl
set_option maxHeartbeats 8000000 in
set_option maxRecDepth 100000 in
theorem record_Right.calls (a0_0 : Int) (A0_1 : Option Addr) (c0_1 : Nat) (l0_1 : List Int) (a0_2 : ByteArray) (r : Bool) (w : World) (hr0_1 : Kd.C (Kd.int .u64) w A0_1 l0_1.length l0_1) (hc0_1 : l0_1.length ≤ c0_1) (h : record_Right.f a0_0 l0_1 a0_2 = some r) :
  Calls Try.prog 60 #[.agg #[.int .i64 a0_0, .slice A0_1 l0_1.length c0_1, .string a0_2]] w fun e w' => e = .returned (.bool r) ∧ Below w.heap.size w w' := by
 have hu80 := Try.underlying80
 have HR0_1 := Aside0.mk hr0_1
 have HC0_1 := Aside0.mk hc0_1
 clear hr0_1 hc0_1
 have HB := Aside0.mk (Below.refl w.heap.size w)
 have H : ((record_known.f a0_0).bind fun t691 => (if t691 = true then ((record_numbers.f).bind fun t692 => (if 0 ≤ a0_0 then (if a0_0 < 18 then (if (l0_1.length : Int) = (numE (a0_0 : Int).toNat) then ((record_fits.f a0_0 (a0_2.size : Int)).bind fun t693 => (some t693)) else (some false)) else (none)) else (none))) else (some false))) = some r := h
 clear h
 replace H := Option.bind_eq_some_iff.mp H
 obtain ⟨t691, A20, H⟩ := H
 replace H : (if t691 = true then ((record_numbers.f).bind fun t692 => (if 0 ≤ a0_0 then (if a0_0 < 18 then (if (l0_1.length : Int) = (numE (a0_0 : Int).toNat) then ((record_fits.f a0_0 (a0_2.size : Int)).bind fun t693 => (some t693)) else (some false)) else (none)) else (none))) else (some false)) = some r := H
 have A2 := Aside0.mk A20
 clear A20
 by_cases c3 : t691 = true
 ·subst c3
  have H1 : ((record_numbers.f).bind fun t692 => (if 0 ≤ a0_0 then (if a0_0 < 18 then (if (l0_1.length : Int) = (numE (a0_0 : Int).toNat) then ((record_fits.f a0_0 (a0_2.size : Int)).bind fun t693 => (some t693)) else (some false)) else (none)) else (none))) = some r := by rw [if_pos rfl] at H; exact H
  clear H
  have H := H1
  clear H1
  replace H := Option.bind_eq_some_iff.mp H
  obtain ⟨t692, A40, H⟩ := H
  replace H : (if 0 ≤ a0_0 then (if a0_0 < 18 then (if (l0_1.length : Int) = (numE (a0_0 : Int).toNat) then ((record_fits.f a0_0 (a0_2.size : Int)).bind fun t693 => (some t693)) else (some false)) else (none)) else (none)) = some r := H
  have A4 := Aside0.mk A40
  clear A40
  by_cases c5 : 0 ≤ a0_0
  ·rw [if_pos c5] at H
   have c5b0 : decide (0 ≤ a0_0) = true := decide_eq_true c5
   clear c5
   by_cases c6 : a0_0 < 18
   ·rw [if_pos c6] at H
    have c6b0 : decide (a0_0 < 18) = true := decide_eq_true c6
    clear c6
    by_cases c8 : (l0_1.length : Int) = (numE (a0_0 : Int).toNat)
    ·rw [if_pos c8] at H
     have c8b0 : ((l0_1.length : Int) == (numE (a0_0 : Int).toNat)) = true := beq_iff_eq.mpr c8
     have c8b1 : ((l0_1.length : Int) != (numE (a0_0 : Int).toNat)) = false := bne_eq_false_iff_eq.mpr c8
     clear c8
     replace H := Option.bind_eq_some_iff.mp H
     obtain ⟨t693, A90, H⟩ := H
     replace H : (some t693) = some r := H
     have A9 := Aside0.mk A90
     clear A90
     obtain rfl := Option.some.inj H
     go_enter Try.func60, Try.ntmps60
     try go_wp2_with (first | ((with_reducible refine qcv (N := 1) rfl ?_); (try (refine qfz (by rfl) ?_; dsimp only)); refine qcw ?hg (N := 1) ?hd (cs := #[.int .i64 a0_0, .slice A0_1 l0_1.length c0_1, .string a0_2]) (t := 80) ?hr ?_; (case hd => rfl); (case hg => rfl); (case hr => first | (go_simp; done) | (go_simp; rfl)); intro gb690 hg w10 hbox hb; have n0_ := Aside0.mk (qbj (by repeat (first | (with_reducible first | exact HB.out | apply qax | apply qaq | apply qaz) | exact HB.out)) hb); have n1_ := Aside0.mk (hbox); have n2_ := Aside0.mk ((by rw [hg]; exact (qbx (by repeat (first | (with_reducible first | exact HB.out | apply qax | apply qaq | apply qaz) | exact HB.out))) : w.heap.size ≤ gb690)); have n3_ := Aside0.mk ((by rw [hg]; exact (qbx (by repeat (first | (with_reducible first | exact HB.out | apply qax | apply qaq | apply qaz) | exact HB.out))) : w.heap.size ≤ gb690)); clear HB; have HB := n0_; have BK690 := n1_; have GW690 := n2_; have GE690 := n3_; clear n0_ n1_ n2_ n3_; clear hb hbox hg))
     have n0_ := Aside0.mk (qaw BK690.out)
     have n1_ := Aside0.mk (qaz HB.out)
     clear BK690
     clear HB
     have BK690 := n0_
     have HB := n1_
     clear n0_ n1_
     refine qjz (n := 22) (S := fun w' => w'.cell? ⟨gb690, 0, none⟩ = some (.int .i64 a0_0) ∧ w'.cell? ⟨gb690, 1, none⟩ = some (.slice A0_1 l0_1.length c0_1) ∧ w'.cell? ⟨gb690, 2, none⟩ = some (.string a0_2)) (ds := []) #[false, false, false, false, false, false, false, false, false, false, false, false, false, false, false, false, false, false, false, false, false, false] (by kernel_rfl) rfl rfl ⟨(qbq BK690.out 0).trans rfl, (qbq BK690.out 1).trans rfl, (qbq BK690.out 2).trans rfl⟩ (fun hHeld => ?_); refine qfw record_Right.tab1 record_Right.bits1 (fun HT_ HW_ => ?_)
     generalize w10.drew = w11 at BK690 HB hHeld ⊢
     refine qcj (i := 0) (N := some 3) (v := ?_) (a' := ?_) #[true, false, false, false, false, false, false, false, false, false, false, false, false, false, false, false, false, false, false, false, false, false] rfl rfl (qbk HT_.out (by kernel_rfl)) (fun _ _ _ h => h) (Or.inl ⟨by rfl, ?_⟩) ?_ ?_
     rotate_left
     ·intro w'
      go_simp
      with_reducible rfl
     rotate_left
     ·simp only [Act.put, List.setIfInBounds_toArray, List.set_cons_zero, List.set_cons_succ, qbv, qbw]
      rfl
     refine take_ (i := 1) (N := some 4) (v := ?_) (a' := ?_) #[true, true, false, false, false, false, false, false, false, false, false, false, false, false, false, false, false, false, false, false, false, false] rfl rfl (qdk HT_.out HW_.out (by kernel_rfl)) (fun _ _ _ h => h) (Or.inl ⟨by rfl, ?_⟩) hHeld ?_ ?_
     rotate_left
     ·rintro w' ⟨s0, s1, s2⟩
      go_simp
      with_reducible rfl
     rotate_left
     ·simp only [Act.put, List.setIfInBounds_toArray, List.set_cons_zero, List.set_cons_succ, qbv, qbw]
      rfl
     refine one_ (i := 2) (N := some 5) #[true, true, true, false, false, false, false, false, false, false, false, false, false, false, false, false, false, false, false, false, false, false] rfl rfl (qfk HT_.out (by kernel_rfl)) (by decide) (fun K hK => ?_)
     refine qhx Try.func77 (by kernel_rfl) rfl #[.int .i64 a0_0] (by rfl) rfl rfl (by (try simp only [List.map_toArray, List.map_cons, List.map_nil]); first | done | rfl | (simp only [List.length_drop, List.length_take]; rfl)) ?_
     with_reducible refine (record_known.calls a0_0 true _ A2.out).mono ?_
     rintro e w' ⟨rfl, ⟨nd, rfl⟩⟩
     refine ⟨_, rfl, ?_⟩
     refine hK.out _ _ ⟨(qbq BK690.out 0).trans rfl, (qbq BK690.out 1).trans rfl, (qbq BK690.out 2).trans rfl⟩ (fun hHeld => ?_)
     clear hK K
     refine qhz (a' := ?_) ?_ ?_
     rotate_left
     ·show Act.put _ (some 5) _ = _
      simp only [Act.put, List.setIfInBounds_toArray, List.set_cons_zero, List.set_cons_succ, qbv, qbw]
      rfl
     refine qcj (i := 3) (N := some 6) (v := ?_) (a' := ?_) #[true, true, true, true, false, false, false, false, false, false, false, false, false, false, false, false, false, false, false, false, false, false] rfl rfl (qbk HT_.out (by kernel_rfl)) (fun _ _ _ h => h) (Or.inl ⟨by rfl, ?_⟩) ?_ ?_
     rotate_left
     ·intro w'
      go_simp
      with_reducible rfl
     rotate_left
     ·simp only [Act.put, List.setIfInBounds_toArray, List.set_cons_zero, List.set_cons_succ, qbv, qbw]
      rfl
     refine qcj (i := 4) (N := some 7) (v := ?_) (a' := ?_) #[true, true, true, true, true, false, false, false, false, false, false, false, false, false, false, false, false, false, false, false, false, false] rfl rfl (qbk HT_.out (by kernel_rfl)) (fun _ _ _ h => h) (Or.inl ⟨by rfl, ?_⟩) ?_ ?_
     rotate_left
     ·intro w'
      go_simp
      with_reducible rfl
     rotate_left
     ·simp only [Act.put, List.setIfInBounds_toArray, List.set_cons_zero, List.set_cons_succ, qbv, qbw]
      rfl
     refine qcj (i := 8) (N := some 11) (v := ?_) (a' := ?_) #[true, true, true, true, true, false, false, false, true, false, false, false, false, false, false, false, false, false, false, false, false, false] rfl rfl (qbk HT_.out (by kernel_rfl)) (fun _ _ _ h => h) (Or.inl ⟨by rfl, ?_⟩) ?_ ?_
     rotate_left
     ·intro w'
      go_simp
      with_reducible rfl
     rotate_left
     ·simp only [Act.put, List.setIfInBounds_toArray, List.set_cons_zero, List.set_cons_succ, qbv, qbw]
      rfl
     refine take_ (i := 5) (N := some 8) (v := ?_) (a' := ?_) #[true, true, true, true, true, true, false, false, true, false, false, false, false, false, false, false, false, false, false, false, false, false] rfl rfl (qdk HT_.out HW_.out (by kernel_rfl)) (fun _ _ _ h => h) (Or.inl ⟨by rfl, ?_⟩) hHeld ?_ ?_
     rotate_left
     ·rintro w' ⟨s0, s1, s2⟩
      go_simp
      with_reducible rfl
     rotate_left
     ·simp only [Act.put, List.setIfInBounds_toArray, List.set_cons_zero, List.set_cons_succ, qbv, qbw]
      rfl
     refine qcj (i := 6) (N := some 9) (v := ?_) (a' := ?_) #[true, true, true, true, true, true, true, false, true, false, false, false, false, false, false, false, false, false, false, false, false, false] rfl rfl (qbk HT_.out (by kernel_rfl)) (fun _ _ _ h => h) (Or.inl ⟨by rfl, ?_⟩) ?_ ?_
     rotate_left
     ·intro w'
      go_simp
      with_reducible rfl
     rotate_left
     ·simp only [Act.put, List.setIfInBounds_toArray, List.set_cons_zero, List.set_cons_succ, qbv, qbw]
      rfl
     refine take_ (i := 9) (N := some 12) (v := ?_) (a' := ?_) #[true, true, true, true, true, true, true, false, true, true, false, false, false, false, false, false, false, false, false, false, false, false] rfl rfl (qdk HT_.out HW_.out (by kernel_rfl)) (fun _ _ _ h => h) (Or.inl ⟨by rfl, ?_⟩) hHeld ?_ ?_
     rotate_left
     ·rintro w' ⟨s0, s1, s2⟩
      go_simp
      with_reducible rfl
     rotate_left
     ·simp only [Act.put, List.setIfInBounds_toArray, List.set_cons_zero, List.set_cons_succ, qbv, qbw]
      rfl
     refine one_ (i := 7) (N := some 10) #[true, true, true, true, true, true, true, true, true, true, false, false, false, false, false, false, false, false, false, false, false, false] rfl rfl (qfk HT_.out (by kernel_rfl)) (by decide) (fun K hK => ?_)
     refine qhx Try.func78 (by kernel_rfl) rfl #[] (by rfl) rfl rfl (by (try simp only [List.map_toArray, List.map_cons, List.map_nil]); first | done | rfl | (simp only [List.length_drop, List.length_take]; rfl)) ?_
     with_reducible refine (record_numbers.calls  t692 _ A4.out).mono ?_
     rintro e w12 ⟨rfl, hb⟩
     refine ⟨_, rfl, ?_⟩
     have n0_ := Aside0.mk (qcx (g := gb690) (o := .cells #[.int .i64 a0_0, .slice A0_1 l0_1.length c0_1, .string a0_2] 80 (0, 0)) (by (with_reducible repeat (first | refine qav ?_ _ | refine qaw ?_ | refine qak ?_ _)); exact BK690.out) hb)
     have n1_ := Aside0.mk (qbj (by repeat (first | (with_reducible first | exact HB.out | apply qax | apply qaq | apply qaz | refine qaj ?_ GE690.out) | exact HB.out)) hb)
     clear BK690
     clear HB
     have BK690 := n0_
     have HB := n1_
     clear n0_ n1_
     (try clear hb)
     (try clear hb2)
     (try clear hk)
     (try clear hi)
     have p7 : 0 ≤ (a0_0 : Int) := of_decide_eq_true (by first | (with_reducible assumption) | assumption)
     have q7 : a0_0 < (18 : Int) := of_decide_eq_true (by first | (with_reducible assumption) | assumption)
     have hx7 := zcq t692 a0_0 p7 q7
     replace p7 := eq_true p7
     replace q7 := eq_true q7
     refine hK.out _ _ ⟨(qbq BK690.out 0).trans rfl, (qbq BK690.out 1).trans rfl, (qbq BK690.out 2).trans rfl⟩ (fun hHeld => ?_)
     clear hK K
     refine qhz (a' := ?_) ?_ ?_
     rotate_left
     ·show Act.put _ (some 10) _ = _
      simp only [Act.put, List.setIfInBounds_toArray, List.set_cons_zero, List.set_cons_succ, qbv, qbw]
      rfl
     refine take_ (i := 10) (N := some 13) (v := ?_) (a' := ?_) #[true, true, true, true, true, true, true, true, true, true, true, false, false, false, false, false, false, false, false, false, false, false] rfl rfl (qdk HT_.out HW_.out (by kernel_rfl)) (fun _ _ _ h => h) (Or.inl ⟨by rfl, ?_⟩) hHeld ?_ ?_
     rotate_left
     ·rintro w' ⟨s0, s1, s2⟩
      go_simp
      with_reducible rfl
     rotate_left
     ·simp only [Act.put, List.setIfInBounds_toArray, List.set_cons_zero, List.set_cons_succ, qbv, qbw]
      rfl
     refine qcj (i := 11) (N := some 14) (v := ?_) (a' := ?_) #[true, true, true, true, true, true, true, true, true, true, true, true, false, false, false, false, false, false, false, false, false, false] rfl rfl (qbk HT_.out (by kernel_rfl)) (fun _ _ _ h => h) (Or.inl ⟨by rfl, ?_⟩) ?_ ?_
     rotate_left
     ·intro w'
      go_simp
      with_reducible rfl
     rotate_left
     ·simp only [Act.put, List.setIfInBounds_toArray, List.set_cons_zero, List.set_cons_succ, qbv, qbw]
      rfl
     refine qcj (i := 12) (N := some 15) (v := ?_) (a' := ?_) #[true, true, true, true, true, true, true, true, true, true, true, true, true, false, false, false, false, false, false, false, false, false] rfl rfl (qbk HT_.out (by kernel_rfl)) (fun _ _ _ h => h) (Or.inl ⟨by rfl, ?_⟩) ?_ ?_
     rotate_left
     ·intro w'
      go_simp
      with_reducible rfl
     rotate_left
     ·simp only [Act.put, List.setIfInBounds_toArray, List.set_cons_zero, List.set_cons_succ, qbv, qbw]
      rfl
     refine qcj (i := 13) (N := some 16) (v := ?_) (a' := ?_) #[true, true, true, true, true, true, true, true, true, true, true, true, true, true, false, false, false, false, false, false, false, false] rfl rfl (qbk HT_.out (by kernel_rfl)) (fun _ _ _ h => h) (Or.inl ⟨by rfl, ?_⟩) ?_ ?_
     rotate_left
     ·intro w'
      go_simp
      with_reducible rfl
     rotate_left
     ·simp only [Act.put, List.setIfInBounds_toArray, List.set_cons_zero, List.set_cons_succ, qbv, qbw]
      rfl
     refine qcj (i := 14) (N := some 17) (v := ?_) (a' := ?_) #[true, true, true, true, true, true, true, true, true, true, true, true, true, true, true, false, false, false, false, false, false, false] rfl rfl (qbk HT_.out (by kernel_rfl)) (fun _ _ _ h => h) (Or.inl ⟨by rfl, ?_⟩) ?_ ?_
     rotate_left
     ·intro w'
      go_simp
      with_reducible rfl
     rotate_left
     ·simp only [Act.put, List.setIfInBounds_toArray, List.set_cons_zero, List.set_cons_succ, qbv, qbw]
      rfl
     refine qcj (i := 16) (N := some 19) (v := ?_) (a' := ?_) #[true, true, true, true, true, true, true, true, true, true, true, true, true, true, true, false, true, false, false, false, false, false] rfl rfl (qbk HT_.out (by kernel_rfl)) (fun _ _ _ h => h) (Or.inl ⟨by rfl, ?_⟩) ?_ ?_
     rotate_left
     ·intro w'
      go_simp
      with_reducible rfl
     rotate_left
     ·simp only [Act.put, List.setIfInBounds_toArray, List.set_cons_zero, List.set_cons_succ, qbv, qbw]
      rfl
     refine take_ (i := 15) (N := some 18) (v := ?_) (a' := ?_) #[true, true, true, true, true, true, true, true, true, true, true, true, true, true, true, true, true, false, false, false, false, false] rfl rfl (qdk HT_.out HW_.out (by kernel_rfl)) (fun _ _ _ h => h) (Or.inl ⟨by rfl, ?_⟩) hHeld ?_ ?_
     rotate_left
     ·rintro w' ⟨s0, s1, s2⟩
      go_simp
      with_reducible rfl
     rotate_left
     ·simp only [Act.put, List.setIfInBounds_toArray, List.set_cons_zero, List.set_cons_succ, qbv, qbw]
      rfl
     refine take_ (i := 17) (N := some 20) (v := ?_) (a' := ?_) #[true, true, true, true, true, true, true, true, true, true, true, true, true, true, true, true, true, true, false, false, false, false] rfl rfl (qdk HT_.out HW_.out (by kernel_rfl)) (fun _ _ _ h => h) (Or.inl ⟨by rfl, ?_⟩) hHeld ?_ ?_
     rotate_left
     ·rintro w' ⟨s0, s1, s2⟩
      go_simp
      with_reducible rfl
     rotate_left
     ·simp only [Act.put, List.setIfInBounds_toArray, List.set_cons_zero, List.set_cons_succ, qbv, qbw]
      rfl
     refine qcj (i := 18) (N := some 21) (v := ?_) (a' := ?_) #[true, true, true, true, true, true, true, true, true, true, true, true, true, true, true, true, true, true, true, false, false, false] rfl rfl (qbk HT_.out (by kernel_rfl)) (fun _ _ _ h => h) (Or.inl ⟨by rfl, ?_⟩) ?_ ?_
     rotate_left
     ·intro w'
      go_simp
      with_reducible rfl
     rotate_left
     ·simp only [Act.put, List.setIfInBounds_toArray, List.set_cons_zero, List.set_cons_succ, qbv, qbw]
      rfl
     refine one_ (i := 19) (N := some 22) #[true, true, true, true, true, true, true, true, true, true, true, true, true, true, true, true, true, true, true, true, false, false] rfl rfl (qfk HT_.out (by kernel_rfl)) (by decide) (fun K hK => ?_)
     refine qhx Try.func79 (by kernel_rfl) rfl #[.int .i64 a0_0, .int .i64 (a0_2.size : Int)] (by rfl) rfl rfl (by (try simp only [List.map_toArray, List.map_cons, List.map_nil]); first | done | rfl | (simp only [List.length_drop, List.length_take]; rfl)) ?_
     with_reducible refine (record_fits.calls a0_0 (a0_2.size : Int) t693 _ A9.out).mono ?_
     rintro e w' ⟨rfl, ⟨nd, rfl⟩⟩
     refine ⟨_, rfl, ?_⟩
     refine hK.out _ _ ⟨(qbq BK690.out 0).trans rfl, (qbq BK690.out 1).trans rfl, (qbq BK690.out 2).trans rfl⟩ (fun hHeld => ?_)
     clear hK K
     refine qhz (a' := ?_) ?_ ?_
     rotate_left
     ·show Act.put _ (some 22) _ = _
      simp only [Act.put, List.setIfInBounds_toArray, List.set_cons_zero, List.set_cons_succ, qbv, qbw]
      rfl
     refine qcj (i := 20) (N := some 23) (v := ?_) (a' := ?_) #[true, true, true, true, true, true, true, true, true, true, true, true, true, true, true, true, true, true, true, true, true, false] rfl rfl (qbk HT_.out (by kernel_rfl)) (fun _ _ _ h => h) (Or.inl ⟨by rfl, ?_⟩) ?_ ?_
     rotate_left
     ·intro w'
      go_simp
      with_reducible rfl
     rotate_left
     ·simp only [Act.put, List.setIfInBounds_toArray, List.set_cons_zero, List.set_cons_succ, qbv, qbw]
      rfl
     refine qcj (i := 21) (N := some 2) (v := ?_) (a' := ?_) #[true, true, true, true, true, true, true, true, true, true, true, true, true, true, true, true, true, true, true, true, true, true] rfl rfl (qbk HT_.out (by kernel_rfl)) (fun _ _ _ h => h) (Or.inl ⟨by rfl, ?_⟩) ?_ ?_
     rotate_left
     ·intro w'
      go_simp
      with_reducible rfl
     rotate_left
     ·simp only [Act.put, List.setIfInBounds_toArray, List.set_cons_zero, List.set_cons_succ, qbv, qbw]
      rfl
     refine qlv (qiq HT_.out (by kernel_rfl)) ?_
     try go_wp2
     go_ret
     exact ⟨by first | rfl | (simp [qcq, qcz] <;> rfl) | (simp [*, qcq, qcz] <;> rfl), by repeat (first | (with_reducible first | exact HB.out | apply qax | apply qaq | apply qaz | refine qaj ?_ GE690.out) | exact HB.out)⟩
    ·rw [if_neg c8] at H
     have c8b0 : ((l0_1.length : Int) == (numE (a0_0 : Int).toNat)) = false := beq_eq_false_iff_ne.mpr c8
     have c8b1 : ((l0_1.length : Int) != (numE (a0_0 : Int).toNat)) = true := bne_iff_ne.mpr c8
     obtain rfl := Option.some.inj H
     go_enter Try.func60, Try.ntmps60
     try go_wp2_with (first | ((with_reducible refine qcv (N := 1) rfl ?_); (try (refine qfz (by rfl) ?_; dsimp only)); refine qcw ?hg (N := 1) ?hd (cs := #[.int .i64 a0_0, .slice A0_1 l0_1.length c0_1, .string a0_2]) (t := 80) ?hr ?_; (case hd => rfl); (case hg => rfl); (case hr => first | (go_simp; done) | (go_simp; rfl)); intro gb690 hg w13 hbox hb; have n0_ := Aside0.mk (qbj (by repeat (first | (with_reducible first | exact HB.out | apply qax | apply qaq | apply qaz) | exact HB.out)) hb); have n1_ := Aside0.mk (hbox); have n2_ := Aside0.mk ((by rw [hg]; exact (qbx (by repeat (first | (with_reducible first | exact HB.out | apply qax | apply qaq | apply qaz) | exact HB.out))) : w.heap.size ≤ gb690)); have n3_ := Aside0.mk ((by rw [hg]; exact (qbx (by repeat (first | (with_reducible first | exact HB.out | apply qax | apply qaq | apply qaz) | exact HB.out))) : w.heap.size ≤ gb690)); clear HB; have HB := n0_; have BK690 := n1_; have GW690 := n2_; have GE690 := n3_; clear n0_ n1_ n2_ n3_; clear hb hbox hg))
     have n0_ := Aside0.mk (qaw BK690.out)
     have n1_ := Aside0.mk (qaz HB.out)
     clear BK690
     clear HB
     have BK690 := n0_
     have HB := n1_
     clear n0_ n1_
     refine qjz (n := 22) (S := fun w' => w'.cell? ⟨gb690, 0, none⟩ = some (.int .i64 a0_0) ∧ w'.cell? ⟨gb690, 1, none⟩ = some (.slice A0_1 l0_1.length c0_1) ∧ w'.cell? ⟨gb690, 2, none⟩ = some (.string a0_2)) (ds := []) #[false, false, false, false, false, false, false, false, false, false, false, false, false, false, false, false, false, false, false, false, false, false] (by kernel_rfl) rfl rfl ⟨(qbq BK690.out 0).trans rfl, (qbq BK690.out 1).trans rfl, (qbq BK690.out 2).trans rfl⟩ (fun hHeld => ?_); refine qfw record_Right.tab1 record_Right.bits1 (fun HT_ HW_ => ?_)
     generalize w13.drew = w14 at BK690 HB hHeld ⊢
     refine qcj (i := 0) (N := some 3) (v := ?_) (a' := ?_) #[true, false, false, false, false, false, false, false, false, false, false, false, false, false, false, false, false, false, false, false, false, false] rfl rfl (qbk HT_.out (by kernel_rfl)) (fun _ _ _ h => h) (Or.inl ⟨by rfl, ?_⟩) ?_ ?_
     rotate_left
     ·intro w'
      go_simp
      with_reducible rfl
     rotate_left
     ·simp only [Act.put, List.setIfInBounds_toArray, List.set_cons_zero, List.set_cons_succ, qbv, qbw]
      rfl
     refine take_ (i := 1) (N := some 4) (v := ?_) (a' := ?_) #[true, true, false, false, false, false, false, false, false, false, false, false, false, false, false, false, false, false, false, false, false, false] rfl rfl (qdk HT_.out HW_.out (by kernel_rfl)) (fun _ _ _ h => h) (Or.inl ⟨by rfl, ?_⟩) hHeld ?_ ?_
     rotate_left
     ·rintro w' ⟨s0, s1, s2⟩
      go_simp
      with_reducible rfl
     rotate_left
     ·simp only [Act.put, List.setIfInBounds_toArray, List.set_cons_zero, List.set_cons_succ, qbv, qbw]
      rfl
     refine one_ (i := 2) (N := some 5) #[true, true, true, false, false, false, false, false, false, false, false, false, false, false, false, false, false, false, false, false, false, false] rfl rfl (qfk HT_.out (by kernel_rfl)) (by decide) (fun K hK => ?_)
     refine qhx Try.func77 (by kernel_rfl) rfl #[.int .i64 a0_0] (by rfl) rfl rfl (by (try simp only [List.map_toArray, List.map_cons, List.map_nil]); first | done | rfl | (simp only [List.length_drop, List.length_take]; rfl)) ?_
     with_reducible refine (record_known.calls a0_0 true _ A2.out).mono ?_
     rintro e w' ⟨rfl, ⟨nd, rfl⟩⟩
     refine ⟨_, rfl, ?_⟩
     refine hK.out _ _ ⟨(qbq BK690.out 0).trans rfl, (qbq BK690.out 1).trans rfl, (qbq BK690.out 2).trans rfl⟩ (fun hHeld => ?_)
     clear hK K
     refine qhz (a' := ?_) ?_ ?_
     rotate_left
     ·show Act.put _ (some 5) _ = _
      simp only [Act.put, List.setIfInBounds_toArray, List.set_cons_zero, List.set_cons_succ, qbv, qbw]
      rfl
     refine qcj (i := 3) (N := some 6) (v := ?_) (a' := ?_) #[true, true, true, true, false, false, false, false, false, false, false, false, false, false, false, false, false, false, false, false, false, false] rfl rfl (qbk HT_.out (by kernel_rfl)) (fun _ _ _ h => h) (Or.inl ⟨by rfl, ?_⟩) ?_ ?_
     rotate_left
     ·intro w'
      go_simp
      with_reducible rfl
     rotate_left
     ·simp only [Act.put, List.setIfInBounds_toArray, List.set_cons_zero, List.set_cons_succ, qbv, qbw]
      rfl
     refine qcj (i := 4) (N := some 7) (v := ?_) (a' := ?_) #[true, true, true, true, true, false, false, false, false, false, false, false, false, false, false, false, false, false, false, false, false, false] rfl rfl (qbk HT_.out (by kernel_rfl)) (fun _ _ _ h => h) (Or.inl ⟨by rfl, ?_⟩) ?_ ?_
     rotate_left
     ·intro w'
      go_simp
      with_reducible rfl
     rotate_left
     ·simp only [Act.put, List.setIfInBounds_toArray, List.set_cons_zero, List.set_cons_succ, qbv, qbw]
      rfl
     refine qcj (i := 8) (N := some 11) (v := ?_) (a' := ?_) #[true, true, true, true, true, false, false, false, true, false, false, false, false, false, false, false, false, false, false, false, false, false] rfl rfl (qbk HT_.out (by kernel_rfl)) (fun _ _ _ h => h) (Or.inl ⟨by rfl, ?_⟩) ?_ ?_
     rotate_left
     ·intro w'
      go_simp
      with_reducible rfl
     rotate_left
     ·simp only [Act.put, List.setIfInBounds_toArray, List.set_cons_zero, List.set_cons_succ, qbv, qbw]
      rfl
     refine take_ (i := 5) (N := some 8) (v := ?_) (a' := ?_) #[true, true, true, true, true, true, false, false, true, false, false, false, false, false, false, false, false, false, false, false, false, false] rfl rfl (qdk HT_.out HW_.out (by kernel_rfl)) (fun _ _ _ h => h) (Or.inl ⟨by rfl, ?_⟩) hHeld ?_ ?_
     rotate_left
     ·rintro w' ⟨s0, s1, s2⟩
      go_simp
      with_reducible rfl
     rotate_left
     ·simp only [Act.put, List.setIfInBounds_toArray, List.set_cons_zero, List.set_cons_succ, qbv, qbw]
      rfl
     refine qcj (i := 6) (N := some 9) (v := ?_) (a' := ?_) #[true, true, true, true, true, true, true, false, true, false, false, false, false, false, false, false, false, false, false, false, false, false] rfl rfl (qbk HT_.out (by kernel_rfl)) (fun _ _ _ h => h) (Or.inl ⟨by rfl, ?_⟩) ?_ ?_
     rotate_left
     ·intro w'
      go_simp
      with_reducible rfl
     rotate_left
     ·simp only [Act.put, List.setIfInBounds_toArray, List.set_cons_zero, List.set_cons_succ, qbv, qbw]
      rfl
     refine take_ (i := 9) (N := some 12) (v := ?_) (a' := ?_) #[true, true, true, true, true, true, true, false, true, true, false, false, false, false, false, false, false, false, false, false, false, false] rfl rfl (qdk HT_.out HW_.out (by kernel_rfl)) (fun _ _ _ h => h) (Or.inl ⟨by rfl, ?_⟩) hHeld ?_ ?_
     rotate_left
     ·rintro w' ⟨s0, s1, s2⟩
      go_simp
      with_reducible rfl
     rotate_left
     ·simp only [Act.put, List.setIfInBounds_toArray, List.set_cons_zero, List.set_cons_succ, qbv, qbw]
      rfl
     refine one_ (i := 7) (N := some 10) #[true, true, true, true, true, true, true, true, true, true, false, false, false, false, false, false, false, false, false, false, false, false] rfl rfl (qfk HT_.out (by kernel_rfl)) (by decide) (fun K hK => ?_)
     refine qhx Try.func78 (by kernel_rfl) rfl #[] (by rfl) rfl rfl (by (try simp only [List.map_toArray, List.map_cons, List.map_nil]); first | done | rfl | (simp only [List.length_drop, List.length_take]; rfl)) ?_
     with_reducible refine (record_numbers.calls  t692 _ A4.out).mono ?_
     rintro e w15 ⟨rfl, hb⟩
     refine ⟨_, rfl, ?_⟩
     have n0_ := Aside0.mk (qcx (g := gb690) (o := .cells #[.int .i64 a0_0, .slice A0_1 l0_1.length c0_1, .string a0_2] 80 (0, 0)) (by (with_reducible repeat (first | refine qav ?_ _ | refine qaw ?_ | refine qak ?_ _)); exact BK690.out) hb)
     have n1_ := Aside0.mk (qbj (by repeat (first | (with_reducible first | exact HB.out | apply qax | apply qaq | apply qaz | refine qaj ?_ GE690.out) | exact HB.out)) hb)
     clear BK690
     clear HB
     have BK690 := n0_
     have HB := n1_
     clear n0_ n1_
     (try clear hb)
     (try clear hb2)
     (try clear hk)
     (try clear hi)
     have p7 : 0 ≤ (a0_0 : Int) := of_decide_eq_true (by first | (with_reducible assumption) | assumption)
     have q7 : a0_0 < (18 : Int) := of_decide_eq_true (by first | (with_reducible assumption) | assumption)
     have hx7 := zcq t692 a0_0 p7 q7
     replace p7 := eq_true p7
     replace q7 := eq_true q7
     refine hK.out _ _ ⟨(qbq BK690.out 0).trans rfl, (qbq BK690.out 1).trans rfl, (qbq BK690.out 2).trans rfl⟩ (fun hHeld => ?_)
     clear hK K
     refine qhz (a' := ?_) ?_ ?_
     rotate_left
     ·show Act.put _ (some 10) _ = _
      simp only [Act.put, List.setIfInBounds_toArray, List.set_cons_zero, List.set_cons_succ, qbv, qbw]
      rfl
     refine take_ (i := 10) (N := some 13) (v := ?_) (a' := ?_) #[true, true, true, true, true, true, true, true, true, true, true, false, false, false, false, false, false, false, false, false, false, false] rfl rfl (qdk HT_.out HW_.out (by kernel_rfl)) (fun _ _ _ h => h) (Or.inl ⟨by rfl, ?_⟩) hHeld ?_ ?_
     rotate_left
     ·rintro w' ⟨s0, s1, s2⟩
      go_simp
      with_reducible rfl
     rotate_left
     ·simp only [Act.put, List.setIfInBounds_toArray, List.set_cons_zero, List.set_cons_succ, qbv, qbw]
      rfl
     refine qcj (i := 11) (N := some 14) (v := ?_) (a' := ?_) #[true, true, true, true, true, true, true, true, true, true, true, true, false, false, false, false, false, false, false, false, false, false] rfl rfl (qbk HT_.out (by kernel_rfl)) (fun _ _ _ h => h) (Or.inl ⟨by rfl, ?_⟩) ?_ ?_
     rotate_left
     ·intro w'
      go_simp
      with_reducible rfl
     rotate_left
     ·simp only [Act.put, List.setIfInBounds_toArray, List.set_cons_zero, List.set_cons_succ, qbv, qbw]
      rfl
     refine qcj (i := 12) (N := some 15) (v := ?_) (a' := ?_) #[true, true, true, true, true, true, true, true, true, true, true, true, true, false, false, false, false, false, false, false, false, false] rfl rfl (qbk HT_.out (by kernel_rfl)) (fun _ _ _ h => h) (Or.inl ⟨by rfl, ?_⟩) ?_ ?_
     rotate_left
     ·intro w'
      go_simp
      with_reducible rfl
     rotate_left
     ·simp only [Act.put, List.setIfInBounds_toArray, List.set_cons_zero, List.set_cons_succ, qbv, qbw]
      rfl
     refine qcj (i := 13) (N := some 16) (v := ?_) (a' := ?_) #[true, true, true, true, true, true, true, true, true, true, true, true, true, true, false, false, false, false, false, false, false, false] rfl rfl (qbk HT_.out (by kernel_rfl)) (fun _ _ _ h => h) (Or.inl ⟨by rfl, ?_⟩) ?_ ?_
     rotate_left
     ·intro w'
      go_simp
      with_reducible rfl
     rotate_left
     ·simp only [Act.put, List.setIfInBounds_toArray, List.set_cons_zero, List.set_cons_succ, qbv, qbw]
      rfl
     refine qcj (i := 14) (N := some 17) (v := undef) (a' := ?_) #[true, true, true, true, true, true, true, true, true, true, true, true, true, true, true, false, false, false, false, false, false, false] rfl rfl (qbk HT_.out (by kernel_rfl)) (fun _ _ _ h => h) (Or.inr ⟨by rfl, rfl⟩) ?_ ?_
     rotate_left
     ·simp only [Act.put, List.setIfInBounds_toArray, List.set_cons_zero, List.set_cons_succ, qbv, qbw]
      rfl
     refine qcj (i := 15) (N := some 18) (v := undef) (a' := ?_) #[true, true, true, true, true, true, true, true, true, true, true, true, true, true, true, true, false, false, false, false, false, false] rfl rfl (qbk HT_.out (by kernel_rfl)) (fun _ _ _ h => h) (Or.inr ⟨by rfl, rfl⟩) ?_ ?_
     rotate_left
     ·simp only [Act.put, List.setIfInBounds_toArray, List.set_cons_zero, List.set_cons_succ, qbv, qbw]
      rfl
     refine qcj (i := 16) (N := some 19) (v := undef) (a' := ?_) #[true, true, true, true, true, true, true, true, true, true, true, true, true, true, true, true, true, false, false, false, false, false] rfl rfl (qbk HT_.out (by kernel_rfl)) (fun _ _ _ h => h) (Or.inr ⟨by rfl, rfl⟩) ?_ ?_
     rotate_left
     ·simp only [Act.put, List.setIfInBounds_toArray, List.set_cons_zero, List.set_cons_succ, qbv, qbw]
      rfl
     refine qcj (i := 17) (N := some 20) (v := undef) (a' := ?_) #[true, true, true, true, true, true, true, true, true, true, true, true, true, true, true, true, true, true, false, false, false, false] rfl rfl (qbk HT_.out (by kernel_rfl)) (fun _ _ _ h => h) (Or.inr ⟨by rfl, rfl⟩) ?_ ?_
     rotate_left
     ·simp only [Act.put, List.setIfInBounds_toArray, List.set_cons_zero, List.set_cons_succ, qbv, qbw]
      rfl
     refine qcj (i := 18) (N := some 21) (v := undef) (a' := ?_) #[true, true, true, true, true, true, true, true, true, true, true, true, true, true, true, true, true, true, true, false, false, false] rfl rfl (qbk HT_.out (by kernel_rfl)) (fun _ _ _ h => h) (Or.inr ⟨by rfl, rfl⟩) ?_ ?_
     rotate_left
     ·simp only [Act.put, List.setIfInBounds_toArray, List.set_cons_zero, List.set_cons_succ, qbv, qbw]
      rfl
     refine qcj (i := 19) (N := some 22) (v := undef) (a' := ?_) #[true, true, true, true, true, true, true, true, true, true, true, true, true, true, true, true, true, true, true, true, false, false] rfl rfl (qbk HT_.out (by kernel_rfl)) (fun _ _ _ h => h) (Or.inr ⟨by rfl, rfl⟩) ?_ ?_
     rotate_left
     ·simp only [Act.put, List.setIfInBounds_toArray, List.set_cons_zero, List.set_cons_succ, qbv, qbw]
      rfl
     refine qcj (i := 20) (N := some 23) (v := ?_) (a' := ?_) #[true, true, true, true, true, true, true, true, true, true, true, true, true, true, true, true, true, true, true, true, true, false] rfl rfl (qbk HT_.out (by kernel_rfl)) (fun _ _ _ h => h) (Or.inl ⟨by rfl, ?_⟩) ?_ ?_
     rotate_left
     ·intro w'
      go_simp
      with_reducible rfl
     rotate_left
     ·simp only [Act.put, List.setIfInBounds_toArray, List.set_cons_zero, List.set_cons_succ, qbv, qbw]
      rfl
     refine qcj (i := 21) (N := some 2) (v := ?_) (a' := ?_) #[true, true, true, true, true, true, true, true, true, true, true, true, true, true, true, true, true, true, true, true, true, true] rfl rfl (qbk HT_.out (by kernel_rfl)) (fun _ _ _ h => h) (Or.inl ⟨by rfl, ?_⟩) ?_ ?_
     rotate_left
     ·intro w'
      go_simp
      with_reducible rfl
     rotate_left
     ·simp only [Act.put, List.setIfInBounds_toArray, List.set_cons_zero, List.set_cons_succ, qbv, qbw]
      rfl
     refine qlv (qiq HT_.out (by kernel_rfl)) ?_
     try go_wp2
     go_ret
     exact ⟨by first | rfl | (simp [qcq, qcz] <;> rfl) | (simp [*, qcq, qcz] <;> rfl), by repeat (first | (with_reducible first | exact HB.out | apply qax | apply qaq | apply qaz | refine qaj ?_ GE690.out) | exact HB.out)⟩
   ·rw [if_neg c6] at H
    exact absurd H (by simp)
  ·rw [if_neg c5] at H
   exact absurd H (by simp)
 ·replace c3 := Bool.eq_false_iff.mpr c3
  subst c3
  have H1 : (some false) = some r := by rw [if_neg (show ¬ (false = true) by decide)] at H; exact H
  clear H
  have H := H1
  clear H1
  obtain rfl := Option.some.inj H
  go_enter Try.func60, Try.ntmps60
  try go_wp2_with (first | ((with_reducible refine qcv (N := 1) rfl ?_); (try (refine qfz (by rfl) ?_; dsimp only)); refine qcw ?hg (N := 1) ?hd (cs := #[.int .i64 a0_0, .slice A0_1 l0_1.length c0_1, .string a0_2]) (t := 80) ?hr ?_; (case hd => rfl); (case hg => rfl); (case hr => first | (go_simp; done) | (go_simp; rfl)); intro gb690 hg w16 hbox hb; have n0_ := Aside0.mk (qbj (by repeat (first | (with_reducible first | exact HB.out | apply qax | apply qaq | apply qaz) | exact HB.out)) hb); have n1_ := Aside0.mk (hbox); have n2_ := Aside0.mk ((by rw [hg]; exact (qbx (by repeat (first | (with_reducible first | exact HB.out | apply qax | apply qaq | apply qaz) | exact HB.out))) : w.heap.size ≤ gb690)); have n3_ := Aside0.mk ((by rw [hg]; exact (qbx (by repeat (first | (with_reducible first | exact HB.out | apply qax | apply qaq | apply qaz) | exact HB.out))) : w.heap.size ≤ gb690)); clear HB; have HB := n0_; have BK690 := n1_; have GW690 := n2_; have GE690 := n3_; clear n0_ n1_ n2_ n3_; clear hb hbox hg))
  have n0_ := Aside0.mk (qaw BK690.out)
  have n1_ := Aside0.mk (qaz HB.out)
  clear BK690
  clear HB
  have BK690 := n0_
  have HB := n1_
  clear n0_ n1_
  refine qjz (n := 22) (S := fun w' => w'.cell? ⟨gb690, 0, none⟩ = some (.int .i64 a0_0) ∧ w'.cell? ⟨gb690, 1, none⟩ = some (.slice A0_1 l0_1.length c0_1) ∧ w'.cell? ⟨gb690, 2, none⟩ = some (.string a0_2)) (ds := []) #[false, false, false, false, false, false, false, false, false, false, false, false, false, false, false, false, false, false, false, false, false, false] (by kernel_rfl) rfl rfl ⟨(qbq BK690.out 0).trans rfl, (qbq BK690.out 1).trans rfl, (qbq BK690.out 2).trans rfl⟩ (fun hHeld => ?_); refine qfw record_Right.tab1 record_Right.bits1 (fun HT_ HW_ => ?_)
  generalize w16.drew = w17 at BK690 HB hHeld ⊢
  refine qcj (i := 0) (N := some 3) (v := ?_) (a' := ?_) #[true, false, false, false, false, false, false, false, false, false, false, false, false, false, false, false, false, false, false, false, false, false] rfl rfl (qbk HT_.out (by kernel_rfl)) (fun _ _ _ h => h) (Or.inl ⟨by rfl, ?_⟩) ?_ ?_
  rotate_left
  ·intro w'
   go_simp
   with_reducible rfl
  rotate_left
  ·simp only [Act.put, List.setIfInBounds_toArray, List.set_cons_zero, List.set_cons_succ, qbv, qbw]
   rfl
  refine take_ (i := 1) (N := some 4) (v := ?_) (a' := ?_) #[true, true, false, false, false, false, false, false, false, false, false, false, false, false, false, false, false, false, false, false, false, false] rfl rfl (qdk HT_.out HW_.out (by kernel_rfl)) (fun _ _ _ h => h) (Or.inl ⟨by rfl, ?_⟩) hHeld ?_ ?_
  rotate_left
  ·rintro w' ⟨s0, s1, s2⟩
   go_simp
   with_reducible rfl
  rotate_left
  ·simp only [Act.put, List.setIfInBounds_toArray, List.set_cons_zero, List.set_cons_succ, qbv, qbw]
   rfl
  refine one_ (i := 2) (N := some 5) #[true, true, true, false, false, false, false, false, false, false, false, false, false, false, false, false, false, false, false, false, false, false] rfl rfl (qfk HT_.out (by kernel_rfl)) (by decide) (fun K hK => ?_)
  refine qhx Try.func77 (by kernel_rfl) rfl #[.int .i64 a0_0] (by rfl) rfl rfl (by (try simp only [List.map_toArray, List.map_cons, List.map_nil]); first | done | rfl | (simp only [List.length_drop, List.length_take]; rfl)) ?_
  with_reducible refine (record_known.calls a0_0 false _ A2.out).mono ?_
  rintro e w' ⟨rfl, ⟨nd, rfl⟩⟩
  refine ⟨_, rfl, ?_⟩
  refine hK.out _ _ ⟨(qbq BK690.out 0).trans rfl, (qbq BK690.out 1).trans rfl, (qbq BK690.out 2).trans rfl⟩ (fun hHeld => ?_)
  clear hK K
  refine qhz (a' := ?_) ?_ ?_
  rotate_left
  ·show Act.put _ (some 5) _ = _
   simp only [Act.put, List.setIfInBounds_toArray, List.set_cons_zero, List.set_cons_succ, qbv, qbw]
   rfl
  refine qcj (i := 3) (N := some 6) (v := ?_) (a' := ?_) #[true, true, true, true, false, false, false, false, false, false, false, false, false, false, false, false, false, false, false, false, false, false] rfl rfl (qbk HT_.out (by kernel_rfl)) (fun _ _ _ h => h) (Or.inl ⟨by rfl, ?_⟩) ?_ ?_
  rotate_left
  ·intro w'
   go_simp
   with_reducible rfl
  rotate_left
  ·simp only [Act.put, List.setIfInBounds_toArray, List.set_cons_zero, List.set_cons_succ, qbv, qbw]
   rfl
  refine qcj (i := 4) (N := some 7) (v := undef) (a' := ?_) #[true, true, true, true, true, false, false, false, false, false, false, false, false, false, false, false, false, false, false, false, false, false] rfl rfl (qbk HT_.out (by kernel_rfl)) (fun _ _ _ h => h) (Or.inr ⟨by rfl, rfl⟩) ?_ ?_
  rotate_left
  ·simp only [Act.put, List.setIfInBounds_toArray, List.set_cons_zero, List.set_cons_succ, qbv, qbw]
   rfl
  refine qcj (i := 5) (N := some 8) (v := undef) (a' := ?_) #[true, true, true, true, true, true, false, false, false, false, false, false, false, false, false, false, false, false, false, false, false, false] rfl rfl (qbk HT_.out (by kernel_rfl)) (fun _ _ _ h => h) (Or.inr ⟨by rfl, rfl⟩) ?_ ?_
  rotate_left
  ·simp only [Act.put, List.setIfInBounds_toArray, List.set_cons_zero, List.set_cons_succ, qbv, qbw]
   rfl
  refine qcj (i := 6) (N := some 9) (v := undef) (a' := ?_) #[true, true, true, true, true, true, true, false, false, false, false, false, false, false, false, false, false, false, false, false, false, false] rfl rfl (qbk HT_.out (by kernel_rfl)) (fun _ _ _ h => h) (Or.inr ⟨by rfl, rfl⟩) ?_ ?_
  rotate_left
  ·simp only [Act.put, List.setIfInBounds_toArray, List.set_cons_zero, List.set_cons_succ, qbv, qbw]
   rfl
  refine qcj (i := 7) (N := some 10) (v := undef) (a' := ?_) #[true, true, true, true, true, true, true, true, false, false, false, false, false, false, false, false, false, false, false, false, false, false] rfl rfl (qbk HT_.out (by kernel_rfl)) (fun _ _ _ h => h) (Or.inr ⟨by rfl, rfl⟩) ?_ ?_
  rotate_left
  ·simp only [Act.put, List.setIfInBounds_toArray, List.set_cons_zero, List.set_cons_succ, qbv, qbw]
   rfl
  refine qcj (i := 8) (N := some 11) (v := undef) (a' := ?_) #[true, true, true, true, true, true, true, true, true, false, false, false, false, false, false, false, false, false, false, false, false, false] rfl rfl (qbk HT_.out (by kernel_rfl)) (fun _ _ _ h => h) (Or.inr ⟨by rfl, rfl⟩) ?_ ?_
  rotate_left
  ·simp only [Act.put, List.setIfInBounds_toArray, List.set_cons_zero, List.set_cons_succ, qbv, qbw]
   rfl
  refine qcj (i := 9) (N := some 12) (v := undef) (a' := ?_) #[true, true, true, true, true, true, true, true, true, true, false, false, false, false, false, false, false, false, false, false, false, false] rfl rfl (qbk HT_.out (by kernel_rfl)) (fun _ _ _ h => h) (Or.inr ⟨by rfl, rfl⟩) ?_ ?_
  rotate_left
  ·simp only [Act.put, List.setIfInBounds_toArray, List.set_cons_zero, List.set_cons_succ, qbv, qbw]
   rfl
  refine qcj (i := 10) (N := some 13) (v := undef) (a' := ?_) #[true, true, true, true, true, true, true, true, true, true, true, false, false, false, false, false, false, false, false, false, false, false] rfl rfl (qbk HT_.out (by kernel_rfl)) (fun _ _ _ h => h) (Or.inr ⟨by rfl, rfl⟩) ?_ ?_
  rotate_left
  ·simp only [Act.put, List.setIfInBounds_toArray, List.set_cons_zero, List.set_cons_succ, qbv, qbw]
   rfl
  refine qcj (i := 11) (N := some 14) (v := undef) (a' := ?_) #[true, true, true, true, true, true, true, true, true, true, true, true, false, false, false, false, false, false, false, false, false, false] rfl rfl (qbk HT_.out (by kernel_rfl)) (fun _ _ _ h => h) (Or.inr ⟨by rfl, rfl⟩) ?_ ?_
  rotate_left
  ·simp only [Act.put, List.setIfInBounds_toArray, List.set_cons_zero, List.set_cons_succ, qbv, qbw]
   rfl
  refine qcj (i := 12) (N := some 15) (v := ?_) (a' := ?_) #[true, true, true, true, true, true, true, true, true, true, true, true, true, false, false, false, false, false, false, false, false, false] rfl rfl (qbk HT_.out (by kernel_rfl)) (fun _ _ _ h => h) (Or.inl ⟨by rfl, ?_⟩) ?_ ?_
  rotate_left
  ·intro w'
   go_simp
   with_reducible rfl
  rotate_left
  ·simp only [Act.put, List.setIfInBounds_toArray, List.set_cons_zero, List.set_cons_succ, qbv, qbw]
   rfl
  refine qcj (i := 13) (N := some 16) (v := ?_) (a' := ?_) #[true, true, true, true, true, true, true, true, true, true, true, true, true, true, false, false, false, false, false, false, false, false] rfl rfl (qbk HT_.out (by kernel_rfl)) (fun _ _ _ h => h) (Or.inl ⟨by rfl, ?_⟩) ?_ ?_
  rotate_left
  ·intro w'
   go_simp
   with_reducible rfl
  rotate_left
  ·simp only [Act.put, List.setIfInBounds_toArray, List.set_cons_zero, List.set_cons_succ, qbv, qbw]
   rfl
  refine qcj (i := 14) (N := some 17) (v := undef) (a' := ?_) #[true, true, true, true, true, true, true, true, true, true, true, true, true, true, true, false, false, false, false, false, false, false] rfl rfl (qbk HT_.out (by kernel_rfl)) (fun _ _ _ h => h) (Or.inr ⟨by rfl, rfl⟩) ?_ ?_
  rotate_left
  ·simp only [Act.put, List.setIfInBounds_toArray, List.set_cons_zero, List.set_cons_succ, qbv, qbw]
   rfl
  refine qcj (i := 15) (N := some 18) (v := undef) (a' := ?_) #[true, true, true, true, true, true, true, true, true, true, true, true, true, true, true, true, false, false, false, false, false, false] rfl rfl (qbk HT_.out (by kernel_rfl)) (fun _ _ _ h => h) (Or.inr ⟨by rfl, rfl⟩) ?_ ?_
  rotate_left
  ·simp only [Act.put, List.setIfInBounds_toArray, List.set_cons_zero, List.set_cons_succ, qbv, qbw]
   rfl
  refine qcj (i := 16) (N := some 19) (v := undef) (a' := ?_) #[true, true, true, true, true, true, true, true, true, true, true, true, true, true, true, true, true, false, false, false, false, false] rfl rfl (qbk HT_.out (by kernel_rfl)) (fun _ _ _ h => h) (Or.inr ⟨by rfl, rfl⟩) ?_ ?_
  rotate_left
  ·simp only [Act.put, List.setIfInBounds_toArray, List.set_cons_zero, List.set_cons_succ, qbv, qbw]
   rfl
  refine qcj (i := 17) (N := some 20) (v := undef) (a' := ?_) #[true, true, true, true, true, true, true, true, true, true, true, true, true, true, true, true, true, true, false, false, false, false] rfl rfl (qbk HT_.out (by kernel_rfl)) (fun _ _ _ h => h) (Or.inr ⟨by rfl, rfl⟩) ?_ ?_
  rotate_left
  ·simp only [Act.put, List.setIfInBounds_toArray, List.set_cons_zero, List.set_cons_succ, qbv, qbw]
   rfl
  refine qcj (i := 18) (N := some 21) (v := undef) (a' := ?_) #[true, true, true, true, true, true, true, true, true, true, true, true, true, true, true, true, true, true, true, false, false, false] rfl rfl (qbk HT_.out (by kernel_rfl)) (fun _ _ _ h => h) (Or.inr ⟨by rfl, rfl⟩) ?_ ?_
  rotate_left
  ·simp only [Act.put, List.setIfInBounds_toArray, List.set_cons_zero, List.set_cons_succ, qbv, qbw]
   rfl
  refine qcj (i := 19) (N := some 22) (v := undef) (a' := ?_) #[true, true, true, true, true, true, true, true, true, true, true, true, true, true, true, true, true, true, true, true, false, false] rfl rfl (qbk HT_.out (by kernel_rfl)) (fun _ _ _ h => h) (Or.inr ⟨by rfl, rfl⟩) ?_ ?_
  rotate_left
  ·simp only [Act.put, List.setIfInBounds_toArray, List.set_cons_zero, List.set_cons_succ, qbv, qbw]
   rfl
  refine qcj (i := 20) (N := some 23) (v := ?_) (a' := ?_) #[true, true, true, true, true, true, true, true, true, true, true, true, true, true, true, true, true, true, true, true, true, false] rfl rfl (qbk HT_.out (by kernel_rfl)) (fun _ _ _ h => h) (Or.inl ⟨by rfl, ?_⟩) ?_ ?_
  rotate_left
  ·intro w'
   go_simp
   with_reducible rfl
  rotate_left
  ·simp only [Act.put, List.setIfInBounds_toArray, List.set_cons_zero, List.set_cons_succ, qbv, qbw]
   rfl
  refine qcj (i := 21) (N := some 2) (v := ?_) (a' := ?_) #[true, true, true, true, true, true, true, true, true, true, true, true, true, true, true, true, true, true, true, true, true, true] rfl rfl (qbk HT_.out (by kernel_rfl)) (fun _ _ _ h => h) (Or.inl ⟨by rfl, ?_⟩) ?_ ?_
  rotate_left
  ·intro w'
   go_simp
   with_reducible rfl
  rotate_left
  ·simp only [Act.put, List.setIfInBounds_toArray, List.set_cons_zero, List.set_cons_succ, qbv, qbw]
   rfl
  refine qlv (qiq HT_.out (by kernel_rfl)) ?_
  try go_wp2
  go_ret
  exact ⟨by first | rfl | (simp [qcq, qcz] <;> rfl) | (simp [*, qcq, qcz] <;> rfl), by repeat (first | (with_reducible first | exact HB.out | apply qax | apply qaq | apply qaz | refine qaj ?_ GE690.out) | exact HB.out)⟩
end Go.Proofs.Ytojepleodijdeaa.B
namespace Go.Proofs.Ytojepleodijdeaa.B
open Go.RowKit Go.Proofs.YtojepleodijdeaaW.PrintWords Go.Proofs.YtojepleodijdeaaW.PrintLast Go.Proofs.YtojepleodijdeaaW.PrintMore
set_option linter.unusedVariables false
set_option linter.unusedSimpArgs false
section
variable {P : Program} {ops : Array Oper} {o : Oper} {a : Act} {Q : Exit → Act → World → Prop} {Kc : Act → World → Prop}
theorem qnq {w0 W : World} (base : Nat) (hw : Region.wanted o (yielded ops a.tmps) = true) (s x : Operand) (t u e : TypeId)
  (ho : o.op = .call { callee := .builtin .append, args := #[s, x], argTypes := #[t, u] })
  (ht : P.underlying t = some (.slice e)) (hu : P.underlying u = some .string) (hinfo : (P.info? e).map (fun i => (i.zero, i.size, i.bytes)) = some (some (.int .u8 0), 1, 1))
  (v : Value) (xs : List Int) (y : ByteArray) (hs : a.eval s = v) (hx : a.eval x = .string y)
  (HO : W.ownsRow base e 1 v xs.length (nums .u8 xs)) (HB : Below base w0 W) (hbase : base ≤ W.heap.size) (hl : xs.length + y.size ≤ 140737488355328)
  (h : ∀ v1 w1, w1.ownsRow base e 1 v1 (xs ++ qek y).length (nums .u8 (xs ++ qek y)) → Below base w0 w1 → W.grownBy w1 v.ownBlock → Kc (a.put o.dst v1) w1) :
  if Region.wanted o (yielded ops a.tmps) = true then Oper.wp P o a W Kc Q else Kc (a.put o.dst undef) W := by
 rw [if_pos hw]
 obtain ⟨i0, hi, hzz⟩ := Option.map_eq_some_iff.1 hinfo
 simp only [Prod.mk.injEq] at hzz
 obtain ⟨hz0, hz1, hz2⟩ := hzz
 obtain ⟨v1, w1, hr, hown, hg, _⟩ := Lib.run_append_own_string (P := P) W base t u o.type e i0 ht hu hi hz0 hz1 hz2 v xs.length (nums .u8 xs) HO y (by simp only [maxLen]; omega) hl hbase
 unfold Oper.wp execOp
 simp only [ho, resolve, invoke, builtin, Sem.run_bind, Sem.run_pure, Result.andThen_ok, List.map_toArray, List.map_cons, List.map_nil, hs, hx, hr]
 have hl2 : (xs ++ qek y).length = xs.length + y.size := by rw [List.length_append, qij]
 have hc : nums .u8 (xs ++ qek y) = nums .u8 xs ++ Lib.strCells y := by
  rw [zaj]
  congr 1
  simp [nums, qek, Lib.strCells]
 exact h v1 w1 (by rw [hl2, hc]; exact hown) (HB.grown hg hbase (qkw HO)) hg
end
end Go.Proofs.Ytojepleodijdeaa.B
namespace Go.Proofs.Ytojepleodijdeaa.B
open Go.RowKit Go.Proofs.YtojepleodijdeaaW.PrintWords Go.Proofs.YtojepleodijdeaaW.PrintLast Go.Proofs.YtojepleodijdeaaW.PrintMore
attribute [local go_sem] qgz qgx qhj qhk qfx qfj qgj qgk   -- for this text's walks alone
set_option linter.unusedVariables false
set_option linter.unusedSimpArgs false
def record_Bytes.f (k : Nat) (a0_0 : Int) (l0_1 : List Int) (a0_2 : ByteArray) : Option (List Int × Int) := (record_Right.f a0_0 l0_1 a0_2).bind fun t695 => (if t695 = true then ((vint_All.f k l0_1).bind fun t696 => (if t696.length + a0_2.size < 140737488355328 then ((frame_Bytes.f ((a0_0) % 256) (t696 ++ qek a0_2)).bind fun bt702 => (some (bt702.1, bt702.2))) else (none))) else (some (([] : List Int), 1)))
theorem record_Bytes.mono : ∀ a0 a1 a2 k, LeO (record_Bytes.f k a0 a1 a2) (record_Bytes.f (k + 1) a0 a1 a2) := by
 intro a0 a1 a2 k
 unfold record_Bytes.f
 repeat' first
   | (with_reducible exact vint_All.mono _ _)
   | (with_reducible exact LeO.refl _)
   | (with_reducible exact LeO.none _)
   | (with_reducible refine LeO.ite ?_ ?_)
   | (with_reducible refine LeO.bind ?_ (fun _ => ?_))
   | exact vint_All.mono _ _
   | exact LeO.none _
   | refine LeO.ite ?_ ?_
   | refine LeO.bind ?_ (fun _ => ?_)
def record_Bytes.T3 : Bool × List (List Nat × List Nat) := (true, [([], []), ([0], [0]), ([1], [1]), ([], []), ([3], [3]), ([4], [4]), ([], []), ([6], [6]), ([5, 7, 5], [5, 7]), ([2, 8], [2, 8]), ([9, 8], [9]), ([10], [10]), ([10], [10]), ([11, 10, 0, 1, 2, 3, 4, 5, 6, 7, 8, 9, 10, 11, 12], [11]), ([12, 13, 0, 1, 2, 3, 4, 5, 6, 7, 8, 9, 10, 11, 12, 13], [12])])
def record_Bytes.B3 : List Nat := [0, 1, 3, 0, 8, 24, 0, 64, 248, 511, 1023, 2047, 2047, 8191, 16383]
theorem record_Bytes.tab3 : rtab .any (qdv Try.f56 3) = record_Bytes.T3 := by kernel_rfl
theorem record_Bytes.bits3 : qjv record_Bytes.T3.2 record_Bytes.B3 = true := by kernel_rfl
set_option maxHeartbeats 8000000 in
set_option maxRecDepth 100000 in
theorem record_Bytes.calls (k : Nat) (a0_0 : Int) (A0_1 : Option Addr) (c0_1 : Nat) (l0_1 : List Int) (a0_2 : ByteArray) (r1 : List Int) (r2 : Int) (w : World) (hr0_1 : Kd.C (Kd.int .u64) w A0_1 l0_1.length l0_1) (hc0_1 : l0_1.length ≤ c0_1) (h : record_Bytes.f k a0_0 l0_1 a0_2 = some (r1, r2)) :
  Calls Try.prog 56 #[.agg #[.int .i64 a0_0, .slice A0_1 l0_1.length c0_1, .string a0_2]] w fun e w' => ∃ v0_ : Value, e = .returned (.tuple #[v0_, .int .i64 r2]) ∧ Kd.R (Kd.int .u8) 5 w' w.heap.size (fun _ => True) v0_ r1 ∧ Below w.heap.size w w' := by
 have hu80 := Try.underlying80
 have hu56 := Try.underlying56
 have HR0_1 := Aside0.mk hr0_1
 have HC0_1 := Aside0.mk hc0_1
 clear hr0_1 hc0_1
 have HB := Aside0.mk (Below.refl w.heap.size w)
 have H : ((record_Right.f a0_0 l0_1 a0_2).bind fun t695 => (if t695 = true then ((vint_All.f k l0_1).bind fun t696 => (if t696.length + a0_2.size < 140737488355328 then ((frame_Bytes.f ((a0_0) % 256) (t696 ++ qek a0_2)).bind fun bt702 => (some (bt702.1, bt702.2))) else (none))) else (some (([] : List Int), 1)))) = some (r1, r2) := h
 clear h
 replace H := Option.bind_eq_some_iff.mp H
 obtain ⟨t695, A20, H⟩ := H
 replace H : (if t695 = true then ((vint_All.f k l0_1).bind fun t696 => (if t696.length + a0_2.size < 140737488355328 then ((frame_Bytes.f ((a0_0) % 256) (t696 ++ qek a0_2)).bind fun bt702 => (some (bt702.1, bt702.2))) else (none))) else (some (([] : List Int), 1))) = some (r1, r2) := H
 have A2 := Aside0.mk A20
 clear A20
 by_cases c3 : t695 = true
 ·subst c3
  have H1 : ((vint_All.f k l0_1).bind fun t696 => (if t696.length + a0_2.size < 140737488355328 then ((frame_Bytes.f ((a0_0) % 256) (t696 ++ qek a0_2)).bind fun bt702 => (some (bt702.1, bt702.2))) else (none))) = some (r1, r2) := by rw [if_pos rfl] at H; exact H
  clear H
  have H := H1
  clear H1
  replace H := Option.bind_eq_some_iff.mp H
  obtain ⟨t696, A40, H⟩ := H
  replace H : (if t696.length + a0_2.size < 140737488355328 then ((frame_Bytes.f ((a0_0) % 256) (t696 ++ qek a0_2)).bind fun bt702 => (some (bt702.1, bt702.2))) else (none)) = some (r1, r2) := H
  have A4 := Aside0.mk A40
  clear A40
  by_cases c5 : t696.length + a0_2.size < 140737488355328
  ·rw [if_pos c5] at H
   have LMc5 := Aside0.mk c5
   clear c5
   obtain ⟨y699, hy699⟩ : ∃ y_ : List Int, y_ = (t696 ++ qek a0_2) := ⟨_, rfl⟩
   replace H : ((frame_Bytes.f ((a0_0) % 256) y699).bind fun bt702 => (some (bt702.1, bt702.2))) = some (r1, r2) := by first | (rw [hy699]; with_reducible exact H) | (have H2_ := (Option.bind_some _ _).symm.trans H; rw [hy699]; with_reducible exact H2_) | (have H2_ := (Option.bind_some _ _).symm.trans H; with_reducible exact H2_) | with_reducible exact H | (rw [hy699]; exact H) | exact H
   have Ny699 := Aside0.mk hy699
   clear hy699
   replace H := Option.bind_eq_some_iff.mp H
   obtain ⟨⟨t702, t705⟩, A60, H⟩ := H
   replace H : (some (t702, t705)) = some (r1, r2) := H
   have A6 := Aside0.mk A60
   clear A60
   simp only [Option.some.injEq, Prod.mk.injEq] at H
   obtain ⟨rfl, rfl⟩ := H
   go_enter Try.func56, Try.ntmps56
   try go_wp2_with (first | ((with_reducible refine qcv (N := 1) rfl ?_); refine qcw ?hg (N := 1) ?hd (cs := #[.int .i64 a0_0, .slice A0_1 l0_1.length c0_1, .string a0_2]) (t := 80) ?hr ?_; (case hd => rfl); (case hg => rfl); (case hr => first | (go_simp; done) | (go_simp; rfl)); intro gb694 hg w7 hbox hb; have n0_ := Aside0.mk (qbj (by repeat (first | (with_reducible first | exact HB.out | apply qax | apply qaq | apply qaz) | exact HB.out)) hb); have n1_ := Aside0.mk (hbox); have n2_ := Aside0.mk ((by rw [hg]; exact (qbx (by repeat (first | (with_reducible first | exact HB.out | apply qax | apply qaq | apply qaz) | exact HB.out))) : w.heap.size ≤ gb694)); have n3_ := Aside0.mk ((by rw [hg]; exact (qbx (by repeat (first | (with_reducible first | exact HB.out | apply qax | apply qaq | apply qaz) | exact HB.out))) : w.heap.size ≤ gb694)); clear HB; have HB := n0_; have BK694 := n1_; have GW694 := n2_; have GE694 := n3_; clear n0_ n1_ n2_ n3_; clear hb hbox hg; have hcz8_0 : w7.cell? ⟨gb694, 0, none⟩ = some (.int .i64 a0_0) := (qbq BK694.out 0).trans rfl; have hcz8_1 : w7.cell? ⟨gb694, 1, none⟩ = some (.slice A0_1 l0_1.length c0_1) := (qbq BK694.out 1).trans rfl; have hcz8_2 : w7.cell? ⟨gb694, 2, none⟩ = some (.string a0_2) := (qbq BK694.out 2).trans rfl; have hfz8_0 := qbz BK694.out 0; have hfz8_1 := qbz BK694.out 1; have hfz8_2 := qbz BK694.out 2) | ((with_reducible refine qdq (f := 60) rfl ?_); refine qew (some 5) rfl rfl Try.func60 (by kernel_rfl) rfl #[.agg #[.int .i64 a0_0, .slice A0_1 l0_1.length c0_1, .string a0_2]] rfl (by (try simp only [List.map_toArray, List.map_cons, List.map_nil]); first | done | rfl | (simp only [List.length_drop, List.length_take]; rfl)) ?_; (with_reducible refine (record_Right.calls a0_0 _ _ l0_1 a0_2 true _ ?side1 ?side2 A2.out).mono ?_); (case side1 => repeat (first | exact (Kd.C_below HR0_1.out HB.out) | (with_reducible refine Kd.C_alloc ?_ _) | (with_reducible refine Kd.C_drewN ?_ _) | (with_reducible refine Kd.C_drew ?_))); (case side2 => exact HC0_1.out); rintro e w9 ⟨rfl, hb⟩; refine ⟨_, rfl, ?_⟩; have n0_ := Aside0.mk (qcx (g := gb694) (o := .cells #[.int .i64 a0_0, .slice A0_1 l0_1.length c0_1, .string a0_2] 80 (0, 0)) (by (with_reducible repeat (first | refine qav ?_ _ | refine qaw ?_ | refine qak ?_ _)); exact BK694.out) hb); have n1_ := Aside0.mk (qbj (by repeat (first | (with_reducible first | exact HB.out | apply qax | apply qaq | apply qaz | refine qaj ?_ GE694.out) | exact HB.out)) hb); clear BK694; clear HB; have BK694 := n0_; have HB := n1_; clear n0_ n1_; (try clear hb); (try clear hb2); (try clear hk); (try clear hi)))
   have n0_ := Aside0.mk (qaw BK694.out)
   have n1_ := Aside0.mk (qaz HB.out)
   clear BK694
   clear HB
   have BK694 := n0_
   have HB := n1_
   clear n0_ n1_
   refine qjz (n := 15) (S := fun w' => w'.cell? ⟨gb694, 0, none⟩ = some (.int .i64 a0_0) ∧ w'.cell? ⟨gb694, 1, none⟩ = some (.slice A0_1 l0_1.length c0_1) ∧ w'.cell? ⟨gb694, 2, none⟩ = some (.string a0_2)) (ds := []) #[false, false, false, false, false, false, false, false, false, false, false, false, false, false, false] (by kernel_rfl) rfl rfl ⟨(qbq BK694.out 0).trans rfl, (qbq BK694.out 1).trans rfl, (qbq BK694.out 2).trans rfl⟩ (fun hHeld => ?_); refine qfw record_Bytes.tab3 record_Bytes.bits3 (fun HT_ HW_ => ?_)
   generalize w9.drew = w10 at BK694 HB hHeld ⊢
   refine qcj (i := 0) (N := some 7) (v := ?_) (a' := ?_) #[true, false, false, false, false, false, false, false, false, false, false, false, false, false, false] rfl rfl (qbk HT_.out (by kernel_rfl)) (fun _ _ _ h => h) (Or.inl ⟨by rfl, ?_⟩) ?_ ?_
   rotate_left
   ·intro w'
    go_simp
    with_reducible rfl
   rotate_left
   ·simp only [Act.put, List.setIfInBounds_toArray, List.set_cons_zero, List.set_cons_succ, qbv, qbw]
    rfl
   refine qcj (i := 3) (N := some 10) (v := ?_) (a' := ?_) #[true, false, false, true, false, false, false, false, false, false, false, false, false, false, false] rfl rfl (qbk HT_.out (by kernel_rfl)) (fun _ _ _ h => h) (Or.inl ⟨by rfl, ?_⟩) ?_ ?_
   rotate_left
   ·intro w'
    go_simp
    with_reducible rfl
   rotate_left
   ·simp only [Act.put, List.setIfInBounds_toArray, List.set_cons_zero, List.set_cons_succ, qbv, qbw]
    rfl
   refine qcj (i := 6) (N := some 13) (v := ?_) (a' := ?_) #[true, false, false, true, false, false, true, false, false, false, false, false, false, false, false] rfl rfl (qbk HT_.out (by kernel_rfl)) (fun _ _ _ h => h) (Or.inl ⟨by rfl, ?_⟩) ?_ ?_
   rotate_left
   ·intro w'
    go_simp
    with_reducible rfl
   rotate_left
   ·simp only [Act.put, List.setIfInBounds_toArray, List.set_cons_zero, List.set_cons_succ, qbv, qbw]
    rfl
   refine take_ (i := 1) (N := some 8) (v := ?_) (a' := ?_) #[true, true, false, true, false, false, true, false, false, false, false, false, false, false, false] rfl rfl (qdk HT_.out HW_.out (by kernel_rfl)) (fun _ _ _ h => h) (Or.inl ⟨by rfl, ?_⟩) hHeld ?_ ?_
   rotate_left
   ·rintro w' ⟨s0, s1, s2⟩
    go_simp
    with_reducible rfl
   rotate_left
   ·simp only [Act.put, List.setIfInBounds_toArray, List.set_cons_zero, List.set_cons_succ, qbv, qbw]
    rfl
   refine qcj (i := 2) (N := some 9) (v := ?_) (a' := ?_) #[true, true, true, true, false, false, true, false, false, false, false, false, false, false, false] rfl rfl (qbk HT_.out (by kernel_rfl)) (fun _ _ _ h => h) (Or.inl ⟨by rfl, ?_⟩) ?_ ?_
   rotate_left
   ·intro w'
    go_simp
    with_reducible rfl
   rotate_left
   ·simp only [Act.put, List.setIfInBounds_toArray, List.set_cons_zero, List.set_cons_succ, qbv, qbw]
    rfl
   refine take_ (i := 4) (N := some 11) (v := ?_) (a' := ?_) #[true, true, true, true, true, false, true, false, false, false, false, false, false, false, false] rfl rfl (qdk HT_.out HW_.out (by kernel_rfl)) (fun _ _ _ h => h) (Or.inl ⟨by rfl, ?_⟩) hHeld ?_ ?_
   rotate_left
   ·rintro w' ⟨s0, s1, s2⟩
    go_simp
    with_reducible rfl
   rotate_left
   ·simp only [Act.put, List.setIfInBounds_toArray, List.set_cons_zero, List.set_cons_succ, qbv, qbw]
    rfl
   refine take_ (i := 7) (N := some 14) (v := ?_) (a' := ?_) #[true, true, true, true, true, false, true, true, false, false, false, false, false, false, false] rfl rfl (qdk HT_.out HW_.out (by kernel_rfl)) (fun _ _ _ h => h) (Or.inl ⟨by rfl, ?_⟩) hHeld ?_ ?_
   rotate_left
   ·rintro w' ⟨s0, s1, s2⟩
    go_simp
    with_reducible rfl
   rotate_left
   ·simp only [Act.put, List.setIfInBounds_toArray, List.set_cons_zero, List.set_cons_succ, qbv, qbw]
    rfl
   refine one_ (i := 5) (N := some 12) #[true, true, true, true, true, true, true, true, false, false, false, false, false, false, false] rfl rfl (qfk HT_.out (by kernel_rfl)) (by decide) (fun K hK => ?_)
   refine qhx Try.func30 (by kernel_rfl) rfl #[.slice A0_1 l0_1.length c0_1] (by rfl) rfl rfl (by (try simp only [List.map_toArray, List.map_cons, List.map_nil]); first | done | rfl | (simp only [List.length_drop, List.length_take]; rfl)) ?_
   with_reducible refine (vint_All.calls k _ _ l0_1 t696 _ ?side1 ?side2 A4.out).mono ?_
   (case side1 => repeat (first | exact (Kd.C_below HR0_1.out HB.out) | (with_reducible refine Kd.C_alloc ?_ _) | (with_reducible refine Kd.C_drewN ?_ _) | (with_reducible refine Kd.C_drew ?_)))
   (case side2 => exact HC0_1.out)
   rintro e w11 ⟨v697, rfl, ho0, hb⟩
   refine ⟨_, rfl, ?_⟩
   have n0_ := Aside0.mk (Kd.R_lower ho0 (qbx (by repeat (first | (with_reducible first | exact HB.out | apply qax | apply qaq | apply qaz | refine qaj ?_ GE694.out) | exact HB.out))))
   have n1_ := Aside0.mk (qcx (g := gb694) (o := .cells #[.int .i64 a0_0, .slice A0_1 l0_1.length c0_1, .string a0_2] 80 (0, 0)) (by (with_reducible repeat (first | refine qav ?_ _ | refine qaw ?_ | refine qak ?_ _)); exact BK694.out) hb)
   have n2_ := Aside0.mk (qbj (by repeat (first | (with_reducible first | exact HB.out | apply qax | apply qaq | apply qaz | refine qaj ?_ GE694.out) | exact HB.out)) hb)
   clear BK694
   clear HB
   have HO698 := n0_
   have BK694 := n1_
   have HB := n2_
   clear n0_ n1_ n2_
   (try clear hb)
   (try clear hb2)
   (try clear hk)
   (try clear hi)
   (try clear ho0)
   refine hK.out _ _ ⟨(qbq BK694.out 0).trans rfl, (qbq BK694.out 1).trans rfl, (qbq BK694.out 2).trans rfl⟩ (fun hHeld => ?_)
   clear hK K
   refine qhz (a' := ?_) ?_ ?_
   rotate_left
   ·show Act.put _ (some 12) _ = _
    simp only [Act.put, List.setIfInBounds_toArray, List.set_cons_zero, List.set_cons_succ, qbv, qbw]
    rfl
   refine one_ (i := 8) (N := some 15) #[true, true, true, true, true, true, true, true, true, false, false, false, false, false, false] rfl rfl (qfk HT_.out (by kernel_rfl)) (by decide) (fun K hK => ?_)
   refine qnq (w0 := w) w.heap.size (by rfl) (.tmp 12) _ 23 9 5 rfl Try.underlying23 Try.underlying9 qgv v697 t696 a0_2 rfl rfl ?aO ?aB ?aS ?aL ?_
   (case aB => exact (by repeat (first | (with_reducible first | exact HB.out | apply qax | apply qaq | apply qaz | refine qaj ?_ GE694.out) | exact HB.out)))
   (case aO => exact (Kd.own_of_R (by (with_reducible repeat (first | apply Kd.R_alloc | apply Kd.R_drewN | apply Kd.R_drew)); exact HO698.out)))
   (case aS => exact (qbx (by repeat (first | (with_reducible first | exact HB.out | apply qax | apply qaq | apply qaz | refine qaj ?_ GE694.out) | exact HB.out))))
   (case aL => have := LMc5.out; omega)
   intro v700 w12 ho0 hb hg
   have ho := Kd.R_of_own (h1 := fun _ => rfl) (ok := fun _ => True) ho0 (fun _ _ => trivial)
   clear ho0
   have hat := True.intro
   rw [← Ny699.out] at ho
   change Kd.R (Kd.int .u8) 5 w12 w.heap.size (fun _ => True) v700 y699 at ho
   have n0_ := Aside0.mk (qgq (g := gb694) (o := .cells #[.int .i64 a0_0, .slice A0_1 l0_1.length c0_1, .string a0_2] 80 (0, 0)) (by (with_reducible repeat (first | refine qav ?_ _ | refine qaw ?_ | refine qak ?_ _)); exact BK694.out) hg (Kd.R_ne HO698.out BK694.out (by decide)))
   have n1_ := Aside0.mk (hb)
   have n2_ := Aside0.mk (ho)
   clear BK694
   clear HB
   clear HO698
   have BK694 := n0_
   have HB := n1_
   have HO701 := n2_
   clear n0_ n1_ n2_
   clear ho hb hg hat
   obtain ⟨Ao13, co13, eo13⟩ := Kd.R_slice HO701.out
   (first | subst eo13 | (injection eo13 with f1_ f2_ f3_; have f4_ := f1_.symm; have f5_ := f3_.symm; clear f1_ f2_ f3_; subst f4_; subst f5_))
   refine hK.out _ _ ⟨(qbq BK694.out 0).trans rfl, (qbq BK694.out 1).trans rfl, (qbq BK694.out 2).trans rfl⟩ (fun hHeld => ?_)
   clear hK K
   refine qhz (a' := ?_) ?_ ?_
   rotate_left
   ·show Act.put _ (some 15) _ = _
    simp only [Act.put, List.setIfInBounds_toArray, List.set_cons_zero, List.set_cons_succ, qbv, qbw]
    rfl
   refine qcj (i := 9) (N := some 16) (v := ?_) (a' := ?_) #[true, true, true, true, true, true, true, true, true, true, false, false, false, false, false] rfl rfl (qbk HT_.out (by kernel_rfl)) (fun _ _ _ h => h) (Or.inl ⟨by rfl, ?_⟩) ?_ ?_
   rotate_left
   ·intro w'
    go_simp
    with_reducible rfl
   rotate_left
   ·simp only [Act.put, List.setIfInBounds_toArray, List.set_cons_zero, List.set_cons_succ, qbv, qbw]
    rfl
   refine one_ (i := 10) (N := some 17) #[true, true, true, true, true, true, true, true, true, true, true, false, false, false, false] rfl rfl (qfk HT_.out (by kernel_rfl)) (by decide) (fun K hK => ?_)
   refine qhx Try.func45 (by kernel_rfl) rfl #[.agg #[.int .u8 ((a0_0) % 256), .slice Ao13 y699.length co13]] (by rfl) rfl rfl (by (try simp only [List.map_toArray, List.map_cons, List.map_nil]); first | done | rfl | (simp only [List.length_drop, List.length_take]; rfl)) ?_
   with_reducible refine (frame_Bytes.calls ((a0_0) % 256) _ _ y699 t702 t705 _ ?side1 ?side2 A6.out).mono ?_
   (case side1 => repeat (first | exact (Kd.R_reads' HO701.out).2.2 | (with_reducible refine Kd.C_alloc ?_ _) | (with_reducible refine Kd.C_drewN ?_ _) | (with_reducible refine Kd.C_drew ?_)))
   (case side2 => exact (Kd.R_reads' HO701.out).2.1)
   rintro e w14 ⟨v703, rfl, ho0, hb⟩
   refine ⟨_, rfl, ?_⟩
   have n0_ := Aside0.mk (Kd.R_elder' (by (with_reducible repeat (first | apply Kd.R_alloc | apply Kd.R_drewN | apply Kd.R_drew)); exact HO701.out) (Kd.R_base ho0) hb)
   have n1_ := Aside0.mk (Kd.R_lower (Kd.R_new' ho0 (Kd.R_lt (by (with_reducible repeat (first | apply Kd.R_alloc | apply Kd.R_drewN | apply Kd.R_drew)); exact HO701.out))) (qbx (by repeat (first | (with_reducible first | exact HB.out | apply qax | apply qaq | apply qaz | refine qaj ?_ GE694.out) | exact HB.out))))
   have n2_ := Aside0.mk (qcx (g := gb694) (o := .cells #[.int .i64 a0_0, .slice A0_1 l0_1.length c0_1, .string a0_2] 80 (0, 0)) (by (with_reducible repeat (first | refine qav ?_ _ | refine qaw ?_ | refine qak ?_ _)); exact BK694.out) hb)
   have n3_ := Aside0.mk (qbj (by repeat (first | (with_reducible first | exact HB.out | apply qax | apply qaq | apply qaz | refine qaj ?_ GE694.out) | exact HB.out)) hb)
   clear HO701
   clear BK694
   clear HB
   have HO701 := n0_
   have HO704 := n1_
   have BK694 := n2_
   have HB := n3_
   clear n0_ n1_ n2_ n3_
   (try clear hb)
   (try clear hb2)
   (try clear hk)
   (try clear hi)
   (try clear ho0)
   refine hK.out _ _ ⟨(qbq BK694.out 0).trans rfl, (qbq BK694.out 1).trans rfl, (qbq BK694.out 2).trans rfl⟩ (fun hHeld => ?_)
   clear hK K
   refine qhz (a' := ?_) ?_ ?_
   rotate_left
   ·show Act.put _ (some 17) _ = _
    simp only [Act.put, List.setIfInBounds_toArray, List.set_cons_zero, List.set_cons_succ, qbv, qbw]
    rfl
   refine qcj (i := 11) (N := some 18) (v := ?_) (a' := ?_) #[true, true, true, true, true, true, true, true, true, true, true, true, false, false, false] rfl rfl (qbk HT_.out (by kernel_rfl)) (fun _ _ _ h => h) (Or.inl ⟨by rfl, ?_⟩) ?_ ?_
   rotate_left
   ·intro w'
    go_simp
    with_reducible rfl
   rotate_left
   ·simp only [Act.put, List.setIfInBounds_toArray, List.set_cons_zero, List.set_cons_succ, qbv, qbw]
    rfl
   refine qcj (i := 12) (N := some 19) (v := ?_) (a' := ?_) #[true, true, true, true, true, true, true, true, true, true, true, true, true, false, false] rfl rfl (qbk HT_.out (by kernel_rfl)) (fun _ _ _ h => h) (Or.inl ⟨by rfl, ?_⟩) ?_ ?_
   rotate_left
   ·intro w'
    go_simp
    with_reducible rfl
   rotate_left
   ·simp only [Act.put, List.setIfInBounds_toArray, List.set_cons_zero, List.set_cons_succ, qbv, qbw]
    rfl
   refine qcj (i := 13) (N := some 2) (v := ?_) (a' := ?_) #[true, true, true, true, true, true, true, true, true, true, true, true, true, true, false] rfl rfl (qbk HT_.out (by kernel_rfl)) (fun _ _ _ h => h) (Or.inl ⟨by rfl, ?_⟩) ?_ ?_
   rotate_left
   ·intro w'
    go_simp
    with_reducible rfl
   rotate_left
   ·simp only [Act.put, List.setIfInBounds_toArray, List.set_cons_zero, List.set_cons_succ, qbv, qbw]
    rfl
   refine qcj (i := 14) (N := some 3) (v := ?_) (a' := ?_) #[true, true, true, true, true, true, true, true, true, true, true, true, true, true, true] rfl rfl (qbk HT_.out (by kernel_rfl)) (fun _ _ _ h => h) (Or.inl ⟨by rfl, ?_⟩) ?_ ?_
   rotate_left
   ·intro w'
    go_simp
    with_reducible rfl
   rotate_left
   ·simp only [Act.put, List.setIfInBounds_toArray, List.set_cons_zero, List.set_cons_succ, qbv, qbw]
    rfl
   refine qlv (qiq HT_.out (by kernel_rfl)) ?_
   try go_wp2
   go_ret2
   exact ⟨_, by first | rfl | (simp [qcq, qcz] <;> rfl) | (simp [*, qcq, qcz] <;> rfl), by (with_reducible repeat (first | apply Kd.R_alloc | apply Kd.R_drewN | apply Kd.R_drew)); exact Kd.R_mono HO704.out (fun _ hk => trivial), by repeat (first | (with_reducible first | exact HB.out | apply qax | apply qaq | apply qaz | refine qaj ?_ GE694.out) | exact HB.out)⟩
  ·rw [if_neg c5] at H
   exact absurd H (by simp)
 ·replace c3 := Bool.eq_false_iff.mpr c3
  subst c3
  have H1 : (some (([] : List Int), 1)) = some (r1, r2) := by rw [if_neg (show ¬ (false = true) by decide)] at H; exact H
  clear H
  have H := H1
  clear H1
  simp only [Option.some.injEq, Prod.mk.injEq] at H
  obtain ⟨rfl, rfl⟩ := H
  go_enter Try.func56, Try.ntmps56
  go_wp2_with (first | ((with_reducible refine qcv (N := 1) rfl ?_); refine qcw ?hg (N := 1) ?hd (cs := #[.int .i64 a0_0, .slice A0_1 l0_1.length c0_1, .string a0_2]) (t := 80) ?hr ?_; (case hd => rfl); (case hg => rfl); (case hr => first | (go_simp; done) | (go_simp; rfl)); intro gb694 hg w15 hbox hb; have n0_ := Aside0.mk (qbj (by repeat (first | (with_reducible first | exact HB.out | apply qax | apply qaq | apply qaz) | exact HB.out)) hb); have n1_ := Aside0.mk (hbox); have n2_ := Aside0.mk ((by rw [hg]; exact (qbx (by repeat (first | (with_reducible first | exact HB.out | apply qax | apply qaq | apply qaz) | exact HB.out))) : w.heap.size ≤ gb694)); have n3_ := Aside0.mk ((by rw [hg]; exact (qbx (by repeat (first | (with_reducible first | exact HB.out | apply qax | apply qaq | apply qaz) | exact HB.out))) : w.heap.size ≤ gb694)); clear HB; have HB := n0_; have BK694 := n1_; have GW694 := n2_; have GE694 := n3_; clear n0_ n1_ n2_ n3_; clear hb hbox hg; have hcz16_0 : w15.cell? ⟨gb694, 0, none⟩ = some (.int .i64 a0_0) := (qbq BK694.out 0).trans rfl; have hcz16_1 : w15.cell? ⟨gb694, 1, none⟩ = some (.slice A0_1 l0_1.length c0_1) := (qbq BK694.out 1).trans rfl; have hcz16_2 : w15.cell? ⟨gb694, 2, none⟩ = some (.string a0_2) := (qbq BK694.out 2).trans rfl; have hfz16_0 := qbz BK694.out 0; have hfz16_1 := qbz BK694.out 1; have hfz16_2 := qbz BK694.out 2) | ((with_reducible refine qdq (f := 60) rfl ?_); refine qew (some 5) rfl rfl Try.func60 (by kernel_rfl) rfl #[.agg #[.int .i64 a0_0, .slice A0_1 l0_1.length c0_1, .string a0_2]] rfl (by (try simp only [List.map_toArray, List.map_cons, List.map_nil]); first | done | rfl | (simp only [List.length_drop, List.length_take]; rfl)) ?_; (with_reducible refine (record_Right.calls a0_0 _ _ l0_1 a0_2 false _ ?side1 ?side2 A2.out).mono ?_); (case side1 => repeat (first | exact (Kd.C_below HR0_1.out HB.out) | (with_reducible refine Kd.C_alloc ?_ _) | (with_reducible refine Kd.C_drewN ?_ _) | (with_reducible refine Kd.C_drew ?_))); (case side2 => exact HC0_1.out); rintro e w17 ⟨rfl, hb⟩; refine ⟨_, rfl, ?_⟩; have n0_ := Aside0.mk (qcx (g := gb694) (o := .cells #[.int .i64 a0_0, .slice A0_1 l0_1.length c0_1, .string a0_2] 80 (0, 0)) (by (with_reducible repeat (first | refine qav ?_ _ | refine qaw ?_ | refine qak ?_ _)); exact BK694.out) hb); have n1_ := Aside0.mk (qbj (by repeat (first | (with_reducible first | exact HB.out | apply qax | apply qaq | apply qaz | refine qaj ?_ GE694.out) | exact HB.out)) hb); clear BK694; clear HB; have BK694 := n0_; have HB := n1_; clear n0_ n1_; (try clear hb); (try clear hb2); (try clear hk); (try clear hi)))
  go_ret2
  exact ⟨_, by first | rfl | (simp [qcq, qcz] <;> rfl) | (simp [*, qcq, qcz] <;> rfl), by first | exact Kd.R_nil _ _ _ _ _ | exact Kd.N_nil _ _ _ _ _ | exact Kd.V_nil _ _ _ _ _ | exact Kd.Q_nil _ _ _ _ _ | exact Kd.S_nil _ _ _ _ _, by repeat (first | (with_reducible first | exact HB.out | apply qax | apply qaq | apply qaz | refine qaj ?_ GE694.out) | exact HB.out)⟩
end Go.Proofs.Ytojepleodijdeaa.B
set_option linter.unusedVariables false
set_option maxRecDepth 100000
namespace Go.Proofs.Ytojepleodijdeaa.D
open Go Go.RowKit Go.Proofs.YtojepleodijdeaaW.PrintWords Go.Proofs.YtojepleodijdeaaW.PrintLast Go.Proofs.Ytojepleodijdeaa.B
structure Cy where
 (kj g388 g389 g408 g415 co77 co78 co67 co76 c0 c1 : Nat)
 (Ao77 Ao78 Ao67 Ao76 A0 A1 : Option Addr)
 (t394 t398 t403 t410 l0 l1 : List Int)
 (t397 t401 t402 t407 t409 t414 a0 a1 : Int)
 (s0 s1 t406 t413 : ByteArray)
 (t422 t433 t439 : List S82)
 (t416 t417 t429 t442 : Bool)
structure Cy.Ok (c : Cy) (a0 : Act) (W : World) : Prop where
 b3 : a0.tmps[3]? = some (.pointer (some ⟨c.g388, 0, none⟩))
 b4 : a0.tmps[4]? = some (.pointer (some ⟨c.g389, 0, none⟩))
 b7 : a0.tmps[7]? = some (.slice c.Ao77 c.t394.length c.co77)
 b8 : a0.tmps[8]? = some (.int .i64 c.t397)
 b9 : a0.tmps[9]? = some (.slice c.Ao78 c.t398.length c.co78)
 b10 : a0.tmps[10]? = some (.int .i64 c.t401)
 b11 : a0.tmps[11]? = some (.pointer (some ⟨c.g408, 0, none⟩))
 b12 : a0.tmps[12]? = some (.int .i64 c.t407)
 b13 : a0.tmps[13]? = some (.pointer (some ⟨c.g415, 0, none⟩))
 b14 : a0.tmps[14]? = some (.int .i64 c.t414)
 g408 : W.heap[c.g408]? = some (.cells #[.int .i64 c.t402, .slice c.Ao67 c.t403.length c.co67, .string c.t406] 80)
 g415 : W.heap[c.g415]? = some (.cells #[.int .i64 c.t409, .slice c.Ao76 c.t410.length c.co76, .string c.t413] 82)
 g388 : W.heap[c.g388]? = some (.cells #[.int .i64 c.a0, .slice c.A0 c.l0.length c.c0, .string c.s0] 80)
 g389 : W.heap[c.g389]? = some (.cells #[.int .i64 c.a1, .slice c.A1 c.l1.length c.c1, .string c.s1] 80)
 vp : Kd.V (Kd.int .u8) 5 W 0 (fun _ => True) (.slice c.Ao77 c.t394.length c.co77) c.t394
 vq : Kd.V (Kd.int .u8) 5 W 0 (fun _ => True) (.slice c.Ao78 c.t398.length c.co78) c.t398
 vu : Kd.V (Kd.int .u64) 22 W 0 (fun _ => True) (.slice c.Ao67 c.t403.length c.co67) c.t403
 vv : Kd.V (Kd.int .u64) 22 W 0 (fun _ => True) (.slice c.Ao76 c.t410.length c.co76) c.t410
 vx : Kd.V (Kd.int .u64) 22 W 0 (fun _ => True) (.slice c.A0 c.l0.length c.c0) c.l0
 vy : Kd.V (Kd.int .u64) 22 W 0 (fun _ => True) (.slice c.A1 c.l1.length c.c1) c.l1
 A39 : record_Right.f c.a0 c.l0 c.s0 = some c.t416
 A40 : tumbrelref05_Right.f c.a0 c.l0 c.s0 = some c.t417
 A42 : tumbrelref01_Same.f c.kj c.t394 c.t398 = some true
 A45 : tumbrellaw05_own.f c.kj [⟨c.t402, c.t403, c.t406⟩] = some c.t422
 A46 : tumbrelref05_Same.f c.kj c.t422 [⟨c.t409, c.t410, c.t413⟩] = some true
 A49 : record_Same.f c.kj c.a0 c.l0 c.s0 c.a1 c.l1 c.s1 = some c.t429
 A50 : tumbrellaw05_own.f c.kj [⟨c.a0, c.l0, c.s0⟩] = some c.t433
 A51 : tumbrellaw05_own.f c.kj [⟨c.a1, c.l1, c.s1⟩] = some c.t439
 A52 : tumbrelref05_Same.f c.kj c.t433 c.t439 = some c.t442
 e4 : c.t416 = c.t417
 e13 : c.t397 = c.t401
 e26 : c.t407 = c.t414
 e39 : c.t429 = c.t442
def Psu (c : Cy) (i : Nat) (v : Value) (w : World) : Prop := match i with
 | 0 => v = .agg #[.int .i64 c.a0, .slice c.A0 c.l0.length c.c0, .string c.s0]
 | 1 => v = .bool c.t416
 | 2 => v = .agg #[.int .i64 c.a0, .slice c.A0 c.l0.length c.c0, .string c.s0]
 | 3 => v = .bool c.t417
 | 6 => v = .slice c.Ao77 c.t394.length c.co77
 | 7 => v = .slice c.Ao78 c.t398.length c.co78
 | 11 => v = .int .i64 c.t397
 | 12 => v = .int .i64 c.t401
 | 16 => v = .agg #[.int .i64 c.t402, .slice c.Ao67 c.t403.length c.co67, .string c.t406]
 | 17 => Kd.V k80 80 w 0 (fun _ => True) v ([⟨c.t402, c.t403, c.t406⟩] : List S80)
 | 18 => Kd.V k82 82 w 0 (fun _ => True) v c.t422
 | 19 => v = .agg #[.int .i64 c.t409, .slice c.Ao76 c.t410.length c.co76, .string c.t413]
 | 20 => Kd.V k82 82 w 0 (fun _ => True) v ([⟨c.t409, c.t410, c.t413⟩] : List S82)
 | 24 => v = .int .i64 c.t407
 | 25 => v = .int .i64 c.t414
 | 29 => v = .agg #[.int .i64 c.a0, .slice c.A0 c.l0.length c.c0, .string c.s0]
 | 30 => v = .agg #[.int .i64 c.a1, .slice c.A1 c.l1.length c.c1, .string c.s1]
 | 31 => v = .bool c.t429
 | 32 => v = .agg #[.int .i64 c.a0, .slice c.A0 c.l0.length c.c0, .string c.s0]
 | 33 => Kd.V k80 80 w 0 (fun _ => True) v ([⟨c.a0, c.l0, c.s0⟩] : List S80)
 | 34 => Kd.V k82 82 w 0 (fun _ => True) v c.t433
 | 35 => v = .agg #[.int .i64 c.a1, .slice c.A1 c.l1.length c.c1, .string c.s1]
 | 36 => Kd.V k80 80 w 0 (fun _ => True) v ([⟨c.a1, c.l1, c.s1⟩] : List S80)
 | 37 => Kd.V k82 82 w 0 (fun _ => True) v c.t439
 | 38 => v = .bool c.t442
 | _ => v = .bool true
def dsu (i : Nat) : Nat := if i = 41 then 6 else 49 + i
theorem qlx {t : Nat} (h : t < 49) (h6 : t ≠ 6) : ∀ n i, i < n → dsu i ≠ t := fun n i _ => by unfold dsu; split <;> omega
theorem eql_y {P : Program} {o : Oper} {a : Act} {w : World} {ty : TypeId} {x y : Operand} {m n : Int} (hop : o.op = .binOp .eql ty x y ty) (hx : a.eval x = .int .i64 m) (hy : a.eval y = .int .i64 n) (he : m = n) : (execOp a.eval o).run P w = .ok (.value (.bool true)) w := by
 subst he
 unfold execOp
 rw [hop]
 simp only [hx, hy]
 go_simp
theorem eqlb_y {o : Oper} {a : Act} {w : World} {x y : Operand} {m n : Bool} (hop : o.op = .binOp .eql 4 x y 4) (hx : a.eval x = .bool m) (hy : a.eval y = .bool n) (he : m = n) : (execOp a.eval o).run Try.prog w = .ok (.value (.bool true)) w := by
 subst he
 unfold execOp
 rw [hop]
 simp only [hx, hy]
 cases m <;> go_simp
theorem qjw {P : Program} {o : Oper} {a : Act} {w : World} {ty : TypeId} {x : Operand} {p v : Value} (hop : o.op = .load ty x) (hx : a.eval x = p) (h : (Instr.loadAt ty p).run P w = .ok v w) : (execOp a.eval o).run P w = .ok (.value v) w := by
 subst hx
 unfold execOp
 rw [hop]
 simp only []
 rw [Sem.run_bind, h]
 rfl
theorem qwz {P : Program} {o : Oper} {a : Act} {w w' : World} {ty : TypeId} {x : Operand} {u v : Value} (hop : o.op = .buildSlice ty 1 #[(0, x)]) (hx : a.eval x = v) (h : (Instr.buildSlice ty 1 #[(0, v)]).run P w = .ok u w') : (execOp a.eval o).run P w = .ok (.value u) w' := by
 subst hx
 unfold execOp
 rw [hop]
 simp only [List.map_toArray, List.map_cons, List.map_nil]
 rw [Sem.run_bind, h]
 rfl
section
variable {Q : Exit → Act → World → Prop} {c : Cy} {a0 : Act} {W : World}
theorem lod0 (h : c.Ok a0 W) : Loc Try.prog .any (qdv Try.f16 9) Q dsu a0 W (Psu c) 0 := by
 intro o a w ho hb hk hn
 have e := Option.some.inj (ho.symm.trans (rfl : (qdv Try.f16 9)[0]? = some _))
 have hop : o.op = Op.load 80 (Operand.tmp 3) := by subst e; rfl
 have hd : o.dst = some (dsu 0) := by subst e; rfl
 have hgd : o.guard = none := by subst e; rfl
 have h_3 := (hk 3 (qlx (by decide) (by decide) _)).trans h.b3
 have hx := ev h_3
 have hu := Try.underlying80
 have hg := (hb.block _ (qez h.g388)).trans h.g388
 have s0 := (qbq hg 0).trans rfl
 have s1 := (qbq hg 1).trans rfl
 have s2 := (qbq hg 2).trans rfl
 refine ⟨(qfq hgd), qgw (v := .agg #[.int .i64 c.a0, .slice c.A0 c.l0.length c.c0, .string c.s0]) hd (qjw hop hx ?_) ⟨_, rfl, Below.refl _ _, rfl⟩⟩
 clear hn hk ho e hop
 go_simp
 try with_reducible rfl
theorem lod1 (h : c.Ok a0 W) : Loc Try.prog .any (qdv Try.f16 9) Q dsu a0 W (Psu c) 1 := by
 intro o a w ho hb hk hn
 have e := Option.some.inj (ho.symm.trans (rfl : (qdv Try.f16 9)[1]? = some _))
 have hop : o.op = Op.call { callee := Callee.value (Operand.func 60), args := #[Operand.tmp 49], argTypes := #[80] } := by subst e; rfl
 have hd : o.dst = some (dsu 1) := by subst e; rfl
 have hgd : o.guard = none := by subst e; rfl
 obtain ⟨v0, h0, p0⟩ := hn 0 (by subst e; decide)
 obtain rfl : v0 = .agg #[.int .i64 c.a0, .slice c.A0 c.l0.length c.c0, .string c.s0] := p0
 have hw : Region.wanted o (yielded (qdv Try.f16 9) a.tmps) = true := (qfq hgd)
 have hs := qhx (P := Try.prog) (Q := Q) (a := a) (w := w) (K := fun a' w' => ∃ v, a' = a.put (some (dsu 1)) v ∧ Below w.heap.size w w' ∧ Psu c 1 v w') Try.func60 (by kernel_rfl) rfl (#[.agg #[.int .i64 c.a0, .slice c.A0 c.l0.length c.c0, .string c.s0]] : Array Value) hw hd hop ?ha ?hc
 ·rw [if_pos hw] at hs
  exact ⟨hw, hs⟩
 case ha =>
  have q0 : a.eval (.tmp 49) = _ := ev h0
  simp only [List.map_toArray, List.map_cons, List.map_nil, q0]
 case hc =>
  refine (record_Right.calls _ _ _ _ _ _ _ (Kd.V_reads' (Kd.V_below h.vx hb)).2.2 (Kd.V_reads' (Kd.V_below h.vx hb)).2.1 h.A39).mono ?_
  rintro e w' ⟨rfl, hd⟩
  exact ⟨_, rfl, _, rfl, hd, rfl⟩
theorem lod2 (h : c.Ok a0 W) : Loc Try.prog .any (qdv Try.f16 9) Q dsu a0 W (Psu c) 2 := by
 intro o a w ho hb hk hn
 have e := Option.some.inj (ho.symm.trans (rfl : (qdv Try.f16 9)[2]? = some _))
 have hop : o.op = Op.load 80 (Operand.tmp 3) := by subst e; rfl
 have hd : o.dst = some (dsu 2) := by subst e; rfl
 have hgd : o.guard = none := by subst e; rfl
 have h_3 := (hk 3 (qlx (by decide) (by decide) _)).trans h.b3
 have hx := ev h_3
 have hu := Try.underlying80
 have hg := (hb.block _ (qez h.g388)).trans h.g388
 have s0 := (qbq hg 0).trans rfl
 have s1 := (qbq hg 1).trans rfl
 have s2 := (qbq hg 2).trans rfl
 refine ⟨(qfq hgd), qgw (v := .agg #[.int .i64 c.a0, .slice c.A0 c.l0.length c.c0, .string c.s0]) hd (qjw hop hx ?_) ⟨_, rfl, Below.refl _ _, rfl⟩⟩
 clear hn hk ho e hop
 go_simp
 try with_reducible rfl
theorem lod3 (h : c.Ok a0 W) : Loc Try.prog .any (qdv Try.f16 9) Q dsu a0 W (Psu c) 3 := by
 intro o a w ho hb hk hn
 have e := Option.some.inj (ho.symm.trans (rfl : (qdv Try.f16 9)[3]? = some _))
 have hop : o.op = Op.call { callee := Callee.value (Operand.func 61), args := #[Operand.tmp 51], argTypes := #[82] } := by subst e; rfl
 have hd : o.dst = some (dsu 3) := by subst e; rfl
 have hgd : o.guard = none := by subst e; rfl
 obtain ⟨v2, h2, p2⟩ := hn 2 (by subst e; decide)
 obtain rfl : v2 = .agg #[.int .i64 c.a0, .slice c.A0 c.l0.length c.c0, .string c.s0] := p2
 have hw : Region.wanted o (yielded (qdv Try.f16 9) a.tmps) = true := (qfq hgd)
 have hs := qhx (P := Try.prog) (Q := Q) (a := a) (w := w) (K := fun a' w' => ∃ v, a' = a.put (some (dsu 3)) v ∧ Below w.heap.size w w' ∧ Psu c 3 v w') Try.func61 (by kernel_rfl) rfl (#[.agg #[.int .i64 c.a0, .slice c.A0 c.l0.length c.c0, .string c.s0]] : Array Value) hw hd hop ?ha ?hc
 ·rw [if_pos hw] at hs
  exact ⟨hw, hs⟩
 case ha =>
  have q2 : a.eval (.tmp 51) = _ := ev h2
  simp only [List.map_toArray, List.map_cons, List.map_nil, q2]
 case hc =>
  refine (tumbrelref05_Right.calls _ _ _ _ _ _ _ (Kd.V_reads' (Kd.V_below h.vx hb)).2.2 (Kd.V_reads' (Kd.V_below h.vx hb)).2.1 h.A40).mono ?_
  rintro e w' ⟨rfl, hd⟩
  exact ⟨_, rfl, _, rfl, hd, rfl⟩
theorem lod4 (h : c.Ok a0 W) : Loc Try.prog .any (qdv Try.f16 9) Q dsu a0 W (Psu c) 4 := by
 intro o a w ho hb hk hn
 have e := Option.some.inj (ho.symm.trans (rfl : (qdv Try.f16 9)[4]? = some _))
 have hop : o.op = Op.binOp BinOp.eql 4 (Operand.tmp 50) (Operand.tmp 52) 4 := by subst e; rfl
 have hd : o.dst = some (dsu 4) := by subst e; rfl
 have hgd : o.guard = none := by subst e; rfl
 obtain ⟨v1, h1, p1⟩ := hn 1 (by subst e; decide)
 obtain rfl : v1 = .bool c.t416 := p1
 obtain ⟨v3, h3, p3⟩ := hn 3 (by subst e; decide)
 obtain rfl : v3 = .bool c.t417 := p3
 exact ⟨(qfq hgd), qgw hd (eqlb_y hop (ev h1) (ev h3) h.e4) ⟨_, rfl, Below.refl _ _, rfl⟩⟩
theorem lod5 (h : c.Ok a0 W) : Loc Try.prog .any (qdv Try.f16 9) Q dsu a0 W (Psu c) 5 := by
 intro o a w ho hb hk hn
 have e := Option.some.inj (ho.symm.trans (rfl : (qdv Try.f16 9)[5]? = some _))
 have hop : o.op = Op.move (Operand.tmp 53) := by subst e; rfl
 have hd : o.dst = some (dsu 5) := by subst e; rfl
 have hgd : o.guard = none := by subst e; rfl
 obtain ⟨v4, h4, p4⟩ := hn 4 (by subst e; decide)
 obtain rfl : v4 = .bool true := p4
 exact ⟨(qfq hgd), qgw hd (qrx hop (ev h4)) ⟨_, rfl, Below.refl _ _, rfl⟩⟩
theorem lod6 (h : c.Ok a0 W) : Loc Try.prog .any (qdv Try.f16 9) Q dsu a0 W (Psu c) 6 := by
 intro o a w ho hb hk hn
 have e := Option.some.inj (ho.symm.trans (rfl : (qdv Try.f16 9)[6]? = some _))
 have hop : o.op = Op.move (Operand.tmp 7) := by subst e; rfl
 have hd : o.dst = some (dsu 6) := by subst e; rfl
 have hgd : o.guard = some (5, true) := by subst e; rfl
 obtain ⟨v5, h5, p5⟩ := hn 5 (by subst e; decide)
 obtain rfl : v5 = .bool true := p5
 have h_7 := (hk 7 (qlx (by decide) (by decide) _)).trans h.b7
 exact ⟨(qdw hgd rfl rfl h5), qgw hd (qrx hop (ev h_7)) ⟨_, rfl, Below.refl _ _, rfl⟩⟩
theorem lod7 (h : c.Ok a0 W) : Loc Try.prog .any (qdv Try.f16 9) Q dsu a0 W (Psu c) 7 := by
 intro o a w ho hb hk hn
 have e := Option.some.inj (ho.symm.trans (rfl : (qdv Try.f16 9)[7]? = some _))
 have hop : o.op = Op.move (Operand.tmp 9) := by subst e; rfl
 have hd : o.dst = some (dsu 7) := by subst e; rfl
 have hgd : o.guard = some (5, true) := by subst e; rfl
 obtain ⟨v5, h5, p5⟩ := hn 5 (by subst e; decide)
 obtain rfl : v5 = .bool true := p5
 have h_9 := (hk 9 (qlx (by decide) (by decide) _)).trans h.b9
 exact ⟨(qdw hgd rfl rfl h5), qgw hd (qrx hop (ev h_9)) ⟨_, rfl, Below.refl _ _, rfl⟩⟩
theorem lod8 (h : c.Ok a0 W) : Loc Try.prog .any (qdv Try.f16 9) Q dsu a0 W (Psu c) 8 := by
 intro o a w ho hb hk hn
 have e := Option.some.inj (ho.symm.trans (rfl : (qdv Try.f16 9)[8]? = some _))
 have hop : o.op = Op.call { callee := Callee.value (Operand.func 27), args := #[Operand.tmp 55, Operand.tmp 56], argTypes := #[23, 23] } := by subst e; rfl
 have hd : o.dst = some (dsu 8) := by subst e; rfl
 have hgd : o.guard = some (5, true) := by subst e; rfl
 obtain ⟨v5, h5, p5⟩ := hn 5 (by subst e; decide)
 obtain rfl : v5 = .bool true := p5
 obtain ⟨v6, h6, p6⟩ := hn 6 (by subst e; decide)
 obtain rfl : v6 = .slice c.Ao77 c.t394.length c.co77 := p6
 obtain ⟨v7, h7, p7⟩ := hn 7 (by subst e; decide)
 obtain rfl : v7 = .slice c.Ao78 c.t398.length c.co78 := p7
 have hw : Region.wanted o (yielded (qdv Try.f16 9) a.tmps) = true := (qdw hgd rfl rfl h5)
 have hs := qhx (P := Try.prog) (Q := Q) (a := a) (w := w) (K := fun a' w' => ∃ v, a' = a.put (some (dsu 8)) v ∧ Below w.heap.size w w' ∧ Psu c 8 v w') Try.func27 (by kernel_rfl) rfl (#[.slice c.Ao77 c.t394.length c.co77, .slice c.Ao78 c.t398.length c.co78] : Array Value) hw hd hop ?ha ?hc
 ·rw [if_pos hw] at hs
  exact ⟨hw, hs⟩
 case ha =>
  have q6 : a.eval (.tmp 55) = _ := ev h6
  have q7 : a.eval (.tmp 56) = _ := ev h7
  simp only [List.map_toArray, List.map_cons, List.map_nil, q6, q7]
 case hc =>
  refine (tumbrelref01_Same.calls c.kj _ _ _ _ _ _ _ _ (Kd.V_reads' (Kd.V_below h.vp hb)).2.2 (Kd.V_reads' (Kd.V_below h.vp hb)).2.1 (Kd.V_reads' (Kd.V_below h.vq hb)).2.2 (Kd.V_reads' (Kd.V_below h.vq hb)).2.1 h.A42).mono ?_
  rintro e w' ⟨rfl, hd⟩
  exact ⟨_, rfl, _, rfl, hd.below, rfl⟩
theorem lod9 (h : c.Ok a0 W) : Loc Try.prog .any (qdv Try.f16 9) Q dsu a0 W (Psu c) 9 := by
 intro o a w ho hb hk hn
 have e := Option.some.inj (ho.symm.trans (rfl : (qdv Try.f16 9)[9]? = some _))
 have hop : o.op = Op.pick (Operand.tmp 54) (Operand.tmp 57) (Operand.const (Value.bool false)) := by subst e; rfl
 have hd : o.dst = some (dsu 9) := by subst e; rfl
 have hgd : o.guard = none := by subst e; rfl
 obtain ⟨v5, h5, p5⟩ := hn 5 (by subst e; decide)
 obtain rfl : v5 = .bool true := p5
 obtain ⟨v8, h8, p8⟩ := hn 8 (by subst e; decide)
 obtain rfl : v8 = .bool true := p8
 exact ⟨(qfq hgd), qgw hd (zjw hop (ev h5) (ev h8)) ⟨_, rfl, Below.refl _ _, rfl⟩⟩
theorem lod10 (h : c.Ok a0 W) : Loc Try.prog .any (qdv Try.f16 9) Q dsu a0 W (Psu c) 10 := by
 intro o a w ho hb hk hn
 have e := Option.some.inj (ho.symm.trans (rfl : (qdv Try.f16 9)[10]? = some _))
 have hop : o.op = Op.move (Operand.tmp 58) := by subst e; rfl
 have hd : o.dst = some (dsu 10) := by subst e; rfl
 have hgd : o.guard = none := by subst e; rfl
 obtain ⟨v9, h9, p9⟩ := hn 9 (by subst e; decide)
 obtain rfl : v9 = .bool true := p9
 exact ⟨(qfq hgd), qgw hd (qrx hop (ev h9)) ⟨_, rfl, Below.refl _ _, rfl⟩⟩
theorem lod11 (h : c.Ok a0 W) : Loc Try.prog .any (qdv Try.f16 9) Q dsu a0 W (Psu c) 11 := by
 intro o a w ho hb hk hn
 have e := Option.some.inj (ho.symm.trans (rfl : (qdv Try.f16 9)[11]? = some _))
 have hop : o.op = Op.move (Operand.tmp 8) := by subst e; rfl
 have hd : o.dst = some (dsu 11) := by subst e; rfl
 have hgd : o.guard = some (10, true) := by subst e; rfl
 obtain ⟨v10, h10, p10⟩ := hn 10 (by subst e; decide)
 obtain rfl : v10 = .bool true := p10
 have h_8 := (hk 8 (qlx (by decide) (by decide) _)).trans h.b8
 exact ⟨(qdw hgd rfl rfl h10), qgw hd (qrx hop (ev h_8)) ⟨_, rfl, Below.refl _ _, rfl⟩⟩
theorem lod12 (h : c.Ok a0 W) : Loc Try.prog .any (qdv Try.f16 9) Q dsu a0 W (Psu c) 12 := by
 intro o a w ho hb hk hn
 have e := Option.some.inj (ho.symm.trans (rfl : (qdv Try.f16 9)[12]? = some _))
 have hop : o.op = Op.move (Operand.tmp 10) := by subst e; rfl
 have hd : o.dst = some (dsu 12) := by subst e; rfl
 have hgd : o.guard = some (10, true) := by subst e; rfl
 obtain ⟨v10, h10, p10⟩ := hn 10 (by subst e; decide)
 obtain rfl : v10 = .bool true := p10
 have h_10 := (hk 10 (qlx (by decide) (by decide) _)).trans h.b10
 exact ⟨(qdw hgd rfl rfl h10), qgw hd (qrx hop (ev h_10)) ⟨_, rfl, Below.refl _ _, rfl⟩⟩
theorem lod13 (h : c.Ok a0 W) : Loc Try.prog .any (qdv Try.f16 9) Q dsu a0 W (Psu c) 13 := by
 intro o a w ho hb hk hn
 have e := Option.some.inj (ho.symm.trans (rfl : (qdv Try.f16 9)[13]? = some _))
 have hop : o.op = Op.binOp BinOp.eql 26 (Operand.tmp 60) (Operand.tmp 61) 26 := by subst e; rfl
 have hd : o.dst = some (dsu 13) := by subst e; rfl
 have hgd : o.guard = some (10, true) := by subst e; rfl
 obtain ⟨v10, h10, p10⟩ := hn 10 (by subst e; decide)
 obtain rfl : v10 = .bool true := p10
 obtain ⟨v11, h11, p11⟩ := hn 11 (by subst e; decide)
 obtain rfl : v11 = .int .i64 c.t397 := p11
 obtain ⟨v12, h12, p12⟩ := hn 12 (by subst e; decide)
 obtain rfl : v12 = .int .i64 c.t401 := p12
 exact ⟨(qdw hgd rfl rfl h10), qgw hd (eql_y hop (ev h11) (ev h12) h.e13) ⟨_, rfl, Below.refl _ _, rfl⟩⟩
theorem lod14 (h : c.Ok a0 W) : Loc Try.prog .any (qdv Try.f16 9) Q dsu a0 W (Psu c) 14 := by
 intro o a w ho hb hk hn
 have e := Option.some.inj (ho.symm.trans (rfl : (qdv Try.f16 9)[14]? = some _))
 have hop : o.op = Op.pick (Operand.tmp 59) (Operand.tmp 62) (Operand.const (Value.bool false)) := by subst e; rfl
 have hd : o.dst = some (dsu 14) := by subst e; rfl
 have hgd : o.guard = none := by subst e; rfl
 obtain ⟨v10, h10, p10⟩ := hn 10 (by subst e; decide)
 obtain rfl : v10 = .bool true := p10
 obtain ⟨v13, h13, p13⟩ := hn 13 (by subst e; decide)
 obtain rfl : v13 = .bool true := p13
 exact ⟨(qfq hgd), qgw hd (zjw hop (ev h10) (ev h13)) ⟨_, rfl, Below.refl _ _, rfl⟩⟩
theorem lod15 (h : c.Ok a0 W) : Loc Try.prog .any (qdv Try.f16 9) Q dsu a0 W (Psu c) 15 := by
 intro o a w ho hb hk hn
 have e := Option.some.inj (ho.symm.trans (rfl : (qdv Try.f16 9)[15]? = some _))
 have hop : o.op = Op.move (Operand.tmp 63) := by subst e; rfl
 have hd : o.dst = some (dsu 15) := by subst e; rfl
 have hgd : o.guard = none := by subst e; rfl
 obtain ⟨v14, h14, p14⟩ := hn 14 (by subst e; decide)
 obtain rfl : v14 = .bool true := p14
 exact ⟨(qfq hgd), qgw hd (qrx hop (ev h14)) ⟨_, rfl, Below.refl _ _, rfl⟩⟩
theorem lod16 (h : c.Ok a0 W) : Loc Try.prog .any (qdv Try.f16 9) Q dsu a0 W (Psu c) 16 := by
 intro o a w ho hb hk hn
 have e := Option.some.inj (ho.symm.trans (rfl : (qdv Try.f16 9)[16]? = some _))
 have hop : o.op = Op.load 80 (Operand.tmp 11) := by subst e; rfl
 have hd : o.dst = some (dsu 16) := by subst e; rfl
 have hgd : o.guard = some (15, true) := by subst e; rfl
 obtain ⟨v15, h15, p15⟩ := hn 15 (by subst e; decide)
 obtain rfl : v15 = .bool true := p15
 have h_11 := (hk 11 (qlx (by decide) (by decide) _)).trans h.b11
 have hx := ev h_11
 have hu := Try.underlying80
 have hg := (hb.block _ (qez h.g408)).trans h.g408
 have s0 := (qbq hg 0).trans rfl
 have s1 := (qbq hg 1).trans rfl
 have s2 := (qbq hg 2).trans rfl
 refine ⟨(qdw hgd rfl rfl h15), qgw (v := .agg #[.int .i64 c.t402, .slice c.Ao67 c.t403.length c.co67, .string c.t406]) hd (qjw hop hx ?_) ⟨_, rfl, Below.refl _ _, rfl⟩⟩
 clear hn hk ho e hop
 go_simp
 try with_reducible rfl
theorem lod17 (h : c.Ok a0 W) : Loc Try.prog .any (qdv Try.f16 9) Q dsu a0 W (Psu c) 17 := by
 intro o a w ho hb hk hn
 have e := Option.some.inj (ho.symm.trans (rfl : (qdv Try.f16 9)[17]? = some _))
 have hop : o.op = Op.buildSlice 95 1 #[(0, Operand.tmp 65)] := by subst e; rfl
 have hd : o.dst = some (dsu 17) := by subst e; rfl
 have hgd : o.guard = some (15, true) := by subst e; rfl
 obtain ⟨v15, h15, p15⟩ := hn 15 (by subst e; decide)
 obtain rfl : v15 = .bool true := p15
 obtain ⟨v16, h16, p16⟩ := hn 16 (by subst e; decide)
 obtain rfl : v16 = .agg #[.int .i64 c.t402, .slice c.Ao67 c.t403.length c.co67, .string c.t406] := p16
 have hx := ev h16
 have hv := Kd.V_below h.vu hb
 have hu := Try.underlying95
 have hw : Region.wanted o (yielded (qdv Try.f16 9) a.tmps) = true := (qdw hgd rfl rfl h15)
 have hs := Kd.N_lit_step (P := Try.prog) (Q := Q) (Kc := fun a' w' => ∃ v, a' = a.put (some (dsu 17)) v ∧ Below w.heap.size w w' ∧ Psu c 17 v w') k80 (a := a) w.heap.size 80 hw (N' := dsu 17) hd (w0 := w) (W := w) (xs := ([⟨c.t402, c.t403, c.t406⟩] : List S80)) (inner := [.int .i64 c.t402, .slice c.Ao67 c.t403.length c.co67, .string c.t406]) (ok := fun _ => True) (okp := fun _ => True) ?hr ?hp (fun _ _ => trivial) trivial (Below.refl _ _) (Nat.le_refl _) (by simp) ?hk
 ·rw [if_pos hw] at hs
  exact ⟨hw, hs⟩
 case hr =>
  refine qwz hop hx ?_
  clear hn hk ho e hop
  first | (go_simp; done) | (go_simp; rfl)
 case hp => exact Reps.c3 (show Kd.FK k80 _ _ _ [.int .i64 c.t402, .slice c.Ao67 c.t403.length c.co67, .string c.t406] from zbj _ _ _ (Kd.V_reads' hv).2.1 (Kd.V_F hv)) (Reps.none _ _)
 case hk => exact fun v1 w1 hN hb1 _ _ => ⟨v1, by rw [hd], hb1, Kd.N_V (base' := 0) hN⟩
theorem lod18 (h : c.Ok a0 W) : Loc Try.prog .any (qdv Try.f16 9) Q dsu a0 W (Psu c) 18 := by
 intro o a w ho hb hk hn
 have e := Option.some.inj (ho.symm.trans (rfl : (qdv Try.f16 9)[18]? = some _))
 have hop : o.op = Op.call { callee := Callee.value (Operand.func 63), args := #[Operand.tmp 66], argTypes := #[95] } := by subst e; rfl
 have hd : o.dst = some (dsu 18) := by subst e; rfl
 have hgd : o.guard = some (15, true) := by subst e; rfl
 obtain ⟨v15, h15, p15⟩ := hn 15 (by subst e; decide)
 obtain rfl : v15 = .bool true := p15
 obtain ⟨v17, h17, p17⟩ := hn 17 (by subst e; decide)
 replace p17 : Kd.V k80 80 w 0 (fun _ => True) v17 ([⟨c.t402, c.t403, c.t406⟩] : List S80) := p17
 have hw : Region.wanted o (yielded (qdv Try.f16 9) a.tmps) = true := (qdw hgd rfl rfl h15)
 obtain ⟨A_17, c_17, rfl⟩ := Kd.V_slice p17
 have hs := qhx (P := Try.prog) (Q := Q) (a := a) (w := w) (K := fun a' w' => ∃ v, a' = a.put (some (dsu 18)) v ∧ Below w.heap.size w w' ∧ Psu c 18 v w') Try.func63 (by kernel_rfl) rfl (#[.slice A_17 (([⟨c.t402, c.t403, c.t406⟩] : List S80)).length c_17] : Array Value) hw hd hop ?ha ?hc
 ·rw [if_pos hw] at hs
  exact ⟨hw, hs⟩
 case ha =>
  have q17 : a.eval (.tmp 66) = _ := ev h17
  simp only [List.map_toArray, List.map_cons, List.map_nil, q17]
 case hc =>
  refine (tumbrellaw05_own.calls c.kj (fun _ => True) _ _ _ _ _ p17 h.A45).mono ?_
  rintro e w' ⟨v0, rfl, hN, hd⟩
  exact ⟨_, rfl, _, rfl, hd, Kd.V_mono (Kd.N_V (base' := 0) hN) (fun _ _ => trivial)⟩
theorem lod19 (h : c.Ok a0 W) : Loc Try.prog .any (qdv Try.f16 9) Q dsu a0 W (Psu c) 19 := by
 intro o a w ho hb hk hn
 have e := Option.some.inj (ho.symm.trans (rfl : (qdv Try.f16 9)[19]? = some _))
 have hop : o.op = Op.load 82 (Operand.tmp 13) := by subst e; rfl
 have hd : o.dst = some (dsu 19) := by subst e; rfl
 have hgd : o.guard = some (15, true) := by subst e; rfl
 obtain ⟨v15, h15, p15⟩ := hn 15 (by subst e; decide)
 obtain rfl : v15 = .bool true := p15
 have h_13 := (hk 13 (qlx (by decide) (by decide) _)).trans h.b13
 have hx := ev h_13
 have hu := Try.underlying82
 have hg := (hb.block _ (qez h.g415)).trans h.g415
 have s0 := (qbq hg 0).trans rfl
 have s1 := (qbq hg 1).trans rfl
 have s2 := (qbq hg 2).trans rfl
 refine ⟨(qdw hgd rfl rfl h15), qgw (v := .agg #[.int .i64 c.t409, .slice c.Ao76 c.t410.length c.co76, .string c.t413]) hd (qjw hop hx ?_) ⟨_, rfl, Below.refl _ _, rfl⟩⟩
 clear hn hk ho e hop
 go_simp
 try with_reducible rfl
theorem lod20 (h : c.Ok a0 W) : Loc Try.prog .any (qdv Try.f16 9) Q dsu a0 W (Psu c) 20 := by
 intro o a w ho hb hk hn
 have e := Option.some.inj (ho.symm.trans (rfl : (qdv Try.f16 9)[20]? = some _))
 have hop : o.op = Op.buildSlice 91 1 #[(0, Operand.tmp 68)] := by subst e; rfl
 have hd : o.dst = some (dsu 20) := by subst e; rfl
 have hgd : o.guard = some (15, true) := by subst e; rfl
 obtain ⟨v15, h15, p15⟩ := hn 15 (by subst e; decide)
 obtain rfl : v15 = .bool true := p15
 obtain ⟨v19, h19, p19⟩ := hn 19 (by subst e; decide)
 obtain rfl : v19 = .agg #[.int .i64 c.t409, .slice c.Ao76 c.t410.length c.co76, .string c.t413] := p19
 have hx := ev h19
 have hv := Kd.V_below h.vv hb
 have hu := Try.underlying91
 have hw : Region.wanted o (yielded (qdv Try.f16 9) a.tmps) = true := (qdw hgd rfl rfl h15)
 have hs := Kd.N_lit_step (P := Try.prog) (Q := Q) (Kc := fun a' w' => ∃ v, a' = a.put (some (dsu 20)) v ∧ Below w.heap.size w w' ∧ Psu c 20 v w') k82 (a := a) w.heap.size 82 hw (N' := dsu 20) hd (w0 := w) (W := w) (xs := ([⟨c.t409, c.t410, c.t413⟩] : List S82)) (inner := [.int .i64 c.t409, .slice c.Ao76 c.t410.length c.co76, .string c.t413]) (ok := fun _ => True) (okp := fun _ => True) ?hr ?hp (fun _ _ => trivial) trivial (Below.refl _ _) (Nat.le_refl _) (by simp) ?hk
 ·rw [if_pos hw] at hs
  exact ⟨hw, hs⟩
 case hr =>
  refine qwz hop hx ?_
  clear hn hk ho e hop
  first | (go_simp; done) | (go_simp; rfl)
 case hp => exact Reps.c3 (show Kd.FK k82 _ _ _ [.int .i64 c.t409, .slice c.Ao76 c.t410.length c.co76, .string c.t413] from zkx _ _ _ (Kd.V_reads' hv).2.1 (Kd.V_F hv)) (Reps.none _ _)
 case hk => exact fun v1 w1 hN hb1 _ _ => ⟨v1, by rw [hd], hb1, Kd.N_V (base' := 0) hN⟩
theorem lod21 (h : c.Ok a0 W) : Loc Try.prog .any (qdv Try.f16 9) Q dsu a0 W (Psu c) 21 := by
 intro o a w ho hb hk hn
 have e := Option.some.inj (ho.symm.trans (rfl : (qdv Try.f16 9)[21]? = some _))
 have hop : o.op = Op.call { callee := Callee.value (Operand.func 62), args := #[Operand.tmp 67, Operand.tmp 69], argTypes := #[91, 91] } := by subst e; rfl
 have hd : o.dst = some (dsu 21) := by subst e; rfl
 have hgd : o.guard = some (15, true) := by subst e; rfl
 obtain ⟨v15, h15, p15⟩ := hn 15 (by subst e; decide)
 obtain rfl : v15 = .bool true := p15
 obtain ⟨v18, h18, p18⟩ := hn 18 (by subst e; decide)
 replace p18 : Kd.V k82 82 w 0 (fun _ => True) v18 c.t422 := p18
 obtain ⟨v20, h20, p20⟩ := hn 20 (by subst e; decide)
 replace p20 : Kd.V k82 82 w 0 (fun _ => True) v20 ([⟨c.t409, c.t410, c.t413⟩] : List S82) := p20
 have hw : Region.wanted o (yielded (qdv Try.f16 9) a.tmps) = true := (qdw hgd rfl rfl h15)
 obtain ⟨A_18, c_18, rfl⟩ := Kd.V_slice p18
 obtain ⟨A_20, c_20, rfl⟩ := Kd.V_slice p20
 have hs := qhx (P := Try.prog) (Q := Q) (a := a) (w := w) (K := fun a' w' => ∃ v, a' = a.put (some (dsu 21)) v ∧ Below w.heap.size w w' ∧ Psu c 21 v w') Try.func62 (by kernel_rfl) rfl (#[.slice A_18 (c.t422).length c_18, .slice A_20 (([⟨c.t409, c.t410, c.t413⟩] : List S82)).length c_20] : Array Value) hw hd hop ?ha ?hc
 ·rw [if_pos hw] at hs
  exact ⟨hw, hs⟩
 case ha =>
  have q18 : a.eval (.tmp 67) = _ := ev h18
  have q20 : a.eval (.tmp 69) = _ := ev h20
  simp only [List.map_toArray, List.map_cons, List.map_nil, q18, q20]
 case hc =>
  refine (tumbrelref05_Same.calls c.kj _ _ _ _ _ _ _ _ (Kd.V_reads' p18).2.2 (Kd.V_reads' p18).2.1 (Kd.V_reads' p20).2.2 (Kd.V_reads' p20).2.1 h.A46).mono ?_
  rintro e w' ⟨rfl, hd⟩
  exact ⟨_, rfl, _, rfl, hd, rfl⟩
theorem lod22 (h : c.Ok a0 W) : Loc Try.prog .any (qdv Try.f16 9) Q dsu a0 W (Psu c) 22 := by
 intro o a w ho hb hk hn
 have e := Option.some.inj (ho.symm.trans (rfl : (qdv Try.f16 9)[22]? = some _))
 have hop : o.op = Op.pick (Operand.tmp 64) (Operand.tmp 70) (Operand.const (Value.bool false)) := by subst e; rfl
 have hd : o.dst = some (dsu 22) := by subst e; rfl
 have hgd : o.guard = none := by subst e; rfl
 obtain ⟨v15, h15, p15⟩ := hn 15 (by subst e; decide)
 obtain rfl : v15 = .bool true := p15
 obtain ⟨v21, h21, p21⟩ := hn 21 (by subst e; decide)
 obtain rfl : v21 = .bool true := p21
 exact ⟨(qfq hgd), qgw hd (zjw hop (ev h15) (ev h21)) ⟨_, rfl, Below.refl _ _, rfl⟩⟩
theorem lod23 (h : c.Ok a0 W) : Loc Try.prog .any (qdv Try.f16 9) Q dsu a0 W (Psu c) 23 := by
 intro o a w ho hb hk hn
 have e := Option.some.inj (ho.symm.trans (rfl : (qdv Try.f16 9)[23]? = some _))
 have hop : o.op = Op.move (Operand.tmp 71) := by subst e; rfl
 have hd : o.dst = some (dsu 23) := by subst e; rfl
 have hgd : o.guard = none := by subst e; rfl
 obtain ⟨v22, h22, p22⟩ := hn 22 (by subst e; decide)
 obtain rfl : v22 = .bool true := p22
 exact ⟨(qfq hgd), qgw hd (qrx hop (ev h22)) ⟨_, rfl, Below.refl _ _, rfl⟩⟩
theorem lod24 (h : c.Ok a0 W) : Loc Try.prog .any (qdv Try.f16 9) Q dsu a0 W (Psu c) 24 := by
 intro o a w ho hb hk hn
 have e := Option.some.inj (ho.symm.trans (rfl : (qdv Try.f16 9)[24]? = some _))
 have hop : o.op = Op.move (Operand.tmp 12) := by subst e; rfl
 have hd : o.dst = some (dsu 24) := by subst e; rfl
 have hgd : o.guard = some (23, true) := by subst e; rfl
 obtain ⟨v23, h23, p23⟩ := hn 23 (by subst e; decide)
 obtain rfl : v23 = .bool true := p23
 have h_12 := (hk 12 (qlx (by decide) (by decide) _)).trans h.b12
 exact ⟨(qdw hgd rfl rfl h23), qgw hd (qrx hop (ev h_12)) ⟨_, rfl, Below.refl _ _, rfl⟩⟩
theorem lod25 (h : c.Ok a0 W) : Loc Try.prog .any (qdv Try.f16 9) Q dsu a0 W (Psu c) 25 := by
 intro o a w ho hb hk hn
 have e := Option.some.inj (ho.symm.trans (rfl : (qdv Try.f16 9)[25]? = some _))
 have hop : o.op = Op.move (Operand.tmp 14) := by subst e; rfl
 have hd : o.dst = some (dsu 25) := by subst e; rfl
 have hgd : o.guard = some (23, true) := by subst e; rfl
 obtain ⟨v23, h23, p23⟩ := hn 23 (by subst e; decide)
 obtain rfl : v23 = .bool true := p23
 have h_14 := (hk 14 (qlx (by decide) (by decide) _)).trans h.b14
 exact ⟨(qdw hgd rfl rfl h23), qgw hd (qrx hop (ev h_14)) ⟨_, rfl, Below.refl _ _, rfl⟩⟩
theorem lod26 (h : c.Ok a0 W) : Loc Try.prog .any (qdv Try.f16 9) Q dsu a0 W (Psu c) 26 := by
 intro o a w ho hb hk hn
 have e := Option.some.inj (ho.symm.trans (rfl : (qdv Try.f16 9)[26]? = some _))
 have hop : o.op = Op.binOp BinOp.eql 26 (Operand.tmp 73) (Operand.tmp 74) 26 := by subst e; rfl
 have hd : o.dst = some (dsu 26) := by subst e; rfl
 have hgd : o.guard = some (23, true) := by subst e; rfl
 obtain ⟨v23, h23, p23⟩ := hn 23 (by subst e; decide)
 obtain rfl : v23 = .bool true := p23
 obtain ⟨v24, h24, p24⟩ := hn 24 (by subst e; decide)
 obtain rfl : v24 = .int .i64 c.t407 := p24
 obtain ⟨v25, h25, p25⟩ := hn 25 (by subst e; decide)
 obtain rfl : v25 = .int .i64 c.t414 := p25
 exact ⟨(qdw hgd rfl rfl h23), qgw hd (eql_y hop (ev h24) (ev h25) h.e26) ⟨_, rfl, Below.refl _ _, rfl⟩⟩
theorem lod27 (h : c.Ok a0 W) : Loc Try.prog .any (qdv Try.f16 9) Q dsu a0 W (Psu c) 27 := by
 intro o a w ho hb hk hn
 have e := Option.some.inj (ho.symm.trans (rfl : (qdv Try.f16 9)[27]? = some _))
 have hop : o.op = Op.pick (Operand.tmp 72) (Operand.tmp 75) (Operand.const (Value.bool false)) := by subst e; rfl
 have hd : o.dst = some (dsu 27) := by subst e; rfl
 have hgd : o.guard = none := by subst e; rfl
 obtain ⟨v23, h23, p23⟩ := hn 23 (by subst e; decide)
 obtain rfl : v23 = .bool true := p23
 obtain ⟨v26, h26, p26⟩ := hn 26 (by subst e; decide)
 obtain rfl : v26 = .bool true := p26
 exact ⟨(qfq hgd), qgw hd (zjw hop (ev h23) (ev h26)) ⟨_, rfl, Below.refl _ _, rfl⟩⟩
theorem lod28 (h : c.Ok a0 W) : Loc Try.prog .any (qdv Try.f16 9) Q dsu a0 W (Psu c) 28 := by
 intro o a w ho hb hk hn
 have e := Option.some.inj (ho.symm.trans (rfl : (qdv Try.f16 9)[28]? = some _))
 have hop : o.op = Op.move (Operand.tmp 76) := by subst e; rfl
 have hd : o.dst = some (dsu 28) := by subst e; rfl
 have hgd : o.guard = none := by subst e; rfl
 obtain ⟨v27, h27, p27⟩ := hn 27 (by subst e; decide)
 obtain rfl : v27 = .bool true := p27
 exact ⟨(qfq hgd), qgw hd (qrx hop (ev h27)) ⟨_, rfl, Below.refl _ _, rfl⟩⟩
theorem lod29 (h : c.Ok a0 W) : Loc Try.prog .any (qdv Try.f16 9) Q dsu a0 W (Psu c) 29 := by
 intro o a w ho hb hk hn
 have e := Option.some.inj (ho.symm.trans (rfl : (qdv Try.f16 9)[29]? = some _))
 have hop : o.op = Op.load 80 (Operand.tmp 3) := by subst e; rfl
 have hd : o.dst = some (dsu 29) := by subst e; rfl
 have hgd : o.guard = some (28, true) := by subst e; rfl
 obtain ⟨v28, h28, p28⟩ := hn 28 (by subst e; decide)
 obtain rfl : v28 = .bool true := p28
 have h_3 := (hk 3 (qlx (by decide) (by decide) _)).trans h.b3
 have hx := ev h_3
 have hu := Try.underlying80
 have hg := (hb.block _ (qez h.g388)).trans h.g388
 have s0 := (qbq hg 0).trans rfl
 have s1 := (qbq hg 1).trans rfl
 have s2 := (qbq hg 2).trans rfl
 refine ⟨(qdw hgd rfl rfl h28), qgw (v := .agg #[.int .i64 c.a0, .slice c.A0 c.l0.length c.c0, .string c.s0]) hd (qjw hop hx ?_) ⟨_, rfl, Below.refl _ _, rfl⟩⟩
 clear hn hk ho e hop
 go_simp
 try with_reducible rfl
theorem lod30 (h : c.Ok a0 W) : Loc Try.prog .any (qdv Try.f16 9) Q dsu a0 W (Psu c) 30 := by
 intro o a w ho hb hk hn
 have e := Option.some.inj (ho.symm.trans (rfl : (qdv Try.f16 9)[30]? = some _))
 have hop : o.op = Op.load 80 (Operand.tmp 4) := by subst e; rfl
 have hd : o.dst = some (dsu 30) := by subst e; rfl
 have hgd : o.guard = some (28, true) := by subst e; rfl
 obtain ⟨v28, h28, p28⟩ := hn 28 (by subst e; decide)
 obtain rfl : v28 = .bool true := p28
 have h_4 := (hk 4 (qlx (by decide) (by decide) _)).trans h.b4
 have hx := ev h_4
 have hu := Try.underlying80
 have hg := (hb.block _ (qez h.g389)).trans h.g389
 have s0 := (qbq hg 0).trans rfl
 have s1 := (qbq hg 1).trans rfl
 have s2 := (qbq hg 2).trans rfl
 refine ⟨(qdw hgd rfl rfl h28), qgw (v := .agg #[.int .i64 c.a1, .slice c.A1 c.l1.length c.c1, .string c.s1]) hd (qjw hop hx ?_) ⟨_, rfl, Below.refl _ _, rfl⟩⟩
 clear hn hk ho e hop
 go_simp
 try with_reducible rfl
theorem lod31 (h : c.Ok a0 W) : Loc Try.prog .any (qdv Try.f16 9) Q dsu a0 W (Psu c) 31 := by
 intro o a w ho hb hk hn
 have e := Option.some.inj (ho.symm.trans (rfl : (qdv Try.f16 9)[31]? = some _))
 have hop : o.op = Op.call { callee := Callee.value (Operand.func 64), args := #[Operand.tmp 78, Operand.tmp 79], argTypes := #[80, 80] } := by subst e; rfl
 have hd : o.dst = some (dsu 31) := by subst e; rfl
 have hgd : o.guard = some (28, true) := by subst e; rfl
 obtain ⟨v28, h28, p28⟩ := hn 28 (by subst e; decide)
 obtain rfl : v28 = .bool true := p28
 obtain ⟨v29, h29, p29⟩ := hn 29 (by subst e; decide)
 obtain rfl : v29 = .agg #[.int .i64 c.a0, .slice c.A0 c.l0.length c.c0, .string c.s0] := p29
 obtain ⟨v30, h30, p30⟩ := hn 30 (by subst e; decide)
 obtain rfl : v30 = .agg #[.int .i64 c.a1, .slice c.A1 c.l1.length c.c1, .string c.s1] := p30
 have hw : Region.wanted o (yielded (qdv Try.f16 9) a.tmps) = true := (qdw hgd rfl rfl h28)
 have hs := qhx (P := Try.prog) (Q := Q) (a := a) (w := w) (K := fun a' w' => ∃ v, a' = a.put (some (dsu 31)) v ∧ Below w.heap.size w w' ∧ Psu c 31 v w') Try.func64 (by kernel_rfl) rfl (#[.agg #[.int .i64 c.a0, .slice c.A0 c.l0.length c.c0, .string c.s0], .agg #[.int .i64 c.a1, .slice c.A1 c.l1.length c.c1, .string c.s1]] : Array Value) hw hd hop ?ha ?hc
 ·rw [if_pos hw] at hs
  exact ⟨hw, hs⟩
 case ha =>
  have q29 : a.eval (.tmp 78) = _ := ev h29
  have q30 : a.eval (.tmp 79) = _ := ev h30
  simp only [List.map_toArray, List.map_cons, List.map_nil, q29, q30]
 case hc =>
  refine (record_Same.calls c.kj _ _ _ _ _ _ _ _ _ _ _ _ (Kd.V_reads' (Kd.V_below h.vx hb)).2.2 (Kd.V_reads' (Kd.V_below h.vx hb)).2.1 (Kd.V_reads' (Kd.V_below h.vy hb)).2.2 (Kd.V_reads' (Kd.V_below h.vy hb)).2.1 h.A49).mono ?_
  rintro e w' ⟨rfl, hd⟩
  exact ⟨_, rfl, _, rfl, hd, rfl⟩
theorem lod32 (h : c.Ok a0 W) : Loc Try.prog .any (qdv Try.f16 9) Q dsu a0 W (Psu c) 32 := by
 intro o a w ho hb hk hn
 have e := Option.some.inj (ho.symm.trans (rfl : (qdv Try.f16 9)[32]? = some _))
 have hop : o.op = Op.load 80 (Operand.tmp 3) := by subst e; rfl
 have hd : o.dst = some (dsu 32) := by subst e; rfl
 have hgd : o.guard = some (28, true) := by subst e; rfl
 obtain ⟨v28, h28, p28⟩ := hn 28 (by subst e; decide)
 obtain rfl : v28 = .bool true := p28
 have h_3 := (hk 3 (qlx (by decide) (by decide) _)).trans h.b3
 have hx := ev h_3
 have hu := Try.underlying80
 have hg := (hb.block _ (qez h.g388)).trans h.g388
 have s0 := (qbq hg 0).trans rfl
 have s1 := (qbq hg 1).trans rfl
 have s2 := (qbq hg 2).trans rfl
 refine ⟨(qdw hgd rfl rfl h28), qgw (v := .agg #[.int .i64 c.a0, .slice c.A0 c.l0.length c.c0, .string c.s0]) hd (qjw hop hx ?_) ⟨_, rfl, Below.refl _ _, rfl⟩⟩
 clear hn hk ho e hop
 go_simp
 try with_reducible rfl
theorem lod33 (h : c.Ok a0 W) : Loc Try.prog .any (qdv Try.f16 9) Q dsu a0 W (Psu c) 33 := by
 intro o a w ho hb hk hn
 have e := Option.some.inj (ho.symm.trans (rfl : (qdv Try.f16 9)[33]? = some _))
 have hop : o.op = Op.buildSlice 95 1 #[(0, Operand.tmp 81)] := by subst e; rfl
 have hd : o.dst = some (dsu 33) := by subst e; rfl
 have hgd : o.guard = some (28, true) := by subst e; rfl
 obtain ⟨v28, h28, p28⟩ := hn 28 (by subst e; decide)
 obtain rfl : v28 = .bool true := p28
 obtain ⟨v32, h32, p32⟩ := hn 32 (by subst e; decide)
 obtain rfl : v32 = .agg #[.int .i64 c.a0, .slice c.A0 c.l0.length c.c0, .string c.s0] := p32
 have hx := ev h32
 have hv := Kd.V_below h.vx hb
 have hu := Try.underlying95
 have hw : Region.wanted o (yielded (qdv Try.f16 9) a.tmps) = true := (qdw hgd rfl rfl h28)
 have hs := Kd.N_lit_step (P := Try.prog) (Q := Q) (Kc := fun a' w' => ∃ v, a' = a.put (some (dsu 33)) v ∧ Below w.heap.size w w' ∧ Psu c 33 v w') k80 (a := a) w.heap.size 80 hw (N' := dsu 33) hd (w0 := w) (W := w) (xs := ([⟨c.a0, c.l0, c.s0⟩] : List S80)) (inner := [.int .i64 c.a0, .slice c.A0 c.l0.length c.c0, .string c.s0]) (ok := fun _ => True) (okp := fun _ => True) ?hr ?hp (fun _ _ => trivial) trivial (Below.refl _ _) (Nat.le_refl _) (by simp) ?hk
 ·rw [if_pos hw] at hs
  exact ⟨hw, hs⟩
 case hr =>
  refine qwz hop hx ?_
  clear hn hk ho e hop
  first | (go_simp; done) | (go_simp; rfl)
 case hp => exact Reps.c3 (show Kd.FK k80 _ _ _ [.int .i64 c.a0, .slice c.A0 c.l0.length c.c0, .string c.s0] from zbj _ _ _ (Kd.V_reads' hv).2.1 (Kd.V_F hv)) (Reps.none _ _)
 case hk => exact fun v1 w1 hN hb1 _ _ => ⟨v1, by rw [hd], hb1, Kd.N_V (base' := 0) hN⟩
theorem lod34 (h : c.Ok a0 W) : Loc Try.prog .any (qdv Try.f16 9) Q dsu a0 W (Psu c) 34 := by
 intro o a w ho hb hk hn
 have e := Option.some.inj (ho.symm.trans (rfl : (qdv Try.f16 9)[34]? = some _))
 have hop : o.op = Op.call { callee := Callee.value (Operand.func 63), args := #[Operand.tmp 82], argTypes := #[95] } := by subst e; rfl
 have hd : o.dst = some (dsu 34) := by subst e; rfl
 have hgd : o.guard = some (28, true) := by subst e; rfl
 obtain ⟨v28, h28, p28⟩ := hn 28 (by subst e; decide)
 obtain rfl : v28 = .bool true := p28
 obtain ⟨v33, h33, p33⟩ := hn 33 (by subst e; decide)
 replace p33 : Kd.V k80 80 w 0 (fun _ => True) v33 ([⟨c.a0, c.l0, c.s0⟩] : List S80) := p33
 have hw : Region.wanted o (yielded (qdv Try.f16 9) a.tmps) = true := (qdw hgd rfl rfl h28)
 obtain ⟨A_33, c_33, rfl⟩ := Kd.V_slice p33
 have hs := qhx (P := Try.prog) (Q := Q) (a := a) (w := w) (K := fun a' w' => ∃ v, a' = a.put (some (dsu 34)) v ∧ Below w.heap.size w w' ∧ Psu c 34 v w') Try.func63 (by kernel_rfl) rfl (#[.slice A_33 (([⟨c.a0, c.l0, c.s0⟩] : List S80)).length c_33] : Array Value) hw hd hop ?ha ?hc
 ·rw [if_pos hw] at hs
  exact ⟨hw, hs⟩
 case ha =>
  have q33 : a.eval (.tmp 82) = _ := ev h33
  simp only [List.map_toArray, List.map_cons, List.map_nil, q33]
 case hc =>
  refine (tumbrellaw05_own.calls c.kj (fun _ => True) _ _ _ _ _ p33 h.A50).mono ?_
  rintro e w' ⟨v0, rfl, hN, hd⟩
  exact ⟨_, rfl, _, rfl, hd, Kd.V_mono (Kd.N_V (base' := 0) hN) (fun _ _ => trivial)⟩
theorem lod35 (h : c.Ok a0 W) : Loc Try.prog .any (qdv Try.f16 9) Q dsu a0 W (Psu c) 35 := by
 intro o a w ho hb hk hn
 have e := Option.some.inj (ho.symm.trans (rfl : (qdv Try.f16 9)[35]? = some _))
 have hop : o.op = Op.load 80 (Operand.tmp 4) := by subst e; rfl
 have hd : o.dst = some (dsu 35) := by subst e; rfl
 have hgd : o.guard = some (28, true) := by subst e; rfl
 obtain ⟨v28, h28, p28⟩ := hn 28 (by subst e; decide)
 obtain rfl : v28 = .bool true := p28
 have h_4 := (hk 4 (qlx (by decide) (by decide) _)).trans h.b4
 have hx := ev h_4
 have hu := Try.underlying80
 have hg := (hb.block _ (qez h.g389)).trans h.g389
 have s0 := (qbq hg 0).trans rfl
 have s1 := (qbq hg 1).trans rfl
 have s2 := (qbq hg 2).trans rfl
 refine ⟨(qdw hgd rfl rfl h28), qgw (v := .agg #[.int .i64 c.a1, .slice c.A1 c.l1.length c.c1, .string c.s1]) hd (qjw hop hx ?_) ⟨_, rfl, Below.refl _ _, rfl⟩⟩
 clear hn hk ho e hop
 go_simp
 try with_reducible rfl
theorem lod36 (h : c.Ok a0 W) : Loc Try.prog .any (qdv Try.f16 9) Q dsu a0 W (Psu c) 36 := by
 intro o a w ho hb hk hn
 have e := Option.some.inj (ho.symm.trans (rfl : (qdv Try.f16 9)[36]? = some _))
 have hop : o.op = Op.buildSlice 95 1 #[(0, Operand.tmp 84)] := by subst e; rfl
 have hd : o.dst = some (dsu 36) := by subst e; rfl
 have hgd : o.guard = some (28, true) := by subst e; rfl
 obtain ⟨v28, h28, p28⟩ := hn 28 (by subst e; decide)
 obtain rfl : v28 = .bool true := p28
 obtain ⟨v35, h35, p35⟩ := hn 35 (by subst e; decide)
 obtain rfl : v35 = .agg #[.int .i64 c.a1, .slice c.A1 c.l1.length c.c1, .string c.s1] := p35
 have hx := ev h35
 have hv := Kd.V_below h.vy hb
 have hu := Try.underlying95
 have hw : Region.wanted o (yielded (qdv Try.f16 9) a.tmps) = true := (qdw hgd rfl rfl h28)
 have hs := Kd.N_lit_step (P := Try.prog) (Q := Q) (Kc := fun a' w' => ∃ v, a' = a.put (some (dsu 36)) v ∧ Below w.heap.size w w' ∧ Psu c 36 v w') k80 (a := a) w.heap.size 80 hw (N' := dsu 36) hd (w0 := w) (W := w) (xs := ([⟨c.a1, c.l1, c.s1⟩] : List S80)) (inner := [.int .i64 c.a1, .slice c.A1 c.l1.length c.c1, .string c.s1]) (ok := fun _ => True) (okp := fun _ => True) ?hr ?hp (fun _ _ => trivial) trivial (Below.refl _ _) (Nat.le_refl _) (by simp) ?hk
 ·rw [if_pos hw] at hs
  exact ⟨hw, hs⟩
 case hr =>
  refine qwz hop hx ?_
  clear hn hk ho e hop
  first | (go_simp; done) | (go_simp; rfl)
 case hp => exact Reps.c3 (show Kd.FK k80 _ _ _ [.int .i64 c.a1, .slice c.A1 c.l1.length c.c1, .string c.s1] from zbj _ _ _ (Kd.V_reads' hv).2.1 (Kd.V_F hv)) (Reps.none _ _)
 case hk => exact fun v1 w1 hN hb1 _ _ => ⟨v1, by rw [hd], hb1, Kd.N_V (base' := 0) hN⟩
theorem lod37 (h : c.Ok a0 W) : Loc Try.prog .any (qdv Try.f16 9) Q dsu a0 W (Psu c) 37 := by
 intro o a w ho hb hk hn
 have e := Option.some.inj (ho.symm.trans (rfl : (qdv Try.f16 9)[37]? = some _))
 have hop : o.op = Op.call { callee := Callee.value (Operand.func 63), args := #[Operand.tmp 85], argTypes := #[95] } := by subst e; rfl
 have hd : o.dst = some (dsu 37) := by subst e; rfl
 have hgd : o.guard = some (28, true) := by subst e; rfl
 obtain ⟨v28, h28, p28⟩ := hn 28 (by subst e; decide)
 obtain rfl : v28 = .bool true := p28
 obtain ⟨v36, h36, p36⟩ := hn 36 (by subst e; decide)
 replace p36 : Kd.V k80 80 w 0 (fun _ => True) v36 ([⟨c.a1, c.l1, c.s1⟩] : List S80) := p36
 have hw : Region.wanted o (yielded (qdv Try.f16 9) a.tmps) = true := (qdw hgd rfl rfl h28)
 obtain ⟨A_36, c_36, rfl⟩ := Kd.V_slice p36
 have hs := qhx (P := Try.prog) (Q := Q) (a := a) (w := w) (K := fun a' w' => ∃ v, a' = a.put (some (dsu 37)) v ∧ Below w.heap.size w w' ∧ Psu c 37 v w') Try.func63 (by kernel_rfl) rfl (#[.slice A_36 (([⟨c.a1, c.l1, c.s1⟩] : List S80)).length c_36] : Array Value) hw hd hop ?ha ?hc
 ·rw [if_pos hw] at hs
  exact ⟨hw, hs⟩
 case ha =>
  have q36 : a.eval (.tmp 85) = _ := ev h36
  simp only [List.map_toArray, List.map_cons, List.map_nil, q36]
 case hc =>
  refine (tumbrellaw05_own.calls c.kj (fun _ => True) _ _ _ _ _ p36 h.A51).mono ?_
  rintro e w' ⟨v0, rfl, hN, hd⟩
  exact ⟨_, rfl, _, rfl, hd, Kd.V_mono (Kd.N_V (base' := 0) hN) (fun _ _ => trivial)⟩
theorem lod38 (h : c.Ok a0 W) : Loc Try.prog .any (qdv Try.f16 9) Q dsu a0 W (Psu c) 38 := by
 intro o a w ho hb hk hn
 have e := Option.some.inj (ho.symm.trans (rfl : (qdv Try.f16 9)[38]? = some _))
 have hop : o.op = Op.call { callee := Callee.value (Operand.func 62), args := #[Operand.tmp 83, Operand.tmp 86], argTypes := #[91, 91] } := by subst e; rfl
 have hd : o.dst = some (dsu 38) := by subst e; rfl
 have hgd : o.guard = some (28, true) := by subst e; rfl
 obtain ⟨v28, h28, p28⟩ := hn 28 (by subst e; decide)
 obtain rfl : v28 = .bool true := p28
 obtain ⟨v34, h34, p34⟩ := hn 34 (by subst e; decide)
 replace p34 : Kd.V k82 82 w 0 (fun _ => True) v34 c.t433 := p34
 obtain ⟨v37, h37, p37⟩ := hn 37 (by subst e; decide)
 replace p37 : Kd.V k82 82 w 0 (fun _ => True) v37 c.t439 := p37
 have hw : Region.wanted o (yielded (qdv Try.f16 9) a.tmps) = true := (qdw hgd rfl rfl h28)
 obtain ⟨A_34, c_34, rfl⟩ := Kd.V_slice p34
 obtain ⟨A_37, c_37, rfl⟩ := Kd.V_slice p37
 have hs := qhx (P := Try.prog) (Q := Q) (a := a) (w := w) (K := fun a' w' => ∃ v, a' = a.put (some (dsu 38)) v ∧ Below w.heap.size w w' ∧ Psu c 38 v w') Try.func62 (by kernel_rfl) rfl (#[.slice A_34 (c.t433).length c_34, .slice A_37 (c.t439).length c_37] : Array Value) hw hd hop ?ha ?hc
 ·rw [if_pos hw] at hs
  exact ⟨hw, hs⟩
 case ha =>
  have q34 : a.eval (.tmp 83) = _ := ev h34
  have q37 : a.eval (.tmp 86) = _ := ev h37
  simp only [List.map_toArray, List.map_cons, List.map_nil, q34, q37]
 case hc =>
  refine (tumbrelref05_Same.calls c.kj _ _ _ _ _ _ _ _ (Kd.V_reads' p34).2.2 (Kd.V_reads' p34).2.1 (Kd.V_reads' p37).2.2 (Kd.V_reads' p37).2.1 h.A52).mono ?_
  rintro e w' ⟨rfl, hd⟩
  exact ⟨_, rfl, _, rfl, hd, rfl⟩
theorem lod39 (h : c.Ok a0 W) : Loc Try.prog .any (qdv Try.f16 9) Q dsu a0 W (Psu c) 39 := by
 intro o a w ho hb hk hn
 have e := Option.some.inj (ho.symm.trans (rfl : (qdv Try.f16 9)[39]? = some _))
 have hop : o.op = Op.binOp BinOp.eql 4 (Operand.tmp 80) (Operand.tmp 87) 4 := by subst e; rfl
 have hd : o.dst = some (dsu 39) := by subst e; rfl
 have hgd : o.guard = some (28, true) := by subst e; rfl
 obtain ⟨v28, h28, p28⟩ := hn 28 (by subst e; decide)
 obtain rfl : v28 = .bool true := p28
 obtain ⟨v31, h31, p31⟩ := hn 31 (by subst e; decide)
 obtain rfl : v31 = .bool c.t429 := p31
 obtain ⟨v38, h38, p38⟩ := hn 38 (by subst e; decide)
 obtain rfl : v38 = .bool c.t442 := p38
 exact ⟨(qdw hgd rfl rfl h28), qgw hd (eqlb_y hop (ev h31) (ev h38) h.e39) ⟨_, rfl, Below.refl _ _, rfl⟩⟩
theorem lod40 (h : c.Ok a0 W) : Loc Try.prog .any (qdv Try.f16 9) Q dsu a0 W (Psu c) 40 := by
 intro o a w ho hb hk hn
 have e := Option.some.inj (ho.symm.trans (rfl : (qdv Try.f16 9)[40]? = some _))
 have hop : o.op = Op.pick (Operand.tmp 77) (Operand.tmp 88) (Operand.const (Value.bool false)) := by subst e; rfl
 have hd : o.dst = some (dsu 40) := by subst e; rfl
 have hgd : o.guard = none := by subst e; rfl
 obtain ⟨v28, h28, p28⟩ := hn 28 (by subst e; decide)
 obtain rfl : v28 = .bool true := p28
 obtain ⟨v39, h39, p39⟩ := hn 39 (by subst e; decide)
 obtain rfl : v39 = .bool true := p39
 exact ⟨(qfq hgd), qgw hd (zjw hop (ev h28) (ev h39)) ⟨_, rfl, Below.refl _ _, rfl⟩⟩
theorem lod41 (h : c.Ok a0 W) : Loc Try.prog .any (qdv Try.f16 9) Q dsu a0 W (Psu c) 41 := by
 intro o a w ho hb hk hn
 have e := Option.some.inj (ho.symm.trans (rfl : (qdv Try.f16 9)[41]? = some _))
 have hop : o.op = Op.assign (Operand.tmp 89) := by subst e; rfl
 have hd : o.dst = some (dsu 41) := by subst e; rfl
 have hgd : o.guard = none := by subst e; rfl
 obtain ⟨v40, h40, p40⟩ := hn 40 (by subst e; decide)
 obtain rfl : v40 = .bool true := p40
 exact ⟨(qfq hgd), qgw hd (assign_ hop (ev h40)) ⟨_, rfl, Below.refl _ _, rfl⟩⟩
end
theorem zlv (c : Cy) (j : Nat) (v : Value) (w w' : World) (hb : Below w.heap.size w w') (h : Psu c j v w) : Psu c j v w' := by
 unfold Psu at *
 split at h <;> first | exact h | exact Kd.V_below h hb
theorem lods {Q : Exit → Act → World → Prop} {c : Cy} {a0 : Act} {W : World} (h : c.Ok a0 W) : ∀ i, i < (qdv Try.f16 9).size → Loc Try.prog .any (qdv Try.f16 9) Q dsu a0 W (Psu c) i := by
 intro i hi
 have hs : (qdv Try.f16 9).size = 42 := by kernel_rfl
 rw [hs] at hi
 match i, hi with
 | 0, _ => exact lod0 h
 | 1, _ => exact lod1 h
 | 2, _ => exact lod2 h
 | 3, _ => exact lod3 h
 | 4, _ => exact lod4 h
 | 5, _ => exact lod5 h
 | 6, _ => exact lod6 h
 | 7, _ => exact lod7 h
 | 8, _ => exact lod8 h
 | 9, _ => exact lod9 h
 | 10, _ => exact lod10 h
 | 11, _ => exact lod11 h
 | 12, _ => exact lod12 h
 | 13, _ => exact lod13 h
 | 14, _ => exact lod14 h
 | 15, _ => exact lod15 h
 | 16, _ => exact lod16 h
 | 17, _ => exact lod17 h
 | 18, _ => exact lod18 h
 | 19, _ => exact lod19 h
 | 20, _ => exact lod20 h
 | 21, _ => exact lod21 h
 | 22, _ => exact lod22 h
 | 23, _ => exact lod23 h
 | 24, _ => exact lod24 h
 | 25, _ => exact lod25 h
 | 26, _ => exact lod26 h
 | 27, _ => exact lod27 h
 | 28, _ => exact lod28 h
 | 29, _ => exact lod29 h
 | 30, _ => exact lod30 h
 | 31, _ => exact lod31 h
 | 32, _ => exact lod32 h
 | 33, _ => exact lod33 h
 | 34, _ => exact lod34 h
 | 35, _ => exact lod35 h
 | 36, _ => exact lod36 h
 | 37, _ => exact lod37 h
 | 38, _ => exact lod38 h
 | 39, _ => exact lod39 h
 | 40, _ => exact lod40 h
 | 41, _ => exact lod41 h
 | n + 42, hi => omega
theorem region9 {Q : Exit → Act → World → Prop} {c : Cy} {a0 : Act} {w : World} (hn : a0.tmps.size = 90) (h : c.Ok a0 w.drew)
  (hQ : ∀ a w', a.defers = a0.defers → a.tmps[6]? = some (.bool true) → Below w.drew.heap.size w.drew w' → Q .normal a w') : (Code.region 9 (qdv Try.f16 9) true).wp Try.prog Q a0 w := by
 have hs : (qdv Try.f16 9).size = 42 := by kernel_rfl
 refine draw dsu 90 (by kernel_rfl) rfl (by kernel_rfl) a0 w hn (fun i hi => by rw [hs] at hi; unfold dsu; split <;> omega) (fun i j hi hj => by rw [hs] at hi hj; unfold dsu; split <;> split <;> omega) (Psu c) (zlv c) (lods h) ?_
 intro a w' h1 _ _ hb hp
 obtain ⟨v, hv, hpv⟩ := hp 41 (by rw [hs]; decide)
 obtain rfl : v = .bool true := hpv
 exact hQ a w' h1 hv hb
end Go.Proofs.Ytojepleodijdeaa.D
