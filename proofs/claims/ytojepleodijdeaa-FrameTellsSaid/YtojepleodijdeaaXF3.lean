/- Own texts and printed ones, those declarations alone that this claim needs, laid into one text by a program of this session. -/
import Derived.Test.YtojepleodijdeaaXF1
import Derived.Test.YtojepleodijdeaaXF2
import Derived.Lib.SlBytesConst
namespace Go.Proofs.Ytojepleodijdeaa.B
open Go.RowKit Go.Proofs.YtojepleodijdeaaW.PrintWords Go.Proofs.YtojepleodijdeaaW.PrintLast Go.Proofs.YtojepleodijdeaaW.PrintMore
attribute [local go_sem] max2_int min2_int max_two min_two max_three min_three max_four min_four   -- for this text's walks alone
set_option linter.unusedVariables false
set_option linter.unusedSimpArgs false
def sum_Of.f (l0 : List Int) : Option (Int) := (sum_More.f 0 l0).bind fun t292 => (some t292)
set_option maxHeartbeats 8000000 in
set_option maxRecDepth 100000 in
theorem sum_Of.calls (A0 : Option Addr) (c0 : Nat) (l0 : List Int) (r : Int) (w : World) (hr0 : Kd.C (Kd.int .u8) w A0 l0.length l0) (hc0 : l0.length ≤ c0) (h : sum_Of.f l0 = some r) :
    Calls Try.prog 35 #[.slice A0 l0.length c0] w fun e w' => e = .returned (.int .u32 r) ∧ Below w.heap.size w w' := by
  have HR0 := Aside0.mk hr0
  have HC0 := Aside0.mk hc0
  clear hr0 hc0
  have HB := Aside0.mk (Below.refl w.heap.size w)
  have H : ((sum_More.f 0 l0).bind fun t292 => (some t292)) = some r := h
  clear h
  replace H := Option.bind_eq_some_iff.mp H
  obtain ⟨t292, A20, H⟩ := H
  replace H : (some t292) = some r := H
  have A2 := Aside0.mk A20
  clear A20
  obtain rfl := Option.some.inj H
  go_enter Try.func35, Try.ntmps35
  go_wp2_with (first | ((with_reducible refine gate_callee (f := 37) rfl ?_); refine goesL_ (some 4) rfl rfl Try.func37 (by kernel_rfl) rfl #[.int .u32 0, .slice A0 l0.length c0] rfl (by (try simp only [List.map_toArray, List.map_cons, List.map_nil]); first | done | rfl | (simp only [List.length_drop, List.length_take]; rfl)) ?_; (with_reducible refine (sum_More.calls 0 _ _ l0 t292 _ ?side1 ?side2 A2.out).mono ?_); (case side1 => repeat (first | exact HR0.out | (with_reducible refine Kd.C_alloc ?_ _) | (with_reducible refine Kd.C_drewN ?_ _) | (with_reducible refine Kd.C_drew ?_))); (case side2 => exact HC0.out); rintro e w3 ⟨rfl, hb⟩; refine ⟨_, rfl, ?_⟩; have n0_ := Aside0.mk (below_step (by repeat (first | (with_reducible first | exact HB.out | apply below_alloc | apply pw_below_drewN | apply below_drew1) | exact HB.out)) hb); clear HB; have HB := n0_; clear n0_; (try clear hb); (try clear hb2); (try clear hk); (try clear hi)))
  go_ret
  exact ⟨by first | rfl | (simp [errW_none, errW_some] <;> rfl) | (simp [*, errW_none, errW_some] <;> rfl), by repeat (first | (with_reducible first | exact HB.out | apply below_alloc | apply pw_below_drewN | apply below_drew1) | exact HB.out)⟩
def sum_Cut.f (k : Nat) (l0 : List Int) : Option (List Int × Bool) := if (wrap64 ((l0.length : Int) - 4)) < 0 then (some (([] : List Int), false)) else (if 0 ≤ (wrap64 ((l0.length : Int) - 4)) then (if (wrap64 ((l0.length : Int) - 4)) ≤ (l0.length : Int) then ((sum_Of.f (l0.take ((wrap64 ((l0.length : Int) - 4)) : Int).toNat)).bind fun t300 => ((sum_four.f t300).bind fun t301 => ((slices_Equal_byte_byte.f k (l0.drop ((wrap64 ((l0.length : Int) - 4)) : Int).toNat) t301).bind fun t304 => (if t304 = true then ((slices_Clone_byte_byte.f (l0.take ((wrap64 ((l0.length : Int) - 4)) : Int).toNat)).bind fun t306 => (some (t306, true))) else (some (([] : List Int), false)))))) else (none)) else (none))
def sum_Cut.T2 : Bool × List (List Nat × List Nat) := (true, [([], []), ([0], [0]), ([1], [1]), ([2], [2]), ([2], [2]), ([3, 4, 2], [2, 3, 4]), ([2], [2]), ([2], [2]), ([6, 7, 2], [2, 6, 7]), ([8, 2, 2], [2, 8]), ([9, 9, 2], [2, 9]), ([5, 10, 10, 2], [2, 5, 10]), ([11, 2], [2, 11]), ([2, 12], [2, 12])])
def sum_Cut.B2 : List Nat := [0, 1, 3, 7, 7, 31, 7, 7, 199, 455, 967, 2047, 4095, 8191]
theorem sum_Cut.tab2 : rtab .any (opsOf Try.f33 2) = sum_Cut.T2 := by kernel_rfl
theorem sum_Cut.bits2 : waitsOk sum_Cut.T2.2 sum_Cut.B2 = true := by kernel_rfl
set_option maxHeartbeats 8000000 in
set_option maxRecDepth 100000 in
theorem sum_Cut.calls (k : Nat) (A0 : Option Addr) (c0 : Nat) (l0 : List Int) (r1 : List Int) (r2 : Bool) (w : World) (hr0 : Kd.C (Kd.int .u8) w A0 l0.length l0) (hc0 : l0.length ≤ c0) (h : sum_Cut.f k l0 = some (r1, r2)) :
    Calls Try.prog 33 #[.slice A0 l0.length c0] w fun e w' => ∃ v0_ : Value, e = .returned (.tuple #[v0_, .bool r2]) ∧ Kd.R (Kd.int .u8) 5 w' w.heap.size (fun _ => True) v0_ r1 ∧ Below w.heap.size w w' := by
  have HR0 := Aside0.mk hr0
  have HC0 := Aside0.mk hc0
  clear hr0 hc0
  have HB := Aside0.mk (Below.refl w.heap.size w)
  have H : (if (wrap64 ((l0.length : Int) - 4)) < 0 then (some (([] : List Int), false)) else (if 0 ≤ (wrap64 ((l0.length : Int) - 4)) then (if (wrap64 ((l0.length : Int) - 4)) ≤ (l0.length : Int) then ((sum_Of.f (l0.take ((wrap64 ((l0.length : Int) - 4)) : Int).toNat)).bind fun t300 => ((sum_four.f t300).bind fun t301 => ((slices_Equal_byte_byte.f k (l0.drop ((wrap64 ((l0.length : Int) - 4)) : Int).toNat) t301).bind fun t304 => (if t304 = true then ((slices_Clone_byte_byte.f (l0.take ((wrap64 ((l0.length : Int) - 4)) : Int).toNat)).bind fun t306 => (some (t306, true))) else (some (([] : List Int), false)))))) else (none)) else (none))) = some (r1, r2) := h
  clear h
  by_cases c2 : (wrap64 ((l0.length : Int) - 4)) < 0
  · rw [if_pos c2] at H
    have c2b0 : decide ((wrap64 ((l0.length : Int) - 4)) < 0) = true := decide_eq_true c2
    clear c2
    simp only [Option.some.injEq, Prod.mk.injEq] at H
    obtain ⟨rfl, rfl⟩ := H
    go_enter Try.func33, Try.ntmps33
    try go_wp2
    have n0_ := Aside0.mk (below_drew1 HB.out)
    clear HB
    have HB := n0_
    clear n0_
    refine start_ (n := 14) (S := fun w' => True) (ds := []) #[false, false, false, false, false, false, false, false, false, false, false, false, false, false] (by kernel_rfl) rfl rfl trivial (fun hHeld => ?_); refine with_tabW sum_Cut.tab2 sum_Cut.bits2 (fun HT_ HW_ => ?_)
    generalize w.drew = w3 at HB hHeld ⊢
    refine pure_ (i := 0) (N := some 8) (v := ?_) (a' := ?_) #[true, false, false, false, false, false, false, false, false, false, false, false, false, false] rfl rfl (any_of HT_.out (by kernel_rfl)) (fun _ _ _ h => h) (Or.inl ⟨by rfl, ?_⟩) ?_ ?_
    rotate_left
    · intro w'
      go_simp
      with_reducible rfl
    rotate_left
    · simp only [Act.put, List.setIfInBounds_toArray, List.set_cons_zero, List.set_cons_succ, i64_w, i32_w]
      rfl
    refine pure_ (i := 1) (N := some 9) (v := ?_) (a' := ?_) #[true, true, false, false, false, false, false, false, false, false, false, false, false, false] rfl rfl (any_of HT_.out (by kernel_rfl)) (fun _ _ _ h => h) (Or.inl ⟨by rfl, ?_⟩) ?_ ?_
    rotate_left
    · intro w'
      go_simp
      with_reducible rfl
    rotate_left
    · simp only [Act.put, List.setIfInBounds_toArray, List.set_cons_zero, List.set_cons_succ, i64_w, i32_w]
      rfl
    refine pure_ (i := 2) (N := some 10) (v := ?_) (a' := ?_) #[true, true, true, false, false, false, false, false, false, false, false, false, false, false] rfl rfl (any_of HT_.out (by kernel_rfl)) (fun _ _ _ h => h) (Or.inl ⟨by rfl, ?_⟩) ?_ ?_
    rotate_left
    · intro w'
      go_simp
      with_reducible rfl
    rotate_left
    · simp only [Act.put, List.setIfInBounds_toArray, List.set_cons_zero, List.set_cons_succ, i64_w, i32_w]
      rfl
    refine pure_ (i := 3) (N := some 11) (v := undef) (a' := ?_) #[true, true, true, true, false, false, false, false, false, false, false, false, false, false] rfl rfl (any_of HT_.out (by kernel_rfl)) (fun _ _ _ h => h) (Or.inr ⟨by rfl, rfl⟩) ?_ ?_
    rotate_left
    · simp only [Act.put, List.setIfInBounds_toArray, List.set_cons_zero, List.set_cons_succ, i64_w, i32_w]
      rfl
    refine pure_ (i := 4) (N := some 12) (v := undef) (a' := ?_) #[true, true, true, true, true, false, false, false, false, false, false, false, false, false] rfl rfl (any_of HT_.out (by kernel_rfl)) (fun _ _ _ h => h) (Or.inr ⟨by rfl, rfl⟩) ?_ ?_
    rotate_left
    · simp only [Act.put, List.setIfInBounds_toArray, List.set_cons_zero, List.set_cons_succ, i64_w, i32_w]
      rfl
    refine pure_ (i := 5) (N := some 13) (v := undef) (a' := ?_) #[true, true, true, true, true, true, false, false, false, false, false, false, false, false] rfl rfl (any_of HT_.out (by kernel_rfl)) (fun _ _ _ h => h) (Or.inr ⟨by rfl, rfl⟩) ?_ ?_
    rotate_left
    · simp only [Act.put, List.setIfInBounds_toArray, List.set_cons_zero, List.set_cons_succ, i64_w, i32_w]
      rfl
    refine pure_ (i := 6) (N := some 14) (v := undef) (a' := ?_) #[true, true, true, true, true, true, true, false, false, false, false, false, false, false] rfl rfl (any_of HT_.out (by kernel_rfl)) (fun _ _ _ h => h) (Or.inr ⟨by rfl, rfl⟩) ?_ ?_
    rotate_left
    · simp only [Act.put, List.setIfInBounds_toArray, List.set_cons_zero, List.set_cons_succ, i64_w, i32_w]
      rfl
    refine pure_ (i := 7) (N := some 15) (v := undef) (a' := ?_) #[true, true, true, true, true, true, true, true, false, false, false, false, false, false] rfl rfl (any_of HT_.out (by kernel_rfl)) (fun _ _ _ h => h) (Or.inr ⟨by rfl, rfl⟩) ?_ ?_
    rotate_left
    · simp only [Act.put, List.setIfInBounds_toArray, List.set_cons_zero, List.set_cons_succ, i64_w, i32_w]
      rfl
    refine pure_ (i := 8) (N := some 16) (v := undef) (a' := ?_) #[true, true, true, true, true, true, true, true, true, false, false, false, false, false] rfl rfl (any_of HT_.out (by kernel_rfl)) (fun _ _ _ h => h) (Or.inr ⟨by rfl, rfl⟩) ?_ ?_
    rotate_left
    · simp only [Act.put, List.setIfInBounds_toArray, List.set_cons_zero, List.set_cons_succ, i64_w, i32_w]
      rfl
    refine pure_ (i := 9) (N := some 17) (v := undef) (a' := ?_) #[true, true, true, true, true, true, true, true, true, true, false, false, false, false] rfl rfl (any_of HT_.out (by kernel_rfl)) (fun _ _ _ h => h) (Or.inr ⟨by rfl, rfl⟩) ?_ ?_
    rotate_left
    · simp only [Act.put, List.setIfInBounds_toArray, List.set_cons_zero, List.set_cons_succ, i64_w, i32_w]
      rfl
    refine pure_ (i := 10) (N := some 18) (v := undef) (a' := ?_) #[true, true, true, true, true, true, true, true, true, true, true, false, false, false] rfl rfl (any_of HT_.out (by kernel_rfl)) (fun _ _ _ h => h) (Or.inr ⟨by rfl, rfl⟩) ?_ ?_
    rotate_left
    · simp only [Act.put, List.setIfInBounds_toArray, List.set_cons_zero, List.set_cons_succ, i64_w, i32_w]
      rfl
    refine pure_ (i := 11) (N := some 19) (v := undef) (a' := ?_) #[true, true, true, true, true, true, true, true, true, true, true, true, false, false] rfl rfl (any_of HT_.out (by kernel_rfl)) (fun _ _ _ h => h) (Or.inr ⟨by rfl, rfl⟩) ?_ ?_
    rotate_left
    · simp only [Act.put, List.setIfInBounds_toArray, List.set_cons_zero, List.set_cons_succ, i64_w, i32_w]
      rfl
    refine pure_ (i := 12) (N := some 20) (v := undef) (a' := ?_) #[true, true, true, true, true, true, true, true, true, true, true, true, true, false] rfl rfl (any_of HT_.out (by kernel_rfl)) (fun _ _ _ h => h) (Or.inr ⟨by rfl, rfl⟩) ?_ ?_
    rotate_left
    · simp only [Act.put, List.setIfInBounds_toArray, List.set_cons_zero, List.set_cons_succ, i64_w, i32_w]
      rfl
    refine pure_ (i := 13) (N := some 21) (v := ?_) (a' := ?_) #[true, true, true, true, true, true, true, true, true, true, true, true, true, true] rfl rfl (any_of HT_.out (by kernel_rfl)) (fun _ _ _ h => h) (Or.inl ⟨by rfl, ?_⟩) ?_ ?_
    rotate_left
    · intro w'
      go_simp
      with_reducible rfl
    rotate_left
    · simp only [Act.put, List.setIfInBounds_toArray, List.set_cons_zero, List.set_cons_succ, i64_w, i32_w]
      rfl
    refine done_ (done_of HT_.out (by kernel_rfl)) ?_
    try go_wp2
    go_ret2
    exact ⟨_, by first | rfl | (simp [errW_none, errW_some] <;> rfl) | (simp [*, errW_none, errW_some] <;> rfl), by first | exact Kd.R_nil _ _ _ _ _ | exact Kd.N_nil _ _ _ _ _ | exact Kd.V_nil _ _ _ _ _ | exact Kd.Q_nil _ _ _ _ _ | exact Kd.S_nil _ _ _ _ _, by repeat (first | (with_reducible first | exact HB.out | apply below_alloc | apply pw_below_drewN | apply below_drew1) | exact HB.out)⟩
  · rw [if_neg c2] at H
    have c2b0 : decide ((wrap64 ((l0.length : Int) - 4)) < 0) = false := decide_eq_false c2
    clear c2
    obtain ⟨ji4, hji4⟩ : ∃ j_ : Int, (wrap64 ((l0.length : Int) - 4)) = j_ := ⟨_, rfl⟩
    replace H : (if 0 ≤ (ji4) then (if (ji4) ≤ (l0.length : Int) then ((sum_Of.f (l0.take ((ji4) : Int).toNat)).bind fun t300 => ((sum_four.f t300).bind fun t301 => ((slices_Equal_byte_byte.f k (l0.drop ((ji4) : Int).toNat) t301).bind fun t304 => (if t304 = true then ((slices_Clone_byte_byte.f (l0.take ((ji4) : Int).toNat)).bind fun t306 => (some (t306, true))) else (some (([] : List Int), false)))))) else (none)) else (none)) = some (r1, r2) := by first | (rw [hji4] at H; exact H) | (simp only [hji4] at H ⊢; exact H)
    (try rw [hji4] at c2b0)
    have hji4w : (IntKind.i64.wrap ((l0.length : Int) - 4)) = ji4 := (i64_w _).trans hji4
    by_cases c5 : 0 ≤ (ji4)
    · rw [if_pos c5] at H
      have c5b0 := eq_true c5
      have c5b1 : decide (0 ≤ (ji4)) = true := decide_eq_true c5
      clear c5
      by_cases c6 : (ji4) ≤ (l0.length : Int)
      · rw [if_pos c6] at H
        have c6b0 := eq_true c6
        have c6b1 : decide ((ji4) ≤ (l0.length : Int)) = true := decide_eq_true c6
        clear c6
        have c7b0 := eq_true (of_decide_eq_true (by first | (with_reducible assumption) | assumption) : 0 ≤ (ji4))
        have c8b0 := eq_true (of_decide_eq_true (by first | (with_reducible assumption) | assumption) : (ji4) ≤ (l0.length : Int))
        replace H := Option.bind_eq_some_iff.mp H
        obtain ⟨t300, A90, H⟩ := H
        replace H : ((sum_four.f t300).bind fun t301 => ((slices_Equal_byte_byte.f k (l0.drop ((ji4) : Int).toNat) t301).bind fun t304 => (if t304 = true then ((slices_Clone_byte_byte.f (l0.take ((ji4) : Int).toNat)).bind fun t306 => (some (t306, true))) else (some (([] : List Int), false))))) = some (r1, r2) := H
        have A9 := Aside0.mk A90
        clear A90
        replace H := Option.bind_eq_some_iff.mp H
        obtain ⟨t301, A100, H⟩ := H
        replace H : ((slices_Equal_byte_byte.f k (l0.drop ((ji4) : Int).toNat) t301).bind fun t304 => (if t304 = true then ((slices_Clone_byte_byte.f (l0.take ((ji4) : Int).toNat)).bind fun t306 => (some (t306, true))) else (some (([] : List Int), false)))) = some (r1, r2) := H
        have A10 := Aside0.mk A100
        clear A100
        replace H := Option.bind_eq_some_iff.mp H
        obtain ⟨t304, A110, H⟩ := H
        replace H : (if t304 = true then ((slices_Clone_byte_byte.f (l0.take ((ji4) : Int).toNat)).bind fun t306 => (some (t306, true))) else (some (([] : List Int), false))) = some (r1, r2) := H
        have A11 := Aside0.mk A110
        clear A110
        by_cases c12 : t304 = true
        · subst c12
          have H1 : ((slices_Clone_byte_byte.f (l0.take ((ji4) : Int).toNat)).bind fun t306 => (some (t306, true))) = some (r1, r2) := by rw [if_pos rfl] at H; exact H
          clear H
          have H := H1
          clear H1
          have c13b0 := eq_true (of_decide_eq_true (by first | (with_reducible assumption) | assumption) : 0 ≤ (ji4))
          have c14b0 := eq_true (of_decide_eq_true (by first | (with_reducible assumption) | assumption) : (ji4) ≤ (l0.length : Int))
          replace H := Option.bind_eq_some_iff.mp H
          obtain ⟨t306, A150, H⟩ := H
          replace H : (some (t306, true)) = some (r1, r2) := H
          have A15 := Aside0.mk A150
          clear A150
          simp only [Option.some.injEq, Prod.mk.injEq] at H
          obtain ⟨rfl, rfl⟩ := H
          go_enter Try.func33, Try.ntmps33
          try go_wp2
          have n0_ := Aside0.mk (below_drew1 HB.out)
          clear HB
          have HB := n0_
          clear n0_
          obtain ⟨i017, hi017, _, hsz17, _⟩ := info_parts info5
          obtain ⟨A17, hcut17, hA17, hC17⟩ := print_drop_of (P := Try.prog) (Value.int .u8) 0 23 5 .i64 Try.underlying23 hi017 hsz17 A0 c0 l0 (ji4) (of_decide_eq_true (by first | (with_reducible assumption) | assumption)) (of_decide_eq_true (by first | (with_reducible assumption) | assumption)) HC0.out
          have HR298 := Aside0.mk (Kd.C_of_reads (h1 := fun _ => rfl) (hA17 _ (Kd.reads_of_C HR0.out)))
          have HC298 := Aside0.mk hC17
          clear hA17 hC17 hi017 hsz17
          obtain ⟨i018, hi018, _, hsz18, _⟩ := info_parts info5
          obtain ⟨hcut18, hA18, hC18⟩ := print_take_of (P := Try.prog) (Value.int .u8) 0 23 5 .i64 Try.underlying23 hi018 hsz18 A0 c0 l0 (ji4) (of_decide_eq_true (by first | (with_reducible assumption) | assumption)) (of_decide_eq_true (by first | (with_reducible assumption) | assumption)) HC0.out
          have HR299 := Aside0.mk (Kd.C_of_reads (h1 := fun _ => rfl) (hA18 _ (Kd.reads_of_C HR0.out)))
          have HC299 := Aside0.mk hC18
          clear hA18 hC18 hi018 hsz18
          refine start_ (n := 14) (S := fun w' => True) (ds := []) #[false, false, false, false, false, false, false, false, false, false, false, false, false, false] (by kernel_rfl) rfl rfl trivial (fun hHeld => ?_); refine with_tabW sum_Cut.tab2 sum_Cut.bits2 (fun HT_ HW_ => ?_)
          generalize w.drew = w16 at HB HR298 HR299 hHeld ⊢
          refine pure_ (i := 0) (N := some 8) (v := ?_) (a' := ?_) #[true, false, false, false, false, false, false, false, false, false, false, false, false, false] rfl rfl (any_of HT_.out (by kernel_rfl)) (fun _ _ _ h => h) (Or.inl ⟨by rfl, ?_⟩) ?_ ?_
          rotate_left
          · intro w'
            go_simp
            with_reducible rfl
          rotate_left
          · simp only [Act.put, List.setIfInBounds_toArray, List.set_cons_zero, List.set_cons_succ, i64_w, i32_w]
            rfl
          refine pure_ (i := 1) (N := some 9) (v := ?_) (a' := ?_) #[true, true, false, false, false, false, false, false, false, false, false, false, false, false] rfl rfl (any_of HT_.out (by kernel_rfl)) (fun _ _ _ h => h) (Or.inl ⟨by rfl, ?_⟩) ?_ ?_
          rotate_left
          · intro w'
            go_simp
            with_reducible rfl
          rotate_left
          · simp only [Act.put, List.setIfInBounds_toArray, List.set_cons_zero, List.set_cons_succ, i64_w, i32_w]
            rfl
          refine pure_ (i := 2) (N := some 10) (v := ?_) (a' := ?_) #[true, true, true, false, false, false, false, false, false, false, false, false, false, false] rfl rfl (any_of HT_.out (by kernel_rfl)) (fun _ _ _ h => h) (Or.inl ⟨by rfl, ?_⟩) ?_ ?_
          rotate_left
          · intro w'
            go_simp
            with_reducible rfl
          rotate_left
          · simp only [Act.put, List.setIfInBounds_toArray, List.set_cons_zero, List.set_cons_succ, i64_w, i32_w]
            rfl
          refine pure_ (i := 3) (N := some 11) (v := ?_) (a' := ?_) #[true, true, true, true, false, false, false, false, false, false, false, false, false, false] rfl rfl (any_of HT_.out (by kernel_rfl)) (fun _ _ _ h => h) (Or.inl ⟨by rfl, ?_⟩) ?_ ?_
          rotate_left
          · intro w'
            go_simp
            with_reducible rfl
          rotate_left
          · simp only [Act.put, List.setIfInBounds_toArray, List.set_cons_zero, List.set_cons_succ, i64_w, i32_w]
            rfl
          refine pure_ (i := 4) (N := some 12) (v := ?_) (a' := ?_) #[true, true, true, true, true, false, false, false, false, false, false, false, false, false] rfl rfl (any_of HT_.out (by kernel_rfl)) (fun _ _ _ h => h) (Or.inl ⟨by rfl, ?_⟩) ?_ ?_
          rotate_left
          · intro w'
            go_simp
            with_reducible rfl
          rotate_left
          · simp only [Act.put, List.setIfInBounds_toArray, List.set_cons_zero, List.set_cons_succ, i64_w, i32_w]
            rfl
          refine pure_ (i := 5) (N := some 13) (v := ?_) (a' := ?_) #[true, true, true, true, true, true, false, false, false, false, false, false, false, false] rfl rfl (any_of HT_.out (by kernel_rfl)) (fun _ _ _ h => h) (Or.inl ⟨by rfl, ?_⟩) ?_ ?_
          rotate_left
          · intro w'
            go_simp
            with_reducible rfl
          rotate_left
          · simp only [Act.put, List.setIfInBounds_toArray, List.set_cons_zero, List.set_cons_succ, i64_w, i32_w]
            rfl
          refine pure_ (i := 6) (N := some 14) (v := ?_) (a' := ?_) #[true, true, true, true, true, true, true, false, false, false, false, false, false, false] rfl rfl (any_of HT_.out (by kernel_rfl)) (fun _ _ _ h => h) (Or.inl ⟨by rfl, ?_⟩) ?_ ?_
          rotate_left
          · intro w'
            go_simp
            with_reducible rfl
          rotate_left
          · simp only [Act.put, List.setIfInBounds_toArray, List.set_cons_zero, List.set_cons_succ, i64_w, i32_w]
            rfl
          refine pure_ (i := 7) (N := some 15) (v := ?_) (a' := ?_) #[true, true, true, true, true, true, true, true, false, false, false, false, false, false] rfl rfl (any_of HT_.out (by kernel_rfl)) (fun _ _ _ h => h) (Or.inl ⟨by rfl, ?_⟩) ?_ ?_
          rotate_left
          · intro w'
            go_simp
            with_reducible rfl
          rotate_left
          · simp only [Act.put, List.setIfInBounds_toArray, List.set_cons_zero, List.set_cons_succ, i64_w, i32_w]
            rfl
          refine pure_ (i := 8) (N := some 16) (v := ?_) (a' := ?_) #[true, true, true, true, true, true, true, true, true, false, false, false, false, false] rfl rfl (any_of HT_.out (by kernel_rfl)) (fun _ _ _ h => h) (Or.inl ⟨by rfl, ?_⟩) ?_ ?_
          rotate_left
          · intro w'
            go_simp
            with_reducible rfl
          rotate_left
          · simp only [Act.put, List.setIfInBounds_toArray, List.set_cons_zero, List.set_cons_succ, i64_w, i32_w]
            rfl
          refine one_ (i := 9) (N := some 17) #[true, true, true, true, true, true, true, true, true, true, false, false, false, false] rfl rfl (one_of HT_.out (by kernel_rfl)) (by decide) (fun K hK => ?_)
          refine goes_ Try.func35 (by kernel_rfl) rfl #[.slice A0 (l0.take ((ji4) : Int).toNat).length c0] (by rfl) rfl rfl (by (try simp only [List.map_toArray, List.map_cons, List.map_nil]); first | done | (rw [show (l0.take ((ji4) : Int).toNat).length = (ji4).toNat from (by rw [List.length_take]; have h_ : ((ji4) : Int) ≤ (l0.length : Int) := of_decide_eq_true (by first | (with_reducible assumption) | assumption); omega)] <;> rfl) | (simp only [hji4]; rfl) | rfl | (simp only [List.length_drop, List.length_take]; rfl)) ?_
          with_reducible refine (sum_Of.calls _ _ (l0.take ((ji4) : Int).toNat) t300 _ ?side1 ?side2 A9.out).mono ?_
          (case side1 => repeat (first | exact (Kd.C_below HR299.out HB.out) | (with_reducible refine Kd.C_alloc ?_ _) | (with_reducible refine Kd.C_drewN ?_ _) | (with_reducible refine Kd.C_drew ?_)))
          (case side2 => exact HC299.out)
          rintro e w19 ⟨rfl, hb⟩
          refine ⟨_, rfl, ?_⟩
          have n0_ := Aside0.mk (below_step (by repeat (first | (with_reducible first | exact HB.out | apply below_alloc | apply pw_below_drewN | apply below_drew1) | exact HB.out)) hb)
          clear HB
          have HB := n0_
          clear n0_
          (try clear hb)
          (try clear hb2)
          (try clear hk)
          (try clear hi)
          refine hK.out _ _ trivial (fun hHeld => ?_)
          clear hK K
          refine norm_ (a' := ?_) ?_ ?_
          rotate_left
          · show Act.put _ (some 17) _ = _
            simp only [Act.put, List.setIfInBounds_toArray, List.set_cons_zero, List.set_cons_succ, i64_w, i32_w]
            rfl
          refine one_ (i := 10) (N := some 18) #[true, true, true, true, true, true, true, true, true, true, true, false, false, false] rfl rfl (one_of HT_.out (by kernel_rfl)) (by decide) (fun K hK => ?_)
          refine goes_ Try.func70 (by kernel_rfl) rfl #[.int .u32 t300] (by rfl) rfl rfl (by (try simp only [List.map_toArray, List.map_cons, List.map_nil]); first | done | rfl | (simp only [List.length_drop, List.length_take]; rfl)) ?_
          with_reducible refine (sum_four.calls t300 t301 _ A10.out).mono ?_
          rintro e w20 ⟨v302, rfl, ho0, hb⟩
          refine ⟨_, rfl, ?_⟩
          have n0_ := Aside0.mk (Kd.R_lower ho0 (below_size (by repeat (first | (with_reducible first | exact HB.out | apply below_alloc | apply pw_below_drewN | apply below_drew1) | exact HB.out))))
          have n1_ := Aside0.mk (below_step (by repeat (first | (with_reducible first | exact HB.out | apply below_alloc | apply pw_below_drewN | apply below_drew1) | exact HB.out)) hb)
          clear HB
          have HO303 := n0_
          have HB := n1_
          clear n0_ n1_
          (try clear hb)
          (try clear hb2)
          (try clear hk)
          (try clear hi)
          (try clear ho0)
          obtain ⟨Ao21, co21, eo21⟩ := Kd.R_slice HO303.out
          (first | subst eo21 | (injection eo21 with f1_ f2_ f3_; have f4_ := f1_.symm; have f5_ := f3_.symm; clear f1_ f2_ f3_; subst f4_; subst f5_))
          refine hK.out _ _ trivial (fun hHeld => ?_)
          clear hK K
          refine norm_ (a' := ?_) ?_ ?_
          rotate_left
          · show Act.put _ (some 18) _ = _
            simp only [Act.put, List.setIfInBounds_toArray, List.set_cons_zero, List.set_cons_succ, i64_w, i32_w]
            rfl
          refine one_ (i := 11) (N := some 19) #[true, true, true, true, true, true, true, true, true, true, true, true, false, false] rfl rfl (one_of HT_.out (by kernel_rfl)) (by decide) (fun K hK => ?_)
          refine goes_ Try.func69 (by kernel_rfl) rfl #[.slice A17 (l0.drop ((ji4) : Int).toNat).length (c0 - (ji4).toNat), .slice Ao21 t301.length co21] (by rfl) rfl rfl (by (try simp only [List.map_toArray, List.map_cons, List.map_nil]); first | done | (rw [show (l0.drop ((ji4) : Int).toNat).length = (l0.length - (ji4).toNat) from List.length_drop] <;> rfl) | (simp only [hji4]; rfl) | rfl | (simp only [List.length_drop, List.length_take]; rfl)) ?_
          with_reducible refine (slices_Equal_byte_byte.calls k _ _ (l0.drop ((ji4) : Int).toNat) _ _ t301 true _ ?side1 ?side2 ?side3 ?side4 A11.out).mono ?_
          (case side1 => repeat (first | exact (Kd.C_below HR298.out HB.out) | (with_reducible refine Kd.C_alloc ?_ _) | (with_reducible refine Kd.C_drewN ?_ _) | (with_reducible refine Kd.C_drew ?_)))
          (case side2 => exact HC298.out)
          (case side3 => repeat (first | exact (Kd.R_reads' HO303.out).2.2 | (with_reducible refine Kd.C_alloc ?_ _) | (with_reducible refine Kd.C_drewN ?_ _) | (with_reducible refine Kd.C_drew ?_)))
          (case side4 => exact (Kd.R_reads' HO303.out).2.1)
          rintro e w' ⟨rfl, ⟨nd, rfl⟩⟩
          refine ⟨_, rfl, ?_⟩
          refine hK.out _ _ trivial (fun hHeld => ?_)
          clear hK K
          refine norm_ (a' := ?_) ?_ ?_
          rotate_left
          · show Act.put _ (some 19) _ = _
            simp only [Act.put, List.setIfInBounds_toArray, List.set_cons_zero, List.set_cons_succ, i64_w, i32_w]
            rfl
          refine pure_ (i := 12) (N := some 20) (v := ?_) (a' := ?_) #[true, true, true, true, true, true, true, true, true, true, true, true, true, false] rfl rfl (any_of HT_.out (by kernel_rfl)) (fun _ _ _ h => h) (Or.inl ⟨by rfl, ?_⟩) ?_ ?_
          rotate_left
          · intro w'
            go_simp
            with_reducible rfl
          rotate_left
          · simp only [Act.put, List.setIfInBounds_toArray, List.set_cons_zero, List.set_cons_succ, i64_w, i32_w]
            rfl
          refine pure_ (i := 13) (N := some 21) (v := ?_) (a' := ?_) #[true, true, true, true, true, true, true, true, true, true, true, true, true, true] rfl rfl (any_of HT_.out (by kernel_rfl)) (fun _ _ _ h => h) (Or.inl ⟨by rfl, ?_⟩) ?_ ?_
          rotate_left
          · intro w'
            go_simp
            with_reducible rfl
          rotate_left
          · simp only [Act.put, List.setIfInBounds_toArray, List.set_cons_zero, List.set_cons_succ, i64_w, i32_w]
            rfl
          refine done_ (done_of HT_.out (by kernel_rfl)) ?_
          obtain ⟨i022, hi022, _, hsz22, _⟩ := info_parts info5
          obtain ⟨hcut22, hA22, hC22⟩ := print_take_of (P := Try.prog) (Value.int .u8) 0 23 5 .i64 Try.underlying23 hi022 hsz22 A0 c0 l0 (ji4) (of_decide_eq_true (by first | (with_reducible assumption) | assumption)) (of_decide_eq_true (by first | (with_reducible assumption) | assumption)) HC0.out
          have HR305 := Aside0.mk (Kd.C_of_reads (h1 := fun _ => rfl) (hA22 _ (Kd.reads_of_C HR0.out)))
          have HC305 := Aside0.mk hC22
          clear hA22 hC22 hi022 hsz22
          try go_wp2_with (first | ((with_reducible refine gate_callee (f := 71) rfl ?_); refine goesL_ (some 25) rfl rfl Try.func71 (by kernel_rfl) rfl #[.slice A0 (l0.take ((ji4) : Int).toNat).length c0] rfl (by (try simp only [List.map_toArray, List.map_cons, List.map_nil]); first | done | (rw [show (l0.take ((ji4) : Int).toNat).length = (ji4).toNat from (by rw [List.length_take]; have h_ : ((ji4) : Int) ≤ (l0.length : Int) := of_decide_eq_true (by first | (with_reducible assumption) | assumption); omega)] <;> rfl) | (simp only [hji4]; rfl) | rfl | (simp only [List.length_drop, List.length_take]; rfl)) ?_; (with_reducible refine (slices_Clone_byte_byte.calls _ _ (l0.take ((ji4) : Int).toNat) t306 _ ?side1 ?side2 A15.out).mono ?_); (case side1 => repeat (first | exact (Kd.C_below HR305.out (by repeat (first | (with_reducible first | exact HB.out | apply below_alloc | apply pw_below_drewN | apply below_drew1) | exact HB.out))) | (with_reducible refine Kd.C_alloc ?_ _) | (with_reducible refine Kd.C_drewN ?_ _) | (with_reducible refine Kd.C_drew ?_))); (case side2 => exact HC305.out); rintro e w23 ⟨v307, rfl, ho0, hb⟩; refine ⟨_, rfl, ?_⟩; have n0_ := Aside0.mk (Kd.R_elder' (by (with_reducible repeat (first | apply Kd.R_alloc | apply Kd.R_drewN | apply Kd.R_drew)); exact HO303.out) (Kd.R_base ho0) hb); have n1_ := Aside0.mk (Kd.R_lower (Kd.R_new' ho0 (Kd.R_lt (by (with_reducible repeat (first | apply Kd.R_alloc | apply Kd.R_drewN | apply Kd.R_drew)); exact HO303.out))) (below_size (by repeat (first | (with_reducible first | exact HB.out | apply below_alloc | apply pw_below_drewN | apply below_drew1) | exact HB.out)))); have n2_ := Aside0.mk (below_step (by repeat (first | (with_reducible first | exact HB.out | apply below_alloc | apply pw_below_drewN | apply below_drew1) | exact HB.out)) hb); clear HO303; clear HB; have HO303 := n0_; have HO308 := n1_; have HB := n2_; clear n0_ n1_ n2_; (try clear hb); (try clear hb2); (try clear hk); (try clear hi); (try clear ho0)))
          go_ret2
          exact ⟨_, by first | rfl | (simp [errW_none, errW_some] <;> rfl) | (simp only [← hji4]; first | rfl | (simp [errW_none, errW_some] <;> rfl)) | (simp [*, errW_none, errW_some] <;> rfl), by (with_reducible repeat (first | apply Kd.R_alloc | apply Kd.R_drewN | apply Kd.R_drew)); exact Kd.R_mono HO308.out (fun _ hk => trivial), by repeat (first | (with_reducible first | exact HB.out | apply below_alloc | apply pw_below_drewN | apply below_drew1) | exact HB.out)⟩
        · replace c12 := Bool.eq_false_iff.mpr c12
          subst c12
          have H1 : (some (([] : List Int), false)) = some (r1, r2) := by rw [if_neg (show ¬ (false = true) by decide)] at H; exact H
          clear H
          have H := H1
          clear H1
          simp only [Option.some.injEq, Prod.mk.injEq] at H
          obtain ⟨rfl, rfl⟩ := H
          go_enter Try.func33, Try.ntmps33
          try go_wp2
          have n0_ := Aside0.mk (below_drew1 HB.out)
          clear HB
          have HB := n0_
          clear n0_
          obtain ⟨i025, hi025, _, hsz25, _⟩ := info_parts info5
          obtain ⟨A25, hcut25, hA25, hC25⟩ := print_drop_of (P := Try.prog) (Value.int .u8) 0 23 5 .i64 Try.underlying23 hi025 hsz25 A0 c0 l0 (ji4) (of_decide_eq_true (by first | (with_reducible assumption) | assumption)) (of_decide_eq_true (by first | (with_reducible assumption) | assumption)) HC0.out
          have HR298 := Aside0.mk (Kd.C_of_reads (h1 := fun _ => rfl) (hA25 _ (Kd.reads_of_C HR0.out)))
          have HC298 := Aside0.mk hC25
          clear hA25 hC25 hi025 hsz25
          obtain ⟨i026, hi026, _, hsz26, _⟩ := info_parts info5
          obtain ⟨hcut26, hA26, hC26⟩ := print_take_of (P := Try.prog) (Value.int .u8) 0 23 5 .i64 Try.underlying23 hi026 hsz26 A0 c0 l0 (ji4) (of_decide_eq_true (by first | (with_reducible assumption) | assumption)) (of_decide_eq_true (by first | (with_reducible assumption) | assumption)) HC0.out
          have HR299 := Aside0.mk (Kd.C_of_reads (h1 := fun _ => rfl) (hA26 _ (Kd.reads_of_C HR0.out)))
          have HC299 := Aside0.mk hC26
          clear hA26 hC26 hi026 hsz26
          refine start_ (n := 14) (S := fun w' => True) (ds := []) #[false, false, false, false, false, false, false, false, false, false, false, false, false, false] (by kernel_rfl) rfl rfl trivial (fun hHeld => ?_); refine with_tabW sum_Cut.tab2 sum_Cut.bits2 (fun HT_ HW_ => ?_)
          generalize w.drew = w24 at HB HR298 HR299 hHeld ⊢
          refine pure_ (i := 0) (N := some 8) (v := ?_) (a' := ?_) #[true, false, false, false, false, false, false, false, false, false, false, false, false, false] rfl rfl (any_of HT_.out (by kernel_rfl)) (fun _ _ _ h => h) (Or.inl ⟨by rfl, ?_⟩) ?_ ?_
          rotate_left
          · intro w'
            go_simp
            with_reducible rfl
          rotate_left
          · simp only [Act.put, List.setIfInBounds_toArray, List.set_cons_zero, List.set_cons_succ, i64_w, i32_w]
            rfl
          refine pure_ (i := 1) (N := some 9) (v := ?_) (a' := ?_) #[true, true, false, false, false, false, false, false, false, false, false, false, false, false] rfl rfl (any_of HT_.out (by kernel_rfl)) (fun _ _ _ h => h) (Or.inl ⟨by rfl, ?_⟩) ?_ ?_
          rotate_left
          · intro w'
            go_simp
            with_reducible rfl
          rotate_left
          · simp only [Act.put, List.setIfInBounds_toArray, List.set_cons_zero, List.set_cons_succ, i64_w, i32_w]
            rfl
          refine pure_ (i := 2) (N := some 10) (v := ?_) (a' := ?_) #[true, true, true, false, false, false, false, false, false, false, false, false, false, false] rfl rfl (any_of HT_.out (by kernel_rfl)) (fun _ _ _ h => h) (Or.inl ⟨by rfl, ?_⟩) ?_ ?_
          rotate_left
          · intro w'
            go_simp
            with_reducible rfl
          rotate_left
          · simp only [Act.put, List.setIfInBounds_toArray, List.set_cons_zero, List.set_cons_succ, i64_w, i32_w]
            rfl
          refine pure_ (i := 3) (N := some 11) (v := ?_) (a' := ?_) #[true, true, true, true, false, false, false, false, false, false, false, false, false, false] rfl rfl (any_of HT_.out (by kernel_rfl)) (fun _ _ _ h => h) (Or.inl ⟨by rfl, ?_⟩) ?_ ?_
          rotate_left
          · intro w'
            go_simp
            with_reducible rfl
          rotate_left
          · simp only [Act.put, List.setIfInBounds_toArray, List.set_cons_zero, List.set_cons_succ, i64_w, i32_w]
            rfl
          refine pure_ (i := 4) (N := some 12) (v := ?_) (a' := ?_) #[true, true, true, true, true, false, false, false, false, false, false, false, false, false] rfl rfl (any_of HT_.out (by kernel_rfl)) (fun _ _ _ h => h) (Or.inl ⟨by rfl, ?_⟩) ?_ ?_
          rotate_left
          · intro w'
            go_simp
            with_reducible rfl
          rotate_left
          · simp only [Act.put, List.setIfInBounds_toArray, List.set_cons_zero, List.set_cons_succ, i64_w, i32_w]
            rfl
          refine pure_ (i := 5) (N := some 13) (v := ?_) (a' := ?_) #[true, true, true, true, true, true, false, false, false, false, false, false, false, false] rfl rfl (any_of HT_.out (by kernel_rfl)) (fun _ _ _ h => h) (Or.inl ⟨by rfl, ?_⟩) ?_ ?_
          rotate_left
          · intro w'
            go_simp
            with_reducible rfl
          rotate_left
          · simp only [Act.put, List.setIfInBounds_toArray, List.set_cons_zero, List.set_cons_succ, i64_w, i32_w]
            rfl
          refine pure_ (i := 6) (N := some 14) (v := ?_) (a' := ?_) #[true, true, true, true, true, true, true, false, false, false, false, false, false, false] rfl rfl (any_of HT_.out (by kernel_rfl)) (fun _ _ _ h => h) (Or.inl ⟨by rfl, ?_⟩) ?_ ?_
          rotate_left
          · intro w'
            go_simp
            with_reducible rfl
          rotate_left
          · simp only [Act.put, List.setIfInBounds_toArray, List.set_cons_zero, List.set_cons_succ, i64_w, i32_w]
            rfl
          refine pure_ (i := 7) (N := some 15) (v := ?_) (a' := ?_) #[true, true, true, true, true, true, true, true, false, false, false, false, false, false] rfl rfl (any_of HT_.out (by kernel_rfl)) (fun _ _ _ h => h) (Or.inl ⟨by rfl, ?_⟩) ?_ ?_
          rotate_left
          · intro w'
            go_simp
            with_reducible rfl
          rotate_left
          · simp only [Act.put, List.setIfInBounds_toArray, List.set_cons_zero, List.set_cons_succ, i64_w, i32_w]
            rfl
          refine pure_ (i := 8) (N := some 16) (v := ?_) (a' := ?_) #[true, true, true, true, true, true, true, true, true, false, false, false, false, false] rfl rfl (any_of HT_.out (by kernel_rfl)) (fun _ _ _ h => h) (Or.inl ⟨by rfl, ?_⟩) ?_ ?_
          rotate_left
          · intro w'
            go_simp
            with_reducible rfl
          rotate_left
          · simp only [Act.put, List.setIfInBounds_toArray, List.set_cons_zero, List.set_cons_succ, i64_w, i32_w]
            rfl
          refine one_ (i := 9) (N := some 17) #[true, true, true, true, true, true, true, true, true, true, false, false, false, false] rfl rfl (one_of HT_.out (by kernel_rfl)) (by decide) (fun K hK => ?_)
          refine goes_ Try.func35 (by kernel_rfl) rfl #[.slice A0 (l0.take ((ji4) : Int).toNat).length c0] (by rfl) rfl rfl (by (try simp only [List.map_toArray, List.map_cons, List.map_nil]); first | done | (rw [show (l0.take ((ji4) : Int).toNat).length = (ji4).toNat from (by rw [List.length_take]; have h_ : ((ji4) : Int) ≤ (l0.length : Int) := of_decide_eq_true (by first | (with_reducible assumption) | assumption); omega)] <;> rfl) | (simp only [hji4]; rfl) | rfl | (simp only [List.length_drop, List.length_take]; rfl)) ?_
          with_reducible refine (sum_Of.calls _ _ (l0.take ((ji4) : Int).toNat) t300 _ ?side1 ?side2 A9.out).mono ?_
          (case side1 => repeat (first | exact (Kd.C_below HR299.out HB.out) | (with_reducible refine Kd.C_alloc ?_ _) | (with_reducible refine Kd.C_drewN ?_ _) | (with_reducible refine Kd.C_drew ?_)))
          (case side2 => exact HC299.out)
          rintro e w27 ⟨rfl, hb⟩
          refine ⟨_, rfl, ?_⟩
          have n0_ := Aside0.mk (below_step (by repeat (first | (with_reducible first | exact HB.out | apply below_alloc | apply pw_below_drewN | apply below_drew1) | exact HB.out)) hb)
          clear HB
          have HB := n0_
          clear n0_
          (try clear hb)
          (try clear hb2)
          (try clear hk)
          (try clear hi)
          refine hK.out _ _ trivial (fun hHeld => ?_)
          clear hK K
          refine norm_ (a' := ?_) ?_ ?_
          rotate_left
          · show Act.put _ (some 17) _ = _
            simp only [Act.put, List.setIfInBounds_toArray, List.set_cons_zero, List.set_cons_succ, i64_w, i32_w]
            rfl
          refine one_ (i := 10) (N := some 18) #[true, true, true, true, true, true, true, true, true, true, true, false, false, false] rfl rfl (one_of HT_.out (by kernel_rfl)) (by decide) (fun K hK => ?_)
          refine goes_ Try.func70 (by kernel_rfl) rfl #[.int .u32 t300] (by rfl) rfl rfl (by (try simp only [List.map_toArray, List.map_cons, List.map_nil]); first | done | rfl | (simp only [List.length_drop, List.length_take]; rfl)) ?_
          with_reducible refine (sum_four.calls t300 t301 _ A10.out).mono ?_
          rintro e w28 ⟨v302, rfl, ho0, hb⟩
          refine ⟨_, rfl, ?_⟩
          have n0_ := Aside0.mk (Kd.R_lower ho0 (below_size (by repeat (first | (with_reducible first | exact HB.out | apply below_alloc | apply pw_below_drewN | apply below_drew1) | exact HB.out))))
          have n1_ := Aside0.mk (below_step (by repeat (first | (with_reducible first | exact HB.out | apply below_alloc | apply pw_below_drewN | apply below_drew1) | exact HB.out)) hb)
          clear HB
          have HO303 := n0_
          have HB := n1_
          clear n0_ n1_
          (try clear hb)
          (try clear hb2)
          (try clear hk)
          (try clear hi)
          (try clear ho0)
          obtain ⟨Ao29, co29, eo29⟩ := Kd.R_slice HO303.out
          (first | subst eo29 | (injection eo29 with f1_ f2_ f3_; have f4_ := f1_.symm; have f5_ := f3_.symm; clear f1_ f2_ f3_; subst f4_; subst f5_))
          refine hK.out _ _ trivial (fun hHeld => ?_)
          clear hK K
          refine norm_ (a' := ?_) ?_ ?_
          rotate_left
          · show Act.put _ (some 18) _ = _
            simp only [Act.put, List.setIfInBounds_toArray, List.set_cons_zero, List.set_cons_succ, i64_w, i32_w]
            rfl
          refine one_ (i := 11) (N := some 19) #[true, true, true, true, true, true, true, true, true, true, true, true, false, false] rfl rfl (one_of HT_.out (by kernel_rfl)) (by decide) (fun K hK => ?_)
          refine goes_ Try.func69 (by kernel_rfl) rfl #[.slice A25 (l0.drop ((ji4) : Int).toNat).length (c0 - (ji4).toNat), .slice Ao29 t301.length co29] (by rfl) rfl rfl (by (try simp only [List.map_toArray, List.map_cons, List.map_nil]); first | done | (rw [show (l0.drop ((ji4) : Int).toNat).length = (l0.length - (ji4).toNat) from List.length_drop] <;> rfl) | (simp only [hji4]; rfl) | rfl | (simp only [List.length_drop, List.length_take]; rfl)) ?_
          with_reducible refine (slices_Equal_byte_byte.calls k _ _ (l0.drop ((ji4) : Int).toNat) _ _ t301 false _ ?side1 ?side2 ?side3 ?side4 A11.out).mono ?_
          (case side1 => repeat (first | exact (Kd.C_below HR298.out HB.out) | (with_reducible refine Kd.C_alloc ?_ _) | (with_reducible refine Kd.C_drewN ?_ _) | (with_reducible refine Kd.C_drew ?_)))
          (case side2 => exact HC298.out)
          (case side3 => repeat (first | exact (Kd.R_reads' HO303.out).2.2 | (with_reducible refine Kd.C_alloc ?_ _) | (with_reducible refine Kd.C_drewN ?_ _) | (with_reducible refine Kd.C_drew ?_)))
          (case side4 => exact (Kd.R_reads' HO303.out).2.1)
          rintro e w' ⟨rfl, ⟨nd, rfl⟩⟩
          refine ⟨_, rfl, ?_⟩
          refine hK.out _ _ trivial (fun hHeld => ?_)
          clear hK K
          refine norm_ (a' := ?_) ?_ ?_
          rotate_left
          · show Act.put _ (some 19) _ = _
            simp only [Act.put, List.setIfInBounds_toArray, List.set_cons_zero, List.set_cons_succ, i64_w, i32_w]
            rfl
          refine pure_ (i := 12) (N := some 20) (v := ?_) (a' := ?_) #[true, true, true, true, true, true, true, true, true, true, true, true, true, false] rfl rfl (any_of HT_.out (by kernel_rfl)) (fun _ _ _ h => h) (Or.inl ⟨by rfl, ?_⟩) ?_ ?_
          rotate_left
          · intro w'
            go_simp
            with_reducible rfl
          rotate_left
          · simp only [Act.put, List.setIfInBounds_toArray, List.set_cons_zero, List.set_cons_succ, i64_w, i32_w]
            rfl
          refine pure_ (i := 13) (N := some 21) (v := ?_) (a' := ?_) #[true, true, true, true, true, true, true, true, true, true, true, true, true, true] rfl rfl (any_of HT_.out (by kernel_rfl)) (fun _ _ _ h => h) (Or.inl ⟨by rfl, ?_⟩) ?_ ?_
          rotate_left
          · intro w'
            go_simp
            with_reducible rfl
          rotate_left
          · simp only [Act.put, List.setIfInBounds_toArray, List.set_cons_zero, List.set_cons_succ, i64_w, i32_w]
            rfl
          refine done_ (done_of HT_.out (by kernel_rfl)) ?_
          try go_wp2
          go_ret2
          exact ⟨_, by first | rfl | (simp [errW_none, errW_some] <;> rfl) | (simp only [← hji4]; first | rfl | (simp [errW_none, errW_some] <;> rfl)) | (simp [*, errW_none, errW_some] <;> rfl), by first | exact Kd.R_nil _ _ _ _ _ | exact Kd.N_nil _ _ _ _ _ | exact Kd.V_nil _ _ _ _ _ | exact Kd.Q_nil _ _ _ _ _ | exact Kd.S_nil _ _ _ _ _, by repeat (first | (with_reducible first | exact HB.out | apply below_alloc | apply pw_below_drewN | apply below_drew1) | exact HB.out)⟩
      · rw [if_neg c6] at H
        exact absurd H (by simp)
    · rw [if_neg c5] at H
      exact absurd H (by simp)
def frame_Bytes.f (a0_0 : Int) (l0_1 : List Int) : Option (List Int × Int) := if (l0_1.length : Int) > 400 then (some (([] : List Int), 4)) else ((frame_low_int.f (l0_1.length : Int)).bind fun bt411 => ((frame_low_int.f bt411.2).bind fun bt413 => ((sum_Put.f (([a0_0, bt411.1, bt413.1] : List Int))).bind fun t418 => ((sum_Put.f l0_1).bind fun t421 => (if t418.length + t421.length < 140737488355328 then (some ((t418 ++ t421), 0)) else (none))))))
def frame_Bytes.T5 : Bool × List (List Nat × List Nat) := (true, [([], []), ([0], [0]), ([], []), ([], []), ([1, 2, 3], [1, 2, 3]), ([4], [4]), ([], []), ([6], [6]), ([7, 5], [7]), ([5, 8, 8], [5, 8]), ([9, 9, 0, 1, 2, 3, 4, 5, 6, 7, 8, 9], [9]), ([10, 0, 1, 2, 3, 4, 5, 6, 7, 8, 9, 10], [])])
def frame_Bytes.B5 : List Nat := [0, 1, 0, 0, 15, 31, 0, 64, 255, 511, 1023, 2047]
theorem frame_Bytes.tab5 : rtab .any (opsOf Try.f45 5) = frame_Bytes.T5 := by kernel_rfl
theorem frame_Bytes.bits5 : waitsOk frame_Bytes.T5.2 frame_Bytes.B5 = true := by kernel_rfl
set_option maxHeartbeats 8000000 in
set_option maxRecDepth 100000 in
theorem frame_Bytes.calls (a0_0 : Int) (A0_1 : Option Addr) (c0_1 : Nat) (l0_1 : List Int) (r1 : List Int) (r2 : Int) (w : World) (hr0_1 : Kd.C (Kd.int .u8) w A0_1 l0_1.length l0_1) (hc0_1 : l0_1.length ≤ c0_1) (h : frame_Bytes.f a0_0 l0_1 = some (r1, r2)) :
    Calls Try.prog 45 #[.agg #[.int .u8 a0_0, .slice A0_1 l0_1.length c0_1]] w fun e w' => ∃ v0_ : Value, e = .returned (.tuple #[v0_, .int .i64 r2]) ∧ Kd.R (Kd.int .u8) 5 w' w.heap.size (fun _ => True) v0_ r1 ∧ Below w.heap.size w w' := by
  have hu56 := Try.underlying56
  have HR0_1 := Aside0.mk hr0_1
  have HC0_1 := Aside0.mk hc0_1
  clear hr0_1 hc0_1
  have HB := Aside0.mk (Below.refl w.heap.size w)
  have H : (if (l0_1.length : Int) > 400 then (some (([] : List Int), 4)) else ((frame_low_int.f (l0_1.length : Int)).bind fun bt411 => ((frame_low_int.f bt411.2).bind fun bt413 => ((sum_Put.f (([a0_0, bt411.1, bt413.1] : List Int))).bind fun t418 => ((sum_Put.f l0_1).bind fun t421 => (if t418.length + t421.length < 140737488355328 then (some ((t418 ++ t421), 0)) else (none))))))) = some (r1, r2) := h
  clear h
  by_cases c2 : (l0_1.length : Int) > 400
  · rw [if_pos c2] at H
    have c2b0 : decide (400 < (l0_1.length : Int)) = true := decide_eq_true c2
    have c2b1 : decide (400 < l0_1.length) = true := decide_eq_true (by omega)
    clear c2
    simp only [Option.some.injEq, Prod.mk.injEq] at H
    obtain ⟨rfl, rfl⟩ := H
    go_enter Try.func45, Try.ntmps45
    go_wp2_with (first | ((with_reducible refine gate_dst (N := 1) rfl ?_); refine box_event ?hg (N := 1) ?hd (cs := #[.int .u8 a0_0, .slice A0_1 l0_1.length c0_1]) (t := 56) ?hr ?_; (case hd => rfl); (case hg => rfl); (case hr => first | (go_simp; done) | (go_simp; rfl)); intro gb410 hg w3 hbox hb; have n0_ := Aside0.mk (below_step (by repeat (first | (with_reducible first | exact HB.out | apply below_alloc | apply pw_below_drewN | apply below_drew1) | exact HB.out)) hb); have n1_ := Aside0.mk (hbox); have n2_ := Aside0.mk ((by rw [hg]; exact (below_size (by repeat (first | (with_reducible first | exact HB.out | apply below_alloc | apply pw_below_drewN | apply below_drew1) | exact HB.out))) : w.heap.size ≤ gb410)); have n3_ := Aside0.mk ((by rw [hg]; exact (below_size (by repeat (first | (with_reducible first | exact HB.out | apply below_alloc | apply pw_below_drewN | apply below_drew1) | exact HB.out))) : w.heap.size ≤ gb410)); clear HB; have HB := n0_; have BK410 := n1_; have GW410 := n2_; have GE410 := n3_; clear n0_ n1_ n2_ n3_; clear hb hbox hg; have hcz4_0 : w3.cell? ⟨gb410, 0, none⟩ = some (.int .u8 a0_0) := (blk_cell BK410.out 0).trans rfl; have hcz4_1 : w3.cell? ⟨gb410, 1, none⟩ = some (.slice A0_1 l0_1.length c0_1) := (blk_cell BK410.out 1).trans rfl; have hfz4_0 := blk_frozen BK410.out 0; have hfz4_1 := blk_frozen BK410.out 1))
    go_ret2
    exact ⟨_, by first | rfl | (simp [errW_none, errW_some] <;> rfl) | (simp [*, errW_none, errW_some] <;> rfl), by first | exact Kd.R_nil _ _ _ _ _ | exact Kd.N_nil _ _ _ _ _ | exact Kd.V_nil _ _ _ _ _ | exact Kd.Q_nil _ _ _ _ _ | exact Kd.S_nil _ _ _ _ _, by repeat (first | (with_reducible first | exact HB.out | apply below_alloc | apply pw_below_drewN | apply below_drew1 | refine below_set ?_ GE410.out) | exact HB.out)⟩
  · rw [if_neg c2] at H
    have c2b0 : decide (400 < (l0_1.length : Int)) = false := decide_eq_false c2
    have c2b1 : decide (400 < l0_1.length) = false := decide_eq_false (by omega)
    clear c2
    replace H := Option.bind_eq_some_iff.mp H
    obtain ⟨⟨t411, t412⟩, A50, H⟩ := H
    replace H : ((frame_low_int.f t412).bind fun bt413 => ((sum_Put.f (([a0_0, t411, bt413.1] : List Int))).bind fun t418 => ((sum_Put.f l0_1).bind fun t421 => (if t418.length + t421.length < 140737488355328 then (some ((t418 ++ t421), 0)) else (none))))) = some (r1, r2) := H
    have A5 := Aside0.mk A50
    clear A50
    replace H := Option.bind_eq_some_iff.mp H
    obtain ⟨⟨t413, t414⟩, A60, H⟩ := H
    replace H : ((sum_Put.f (([a0_0, t411, t413] : List Int))).bind fun t418 => ((sum_Put.f l0_1).bind fun t421 => (if t418.length + t421.length < 140737488355328 then (some ((t418 ++ t421), 0)) else (none)))) = some (r1, r2) := H
    have A6 := Aside0.mk A60
    clear A60
    obtain ⟨y415, hy415⟩ : ∃ y_ : List Int, y_ = (([a0_0, t411, t413] : List Int)) := ⟨_, rfl⟩
    replace H : ((sum_Put.f y415).bind fun t418 => ((sum_Put.f l0_1).bind fun t421 => (if t418.length + t421.length < 140737488355328 then (some ((t418 ++ t421), 0)) else (none)))) = some (r1, r2) := by first | (rw [hy415]; with_reducible exact H) | (have H2_ := (Option.bind_some _ _).symm.trans H; rw [hy415]; with_reducible exact H2_) | (have H2_ := (Option.bind_some _ _).symm.trans H; with_reducible exact H2_) | with_reducible exact H | (rw [hy415]; exact H) | exact H
    have Ny415 := Aside0.mk hy415
    clear hy415
    replace H := Option.bind_eq_some_iff.mp H
    obtain ⟨t418, A70, H⟩ := H
    replace H : ((sum_Put.f l0_1).bind fun t421 => (if t418.length + t421.length < 140737488355328 then (some ((t418 ++ t421), 0)) else (none))) = some (r1, r2) := H
    have A7 := Aside0.mk A70
    clear A70
    replace H := Option.bind_eq_some_iff.mp H
    obtain ⟨t421, A80, H⟩ := H
    replace H : (if t418.length + t421.length < 140737488355328 then (some ((t418 ++ t421), 0)) else (none)) = some (r1, r2) := H
    have A8 := Aside0.mk A80
    clear A80
    by_cases c9 : t418.length + t421.length < 140737488355328
    · rw [if_pos c9] at H
      have LMc9 := Aside0.mk c9
      clear c9
      obtain ⟨y424, hy424⟩ : ∃ y_ : List Int, y_ = (t418 ++ t421) := ⟨_, rfl⟩
      replace H : (some (y424, 0)) = some (r1, r2) := by first | (rw [hy424]; with_reducible exact H) | (have H2_ := (Option.bind_some _ _).symm.trans H; rw [hy424]; with_reducible exact H2_) | (have H2_ := (Option.bind_some _ _).symm.trans H; with_reducible exact H2_) | with_reducible exact H | (rw [hy424]; exact H) | exact H
      have Ny424 := Aside0.mk hy424
      clear hy424
      simp only [Option.some.injEq, Prod.mk.injEq] at H
      obtain ⟨rfl, rfl⟩ := H
      go_enter Try.func45, Try.ntmps45
      try go_wp2_with (first | ((with_reducible refine gate_dst (N := 1) rfl ?_); refine box_event ?hg (N := 1) ?hd (cs := #[.int .u8 a0_0, .slice A0_1 l0_1.length c0_1]) (t := 56) ?hr ?_; (case hd => rfl); (case hg => rfl); (case hr => first | (go_simp; done) | (go_simp; rfl)); intro gb410 hg w10 hbox hb; have n0_ := Aside0.mk (below_step (by repeat (first | (with_reducible first | exact HB.out | apply below_alloc | apply pw_below_drewN | apply below_drew1) | exact HB.out)) hb); have n1_ := Aside0.mk (hbox); have n2_ := Aside0.mk ((by rw [hg]; exact (below_size (by repeat (first | (with_reducible first | exact HB.out | apply below_alloc | apply pw_below_drewN | apply below_drew1) | exact HB.out))) : w.heap.size ≤ gb410)); have n3_ := Aside0.mk ((by rw [hg]; exact (below_size (by repeat (first | (with_reducible first | exact HB.out | apply below_alloc | apply pw_below_drewN | apply below_drew1) | exact HB.out))) : w.heap.size ≤ gb410)); clear HB; have HB := n0_; have BK410 := n1_; have GW410 := n2_; have GE410 := n3_; clear n0_ n1_ n2_ n3_; clear hb hbox hg; have hcz11_0 : w10.cell? ⟨gb410, 0, none⟩ = some (.int .u8 a0_0) := (blk_cell BK410.out 0).trans rfl; have hcz11_1 : w10.cell? ⟨gb410, 1, none⟩ = some (.slice A0_1 l0_1.length c0_1) := (blk_cell BK410.out 1).trans rfl; have hfz11_0 := blk_frozen BK410.out 0; have hfz11_1 := blk_frozen BK410.out 1) | ((with_reducible refine gate_callee (f := 75) rfl ?_); refine goesL_ (some 16) rfl rfl Try.func75 (by kernel_rfl) rfl #[.int .i64 (l0_1.length : Int)] rfl (by (try simp only [List.map_toArray, List.map_cons, List.map_nil]); first | done | rfl | (simp only [List.length_drop, List.length_take]; rfl)) ?_; (with_reducible refine (frame_low_int.calls (l0_1.length : Int) t411 t412 _ A5.out).mono ?_); rintro e w' ⟨rfl, ⟨nd, rfl⟩⟩; refine ⟨_, rfl, ?_⟩) | ((with_reducible refine gate_callee (f := 75) rfl ?_); refine goesL_ (some 21) rfl rfl Try.func75 (by kernel_rfl) rfl #[.int .i64 t412] rfl (by (try simp only [List.map_toArray, List.map_cons, List.map_nil]); first | done | rfl | (simp only [List.length_drop, List.length_take]; rfl)) ?_; (with_reducible refine (frame_low_int.calls t412 t413 t414 _ A6.out).mono ?_); rintro e w' ⟨rfl, ⟨nd, rfl⟩⟩; refine ⟨_, rfl, ?_⟩))
      (try (rw [drewN_self w10]; generalize hq_ : World.drewN w10 _ = w10; have n0_ : Aside0 (w10.heap[gb410]? = some (.cells #[.int .u8 a0_0, .slice A0_1 l0_1.length c0_1] 56 (0, 0))) := ⟨by rw [← hq_]; exact (by (with_reducible repeat (first | refine blk_drewN ?_ _ | refine blk_drew ?_ | refine blk_alloc ?_ _)); exact BK410.out)⟩; have n1_ : Aside0 (Below w.heap.size w w10) := ⟨by rw [← hq_]; exact (by repeat (first | (with_reducible first | exact HB.out | apply below_alloc | apply pw_below_drewN | apply below_drew1 | refine below_set ?_ GE410.out) | exact HB.out))⟩; clear BK410 HB hq_; have BK410 := n0_; have HB := n1_; clear n0_ n1_))
      have n0_ := Aside0.mk (blk_drew BK410.out)
      have n1_ := Aside0.mk (below_drew1 HB.out)
      clear BK410
      clear HB
      have BK410 := n0_
      have HB := n1_
      clear n0_ n1_
      refine start_ (n := 12) (S := fun w' => w'.cell? ⟨gb410, 0, none⟩ = some (.int .u8 a0_0) ∧ w'.cell? ⟨gb410, 1, none⟩ = some (.slice A0_1 l0_1.length c0_1)) (ds := []) #[false, false, false, false, false, false, false, false, false, false, false, false] (by kernel_rfl) rfl rfl ⟨(blk_cell BK410.out 0).trans rfl, (blk_cell BK410.out 1).trans rfl⟩ (fun hHeld => ?_); refine with_tabW frame_Bytes.tab5 frame_Bytes.bits5 (fun HT_ HW_ => ?_)
      generalize w10.drew = w12 at BK410 HB hHeld ⊢
      refine pure_ (i := 0) (N := some 24) (v := ?_) (a' := ?_) #[true, false, false, false, false, false, false, false, false, false, false, false] rfl rfl (any_of HT_.out (by kernel_rfl)) (fun _ _ _ h => h) (Or.inl ⟨by rfl, ?_⟩) ?_ ?_
      rotate_left
      · intro w'
        go_simp
        with_reducible rfl
      rotate_left
      · simp only [Act.put, List.setIfInBounds_toArray, List.set_cons_zero, List.set_cons_succ, i64_w, i32_w]
        rfl
      refine pure_ (i := 2) (N := some 26) (v := ?_) (a' := ?_) #[true, false, true, false, false, false, false, false, false, false, false, false] rfl rfl (any_of HT_.out (by kernel_rfl)) (fun _ _ _ h => h) (Or.inl ⟨by rfl, ?_⟩) ?_ ?_
      rotate_left
      · intro w'
        go_simp
        with_reducible rfl
      rotate_left
      · simp only [Act.put, List.setIfInBounds_toArray, List.set_cons_zero, List.set_cons_succ, i64_w, i32_w]
        rfl
      refine pure_ (i := 3) (N := some 27) (v := ?_) (a' := ?_) #[true, false, true, true, false, false, false, false, false, false, false, false] rfl rfl (any_of HT_.out (by kernel_rfl)) (fun _ _ _ h => h) (Or.inl ⟨by rfl, ?_⟩) ?_ ?_
      rotate_left
      · intro w'
        go_simp
        with_reducible rfl
      rotate_left
      · simp only [Act.put, List.setIfInBounds_toArray, List.set_cons_zero, List.set_cons_succ, i64_w, i32_w]
        rfl
      refine pure_ (i := 6) (N := some 30) (v := ?_) (a' := ?_) #[true, false, true, true, false, false, true, false, false, false, false, false] rfl rfl (any_of HT_.out (by kernel_rfl)) (fun _ _ _ h => h) (Or.inl ⟨by rfl, ?_⟩) ?_ ?_
      rotate_left
      · intro w'
        go_simp
        with_reducible rfl
      rotate_left
      · simp only [Act.put, List.setIfInBounds_toArray, List.set_cons_zero, List.set_cons_succ, i64_w, i32_w]
        rfl
      refine take_ (i := 1) (N := some 25) (v := ?_) (a' := ?_) #[true, true, true, true, false, false, true, false, false, false, false, false] rfl rfl (take_ofW HT_.out HW_.out (by kernel_rfl)) (fun _ _ _ h => h) (Or.inl ⟨by rfl, ?_⟩) hHeld ?_ ?_
      rotate_left
      · rintro w' ⟨s0, s1⟩
        go_simp
        with_reducible rfl
      rotate_left
      · simp only [Act.put, List.setIfInBounds_toArray, List.set_cons_zero, List.set_cons_succ, i64_w, i32_w]
        rfl
      refine take_ (i := 7) (N := some 31) (v := ?_) (a' := ?_) #[true, true, true, true, false, false, true, true, false, false, false, false] rfl rfl (take_ofW HT_.out HW_.out (by kernel_rfl)) (fun _ _ _ h => h) (Or.inl ⟨by rfl, ?_⟩) hHeld ?_ ?_
      rotate_left
      · rintro w' ⟨s0, s1⟩
        go_simp
        with_reducible rfl
      rotate_left
      · simp only [Act.put, List.setIfInBounds_toArray, List.set_cons_zero, List.set_cons_succ, i64_w, i32_w]
        rfl
      refine one_ (i := 4) (N := some 28) #[true, true, true, true, true, false, true, true, false, false, false, false] rfl rfl (one_of HT_.out (by kernel_rfl)) (by decide) (fun K hK => ?_)
      refine Kd.R_lit_step (Kd.int .u8) _ 5 ?hg (N := 28) ?hd (xs := ([a0_0, t411, t413] : List Int)) (inner := [.int .u8 a0_0, .int .u8 t411, .int .u8 t413]) (ok := fun _ => True) (okp := fun _ => True) ?hr ?hp (fun _ hk => hk) trivial (Below.refl _ _) (Nat.le_refl _) (by simp) ?_; (case hd => rfl); (case hg => rfl); (case hr => first | (go_simp; done) | (go_simp; rfl)); (case hp => exact (Reps.one (show Kd.M (Kd.int .u8) _ _ _ a0_0 [.int .u8 a0_0] from rfl) (Reps.one (show Kd.M (Kd.int .u8) _ _ _ t411 [.int .u8 t411] from rfl) (Reps.one (show Kd.M (Kd.int .u8) _ _ _ t413 [.int .u8 t413] from rfl) (Reps.none _ _)))))
      intro v416 w13 ho14 hb hg_ hnew_
      clear hg_ hnew_
      (first | rw [← Ny415.out] at ho14 | (simp only [Int.reduceToNat] at ho14; rw [← Ny415.out] at ho14))
      have n0_ := Aside0.mk (Kd.R_lower ho14 (below_size (by repeat (first | (with_reducible first | exact HB.out | apply below_alloc | apply pw_below_drewN | apply below_drew1 | refine below_set ?_ GE410.out) | exact HB.out))))
      have n1_ := Aside0.mk (blk_below (g := gb410) (o := .cells #[.int .u8 a0_0, .slice A0_1 l0_1.length c0_1] 56 (0, 0)) (by (with_reducible repeat (first | refine blk_drewN ?_ _ | refine blk_drew ?_ | refine blk_alloc ?_ _)); exact BK410.out) hb)
      have n2_ := Aside0.mk (below_step (by repeat (first | (with_reducible first | exact HB.out | apply below_alloc | apply pw_below_drewN | apply below_drew1 | refine below_set ?_ GE410.out) | exact HB.out)) hb)
      clear BK410
      clear HB
      have HO417 := n0_
      have BK410 := n1_
      have HB := n2_
      clear n0_ n1_ n2_
      clear hb ho14
      obtain ⟨Ao15, co15, eo15⟩ := Kd.R_slice HO417.out
      (first | subst eo15 | (injection eo15 with f1_ f2_ f3_; have f4_ := f1_.symm; have f5_ := f3_.symm; clear f1_ f2_ f3_; subst f4_; subst f5_))
      refine hK.out _ _ ⟨(blk_cell BK410.out 0).trans rfl, (blk_cell BK410.out 1).trans rfl⟩ (fun hHeld => ?_)
      clear hK K
      refine norm_ (a' := ?_) ?_ ?_
      rotate_left
      · show Act.put _ (some 28) _ = _
        simp only [Act.put, List.setIfInBounds_toArray, List.set_cons_zero, List.set_cons_succ, i64_w, i32_w]
        rfl
      refine one_ (i := 5) (N := some 29) #[true, true, true, true, true, true, true, true, false, false, false, false] rfl rfl (one_of HT_.out (by kernel_rfl)) (by decide) (fun K hK => ?_)
      refine goes_ Try.func39 (by kernel_rfl) rfl #[.slice Ao15 y415.length co15] (by rfl) rfl rfl (by (try simp only [List.map_toArray, List.map_cons, List.map_nil]); first | done | rfl | (simp only [List.length_drop, List.length_take]; rfl)) ?_
      with_reducible refine (sum_Put.calls _ _ y415 t418 _ ?side1 ?side2 A7.out).mono ?_
      (case side1 => repeat (first | exact (Kd.R_reads' HO417.out).2.2 | (with_reducible refine Kd.C_alloc ?_ _) | (with_reducible refine Kd.C_drewN ?_ _) | (with_reducible refine Kd.C_drew ?_)))
      (case side2 => exact (Kd.R_reads' HO417.out).2.1)
      rintro e w16 ⟨v419, rfl, ho0, hb⟩
      refine ⟨_, rfl, ?_⟩
      have n0_ := Aside0.mk (Kd.R_elder' (by (with_reducible repeat (first | apply Kd.R_alloc | apply Kd.R_drewN | apply Kd.R_drew)); exact HO417.out) (Kd.R_base ho0) hb)
      have n1_ := Aside0.mk (Kd.R_lower (Kd.R_new' ho0 (Kd.R_lt (by (with_reducible repeat (first | apply Kd.R_alloc | apply Kd.R_drewN | apply Kd.R_drew)); exact HO417.out))) (below_size (by repeat (first | (with_reducible first | exact HB.out | apply below_alloc | apply pw_below_drewN | apply below_drew1 | refine below_set ?_ GE410.out) | exact HB.out))))
      have n2_ := Aside0.mk (blk_below (g := gb410) (o := .cells #[.int .u8 a0_0, .slice A0_1 l0_1.length c0_1] 56 (0, 0)) (by (with_reducible repeat (first | refine blk_drewN ?_ _ | refine blk_drew ?_ | refine blk_alloc ?_ _)); exact BK410.out) hb)
      have n3_ := Aside0.mk (below_step (by repeat (first | (with_reducible first | exact HB.out | apply below_alloc | apply pw_below_drewN | apply below_drew1 | refine below_set ?_ GE410.out) | exact HB.out)) hb)
      clear HO417
      clear BK410
      clear HB
      have HO417 := n0_
      have HO420 := n1_
      have BK410 := n2_
      have HB := n3_
      clear n0_ n1_ n2_ n3_
      (try clear hb)
      (try clear hb2)
      (try clear hk)
      (try clear hi)
      (try clear ho0)
      refine hK.out _ _ ⟨(blk_cell BK410.out 0).trans rfl, (blk_cell BK410.out 1).trans rfl⟩ (fun hHeld => ?_)
      clear hK K
      refine norm_ (a' := ?_) ?_ ?_
      rotate_left
      · show Act.put _ (some 29) _ = _
        simp only [Act.put, List.setIfInBounds_toArray, List.set_cons_zero, List.set_cons_succ, i64_w, i32_w]
        rfl
      refine one_ (i := 8) (N := some 32) #[true, true, true, true, true, true, true, true, true, false, false, false] rfl rfl (one_of HT_.out (by kernel_rfl)) (by decide) (fun K hK => ?_)
      refine goes_ Try.func39 (by kernel_rfl) rfl #[.slice A0_1 l0_1.length c0_1] (by rfl) rfl rfl (by (try simp only [List.map_toArray, List.map_cons, List.map_nil]); first | done | rfl | (simp only [List.length_drop, List.length_take]; rfl)) ?_
      with_reducible refine (sum_Put.calls _ _ l0_1 t421 _ ?side1 ?side2 A8.out).mono ?_
      (case side1 => repeat (first | exact (Kd.C_below HR0_1.out HB.out) | (with_reducible refine Kd.C_alloc ?_ _) | (with_reducible refine Kd.C_drewN ?_ _) | (with_reducible refine Kd.C_drew ?_)))
      (case side2 => exact HC0_1.out)
      rintro e w17 ⟨v422, rfl, ho0, hb⟩
      refine ⟨_, rfl, ?_⟩
      have n0_ := Aside0.mk (Kd.R_elder' (by (with_reducible repeat (first | apply Kd.R_alloc | apply Kd.R_drewN | apply Kd.R_drew)); exact HO417.out) (Kd.R_base ho0) hb)
      have n1_ := Aside0.mk (Kd.R_elder' (by (with_reducible repeat (first | apply Kd.R_alloc | apply Kd.R_drewN | apply Kd.R_drew)); exact HO420.out) (Kd.R_base ho0) hb)
      have n2_ := Aside0.mk (Kd.R_lower (Kd.R_new' (Kd.R_new' ho0 (Kd.R_lt (by (with_reducible repeat (first | apply Kd.R_alloc | apply Kd.R_drewN | apply Kd.R_drew)); exact HO417.out))) (Kd.R_lt (by (with_reducible repeat (first | apply Kd.R_alloc | apply Kd.R_drewN | apply Kd.R_drew)); exact HO420.out))) (below_size (by repeat (first | (with_reducible first | exact HB.out | apply below_alloc | apply pw_below_drewN | apply below_drew1 | refine below_set ?_ GE410.out) | exact HB.out))))
      have n3_ := Aside0.mk (blk_below (g := gb410) (o := .cells #[.int .u8 a0_0, .slice A0_1 l0_1.length c0_1] 56 (0, 0)) (by (with_reducible repeat (first | refine blk_drewN ?_ _ | refine blk_drew ?_ | refine blk_alloc ?_ _)); exact BK410.out) hb)
      have n4_ := Aside0.mk (below_step (by repeat (first | (with_reducible first | exact HB.out | apply below_alloc | apply pw_below_drewN | apply below_drew1 | refine below_set ?_ GE410.out) | exact HB.out)) hb)
      clear HO417
      clear HO420
      clear BK410
      clear HB
      have HO417 := n0_
      have HO420 := n1_
      have HO423 := n2_
      have BK410 := n3_
      have HB := n4_
      clear n0_ n1_ n2_ n3_ n4_
      (try clear hb)
      (try clear hb2)
      (try clear hk)
      (try clear hi)
      (try clear ho0)
      obtain ⟨Ao19, co19, eo19⟩ := Kd.R_slice HO423.out
      (first | subst eo19 | (injection eo19 with f1_ f2_ f3_; have f4_ := f1_.symm; have f5_ := f3_.symm; clear f1_ f2_ f3_; subst f4_; subst f5_))
      refine hK.out _ _ ⟨(blk_cell BK410.out 0).trans rfl, (blk_cell BK410.out 1).trans rfl⟩ (fun hHeld => ?_)
      clear hK K
      refine norm_ (a' := ?_) ?_ ?_
      rotate_left
      · show Act.put _ (some 32) _ = _
        simp only [Act.put, List.setIfInBounds_toArray, List.set_cons_zero, List.set_cons_succ, i64_w, i32_w]
        rfl
      refine one_ (i := 9) (N := some 33) #[true, true, true, true, true, true, true, true, true, true, false, false] rfl rfl (one_of HT_.out (by kernel_rfl)) (by decide) (fun K hK => ?_)
      refine Kd.R_append_rows_step (Kd.int .u8) (w0 := w) w.heap.size (by rfl) (.tmp 29) (.tmp 32) 23 5 (.int .u8 0) 1 rfl Try.underlying23 info5 rfl (by decide) (by omega) v419 t418 t421 _ _ _ (fun k_ => some k_ ≠ (.slice Ao15 y415.length co15 : Value).ownBlock ∧ some k_ ≠ (.slice Ao19 t421.length co19 : Value).ownBlock) (fun _ => False) rfl rfl ?aO ?aR (fun _ _ h => h) (fun _ h => h.elim) ?aF ?aB ?aS ?aL ?_
      (case aR => repeat (first | exact (Kd.R_reads' HO423.out).2.2 | (with_reducible refine Kd.C_alloc ?_ _) | (with_reducible refine Kd.C_drewN ?_ _) | (with_reducible refine Kd.C_drew ?_)))
      (case aB => exact (by repeat (first | (with_reducible first | exact HB.out | apply below_alloc | apply pw_below_drewN | apply below_drew1 | refine below_set ?_ GE410.out) | exact HB.out)))
      (case aF => exact (fun k_ hk => ⟨Kd.fresh' (Kd.R_lt (by (with_reducible repeat (first | apply Kd.R_alloc | apply Kd.R_drewN | apply Kd.R_drew)); exact HO417.out)) k_ hk, Kd.fresh' (Kd.R_lt (by (with_reducible repeat (first | apply Kd.R_alloc | apply Kd.R_drewN | apply Kd.R_drew)); exact HO423.out)) k_ hk⟩))
      (case aO => exact (by (with_reducible repeat (first | apply Kd.R_alloc | apply Kd.R_drewN | apply Kd.R_drew)); exact Kd.R_mono HO420.out (fun _ hk => ⟨hk.1.2, hk.2⟩)))
      (case aS => exact (below_size (by repeat (first | (with_reducible first | exact HB.out | apply below_alloc | apply pw_below_drewN | apply below_drew1 | refine below_set ?_ GE410.out) | exact HB.out))))
      (case aL => have := LMc9.out; omega)
      intro v425 w18 ho hb hg hat
      rw [← Ny424.out] at ho
      have n0_ := Aside0.mk (blk_grown (g := gb410) (o := .cells #[.int .u8 a0_0, .slice A0_1 l0_1.length c0_1] 56 (0, 0)) (by (with_reducible repeat (first | refine blk_drewN ?_ _ | refine blk_drew ?_ | refine blk_alloc ?_ _)); exact BK410.out) hg (Kd.R_ne HO420.out BK410.out (by decide)))
      have n1_ := Aside0.mk (Kd.R_after (ok := (fun k_ => some k_ ≠ (.slice Ao19 t421.length co19 : Value).ownBlock)) (by (with_reducible repeat (first | apply Kd.R_alloc | apply Kd.R_drewN | apply Kd.R_drew)); exact Kd.R_mono HO417.out (fun _ hk => ⟨hk.2, hk.1.2⟩)) hg hat)
      have n2_ := Aside0.mk (Kd.R_after (ok := (fun k_ => some k_ ≠ (.slice Ao15 y415.length co15 : Value).ownBlock)) (by (with_reducible repeat (first | apply Kd.R_alloc | apply Kd.R_drewN | apply Kd.R_drew)); exact Kd.R_mono HO423.out (fun _ hk => ⟨hk.1.2, hk.2⟩)) hg hat)
      have n3_ := Aside0.mk (hb)
      have n4_ := Aside0.mk (ho)
      clear BK410
      clear HO417
      clear HO423
      clear HB
      clear HO420
      have BK410 := n0_
      have HO417 := n1_
      have HO423 := n2_
      have HB := n3_
      have HO426 := n4_
      clear n0_ n1_ n2_ n3_ n4_
      clear ho hb hg hat
      refine hK.out _ _ ⟨(blk_cell BK410.out 0).trans rfl, (blk_cell BK410.out 1).trans rfl⟩ (fun hHeld => ?_)
      clear hK K
      refine norm_ (a' := ?_) ?_ ?_
      rotate_left
      · show Act.put _ (some 33) _ = _
        simp only [Act.put, List.setIfInBounds_toArray, List.set_cons_zero, List.set_cons_succ, i64_w, i32_w]
        rfl
      refine pure_ (i := 10) (N := some 2) (v := ?_) (a' := ?_) #[true, true, true, true, true, true, true, true, true, true, true, false] rfl rfl (any_of HT_.out (by kernel_rfl)) (fun _ _ _ h => h) (Or.inl ⟨by rfl, ?_⟩) ?_ ?_
      rotate_left
      · intro w'
        go_simp
        with_reducible rfl
      rotate_left
      · simp only [Act.put, List.setIfInBounds_toArray, List.set_cons_zero, List.set_cons_succ, i64_w, i32_w]
        rfl
      refine pure_ (i := 11) (N := some 3) (v := ?_) (a' := ?_) #[true, true, true, true, true, true, true, true, true, true, true, true] rfl rfl (any_of HT_.out (by kernel_rfl)) (fun _ _ _ h => h) (Or.inl ⟨by rfl, ?_⟩) ?_ ?_
      rotate_left
      · intro w'
        go_simp
        with_reducible rfl
      rotate_left
      · simp only [Act.put, List.setIfInBounds_toArray, List.set_cons_zero, List.set_cons_succ, i64_w, i32_w]
        rfl
      refine done_ (done_of HT_.out (by kernel_rfl)) ?_
      try go_wp2
      go_ret2
      exact ⟨_, by first | rfl | (simp [errW_none, errW_some] <;> rfl) | (simp [*, errW_none, errW_some] <;> rfl), by (with_reducible repeat (first | apply Kd.R_alloc | apply Kd.R_drewN | apply Kd.R_drew)); exact Kd.R_mono HO426.out (fun _ hk => trivial), by repeat (first | (with_reducible first | exact HB.out | apply below_alloc | apply pw_below_drewN | apply below_drew1 | refine below_set ?_ GE410.out) | exact HB.out)⟩
    · rw [if_neg c9] at H
      exact absurd H (by simp)
end Go.Proofs.Ytojepleodijdeaa.B
namespace Go.Proofs.Ytojepleodijdeaa.B
open Go.RowKit Go.Proofs.YtojepleodijdeaaW.PrintWords Go.Proofs.YtojepleodijdeaaW.PrintLast Go.Proofs.YtojepleodijdeaaW.PrintMore
attribute [local go_sem] max2_int min2_int max_two min_two max_three min_three max_four min_four   -- for this text's walks alone
set_option linter.unusedVariables false
set_option linter.unusedSimpArgs false
def frame_Read.f (k : Nat) (l0 : List Int) : Option (Int × List Int × Int × Int) := if (l0.length : Int) < 7 then (some (0, ([] : List Int), 0, 3)) else (if 7 ≤ (l0.length : Int) then ((sum_Cut.f k (l0.take 7)).bind fun bt429 => (if bt429.2 = true then (if 1 < (bt429.1.length : Int) then (if 2 < (bt429.1.length : Int) then (if (Go.bits .or .i64 (wrap64 (rd bt429.1 1)) (wrap64 ((wrap64 (rd bt429.1 2)) * 256))) > 400 then (some (0, ([] : List Int), 0, 2)) else (if (l0.length : Int) < (wrap64 ((wrap64 (7 + (Go.bits .or .i64 (wrap64 (rd bt429.1 1)) (wrap64 ((wrap64 (rd bt429.1 2)) * 256))))) + 4)) then (some (0, ([] : List Int), 0, 3)) else (if 7 ≤ (wrap64 ((wrap64 (7 + (Go.bits .or .i64 (wrap64 (rd bt429.1 1)) (wrap64 ((wrap64 (rd bt429.1 2)) * 256))))) + 4)) then (if (wrap64 ((wrap64 (7 + (Go.bits .or .i64 (wrap64 (rd bt429.1 1)) (wrap64 ((wrap64 (rd bt429.1 2)) * 256))))) + 4)) ≤ (l0.length : Int) then ((sum_Cut.f k ((l0.take ((wrap64 ((wrap64 (7 + (Go.bits .or .i64 (wrap64 (rd bt429.1 1)) (wrap64 ((wrap64 (rd bt429.1 2)) * 256))))) + 4)) : Int).toNat).drop 7)).bind fun bt436 => (if bt436.2 = true then (if 0 < (bt429.1.length : Int) then (some (rd bt429.1 0, bt436.1, wrap64 ((wrap64 (7 + (Go.bits .or .i64 (wrap64 (rd bt429.1 1)) (wrap64 ((wrap64 (rd bt429.1 2)) * 256))))) + 4), 0)) else (none)) else (some (0, ([] : List Int), 0, 8)))) else (none)) else (none)))) else (none)) else (none)) else (some (0, ([] : List Int), 0, 8)))) else (none))
set_option maxHeartbeats 8000000 in
set_option maxRecDepth 100000 in
theorem frame_Read.calls (k : Nat) (A0 : Option Addr) (c0 : Nat) (l0 : List Int) (r1 : Int) (r2 : List Int) (r3 : Int) (r4 : Int) (w : World) (hr0 : Kd.C (Kd.int .u8) w A0 l0.length l0) (hc0 : l0.length ≤ c0) (h : frame_Read.f k l0 = some (r1, r2, r3, r4)) :
    Calls Try.prog 47 #[.slice A0 l0.length c0] w fun e w' => ∃ v1_ : Value, e = .returned (.tuple #[.agg #[.int .u8 r1, v1_], .int .i64 r3, .int .i64 r4]) ∧ Kd.R (Kd.int .u8) 5 w' w.heap.size (fun _ => True) v1_ r2 ∧ Below w.heap.size w w' := by
  have hu56 := Try.underlying56
  have HR0 := Aside0.mk hr0
  have HC0 := Aside0.mk hc0
  clear hr0 hc0
  have HB := Aside0.mk (Below.refl w.heap.size w)
  have H : (if (l0.length : Int) < 7 then (some (0, ([] : List Int), 0, 3)) else (if 7 ≤ (l0.length : Int) then ((sum_Cut.f k (l0.take 7)).bind fun bt429 => (if bt429.2 = true then (if 1 < (bt429.1.length : Int) then (if 2 < (bt429.1.length : Int) then (if (Go.bits .or .i64 (wrap64 (rd bt429.1 1)) (wrap64 ((wrap64 (rd bt429.1 2)) * 256))) > 400 then (some (0, ([] : List Int), 0, 2)) else (if (l0.length : Int) < (wrap64 ((wrap64 (7 + (Go.bits .or .i64 (wrap64 (rd bt429.1 1)) (wrap64 ((wrap64 (rd bt429.1 2)) * 256))))) + 4)) then (some (0, ([] : List Int), 0, 3)) else (if 7 ≤ (wrap64 ((wrap64 (7 + (Go.bits .or .i64 (wrap64 (rd bt429.1 1)) (wrap64 ((wrap64 (rd bt429.1 2)) * 256))))) + 4)) then (if (wrap64 ((wrap64 (7 + (Go.bits .or .i64 (wrap64 (rd bt429.1 1)) (wrap64 ((wrap64 (rd bt429.1 2)) * 256))))) + 4)) ≤ (l0.length : Int) then ((sum_Cut.f k ((l0.take ((wrap64 ((wrap64 (7 + (Go.bits .or .i64 (wrap64 (rd bt429.1 1)) (wrap64 ((wrap64 (rd bt429.1 2)) * 256))))) + 4)) : Int).toNat).drop 7)).bind fun bt436 => (if bt436.2 = true then (if 0 < (bt429.1.length : Int) then (some (rd bt429.1 0, bt436.1, wrap64 ((wrap64 (7 + (Go.bits .or .i64 (wrap64 (rd bt429.1 1)) (wrap64 ((wrap64 (rd bt429.1 2)) * 256))))) + 4), 0)) else (none)) else (some (0, ([] : List Int), 0, 8)))) else (none)) else (none)))) else (none)) else (none)) else (some (0, ([] : List Int), 0, 8)))) else (none))) = some (r1, r2, r3, r4) := h
  clear h
  by_cases c2 : (l0.length : Int) < 7
  · rw [if_pos c2] at H
    have c2b0 : decide ((l0.length : Int) < 7) = true := decide_eq_true c2
    have c2b1 : decide (l0.length < 7) = true := decide_eq_true (by omega)
    clear c2
    simp only [Option.some.injEq, Prod.mk.injEq] at H
    obtain ⟨rfl, rfl, rfl, rfl⟩ := H
    go_enter Try.func47, Try.ntmps47
    go_wp2_with (first | ((with_reducible refine gate_dst (N := 2) rfl ?_); refine box_event ?hg (N := 2) ?hd (cs := #[.int .u8 0, .slice none 0 0]) (t := 56) ?hr ?_; (case hd => rfl); (case hg => rfl); (case hr => first | (go_simp; done) | (go_simp; rfl)); intro gb427 hg w3 hbox hb; have n0_ := Aside0.mk (below_step (by repeat (first | (with_reducible first | exact HB.out | apply below_alloc | apply pw_below_drewN | apply below_drew1) | exact HB.out)) hb); have n1_ := Aside0.mk (hbox); have n2_ := Aside0.mk ((by rw [hg]; exact (below_size (by repeat (first | (with_reducible first | exact HB.out | apply below_alloc | apply pw_below_drewN | apply below_drew1) | exact HB.out))) : w.heap.size ≤ gb427)); have n3_ := Aside0.mk ((by rw [hg]; exact (below_size (by repeat (first | (with_reducible first | exact HB.out | apply below_alloc | apply pw_below_drewN | apply below_drew1) | exact HB.out))) : w.heap.size ≤ gb427)); clear HB; have HB := n0_; have BK427 := n1_; have GW427 := n2_; have GE427 := n3_; clear n0_ n1_ n2_ n3_; clear hb hbox hg; have hcz4_0 : w3.cell? ⟨gb427, 0, none⟩ = some (.int .u8 0) := (blk_cell BK427.out 0).trans rfl; have hcz4_1 : w3.cell? ⟨gb427, 1, none⟩ = some (.slice none 0 0) := (blk_cell BK427.out 1).trans rfl; have hfz4_0 := blk_frozen BK427.out 0; have hfz4_1 := blk_frozen BK427.out 1))
    repeat (go_quiet (first | ((with_reducible refine gate_dst (N := 2) rfl ?_); refine box_event ?hg (N := 2) ?hd (cs := #[.int .u8 0, .slice none 0 0]) (t := 56) ?hr ?_; (case hd => rfl); (case hg => rfl); (case hr => first | (go_simp; done) | (go_simp; rfl)); intro gb427 hg w3 hbox hb; have n0_ := Aside0.mk (below_step (by repeat (first | (with_reducible first | exact HB.out | apply below_alloc | apply pw_below_drewN | apply below_drew1) | exact HB.out)) hb); have n1_ := Aside0.mk (hbox); have n2_ := Aside0.mk ((by rw [hg]; exact (below_size (by repeat (first | (with_reducible first | exact HB.out | apply below_alloc | apply pw_below_drewN | apply below_drew1) | exact HB.out))) : w.heap.size ≤ gb427)); have n3_ := Aside0.mk ((by rw [hg]; exact (below_size (by repeat (first | (with_reducible first | exact HB.out | apply below_alloc | apply pw_below_drewN | apply below_drew1) | exact HB.out))) : w.heap.size ≤ gb427)); clear HB; have HB := n0_; have BK427 := n1_; have GW427 := n2_; have GE427 := n3_; clear n0_ n1_ n2_ n3_; clear hb hbox hg; have hcz4_0 : w3.cell? ⟨gb427, 0, none⟩ = some (.int .u8 0) := (blk_cell BK427.out 0).trans rfl; have hcz4_1 : w3.cell? ⟨gb427, 1, none⟩ = some (.slice none 0 0) := (blk_cell BK427.out 1).trans rfl; have hfz4_0 := blk_frozen BK427.out 0; have hfz4_1 := blk_frozen BK427.out 1)); try go_wp2_with (first | ((with_reducible refine gate_dst (N := 2) rfl ?_); refine box_event ?hg (N := 2) ?hd (cs := #[.int .u8 0, .slice none 0 0]) (t := 56) ?hr ?_; (case hd => rfl); (case hg => rfl); (case hr => first | (go_simp; done) | (go_simp; rfl)); intro gb427 hg w3 hbox hb; have n0_ := Aside0.mk (below_step (by repeat (first | (with_reducible first | exact HB.out | apply below_alloc | apply pw_below_drewN | apply below_drew1) | exact HB.out)) hb); have n1_ := Aside0.mk (hbox); have n2_ := Aside0.mk ((by rw [hg]; exact (below_size (by repeat (first | (with_reducible first | exact HB.out | apply below_alloc | apply pw_below_drewN | apply below_drew1) | exact HB.out))) : w.heap.size ≤ gb427)); have n3_ := Aside0.mk ((by rw [hg]; exact (below_size (by repeat (first | (with_reducible first | exact HB.out | apply below_alloc | apply pw_below_drewN | apply below_drew1) | exact HB.out))) : w.heap.size ≤ gb427)); clear HB; have HB := n0_; have BK427 := n1_; have GW427 := n2_; have GE427 := n3_; clear n0_ n1_ n2_ n3_; clear hb hbox hg; have hcz4_0 : w3.cell? ⟨gb427, 0, none⟩ = some (.int .u8 0) := (blk_cell BK427.out 0).trans rfl; have hcz4_1 : w3.cell? ⟨gb427, 1, none⟩ = some (.slice none 0 0) := (blk_cell BK427.out 1).trans rfl; have hfz4_0 := blk_frozen BK427.out 0; have hfz4_1 := blk_frozen BK427.out 1)))
    refine bodyPost_ret (results_ctt rfl _ _ gb427 56 #[.int .u8 0, .slice none 0 0] (0, 0) _ rfl (by (with_reducible repeat (first | refine blk_drewN ?_ _ | refine blk_drew ?_ | refine blk_alloc ?_ _)); refine blk_put (cs := #[.int .u8 0, .slice none 0 0]) ?_ 1 _ rfl; (with_reducible repeat (first | refine blk_drewN ?_ _ | refine blk_drew ?_ | refine blk_alloc ?_ _)); refine blk_put (cs := #[.int .u8 0, .slice none 0 0]) ?_ 0 _ rfl; (with_reducible repeat (first | refine blk_drewN ?_ _ | refine blk_drew ?_ | refine blk_alloc ?_ _)); exact BK427.out) Try.underlying56 rfl (by kernel_rfl)) rfl ?_
    exact ⟨_, by first | rfl | (simp [errW_none, errW_some] <;> rfl) | (simp [*, errW_none, errW_some] <;> rfl), by first | exact Kd.R_nil _ _ _ _ _ | exact Kd.N_nil _ _ _ _ _ | exact Kd.V_nil _ _ _ _ _ | exact Kd.Q_nil _ _ _ _ _ | exact Kd.S_nil _ _ _ _ _, by repeat (first | (with_reducible first | exact HB.out | apply below_alloc | apply pw_below_drewN | apply below_drew1 | refine below_set ?_ GE427.out) | exact HB.out)⟩
  · rw [if_neg c2] at H
    have c2b0 : decide ((l0.length : Int) < 7) = false := decide_eq_false c2
    have c2b1 : decide (l0.length < 7) = false := decide_eq_false (by omega)
    clear c2
    by_cases c5 : 7 ≤ (l0.length : Int)
    · rw [if_pos c5] at H
      have c5b0 := eq_true c5
      have c5b1 : decide (7 ≤ (l0.length : Int)) = true := decide_eq_true c5
      clear c5
      replace H := Option.bind_eq_some_iff.mp H
      obtain ⟨⟨t429, t430⟩, A60, H⟩ := H
      replace H : (if t430 = true then (if 1 < (t429.length : Int) then (if 2 < (t429.length : Int) then (if (Go.bits .or .i64 (wrap64 (rd t429 1)) (wrap64 ((wrap64 (rd t429 2)) * 256))) > 400 then (some (0, ([] : List Int), 0, 2)) else (if (l0.length : Int) < (wrap64 ((wrap64 (7 + (Go.bits .or .i64 (wrap64 (rd t429 1)) (wrap64 ((wrap64 (rd t429 2)) * 256))))) + 4)) then (some (0, ([] : List Int), 0, 3)) else (if 7 ≤ (wrap64 ((wrap64 (7 + (Go.bits .or .i64 (wrap64 (rd t429 1)) (wrap64 ((wrap64 (rd t429 2)) * 256))))) + 4)) then (if (wrap64 ((wrap64 (7 + (Go.bits .or .i64 (wrap64 (rd t429 1)) (wrap64 ((wrap64 (rd t429 2)) * 256))))) + 4)) ≤ (l0.length : Int) then ((sum_Cut.f k ((l0.take ((wrap64 ((wrap64 (7 + (Go.bits .or .i64 (wrap64 (rd t429 1)) (wrap64 ((wrap64 (rd t429 2)) * 256))))) + 4)) : Int).toNat).drop 7)).bind fun bt436 => (if bt436.2 = true then (if 0 < (t429.length : Int) then (some (rd t429 0, bt436.1, wrap64 ((wrap64 (7 + (Go.bits .or .i64 (wrap64 (rd t429 1)) (wrap64 ((wrap64 (rd t429 2)) * 256))))) + 4), 0)) else (none)) else (some (0, ([] : List Int), 0, 8)))) else (none)) else (none)))) else (none)) else (none)) else (some (0, ([] : List Int), 0, 8))) = some (r1, r2, r3, r4) := H
      have A6 := Aside0.mk A60
      clear A60
      by_cases c7 : t430 = true
      · subst c7
        have H1 : (if 1 < (t429.length : Int) then (if 2 < (t429.length : Int) then (if (Go.bits .or .i64 (wrap64 (rd t429 1)) (wrap64 ((wrap64 (rd t429 2)) * 256))) > 400 then (some (0, ([] : List Int), 0, 2)) else (if (l0.length : Int) < (wrap64 ((wrap64 (7 + (Go.bits .or .i64 (wrap64 (rd t429 1)) (wrap64 ((wrap64 (rd t429 2)) * 256))))) + 4)) then (some (0, ([] : List Int), 0, 3)) else (if 7 ≤ (wrap64 ((wrap64 (7 + (Go.bits .or .i64 (wrap64 (rd t429 1)) (wrap64 ((wrap64 (rd t429 2)) * 256))))) + 4)) then (if (wrap64 ((wrap64 (7 + (Go.bits .or .i64 (wrap64 (rd t429 1)) (wrap64 ((wrap64 (rd t429 2)) * 256))))) + 4)) ≤ (l0.length : Int) then ((sum_Cut.f k ((l0.take ((wrap64 ((wrap64 (7 + (Go.bits .or .i64 (wrap64 (rd t429 1)) (wrap64 ((wrap64 (rd t429 2)) * 256))))) + 4)) : Int).toNat).drop 7)).bind fun bt436 => (if bt436.2 = true then (if 0 < (t429.length : Int) then (some (rd t429 0, bt436.1, wrap64 ((wrap64 (7 + (Go.bits .or .i64 (wrap64 (rd t429 1)) (wrap64 ((wrap64 (rd t429 2)) * 256))))) + 4), 0)) else (none)) else (some (0, ([] : List Int), 0, 8)))) else (none)) else (none)))) else (none)) else (none)) = some (r1, r2, r3, r4) := by rw [if_pos rfl] at H; exact H
        clear H
        have H := H1
        clear H1
        by_cases c8 : 1 < (t429.length : Int)
        · rw [if_pos c8] at H
          have c8b0 : decide (1 < (t429.length : Int)) = true := decide_eq_true c8
          have c8b1 : decide (1 < t429.length) = true := decide_eq_true (by omega)
          clear c8
          by_cases c9 : 2 < (t429.length : Int)
          · rw [if_pos c9] at H
            have c9b0 : decide (2 < (t429.length : Int)) = true := decide_eq_true c9
            have c9b1 : decide (2 < t429.length) = true := decide_eq_true (by omega)
            clear c9
            by_cases c10 : (Go.bits .or .i64 (wrap64 (rd t429 1)) (wrap64 ((wrap64 (rd t429 2)) * 256))) > 400
            · rw [if_pos c10] at H
              have c10b0 : decide (400 < (Go.bits .or .i64 (wrap64 (rd t429 1)) (wrap64 ((wrap64 (rd t429 2)) * 256)))) = true := decide_eq_true c10
              clear c10
              simp only [Option.some.injEq, Prod.mk.injEq] at H
              obtain ⟨rfl, rfl, rfl, rfl⟩ := H
              go_enter Try.func47, Try.ntmps47
              go_wp2_with (first | ((with_reducible refine gate_dst (N := 2) rfl ?_); refine box_event ?hg (N := 2) ?hd (cs := #[.int .u8 0, .slice none 0 0]) (t := 56) ?hr ?_; (case hd => rfl); (case hg => rfl); (case hr => first | (go_simp; done) | (go_simp; rfl)); intro gb427 hg w11 hbox hb; have n0_ := Aside0.mk (below_step (by repeat (first | (with_reducible first | exact HB.out | apply below_alloc | apply pw_below_drewN | apply below_drew1) | exact HB.out)) hb); have n1_ := Aside0.mk (hbox); have n2_ := Aside0.mk ((by rw [hg]; exact (below_size (by repeat (first | (with_reducible first | exact HB.out | apply below_alloc | apply pw_below_drewN | apply below_drew1) | exact HB.out))) : w.heap.size ≤ gb427)); have n3_ := Aside0.mk ((by rw [hg]; exact (below_size (by repeat (first | (with_reducible first | exact HB.out | apply below_alloc | apply pw_below_drewN | apply below_drew1) | exact HB.out))) : w.heap.size ≤ gb427)); clear HB; have HB := n0_; have BK427 := n1_; have GW427 := n2_; have GE427 := n3_; clear n0_ n1_ n2_ n3_; clear hb hbox hg; obtain ⟨i012, hi012, _, hsz12, _⟩ := info_parts info5; obtain ⟨hcut12, hA12, hC12⟩ := print_take_of (P := Try.prog) (Value.int .u8) 0 23 5 .i64 Try.underlying23 hi012 hsz12 A0 c0 l0 7 (by omega) (of_decide_eq_true (by first | (with_reducible assumption) | assumption)) HC0.out; have HR428 := Aside0.mk (Kd.C_of_reads (h1 := fun _ => rfl) (hA12 _ (Kd.reads_of_C HR0.out))); have HC428 := Aside0.mk hC12; clear hA12 hC12 hi012 hsz12) | (go_at_call 33; (try rw [← List.length_take]); (with_reducible refine (sum_Cut.calls k _ _ (l0.take 7) t429 true _ ?side1 ?side2 A6.out).mono ?_); (case side1 => repeat (first | exact (Kd.C_below HR428.out HB.out) | (with_reducible refine Kd.C_alloc ?_ _) | (with_reducible refine Kd.C_drewN ?_ _) | (with_reducible refine Kd.C_drew ?_))); (case side2 => exact HC428.out); rintro e w13 ⟨v431, rfl, ho0, hb⟩; have n0_ := Aside0.mk (Kd.R_lower ho0 (below_size (by repeat (first | (with_reducible first | exact HB.out | apply below_alloc | apply pw_below_drewN | apply below_drew1 | refine below_set ?_ GE427.out) | exact HB.out)))); have n1_ := Aside0.mk (blk_below (g := gb427) (o := .cells #[.int .u8 0, .slice none 0 0] 56 (0, 0)) (by (with_reducible repeat (first | refine blk_drewN ?_ _ | refine blk_drew ?_ | refine blk_alloc ?_ _)); exact BK427.out) hb); have n2_ := Aside0.mk (below_step (by repeat (first | (with_reducible first | exact HB.out | apply below_alloc | apply pw_below_drewN | apply below_drew1 | refine below_set ?_ GE427.out) | exact HB.out)) hb); clear BK427; clear HB; have HO432 := n0_; have BK427 := n1_; have HB := n2_; clear n0_ n1_ n2_; (try clear hb); (try clear hb2); (try clear hk); (try clear hi); (try clear ho0); obtain ⟨Ao14, co14, eo14⟩ := Kd.R_slice HO432.out; subst eo14; have p433 : 0 ≤ (1 : Int) := (by omega); have q433 : 1 < (t429.length : Int) := of_decide_eq_true (by first | (with_reducible assumption) | assumption); obtain ⟨ad433, e433, hx433_0⟩ := Kd.at_int (Kd.R_reads' HO432.out).2.2 1 p433 q433; cases e433; (try simp only [show (1 : Int).toNat = 1 from rfl, Nat.reduceMul, Nat.reduceEqDiff, Go.Addr.add, ↓reduceIte] at hx433_0); have qi433 : (1 < t429.length) = True := eq_true (by omega); (try rw [show ((1 : Int)).toNat = 1 from rfl] at hx433_0); replace p433 := eq_true p433; replace q433 := eq_true q433; have p434 : 0 ≤ (2 : Int) := (by omega); have q434 : 2 < (t429.length : Int) := of_decide_eq_true (by first | (with_reducible assumption) | assumption); obtain ⟨ad434, e434, hx434_0⟩ := Kd.at_int (Kd.R_reads' HO432.out).2.2 2 p434 q434; obtain rfl : ad433 = ad434 := (by injection e434); (try simp only [show (2 : Int).toNat = 2 from rfl, Nat.reduceMul, Nat.reduceEqDiff, Go.Addr.add, ↓reduceIte] at hx434_0); have qi434 : (2 < t429.length) = True := eq_true (by omega); (try rw [show ((2 : Int)).toNat = 2 from rfl] at hx434_0); replace p434 := eq_true p434; replace q434 := eq_true q434; have hcz15_0 : w13.cell? ⟨gb427, 0, none⟩ = some (.int .u8 0) := (blk_cell BK427.out 0).trans rfl; have hcz15_1 : w13.cell? ⟨gb427, 1, none⟩ = some (.slice none 0 0) := (blk_cell BK427.out 1).trans rfl; have hfz15_0 := blk_frozen BK427.out 0; have hfz15_1 := blk_frozen BK427.out 1))
              repeat (go_quiet (first | ((with_reducible refine gate_dst (N := 2) rfl ?_); refine box_event ?hg (N := 2) ?hd (cs := #[.int .u8 0, .slice none 0 0]) (t := 56) ?hr ?_; (case hd => rfl); (case hg => rfl); (case hr => first | (go_simp; done) | (go_simp; rfl)); intro gb427 hg w11 hbox hb; have n0_ := Aside0.mk (below_step (by repeat (first | (with_reducible first | exact HB.out | apply below_alloc | apply pw_below_drewN | apply below_drew1) | exact HB.out)) hb); have n1_ := Aside0.mk (hbox); have n2_ := Aside0.mk ((by rw [hg]; exact (below_size (by repeat (first | (with_reducible first | exact HB.out | apply below_alloc | apply pw_below_drewN | apply below_drew1) | exact HB.out))) : w.heap.size ≤ gb427)); have n3_ := Aside0.mk ((by rw [hg]; exact (below_size (by repeat (first | (with_reducible first | exact HB.out | apply below_alloc | apply pw_below_drewN | apply below_drew1) | exact HB.out))) : w.heap.size ≤ gb427)); clear HB; have HB := n0_; have BK427 := n1_; have GW427 := n2_; have GE427 := n3_; clear n0_ n1_ n2_ n3_; clear hb hbox hg; obtain ⟨i012, hi012, _, hsz12, _⟩ := info_parts info5; obtain ⟨hcut12, hA12, hC12⟩ := print_take_of (P := Try.prog) (Value.int .u8) 0 23 5 .i64 Try.underlying23 hi012 hsz12 A0 c0 l0 7 (by omega) (of_decide_eq_true (by first | (with_reducible assumption) | assumption)) HC0.out; have HR428 := Aside0.mk (Kd.C_of_reads (h1 := fun _ => rfl) (hA12 _ (Kd.reads_of_C HR0.out))); have HC428 := Aside0.mk hC12; clear hA12 hC12 hi012 hsz12) | (go_at_call 33; (try rw [← List.length_take]); (with_reducible refine (sum_Cut.calls k _ _ (l0.take 7) t429 true _ ?side1 ?side2 A6.out).mono ?_); (case side1 => repeat (first | exact (Kd.C_below HR428.out HB.out) | (with_reducible refine Kd.C_alloc ?_ _) | (with_reducible refine Kd.C_drewN ?_ _) | (with_reducible refine Kd.C_drew ?_))); (case side2 => exact HC428.out); rintro e w13 ⟨v431, rfl, ho0, hb⟩; have n0_ := Aside0.mk (Kd.R_lower ho0 (below_size (by repeat (first | (with_reducible first | exact HB.out | apply below_alloc | apply pw_below_drewN | apply below_drew1 | refine below_set ?_ GE427.out) | exact HB.out)))); have n1_ := Aside0.mk (blk_below (g := gb427) (o := .cells #[.int .u8 0, .slice none 0 0] 56 (0, 0)) (by (with_reducible repeat (first | refine blk_drewN ?_ _ | refine blk_drew ?_ | refine blk_alloc ?_ _)); exact BK427.out) hb); have n2_ := Aside0.mk (below_step (by repeat (first | (with_reducible first | exact HB.out | apply below_alloc | apply pw_below_drewN | apply below_drew1 | refine below_set ?_ GE427.out) | exact HB.out)) hb); clear BK427; clear HB; have HO432 := n0_; have BK427 := n1_; have HB := n2_; clear n0_ n1_ n2_; (try clear hb); (try clear hb2); (try clear hk); (try clear hi); (try clear ho0); obtain ⟨Ao14, co14, eo14⟩ := Kd.R_slice HO432.out; subst eo14; have p433 : 0 ≤ (1 : Int) := (by omega); have q433 : 1 < (t429.length : Int) := of_decide_eq_true (by first | (with_reducible assumption) | assumption); obtain ⟨ad433, e433, hx433_0⟩ := Kd.at_int (Kd.R_reads' HO432.out).2.2 1 p433 q433; cases e433; (try simp only [show (1 : Int).toNat = 1 from rfl, Nat.reduceMul, Nat.reduceEqDiff, Go.Addr.add, ↓reduceIte] at hx433_0); have qi433 : (1 < t429.length) = True := eq_true (by omega); (try rw [show ((1 : Int)).toNat = 1 from rfl] at hx433_0); replace p433 := eq_true p433; replace q433 := eq_true q433; have p434 : 0 ≤ (2 : Int) := (by omega); have q434 : 2 < (t429.length : Int) := of_decide_eq_true (by first | (with_reducible assumption) | assumption); obtain ⟨ad434, e434, hx434_0⟩ := Kd.at_int (Kd.R_reads' HO432.out).2.2 2 p434 q434; obtain rfl : ad433 = ad434 := (by injection e434); (try simp only [show (2 : Int).toNat = 2 from rfl, Nat.reduceMul, Nat.reduceEqDiff, Go.Addr.add, ↓reduceIte] at hx434_0); have qi434 : (2 < t429.length) = True := eq_true (by omega); (try rw [show ((2 : Int)).toNat = 2 from rfl] at hx434_0); replace p434 := eq_true p434; replace q434 := eq_true q434; have hcz15_0 : w13.cell? ⟨gb427, 0, none⟩ = some (.int .u8 0) := (blk_cell BK427.out 0).trans rfl; have hcz15_1 : w13.cell? ⟨gb427, 1, none⟩ = some (.slice none 0 0) := (blk_cell BK427.out 1).trans rfl; have hfz15_0 := blk_frozen BK427.out 0; have hfz15_1 := blk_frozen BK427.out 1)); try go_wp2_with (first | ((with_reducible refine gate_dst (N := 2) rfl ?_); refine box_event ?hg (N := 2) ?hd (cs := #[.int .u8 0, .slice none 0 0]) (t := 56) ?hr ?_; (case hd => rfl); (case hg => rfl); (case hr => first | (go_simp; done) | (go_simp; rfl)); intro gb427 hg w11 hbox hb; have n0_ := Aside0.mk (below_step (by repeat (first | (with_reducible first | exact HB.out | apply below_alloc | apply pw_below_drewN | apply below_drew1) | exact HB.out)) hb); have n1_ := Aside0.mk (hbox); have n2_ := Aside0.mk ((by rw [hg]; exact (below_size (by repeat (first | (with_reducible first | exact HB.out | apply below_alloc | apply pw_below_drewN | apply below_drew1) | exact HB.out))) : w.heap.size ≤ gb427)); have n3_ := Aside0.mk ((by rw [hg]; exact (below_size (by repeat (first | (with_reducible first | exact HB.out | apply below_alloc | apply pw_below_drewN | apply below_drew1) | exact HB.out))) : w.heap.size ≤ gb427)); clear HB; have HB := n0_; have BK427 := n1_; have GW427 := n2_; have GE427 := n3_; clear n0_ n1_ n2_ n3_; clear hb hbox hg; obtain ⟨i012, hi012, _, hsz12, _⟩ := info_parts info5; obtain ⟨hcut12, hA12, hC12⟩ := print_take_of (P := Try.prog) (Value.int .u8) 0 23 5 .i64 Try.underlying23 hi012 hsz12 A0 c0 l0 7 (by omega) (of_decide_eq_true (by first | (with_reducible assumption) | assumption)) HC0.out; have HR428 := Aside0.mk (Kd.C_of_reads (h1 := fun _ => rfl) (hA12 _ (Kd.reads_of_C HR0.out))); have HC428 := Aside0.mk hC12; clear hA12 hC12 hi012 hsz12) | (go_at_call 33; (try rw [← List.length_take]); (with_reducible refine (sum_Cut.calls k _ _ (l0.take 7) t429 true _ ?side1 ?side2 A6.out).mono ?_); (case side1 => repeat (first | exact (Kd.C_below HR428.out HB.out) | (with_reducible refine Kd.C_alloc ?_ _) | (with_reducible refine Kd.C_drewN ?_ _) | (with_reducible refine Kd.C_drew ?_))); (case side2 => exact HC428.out); rintro e w13 ⟨v431, rfl, ho0, hb⟩; have n0_ := Aside0.mk (Kd.R_lower ho0 (below_size (by repeat (first | (with_reducible first | exact HB.out | apply below_alloc | apply pw_below_drewN | apply below_drew1 | refine below_set ?_ GE427.out) | exact HB.out)))); have n1_ := Aside0.mk (blk_below (g := gb427) (o := .cells #[.int .u8 0, .slice none 0 0] 56 (0, 0)) (by (with_reducible repeat (first | refine blk_drewN ?_ _ | refine blk_drew ?_ | refine blk_alloc ?_ _)); exact BK427.out) hb); have n2_ := Aside0.mk (below_step (by repeat (first | (with_reducible first | exact HB.out | apply below_alloc | apply pw_below_drewN | apply below_drew1 | refine below_set ?_ GE427.out) | exact HB.out)) hb); clear BK427; clear HB; have HO432 := n0_; have BK427 := n1_; have HB := n2_; clear n0_ n1_ n2_; (try clear hb); (try clear hb2); (try clear hk); (try clear hi); (try clear ho0); obtain ⟨Ao14, co14, eo14⟩ := Kd.R_slice HO432.out; subst eo14; have p433 : 0 ≤ (1 : Int) := (by omega); have q433 : 1 < (t429.length : Int) := of_decide_eq_true (by first | (with_reducible assumption) | assumption); obtain ⟨ad433, e433, hx433_0⟩ := Kd.at_int (Kd.R_reads' HO432.out).2.2 1 p433 q433; cases e433; (try simp only [show (1 : Int).toNat = 1 from rfl, Nat.reduceMul, Nat.reduceEqDiff, Go.Addr.add, ↓reduceIte] at hx433_0); have qi433 : (1 < t429.length) = True := eq_true (by omega); (try rw [show ((1 : Int)).toNat = 1 from rfl] at hx433_0); replace p433 := eq_true p433; replace q433 := eq_true q433; have p434 : 0 ≤ (2 : Int) := (by omega); have q434 : 2 < (t429.length : Int) := of_decide_eq_true (by first | (with_reducible assumption) | assumption); obtain ⟨ad434, e434, hx434_0⟩ := Kd.at_int (Kd.R_reads' HO432.out).2.2 2 p434 q434; obtain rfl : ad433 = ad434 := (by injection e434); (try simp only [show (2 : Int).toNat = 2 from rfl, Nat.reduceMul, Nat.reduceEqDiff, Go.Addr.add, ↓reduceIte] at hx434_0); have qi434 : (2 < t429.length) = True := eq_true (by omega); (try rw [show ((2 : Int)).toNat = 2 from rfl] at hx434_0); replace p434 := eq_true p434; replace q434 := eq_true q434; have hcz15_0 : w13.cell? ⟨gb427, 0, none⟩ = some (.int .u8 0) := (blk_cell BK427.out 0).trans rfl; have hcz15_1 : w13.cell? ⟨gb427, 1, none⟩ = some (.slice none 0 0) := (blk_cell BK427.out 1).trans rfl; have hfz15_0 := blk_frozen BK427.out 0; have hfz15_1 := blk_frozen BK427.out 1)))
              refine bodyPost_ret (results_ctt rfl _ _ gb427 56 #[.int .u8 0, .slice none 0 0] (0, 0) _ rfl (by (with_reducible repeat (first | refine blk_drewN ?_ _ | refine blk_drew ?_ | refine blk_alloc ?_ _)); refine blk_put (cs := #[.int .u8 0, .slice none 0 0]) ?_ 1 _ rfl; (with_reducible repeat (first | refine blk_drewN ?_ _ | refine blk_drew ?_ | refine blk_alloc ?_ _)); refine blk_put (cs := #[.int .u8 0, .slice none 0 0]) ?_ 0 _ rfl; (with_reducible repeat (first | refine blk_drewN ?_ _ | refine blk_drew ?_ | refine blk_alloc ?_ _)); exact BK427.out) Try.underlying56 rfl (by kernel_rfl)) rfl ?_
              exact ⟨_, by first | rfl | (simp [errW_none, errW_some] <;> rfl) | (simp [*, errW_none, errW_some] <;> rfl), by first | exact Kd.R_nil _ _ _ _ _ | exact Kd.N_nil _ _ _ _ _ | exact Kd.V_nil _ _ _ _ _ | exact Kd.Q_nil _ _ _ _ _ | exact Kd.S_nil _ _ _ _ _, by repeat (first | (with_reducible first | exact HB.out | apply below_alloc | apply pw_below_drewN | apply below_drew1 | refine below_set ?_ GE427.out) | exact HB.out)⟩
            · rw [if_neg c10] at H
              have c10b0 : decide (400 < (Go.bits .or .i64 (wrap64 (rd t429 1)) (wrap64 ((wrap64 (rd t429 2)) * 256)))) = false := decide_eq_false c10
              clear c10
              by_cases c16 : (l0.length : Int) < (wrap64 ((wrap64 (7 + (Go.bits .or .i64 (wrap64 (rd t429 1)) (wrap64 ((wrap64 (rd t429 2)) * 256))))) + 4))
              · rw [if_pos c16] at H
                have c16b0 : decide ((l0.length : Int) < (wrap64 ((wrap64 (7 + (Go.bits .or .i64 (wrap64 (rd t429 1)) (wrap64 ((wrap64 (rd t429 2)) * 256))))) + 4))) = true := decide_eq_true c16
                clear c16
                simp only [Option.some.injEq, Prod.mk.injEq] at H
                obtain ⟨rfl, rfl, rfl, rfl⟩ := H
                go_enter Try.func47, Try.ntmps47
                go_wp2_with (first | ((with_reducible refine gate_dst (N := 2) rfl ?_); refine box_event ?hg (N := 2) ?hd (cs := #[.int .u8 0, .slice none 0 0]) (t := 56) ?hr ?_; (case hd => rfl); (case hg => rfl); (case hr => first | (go_simp; done) | (go_simp; rfl)); intro gb427 hg w17 hbox hb; have n0_ := Aside0.mk (below_step (by repeat (first | (with_reducible first | exact HB.out | apply below_alloc | apply pw_below_drewN | apply below_drew1) | exact HB.out)) hb); have n1_ := Aside0.mk (hbox); have n2_ := Aside0.mk ((by rw [hg]; exact (below_size (by repeat (first | (with_reducible first | exact HB.out | apply below_alloc | apply pw_below_drewN | apply below_drew1) | exact HB.out))) : w.heap.size ≤ gb427)); have n3_ := Aside0.mk ((by rw [hg]; exact (below_size (by repeat (first | (with_reducible first | exact HB.out | apply below_alloc | apply pw_below_drewN | apply below_drew1) | exact HB.out))) : w.heap.size ≤ gb427)); clear HB; have HB := n0_; have BK427 := n1_; have GW427 := n2_; have GE427 := n3_; clear n0_ n1_ n2_ n3_; clear hb hbox hg; obtain ⟨i018, hi018, _, hsz18, _⟩ := info_parts info5; obtain ⟨hcut18, hA18, hC18⟩ := print_take_of (P := Try.prog) (Value.int .u8) 0 23 5 .i64 Try.underlying23 hi018 hsz18 A0 c0 l0 7 (by omega) (of_decide_eq_true (by first | (with_reducible assumption) | assumption)) HC0.out; have HR428 := Aside0.mk (Kd.C_of_reads (h1 := fun _ => rfl) (hA18 _ (Kd.reads_of_C HR0.out))); have HC428 := Aside0.mk hC18; clear hA18 hC18 hi018 hsz18) | (go_at_call 33; (try rw [← List.length_take]); (with_reducible refine (sum_Cut.calls k _ _ (l0.take 7) t429 true _ ?side1 ?side2 A6.out).mono ?_); (case side1 => repeat (first | exact (Kd.C_below HR428.out HB.out) | (with_reducible refine Kd.C_alloc ?_ _) | (with_reducible refine Kd.C_drewN ?_ _) | (with_reducible refine Kd.C_drew ?_))); (case side2 => exact HC428.out); rintro e w19 ⟨v431, rfl, ho0, hb⟩; have n0_ := Aside0.mk (Kd.R_lower ho0 (below_size (by repeat (first | (with_reducible first | exact HB.out | apply below_alloc | apply pw_below_drewN | apply below_drew1 | refine below_set ?_ GE427.out) | exact HB.out)))); have n1_ := Aside0.mk (blk_below (g := gb427) (o := .cells #[.int .u8 0, .slice none 0 0] 56 (0, 0)) (by (with_reducible repeat (first | refine blk_drewN ?_ _ | refine blk_drew ?_ | refine blk_alloc ?_ _)); exact BK427.out) hb); have n2_ := Aside0.mk (below_step (by repeat (first | (with_reducible first | exact HB.out | apply below_alloc | apply pw_below_drewN | apply below_drew1 | refine below_set ?_ GE427.out) | exact HB.out)) hb); clear BK427; clear HB; have HO432 := n0_; have BK427 := n1_; have HB := n2_; clear n0_ n1_ n2_; (try clear hb); (try clear hb2); (try clear hk); (try clear hi); (try clear ho0); obtain ⟨Ao20, co20, eo20⟩ := Kd.R_slice HO432.out; subst eo20; have p433 : 0 ≤ (1 : Int) := (by omega); have q433 : 1 < (t429.length : Int) := of_decide_eq_true (by first | (with_reducible assumption) | assumption); obtain ⟨ad433, e433, hx433_0⟩ := Kd.at_int (Kd.R_reads' HO432.out).2.2 1 p433 q433; cases e433; (try simp only [show (1 : Int).toNat = 1 from rfl, Nat.reduceMul, Nat.reduceEqDiff, Go.Addr.add, ↓reduceIte] at hx433_0); have qi433 : (1 < t429.length) = True := eq_true (by omega); (try rw [show ((1 : Int)).toNat = 1 from rfl] at hx433_0); replace p433 := eq_true p433; replace q433 := eq_true q433; have p434 : 0 ≤ (2 : Int) := (by omega); have q434 : 2 < (t429.length : Int) := of_decide_eq_true (by first | (with_reducible assumption) | assumption); obtain ⟨ad434, e434, hx434_0⟩ := Kd.at_int (Kd.R_reads' HO432.out).2.2 2 p434 q434; obtain rfl : ad433 = ad434 := (by injection e434); (try simp only [show (2 : Int).toNat = 2 from rfl, Nat.reduceMul, Nat.reduceEqDiff, Go.Addr.add, ↓reduceIte] at hx434_0); have qi434 : (2 < t429.length) = True := eq_true (by omega); (try rw [show ((2 : Int)).toNat = 2 from rfl] at hx434_0); replace p434 := eq_true p434; replace q434 := eq_true q434; have hcz21_0 : w19.cell? ⟨gb427, 0, none⟩ = some (.int .u8 0) := (blk_cell BK427.out 0).trans rfl; have hcz21_1 : w19.cell? ⟨gb427, 1, none⟩ = some (.slice none 0 0) := (blk_cell BK427.out 1).trans rfl; have hfz21_0 := blk_frozen BK427.out 0; have hfz21_1 := blk_frozen BK427.out 1))
                repeat (go_quiet (first | ((with_reducible refine gate_dst (N := 2) rfl ?_); refine box_event ?hg (N := 2) ?hd (cs := #[.int .u8 0, .slice none 0 0]) (t := 56) ?hr ?_; (case hd => rfl); (case hg => rfl); (case hr => first | (go_simp; done) | (go_simp; rfl)); intro gb427 hg w17 hbox hb; have n0_ := Aside0.mk (below_step (by repeat (first | (with_reducible first | exact HB.out | apply below_alloc | apply pw_below_drewN | apply below_drew1) | exact HB.out)) hb); have n1_ := Aside0.mk (hbox); have n2_ := Aside0.mk ((by rw [hg]; exact (below_size (by repeat (first | (with_reducible first | exact HB.out | apply below_alloc | apply pw_below_drewN | apply below_drew1) | exact HB.out))) : w.heap.size ≤ gb427)); have n3_ := Aside0.mk ((by rw [hg]; exact (below_size (by repeat (first | (with_reducible first | exact HB.out | apply below_alloc | apply pw_below_drewN | apply below_drew1) | exact HB.out))) : w.heap.size ≤ gb427)); clear HB; have HB := n0_; have BK427 := n1_; have GW427 := n2_; have GE427 := n3_; clear n0_ n1_ n2_ n3_; clear hb hbox hg; obtain ⟨i018, hi018, _, hsz18, _⟩ := info_parts info5; obtain ⟨hcut18, hA18, hC18⟩ := print_take_of (P := Try.prog) (Value.int .u8) 0 23 5 .i64 Try.underlying23 hi018 hsz18 A0 c0 l0 7 (by omega) (of_decide_eq_true (by first | (with_reducible assumption) | assumption)) HC0.out; have HR428 := Aside0.mk (Kd.C_of_reads (h1 := fun _ => rfl) (hA18 _ (Kd.reads_of_C HR0.out))); have HC428 := Aside0.mk hC18; clear hA18 hC18 hi018 hsz18) | (go_at_call 33; (try rw [← List.length_take]); (with_reducible refine (sum_Cut.calls k _ _ (l0.take 7) t429 true _ ?side1 ?side2 A6.out).mono ?_); (case side1 => repeat (first | exact (Kd.C_below HR428.out HB.out) | (with_reducible refine Kd.C_alloc ?_ _) | (with_reducible refine Kd.C_drewN ?_ _) | (with_reducible refine Kd.C_drew ?_))); (case side2 => exact HC428.out); rintro e w19 ⟨v431, rfl, ho0, hb⟩; have n0_ := Aside0.mk (Kd.R_lower ho0 (below_size (by repeat (first | (with_reducible first | exact HB.out | apply below_alloc | apply pw_below_drewN | apply below_drew1 | refine below_set ?_ GE427.out) | exact HB.out)))); have n1_ := Aside0.mk (blk_below (g := gb427) (o := .cells #[.int .u8 0, .slice none 0 0] 56 (0, 0)) (by (with_reducible repeat (first | refine blk_drewN ?_ _ | refine blk_drew ?_ | refine blk_alloc ?_ _)); exact BK427.out) hb); have n2_ := Aside0.mk (below_step (by repeat (first | (with_reducible first | exact HB.out | apply below_alloc | apply pw_below_drewN | apply below_drew1 | refine below_set ?_ GE427.out) | exact HB.out)) hb); clear BK427; clear HB; have HO432 := n0_; have BK427 := n1_; have HB := n2_; clear n0_ n1_ n2_; (try clear hb); (try clear hb2); (try clear hk); (try clear hi); (try clear ho0); obtain ⟨Ao20, co20, eo20⟩ := Kd.R_slice HO432.out; subst eo20; have p433 : 0 ≤ (1 : Int) := (by omega); have q433 : 1 < (t429.length : Int) := of_decide_eq_true (by first | (with_reducible assumption) | assumption); obtain ⟨ad433, e433, hx433_0⟩ := Kd.at_int (Kd.R_reads' HO432.out).2.2 1 p433 q433; cases e433; (try simp only [show (1 : Int).toNat = 1 from rfl, Nat.reduceMul, Nat.reduceEqDiff, Go.Addr.add, ↓reduceIte] at hx433_0); have qi433 : (1 < t429.length) = True := eq_true (by omega); (try rw [show ((1 : Int)).toNat = 1 from rfl] at hx433_0); replace p433 := eq_true p433; replace q433 := eq_true q433; have p434 : 0 ≤ (2 : Int) := (by omega); have q434 : 2 < (t429.length : Int) := of_decide_eq_true (by first | (with_reducible assumption) | assumption); obtain ⟨ad434, e434, hx434_0⟩ := Kd.at_int (Kd.R_reads' HO432.out).2.2 2 p434 q434; obtain rfl : ad433 = ad434 := (by injection e434); (try simp only [show (2 : Int).toNat = 2 from rfl, Nat.reduceMul, Nat.reduceEqDiff, Go.Addr.add, ↓reduceIte] at hx434_0); have qi434 : (2 < t429.length) = True := eq_true (by omega); (try rw [show ((2 : Int)).toNat = 2 from rfl] at hx434_0); replace p434 := eq_true p434; replace q434 := eq_true q434; have hcz21_0 : w19.cell? ⟨gb427, 0, none⟩ = some (.int .u8 0) := (blk_cell BK427.out 0).trans rfl; have hcz21_1 : w19.cell? ⟨gb427, 1, none⟩ = some (.slice none 0 0) := (blk_cell BK427.out 1).trans rfl; have hfz21_0 := blk_frozen BK427.out 0; have hfz21_1 := blk_frozen BK427.out 1)); try go_wp2_with (first | ((with_reducible refine gate_dst (N := 2) rfl ?_); refine box_event ?hg (N := 2) ?hd (cs := #[.int .u8 0, .slice none 0 0]) (t := 56) ?hr ?_; (case hd => rfl); (case hg => rfl); (case hr => first | (go_simp; done) | (go_simp; rfl)); intro gb427 hg w17 hbox hb; have n0_ := Aside0.mk (below_step (by repeat (first | (with_reducible first | exact HB.out | apply below_alloc | apply pw_below_drewN | apply below_drew1) | exact HB.out)) hb); have n1_ := Aside0.mk (hbox); have n2_ := Aside0.mk ((by rw [hg]; exact (below_size (by repeat (first | (with_reducible first | exact HB.out | apply below_alloc | apply pw_below_drewN | apply below_drew1) | exact HB.out))) : w.heap.size ≤ gb427)); have n3_ := Aside0.mk ((by rw [hg]; exact (below_size (by repeat (first | (with_reducible first | exact HB.out | apply below_alloc | apply pw_below_drewN | apply below_drew1) | exact HB.out))) : w.heap.size ≤ gb427)); clear HB; have HB := n0_; have BK427 := n1_; have GW427 := n2_; have GE427 := n3_; clear n0_ n1_ n2_ n3_; clear hb hbox hg; obtain ⟨i018, hi018, _, hsz18, _⟩ := info_parts info5; obtain ⟨hcut18, hA18, hC18⟩ := print_take_of (P := Try.prog) (Value.int .u8) 0 23 5 .i64 Try.underlying23 hi018 hsz18 A0 c0 l0 7 (by omega) (of_decide_eq_true (by first | (with_reducible assumption) | assumption)) HC0.out; have HR428 := Aside0.mk (Kd.C_of_reads (h1 := fun _ => rfl) (hA18 _ (Kd.reads_of_C HR0.out))); have HC428 := Aside0.mk hC18; clear hA18 hC18 hi018 hsz18) | (go_at_call 33; (try rw [← List.length_take]); (with_reducible refine (sum_Cut.calls k _ _ (l0.take 7) t429 true _ ?side1 ?side2 A6.out).mono ?_); (case side1 => repeat (first | exact (Kd.C_below HR428.out HB.out) | (with_reducible refine Kd.C_alloc ?_ _) | (with_reducible refine Kd.C_drewN ?_ _) | (with_reducible refine Kd.C_drew ?_))); (case side2 => exact HC428.out); rintro e w19 ⟨v431, rfl, ho0, hb⟩; have n0_ := Aside0.mk (Kd.R_lower ho0 (below_size (by repeat (first | (with_reducible first | exact HB.out | apply below_alloc | apply pw_below_drewN | apply below_drew1 | refine below_set ?_ GE427.out) | exact HB.out)))); have n1_ := Aside0.mk (blk_below (g := gb427) (o := .cells #[.int .u8 0, .slice none 0 0] 56 (0, 0)) (by (with_reducible repeat (first | refine blk_drewN ?_ _ | refine blk_drew ?_ | refine blk_alloc ?_ _)); exact BK427.out) hb); have n2_ := Aside0.mk (below_step (by repeat (first | (with_reducible first | exact HB.out | apply below_alloc | apply pw_below_drewN | apply below_drew1 | refine below_set ?_ GE427.out) | exact HB.out)) hb); clear BK427; clear HB; have HO432 := n0_; have BK427 := n1_; have HB := n2_; clear n0_ n1_ n2_; (try clear hb); (try clear hb2); (try clear hk); (try clear hi); (try clear ho0); obtain ⟨Ao20, co20, eo20⟩ := Kd.R_slice HO432.out; subst eo20; have p433 : 0 ≤ (1 : Int) := (by omega); have q433 : 1 < (t429.length : Int) := of_decide_eq_true (by first | (with_reducible assumption) | assumption); obtain ⟨ad433, e433, hx433_0⟩ := Kd.at_int (Kd.R_reads' HO432.out).2.2 1 p433 q433; cases e433; (try simp only [show (1 : Int).toNat = 1 from rfl, Nat.reduceMul, Nat.reduceEqDiff, Go.Addr.add, ↓reduceIte] at hx433_0); have qi433 : (1 < t429.length) = True := eq_true (by omega); (try rw [show ((1 : Int)).toNat = 1 from rfl] at hx433_0); replace p433 := eq_true p433; replace q433 := eq_true q433; have p434 : 0 ≤ (2 : Int) := (by omega); have q434 : 2 < (t429.length : Int) := of_decide_eq_true (by first | (with_reducible assumption) | assumption); obtain ⟨ad434, e434, hx434_0⟩ := Kd.at_int (Kd.R_reads' HO432.out).2.2 2 p434 q434; obtain rfl : ad433 = ad434 := (by injection e434); (try simp only [show (2 : Int).toNat = 2 from rfl, Nat.reduceMul, Nat.reduceEqDiff, Go.Addr.add, ↓reduceIte] at hx434_0); have qi434 : (2 < t429.length) = True := eq_true (by omega); (try rw [show ((2 : Int)).toNat = 2 from rfl] at hx434_0); replace p434 := eq_true p434; replace q434 := eq_true q434; have hcz21_0 : w19.cell? ⟨gb427, 0, none⟩ = some (.int .u8 0) := (blk_cell BK427.out 0).trans rfl; have hcz21_1 : w19.cell? ⟨gb427, 1, none⟩ = some (.slice none 0 0) := (blk_cell BK427.out 1).trans rfl; have hfz21_0 := blk_frozen BK427.out 0; have hfz21_1 := blk_frozen BK427.out 1)))
                refine bodyPost_ret (results_ctt rfl _ _ gb427 56 #[.int .u8 0, .slice none 0 0] (0, 0) _ rfl (by (with_reducible repeat (first | refine blk_drewN ?_ _ | refine blk_drew ?_ | refine blk_alloc ?_ _)); refine blk_put (cs := #[.int .u8 0, .slice none 0 0]) ?_ 1 _ rfl; (with_reducible repeat (first | refine blk_drewN ?_ _ | refine blk_drew ?_ | refine blk_alloc ?_ _)); refine blk_put (cs := #[.int .u8 0, .slice none 0 0]) ?_ 0 _ rfl; (with_reducible repeat (first | refine blk_drewN ?_ _ | refine blk_drew ?_ | refine blk_alloc ?_ _)); exact BK427.out) Try.underlying56 rfl (by kernel_rfl)) rfl ?_
                exact ⟨_, by first | rfl | (simp [errW_none, errW_some] <;> rfl) | (simp [*, errW_none, errW_some] <;> rfl), by first | exact Kd.R_nil _ _ _ _ _ | exact Kd.N_nil _ _ _ _ _ | exact Kd.V_nil _ _ _ _ _ | exact Kd.Q_nil _ _ _ _ _ | exact Kd.S_nil _ _ _ _ _, by repeat (first | (with_reducible first | exact HB.out | apply below_alloc | apply pw_below_drewN | apply below_drew1 | refine below_set ?_ GE427.out) | exact HB.out)⟩
              · rw [if_neg c16] at H
                have c16b0 : decide ((l0.length : Int) < (wrap64 ((wrap64 (7 + (Go.bits .or .i64 (wrap64 (rd t429 1)) (wrap64 ((wrap64 (rd t429 2)) * 256))))) + 4))) = false := decide_eq_false c16
                clear c16
                by_cases c22 : 7 ≤ (wrap64 ((wrap64 (7 + (Go.bits .or .i64 (wrap64 (rd t429 1)) (wrap64 ((wrap64 (rd t429 2)) * 256))))) + 4))
                · rw [if_pos c22] at H
                  have c22b0 := eq_true c22
                  have c22b1 : decide (7 ≤ (wrap64 ((wrap64 (7 + (Go.bits .or .i64 (wrap64 (rd t429 1)) (wrap64 ((wrap64 (rd t429 2)) * 256))))) + 4))) = true := decide_eq_true c22
                  by_cases c23 : (wrap64 ((wrap64 (7 + (Go.bits .or .i64 (wrap64 (rd t429 1)) (wrap64 ((wrap64 (rd t429 2)) * 256))))) + 4)) ≤ (l0.length : Int)
                  · rw [if_pos c23] at H
                    have c23b0 := eq_true c23
                    have c23b1 : decide ((wrap64 ((wrap64 (7 + (Go.bits .or .i64 (wrap64 (rd t429 1)) (wrap64 ((wrap64 (rd t429 2)) * 256))))) + 4)) ≤ (l0.length : Int)) = true := decide_eq_true c23
                    replace H := Option.bind_eq_some_iff.mp H
                    obtain ⟨⟨t436, t437⟩, A240, H⟩ := H
                    replace H : (if t437 = true then (if 0 < (t429.length : Int) then (some (rd t429 0, t436, wrap64 ((wrap64 (7 + (Go.bits .or .i64 (wrap64 (rd t429 1)) (wrap64 ((wrap64 (rd t429 2)) * 256))))) + 4), 0)) else (none)) else (some (0, ([] : List Int), 0, 8))) = some (r1, r2, r3, r4) := H
                    have A24 := Aside0.mk A240
                    clear A240
                    by_cases c25 : t437 = true
                    · subst c25
                      have H1 : (if 0 < (t429.length : Int) then (some (rd t429 0, t436, wrap64 ((wrap64 (7 + (Go.bits .or .i64 (wrap64 (rd t429 1)) (wrap64 ((wrap64 (rd t429 2)) * 256))))) + 4), 0)) else (none)) = some (r1, r2, r3, r4) := by rw [if_pos rfl] at H; exact H
                      clear H
                      have H := H1
                      clear H1
                      by_cases c26 : 0 < (t429.length : Int)
                      · rw [if_pos c26] at H
                        have c26b0 : decide (0 < (t429.length : Int)) = true := decide_eq_true c26
                        have c26b1 : decide (0 < t429.length) = true := decide_eq_true (by omega)
                        clear c26
                        simp only [Option.some.injEq, Prod.mk.injEq] at H
                        obtain ⟨rfl, rfl, rfl, rfl⟩ := H
                        go_enter Try.func47, Try.ntmps47
                        go_wp2_with (first | ((with_reducible refine gate_dst (N := 2) rfl ?_); refine box_event ?hg (N := 2) ?hd (cs := #[.int .u8 0, .slice none 0 0]) (t := 56) ?hr ?_; (case hd => rfl); (case hg => rfl); (case hr => first | (go_simp; done) | (go_simp; rfl)); intro gb427 hg w27 hbox hb; have n0_ := Aside0.mk (below_step (by repeat (first | (with_reducible first | exact HB.out | apply below_alloc | apply pw_below_drewN | apply below_drew1) | exact HB.out)) hb); have n1_ := Aside0.mk (hbox); have n2_ := Aside0.mk ((by rw [hg]; exact (below_size (by repeat (first | (with_reducible first | exact HB.out | apply below_alloc | apply pw_below_drewN | apply below_drew1) | exact HB.out))) : w.heap.size ≤ gb427)); have n3_ := Aside0.mk ((by rw [hg]; exact (below_size (by repeat (first | (with_reducible first | exact HB.out | apply below_alloc | apply pw_below_drewN | apply below_drew1) | exact HB.out))) : w.heap.size ≤ gb427)); clear HB; have HB := n0_; have BK427 := n1_; have GW427 := n2_; have GE427 := n3_; clear n0_ n1_ n2_ n3_; clear hb hbox hg; obtain ⟨i028, hi028, _, hsz28, _⟩ := info_parts info5; obtain ⟨hcut28, hA28, hC28⟩ := print_take_of (P := Try.prog) (Value.int .u8) 0 23 5 .i64 Try.underlying23 hi028 hsz28 A0 c0 l0 7 (by omega) (of_decide_eq_true (by first | (with_reducible assumption) | assumption)) HC0.out; have HR428 := Aside0.mk (Kd.C_of_reads (h1 := fun _ => rfl) (hA28 _ (Kd.reads_of_C HR0.out))); have HC428 := Aside0.mk hC28; clear hA28 hC28 hi028 hsz28) | (go_at_call 33; (try rw [← List.length_take]); (with_reducible refine (sum_Cut.calls k _ _ (l0.take 7) t429 true _ ?side1 ?side2 A6.out).mono ?_); (case side1 => repeat (first | exact (Kd.C_below HR428.out HB.out) | (with_reducible refine Kd.C_alloc ?_ _) | (with_reducible refine Kd.C_drewN ?_ _) | (with_reducible refine Kd.C_drew ?_))); (case side2 => exact HC428.out); rintro e w29 ⟨v431, rfl, ho0, hb⟩; have n0_ := Aside0.mk (Kd.R_lower ho0 (below_size (by repeat (first | (with_reducible first | exact HB.out | apply below_alloc | apply pw_below_drewN | apply below_drew1 | refine below_set ?_ GE427.out) | exact HB.out)))); have n1_ := Aside0.mk (blk_below (g := gb427) (o := .cells #[.int .u8 0, .slice none 0 0] 56 (0, 0)) (by (with_reducible repeat (first | refine blk_drewN ?_ _ | refine blk_drew ?_ | refine blk_alloc ?_ _)); exact BK427.out) hb); have n2_ := Aside0.mk (below_step (by repeat (first | (with_reducible first | exact HB.out | apply below_alloc | apply pw_below_drewN | apply below_drew1 | refine below_set ?_ GE427.out) | exact HB.out)) hb); clear BK427; clear HB; have HO432 := n0_; have BK427 := n1_; have HB := n2_; clear n0_ n1_ n2_; (try clear hb); (try clear hb2); (try clear hk); (try clear hi); (try clear ho0); obtain ⟨Ao30, co30, eo30⟩ := Kd.R_slice HO432.out; subst eo30; have p433 : 0 ≤ (1 : Int) := (by omega); have q433 : 1 < (t429.length : Int) := of_decide_eq_true (by first | (with_reducible assumption) | assumption); obtain ⟨ad433, e433, hx433_0⟩ := Kd.at_int (Kd.R_reads' HO432.out).2.2 1 p433 q433; cases e433; (try simp only [show (1 : Int).toNat = 1 from rfl, Nat.reduceMul, Nat.reduceEqDiff, Go.Addr.add, ↓reduceIte] at hx433_0); have qi433 : (1 < t429.length) = True := eq_true (by omega); (try rw [show ((1 : Int)).toNat = 1 from rfl] at hx433_0); replace p433 := eq_true p433; replace q433 := eq_true q433; have p434 : 0 ≤ (2 : Int) := (by omega); have q434 : 2 < (t429.length : Int) := of_decide_eq_true (by first | (with_reducible assumption) | assumption); obtain ⟨ad434, e434, hx434_0⟩ := Kd.at_int (Kd.R_reads' HO432.out).2.2 2 p434 q434; obtain rfl : ad433 = ad434 := (by injection e434); (try simp only [show (2 : Int).toNat = 2 from rfl, Nat.reduceMul, Nat.reduceEqDiff, Go.Addr.add, ↓reduceIte] at hx434_0); have qi434 : (2 < t429.length) = True := eq_true (by omega); (try rw [show ((2 : Int)).toNat = 2 from rfl] at hx434_0); replace p434 := eq_true p434; replace q434 := eq_true q434; obtain ⟨i031, hi031, _, hsz31, _⟩ := info_parts info5; obtain ⟨A31, hcut31, hA31, hC31⟩ := print_mid_of (P := Try.prog) (Value.int .u8) 0 23 5 .i64 .i64 Try.underlying23 hi031 hsz31 A0 c0 l0 7 (wrap64 ((wrap64 (7 + (Go.bits .or .i64 (wrap64 (rd t429 1)) (wrap64 ((wrap64 (rd t429 2)) * 256))))) + 4)) (by omega) (by first | omega | exact of_decide_eq_true (by first | (with_reducible assumption) | assumption)) (of_decide_eq_true (by first | (with_reducible assumption) | assumption)) HC0.out; have HR435 := Aside0.mk (Kd.C_of_reads (h1 := fun _ => rfl) (hA31 _ (Kd.reads_of_C HR0.out))); have HC435 := Aside0.mk hC31; clear hA31 hC31 hi031 hsz31) | (go_at_call 33; (try rw [show (wrap64 ((wrap64 (7 + (Go.bits .or .i64 (wrap64 (rd t429 1)) (wrap64 ((wrap64 (rd t429 2)) * 256))))) + 4)).toNat - 7 = ((l0.take ((wrap64 ((wrap64 (7 + (Go.bits .or .i64 (wrap64 (rd t429 1)) (wrap64 ((wrap64 (rd t429 2)) * 256))))) + 4)) : Int).toNat).drop 7).length from (by rw [List.length_drop, List.length_take]; have h_ : ((wrap64 ((wrap64 (7 + (Go.bits .or .i64 (wrap64 (rd t429 1)) (wrap64 ((wrap64 (rd t429 2)) * 256))))) + 4)) : Int) ≤ (l0.length : Int) := of_decide_eq_true (by first | (with_reducible assumption) | assumption); omega)]); (with_reducible refine (sum_Cut.calls k _ _ ((l0.take ((wrap64 ((wrap64 (7 + (Go.bits .or .i64 (wrap64 (rd t429 1)) (wrap64 ((wrap64 (rd t429 2)) * 256))))) + 4)) : Int).toNat).drop 7) t436 true _ ?side1 ?side2 A24.out).mono ?_); (case side1 => repeat (first | exact (Kd.C_below HR435.out HB.out) | (with_reducible refine Kd.C_alloc ?_ _) | (with_reducible refine Kd.C_drewN ?_ _) | (with_reducible refine Kd.C_drew ?_))); (case side2 => exact HC435.out); rintro e w32 ⟨v438, rfl, ho0, hb⟩; have n0_ := Aside0.mk (Kd.R_elder' (by (with_reducible repeat (first | apply Kd.R_alloc | apply Kd.R_drewN | apply Kd.R_drew)); exact HO432.out) (Kd.R_base ho0) hb); have n1_ := Aside0.mk (Kd.R_lower (Kd.R_new' ho0 (Kd.R_lt (by (with_reducible repeat (first | apply Kd.R_alloc | apply Kd.R_drewN | apply Kd.R_drew)); exact HO432.out))) (below_size (by repeat (first | (with_reducible first | exact HB.out | apply below_alloc | apply pw_below_drewN | apply below_drew1 | refine below_set ?_ GE427.out) | exact HB.out)))); have n2_ := Aside0.mk (blk_below (g := gb427) (o := .cells #[.int .u8 0, .slice none 0 0] 56 (0, 0)) (by (with_reducible repeat (first | refine blk_drewN ?_ _ | refine blk_drew ?_ | refine blk_alloc ?_ _)); exact BK427.out) hb); have n3_ := Aside0.mk (below_step (by repeat (first | (with_reducible first | exact HB.out | apply below_alloc | apply pw_below_drewN | apply below_drew1 | refine below_set ?_ GE427.out) | exact HB.out)) hb); clear HO432; clear BK427; clear HB; have HO432 := n0_; have HO439 := n1_; have BK427 := n2_; have HB := n3_; clear n0_ n1_ n2_ n3_; (try clear hb); (try clear hb2); (try clear hk); (try clear hi); (try clear ho0); have p440 : 0 ≤ (0 : Int) := (by omega); have q440 : 0 < (t429.length : Int) := of_decide_eq_true (by first | (with_reducible assumption) | assumption); obtain ⟨ad440, e440, hx440_0⟩ := Kd.at_int (Kd.R_reads' HO432.out).2.2 0 p440 q440; obtain rfl : ad433 = ad440 := (by injection e440); have qi440 : (0 < t429.length) = True := eq_true (by omega); (try rw [show ((0 : Int)).toNat = 0 from rfl] at hx440_0); (try rw [Addr.add_zero'] at hx440_0); replace p440 := eq_true p440; replace q440 := eq_true q440; obtain ⟨Ao33, co33, eo33⟩ := Kd.R_slice HO439.out; subst eo33; have hcz34_0 : w32.cell? ⟨gb427, 0, none⟩ = some (.int .u8 0) := (blk_cell BK427.out 0).trans rfl; have hcz34_1 : w32.cell? ⟨gb427, 1, none⟩ = some (.slice none 0 0) := (blk_cell BK427.out 1).trans rfl; have hfz34_0 := blk_frozen BK427.out 0; have hfz34_1 := blk_frozen BK427.out 1))
                        repeat (go_quiet (first | ((with_reducible refine gate_dst (N := 2) rfl ?_); refine box_event ?hg (N := 2) ?hd (cs := #[.int .u8 0, .slice none 0 0]) (t := 56) ?hr ?_; (case hd => rfl); (case hg => rfl); (case hr => first | (go_simp; done) | (go_simp; rfl)); intro gb427 hg w27 hbox hb; have n0_ := Aside0.mk (below_step (by repeat (first | (with_reducible first | exact HB.out | apply below_alloc | apply pw_below_drewN | apply below_drew1) | exact HB.out)) hb); have n1_ := Aside0.mk (hbox); have n2_ := Aside0.mk ((by rw [hg]; exact (below_size (by repeat (first | (with_reducible first | exact HB.out | apply below_alloc | apply pw_below_drewN | apply below_drew1) | exact HB.out))) : w.heap.size ≤ gb427)); have n3_ := Aside0.mk ((by rw [hg]; exact (below_size (by repeat (first | (with_reducible first | exact HB.out | apply below_alloc | apply pw_below_drewN | apply below_drew1) | exact HB.out))) : w.heap.size ≤ gb427)); clear HB; have HB := n0_; have BK427 := n1_; have GW427 := n2_; have GE427 := n3_; clear n0_ n1_ n2_ n3_; clear hb hbox hg; obtain ⟨i028, hi028, _, hsz28, _⟩ := info_parts info5; obtain ⟨hcut28, hA28, hC28⟩ := print_take_of (P := Try.prog) (Value.int .u8) 0 23 5 .i64 Try.underlying23 hi028 hsz28 A0 c0 l0 7 (by omega) (of_decide_eq_true (by first | (with_reducible assumption) | assumption)) HC0.out; have HR428 := Aside0.mk (Kd.C_of_reads (h1 := fun _ => rfl) (hA28 _ (Kd.reads_of_C HR0.out))); have HC428 := Aside0.mk hC28; clear hA28 hC28 hi028 hsz28) | (go_at_call 33; (try rw [← List.length_take]); (with_reducible refine (sum_Cut.calls k _ _ (l0.take 7) t429 true _ ?side1 ?side2 A6.out).mono ?_); (case side1 => repeat (first | exact (Kd.C_below HR428.out HB.out) | (with_reducible refine Kd.C_alloc ?_ _) | (with_reducible refine Kd.C_drewN ?_ _) | (with_reducible refine Kd.C_drew ?_))); (case side2 => exact HC428.out); rintro e w29 ⟨v431, rfl, ho0, hb⟩; have n0_ := Aside0.mk (Kd.R_lower ho0 (below_size (by repeat (first | (with_reducible first | exact HB.out | apply below_alloc | apply pw_below_drewN | apply below_drew1 | refine below_set ?_ GE427.out) | exact HB.out)))); have n1_ := Aside0.mk (blk_below (g := gb427) (o := .cells #[.int .u8 0, .slice none 0 0] 56 (0, 0)) (by (with_reducible repeat (first | refine blk_drewN ?_ _ | refine blk_drew ?_ | refine blk_alloc ?_ _)); exact BK427.out) hb); have n2_ := Aside0.mk (below_step (by repeat (first | (with_reducible first | exact HB.out | apply below_alloc | apply pw_below_drewN | apply below_drew1 | refine below_set ?_ GE427.out) | exact HB.out)) hb); clear BK427; clear HB; have HO432 := n0_; have BK427 := n1_; have HB := n2_; clear n0_ n1_ n2_; (try clear hb); (try clear hb2); (try clear hk); (try clear hi); (try clear ho0); obtain ⟨Ao30, co30, eo30⟩ := Kd.R_slice HO432.out; subst eo30; have p433 : 0 ≤ (1 : Int) := (by omega); have q433 : 1 < (t429.length : Int) := of_decide_eq_true (by first | (with_reducible assumption) | assumption); obtain ⟨ad433, e433, hx433_0⟩ := Kd.at_int (Kd.R_reads' HO432.out).2.2 1 p433 q433; cases e433; (try simp only [show (1 : Int).toNat = 1 from rfl, Nat.reduceMul, Nat.reduceEqDiff, Go.Addr.add, ↓reduceIte] at hx433_0); have qi433 : (1 < t429.length) = True := eq_true (by omega); (try rw [show ((1 : Int)).toNat = 1 from rfl] at hx433_0); replace p433 := eq_true p433; replace q433 := eq_true q433; have p434 : 0 ≤ (2 : Int) := (by omega); have q434 : 2 < (t429.length : Int) := of_decide_eq_true (by first | (with_reducible assumption) | assumption); obtain ⟨ad434, e434, hx434_0⟩ := Kd.at_int (Kd.R_reads' HO432.out).2.2 2 p434 q434; obtain rfl : ad433 = ad434 := (by injection e434); (try simp only [show (2 : Int).toNat = 2 from rfl, Nat.reduceMul, Nat.reduceEqDiff, Go.Addr.add, ↓reduceIte] at hx434_0); have qi434 : (2 < t429.length) = True := eq_true (by omega); (try rw [show ((2 : Int)).toNat = 2 from rfl] at hx434_0); replace p434 := eq_true p434; replace q434 := eq_true q434; obtain ⟨i031, hi031, _, hsz31, _⟩ := info_parts info5; obtain ⟨A31, hcut31, hA31, hC31⟩ := print_mid_of (P := Try.prog) (Value.int .u8) 0 23 5 .i64 .i64 Try.underlying23 hi031 hsz31 A0 c0 l0 7 (wrap64 ((wrap64 (7 + (Go.bits .or .i64 (wrap64 (rd t429 1)) (wrap64 ((wrap64 (rd t429 2)) * 256))))) + 4)) (by omega) (by first | omega | exact of_decide_eq_true (by first | (with_reducible assumption) | assumption)) (of_decide_eq_true (by first | (with_reducible assumption) | assumption)) HC0.out; have HR435 := Aside0.mk (Kd.C_of_reads (h1 := fun _ => rfl) (hA31 _ (Kd.reads_of_C HR0.out))); have HC435 := Aside0.mk hC31; clear hA31 hC31 hi031 hsz31) | (go_at_call 33; (try rw [show (wrap64 ((wrap64 (7 + (Go.bits .or .i64 (wrap64 (rd t429 1)) (wrap64 ((wrap64 (rd t429 2)) * 256))))) + 4)).toNat - 7 = ((l0.take ((wrap64 ((wrap64 (7 + (Go.bits .or .i64 (wrap64 (rd t429 1)) (wrap64 ((wrap64 (rd t429 2)) * 256))))) + 4)) : Int).toNat).drop 7).length from (by rw [List.length_drop, List.length_take]; have h_ : ((wrap64 ((wrap64 (7 + (Go.bits .or .i64 (wrap64 (rd t429 1)) (wrap64 ((wrap64 (rd t429 2)) * 256))))) + 4)) : Int) ≤ (l0.length : Int) := of_decide_eq_true (by first | (with_reducible assumption) | assumption); omega)]); (with_reducible refine (sum_Cut.calls k _ _ ((l0.take ((wrap64 ((wrap64 (7 + (Go.bits .or .i64 (wrap64 (rd t429 1)) (wrap64 ((wrap64 (rd t429 2)) * 256))))) + 4)) : Int).toNat).drop 7) t436 true _ ?side1 ?side2 A24.out).mono ?_); (case side1 => repeat (first | exact (Kd.C_below HR435.out HB.out) | (with_reducible refine Kd.C_alloc ?_ _) | (with_reducible refine Kd.C_drewN ?_ _) | (with_reducible refine Kd.C_drew ?_))); (case side2 => exact HC435.out); rintro e w32 ⟨v438, rfl, ho0, hb⟩; have n0_ := Aside0.mk (Kd.R_elder' (by (with_reducible repeat (first | apply Kd.R_alloc | apply Kd.R_drewN | apply Kd.R_drew)); exact HO432.out) (Kd.R_base ho0) hb); have n1_ := Aside0.mk (Kd.R_lower (Kd.R_new' ho0 (Kd.R_lt (by (with_reducible repeat (first | apply Kd.R_alloc | apply Kd.R_drewN | apply Kd.R_drew)); exact HO432.out))) (below_size (by repeat (first | (with_reducible first | exact HB.out | apply below_alloc | apply pw_below_drewN | apply below_drew1 | refine below_set ?_ GE427.out) | exact HB.out)))); have n2_ := Aside0.mk (blk_below (g := gb427) (o := .cells #[.int .u8 0, .slice none 0 0] 56 (0, 0)) (by (with_reducible repeat (first | refine blk_drewN ?_ _ | refine blk_drew ?_ | refine blk_alloc ?_ _)); exact BK427.out) hb); have n3_ := Aside0.mk (below_step (by repeat (first | (with_reducible first | exact HB.out | apply below_alloc | apply pw_below_drewN | apply below_drew1 | refine below_set ?_ GE427.out) | exact HB.out)) hb); clear HO432; clear BK427; clear HB; have HO432 := n0_; have HO439 := n1_; have BK427 := n2_; have HB := n3_; clear n0_ n1_ n2_ n3_; (try clear hb); (try clear hb2); (try clear hk); (try clear hi); (try clear ho0); have p440 : 0 ≤ (0 : Int) := (by omega); have q440 : 0 < (t429.length : Int) := of_decide_eq_true (by first | (with_reducible assumption) | assumption); obtain ⟨ad440, e440, hx440_0⟩ := Kd.at_int (Kd.R_reads' HO432.out).2.2 0 p440 q440; obtain rfl : ad433 = ad440 := (by injection e440); have qi440 : (0 < t429.length) = True := eq_true (by omega); (try rw [show ((0 : Int)).toNat = 0 from rfl] at hx440_0); (try rw [Addr.add_zero'] at hx440_0); replace p440 := eq_true p440; replace q440 := eq_true q440; obtain ⟨Ao33, co33, eo33⟩ := Kd.R_slice HO439.out; subst eo33; have hcz34_0 : w32.cell? ⟨gb427, 0, none⟩ = some (.int .u8 0) := (blk_cell BK427.out 0).trans rfl; have hcz34_1 : w32.cell? ⟨gb427, 1, none⟩ = some (.slice none 0 0) := (blk_cell BK427.out 1).trans rfl; have hfz34_0 := blk_frozen BK427.out 0; have hfz34_1 := blk_frozen BK427.out 1)); try go_wp2_with (first | ((with_reducible refine gate_dst (N := 2) rfl ?_); refine box_event ?hg (N := 2) ?hd (cs := #[.int .u8 0, .slice none 0 0]) (t := 56) ?hr ?_; (case hd => rfl); (case hg => rfl); (case hr => first | (go_simp; done) | (go_simp; rfl)); intro gb427 hg w27 hbox hb; have n0_ := Aside0.mk (below_step (by repeat (first | (with_reducible first | exact HB.out | apply below_alloc | apply pw_below_drewN | apply below_drew1) | exact HB.out)) hb); have n1_ := Aside0.mk (hbox); have n2_ := Aside0.mk ((by rw [hg]; exact (below_size (by repeat (first | (with_reducible first | exact HB.out | apply below_alloc | apply pw_below_drewN | apply below_drew1) | exact HB.out))) : w.heap.size ≤ gb427)); have n3_ := Aside0.mk ((by rw [hg]; exact (below_size (by repeat (first | (with_reducible first | exact HB.out | apply below_alloc | apply pw_below_drewN | apply below_drew1) | exact HB.out))) : w.heap.size ≤ gb427)); clear HB; have HB := n0_; have BK427 := n1_; have GW427 := n2_; have GE427 := n3_; clear n0_ n1_ n2_ n3_; clear hb hbox hg; obtain ⟨i028, hi028, _, hsz28, _⟩ := info_parts info5; obtain ⟨hcut28, hA28, hC28⟩ := print_take_of (P := Try.prog) (Value.int .u8) 0 23 5 .i64 Try.underlying23 hi028 hsz28 A0 c0 l0 7 (by omega) (of_decide_eq_true (by first | (with_reducible assumption) | assumption)) HC0.out; have HR428 := Aside0.mk (Kd.C_of_reads (h1 := fun _ => rfl) (hA28 _ (Kd.reads_of_C HR0.out))); have HC428 := Aside0.mk hC28; clear hA28 hC28 hi028 hsz28) | (go_at_call 33; (try rw [← List.length_take]); (with_reducible refine (sum_Cut.calls k _ _ (l0.take 7) t429 true _ ?side1 ?side2 A6.out).mono ?_); (case side1 => repeat (first | exact (Kd.C_below HR428.out HB.out) | (with_reducible refine Kd.C_alloc ?_ _) | (with_reducible refine Kd.C_drewN ?_ _) | (with_reducible refine Kd.C_drew ?_))); (case side2 => exact HC428.out); rintro e w29 ⟨v431, rfl, ho0, hb⟩; have n0_ := Aside0.mk (Kd.R_lower ho0 (below_size (by repeat (first | (with_reducible first | exact HB.out | apply below_alloc | apply pw_below_drewN | apply below_drew1 | refine below_set ?_ GE427.out) | exact HB.out)))); have n1_ := Aside0.mk (blk_below (g := gb427) (o := .cells #[.int .u8 0, .slice none 0 0] 56 (0, 0)) (by (with_reducible repeat (first | refine blk_drewN ?_ _ | refine blk_drew ?_ | refine blk_alloc ?_ _)); exact BK427.out) hb); have n2_ := Aside0.mk (below_step (by repeat (first | (with_reducible first | exact HB.out | apply below_alloc | apply pw_below_drewN | apply below_drew1 | refine below_set ?_ GE427.out) | exact HB.out)) hb); clear BK427; clear HB; have HO432 := n0_; have BK427 := n1_; have HB := n2_; clear n0_ n1_ n2_; (try clear hb); (try clear hb2); (try clear hk); (try clear hi); (try clear ho0); obtain ⟨Ao30, co30, eo30⟩ := Kd.R_slice HO432.out; subst eo30; have p433 : 0 ≤ (1 : Int) := (by omega); have q433 : 1 < (t429.length : Int) := of_decide_eq_true (by first | (with_reducible assumption) | assumption); obtain ⟨ad433, e433, hx433_0⟩ := Kd.at_int (Kd.R_reads' HO432.out).2.2 1 p433 q433; cases e433; (try simp only [show (1 : Int).toNat = 1 from rfl, Nat.reduceMul, Nat.reduceEqDiff, Go.Addr.add, ↓reduceIte] at hx433_0); have qi433 : (1 < t429.length) = True := eq_true (by omega); (try rw [show ((1 : Int)).toNat = 1 from rfl] at hx433_0); replace p433 := eq_true p433; replace q433 := eq_true q433; have p434 : 0 ≤ (2 : Int) := (by omega); have q434 : 2 < (t429.length : Int) := of_decide_eq_true (by first | (with_reducible assumption) | assumption); obtain ⟨ad434, e434, hx434_0⟩ := Kd.at_int (Kd.R_reads' HO432.out).2.2 2 p434 q434; obtain rfl : ad433 = ad434 := (by injection e434); (try simp only [show (2 : Int).toNat = 2 from rfl, Nat.reduceMul, Nat.reduceEqDiff, Go.Addr.add, ↓reduceIte] at hx434_0); have qi434 : (2 < t429.length) = True := eq_true (by omega); (try rw [show ((2 : Int)).toNat = 2 from rfl] at hx434_0); replace p434 := eq_true p434; replace q434 := eq_true q434; obtain ⟨i031, hi031, _, hsz31, _⟩ := info_parts info5; obtain ⟨A31, hcut31, hA31, hC31⟩ := print_mid_of (P := Try.prog) (Value.int .u8) 0 23 5 .i64 .i64 Try.underlying23 hi031 hsz31 A0 c0 l0 7 (wrap64 ((wrap64 (7 + (Go.bits .or .i64 (wrap64 (rd t429 1)) (wrap64 ((wrap64 (rd t429 2)) * 256))))) + 4)) (by omega) (by first | omega | exact of_decide_eq_true (by first | (with_reducible assumption) | assumption)) (of_decide_eq_true (by first | (with_reducible assumption) | assumption)) HC0.out; have HR435 := Aside0.mk (Kd.C_of_reads (h1 := fun _ => rfl) (hA31 _ (Kd.reads_of_C HR0.out))); have HC435 := Aside0.mk hC31; clear hA31 hC31 hi031 hsz31) | (go_at_call 33; (try rw [show (wrap64 ((wrap64 (7 + (Go.bits .or .i64 (wrap64 (rd t429 1)) (wrap64 ((wrap64 (rd t429 2)) * 256))))) + 4)).toNat - 7 = ((l0.take ((wrap64 ((wrap64 (7 + (Go.bits .or .i64 (wrap64 (rd t429 1)) (wrap64 ((wrap64 (rd t429 2)) * 256))))) + 4)) : Int).toNat).drop 7).length from (by rw [List.length_drop, List.length_take]; have h_ : ((wrap64 ((wrap64 (7 + (Go.bits .or .i64 (wrap64 (rd t429 1)) (wrap64 ((wrap64 (rd t429 2)) * 256))))) + 4)) : Int) ≤ (l0.length : Int) := of_decide_eq_true (by first | (with_reducible assumption) | assumption); omega)]); (with_reducible refine (sum_Cut.calls k _ _ ((l0.take ((wrap64 ((wrap64 (7 + (Go.bits .or .i64 (wrap64 (rd t429 1)) (wrap64 ((wrap64 (rd t429 2)) * 256))))) + 4)) : Int).toNat).drop 7) t436 true _ ?side1 ?side2 A24.out).mono ?_); (case side1 => repeat (first | exact (Kd.C_below HR435.out HB.out) | (with_reducible refine Kd.C_alloc ?_ _) | (with_reducible refine Kd.C_drewN ?_ _) | (with_reducible refine Kd.C_drew ?_))); (case side2 => exact HC435.out); rintro e w32 ⟨v438, rfl, ho0, hb⟩; have n0_ := Aside0.mk (Kd.R_elder' (by (with_reducible repeat (first | apply Kd.R_alloc | apply Kd.R_drewN | apply Kd.R_drew)); exact HO432.out) (Kd.R_base ho0) hb); have n1_ := Aside0.mk (Kd.R_lower (Kd.R_new' ho0 (Kd.R_lt (by (with_reducible repeat (first | apply Kd.R_alloc | apply Kd.R_drewN | apply Kd.R_drew)); exact HO432.out))) (below_size (by repeat (first | (with_reducible first | exact HB.out | apply below_alloc | apply pw_below_drewN | apply below_drew1 | refine below_set ?_ GE427.out) | exact HB.out)))); have n2_ := Aside0.mk (blk_below (g := gb427) (o := .cells #[.int .u8 0, .slice none 0 0] 56 (0, 0)) (by (with_reducible repeat (first | refine blk_drewN ?_ _ | refine blk_drew ?_ | refine blk_alloc ?_ _)); exact BK427.out) hb); have n3_ := Aside0.mk (below_step (by repeat (first | (with_reducible first | exact HB.out | apply below_alloc | apply pw_below_drewN | apply below_drew1 | refine below_set ?_ GE427.out) | exact HB.out)) hb); clear HO432; clear BK427; clear HB; have HO432 := n0_; have HO439 := n1_; have BK427 := n2_; have HB := n3_; clear n0_ n1_ n2_ n3_; (try clear hb); (try clear hb2); (try clear hk); (try clear hi); (try clear ho0); have p440 : 0 ≤ (0 : Int) := (by omega); have q440 : 0 < (t429.length : Int) := of_decide_eq_true (by first | (with_reducible assumption) | assumption); obtain ⟨ad440, e440, hx440_0⟩ := Kd.at_int (Kd.R_reads' HO432.out).2.2 0 p440 q440; obtain rfl : ad433 = ad440 := (by injection e440); have qi440 : (0 < t429.length) = True := eq_true (by omega); (try rw [show ((0 : Int)).toNat = 0 from rfl] at hx440_0); (try rw [Addr.add_zero'] at hx440_0); replace p440 := eq_true p440; replace q440 := eq_true q440; obtain ⟨Ao33, co33, eo33⟩ := Kd.R_slice HO439.out; subst eo33; have hcz34_0 : w32.cell? ⟨gb427, 0, none⟩ = some (.int .u8 0) := (blk_cell BK427.out 0).trans rfl; have hcz34_1 : w32.cell? ⟨gb427, 1, none⟩ = some (.slice none 0 0) := (blk_cell BK427.out 1).trans rfl; have hfz34_0 := blk_frozen BK427.out 0; have hfz34_1 := blk_frozen BK427.out 1)))
                        refine bodyPost_ret (results_ctt rfl _ _ gb427 56 #[.int .u8 (rd t429 0), .slice Ao33 t436.length co33] (0, 0) _ rfl (by (with_reducible repeat (first | refine blk_drewN ?_ _ | refine blk_drew ?_ | refine blk_alloc ?_ _)); refine blk_put (cs := #[.int .u8 (rd t429 0), .slice none 0 0]) ?_ 1 _ rfl; (with_reducible repeat (first | refine blk_drewN ?_ _ | refine blk_drew ?_ | refine blk_alloc ?_ _)); refine blk_put (cs := #[.int .u8 0, .slice none 0 0]) ?_ 0 _ rfl; (with_reducible repeat (first | refine blk_drewN ?_ _ | refine blk_drew ?_ | refine blk_alloc ?_ _)); exact BK427.out) Try.underlying56 rfl (by kernel_rfl)) rfl ?_
                        exact ⟨_, by first | rfl | (simp [errW_none, errW_some] <;> rfl) | (simp [*, errW_none, errW_some] <;> rfl), by (with_reducible repeat (first | apply Kd.R_alloc | apply Kd.R_drewN | apply Kd.R_drew)); exact Kd.R_mono (Kd.R_far (p := ⟨gb427, 1, none⟩) (Kd.R_far (p := ⟨gb427, 0, none⟩) (Kd.R_types HO439.out BK427.out (by decide)) (fun _ hk => hk.2) (.int .u8 (rd t429 0))) (fun _ hk => hk.2) (.slice Ao33 t436.length co33)) (fun _ hk => trivial), by repeat (first | (with_reducible first | exact HB.out | apply below_alloc | apply pw_below_drewN | apply below_drew1 | refine below_set ?_ GE427.out) | exact HB.out)⟩
                      · rw [if_neg c26] at H
                        exact absurd H (by simp)
                    · replace c25 := Bool.eq_false_iff.mpr c25
                      subst c25
                      have H1 : (some (0, ([] : List Int), 0, 8)) = some (r1, r2, r3, r4) := by rw [if_neg (show ¬ (false = true) by decide)] at H; exact H
                      clear H
                      have H := H1
                      clear H1
                      simp only [Option.some.injEq, Prod.mk.injEq] at H
                      obtain ⟨rfl, rfl, rfl, rfl⟩ := H
                      go_enter Try.func47, Try.ntmps47
                      go_wp2_with (first | ((with_reducible refine gate_dst (N := 2) rfl ?_); refine box_event ?hg (N := 2) ?hd (cs := #[.int .u8 0, .slice none 0 0]) (t := 56) ?hr ?_; (case hd => rfl); (case hg => rfl); (case hr => first | (go_simp; done) | (go_simp; rfl)); intro gb427 hg w35 hbox hb; have n0_ := Aside0.mk (below_step (by repeat (first | (with_reducible first | exact HB.out | apply below_alloc | apply pw_below_drewN | apply below_drew1) | exact HB.out)) hb); have n1_ := Aside0.mk (hbox); have n2_ := Aside0.mk ((by rw [hg]; exact (below_size (by repeat (first | (with_reducible first | exact HB.out | apply below_alloc | apply pw_below_drewN | apply below_drew1) | exact HB.out))) : w.heap.size ≤ gb427)); have n3_ := Aside0.mk ((by rw [hg]; exact (below_size (by repeat (first | (with_reducible first | exact HB.out | apply below_alloc | apply pw_below_drewN | apply below_drew1) | exact HB.out))) : w.heap.size ≤ gb427)); clear HB; have HB := n0_; have BK427 := n1_; have GW427 := n2_; have GE427 := n3_; clear n0_ n1_ n2_ n3_; clear hb hbox hg; obtain ⟨i036, hi036, _, hsz36, _⟩ := info_parts info5; obtain ⟨hcut36, hA36, hC36⟩ := print_take_of (P := Try.prog) (Value.int .u8) 0 23 5 .i64 Try.underlying23 hi036 hsz36 A0 c0 l0 7 (by omega) (of_decide_eq_true (by first | (with_reducible assumption) | assumption)) HC0.out; have HR428 := Aside0.mk (Kd.C_of_reads (h1 := fun _ => rfl) (hA36 _ (Kd.reads_of_C HR0.out))); have HC428 := Aside0.mk hC36; clear hA36 hC36 hi036 hsz36) | (go_at_call 33; (try rw [← List.length_take]); (with_reducible refine (sum_Cut.calls k _ _ (l0.take 7) t429 true _ ?side1 ?side2 A6.out).mono ?_); (case side1 => repeat (first | exact (Kd.C_below HR428.out HB.out) | (with_reducible refine Kd.C_alloc ?_ _) | (with_reducible refine Kd.C_drewN ?_ _) | (with_reducible refine Kd.C_drew ?_))); (case side2 => exact HC428.out); rintro e w37 ⟨v431, rfl, ho0, hb⟩; have n0_ := Aside0.mk (Kd.R_lower ho0 (below_size (by repeat (first | (with_reducible first | exact HB.out | apply below_alloc | apply pw_below_drewN | apply below_drew1 | refine below_set ?_ GE427.out) | exact HB.out)))); have n1_ := Aside0.mk (blk_below (g := gb427) (o := .cells #[.int .u8 0, .slice none 0 0] 56 (0, 0)) (by (with_reducible repeat (first | refine blk_drewN ?_ _ | refine blk_drew ?_ | refine blk_alloc ?_ _)); exact BK427.out) hb); have n2_ := Aside0.mk (below_step (by repeat (first | (with_reducible first | exact HB.out | apply below_alloc | apply pw_below_drewN | apply below_drew1 | refine below_set ?_ GE427.out) | exact HB.out)) hb); clear BK427; clear HB; have HO432 := n0_; have BK427 := n1_; have HB := n2_; clear n0_ n1_ n2_; (try clear hb); (try clear hb2); (try clear hk); (try clear hi); (try clear ho0); obtain ⟨Ao38, co38, eo38⟩ := Kd.R_slice HO432.out; subst eo38; have p433 : 0 ≤ (1 : Int) := (by omega); have q433 : 1 < (t429.length : Int) := of_decide_eq_true (by first | (with_reducible assumption) | assumption); obtain ⟨ad433, e433, hx433_0⟩ := Kd.at_int (Kd.R_reads' HO432.out).2.2 1 p433 q433; cases e433; (try simp only [show (1 : Int).toNat = 1 from rfl, Nat.reduceMul, Nat.reduceEqDiff, Go.Addr.add, ↓reduceIte] at hx433_0); have qi433 : (1 < t429.length) = True := eq_true (by omega); (try rw [show ((1 : Int)).toNat = 1 from rfl] at hx433_0); replace p433 := eq_true p433; replace q433 := eq_true q433; have p434 : 0 ≤ (2 : Int) := (by omega); have q434 : 2 < (t429.length : Int) := of_decide_eq_true (by first | (with_reducible assumption) | assumption); obtain ⟨ad434, e434, hx434_0⟩ := Kd.at_int (Kd.R_reads' HO432.out).2.2 2 p434 q434; obtain rfl : ad433 = ad434 := (by injection e434); (try simp only [show (2 : Int).toNat = 2 from rfl, Nat.reduceMul, Nat.reduceEqDiff, Go.Addr.add, ↓reduceIte] at hx434_0); have qi434 : (2 < t429.length) = True := eq_true (by omega); (try rw [show ((2 : Int)).toNat = 2 from rfl] at hx434_0); replace p434 := eq_true p434; replace q434 := eq_true q434; obtain ⟨i039, hi039, _, hsz39, _⟩ := info_parts info5; obtain ⟨A39, hcut39, hA39, hC39⟩ := print_mid_of (P := Try.prog) (Value.int .u8) 0 23 5 .i64 .i64 Try.underlying23 hi039 hsz39 A0 c0 l0 7 (wrap64 ((wrap64 (7 + (Go.bits .or .i64 (wrap64 (rd t429 1)) (wrap64 ((wrap64 (rd t429 2)) * 256))))) + 4)) (by omega) (by first | omega | exact of_decide_eq_true (by first | (with_reducible assumption) | assumption)) (of_decide_eq_true (by first | (with_reducible assumption) | assumption)) HC0.out; have HR435 := Aside0.mk (Kd.C_of_reads (h1 := fun _ => rfl) (hA39 _ (Kd.reads_of_C HR0.out))); have HC435 := Aside0.mk hC39; clear hA39 hC39 hi039 hsz39) | (go_at_call 33; (try rw [show (wrap64 ((wrap64 (7 + (Go.bits .or .i64 (wrap64 (rd t429 1)) (wrap64 ((wrap64 (rd t429 2)) * 256))))) + 4)).toNat - 7 = ((l0.take ((wrap64 ((wrap64 (7 + (Go.bits .or .i64 (wrap64 (rd t429 1)) (wrap64 ((wrap64 (rd t429 2)) * 256))))) + 4)) : Int).toNat).drop 7).length from (by rw [List.length_drop, List.length_take]; have h_ : ((wrap64 ((wrap64 (7 + (Go.bits .or .i64 (wrap64 (rd t429 1)) (wrap64 ((wrap64 (rd t429 2)) * 256))))) + 4)) : Int) ≤ (l0.length : Int) := of_decide_eq_true (by first | (with_reducible assumption) | assumption); omega)]); (with_reducible refine (sum_Cut.calls k _ _ ((l0.take ((wrap64 ((wrap64 (7 + (Go.bits .or .i64 (wrap64 (rd t429 1)) (wrap64 ((wrap64 (rd t429 2)) * 256))))) + 4)) : Int).toNat).drop 7) t436 false _ ?side1 ?side2 A24.out).mono ?_); (case side1 => repeat (first | exact (Kd.C_below HR435.out HB.out) | (with_reducible refine Kd.C_alloc ?_ _) | (with_reducible refine Kd.C_drewN ?_ _) | (with_reducible refine Kd.C_drew ?_))); (case side2 => exact HC435.out); rintro e w40 ⟨v438, rfl, ho0, hb⟩; have n0_ := Aside0.mk (Kd.R_elder' (by (with_reducible repeat (first | apply Kd.R_alloc | apply Kd.R_drewN | apply Kd.R_drew)); exact HO432.out) (Kd.R_base ho0) hb); have n1_ := Aside0.mk (Kd.R_lower (Kd.R_new' ho0 (Kd.R_lt (by (with_reducible repeat (first | apply Kd.R_alloc | apply Kd.R_drewN | apply Kd.R_drew)); exact HO432.out))) (below_size (by repeat (first | (with_reducible first | exact HB.out | apply below_alloc | apply pw_below_drewN | apply below_drew1 | refine below_set ?_ GE427.out) | exact HB.out)))); have n2_ := Aside0.mk (blk_below (g := gb427) (o := .cells #[.int .u8 0, .slice none 0 0] 56 (0, 0)) (by (with_reducible repeat (first | refine blk_drewN ?_ _ | refine blk_drew ?_ | refine blk_alloc ?_ _)); exact BK427.out) hb); have n3_ := Aside0.mk (below_step (by repeat (first | (with_reducible first | exact HB.out | apply below_alloc | apply pw_below_drewN | apply below_drew1 | refine below_set ?_ GE427.out) | exact HB.out)) hb); clear HO432; clear BK427; clear HB; have HO432 := n0_; have HO439 := n1_; have BK427 := n2_; have HB := n3_; clear n0_ n1_ n2_ n3_; (try clear hb); (try clear hb2); (try clear hk); (try clear hi); (try clear ho0); have hcz41_0 : w40.cell? ⟨gb427, 0, none⟩ = some (.int .u8 0) := (blk_cell BK427.out 0).trans rfl; have hcz41_1 : w40.cell? ⟨gb427, 1, none⟩ = some (.slice none 0 0) := (blk_cell BK427.out 1).trans rfl; have hfz41_0 := blk_frozen BK427.out 0; have hfz41_1 := blk_frozen BK427.out 1))
                      repeat (go_quiet (first | ((with_reducible refine gate_dst (N := 2) rfl ?_); refine box_event ?hg (N := 2) ?hd (cs := #[.int .u8 0, .slice none 0 0]) (t := 56) ?hr ?_; (case hd => rfl); (case hg => rfl); (case hr => first | (go_simp; done) | (go_simp; rfl)); intro gb427 hg w35 hbox hb; have n0_ := Aside0.mk (below_step (by repeat (first | (with_reducible first | exact HB.out | apply below_alloc | apply pw_below_drewN | apply below_drew1) | exact HB.out)) hb); have n1_ := Aside0.mk (hbox); have n2_ := Aside0.mk ((by rw [hg]; exact (below_size (by repeat (first | (with_reducible first | exact HB.out | apply below_alloc | apply pw_below_drewN | apply below_drew1) | exact HB.out))) : w.heap.size ≤ gb427)); have n3_ := Aside0.mk ((by rw [hg]; exact (below_size (by repeat (first | (with_reducible first | exact HB.out | apply below_alloc | apply pw_below_drewN | apply below_drew1) | exact HB.out))) : w.heap.size ≤ gb427)); clear HB; have HB := n0_; have BK427 := n1_; have GW427 := n2_; have GE427 := n3_; clear n0_ n1_ n2_ n3_; clear hb hbox hg; obtain ⟨i036, hi036, _, hsz36, _⟩ := info_parts info5; obtain ⟨hcut36, hA36, hC36⟩ := print_take_of (P := Try.prog) (Value.int .u8) 0 23 5 .i64 Try.underlying23 hi036 hsz36 A0 c0 l0 7 (by omega) (of_decide_eq_true (by first | (with_reducible assumption) | assumption)) HC0.out; have HR428 := Aside0.mk (Kd.C_of_reads (h1 := fun _ => rfl) (hA36 _ (Kd.reads_of_C HR0.out))); have HC428 := Aside0.mk hC36; clear hA36 hC36 hi036 hsz36) | (go_at_call 33; (try rw [← List.length_take]); (with_reducible refine (sum_Cut.calls k _ _ (l0.take 7) t429 true _ ?side1 ?side2 A6.out).mono ?_); (case side1 => repeat (first | exact (Kd.C_below HR428.out HB.out) | (with_reducible refine Kd.C_alloc ?_ _) | (with_reducible refine Kd.C_drewN ?_ _) | (with_reducible refine Kd.C_drew ?_))); (case side2 => exact HC428.out); rintro e w37 ⟨v431, rfl, ho0, hb⟩; have n0_ := Aside0.mk (Kd.R_lower ho0 (below_size (by repeat (first | (with_reducible first | exact HB.out | apply below_alloc | apply pw_below_drewN | apply below_drew1 | refine below_set ?_ GE427.out) | exact HB.out)))); have n1_ := Aside0.mk (blk_below (g := gb427) (o := .cells #[.int .u8 0, .slice none 0 0] 56 (0, 0)) (by (with_reducible repeat (first | refine blk_drewN ?_ _ | refine blk_drew ?_ | refine blk_alloc ?_ _)); exact BK427.out) hb); have n2_ := Aside0.mk (below_step (by repeat (first | (with_reducible first | exact HB.out | apply below_alloc | apply pw_below_drewN | apply below_drew1 | refine below_set ?_ GE427.out) | exact HB.out)) hb); clear BK427; clear HB; have HO432 := n0_; have BK427 := n1_; have HB := n2_; clear n0_ n1_ n2_; (try clear hb); (try clear hb2); (try clear hk); (try clear hi); (try clear ho0); obtain ⟨Ao38, co38, eo38⟩ := Kd.R_slice HO432.out; subst eo38; have p433 : 0 ≤ (1 : Int) := (by omega); have q433 : 1 < (t429.length : Int) := of_decide_eq_true (by first | (with_reducible assumption) | assumption); obtain ⟨ad433, e433, hx433_0⟩ := Kd.at_int (Kd.R_reads' HO432.out).2.2 1 p433 q433; cases e433; (try simp only [show (1 : Int).toNat = 1 from rfl, Nat.reduceMul, Nat.reduceEqDiff, Go.Addr.add, ↓reduceIte] at hx433_0); have qi433 : (1 < t429.length) = True := eq_true (by omega); (try rw [show ((1 : Int)).toNat = 1 from rfl] at hx433_0); replace p433 := eq_true p433; replace q433 := eq_true q433; have p434 : 0 ≤ (2 : Int) := (by omega); have q434 : 2 < (t429.length : Int) := of_decide_eq_true (by first | (with_reducible assumption) | assumption); obtain ⟨ad434, e434, hx434_0⟩ := Kd.at_int (Kd.R_reads' HO432.out).2.2 2 p434 q434; obtain rfl : ad433 = ad434 := (by injection e434); (try simp only [show (2 : Int).toNat = 2 from rfl, Nat.reduceMul, Nat.reduceEqDiff, Go.Addr.add, ↓reduceIte] at hx434_0); have qi434 : (2 < t429.length) = True := eq_true (by omega); (try rw [show ((2 : Int)).toNat = 2 from rfl] at hx434_0); replace p434 := eq_true p434; replace q434 := eq_true q434; obtain ⟨i039, hi039, _, hsz39, _⟩ := info_parts info5; obtain ⟨A39, hcut39, hA39, hC39⟩ := print_mid_of (P := Try.prog) (Value.int .u8) 0 23 5 .i64 .i64 Try.underlying23 hi039 hsz39 A0 c0 l0 7 (wrap64 ((wrap64 (7 + (Go.bits .or .i64 (wrap64 (rd t429 1)) (wrap64 ((wrap64 (rd t429 2)) * 256))))) + 4)) (by omega) (by first | omega | exact of_decide_eq_true (by first | (with_reducible assumption) | assumption)) (of_decide_eq_true (by first | (with_reducible assumption) | assumption)) HC0.out; have HR435 := Aside0.mk (Kd.C_of_reads (h1 := fun _ => rfl) (hA39 _ (Kd.reads_of_C HR0.out))); have HC435 := Aside0.mk hC39; clear hA39 hC39 hi039 hsz39) | (go_at_call 33; (try rw [show (wrap64 ((wrap64 (7 + (Go.bits .or .i64 (wrap64 (rd t429 1)) (wrap64 ((wrap64 (rd t429 2)) * 256))))) + 4)).toNat - 7 = ((l0.take ((wrap64 ((wrap64 (7 + (Go.bits .or .i64 (wrap64 (rd t429 1)) (wrap64 ((wrap64 (rd t429 2)) * 256))))) + 4)) : Int).toNat).drop 7).length from (by rw [List.length_drop, List.length_take]; have h_ : ((wrap64 ((wrap64 (7 + (Go.bits .or .i64 (wrap64 (rd t429 1)) (wrap64 ((wrap64 (rd t429 2)) * 256))))) + 4)) : Int) ≤ (l0.length : Int) := of_decide_eq_true (by first | (with_reducible assumption) | assumption); omega)]); (with_reducible refine (sum_Cut.calls k _ _ ((l0.take ((wrap64 ((wrap64 (7 + (Go.bits .or .i64 (wrap64 (rd t429 1)) (wrap64 ((wrap64 (rd t429 2)) * 256))))) + 4)) : Int).toNat).drop 7) t436 false _ ?side1 ?side2 A24.out).mono ?_); (case side1 => repeat (first | exact (Kd.C_below HR435.out HB.out) | (with_reducible refine Kd.C_alloc ?_ _) | (with_reducible refine Kd.C_drewN ?_ _) | (with_reducible refine Kd.C_drew ?_))); (case side2 => exact HC435.out); rintro e w40 ⟨v438, rfl, ho0, hb⟩; have n0_ := Aside0.mk (Kd.R_elder' (by (with_reducible repeat (first | apply Kd.R_alloc | apply Kd.R_drewN | apply Kd.R_drew)); exact HO432.out) (Kd.R_base ho0) hb); have n1_ := Aside0.mk (Kd.R_lower (Kd.R_new' ho0 (Kd.R_lt (by (with_reducible repeat (first | apply Kd.R_alloc | apply Kd.R_drewN | apply Kd.R_drew)); exact HO432.out))) (below_size (by repeat (first | (with_reducible first | exact HB.out | apply below_alloc | apply pw_below_drewN | apply below_drew1 | refine below_set ?_ GE427.out) | exact HB.out)))); have n2_ := Aside0.mk (blk_below (g := gb427) (o := .cells #[.int .u8 0, .slice none 0 0] 56 (0, 0)) (by (with_reducible repeat (first | refine blk_drewN ?_ _ | refine blk_drew ?_ | refine blk_alloc ?_ _)); exact BK427.out) hb); have n3_ := Aside0.mk (below_step (by repeat (first | (with_reducible first | exact HB.out | apply below_alloc | apply pw_below_drewN | apply below_drew1 | refine below_set ?_ GE427.out) | exact HB.out)) hb); clear HO432; clear BK427; clear HB; have HO432 := n0_; have HO439 := n1_; have BK427 := n2_; have HB := n3_; clear n0_ n1_ n2_ n3_; (try clear hb); (try clear hb2); (try clear hk); (try clear hi); (try clear ho0); have hcz41_0 : w40.cell? ⟨gb427, 0, none⟩ = some (.int .u8 0) := (blk_cell BK427.out 0).trans rfl; have hcz41_1 : w40.cell? ⟨gb427, 1, none⟩ = some (.slice none 0 0) := (blk_cell BK427.out 1).trans rfl; have hfz41_0 := blk_frozen BK427.out 0; have hfz41_1 := blk_frozen BK427.out 1)); try go_wp2_with (first | ((with_reducible refine gate_dst (N := 2) rfl ?_); refine box_event ?hg (N := 2) ?hd (cs := #[.int .u8 0, .slice none 0 0]) (t := 56) ?hr ?_; (case hd => rfl); (case hg => rfl); (case hr => first | (go_simp; done) | (go_simp; rfl)); intro gb427 hg w35 hbox hb; have n0_ := Aside0.mk (below_step (by repeat (first | (with_reducible first | exact HB.out | apply below_alloc | apply pw_below_drewN | apply below_drew1) | exact HB.out)) hb); have n1_ := Aside0.mk (hbox); have n2_ := Aside0.mk ((by rw [hg]; exact (below_size (by repeat (first | (with_reducible first | exact HB.out | apply below_alloc | apply pw_below_drewN | apply below_drew1) | exact HB.out))) : w.heap.size ≤ gb427)); have n3_ := Aside0.mk ((by rw [hg]; exact (below_size (by repeat (first | (with_reducible first | exact HB.out | apply below_alloc | apply pw_below_drewN | apply below_drew1) | exact HB.out))) : w.heap.size ≤ gb427)); clear HB; have HB := n0_; have BK427 := n1_; have GW427 := n2_; have GE427 := n3_; clear n0_ n1_ n2_ n3_; clear hb hbox hg; obtain ⟨i036, hi036, _, hsz36, _⟩ := info_parts info5; obtain ⟨hcut36, hA36, hC36⟩ := print_take_of (P := Try.prog) (Value.int .u8) 0 23 5 .i64 Try.underlying23 hi036 hsz36 A0 c0 l0 7 (by omega) (of_decide_eq_true (by first | (with_reducible assumption) | assumption)) HC0.out; have HR428 := Aside0.mk (Kd.C_of_reads (h1 := fun _ => rfl) (hA36 _ (Kd.reads_of_C HR0.out))); have HC428 := Aside0.mk hC36; clear hA36 hC36 hi036 hsz36) | (go_at_call 33; (try rw [← List.length_take]); (with_reducible refine (sum_Cut.calls k _ _ (l0.take 7) t429 true _ ?side1 ?side2 A6.out).mono ?_); (case side1 => repeat (first | exact (Kd.C_below HR428.out HB.out) | (with_reducible refine Kd.C_alloc ?_ _) | (with_reducible refine Kd.C_drewN ?_ _) | (with_reducible refine Kd.C_drew ?_))); (case side2 => exact HC428.out); rintro e w37 ⟨v431, rfl, ho0, hb⟩; have n0_ := Aside0.mk (Kd.R_lower ho0 (below_size (by repeat (first | (with_reducible first | exact HB.out | apply below_alloc | apply pw_below_drewN | apply below_drew1 | refine below_set ?_ GE427.out) | exact HB.out)))); have n1_ := Aside0.mk (blk_below (g := gb427) (o := .cells #[.int .u8 0, .slice none 0 0] 56 (0, 0)) (by (with_reducible repeat (first | refine blk_drewN ?_ _ | refine blk_drew ?_ | refine blk_alloc ?_ _)); exact BK427.out) hb); have n2_ := Aside0.mk (below_step (by repeat (first | (with_reducible first | exact HB.out | apply below_alloc | apply pw_below_drewN | apply below_drew1 | refine below_set ?_ GE427.out) | exact HB.out)) hb); clear BK427; clear HB; have HO432 := n0_; have BK427 := n1_; have HB := n2_; clear n0_ n1_ n2_; (try clear hb); (try clear hb2); (try clear hk); (try clear hi); (try clear ho0); obtain ⟨Ao38, co38, eo38⟩ := Kd.R_slice HO432.out; subst eo38; have p433 : 0 ≤ (1 : Int) := (by omega); have q433 : 1 < (t429.length : Int) := of_decide_eq_true (by first | (with_reducible assumption) | assumption); obtain ⟨ad433, e433, hx433_0⟩ := Kd.at_int (Kd.R_reads' HO432.out).2.2 1 p433 q433; cases e433; (try simp only [show (1 : Int).toNat = 1 from rfl, Nat.reduceMul, Nat.reduceEqDiff, Go.Addr.add, ↓reduceIte] at hx433_0); have qi433 : (1 < t429.length) = True := eq_true (by omega); (try rw [show ((1 : Int)).toNat = 1 from rfl] at hx433_0); replace p433 := eq_true p433; replace q433 := eq_true q433; have p434 : 0 ≤ (2 : Int) := (by omega); have q434 : 2 < (t429.length : Int) := of_decide_eq_true (by first | (with_reducible assumption) | assumption); obtain ⟨ad434, e434, hx434_0⟩ := Kd.at_int (Kd.R_reads' HO432.out).2.2 2 p434 q434; obtain rfl : ad433 = ad434 := (by injection e434); (try simp only [show (2 : Int).toNat = 2 from rfl, Nat.reduceMul, Nat.reduceEqDiff, Go.Addr.add, ↓reduceIte] at hx434_0); have qi434 : (2 < t429.length) = True := eq_true (by omega); (try rw [show ((2 : Int)).toNat = 2 from rfl] at hx434_0); replace p434 := eq_true p434; replace q434 := eq_true q434; obtain ⟨i039, hi039, _, hsz39, _⟩ := info_parts info5; obtain ⟨A39, hcut39, hA39, hC39⟩ := print_mid_of (P := Try.prog) (Value.int .u8) 0 23 5 .i64 .i64 Try.underlying23 hi039 hsz39 A0 c0 l0 7 (wrap64 ((wrap64 (7 + (Go.bits .or .i64 (wrap64 (rd t429 1)) (wrap64 ((wrap64 (rd t429 2)) * 256))))) + 4)) (by omega) (by first | omega | exact of_decide_eq_true (by first | (with_reducible assumption) | assumption)) (of_decide_eq_true (by first | (with_reducible assumption) | assumption)) HC0.out; have HR435 := Aside0.mk (Kd.C_of_reads (h1 := fun _ => rfl) (hA39 _ (Kd.reads_of_C HR0.out))); have HC435 := Aside0.mk hC39; clear hA39 hC39 hi039 hsz39) | (go_at_call 33; (try rw [show (wrap64 ((wrap64 (7 + (Go.bits .or .i64 (wrap64 (rd t429 1)) (wrap64 ((wrap64 (rd t429 2)) * 256))))) + 4)).toNat - 7 = ((l0.take ((wrap64 ((wrap64 (7 + (Go.bits .or .i64 (wrap64 (rd t429 1)) (wrap64 ((wrap64 (rd t429 2)) * 256))))) + 4)) : Int).toNat).drop 7).length from (by rw [List.length_drop, List.length_take]; have h_ : ((wrap64 ((wrap64 (7 + (Go.bits .or .i64 (wrap64 (rd t429 1)) (wrap64 ((wrap64 (rd t429 2)) * 256))))) + 4)) : Int) ≤ (l0.length : Int) := of_decide_eq_true (by first | (with_reducible assumption) | assumption); omega)]); (with_reducible refine (sum_Cut.calls k _ _ ((l0.take ((wrap64 ((wrap64 (7 + (Go.bits .or .i64 (wrap64 (rd t429 1)) (wrap64 ((wrap64 (rd t429 2)) * 256))))) + 4)) : Int).toNat).drop 7) t436 false _ ?side1 ?side2 A24.out).mono ?_); (case side1 => repeat (first | exact (Kd.C_below HR435.out HB.out) | (with_reducible refine Kd.C_alloc ?_ _) | (with_reducible refine Kd.C_drewN ?_ _) | (with_reducible refine Kd.C_drew ?_))); (case side2 => exact HC435.out); rintro e w40 ⟨v438, rfl, ho0, hb⟩; have n0_ := Aside0.mk (Kd.R_elder' (by (with_reducible repeat (first | apply Kd.R_alloc | apply Kd.R_drewN | apply Kd.R_drew)); exact HO432.out) (Kd.R_base ho0) hb); have n1_ := Aside0.mk (Kd.R_lower (Kd.R_new' ho0 (Kd.R_lt (by (with_reducible repeat (first | apply Kd.R_alloc | apply Kd.R_drewN | apply Kd.R_drew)); exact HO432.out))) (below_size (by repeat (first | (with_reducible first | exact HB.out | apply below_alloc | apply pw_below_drewN | apply below_drew1 | refine below_set ?_ GE427.out) | exact HB.out)))); have n2_ := Aside0.mk (blk_below (g := gb427) (o := .cells #[.int .u8 0, .slice none 0 0] 56 (0, 0)) (by (with_reducible repeat (first | refine blk_drewN ?_ _ | refine blk_drew ?_ | refine blk_alloc ?_ _)); exact BK427.out) hb); have n3_ := Aside0.mk (below_step (by repeat (first | (with_reducible first | exact HB.out | apply below_alloc | apply pw_below_drewN | apply below_drew1 | refine below_set ?_ GE427.out) | exact HB.out)) hb); clear HO432; clear BK427; clear HB; have HO432 := n0_; have HO439 := n1_; have BK427 := n2_; have HB := n3_; clear n0_ n1_ n2_ n3_; (try clear hb); (try clear hb2); (try clear hk); (try clear hi); (try clear ho0); have hcz41_0 : w40.cell? ⟨gb427, 0, none⟩ = some (.int .u8 0) := (blk_cell BK427.out 0).trans rfl; have hcz41_1 : w40.cell? ⟨gb427, 1, none⟩ = some (.slice none 0 0) := (blk_cell BK427.out 1).trans rfl; have hfz41_0 := blk_frozen BK427.out 0; have hfz41_1 := blk_frozen BK427.out 1)))
                      refine bodyPost_ret (results_ctt rfl _ _ gb427 56 #[.int .u8 0, .slice none 0 0] (0, 0) _ rfl (by (with_reducible repeat (first | refine blk_drewN ?_ _ | refine blk_drew ?_ | refine blk_alloc ?_ _)); refine blk_put (cs := #[.int .u8 0, .slice none 0 0]) ?_ 1 _ rfl; (with_reducible repeat (first | refine blk_drewN ?_ _ | refine blk_drew ?_ | refine blk_alloc ?_ _)); refine blk_put (cs := #[.int .u8 0, .slice none 0 0]) ?_ 0 _ rfl; (with_reducible repeat (first | refine blk_drewN ?_ _ | refine blk_drew ?_ | refine blk_alloc ?_ _)); exact BK427.out) Try.underlying56 rfl (by kernel_rfl)) rfl ?_
                      exact ⟨_, by first | rfl | (simp [errW_none, errW_some] <;> rfl) | (simp [*, errW_none, errW_some] <;> rfl), by first | exact Kd.R_nil _ _ _ _ _ | exact Kd.N_nil _ _ _ _ _ | exact Kd.V_nil _ _ _ _ _ | exact Kd.Q_nil _ _ _ _ _ | exact Kd.S_nil _ _ _ _ _, by repeat (first | (with_reducible first | exact HB.out | apply below_alloc | apply pw_below_drewN | apply below_drew1 | refine below_set ?_ GE427.out) | exact HB.out)⟩
                  · rw [if_neg c23] at H
                    exact absurd H (by simp)
                · rw [if_neg c22] at H
                  exact absurd H (by simp)
          · rw [if_neg c9] at H
            exact absurd H (by simp)
        · rw [if_neg c8] at H
          exact absurd H (by simp)
      · replace c7 := Bool.eq_false_iff.mpr c7
        subst c7
        have H1 : (some (0, ([] : List Int), 0, 8)) = some (r1, r2, r3, r4) := by rw [if_neg (show ¬ (false = true) by decide)] at H; exact H
        clear H
        have H := H1
        clear H1
        simp only [Option.some.injEq, Prod.mk.injEq] at H
        obtain ⟨rfl, rfl, rfl, rfl⟩ := H
        go_enter Try.func47, Try.ntmps47
        go_wp2_with (first | ((with_reducible refine gate_dst (N := 2) rfl ?_); refine box_event ?hg (N := 2) ?hd (cs := #[.int .u8 0, .slice none 0 0]) (t := 56) ?hr ?_; (case hd => rfl); (case hg => rfl); (case hr => first | (go_simp; done) | (go_simp; rfl)); intro gb427 hg w42 hbox hb; have n0_ := Aside0.mk (below_step (by repeat (first | (with_reducible first | exact HB.out | apply below_alloc | apply pw_below_drewN | apply below_drew1) | exact HB.out)) hb); have n1_ := Aside0.mk (hbox); have n2_ := Aside0.mk ((by rw [hg]; exact (below_size (by repeat (first | (with_reducible first | exact HB.out | apply below_alloc | apply pw_below_drewN | apply below_drew1) | exact HB.out))) : w.heap.size ≤ gb427)); have n3_ := Aside0.mk ((by rw [hg]; exact (below_size (by repeat (first | (with_reducible first | exact HB.out | apply below_alloc | apply pw_below_drewN | apply below_drew1) | exact HB.out))) : w.heap.size ≤ gb427)); clear HB; have HB := n0_; have BK427 := n1_; have GW427 := n2_; have GE427 := n3_; clear n0_ n1_ n2_ n3_; clear hb hbox hg; obtain ⟨i043, hi043, _, hsz43, _⟩ := info_parts info5; obtain ⟨hcut43, hA43, hC43⟩ := print_take_of (P := Try.prog) (Value.int .u8) 0 23 5 .i64 Try.underlying23 hi043 hsz43 A0 c0 l0 7 (by omega) (of_decide_eq_true (by first | (with_reducible assumption) | assumption)) HC0.out; have HR428 := Aside0.mk (Kd.C_of_reads (h1 := fun _ => rfl) (hA43 _ (Kd.reads_of_C HR0.out))); have HC428 := Aside0.mk hC43; clear hA43 hC43 hi043 hsz43) | (go_at_call 33; (try rw [← List.length_take]); (with_reducible refine (sum_Cut.calls k _ _ (l0.take 7) t429 false _ ?side1 ?side2 A6.out).mono ?_); (case side1 => repeat (first | exact (Kd.C_below HR428.out HB.out) | (with_reducible refine Kd.C_alloc ?_ _) | (with_reducible refine Kd.C_drewN ?_ _) | (with_reducible refine Kd.C_drew ?_))); (case side2 => exact HC428.out); rintro e w44 ⟨v431, rfl, ho0, hb⟩; have n0_ := Aside0.mk (Kd.R_lower ho0 (below_size (by repeat (first | (with_reducible first | exact HB.out | apply below_alloc | apply pw_below_drewN | apply below_drew1 | refine below_set ?_ GE427.out) | exact HB.out)))); have n1_ := Aside0.mk (blk_below (g := gb427) (o := .cells #[.int .u8 0, .slice none 0 0] 56 (0, 0)) (by (with_reducible repeat (first | refine blk_drewN ?_ _ | refine blk_drew ?_ | refine blk_alloc ?_ _)); exact BK427.out) hb); have n2_ := Aside0.mk (below_step (by repeat (first | (with_reducible first | exact HB.out | apply below_alloc | apply pw_below_drewN | apply below_drew1 | refine below_set ?_ GE427.out) | exact HB.out)) hb); clear BK427; clear HB; have HO432 := n0_; have BK427 := n1_; have HB := n2_; clear n0_ n1_ n2_; (try clear hb); (try clear hb2); (try clear hk); (try clear hi); (try clear ho0); have hcz45_0 : w44.cell? ⟨gb427, 0, none⟩ = some (.int .u8 0) := (blk_cell BK427.out 0).trans rfl; have hcz45_1 : w44.cell? ⟨gb427, 1, none⟩ = some (.slice none 0 0) := (blk_cell BK427.out 1).trans rfl; have hfz45_0 := blk_frozen BK427.out 0; have hfz45_1 := blk_frozen BK427.out 1))
        repeat (go_quiet (first | ((with_reducible refine gate_dst (N := 2) rfl ?_); refine box_event ?hg (N := 2) ?hd (cs := #[.int .u8 0, .slice none 0 0]) (t := 56) ?hr ?_; (case hd => rfl); (case hg => rfl); (case hr => first | (go_simp; done) | (go_simp; rfl)); intro gb427 hg w42 hbox hb; have n0_ := Aside0.mk (below_step (by repeat (first | (with_reducible first | exact HB.out | apply below_alloc | apply pw_below_drewN | apply below_drew1) | exact HB.out)) hb); have n1_ := Aside0.mk (hbox); have n2_ := Aside0.mk ((by rw [hg]; exact (below_size (by repeat (first | (with_reducible first | exact HB.out | apply below_alloc | apply pw_below_drewN | apply below_drew1) | exact HB.out))) : w.heap.size ≤ gb427)); have n3_ := Aside0.mk ((by rw [hg]; exact (below_size (by repeat (first | (with_reducible first | exact HB.out | apply below_alloc | apply pw_below_drewN | apply below_drew1) | exact HB.out))) : w.heap.size ≤ gb427)); clear HB; have HB := n0_; have BK427 := n1_; have GW427 := n2_; have GE427 := n3_; clear n0_ n1_ n2_ n3_; clear hb hbox hg; obtain ⟨i043, hi043, _, hsz43, _⟩ := info_parts info5; obtain ⟨hcut43, hA43, hC43⟩ := print_take_of (P := Try.prog) (Value.int .u8) 0 23 5 .i64 Try.underlying23 hi043 hsz43 A0 c0 l0 7 (by omega) (of_decide_eq_true (by first | (with_reducible assumption) | assumption)) HC0.out; have HR428 := Aside0.mk (Kd.C_of_reads (h1 := fun _ => rfl) (hA43 _ (Kd.reads_of_C HR0.out))); have HC428 := Aside0.mk hC43; clear hA43 hC43 hi043 hsz43) | (go_at_call 33; (try rw [← List.length_take]); (with_reducible refine (sum_Cut.calls k _ _ (l0.take 7) t429 false _ ?side1 ?side2 A6.out).mono ?_); (case side1 => repeat (first | exact (Kd.C_below HR428.out HB.out) | (with_reducible refine Kd.C_alloc ?_ _) | (with_reducible refine Kd.C_drewN ?_ _) | (with_reducible refine Kd.C_drew ?_))); (case side2 => exact HC428.out); rintro e w44 ⟨v431, rfl, ho0, hb⟩; have n0_ := Aside0.mk (Kd.R_lower ho0 (below_size (by repeat (first | (with_reducible first | exact HB.out | apply below_alloc | apply pw_below_drewN | apply below_drew1 | refine below_set ?_ GE427.out) | exact HB.out)))); have n1_ := Aside0.mk (blk_below (g := gb427) (o := .cells #[.int .u8 0, .slice none 0 0] 56 (0, 0)) (by (with_reducible repeat (first | refine blk_drewN ?_ _ | refine blk_drew ?_ | refine blk_alloc ?_ _)); exact BK427.out) hb); have n2_ := Aside0.mk (below_step (by repeat (first | (with_reducible first | exact HB.out | apply below_alloc | apply pw_below_drewN | apply below_drew1 | refine below_set ?_ GE427.out) | exact HB.out)) hb); clear BK427; clear HB; have HO432 := n0_; have BK427 := n1_; have HB := n2_; clear n0_ n1_ n2_; (try clear hb); (try clear hb2); (try clear hk); (try clear hi); (try clear ho0); have hcz45_0 : w44.cell? ⟨gb427, 0, none⟩ = some (.int .u8 0) := (blk_cell BK427.out 0).trans rfl; have hcz45_1 : w44.cell? ⟨gb427, 1, none⟩ = some (.slice none 0 0) := (blk_cell BK427.out 1).trans rfl; have hfz45_0 := blk_frozen BK427.out 0; have hfz45_1 := blk_frozen BK427.out 1)); try go_wp2_with (first | ((with_reducible refine gate_dst (N := 2) rfl ?_); refine box_event ?hg (N := 2) ?hd (cs := #[.int .u8 0, .slice none 0 0]) (t := 56) ?hr ?_; (case hd => rfl); (case hg => rfl); (case hr => first | (go_simp; done) | (go_simp; rfl)); intro gb427 hg w42 hbox hb; have n0_ := Aside0.mk (below_step (by repeat (first | (with_reducible first | exact HB.out | apply below_alloc | apply pw_below_drewN | apply below_drew1) | exact HB.out)) hb); have n1_ := Aside0.mk (hbox); have n2_ := Aside0.mk ((by rw [hg]; exact (below_size (by repeat (first | (with_reducible first | exact HB.out | apply below_alloc | apply pw_below_drewN | apply below_drew1) | exact HB.out))) : w.heap.size ≤ gb427)); have n3_ := Aside0.mk ((by rw [hg]; exact (below_size (by repeat (first | (with_reducible first | exact HB.out | apply below_alloc | apply pw_below_drewN | apply below_drew1) | exact HB.out))) : w.heap.size ≤ gb427)); clear HB; have HB := n0_; have BK427 := n1_; have GW427 := n2_; have GE427 := n3_; clear n0_ n1_ n2_ n3_; clear hb hbox hg; obtain ⟨i043, hi043, _, hsz43, _⟩ := info_parts info5; obtain ⟨hcut43, hA43, hC43⟩ := print_take_of (P := Try.prog) (Value.int .u8) 0 23 5 .i64 Try.underlying23 hi043 hsz43 A0 c0 l0 7 (by omega) (of_decide_eq_true (by first | (with_reducible assumption) | assumption)) HC0.out; have HR428 := Aside0.mk (Kd.C_of_reads (h1 := fun _ => rfl) (hA43 _ (Kd.reads_of_C HR0.out))); have HC428 := Aside0.mk hC43; clear hA43 hC43 hi043 hsz43) | (go_at_call 33; (try rw [← List.length_take]); (with_reducible refine (sum_Cut.calls k _ _ (l0.take 7) t429 false _ ?side1 ?side2 A6.out).mono ?_); (case side1 => repeat (first | exact (Kd.C_below HR428.out HB.out) | (with_reducible refine Kd.C_alloc ?_ _) | (with_reducible refine Kd.C_drewN ?_ _) | (with_reducible refine Kd.C_drew ?_))); (case side2 => exact HC428.out); rintro e w44 ⟨v431, rfl, ho0, hb⟩; have n0_ := Aside0.mk (Kd.R_lower ho0 (below_size (by repeat (first | (with_reducible first | exact HB.out | apply below_alloc | apply pw_below_drewN | apply below_drew1 | refine below_set ?_ GE427.out) | exact HB.out)))); have n1_ := Aside0.mk (blk_below (g := gb427) (o := .cells #[.int .u8 0, .slice none 0 0] 56 (0, 0)) (by (with_reducible repeat (first | refine blk_drewN ?_ _ | refine blk_drew ?_ | refine blk_alloc ?_ _)); exact BK427.out) hb); have n2_ := Aside0.mk (below_step (by repeat (first | (with_reducible first | exact HB.out | apply below_alloc | apply pw_below_drewN | apply below_drew1 | refine below_set ?_ GE427.out) | exact HB.out)) hb); clear BK427; clear HB; have HO432 := n0_; have BK427 := n1_; have HB := n2_; clear n0_ n1_ n2_; (try clear hb); (try clear hb2); (try clear hk); (try clear hi); (try clear ho0); have hcz45_0 : w44.cell? ⟨gb427, 0, none⟩ = some (.int .u8 0) := (blk_cell BK427.out 0).trans rfl; have hcz45_1 : w44.cell? ⟨gb427, 1, none⟩ = some (.slice none 0 0) := (blk_cell BK427.out 1).trans rfl; have hfz45_0 := blk_frozen BK427.out 0; have hfz45_1 := blk_frozen BK427.out 1)))
        refine bodyPost_ret (results_ctt rfl _ _ gb427 56 #[.int .u8 0, .slice none 0 0] (0, 0) _ rfl (by (with_reducible repeat (first | refine blk_drewN ?_ _ | refine blk_drew ?_ | refine blk_alloc ?_ _)); refine blk_put (cs := #[.int .u8 0, .slice none 0 0]) ?_ 1 _ rfl; (with_reducible repeat (first | refine blk_drewN ?_ _ | refine blk_drew ?_ | refine blk_alloc ?_ _)); refine blk_put (cs := #[.int .u8 0, .slice none 0 0]) ?_ 0 _ rfl; (with_reducible repeat (first | refine blk_drewN ?_ _ | refine blk_drew ?_ | refine blk_alloc ?_ _)); exact BK427.out) Try.underlying56 rfl (by kernel_rfl)) rfl ?_
        exact ⟨_, by first | rfl | (simp [errW_none, errW_some] <;> rfl) | (simp [*, errW_none, errW_some] <;> rfl), by first | exact Kd.R_nil _ _ _ _ _ | exact Kd.N_nil _ _ _ _ _ | exact Kd.V_nil _ _ _ _ _ | exact Kd.Q_nil _ _ _ _ _ | exact Kd.S_nil _ _ _ _ _, by repeat (first | (with_reducible first | exact HB.out | apply below_alloc | apply pw_below_drewN | apply below_drew1 | refine below_set ?_ GE427.out) | exact HB.out)⟩
    · rw [if_neg c5] at H
      exact absurd H (by simp)
def frame_All.l0 : Nat → List Int → List (S56) → Int → Option ((List (S56)) × Int × Int)
  | 0, _, _, _ => none
  | k + 1, x0, x5, x6 => if x6 < (x0.length : Int) then (if 0 ≤ x6 then (if x6 ≤ (x0.length : Int) then ((frame_Read.f k (x0.drop (x6 : Int).toNat)).bind fun bt442 => (if bt442.2.2.2 = 0 then (if x5.length < 4398046511104 then (frame_All.l0 k x0 (x5 ++ [(⟨bt442.1, bt442.2.1⟩ : S56)]) (wrap64 (x6 + bt442.2.2.1))) else (none)) else (some (x5, x6, bt442.2.2.2)))) else (none)) else (none)) else (some (x5, x6, 0))
def frame_All.f (k : Nat) (l0 : List Int) : Option ((List (S56)) × Int × Int) := frame_All.l0 k l0 ([] : List (S56)) 0
set_option maxHeartbeats 8000000 in
set_option maxRecDepth 100000 in
theorem frame_All.calls (k : Nat) (A0 : Option Addr) (c0 : Nat) (l0 : List Int) (r1 : List (S56)) (r2 : Int) (r3 : Int) (w : World) (hr0 : Kd.C (Kd.int .u8) w A0 l0.length l0) (hc0 : l0.length ≤ c0) (h : frame_All.f k l0 = some (r1, r2, r3)) :
    Calls Try.prog 49 #[.slice A0 l0.length c0] w fun e w' => ∃ v0_ : Value, e = .returned (.tuple #[v0_, .int .i64 r2, .int .i64 r3]) ∧ Kd.S k56 56 w' w.heap.size (fun _ => True) v0_ r1 ∧ Below w.heap.size w w' := by
  have hu56 := Try.underlying56
  have HR0 := Aside0.mk hr0
  have HC0 := Aside0.mk hc0
  clear hr0 hc0
  have HB := Aside0.mk (Below.refl w.heap.size w)
  have H : (frame_All.l0 k l0 ([] : List (S56)) 0) = some (r1, r2, r3) := h
  clear h
  have H' := Aside0.mk H
  clear H
  go_enter Try.func49, Try.ntmps49
  go_wp2
  go_step3
  go_wp2
  go_step3
  go_wp2
  go_loopg [5, 6] k (fun kq v5 v6 w' => ∃ (x5_1 : List (S56)) (x6_1 : Int), v6 = .int .i64 x6_1 ∧ Aside0 (frame_All.l0 kq l0 x5_1 x6_1 = some (r1, r2, r3)) ∧ Aside0 (kq ≤ k) ∧ Aside0 (Kd.S k56 56 w' w.heap.size (fun _ => True) v5 x5_1) ∧ Aside0 (Below w.heap.size w w'))
  case atStart => exact ⟨(([] : List (S56))), (0), (by first | rfl | (simp; done) | (simp [*]; done)), H', ⟨Nat.le_refl _⟩, ⟨by first | exact Kd.S_nil _ _ _ _ _ | exact Kd.N_nil _ _ _ _ _ | exact Kd.V_nil _ _ _ _ _ | exact Kd.Q_nil _ _ _ _ _ | exact Kd.R_nil _ _ _ _ _⟩, ⟨by repeat (first | (with_reducible first | exact HB.out | apply below_alloc | apply pw_below_drewN | apply below_drew1) | exact HB.out)⟩⟩
  case round =>
    clear H'
    obtain ⟨x5_1, x6_1, rfl, HA, HK1, HO_5, HB⟩ := hrel
    cases gk with
    | zero => exact absurd HA.out (by simp [frame_All.l0])
    | succ k1 =>
      have H := HA.out
      clear HA
      simp only [frame_All.l0] at H
      by_cases c2 : x6_1 < (l0.length : Int)
      · rw [if_pos c2] at H
        have c2b0 : decide (x6_1 < (l0.length : Int)) = true := decide_eq_true c2
        clear c2
        by_cases c3 : 0 ≤ x6_1
        · rw [if_pos c3] at H
          have c3b0 := eq_true c3
          have c3b1 : decide (0 ≤ x6_1) = true := decide_eq_true c3
          clear c3
          by_cases c4 : x6_1 ≤ (l0.length : Int)
          · rw [if_pos c4] at H
            have c4b0 := eq_true c4
            have c4b1 : decide (x6_1 ≤ (l0.length : Int)) = true := decide_eq_true c4
            clear c4
            replace H := Option.bind_eq_some_iff.mp H
            obtain ⟨⟨t442, t443, t446, t447⟩, A50, H⟩ := H
            replace H : (if t447 = 0 then (if x5_1.length < 4398046511104 then (frame_All.l0 k1 l0 (x5_1 ++ [(⟨t442, t443⟩ : S56)]) (wrap64 (x6_1 + t446))) else (none)) else (some (x5_1, x6_1, t447))) = some (r1, r2, r3) := H
            have A5 := Aside0.mk A50
            clear A50
            by_cases c6 : t447 = 0
            · rw [if_pos c6] at H
              have c6b0 : (t447 == 0) = true := beq_iff_eq.mpr c6
              have c6b1 : (t447 != 0) = false := bne_eq_false_iff_eq.mpr c6
              clear c6
              by_cases c7 : x5_1.length < 4398046511104
              · rw [if_pos c7] at H
                have LMc7 := Aside0.mk c7
                clear c7
                obtain ⟨y449, hy449⟩ : ∃ y_ : List (S56), y_ = (x5_1 ++ [(⟨t442, t443⟩ : S56)]) := ⟨_, rfl⟩
                replace H : (frame_All.l0 k1 l0 y449 (wrap64 (x6_1 + t446))) = some (r1, r2, r3) := by first | (rw [hy449]; with_reducible exact H) | (have H2_ := (Option.bind_some _ _).symm.trans H; rw [hy449]; with_reducible exact H2_) | (have H2_ := (Option.bind_some _ _).symm.trans H; with_reducible exact H2_) | with_reducible exact H | (rw [hy449]; exact H) | exact H
                have Ny449 := Aside0.mk hy449
                clear hy449
                have H' := Aside0.mk H
                clear H
                obtain ⟨i08, hi08, _, hsz8, _⟩ := info_parts info5
                obtain ⟨A8, hcut8, hA8, hC8⟩ := print_drop_of (P := Try.prog) (Value.int .u8) 0 23 5 .i64 Try.underlying23 hi08 hsz8 A0 c0 l0 x6_1 (of_decide_eq_true (by first | (with_reducible assumption) | assumption)) (of_decide_eq_true (by first | (with_reducible assumption) | assumption)) HC0.out
                have HR441 := Aside0.mk (Kd.C_of_reads (h1 := fun _ => rfl) (hA8 _ (Kd.reads_of_C HR0.out)))
                have HC441 := Aside0.mk hC8
                clear hA8 hC8 hi08 hsz8
                go_wp2_with (first | ((with_reducible refine gate_callee (f := 47) rfl ?_); refine goesL_ (some 18) rfl rfl Try.func47 (by kernel_rfl) rfl #[.slice A8 (l0.drop (x6_1 : Int).toNat).length (c0 - x6_1.toNat)] rfl (by (try simp only [List.map_toArray, List.map_cons, List.map_nil]); first | done | (rw [show (l0.drop (x6_1 : Int).toNat).length = (l0.length - x6_1.toNat) from List.length_drop] <;> rfl) | rfl | (simp only [List.length_drop, List.length_take]; rfl)) ?_; (with_reducible refine (frame_Read.calls k1 _ _ (l0.drop (x6_1 : Int).toNat) t442 t443 t446 t447 _ ?side1 ?side2 A5.out).mono ?_); (case side1 => repeat (first | exact (Kd.C_below HR441.out HB.out) | (with_reducible refine Kd.C_alloc ?_ _) | (with_reducible refine Kd.C_drewN ?_ _) | (with_reducible refine Kd.C_drew ?_))); (case side2 => exact HC441.out); rintro e w9 ⟨v444, rfl, ho0, hb⟩; refine ⟨_, rfl, ?_⟩; have n0_ := Aside0.mk (Kd.S_elder' (by (with_reducible repeat (first | apply Kd.S_alloc | apply Kd.S_drewN | apply Kd.S_drew)); exact HO_5.out) (Kd.R_base ho0) hb); have n1_ := Aside0.mk (Kd.R_lower ho0 (below_size (by repeat (first | (with_reducible first | exact HB.out | apply below_alloc | apply pw_below_drewN | apply below_drew1) | exact HB.out)))); have n2_ := Aside0.mk (below_step (by repeat (first | (with_reducible first | exact HB.out | apply below_alloc | apply pw_below_drewN | apply below_drew1) | exact HB.out)) hb); clear HO_5; clear HB; have HO_5 := n0_; have HO445 := n1_; have HB := n2_; clear n0_ n1_ n2_; (try clear hb); (try clear hb2); (try clear hk); (try clear hi); (try clear ho0)) | ((with_reducible refine gate_dst (N := 7) rfl ?_); refine box_event ?hg (N := 7) ?hd (cs := #[.int .u8 0, .slice none 0 0]) (t := 56) ?hr ?_; (case hd => rfl); (case hg => rfl); (case hr => first | (go_simp; done) | (go_simp; rfl)); intro gb448 hg w10 hbox hb; have n0_ := Aside0.mk (Kd.S_below (Kd.S_elderB (by (with_reducible repeat (first | apply Kd.S_alloc | apply Kd.S_drewN | apply Kd.S_drew)); exact HO_5.out) gb448 (Nat.le_of_eq hg.symm)) hb); have n1_ := Aside0.mk (Kd.R_below (by (with_reducible repeat (first | apply Kd.R_alloc | apply Kd.R_drewN | apply Kd.R_drew)); exact HO445.out) hb); have n2_ := Aside0.mk (below_step (by repeat (first | (with_reducible first | exact HB.out | apply below_alloc | apply pw_below_drewN | apply below_drew1) | exact HB.out)) hb); have n3_ := Aside0.mk (hbox); have n4_ := Aside0.mk ((by rw [hg]; exact (below_size (by repeat (first | (with_reducible first | exact HB.out | apply below_alloc | apply pw_below_drewN | apply below_drew1) | exact HB.out))) : w.heap.size ≤ gb448)); have n5_ := Aside0.mk ((by rw [hg]; exact (below_size (by repeat (first | (with_reducible first | exact HB.out | apply below_alloc | apply pw_below_drewN | apply below_drew1) | exact HB.out))) : w.heap.size ≤ gb448)); clear HO_5; clear HO445; clear HB; have HO_5 := n0_; have HO445 := n1_; have HB := n2_; have BK448 := n3_; have GW448 := n4_; have GE448 := n5_; clear n0_ n1_ n2_ n3_ n4_ n5_; clear hb hbox hg; have hcz11_0 : w10.cell? ⟨gb448, 0, none⟩ = some (.int .u8 0) := (blk_cell BK448.out 0).trans rfl; have hcz11_1 : w10.cell? ⟨gb448, 1, none⟩ = some (.slice none 0 0) := (blk_cell BK448.out 1).trans rfl; have hfz11_0 := blk_frozen BK448.out 0; have hfz11_1 := blk_frozen BK448.out 1; obtain ⟨Ao12, co12, eo12⟩ := Kd.R_slice HO445.out; subst eo12) | ((with_reducible refine gate_store (t := 56) (p := 7) rfl ?_); refine store_event (t := 56) (p := 7) (v := ?vo_w13) (w1 := ((w10.setCell ⟨gb448, 0, none⟩ (.int .u8 t442)).setCell ⟨gb448, 1, none⟩ (.slice Ao12 t443.length co12))) ?hg ?ho ?hn ?hr ?_; (case ho => rfl); (case hg => rfl); (case hn => rfl); (case hr => first | (go_simp; done) | (go_simp; rfl)); intro w13 hw; have n0_ : Aside0 (Kd.S k56 56 w13 w.heap.size (fun k_ => some k_ ≠ (.slice Ao12 t443.length co12 : Value).ownBlock ∧ k_ ≠ gb448) u5 x5_1) := ⟨(by rw [hw]; exact (by (with_reducible repeat (first | apply Kd.S_alloc | apply Kd.S_drewN | apply Kd.S_drew)); exact Kd.S_mono (Kd.S_far (p := ⟨gb448, 1, none⟩) (Kd.S_far (p := ⟨gb448, 0, none⟩) (Kd.S_mono HO_5.out (fun k_ hk => (⟨hk, hk.2⟩ : _ ∧ k_ ≠ gb448))) (fun _ hk => hk.2) (.int .u8 t442)) (fun _ hk => hk.2) (.slice Ao12 t443.length co12)) (fun _ hk => ⟨hk.1.1.2, hk.1.2⟩)))⟩; have n1_ : Aside0 (Kd.R (Kd.int .u8) 5 w13 w.heap.size (fun _ => True) (.slice Ao12 t443.length co12) t443) := ⟨(by rw [hw]; exact (by (with_reducible repeat (first | apply Kd.R_alloc | apply Kd.R_drewN | apply Kd.R_drew)); exact Kd.R_mono (Kd.R_far (p := ⟨gb448, 1, none⟩) (Kd.R_far (p := ⟨gb448, 0, none⟩) (Kd.R_types HO445.out BK448.out (by decide)) (fun _ hk => hk.2) (.int .u8 t442)) (fun _ hk => hk.2) (.slice Ao12 t443.length co12)) (fun _ hk => trivial)))⟩; have n2_ : Aside0 (w13.heap[gb448]? = some (.cells #[.int .u8 t442, .slice Ao12 t443.length co12] 56 (0, 0))) := ⟨(by rw [hw]; exact (by (with_reducible repeat (first | refine blk_drewN ?_ _ | refine blk_drew ?_ | refine blk_alloc ?_ _)); refine blk_put (cs := #[.int .u8 t442, .slice none 0 0]) ?_ 1 _ rfl; (with_reducible repeat (first | refine blk_drewN ?_ _ | refine blk_drew ?_ | refine blk_alloc ?_ _)); refine blk_put (cs := #[.int .u8 0, .slice none 0 0]) ?_ 0 _ rfl; (with_reducible repeat (first | refine blk_drewN ?_ _ | refine blk_drew ?_ | refine blk_alloc ?_ _)); exact BK448.out))⟩; have n3_ : Aside0 (Below w.heap.size w w13) := ⟨(by rw [hw]; exact (by repeat (first | (with_reducible first | exact HB.out | apply below_alloc | apply pw_below_drewN | apply below_drew1 | refine below_set ?_ GE448.out) | exact HB.out)))⟩; clear hw; clear HO_5; clear HO445; clear BK448; clear HB; have HO_5 := n0_; have HO445 := n1_; have BK448 := n2_; have HB := n3_; clear n0_ n1_ n2_ n3_; have hcz14_0 : w13.cell? ⟨gb448, 0, none⟩ = some (.int .u8 t442) := (blk_cell BK448.out 0).trans rfl; have hcz14_1 : w13.cell? ⟨gb448, 1, none⟩ = some (.slice Ao12 t443.length co12) := (blk_cell BK448.out 1).trans rfl; have hfz14_0 := blk_frozen BK448.out 0; have hfz14_1 := blk_frozen BK448.out 1) | ((with_reducible refine gate_builtin (b := .append) (xs := #[.tmp 27, .tmp 29]) rfl ?_); at_builtin; refine Kd.S_append k56 (w0 := w) w.heap.size rfl (.tmp 27) (.tmp 29) 65 56 (.agg #[(.int .u8 0), (.slice none 0 0)]) 32 rfl Try.underlying65 info56 rfl (by decide) (by omega) u5 x5_1 (⟨t442, t443⟩ : S56) [.int .u8 t442, .slice Ao12 t443.length co12] (fun k_ => k_ ≠ gb448) (fun k_ => some k_ = (.slice Ao12 t443.length co12 : Value).ownBlock) rfl rfl ?aP (fun k_ hk_ => ((Kd.R_mono (ok' := fun k_ => ((fun k_ => k_ ≠ gb448)) k_ ∧ some k_ ≠ (u5 : Value).ownBlock) (Kd.R_types (Kd.R_apart' (HO445.out) (Kd.S_typed HO_5.out) (by decide)) BK448.out (by decide)) (fun k_ hk => ⟨hk.2, hk.1.2⟩))).1 k_ hk_.symm) ?aF ?aO ?aB ?aS ?aL ?_; (case aP => exact k56_mkM _ _ _ (⟨t442, t443⟩ : S56) (Kd.R_mono (Kd.R_tight rfl (Kd.R_mono (ok' := fun k_ => ((fun k_ => k_ ≠ gb448)) k_ ∧ some k_ ≠ (u5 : Value).ownBlock) (Kd.R_types (Kd.R_apart' (HO445.out) (Kd.S_typed HO_5.out) (by decide)) BK448.out (by decide)) (fun k_ hk => ⟨hk.2, hk.1.2⟩))) (fun _ h_ => h_))); (case aB => exact (by repeat (first | (with_reducible first | exact HB.out | apply below_alloc | apply pw_below_drewN | apply below_drew1 | refine below_set ?_ GE448.out) | exact HB.out))); (case aF => exact (fun k_ hk => Kd.freshB (g := gb448) (o := .cells #[.int .u8 t442, .slice Ao12 t443.length co12] 56 (0, 0)) (by (with_reducible repeat (first | refine blk_drewN ?_ _ | refine blk_drew ?_ | refine blk_alloc ?_ _)); exact BK448.out) k_ hk)); (case aO => exact (by (with_reducible repeat (first | apply Kd.S_alloc | apply Kd.S_drewN | apply Kd.S_drew)); exact Kd.S_mono HO_5.out (fun k_ hk => ⟨hk.2, fun e_ => hk.1 e_⟩))); (case aS => exact (below_size (by repeat (first | (with_reducible first | exact HB.out | apply below_alloc | apply pw_below_drewN | apply below_drew1 | refine below_set ?_ GE448.out) | exact HB.out)))); (case aL => have := LMc7.out; omega); intro v450 w15 ho hb hg hat; rw [← Ny449.out] at ho; have n0_ := Aside0.mk (blk_grown (g := gb448) (o := .cells #[.int .u8 t442, .slice Ao12 t443.length co12] 56 (0, 0)) (by (with_reducible repeat (first | refine blk_drewN ?_ _ | refine blk_drew ?_ | refine blk_alloc ?_ _)); exact BK448.out) hg (Kd.S_away HO_5.out (fun _ hk => hk.2))); have n1_ := Aside0.mk (hb); have n2_ := Aside0.mk (ho); clear BK448; clear HB; clear HO_5; clear HO445; have BK448 := n0_; have HB := n1_; have HO451 := n2_; clear n0_ n1_ n2_; clear ho hb hg hat))
                go_roundg k1
                case measure => have := HK1.out; omega
                case rel => exact ⟨(y449), (wrap64 (x6_1 + t446)), (by first | rfl | (simp; done) | (simp [*]; done)), H', ⟨by have := HK1.out; omega⟩, ⟨by (with_reducible repeat (first | apply Kd.S_alloc | apply Kd.S_drewN | apply Kd.S_drew)); exact Kd.S_mono HO451.out (fun _ hk => trivial)⟩, ⟨by repeat (first | (with_reducible first | exact HB.out | apply below_alloc | apply pw_below_drewN | apply below_drew1 | refine below_set ?_ GE448.out) | exact HB.out)⟩⟩
              · rw [if_neg c7] at H
                exact absurd H (by simp)
            · rw [if_neg c6] at H
              have c6b0 : (t447 == 0) = false := beq_eq_false_iff_ne.mpr c6
              have c6b1 : (t447 != 0) = true := bne_iff_ne.mpr c6
              simp only [Option.some.injEq, Prod.mk.injEq] at H
              obtain ⟨rfl, rfl, rfl⟩ := H
              obtain ⟨i016, hi016, _, hsz16, _⟩ := info_parts info5
              obtain ⟨A16, hcut16, hA16, hC16⟩ := print_drop_of (P := Try.prog) (Value.int .u8) 0 23 5 .i64 Try.underlying23 hi016 hsz16 A0 c0 l0 x6_1 (of_decide_eq_true (by first | (with_reducible assumption) | assumption)) (of_decide_eq_true (by first | (with_reducible assumption) | assumption)) HC0.out
              have HR441 := Aside0.mk (Kd.C_of_reads (h1 := fun _ => rfl) (hA16 _ (Kd.reads_of_C HR0.out)))
              have HC441 := Aside0.mk hC16
              clear hA16 hC16 hi016 hsz16
              go_wp2_with (first | ((with_reducible refine gate_callee (f := 47) rfl ?_); refine goesL_ (some 18) rfl rfl Try.func47 (by kernel_rfl) rfl #[.slice A16 (l0.drop (x6_1 : Int).toNat).length (c0 - x6_1.toNat)] rfl (by (try simp only [List.map_toArray, List.map_cons, List.map_nil]); first | done | (rw [show (l0.drop (x6_1 : Int).toNat).length = (l0.length - x6_1.toNat) from List.length_drop] <;> rfl) | rfl | (simp only [List.length_drop, List.length_take]; rfl)) ?_; (with_reducible refine (frame_Read.calls k1 _ _ (l0.drop (x6_1 : Int).toNat) t442 t443 t446 t447 _ ?side1 ?side2 A5.out).mono ?_); (case side1 => repeat (first | exact (Kd.C_below HR441.out HB.out) | (with_reducible refine Kd.C_alloc ?_ _) | (with_reducible refine Kd.C_drewN ?_ _) | (with_reducible refine Kd.C_drew ?_))); (case side2 => exact HC441.out); rintro e w17 ⟨v444, rfl, ho0, hb⟩; refine ⟨_, rfl, ?_⟩; have n0_ := Aside0.mk (Kd.S_elder' (by (with_reducible repeat (first | apply Kd.S_alloc | apply Kd.S_drewN | apply Kd.S_drew)); exact HO_5.out) (Kd.R_base ho0) hb); have n1_ := Aside0.mk (Kd.R_lower ho0 (below_size (by repeat (first | (with_reducible first | exact HB.out | apply below_alloc | apply pw_below_drewN | apply below_drew1) | exact HB.out)))); have n2_ := Aside0.mk (below_step (by repeat (first | (with_reducible first | exact HB.out | apply below_alloc | apply pw_below_drewN | apply below_drew1) | exact HB.out)) hb); clear HO_5; clear HB; have HO_5 := n0_; have HO445 := n1_; have HB := n2_; clear n0_ n1_ n2_; (try clear hb); (try clear hb2); (try clear hk); (try clear hi); (try clear ho0)) | ((with_reducible refine gate_dst (N := 7) rfl ?_); refine box_event ?hg (N := 7) ?hd (cs := #[.int .u8 0, .slice none 0 0]) (t := 56) ?hr ?_; (case hd => rfl); (case hg => rfl); (case hr => first | (go_simp; done) | (go_simp; rfl)); intro gb448 hg w18 hbox hb; have n0_ := Aside0.mk (Kd.S_below (Kd.S_elderB (by (with_reducible repeat (first | apply Kd.S_alloc | apply Kd.S_drewN | apply Kd.S_drew)); exact HO_5.out) gb448 (Nat.le_of_eq hg.symm)) hb); have n1_ := Aside0.mk (Kd.R_below (by (with_reducible repeat (first | apply Kd.R_alloc | apply Kd.R_drewN | apply Kd.R_drew)); exact HO445.out) hb); have n2_ := Aside0.mk (below_step (by repeat (first | (with_reducible first | exact HB.out | apply below_alloc | apply pw_below_drewN | apply below_drew1) | exact HB.out)) hb); have n3_ := Aside0.mk (hbox); have n4_ := Aside0.mk ((by rw [hg]; exact (below_size (by repeat (first | (with_reducible first | exact HB.out | apply below_alloc | apply pw_below_drewN | apply below_drew1) | exact HB.out))) : w.heap.size ≤ gb448)); have n5_ := Aside0.mk ((by rw [hg]; exact (below_size (by repeat (first | (with_reducible first | exact HB.out | apply below_alloc | apply pw_below_drewN | apply below_drew1) | exact HB.out))) : w.heap.size ≤ gb448)); clear HO_5; clear HO445; clear HB; have HO_5 := n0_; have HO445 := n1_; have HB := n2_; have BK448 := n3_; have GW448 := n4_; have GE448 := n5_; clear n0_ n1_ n2_ n3_ n4_ n5_; clear hb hbox hg; have hcz19_0 : w18.cell? ⟨gb448, 0, none⟩ = some (.int .u8 0) := (blk_cell BK448.out 0).trans rfl; have hcz19_1 : w18.cell? ⟨gb448, 1, none⟩ = some (.slice none 0 0) := (blk_cell BK448.out 1).trans rfl; have hfz19_0 := blk_frozen BK448.out 0; have hfz19_1 := blk_frozen BK448.out 1; obtain ⟨Ao20, co20, eo20⟩ := Kd.R_slice HO445.out; subst eo20))
              first | go_ret3 | (rw [Exit.noGoto_ret]; go_ret3)
              exact ⟨_, by first | rfl | (simp [errW_none, errW_some] <;> rfl) | (simp [*, errW_none, errW_some] <;> rfl), by (with_reducible repeat (first | apply Kd.S_alloc | apply Kd.S_drewN | apply Kd.S_drew)); exact Kd.S_mono (Kd.S_far (p := ⟨gb448, 1, none⟩) (Kd.S_far (p := ⟨gb448, 0, none⟩) (Kd.S_mono HO_5.out (fun k_ hk => (⟨hk, hk.2⟩ : _ ∧ k_ ≠ gb448))) (fun _ hk => hk.2) (.int .u8 t442)) (fun _ hk => hk.2) (.slice Ao20 t443.length co20)) (fun _ hk => trivial), by repeat (first | (with_reducible first | exact HB.out | apply below_alloc | apply pw_below_drewN | apply below_drew1 | refine below_set ?_ GE448.out) | exact HB.out)⟩
          · rw [if_neg c4] at H
            exact absurd H (by simp)
        · rw [if_neg c3] at H
          exact absurd H (by simp)
      · rw [if_neg c2] at H
        have c2b0 : decide (x6_1 < (l0.length : Int)) = false := decide_eq_false c2
        clear c2
        simp only [Option.some.injEq, Prod.mk.injEq] at H
        obtain ⟨rfl, rfl, rfl⟩ := H
        go_wp2
        first | go_ret3 | (rw [Exit.noGoto_ret]; go_ret3)
        exact ⟨_, by first | rfl | (simp [errW_none, errW_some] <;> rfl) | (simp [*, errW_none, errW_some] <;> rfl), by (with_reducible repeat (first | apply Kd.S_alloc | apply Kd.S_drewN | apply Kd.S_drew)); exact HO_5.out, by repeat (first | (with_reducible first | exact HB.out | apply below_alloc | apply pw_below_drewN | apply below_drew1) | exact HB.out)⟩
end Go.Proofs.Ytojepleodijdeaa.B
set_option linter.unusedVariables false
set_option maxRecDepth 100000
namespace Go.Proofs.Ytojepleodijdeaa.D
open Go Go.RowKit Go.Proofs.YtojepleodijdeaaW.PrintWords Go.Proofs.YtojepleodijdeaaW.PrintLast Go.Proofs.Ytojepleodijdeaa.B
/-- The letters of the statement. -/
structure Cx where
  (kj g270 g277 g253 g254 co64 co65 co54 co61 co66 co67 c0 c1 : Nat)
  (Ao64 Ao65 Ao54 Ao61 Ao66 Ao67 A0 A1 : Option Addr)
  (t256 t260 t265 t272 l0 l1 : List Int)
  (t259 t263 t264 t268 t269 t271 t275 t276 t279 t280 t284 t285 a0 a1 : Int)
  (t278 : List S56)
  (t283 t292 t299 t307 t313 : List S60)
  (t303 t316 : Bool)
/-- What is known ahead of it. -/
structure Cx.Ok (c : Cx) (a0 : Act) (W : World) : Prop where
  b3 : a0.tmps[3]? = some (.pointer (some ⟨c.g253, 0, none⟩))
  b4 : a0.tmps[4]? = some (.pointer (some ⟨c.g254, 0, none⟩))
  b7 : a0.tmps[7]? = some (.slice c.Ao64 c.t256.length c.co64)
  b8 : a0.tmps[8]? = some (.int .i64 c.t259)
  b9 : a0.tmps[9]? = some (.slice c.Ao65 c.t260.length c.co65)
  b10 : a0.tmps[10]? = some (.int .i64 c.t263)
  b11 : a0.tmps[11]? = some (.pointer (some ⟨c.g270, 0, none⟩))
  b12 : a0.tmps[12]? = some (.int .i64 c.t268)
  b13 : a0.tmps[13]? = some (.int .i64 c.t269)
  b14 : a0.tmps[14]? = some (.pointer (some ⟨c.g277, 0, none⟩))
  b15 : a0.tmps[15]? = some (.int .i64 c.t275)
  b16 : a0.tmps[16]? = some (.int .i64 c.t276)
  b17 : a0.tmps[17]? = some (.slice c.Ao66 c.t278.length c.co66)
  b18 : a0.tmps[18]? = some (.int .i64 c.t279)
  b19 : a0.tmps[19]? = some (.int .i64 c.t280)
  b20 : a0.tmps[20]? = some (.slice c.Ao67 c.t283.length c.co67)
  b21 : a0.tmps[21]? = some (.int .i64 c.t284)
  b22 : a0.tmps[22]? = some (.int .i64 c.t285)
  g270 : W.heap[c.g270]? = some (.cells #[.int .u8 c.t264, .slice c.Ao54 c.t265.length c.co54] 56)
  g277 : W.heap[c.g277]? = some (.cells #[.int .u8 c.t271, .slice c.Ao61 c.t272.length c.co61] 60)
  g253 : W.heap[c.g253]? = some (.cells #[.int .u8 c.a0, .slice c.A0 c.l0.length c.c0] 56)
  g254 : W.heap[c.g254]? = some (.cells #[.int .u8 c.a1, .slice c.A1 c.l1.length c.c1] 56)
  vp : Kd.V (Kd.int .u8) 5 W 0 (fun _ => True) (.slice c.Ao64 c.t256.length c.co64) c.t256
  vq : Kd.V (Kd.int .u8) 5 W 0 (fun _ => True) (.slice c.Ao65 c.t260.length c.co65) c.t260
  vu : Kd.V (Kd.int .u8) 5 W 0 (fun _ => True) (.slice c.Ao54 c.t265.length c.co54) c.t265
  vv : Kd.V (Kd.int .u8) 5 W 0 (fun _ => True) (.slice c.Ao61 c.t272.length c.co61) c.t272
  vx : Kd.V (Kd.int .u8) 5 W 0 (fun _ => True) (.slice c.A0 c.l0.length c.c0) c.l0
  vy : Kd.V (Kd.int .u8) 5 W 0 (fun _ => True) (.slice c.A1 c.l1.length c.c1) c.l1
  vl : Kd.V k56 56 W 0 (fun _ => True) (.slice c.Ao66 c.t278.length c.co66) c.t278
  vk : Kd.V k60 60 W 0 (fun _ => True) (.slice c.Ao67 c.t283.length c.co67) c.t283
  A27 : tumbrelref01_Same.f c.kj c.t256 c.t260 = some true
  A30 : tumbrellaw04_own.f c.kj [⟨c.t264, c.t265⟩] = some c.t292
  A31 : tumbrelref04_Same.f c.kj c.t292 [⟨c.t271, c.t272⟩] = some true
  A35 : tumbrellaw04_own.f c.kj c.t278 = some c.t299
  A36 : tumbrelref04_Same.f c.kj c.t299 c.t283 = some true
  A40 : frame_Same.f c.a0 c.l0 c.a1 c.l1 = some c.t303
  A41 : tumbrellaw04_own.f c.kj [⟨c.a0, c.l0⟩] = some c.t307
  A42 : tumbrellaw04_own.f c.kj [⟨c.a1, c.l1⟩] = some c.t313
  A43 : tumbrelref04_Same.f c.kj c.t307 c.t313 = some c.t316
  e6 : c.t259 = c.t263
  e19 : c.t268 = c.t275
  e24 : c.t269 = c.t276
  e35 : c.t279 = c.t284
  e40 : c.t280 = c.t285
  e53 : c.t303 = c.t316
/-- What each operation leaves. -/
def Pst (c : Cx) (i : Nat) (v : Value) (w : World) : Prop := match i with
  | 0 => v = .slice c.Ao64 c.t256.length c.co64
  | 1 => v = .slice c.Ao65 c.t260.length c.co65
  | 4 => v = .int .i64 c.t259
  | 5 => v = .int .i64 c.t263
  | 9 => v = .agg #[.int .u8 c.t264, .slice c.Ao54 c.t265.length c.co54]
  | 10 => Kd.V k56 56 w 0 (fun _ => True) v ([⟨c.t264, c.t265⟩] : List S56)
  | 11 => Kd.V k60 60 w 0 (fun _ => True) v c.t292
  | 12 => v = .agg #[.int .u8 c.t271, .slice c.Ao61 c.t272.length c.co61]
  | 13 => Kd.V k60 60 w 0 (fun _ => True) v ([⟨c.t271, c.t272⟩] : List S60)
  | 17 => v = .int .i64 c.t268
  | 18 => v = .int .i64 c.t275
  | 22 => v = .int .i64 c.t269
  | 23 => v = .int .i64 c.t276
  | 27 => v = .slice c.Ao66 c.t278.length c.co66
  | 28 => Kd.V k60 60 w 0 (fun _ => True) v c.t299
  | 29 => v = .slice c.Ao67 c.t283.length c.co67
  | 33 => v = .int .i64 c.t279
  | 34 => v = .int .i64 c.t284
  | 38 => v = .int .i64 c.t280
  | 39 => v = .int .i64 c.t285
  | 43 => v = .agg #[.int .u8 c.a0, .slice c.A0 c.l0.length c.c0]
  | 44 => v = .agg #[.int .u8 c.a1, .slice c.A1 c.l1.length c.c1]
  | 45 => v = .bool c.t303
  | 46 => v = .agg #[.int .u8 c.a0, .slice c.A0 c.l0.length c.c0]
  | 47 => Kd.V k56 56 w 0 (fun _ => True) v ([⟨c.a0, c.l0⟩] : List S56)
  | 48 => Kd.V k60 60 w 0 (fun _ => True) v c.t307
  | 49 => v = .agg #[.int .u8 c.a1, .slice c.A1 c.l1.length c.c1]
  | 50 => Kd.V k56 56 w 0 (fun _ => True) v ([⟨c.a1, c.l1⟩] : List S56)
  | 51 => Kd.V k60 60 w 0 (fun _ => True) v c.t313
  | 52 => v = .bool c.t316
  | _ => v = .bool true
def dst (i : Nat) : Nat := if i = 55 then 6 else 74 + i
theorem dst_ne {t : Nat} (h : t < 74) (h6 : t ≠ 6) : ∀ n i, i < n → dst i ≠ t := fun n i _ => by unfold dst; split <;> omega
theorem eql_ {P : Program} {o : Oper} {a : Act} {w : World} {ty : TypeId} {x y : Operand} {m n : Int} (hop : o.op = .binOp .eql ty x y ty) (hx : a.eval x = .int .i64 m) (hy : a.eval y = .int .i64 n) (he : m = n) : (execOp a.eval o).run P w = .ok (.value (.bool true)) w := by
  subst he
  unfold execOp
  rw [hop]
  simp only [hx, hy]
  go_simp
theorem eqlb_ {o : Oper} {a : Act} {w : World} {x y : Operand} {m n : Bool} (hop : o.op = .binOp .eql 4 x y 4) (hx : a.eval x = .bool m) (hy : a.eval y = .bool n) (he : m = n) : (execOp a.eval o).run Try.prog w = .ok (.value (.bool true)) w := by
  subst he
  unfold execOp
  rw [hop]
  simp only [hx, hy]
  cases m <;> go_simp
theorem load_run {P : Program} {o : Oper} {a : Act} {w : World} {ty : TypeId} {x : Operand} {p v : Value} (hop : o.op = .load ty x) (hx : a.eval x = p) (h : (Instr.loadAt ty p).run P w = .ok v w) : (execOp a.eval o).run P w = .ok (.value v) w := by
  subst hx
  unfold execOp
  rw [hop]
  simp only []
  rw [Sem.run_bind, h]
  rfl
theorem bs_run {P : Program} {o : Oper} {a : Act} {w w' : World} {ty : TypeId} {x : Operand} {u v : Value} (hop : o.op = .buildSlice ty 1 #[(0, x)]) (hx : a.eval x = v) (h : (Instr.buildSlice ty 1 #[(0, v)]).run P w = .ok u w') : (execOp a.eval o).run P w = .ok (.value u) w' := by
  subst hx
  unfold execOp
  rw [hop]
  simp only [List.map_toArray, List.map_cons, List.map_nil]
  rw [Sem.run_bind, h]
  rfl
section
variable {Q : Exit → Act → World → Prop} {c : Cx} {a0 : Act} {W : World}
theorem loc0 (h : c.Ok a0 W) : Loc Try.prog .any (opsOf Try.f11 11) Q dst a0 W (Pst c) 0 := by
  intro o a w ho hb hk hn
  have e := Option.some.inj (ho.symm.trans (rfl : (opsOf Try.f11 11)[0]? = some _))
  have hop : o.op = Op.move (Operand.tmp 7) := by subst e; rfl
  have hd : o.dst = some (dst 0) := by subst e; rfl
  have hgd : o.guard = none := by subst e; rfl
  have h_7 := (hk 7 (dst_ne (by decide) (by decide) _)).trans h.b7
  exact ⟨(wanted_none hgd), value_ hd (move_ hop (ev h_7)) ⟨_, rfl, Below.refl _ _, rfl⟩⟩
theorem loc1 (h : c.Ok a0 W) : Loc Try.prog .any (opsOf Try.f11 11) Q dst a0 W (Pst c) 1 := by
  intro o a w ho hb hk hn
  have e := Option.some.inj (ho.symm.trans (rfl : (opsOf Try.f11 11)[1]? = some _))
  have hop : o.op = Op.move (Operand.tmp 9) := by subst e; rfl
  have hd : o.dst = some (dst 1) := by subst e; rfl
  have hgd : o.guard = none := by subst e; rfl
  have h_9 := (hk 9 (dst_ne (by decide) (by decide) _)).trans h.b9
  exact ⟨(wanted_none hgd), value_ hd (move_ hop (ev h_9)) ⟨_, rfl, Below.refl _ _, rfl⟩⟩
theorem loc2 (h : c.Ok a0 W) : Loc Try.prog .any (opsOf Try.f11 11) Q dst a0 W (Pst c) 2 := by
  intro o a w ho hb hk hn
  have e := Option.some.inj (ho.symm.trans (rfl : (opsOf Try.f11 11)[2]? = some _))
  have hop : o.op = Op.call { callee := Callee.value (Operand.func 27), args := #[Operand.tmp 74, Operand.tmp 75], argTypes := #[23, 23] } := by subst e; rfl
  have hd : o.dst = some (dst 2) := by subst e; rfl
  have hgd : o.guard = none := by subst e; rfl
  obtain ⟨v0, h0, p0⟩ := hn 0 (by subst e; decide)
  obtain rfl : v0 = .slice c.Ao64 c.t256.length c.co64 := p0
  obtain ⟨v1, h1, p1⟩ := hn 1 (by subst e; decide)
  obtain rfl : v1 = .slice c.Ao65 c.t260.length c.co65 := p1
  have hw : Region.wanted o (yielded (opsOf Try.f11 11) a.tmps) = true := (wanted_none hgd)
  have hs := goes_ (P := Try.prog) (Q := Q) (a := a) (w := w) (K := fun a' w' => ∃ v, a' = a.put (some (dst 2)) v ∧ Below w.heap.size w w' ∧ Pst c 2 v w') Try.func27 (by kernel_rfl) rfl (#[.slice c.Ao64 c.t256.length c.co64, .slice c.Ao65 c.t260.length c.co65] : Array Value) hw hd hop ?ha ?hc
  · rw [if_pos hw] at hs
    exact ⟨hw, hs⟩
  case ha =>
    have q0 : a.eval (.tmp 74) = _ := ev h0
    have q1 : a.eval (.tmp 75) = _ := ev h1
    simp only [List.map_toArray, List.map_cons, List.map_nil, q0, q1]
  case hc =>
    refine (tumbrelref01_Same.calls c.kj _ _ _ _ _ _ _ _ (Kd.V_reads' (Kd.V_below h.vp hb)).2.2 (Kd.V_reads' (Kd.V_below h.vp hb)).2.1 (Kd.V_reads' (Kd.V_below h.vq hb)).2.2 (Kd.V_reads' (Kd.V_below h.vq hb)).2.1 h.A27).mono ?_
    rintro e w' ⟨rfl, hd⟩
    exact ⟨_, rfl, _, rfl, hd.below, rfl⟩
theorem loc3 (h : c.Ok a0 W) : Loc Try.prog .any (opsOf Try.f11 11) Q dst a0 W (Pst c) 3 := by
  intro o a w ho hb hk hn
  have e := Option.some.inj (ho.symm.trans (rfl : (opsOf Try.f11 11)[3]? = some _))
  have hop : o.op = Op.move (Operand.tmp 76) := by subst e; rfl
  have hd : o.dst = some (dst 3) := by subst e; rfl
  have hgd : o.guard = none := by subst e; rfl
  obtain ⟨v2, h2, p2⟩ := hn 2 (by subst e; decide)
  obtain rfl : v2 = .bool true := p2
  exact ⟨(wanted_none hgd), value_ hd (move_ hop (ev h2)) ⟨_, rfl, Below.refl _ _, rfl⟩⟩
theorem loc4 (h : c.Ok a0 W) : Loc Try.prog .any (opsOf Try.f11 11) Q dst a0 W (Pst c) 4 := by
  intro o a w ho hb hk hn
  have e := Option.some.inj (ho.symm.trans (rfl : (opsOf Try.f11 11)[4]? = some _))
  have hop : o.op = Op.move (Operand.tmp 8) := by subst e; rfl
  have hd : o.dst = some (dst 4) := by subst e; rfl
  have hgd : o.guard = some (3, true) := by subst e; rfl
  obtain ⟨v3, h3, p3⟩ := hn 3 (by subst e; decide)
  obtain rfl : v3 = .bool true := p3
  have h_8 := (hk 8 (dst_ne (by decide) (by decide) _)).trans h.b8
  exact ⟨(wanted_some hgd rfl rfl h3), value_ hd (move_ hop (ev h_8)) ⟨_, rfl, Below.refl _ _, rfl⟩⟩
theorem loc5 (h : c.Ok a0 W) : Loc Try.prog .any (opsOf Try.f11 11) Q dst a0 W (Pst c) 5 := by
  intro o a w ho hb hk hn
  have e := Option.some.inj (ho.symm.trans (rfl : (opsOf Try.f11 11)[5]? = some _))
  have hop : o.op = Op.move (Operand.tmp 10) := by subst e; rfl
  have hd : o.dst = some (dst 5) := by subst e; rfl
  have hgd : o.guard = some (3, true) := by subst e; rfl
  obtain ⟨v3, h3, p3⟩ := hn 3 (by subst e; decide)
  obtain rfl : v3 = .bool true := p3
  have h_10 := (hk 10 (dst_ne (by decide) (by decide) _)).trans h.b10
  exact ⟨(wanted_some hgd rfl rfl h3), value_ hd (move_ hop (ev h_10)) ⟨_, rfl, Below.refl _ _, rfl⟩⟩
theorem loc6 (h : c.Ok a0 W) : Loc Try.prog .any (opsOf Try.f11 11) Q dst a0 W (Pst c) 6 := by
  intro o a w ho hb hk hn
  have e := Option.some.inj (ho.symm.trans (rfl : (opsOf Try.f11 11)[6]? = some _))
  have hop : o.op = Op.binOp BinOp.eql 26 (Operand.tmp 78) (Operand.tmp 79) 26 := by subst e; rfl
  have hd : o.dst = some (dst 6) := by subst e; rfl
  have hgd : o.guard = some (3, true) := by subst e; rfl
  obtain ⟨v3, h3, p3⟩ := hn 3 (by subst e; decide)
  obtain rfl : v3 = .bool true := p3
  obtain ⟨v4, h4, p4⟩ := hn 4 (by subst e; decide)
  obtain rfl : v4 = .int .i64 c.t259 := p4
  obtain ⟨v5, h5, p5⟩ := hn 5 (by subst e; decide)
  obtain rfl : v5 = .int .i64 c.t263 := p5
  exact ⟨(wanted_some hgd rfl rfl h3), value_ hd (eql_ hop (ev h4) (ev h5) h.e6) ⟨_, rfl, Below.refl _ _, rfl⟩⟩
theorem loc7 (h : c.Ok a0 W) : Loc Try.prog .any (opsOf Try.f11 11) Q dst a0 W (Pst c) 7 := by
  intro o a w ho hb hk hn
  have e := Option.some.inj (ho.symm.trans (rfl : (opsOf Try.f11 11)[7]? = some _))
  have hop : o.op = Op.pick (Operand.tmp 77) (Operand.tmp 80) (Operand.const (Value.bool false)) := by subst e; rfl
  have hd : o.dst = some (dst 7) := by subst e; rfl
  have hgd : o.guard = none := by subst e; rfl
  obtain ⟨v3, h3, p3⟩ := hn 3 (by subst e; decide)
  obtain rfl : v3 = .bool true := p3
  obtain ⟨v6, h6, p6⟩ := hn 6 (by subst e; decide)
  obtain rfl : v6 = .bool true := p6
  exact ⟨(wanted_none hgd), value_ hd (pick_ hop (ev h3) (ev h6)) ⟨_, rfl, Below.refl _ _, rfl⟩⟩
theorem loc8 (h : c.Ok a0 W) : Loc Try.prog .any (opsOf Try.f11 11) Q dst a0 W (Pst c) 8 := by
  intro o a w ho hb hk hn
  have e := Option.some.inj (ho.symm.trans (rfl : (opsOf Try.f11 11)[8]? = some _))
  have hop : o.op = Op.move (Operand.tmp 81) := by subst e; rfl
  have hd : o.dst = some (dst 8) := by subst e; rfl
  have hgd : o.guard = none := by subst e; rfl
  obtain ⟨v7, h7, p7⟩ := hn 7 (by subst e; decide)
  obtain rfl : v7 = .bool true := p7
  exact ⟨(wanted_none hgd), value_ hd (move_ hop (ev h7)) ⟨_, rfl, Below.refl _ _, rfl⟩⟩
theorem loc9 (h : c.Ok a0 W) : Loc Try.prog .any (opsOf Try.f11 11) Q dst a0 W (Pst c) 9 := by
  intro o a w ho hb hk hn
  have e := Option.some.inj (ho.symm.trans (rfl : (opsOf Try.f11 11)[9]? = some _))
  have hop : o.op = Op.load 56 (Operand.tmp 11) := by subst e; rfl
  have hd : o.dst = some (dst 9) := by subst e; rfl
  have hgd : o.guard = some (8, true) := by subst e; rfl
  obtain ⟨v8, h8, p8⟩ := hn 8 (by subst e; decide)
  obtain rfl : v8 = .bool true := p8
  have h_11 := (hk 11 (dst_ne (by decide) (by decide) _)).trans h.b11
  have hx := ev h_11
  have hu := Try.underlying56
  have hg := (hb.block _ (blk_lt h.g270)).trans h.g270
  have s0 := (blk_cell hg 0).trans rfl
  have s1 := (blk_cell hg 1).trans rfl
  refine ⟨(wanted_some hgd rfl rfl h8), value_ (v := .agg #[.int .u8 c.t264, .slice c.Ao54 c.t265.length c.co54]) hd (load_run hop hx ?_) ⟨_, rfl, Below.refl _ _, rfl⟩⟩
  clear hn hk ho e hop
  go_simp
  try with_reducible rfl
theorem loc10 (h : c.Ok a0 W) : Loc Try.prog .any (opsOf Try.f11 11) Q dst a0 W (Pst c) 10 := by
  intro o a w ho hb hk hn
  have e := Option.some.inj (ho.symm.trans (rfl : (opsOf Try.f11 11)[10]? = some _))
  have hop : o.op = Op.buildSlice 65 1 #[(0, Operand.tmp 83)] := by subst e; rfl
  have hd : o.dst = some (dst 10) := by subst e; rfl
  have hgd : o.guard = some (8, true) := by subst e; rfl
  obtain ⟨v8, h8, p8⟩ := hn 8 (by subst e; decide)
  obtain rfl : v8 = .bool true := p8
  obtain ⟨v9, h9, p9⟩ := hn 9 (by subst e; decide)
  obtain rfl : v9 = .agg #[.int .u8 c.t264, .slice c.Ao54 c.t265.length c.co54] := p9
  have hx := ev h9
  have hv := Kd.V_below h.vu hb
  have hu := Try.underlying65
  have hw : Region.wanted o (yielded (opsOf Try.f11 11) a.tmps) = true := (wanted_some hgd rfl rfl h8)
  have hs := Kd.N_lit_step (P := Try.prog) (Q := Q) (Kc := fun a' w' => ∃ v, a' = a.put (some (dst 10)) v ∧ Below w.heap.size w w' ∧ Pst c 10 v w') k56 (a := a) w.heap.size 56 hw (N' := dst 10) hd (w0 := w) (W := w) (xs := ([⟨c.t264, c.t265⟩] : List S56)) (inner := [.int .u8 c.t264, .slice c.Ao54 c.t265.length c.co54]) (ok := fun _ => True) (okp := fun _ => True) ?hr ?hp (fun _ _ => trivial) trivial (Below.refl _ _) (Nat.le_refl _) (by simp) ?hk
  · rw [if_pos hw] at hs
    exact ⟨hw, hs⟩
  case hr =>
    refine bs_run hop hx ?_
    clear hn hk ho e hop
    first | (go_simp; done) | (go_simp; rfl)
  case hp => exact Reps.c2 (show Kd.FK k56 _ _ _ [.int .u8 c.t264, .slice c.Ao54 c.t265.length c.co54] from k56_mkF _ _ _ (Kd.V_reads' hv).2.1 (Kd.V_F hv)) (Reps.none _ _)
  case hk => exact fun v1 w1 hN hb1 _ _ => ⟨v1, by rw [hd], hb1, Kd.N_V (base' := 0) hN⟩
theorem loc11 (h : c.Ok a0 W) : Loc Try.prog .any (opsOf Try.f11 11) Q dst a0 W (Pst c) 11 := by
  intro o a w ho hb hk hn
  have e := Option.some.inj (ho.symm.trans (rfl : (opsOf Try.f11 11)[11]? = some _))
  have hop : o.op = Op.call { callee := Callee.value (Operand.func 52), args := #[Operand.tmp 84], argTypes := #[65] } := by subst e; rfl
  have hd : o.dst = some (dst 11) := by subst e; rfl
  have hgd : o.guard = some (8, true) := by subst e; rfl
  obtain ⟨v8, h8, p8⟩ := hn 8 (by subst e; decide)
  obtain rfl : v8 = .bool true := p8
  obtain ⟨v10, h10, p10⟩ := hn 10 (by subst e; decide)
  replace p10 : Kd.V k56 56 w 0 (fun _ => True) v10 ([⟨c.t264, c.t265⟩] : List S56) := p10
  have hw : Region.wanted o (yielded (opsOf Try.f11 11) a.tmps) = true := (wanted_some hgd rfl rfl h8)
  obtain ⟨A_10, c_10, rfl⟩ := Kd.V_slice p10
  have hs := goes_ (P := Try.prog) (Q := Q) (a := a) (w := w) (K := fun a' w' => ∃ v, a' = a.put (some (dst 11)) v ∧ Below w.heap.size w w' ∧ Pst c 11 v w') Try.func52 (by kernel_rfl) rfl (#[.slice A_10 (([⟨c.t264, c.t265⟩] : List S56)).length c_10] : Array Value) hw hd hop ?ha ?hc
  · rw [if_pos hw] at hs
    exact ⟨hw, hs⟩
  case ha =>
    have q10 : a.eval (.tmp 84) = _ := ev h10
    simp only [List.map_toArray, List.map_cons, List.map_nil, q10]
  case hc =>
    refine (tumbrellaw04_own.calls c.kj (fun _ => True) _ _ _ _ _ p10 h.A30).mono ?_
    rintro e w' ⟨v0, rfl, hN, hd⟩
    exact ⟨_, rfl, _, rfl, hd, Kd.V_mono (Kd.N_V (base' := 0) hN) (fun _ _ => trivial)⟩
theorem loc12 (h : c.Ok a0 W) : Loc Try.prog .any (opsOf Try.f11 11) Q dst a0 W (Pst c) 12 := by
  intro o a w ho hb hk hn
  have e := Option.some.inj (ho.symm.trans (rfl : (opsOf Try.f11 11)[12]? = some _))
  have hop : o.op = Op.load 60 (Operand.tmp 14) := by subst e; rfl
  have hd : o.dst = some (dst 12) := by subst e; rfl
  have hgd : o.guard = some (8, true) := by subst e; rfl
  obtain ⟨v8, h8, p8⟩ := hn 8 (by subst e; decide)
  obtain rfl : v8 = .bool true := p8
  have h_14 := (hk 14 (dst_ne (by decide) (by decide) _)).trans h.b14
  have hx := ev h_14
  have hu := Try.underlying60
  have hg := (hb.block _ (blk_lt h.g277)).trans h.g277
  have s0 := (blk_cell hg 0).trans rfl
  have s1 := (blk_cell hg 1).trans rfl
  refine ⟨(wanted_some hgd rfl rfl h8), value_ (v := .agg #[.int .u8 c.t271, .slice c.Ao61 c.t272.length c.co61]) hd (load_run hop hx ?_) ⟨_, rfl, Below.refl _ _, rfl⟩⟩
  clear hn hk ho e hop
  go_simp
  try with_reducible rfl
theorem loc13 (h : c.Ok a0 W) : Loc Try.prog .any (opsOf Try.f11 11) Q dst a0 W (Pst c) 13 := by
  intro o a w ho hb hk hn
  have e := Option.some.inj (ho.symm.trans (rfl : (opsOf Try.f11 11)[13]? = some _))
  have hop : o.op = Op.buildSlice 68 1 #[(0, Operand.tmp 86)] := by subst e; rfl
  have hd : o.dst = some (dst 13) := by subst e; rfl
  have hgd : o.guard = some (8, true) := by subst e; rfl
  obtain ⟨v8, h8, p8⟩ := hn 8 (by subst e; decide)
  obtain rfl : v8 = .bool true := p8
  obtain ⟨v12, h12, p12⟩ := hn 12 (by subst e; decide)
  obtain rfl : v12 = .agg #[.int .u8 c.t271, .slice c.Ao61 c.t272.length c.co61] := p12
  have hx := ev h12
  have hv := Kd.V_below h.vv hb
  have hu := Try.underlying68
  have hw : Region.wanted o (yielded (opsOf Try.f11 11) a.tmps) = true := (wanted_some hgd rfl rfl h8)
  have hs := Kd.N_lit_step (P := Try.prog) (Q := Q) (Kc := fun a' w' => ∃ v, a' = a.put (some (dst 13)) v ∧ Below w.heap.size w w' ∧ Pst c 13 v w') k60 (a := a) w.heap.size 60 hw (N' := dst 13) hd (w0 := w) (W := w) (xs := ([⟨c.t271, c.t272⟩] : List S60)) (inner := [.int .u8 c.t271, .slice c.Ao61 c.t272.length c.co61]) (ok := fun _ => True) (okp := fun _ => True) ?hr ?hp (fun _ _ => trivial) trivial (Below.refl _ _) (Nat.le_refl _) (by simp) ?hk
  · rw [if_pos hw] at hs
    exact ⟨hw, hs⟩
  case hr =>
    refine bs_run hop hx ?_
    clear hn hk ho e hop
    first | (go_simp; done) | (go_simp; rfl)
  case hp => exact Reps.c2 (show Kd.FK k60 _ _ _ [.int .u8 c.t271, .slice c.Ao61 c.t272.length c.co61] from k60_mkF _ _ _ (Kd.V_reads' hv).2.1 (Kd.V_F hv)) (Reps.none _ _)
  case hk => exact fun v1 w1 hN hb1 _ _ => ⟨v1, by rw [hd], hb1, Kd.N_V (base' := 0) hN⟩
theorem loc14 (h : c.Ok a0 W) : Loc Try.prog .any (opsOf Try.f11 11) Q dst a0 W (Pst c) 14 := by
  intro o a w ho hb hk hn
  have e := Option.some.inj (ho.symm.trans (rfl : (opsOf Try.f11 11)[14]? = some _))
  have hop : o.op = Op.call { callee := Callee.value (Operand.func 51), args := #[Operand.tmp 85, Operand.tmp 87], argTypes := #[68, 68] } := by subst e; rfl
  have hd : o.dst = some (dst 14) := by subst e; rfl
  have hgd : o.guard = some (8, true) := by subst e; rfl
  obtain ⟨v8, h8, p8⟩ := hn 8 (by subst e; decide)
  obtain rfl : v8 = .bool true := p8
  obtain ⟨v11, h11, p11⟩ := hn 11 (by subst e; decide)
  replace p11 : Kd.V k60 60 w 0 (fun _ => True) v11 c.t292 := p11
  obtain ⟨v13, h13, p13⟩ := hn 13 (by subst e; decide)
  replace p13 : Kd.V k60 60 w 0 (fun _ => True) v13 ([⟨c.t271, c.t272⟩] : List S60) := p13
  have hw : Region.wanted o (yielded (opsOf Try.f11 11) a.tmps) = true := (wanted_some hgd rfl rfl h8)
  obtain ⟨A_11, c_11, rfl⟩ := Kd.V_slice p11
  obtain ⟨A_13, c_13, rfl⟩ := Kd.V_slice p13
  have hs := goes_ (P := Try.prog) (Q := Q) (a := a) (w := w) (K := fun a' w' => ∃ v, a' = a.put (some (dst 14)) v ∧ Below w.heap.size w w' ∧ Pst c 14 v w') Try.func51 (by kernel_rfl) rfl (#[.slice A_11 (c.t292).length c_11, .slice A_13 (([⟨c.t271, c.t272⟩] : List S60)).length c_13] : Array Value) hw hd hop ?ha ?hc
  · rw [if_pos hw] at hs
    exact ⟨hw, hs⟩
  case ha =>
    have q11 : a.eval (.tmp 85) = _ := ev h11
    have q13 : a.eval (.tmp 87) = _ := ev h13
    simp only [List.map_toArray, List.map_cons, List.map_nil, q11, q13]
  case hc =>
    refine (tumbrelref04_Same.calls c.kj _ _ _ _ _ _ _ _ (Kd.V_reads' p11).2.2 (Kd.V_reads' p11).2.1 (Kd.V_reads' p13).2.2 (Kd.V_reads' p13).2.1 h.A31).mono ?_
    rintro e w' ⟨rfl, hd⟩
    exact ⟨_, rfl, _, rfl, hd.below, rfl⟩
theorem loc15 (h : c.Ok a0 W) : Loc Try.prog .any (opsOf Try.f11 11) Q dst a0 W (Pst c) 15 := by
  intro o a w ho hb hk hn
  have e := Option.some.inj (ho.symm.trans (rfl : (opsOf Try.f11 11)[15]? = some _))
  have hop : o.op = Op.pick (Operand.tmp 82) (Operand.tmp 88) (Operand.const (Value.bool false)) := by subst e; rfl
  have hd : o.dst = some (dst 15) := by subst e; rfl
  have hgd : o.guard = none := by subst e; rfl
  obtain ⟨v8, h8, p8⟩ := hn 8 (by subst e; decide)
  obtain rfl : v8 = .bool true := p8
  obtain ⟨v14, h14, p14⟩ := hn 14 (by subst e; decide)
  obtain rfl : v14 = .bool true := p14
  exact ⟨(wanted_none hgd), value_ hd (pick_ hop (ev h8) (ev h14)) ⟨_, rfl, Below.refl _ _, rfl⟩⟩
theorem loc16 (h : c.Ok a0 W) : Loc Try.prog .any (opsOf Try.f11 11) Q dst a0 W (Pst c) 16 := by
  intro o a w ho hb hk hn
  have e := Option.some.inj (ho.symm.trans (rfl : (opsOf Try.f11 11)[16]? = some _))
  have hop : o.op = Op.move (Operand.tmp 89) := by subst e; rfl
  have hd : o.dst = some (dst 16) := by subst e; rfl
  have hgd : o.guard = none := by subst e; rfl
  obtain ⟨v15, h15, p15⟩ := hn 15 (by subst e; decide)
  obtain rfl : v15 = .bool true := p15
  exact ⟨(wanted_none hgd), value_ hd (move_ hop (ev h15)) ⟨_, rfl, Below.refl _ _, rfl⟩⟩
theorem loc17 (h : c.Ok a0 W) : Loc Try.prog .any (opsOf Try.f11 11) Q dst a0 W (Pst c) 17 := by
  intro o a w ho hb hk hn
  have e := Option.some.inj (ho.symm.trans (rfl : (opsOf Try.f11 11)[17]? = some _))
  have hop : o.op = Op.move (Operand.tmp 12) := by subst e; rfl
  have hd : o.dst = some (dst 17) := by subst e; rfl
  have hgd : o.guard = some (16, true) := by subst e; rfl
  obtain ⟨v16, h16, p16⟩ := hn 16 (by subst e; decide)
  obtain rfl : v16 = .bool true := p16
  have h_12 := (hk 12 (dst_ne (by decide) (by decide) _)).trans h.b12
  exact ⟨(wanted_some hgd rfl rfl h16), value_ hd (move_ hop (ev h_12)) ⟨_, rfl, Below.refl _ _, rfl⟩⟩
theorem loc18 (h : c.Ok a0 W) : Loc Try.prog .any (opsOf Try.f11 11) Q dst a0 W (Pst c) 18 := by
  intro o a w ho hb hk hn
  have e := Option.some.inj (ho.symm.trans (rfl : (opsOf Try.f11 11)[18]? = some _))
  have hop : o.op = Op.move (Operand.tmp 15) := by subst e; rfl
  have hd : o.dst = some (dst 18) := by subst e; rfl
  have hgd : o.guard = some (16, true) := by subst e; rfl
  obtain ⟨v16, h16, p16⟩ := hn 16 (by subst e; decide)
  obtain rfl : v16 = .bool true := p16
  have h_15 := (hk 15 (dst_ne (by decide) (by decide) _)).trans h.b15
  exact ⟨(wanted_some hgd rfl rfl h16), value_ hd (move_ hop (ev h_15)) ⟨_, rfl, Below.refl _ _, rfl⟩⟩
theorem loc19 (h : c.Ok a0 W) : Loc Try.prog .any (opsOf Try.f11 11) Q dst a0 W (Pst c) 19 := by
  intro o a w ho hb hk hn
  have e := Option.some.inj (ho.symm.trans (rfl : (opsOf Try.f11 11)[19]? = some _))
  have hop : o.op = Op.binOp BinOp.eql 3 (Operand.tmp 91) (Operand.tmp 92) 3 := by subst e; rfl
  have hd : o.dst = some (dst 19) := by subst e; rfl
  have hgd : o.guard = some (16, true) := by subst e; rfl
  obtain ⟨v16, h16, p16⟩ := hn 16 (by subst e; decide)
  obtain rfl : v16 = .bool true := p16
  obtain ⟨v17, h17, p17⟩ := hn 17 (by subst e; decide)
  obtain rfl : v17 = .int .i64 c.t268 := p17
  obtain ⟨v18, h18, p18⟩ := hn 18 (by subst e; decide)
  obtain rfl : v18 = .int .i64 c.t275 := p18
  exact ⟨(wanted_some hgd rfl rfl h16), value_ hd (eql_ hop (ev h17) (ev h18) h.e19) ⟨_, rfl, Below.refl _ _, rfl⟩⟩
theorem loc20 (h : c.Ok a0 W) : Loc Try.prog .any (opsOf Try.f11 11) Q dst a0 W (Pst c) 20 := by
  intro o a w ho hb hk hn
  have e := Option.some.inj (ho.symm.trans (rfl : (opsOf Try.f11 11)[20]? = some _))
  have hop : o.op = Op.pick (Operand.tmp 90) (Operand.tmp 93) (Operand.const (Value.bool false)) := by subst e; rfl
  have hd : o.dst = some (dst 20) := by subst e; rfl
  have hgd : o.guard = none := by subst e; rfl
  obtain ⟨v16, h16, p16⟩ := hn 16 (by subst e; decide)
  obtain rfl : v16 = .bool true := p16
  obtain ⟨v19, h19, p19⟩ := hn 19 (by subst e; decide)
  obtain rfl : v19 = .bool true := p19
  exact ⟨(wanted_none hgd), value_ hd (pick_ hop (ev h16) (ev h19)) ⟨_, rfl, Below.refl _ _, rfl⟩⟩
theorem loc21 (h : c.Ok a0 W) : Loc Try.prog .any (opsOf Try.f11 11) Q dst a0 W (Pst c) 21 := by
  intro o a w ho hb hk hn
  have e := Option.some.inj (ho.symm.trans (rfl : (opsOf Try.f11 11)[21]? = some _))
  have hop : o.op = Op.move (Operand.tmp 94) := by subst e; rfl
  have hd : o.dst = some (dst 21) := by subst e; rfl
  have hgd : o.guard = none := by subst e; rfl
  obtain ⟨v20, h20, p20⟩ := hn 20 (by subst e; decide)
  obtain rfl : v20 = .bool true := p20
  exact ⟨(wanted_none hgd), value_ hd (move_ hop (ev h20)) ⟨_, rfl, Below.refl _ _, rfl⟩⟩
theorem loc22 (h : c.Ok a0 W) : Loc Try.prog .any (opsOf Try.f11 11) Q dst a0 W (Pst c) 22 := by
  intro o a w ho hb hk hn
  have e := Option.some.inj (ho.symm.trans (rfl : (opsOf Try.f11 11)[22]? = some _))
  have hop : o.op = Op.move (Operand.tmp 13) := by subst e; rfl
  have hd : o.dst = some (dst 22) := by subst e; rfl
  have hgd : o.guard = some (21, true) := by subst e; rfl
  obtain ⟨v21, h21, p21⟩ := hn 21 (by subst e; decide)
  obtain rfl : v21 = .bool true := p21
  have h_13 := (hk 13 (dst_ne (by decide) (by decide) _)).trans h.b13
  exact ⟨(wanted_some hgd rfl rfl h21), value_ hd (move_ hop (ev h_13)) ⟨_, rfl, Below.refl _ _, rfl⟩⟩
theorem loc23 (h : c.Ok a0 W) : Loc Try.prog .any (opsOf Try.f11 11) Q dst a0 W (Pst c) 23 := by
  intro o a w ho hb hk hn
  have e := Option.some.inj (ho.symm.trans (rfl : (opsOf Try.f11 11)[23]? = some _))
  have hop : o.op = Op.move (Operand.tmp 16) := by subst e; rfl
  have hd : o.dst = some (dst 23) := by subst e; rfl
  have hgd : o.guard = some (21, true) := by subst e; rfl
  obtain ⟨v21, h21, p21⟩ := hn 21 (by subst e; decide)
  obtain rfl : v21 = .bool true := p21
  have h_16 := (hk 16 (dst_ne (by decide) (by decide) _)).trans h.b16
  exact ⟨(wanted_some hgd rfl rfl h21), value_ hd (move_ hop (ev h_16)) ⟨_, rfl, Below.refl _ _, rfl⟩⟩
theorem loc24 (h : c.Ok a0 W) : Loc Try.prog .any (opsOf Try.f11 11) Q dst a0 W (Pst c) 24 := by
  intro o a w ho hb hk hn
  have e := Option.some.inj (ho.symm.trans (rfl : (opsOf Try.f11 11)[24]? = some _))
  have hop : o.op = Op.binOp BinOp.eql 26 (Operand.tmp 96) (Operand.tmp 97) 26 := by subst e; rfl
  have hd : o.dst = some (dst 24) := by subst e; rfl
  have hgd : o.guard = some (21, true) := by subst e; rfl
  obtain ⟨v21, h21, p21⟩ := hn 21 (by subst e; decide)
  obtain rfl : v21 = .bool true := p21
  obtain ⟨v22, h22, p22⟩ := hn 22 (by subst e; decide)
  obtain rfl : v22 = .int .i64 c.t269 := p22
  obtain ⟨v23, h23, p23⟩ := hn 23 (by subst e; decide)
  obtain rfl : v23 = .int .i64 c.t276 := p23
  exact ⟨(wanted_some hgd rfl rfl h21), value_ hd (eql_ hop (ev h22) (ev h23) h.e24) ⟨_, rfl, Below.refl _ _, rfl⟩⟩
theorem loc25 (h : c.Ok a0 W) : Loc Try.prog .any (opsOf Try.f11 11) Q dst a0 W (Pst c) 25 := by
  intro o a w ho hb hk hn
  have e := Option.some.inj (ho.symm.trans (rfl : (opsOf Try.f11 11)[25]? = some _))
  have hop : o.op = Op.pick (Operand.tmp 95) (Operand.tmp 98) (Operand.const (Value.bool false)) := by subst e; rfl
  have hd : o.dst = some (dst 25) := by subst e; rfl
  have hgd : o.guard = none := by subst e; rfl
  obtain ⟨v21, h21, p21⟩ := hn 21 (by subst e; decide)
  obtain rfl : v21 = .bool true := p21
  obtain ⟨v24, h24, p24⟩ := hn 24 (by subst e; decide)
  obtain rfl : v24 = .bool true := p24
  exact ⟨(wanted_none hgd), value_ hd (pick_ hop (ev h21) (ev h24)) ⟨_, rfl, Below.refl _ _, rfl⟩⟩
theorem loc26 (h : c.Ok a0 W) : Loc Try.prog .any (opsOf Try.f11 11) Q dst a0 W (Pst c) 26 := by
  intro o a w ho hb hk hn
  have e := Option.some.inj (ho.symm.trans (rfl : (opsOf Try.f11 11)[26]? = some _))
  have hop : o.op = Op.move (Operand.tmp 99) := by subst e; rfl
  have hd : o.dst = some (dst 26) := by subst e; rfl
  have hgd : o.guard = none := by subst e; rfl
  obtain ⟨v25, h25, p25⟩ := hn 25 (by subst e; decide)
  obtain rfl : v25 = .bool true := p25
  exact ⟨(wanted_none hgd), value_ hd (move_ hop (ev h25)) ⟨_, rfl, Below.refl _ _, rfl⟩⟩
theorem loc27 (h : c.Ok a0 W) : Loc Try.prog .any (opsOf Try.f11 11) Q dst a0 W (Pst c) 27 := by
  intro o a w ho hb hk hn
  have e := Option.some.inj (ho.symm.trans (rfl : (opsOf Try.f11 11)[27]? = some _))
  have hop : o.op = Op.move (Operand.tmp 17) := by subst e; rfl
  have hd : o.dst = some (dst 27) := by subst e; rfl
  have hgd : o.guard = some (26, true) := by subst e; rfl
  obtain ⟨v26, h26, p26⟩ := hn 26 (by subst e; decide)
  obtain rfl : v26 = .bool true := p26
  have h_17 := (hk 17 (dst_ne (by decide) (by decide) _)).trans h.b17
  exact ⟨(wanted_some hgd rfl rfl h26), value_ hd (move_ hop (ev h_17)) ⟨_, rfl, Below.refl _ _, rfl⟩⟩
theorem loc28 (h : c.Ok a0 W) : Loc Try.prog .any (opsOf Try.f11 11) Q dst a0 W (Pst c) 28 := by
  intro o a w ho hb hk hn
  have e := Option.some.inj (ho.symm.trans (rfl : (opsOf Try.f11 11)[28]? = some _))
  have hop : o.op = Op.call { callee := Callee.value (Operand.func 52), args := #[Operand.tmp 101], argTypes := #[65] } := by subst e; rfl
  have hd : o.dst = some (dst 28) := by subst e; rfl
  have hgd : o.guard = some (26, true) := by subst e; rfl
  obtain ⟨v26, h26, p26⟩ := hn 26 (by subst e; decide)
  obtain rfl : v26 = .bool true := p26
  obtain ⟨v27, h27, p27⟩ := hn 27 (by subst e; decide)
  obtain rfl : v27 = .slice c.Ao66 c.t278.length c.co66 := p27
  have hw : Region.wanted o (yielded (opsOf Try.f11 11) a.tmps) = true := (wanted_some hgd rfl rfl h26)
  have hs := goes_ (P := Try.prog) (Q := Q) (a := a) (w := w) (K := fun a' w' => ∃ v, a' = a.put (some (dst 28)) v ∧ Below w.heap.size w w' ∧ Pst c 28 v w') Try.func52 (by kernel_rfl) rfl (#[.slice c.Ao66 c.t278.length c.co66] : Array Value) hw hd hop ?ha ?hc
  · rw [if_pos hw] at hs
    exact ⟨hw, hs⟩
  case ha =>
    have q27 : a.eval (.tmp 101) = _ := ev h27
    simp only [List.map_toArray, List.map_cons, List.map_nil, q27]
  case hc =>
    refine (tumbrellaw04_own.calls c.kj (fun _ => True) _ _ _ _ _ (Kd.V_below h.vl hb) h.A35).mono ?_
    rintro e w' ⟨v0, rfl, hN, hd⟩
    exact ⟨_, rfl, _, rfl, hd, Kd.V_mono (Kd.N_V (base' := 0) hN) (fun _ _ => trivial)⟩
theorem loc29 (h : c.Ok a0 W) : Loc Try.prog .any (opsOf Try.f11 11) Q dst a0 W (Pst c) 29 := by
  intro o a w ho hb hk hn
  have e := Option.some.inj (ho.symm.trans (rfl : (opsOf Try.f11 11)[29]? = some _))
  have hop : o.op = Op.move (Operand.tmp 20) := by subst e; rfl
  have hd : o.dst = some (dst 29) := by subst e; rfl
  have hgd : o.guard = some (26, true) := by subst e; rfl
  obtain ⟨v26, h26, p26⟩ := hn 26 (by subst e; decide)
  obtain rfl : v26 = .bool true := p26
  have h_20 := (hk 20 (dst_ne (by decide) (by decide) _)).trans h.b20
  exact ⟨(wanted_some hgd rfl rfl h26), value_ hd (move_ hop (ev h_20)) ⟨_, rfl, Below.refl _ _, rfl⟩⟩
theorem loc30 (h : c.Ok a0 W) : Loc Try.prog .any (opsOf Try.f11 11) Q dst a0 W (Pst c) 30 := by
  intro o a w ho hb hk hn
  have e := Option.some.inj (ho.symm.trans (rfl : (opsOf Try.f11 11)[30]? = some _))
  have hop : o.op = Op.call { callee := Callee.value (Operand.func 51), args := #[Operand.tmp 102, Operand.tmp 103], argTypes := #[68, 68] } := by subst e; rfl
  have hd : o.dst = some (dst 30) := by subst e; rfl
  have hgd : o.guard = some (26, true) := by subst e; rfl
  obtain ⟨v26, h26, p26⟩ := hn 26 (by subst e; decide)
  obtain rfl : v26 = .bool true := p26
  obtain ⟨v28, h28, p28⟩ := hn 28 (by subst e; decide)
  replace p28 : Kd.V k60 60 w 0 (fun _ => True) v28 c.t299 := p28
  obtain ⟨v29, h29, p29⟩ := hn 29 (by subst e; decide)
  obtain rfl : v29 = .slice c.Ao67 c.t283.length c.co67 := p29
  have hw : Region.wanted o (yielded (opsOf Try.f11 11) a.tmps) = true := (wanted_some hgd rfl rfl h26)
  obtain ⟨A_28, c_28, rfl⟩ := Kd.V_slice p28
  have hs := goes_ (P := Try.prog) (Q := Q) (a := a) (w := w) (K := fun a' w' => ∃ v, a' = a.put (some (dst 30)) v ∧ Below w.heap.size w w' ∧ Pst c 30 v w') Try.func51 (by kernel_rfl) rfl (#[.slice A_28 (c.t299).length c_28, .slice c.Ao67 c.t283.length c.co67] : Array Value) hw hd hop ?ha ?hc
  · rw [if_pos hw] at hs
    exact ⟨hw, hs⟩
  case ha =>
    have q28 : a.eval (.tmp 102) = _ := ev h28
    have q29 : a.eval (.tmp 103) = _ := ev h29
    simp only [List.map_toArray, List.map_cons, List.map_nil, q28, q29]
  case hc =>
    refine (tumbrelref04_Same.calls c.kj _ _ _ _ _ _ _ _ (Kd.V_reads' p28).2.2 (Kd.V_reads' p28).2.1 (Kd.V_reads' (Kd.V_below h.vk hb)).2.2 (Kd.V_reads' (Kd.V_below h.vk hb)).2.1 h.A36).mono ?_
    rintro e w' ⟨rfl, hd⟩
    exact ⟨_, rfl, _, rfl, hd.below, rfl⟩
theorem loc31 (h : c.Ok a0 W) : Loc Try.prog .any (opsOf Try.f11 11) Q dst a0 W (Pst c) 31 := by
  intro o a w ho hb hk hn
  have e := Option.some.inj (ho.symm.trans (rfl : (opsOf Try.f11 11)[31]? = some _))
  have hop : o.op = Op.pick (Operand.tmp 100) (Operand.tmp 104) (Operand.const (Value.bool false)) := by subst e; rfl
  have hd : o.dst = some (dst 31) := by subst e; rfl
  have hgd : o.guard = none := by subst e; rfl
  obtain ⟨v26, h26, p26⟩ := hn 26 (by subst e; decide)
  obtain rfl : v26 = .bool true := p26
  obtain ⟨v30, h30, p30⟩ := hn 30 (by subst e; decide)
  obtain rfl : v30 = .bool true := p30
  exact ⟨(wanted_none hgd), value_ hd (pick_ hop (ev h26) (ev h30)) ⟨_, rfl, Below.refl _ _, rfl⟩⟩
theorem loc32 (h : c.Ok a0 W) : Loc Try.prog .any (opsOf Try.f11 11) Q dst a0 W (Pst c) 32 := by
  intro o a w ho hb hk hn
  have e := Option.some.inj (ho.symm.trans (rfl : (opsOf Try.f11 11)[32]? = some _))
  have hop : o.op = Op.move (Operand.tmp 105) := by subst e; rfl
  have hd : o.dst = some (dst 32) := by subst e; rfl
  have hgd : o.guard = none := by subst e; rfl
  obtain ⟨v31, h31, p31⟩ := hn 31 (by subst e; decide)
  obtain rfl : v31 = .bool true := p31
  exact ⟨(wanted_none hgd), value_ hd (move_ hop (ev h31)) ⟨_, rfl, Below.refl _ _, rfl⟩⟩
theorem loc33 (h : c.Ok a0 W) : Loc Try.prog .any (opsOf Try.f11 11) Q dst a0 W (Pst c) 33 := by
  intro o a w ho hb hk hn
  have e := Option.some.inj (ho.symm.trans (rfl : (opsOf Try.f11 11)[33]? = some _))
  have hop : o.op = Op.move (Operand.tmp 18) := by subst e; rfl
  have hd : o.dst = some (dst 33) := by subst e; rfl
  have hgd : o.guard = some (32, true) := by subst e; rfl
  obtain ⟨v32, h32, p32⟩ := hn 32 (by subst e; decide)
  obtain rfl : v32 = .bool true := p32
  have h_18 := (hk 18 (dst_ne (by decide) (by decide) _)).trans h.b18
  exact ⟨(wanted_some hgd rfl rfl h32), value_ hd (move_ hop (ev h_18)) ⟨_, rfl, Below.refl _ _, rfl⟩⟩
theorem loc34 (h : c.Ok a0 W) : Loc Try.prog .any (opsOf Try.f11 11) Q dst a0 W (Pst c) 34 := by
  intro o a w ho hb hk hn
  have e := Option.some.inj (ho.symm.trans (rfl : (opsOf Try.f11 11)[34]? = some _))
  have hop : o.op = Op.move (Operand.tmp 21) := by subst e; rfl
  have hd : o.dst = some (dst 34) := by subst e; rfl
  have hgd : o.guard = some (32, true) := by subst e; rfl
  obtain ⟨v32, h32, p32⟩ := hn 32 (by subst e; decide)
  obtain rfl : v32 = .bool true := p32
  have h_21 := (hk 21 (dst_ne (by decide) (by decide) _)).trans h.b21
  exact ⟨(wanted_some hgd rfl rfl h32), value_ hd (move_ hop (ev h_21)) ⟨_, rfl, Below.refl _ _, rfl⟩⟩
theorem loc35 (h : c.Ok a0 W) : Loc Try.prog .any (opsOf Try.f11 11) Q dst a0 W (Pst c) 35 := by
  intro o a w ho hb hk hn
  have e := Option.some.inj (ho.symm.trans (rfl : (opsOf Try.f11 11)[35]? = some _))
  have hop : o.op = Op.binOp BinOp.eql 3 (Operand.tmp 107) (Operand.tmp 108) 3 := by subst e; rfl
  have hd : o.dst = some (dst 35) := by subst e; rfl
  have hgd : o.guard = some (32, true) := by subst e; rfl
  obtain ⟨v32, h32, p32⟩ := hn 32 (by subst e; decide)
  obtain rfl : v32 = .bool true := p32
  obtain ⟨v33, h33, p33⟩ := hn 33 (by subst e; decide)
  obtain rfl : v33 = .int .i64 c.t279 := p33
  obtain ⟨v34, h34, p34⟩ := hn 34 (by subst e; decide)
  obtain rfl : v34 = .int .i64 c.t284 := p34
  exact ⟨(wanted_some hgd rfl rfl h32), value_ hd (eql_ hop (ev h33) (ev h34) h.e35) ⟨_, rfl, Below.refl _ _, rfl⟩⟩
theorem loc36 (h : c.Ok a0 W) : Loc Try.prog .any (opsOf Try.f11 11) Q dst a0 W (Pst c) 36 := by
  intro o a w ho hb hk hn
  have e := Option.some.inj (ho.symm.trans (rfl : (opsOf Try.f11 11)[36]? = some _))
  have hop : o.op = Op.pick (Operand.tmp 106) (Operand.tmp 109) (Operand.const (Value.bool false)) := by subst e; rfl
  have hd : o.dst = some (dst 36) := by subst e; rfl
  have hgd : o.guard = none := by subst e; rfl
  obtain ⟨v32, h32, p32⟩ := hn 32 (by subst e; decide)
  obtain rfl : v32 = .bool true := p32
  obtain ⟨v35, h35, p35⟩ := hn 35 (by subst e; decide)
  obtain rfl : v35 = .bool true := p35
  exact ⟨(wanted_none hgd), value_ hd (pick_ hop (ev h32) (ev h35)) ⟨_, rfl, Below.refl _ _, rfl⟩⟩
theorem loc37 (h : c.Ok a0 W) : Loc Try.prog .any (opsOf Try.f11 11) Q dst a0 W (Pst c) 37 := by
  intro o a w ho hb hk hn
  have e := Option.some.inj (ho.symm.trans (rfl : (opsOf Try.f11 11)[37]? = some _))
  have hop : o.op = Op.move (Operand.tmp 110) := by subst e; rfl
  have hd : o.dst = some (dst 37) := by subst e; rfl
  have hgd : o.guard = none := by subst e; rfl
  obtain ⟨v36, h36, p36⟩ := hn 36 (by subst e; decide)
  obtain rfl : v36 = .bool true := p36
  exact ⟨(wanted_none hgd), value_ hd (move_ hop (ev h36)) ⟨_, rfl, Below.refl _ _, rfl⟩⟩
theorem loc38 (h : c.Ok a0 W) : Loc Try.prog .any (opsOf Try.f11 11) Q dst a0 W (Pst c) 38 := by
  intro o a w ho hb hk hn
  have e := Option.some.inj (ho.symm.trans (rfl : (opsOf Try.f11 11)[38]? = some _))
  have hop : o.op = Op.move (Operand.tmp 19) := by subst e; rfl
  have hd : o.dst = some (dst 38) := by subst e; rfl
  have hgd : o.guard = some (37, true) := by subst e; rfl
  obtain ⟨v37, h37, p37⟩ := hn 37 (by subst e; decide)
  obtain rfl : v37 = .bool true := p37
  have h_19 := (hk 19 (dst_ne (by decide) (by decide) _)).trans h.b19
  exact ⟨(wanted_some hgd rfl rfl h37), value_ hd (move_ hop (ev h_19)) ⟨_, rfl, Below.refl _ _, rfl⟩⟩
theorem loc39 (h : c.Ok a0 W) : Loc Try.prog .any (opsOf Try.f11 11) Q dst a0 W (Pst c) 39 := by
  intro o a w ho hb hk hn
  have e := Option.some.inj (ho.symm.trans (rfl : (opsOf Try.f11 11)[39]? = some _))
  have hop : o.op = Op.move (Operand.tmp 22) := by subst e; rfl
  have hd : o.dst = some (dst 39) := by subst e; rfl
  have hgd : o.guard = some (37, true) := by subst e; rfl
  obtain ⟨v37, h37, p37⟩ := hn 37 (by subst e; decide)
  obtain rfl : v37 = .bool true := p37
  have h_22 := (hk 22 (dst_ne (by decide) (by decide) _)).trans h.b22
  exact ⟨(wanted_some hgd rfl rfl h37), value_ hd (move_ hop (ev h_22)) ⟨_, rfl, Below.refl _ _, rfl⟩⟩
theorem loc40 (h : c.Ok a0 W) : Loc Try.prog .any (opsOf Try.f11 11) Q dst a0 W (Pst c) 40 := by
  intro o a w ho hb hk hn
  have e := Option.some.inj (ho.symm.trans (rfl : (opsOf Try.f11 11)[40]? = some _))
  have hop : o.op = Op.binOp BinOp.eql 26 (Operand.tmp 112) (Operand.tmp 113) 26 := by subst e; rfl
  have hd : o.dst = some (dst 40) := by subst e; rfl
  have hgd : o.guard = some (37, true) := by subst e; rfl
  obtain ⟨v37, h37, p37⟩ := hn 37 (by subst e; decide)
  obtain rfl : v37 = .bool true := p37
  obtain ⟨v38, h38, p38⟩ := hn 38 (by subst e; decide)
  obtain rfl : v38 = .int .i64 c.t280 := p38
  obtain ⟨v39, h39, p39⟩ := hn 39 (by subst e; decide)
  obtain rfl : v39 = .int .i64 c.t285 := p39
  exact ⟨(wanted_some hgd rfl rfl h37), value_ hd (eql_ hop (ev h38) (ev h39) h.e40) ⟨_, rfl, Below.refl _ _, rfl⟩⟩
theorem loc41 (h : c.Ok a0 W) : Loc Try.prog .any (opsOf Try.f11 11) Q dst a0 W (Pst c) 41 := by
  intro o a w ho hb hk hn
  have e := Option.some.inj (ho.symm.trans (rfl : (opsOf Try.f11 11)[41]? = some _))
  have hop : o.op = Op.pick (Operand.tmp 111) (Operand.tmp 114) (Operand.const (Value.bool false)) := by subst e; rfl
  have hd : o.dst = some (dst 41) := by subst e; rfl
  have hgd : o.guard = none := by subst e; rfl
  obtain ⟨v37, h37, p37⟩ := hn 37 (by subst e; decide)
  obtain rfl : v37 = .bool true := p37
  obtain ⟨v40, h40, p40⟩ := hn 40 (by subst e; decide)
  obtain rfl : v40 = .bool true := p40
  exact ⟨(wanted_none hgd), value_ hd (pick_ hop (ev h37) (ev h40)) ⟨_, rfl, Below.refl _ _, rfl⟩⟩
theorem loc42 (h : c.Ok a0 W) : Loc Try.prog .any (opsOf Try.f11 11) Q dst a0 W (Pst c) 42 := by
  intro o a w ho hb hk hn
  have e := Option.some.inj (ho.symm.trans (rfl : (opsOf Try.f11 11)[42]? = some _))
  have hop : o.op = Op.move (Operand.tmp 115) := by subst e; rfl
  have hd : o.dst = some (dst 42) := by subst e; rfl
  have hgd : o.guard = none := by subst e; rfl
  obtain ⟨v41, h41, p41⟩ := hn 41 (by subst e; decide)
  obtain rfl : v41 = .bool true := p41
  exact ⟨(wanted_none hgd), value_ hd (move_ hop (ev h41)) ⟨_, rfl, Below.refl _ _, rfl⟩⟩
theorem loc43 (h : c.Ok a0 W) : Loc Try.prog .any (opsOf Try.f11 11) Q dst a0 W (Pst c) 43 := by
  intro o a w ho hb hk hn
  have e := Option.some.inj (ho.symm.trans (rfl : (opsOf Try.f11 11)[43]? = some _))
  have hop : o.op = Op.load 56 (Operand.tmp 3) := by subst e; rfl
  have hd : o.dst = some (dst 43) := by subst e; rfl
  have hgd : o.guard = some (42, true) := by subst e; rfl
  obtain ⟨v42, h42, p42⟩ := hn 42 (by subst e; decide)
  obtain rfl : v42 = .bool true := p42
  have h_3 := (hk 3 (dst_ne (by decide) (by decide) _)).trans h.b3
  have hx := ev h_3
  have hu := Try.underlying56
  have hg := (hb.block _ (blk_lt h.g253)).trans h.g253
  have s0 := (blk_cell hg 0).trans rfl
  have s1 := (blk_cell hg 1).trans rfl
  refine ⟨(wanted_some hgd rfl rfl h42), value_ (v := .agg #[.int .u8 c.a0, .slice c.A0 c.l0.length c.c0]) hd (load_run hop hx ?_) ⟨_, rfl, Below.refl _ _, rfl⟩⟩
  clear hn hk ho e hop
  go_simp
  try with_reducible rfl
theorem loc44 (h : c.Ok a0 W) : Loc Try.prog .any (opsOf Try.f11 11) Q dst a0 W (Pst c) 44 := by
  intro o a w ho hb hk hn
  have e := Option.some.inj (ho.symm.trans (rfl : (opsOf Try.f11 11)[44]? = some _))
  have hop : o.op = Op.load 56 (Operand.tmp 4) := by subst e; rfl
  have hd : o.dst = some (dst 44) := by subst e; rfl
  have hgd : o.guard = some (42, true) := by subst e; rfl
  obtain ⟨v42, h42, p42⟩ := hn 42 (by subst e; decide)
  obtain rfl : v42 = .bool true := p42
  have h_4 := (hk 4 (dst_ne (by decide) (by decide) _)).trans h.b4
  have hx := ev h_4
  have hu := Try.underlying56
  have hg := (hb.block _ (blk_lt h.g254)).trans h.g254
  have s0 := (blk_cell hg 0).trans rfl
  have s1 := (blk_cell hg 1).trans rfl
  refine ⟨(wanted_some hgd rfl rfl h42), value_ (v := .agg #[.int .u8 c.a1, .slice c.A1 c.l1.length c.c1]) hd (load_run hop hx ?_) ⟨_, rfl, Below.refl _ _, rfl⟩⟩
  clear hn hk ho e hop
  go_simp
  try with_reducible rfl
theorem loc45 (h : c.Ok a0 W) : Loc Try.prog .any (opsOf Try.f11 11) Q dst a0 W (Pst c) 45 := by
  intro o a w ho hb hk hn
  have e := Option.some.inj (ho.symm.trans (rfl : (opsOf Try.f11 11)[45]? = some _))
  have hop : o.op = Op.call { callee := Callee.value (Operand.func 53), args := #[Operand.tmp 117, Operand.tmp 118], argTypes := #[56, 56] } := by subst e; rfl
  have hd : o.dst = some (dst 45) := by subst e; rfl
  have hgd : o.guard = some (42, true) := by subst e; rfl
  obtain ⟨v42, h42, p42⟩ := hn 42 (by subst e; decide)
  obtain rfl : v42 = .bool true := p42
  obtain ⟨v43, h43, p43⟩ := hn 43 (by subst e; decide)
  obtain rfl : v43 = .agg #[.int .u8 c.a0, .slice c.A0 c.l0.length c.c0] := p43
  obtain ⟨v44, h44, p44⟩ := hn 44 (by subst e; decide)
  obtain rfl : v44 = .agg #[.int .u8 c.a1, .slice c.A1 c.l1.length c.c1] := p44
  have hw : Region.wanted o (yielded (opsOf Try.f11 11) a.tmps) = true := (wanted_some hgd rfl rfl h42)
  have hs := goes_ (P := Try.prog) (Q := Q) (a := a) (w := w) (K := fun a' w' => ∃ v, a' = a.put (some (dst 45)) v ∧ Below w.heap.size w w' ∧ Pst c 45 v w') Try.func53 (by kernel_rfl) rfl (#[.agg #[.int .u8 c.a0, .slice c.A0 c.l0.length c.c0], .agg #[.int .u8 c.a1, .slice c.A1 c.l1.length c.c1]] : Array Value) hw hd hop ?ha ?hc
  · rw [if_pos hw] at hs
    exact ⟨hw, hs⟩
  case ha =>
    have q43 : a.eval (.tmp 117) = _ := ev h43
    have q44 : a.eval (.tmp 118) = _ := ev h44
    simp only [List.map_toArray, List.map_cons, List.map_nil, q43, q44]
  case hc =>
    refine (frame_Same.calls _ _ _ _ _ _ _ _ _ _ (Kd.V_reads' (Kd.V_below h.vx hb)).2.2 (Kd.V_reads' (Kd.V_below h.vx hb)).2.1 (Kd.V_reads' (Kd.V_below h.vy hb)).2.2 (Kd.V_reads' (Kd.V_below h.vy hb)).2.1 h.A40).mono ?_
    rintro e w' ⟨rfl, hd⟩
    exact ⟨_, rfl, _, rfl, hd, rfl⟩
theorem loc46 (h : c.Ok a0 W) : Loc Try.prog .any (opsOf Try.f11 11) Q dst a0 W (Pst c) 46 := by
  intro o a w ho hb hk hn
  have e := Option.some.inj (ho.symm.trans (rfl : (opsOf Try.f11 11)[46]? = some _))
  have hop : o.op = Op.load 56 (Operand.tmp 3) := by subst e; rfl
  have hd : o.dst = some (dst 46) := by subst e; rfl
  have hgd : o.guard = some (42, true) := by subst e; rfl
  obtain ⟨v42, h42, p42⟩ := hn 42 (by subst e; decide)
  obtain rfl : v42 = .bool true := p42
  have h_3 := (hk 3 (dst_ne (by decide) (by decide) _)).trans h.b3
  have hx := ev h_3
  have hu := Try.underlying56
  have hg := (hb.block _ (blk_lt h.g253)).trans h.g253
  have s0 := (blk_cell hg 0).trans rfl
  have s1 := (blk_cell hg 1).trans rfl
  refine ⟨(wanted_some hgd rfl rfl h42), value_ (v := .agg #[.int .u8 c.a0, .slice c.A0 c.l0.length c.c0]) hd (load_run hop hx ?_) ⟨_, rfl, Below.refl _ _, rfl⟩⟩
  clear hn hk ho e hop
  go_simp
  try with_reducible rfl
theorem loc47 (h : c.Ok a0 W) : Loc Try.prog .any (opsOf Try.f11 11) Q dst a0 W (Pst c) 47 := by
  intro o a w ho hb hk hn
  have e := Option.some.inj (ho.symm.trans (rfl : (opsOf Try.f11 11)[47]? = some _))
  have hop : o.op = Op.buildSlice 65 1 #[(0, Operand.tmp 120)] := by subst e; rfl
  have hd : o.dst = some (dst 47) := by subst e; rfl
  have hgd : o.guard = some (42, true) := by subst e; rfl
  obtain ⟨v42, h42, p42⟩ := hn 42 (by subst e; decide)
  obtain rfl : v42 = .bool true := p42
  obtain ⟨v46, h46, p46⟩ := hn 46 (by subst e; decide)
  obtain rfl : v46 = .agg #[.int .u8 c.a0, .slice c.A0 c.l0.length c.c0] := p46
  have hx := ev h46
  have hv := Kd.V_below h.vx hb
  have hu := Try.underlying65
  have hw : Region.wanted o (yielded (opsOf Try.f11 11) a.tmps) = true := (wanted_some hgd rfl rfl h42)
  have hs := Kd.N_lit_step (P := Try.prog) (Q := Q) (Kc := fun a' w' => ∃ v, a' = a.put (some (dst 47)) v ∧ Below w.heap.size w w' ∧ Pst c 47 v w') k56 (a := a) w.heap.size 56 hw (N' := dst 47) hd (w0 := w) (W := w) (xs := ([⟨c.a0, c.l0⟩] : List S56)) (inner := [.int .u8 c.a0, .slice c.A0 c.l0.length c.c0]) (ok := fun _ => True) (okp := fun _ => True) ?hr ?hp (fun _ _ => trivial) trivial (Below.refl _ _) (Nat.le_refl _) (by simp) ?hk
  · rw [if_pos hw] at hs
    exact ⟨hw, hs⟩
  case hr =>
    refine bs_run hop hx ?_
    clear hn hk ho e hop
    first | (go_simp; done) | (go_simp; rfl)
  case hp => exact Reps.c2 (show Kd.FK k56 _ _ _ [.int .u8 c.a0, .slice c.A0 c.l0.length c.c0] from k56_mkF _ _ _ (Kd.V_reads' hv).2.1 (Kd.V_F hv)) (Reps.none _ _)
  case hk => exact fun v1 w1 hN hb1 _ _ => ⟨v1, by rw [hd], hb1, Kd.N_V (base' := 0) hN⟩
theorem loc48 (h : c.Ok a0 W) : Loc Try.prog .any (opsOf Try.f11 11) Q dst a0 W (Pst c) 48 := by
  intro o a w ho hb hk hn
  have e := Option.some.inj (ho.symm.trans (rfl : (opsOf Try.f11 11)[48]? = some _))
  have hop : o.op = Op.call { callee := Callee.value (Operand.func 52), args := #[Operand.tmp 121], argTypes := #[65] } := by subst e; rfl
  have hd : o.dst = some (dst 48) := by subst e; rfl
  have hgd : o.guard = some (42, true) := by subst e; rfl
  obtain ⟨v42, h42, p42⟩ := hn 42 (by subst e; decide)
  obtain rfl : v42 = .bool true := p42
  obtain ⟨v47, h47, p47⟩ := hn 47 (by subst e; decide)
  replace p47 : Kd.V k56 56 w 0 (fun _ => True) v47 ([⟨c.a0, c.l0⟩] : List S56) := p47
  have hw : Region.wanted o (yielded (opsOf Try.f11 11) a.tmps) = true := (wanted_some hgd rfl rfl h42)
  obtain ⟨A_47, c_47, rfl⟩ := Kd.V_slice p47
  have hs := goes_ (P := Try.prog) (Q := Q) (a := a) (w := w) (K := fun a' w' => ∃ v, a' = a.put (some (dst 48)) v ∧ Below w.heap.size w w' ∧ Pst c 48 v w') Try.func52 (by kernel_rfl) rfl (#[.slice A_47 (([⟨c.a0, c.l0⟩] : List S56)).length c_47] : Array Value) hw hd hop ?ha ?hc
  · rw [if_pos hw] at hs
    exact ⟨hw, hs⟩
  case ha =>
    have q47 : a.eval (.tmp 121) = _ := ev h47
    simp only [List.map_toArray, List.map_cons, List.map_nil, q47]
  case hc =>
    refine (tumbrellaw04_own.calls c.kj (fun _ => True) _ _ _ _ _ p47 h.A41).mono ?_
    rintro e w' ⟨v0, rfl, hN, hd⟩
    exact ⟨_, rfl, _, rfl, hd, Kd.V_mono (Kd.N_V (base' := 0) hN) (fun _ _ => trivial)⟩
theorem loc49 (h : c.Ok a0 W) : Loc Try.prog .any (opsOf Try.f11 11) Q dst a0 W (Pst c) 49 := by
  intro o a w ho hb hk hn
  have e := Option.some.inj (ho.symm.trans (rfl : (opsOf Try.f11 11)[49]? = some _))
  have hop : o.op = Op.load 56 (Operand.tmp 4) := by subst e; rfl
  have hd : o.dst = some (dst 49) := by subst e; rfl
  have hgd : o.guard = some (42, true) := by subst e; rfl
  obtain ⟨v42, h42, p42⟩ := hn 42 (by subst e; decide)
  obtain rfl : v42 = .bool true := p42
  have h_4 := (hk 4 (dst_ne (by decide) (by decide) _)).trans h.b4
  have hx := ev h_4
  have hu := Try.underlying56
  have hg := (hb.block _ (blk_lt h.g254)).trans h.g254
  have s0 := (blk_cell hg 0).trans rfl
  have s1 := (blk_cell hg 1).trans rfl
  refine ⟨(wanted_some hgd rfl rfl h42), value_ (v := .agg #[.int .u8 c.a1, .slice c.A1 c.l1.length c.c1]) hd (load_run hop hx ?_) ⟨_, rfl, Below.refl _ _, rfl⟩⟩
  clear hn hk ho e hop
  go_simp
  try with_reducible rfl
theorem loc50 (h : c.Ok a0 W) : Loc Try.prog .any (opsOf Try.f11 11) Q dst a0 W (Pst c) 50 := by
  intro o a w ho hb hk hn
  have e := Option.some.inj (ho.symm.trans (rfl : (opsOf Try.f11 11)[50]? = some _))
  have hop : o.op = Op.buildSlice 65 1 #[(0, Operand.tmp 123)] := by subst e; rfl
  have hd : o.dst = some (dst 50) := by subst e; rfl
  have hgd : o.guard = some (42, true) := by subst e; rfl
  obtain ⟨v42, h42, p42⟩ := hn 42 (by subst e; decide)
  obtain rfl : v42 = .bool true := p42
  obtain ⟨v49, h49, p49⟩ := hn 49 (by subst e; decide)
  obtain rfl : v49 = .agg #[.int .u8 c.a1, .slice c.A1 c.l1.length c.c1] := p49
  have hx := ev h49
  have hv := Kd.V_below h.vy hb
  have hu := Try.underlying65
  have hw : Region.wanted o (yielded (opsOf Try.f11 11) a.tmps) = true := (wanted_some hgd rfl rfl h42)
  have hs := Kd.N_lit_step (P := Try.prog) (Q := Q) (Kc := fun a' w' => ∃ v, a' = a.put (some (dst 50)) v ∧ Below w.heap.size w w' ∧ Pst c 50 v w') k56 (a := a) w.heap.size 56 hw (N' := dst 50) hd (w0 := w) (W := w) (xs := ([⟨c.a1, c.l1⟩] : List S56)) (inner := [.int .u8 c.a1, .slice c.A1 c.l1.length c.c1]) (ok := fun _ => True) (okp := fun _ => True) ?hr ?hp (fun _ _ => trivial) trivial (Below.refl _ _) (Nat.le_refl _) (by simp) ?hk
  · rw [if_pos hw] at hs
    exact ⟨hw, hs⟩
  case hr =>
    refine bs_run hop hx ?_
    clear hn hk ho e hop
    first | (go_simp; done) | (go_simp; rfl)
  case hp => exact Reps.c2 (show Kd.FK k56 _ _ _ [.int .u8 c.a1, .slice c.A1 c.l1.length c.c1] from k56_mkF _ _ _ (Kd.V_reads' hv).2.1 (Kd.V_F hv)) (Reps.none _ _)
  case hk => exact fun v1 w1 hN hb1 _ _ => ⟨v1, by rw [hd], hb1, Kd.N_V (base' := 0) hN⟩
theorem loc51 (h : c.Ok a0 W) : Loc Try.prog .any (opsOf Try.f11 11) Q dst a0 W (Pst c) 51 := by
  intro o a w ho hb hk hn
  have e := Option.some.inj (ho.symm.trans (rfl : (opsOf Try.f11 11)[51]? = some _))
  have hop : o.op = Op.call { callee := Callee.value (Operand.func 52), args := #[Operand.tmp 124], argTypes := #[65] } := by subst e; rfl
  have hd : o.dst = some (dst 51) := by subst e; rfl
  have hgd : o.guard = some (42, true) := by subst e; rfl
  obtain ⟨v42, h42, p42⟩ := hn 42 (by subst e; decide)
  obtain rfl : v42 = .bool true := p42
  obtain ⟨v50, h50, p50⟩ := hn 50 (by subst e; decide)
  replace p50 : Kd.V k56 56 w 0 (fun _ => True) v50 ([⟨c.a1, c.l1⟩] : List S56) := p50
  have hw : Region.wanted o (yielded (opsOf Try.f11 11) a.tmps) = true := (wanted_some hgd rfl rfl h42)
  obtain ⟨A_50, c_50, rfl⟩ := Kd.V_slice p50
  have hs := goes_ (P := Try.prog) (Q := Q) (a := a) (w := w) (K := fun a' w' => ∃ v, a' = a.put (some (dst 51)) v ∧ Below w.heap.size w w' ∧ Pst c 51 v w') Try.func52 (by kernel_rfl) rfl (#[.slice A_50 (([⟨c.a1, c.l1⟩] : List S56)).length c_50] : Array Value) hw hd hop ?ha ?hc
  · rw [if_pos hw] at hs
    exact ⟨hw, hs⟩
  case ha =>
    have q50 : a.eval (.tmp 124) = _ := ev h50
    simp only [List.map_toArray, List.map_cons, List.map_nil, q50]
  case hc =>
    refine (tumbrellaw04_own.calls c.kj (fun _ => True) _ _ _ _ _ p50 h.A42).mono ?_
    rintro e w' ⟨v0, rfl, hN, hd⟩
    exact ⟨_, rfl, _, rfl, hd, Kd.V_mono (Kd.N_V (base' := 0) hN) (fun _ _ => trivial)⟩
theorem loc52 (h : c.Ok a0 W) : Loc Try.prog .any (opsOf Try.f11 11) Q dst a0 W (Pst c) 52 := by
  intro o a w ho hb hk hn
  have e := Option.some.inj (ho.symm.trans (rfl : (opsOf Try.f11 11)[52]? = some _))
  have hop : o.op = Op.call { callee := Callee.value (Operand.func 51), args := #[Operand.tmp 122, Operand.tmp 125], argTypes := #[68, 68] } := by subst e; rfl
  have hd : o.dst = some (dst 52) := by subst e; rfl
  have hgd : o.guard = some (42, true) := by subst e; rfl
  obtain ⟨v42, h42, p42⟩ := hn 42 (by subst e; decide)
  obtain rfl : v42 = .bool true := p42
  obtain ⟨v48, h48, p48⟩ := hn 48 (by subst e; decide)
  replace p48 : Kd.V k60 60 w 0 (fun _ => True) v48 c.t307 := p48
  obtain ⟨v51, h51, p51⟩ := hn 51 (by subst e; decide)
  replace p51 : Kd.V k60 60 w 0 (fun _ => True) v51 c.t313 := p51
  have hw : Region.wanted o (yielded (opsOf Try.f11 11) a.tmps) = true := (wanted_some hgd rfl rfl h42)
  obtain ⟨A_48, c_48, rfl⟩ := Kd.V_slice p48
  obtain ⟨A_51, c_51, rfl⟩ := Kd.V_slice p51
  have hs := goes_ (P := Try.prog) (Q := Q) (a := a) (w := w) (K := fun a' w' => ∃ v, a' = a.put (some (dst 52)) v ∧ Below w.heap.size w w' ∧ Pst c 52 v w') Try.func51 (by kernel_rfl) rfl (#[.slice A_48 (c.t307).length c_48, .slice A_51 (c.t313).length c_51] : Array Value) hw hd hop ?ha ?hc
  · rw [if_pos hw] at hs
    exact ⟨hw, hs⟩
  case ha =>
    have q48 : a.eval (.tmp 122) = _ := ev h48
    have q51 : a.eval (.tmp 125) = _ := ev h51
    simp only [List.map_toArray, List.map_cons, List.map_nil, q48, q51]
  case hc =>
    refine (tumbrelref04_Same.calls c.kj _ _ _ _ _ _ _ _ (Kd.V_reads' p48).2.2 (Kd.V_reads' p48).2.1 (Kd.V_reads' p51).2.2 (Kd.V_reads' p51).2.1 h.A43).mono ?_
    rintro e w' ⟨rfl, hd⟩
    exact ⟨_, rfl, _, rfl, hd.below, rfl⟩
theorem loc53 (h : c.Ok a0 W) : Loc Try.prog .any (opsOf Try.f11 11) Q dst a0 W (Pst c) 53 := by
  intro o a w ho hb hk hn
  have e := Option.some.inj (ho.symm.trans (rfl : (opsOf Try.f11 11)[53]? = some _))
  have hop : o.op = Op.binOp BinOp.eql 4 (Operand.tmp 119) (Operand.tmp 126) 4 := by subst e; rfl
  have hd : o.dst = some (dst 53) := by subst e; rfl
  have hgd : o.guard = some (42, true) := by subst e; rfl
  obtain ⟨v42, h42, p42⟩ := hn 42 (by subst e; decide)
  obtain rfl : v42 = .bool true := p42
  obtain ⟨v45, h45, p45⟩ := hn 45 (by subst e; decide)
  obtain rfl : v45 = .bool c.t303 := p45
  obtain ⟨v52, h52, p52⟩ := hn 52 (by subst e; decide)
  obtain rfl : v52 = .bool c.t316 := p52
  exact ⟨(wanted_some hgd rfl rfl h42), value_ hd (eqlb_ hop (ev h45) (ev h52) h.e53) ⟨_, rfl, Below.refl _ _, rfl⟩⟩
theorem loc54 (h : c.Ok a0 W) : Loc Try.prog .any (opsOf Try.f11 11) Q dst a0 W (Pst c) 54 := by
  intro o a w ho hb hk hn
  have e := Option.some.inj (ho.symm.trans (rfl : (opsOf Try.f11 11)[54]? = some _))
  have hop : o.op = Op.pick (Operand.tmp 116) (Operand.tmp 127) (Operand.const (Value.bool false)) := by subst e; rfl
  have hd : o.dst = some (dst 54) := by subst e; rfl
  have hgd : o.guard = none := by subst e; rfl
  obtain ⟨v42, h42, p42⟩ := hn 42 (by subst e; decide)
  obtain rfl : v42 = .bool true := p42
  obtain ⟨v53, h53, p53⟩ := hn 53 (by subst e; decide)
  obtain rfl : v53 = .bool true := p53
  exact ⟨(wanted_none hgd), value_ hd (pick_ hop (ev h42) (ev h53)) ⟨_, rfl, Below.refl _ _, rfl⟩⟩
theorem loc55 (h : c.Ok a0 W) : Loc Try.prog .any (opsOf Try.f11 11) Q dst a0 W (Pst c) 55 := by
  intro o a w ho hb hk hn
  have e := Option.some.inj (ho.symm.trans (rfl : (opsOf Try.f11 11)[55]? = some _))
  have hop : o.op = Op.assign (Operand.tmp 128) := by subst e; rfl
  have hd : o.dst = some (dst 55) := by subst e; rfl
  have hgd : o.guard = none := by subst e; rfl
  obtain ⟨v54, h54, p54⟩ := hn 54 (by subst e; decide)
  obtain rfl : v54 = .bool true := p54
  exact ⟨(wanted_none hgd), value_ hd (assign_ hop (ev h54)) ⟨_, rfl, Below.refl _ _, rfl⟩⟩
end
theorem Pst_grows (c : Cx) (j : Nat) (v : Value) (w w' : World) (hb : Below w.heap.size w w') (h : Pst c j v w) : Pst c j v w' := by
  unfold Pst at *
  split at h <;> first | exact h | exact Kd.V_below h hb
theorem locs {Q : Exit → Act → World → Prop} {c : Cx} {a0 : Act} {W : World} (h : c.Ok a0 W) : ∀ i, i < (opsOf Try.f11 11).size → Loc Try.prog .any (opsOf Try.f11 11) Q dst a0 W (Pst c) i := by
  intro i hi
  have hs : (opsOf Try.f11 11).size = 56 := by kernel_rfl
  rw [hs] at hi
  match i, hi with
  | 0, _ => exact loc0 h
  | 1, _ => exact loc1 h
  | 2, _ => exact loc2 h
  | 3, _ => exact loc3 h
  | 4, _ => exact loc4 h
  | 5, _ => exact loc5 h
  | 6, _ => exact loc6 h
  | 7, _ => exact loc7 h
  | 8, _ => exact loc8 h
  | 9, _ => exact loc9 h
  | 10, _ => exact loc10 h
  | 11, _ => exact loc11 h
  | 12, _ => exact loc12 h
  | 13, _ => exact loc13 h
  | 14, _ => exact loc14 h
  | 15, _ => exact loc15 h
  | 16, _ => exact loc16 h
  | 17, _ => exact loc17 h
  | 18, _ => exact loc18 h
  | 19, _ => exact loc19 h
  | 20, _ => exact loc20 h
  | 21, _ => exact loc21 h
  | 22, _ => exact loc22 h
  | 23, _ => exact loc23 h
  | 24, _ => exact loc24 h
  | 25, _ => exact loc25 h
  | 26, _ => exact loc26 h
  | 27, _ => exact loc27 h
  | 28, _ => exact loc28 h
  | 29, _ => exact loc29 h
  | 30, _ => exact loc30 h
  | 31, _ => exact loc31 h
  | 32, _ => exact loc32 h
  | 33, _ => exact loc33 h
  | 34, _ => exact loc34 h
  | 35, _ => exact loc35 h
  | 36, _ => exact loc36 h
  | 37, _ => exact loc37 h
  | 38, _ => exact loc38 h
  | 39, _ => exact loc39 h
  | 40, _ => exact loc40 h
  | 41, _ => exact loc41 h
  | 42, _ => exact loc42 h
  | 43, _ => exact loc43 h
  | 44, _ => exact loc44 h
  | 45, _ => exact loc45 h
  | 46, _ => exact loc46 h
  | 47, _ => exact loc47 h
  | 48, _ => exact loc48 h
  | 49, _ => exact loc49 h
  | 50, _ => exact loc50 h
  | 51, _ => exact loc51 h
  | 52, _ => exact loc52 h
  | 53, _ => exact loc53 h
  | 54, _ => exact loc54 h
  | 55, _ => exact loc55 h
  | n + 56, hi => omega
theorem region11 {Q : Exit → Act → World → Prop} {c : Cx} {a0 : Act} {w : World} (hn : a0.tmps.size = 129) (h : c.Ok a0 w.drew)
    (hQ : ∀ a w', a.defers = a0.defers → a.tmps[6]? = some (.bool true) → Below w.drew.heap.size w.drew w' → Q .normal a w') : (Code.region 11 (opsOf Try.f11 11) true).wp Try.prog Q a0 w := by
  have hs : (opsOf Try.f11 11).size = 56 := by kernel_rfl
  refine draw dst 129 (by kernel_rfl) rfl (by kernel_rfl) a0 w hn (fun i hi => by rw [hs] at hi; unfold dst; split <;> omega) (fun i j hi hj => by rw [hs] at hi hj; unfold dst; split <;> split <;> omega) (Pst c) (Pst_grows c) (locs h) ?_
  intro a w' h1 _ _ hb hp
  obtain ⟨v, hv, hpv⟩ := hp 55 (by rw [hs]; decide)
  obtain rfl : v = .bool true := hpv
  exact hQ a w' h1 hv hb
end Go.Proofs.Ytojepleodijdeaa.D
namespace Go.Proofs.Ytojepleodijdeaa.B
open Go.RowKit Go.Proofs.YtojepleodijdeaaW.PrintWords Go.Proofs.YtojepleodijdeaaW.PrintLast Go.Proofs.YtojepleodijdeaaW.PrintMore
set_option linter.unusedVariables false
set_option linter.unusedSimpArgs false
def vputF : Nat → Nat → List Int
  | 0, n => [(n : Int)]
  | k + 1, n => if n < 128 then [(n : Int)] else ((n % 128 + 128 : Nat) : Int) :: vputF k (n / 128)
/-- the block after k rounds -/
def Laid (w : World) (b k m N : Nat) : Prop :=
  ∃ L : List Int, L.length = 10 ∧ w.heap[b]? = some (.cells (nums .u8 L).toArray 104 (0, 0)) ∧ k ≤ 9 ∧ m * 128 ^ k < 18446744073709551616 ∧ L.take k ++ vputF (9 - k) m = vputF 9 N
theorem Laid.k_lt {w : World} {b k m N : Nat} (h : Laid w b k m N) (hm : 128 ≤ m) : k ≤ 8 := by
  obtain ⟨_, _, _, h9, h, _⟩ := h
  rcases Nat.lt_or_ge k 9 with hk | hk
  · omega
  · have : k = 9 := by omega
    subst this
    omega
theorem Laid.cell {w : World} {b k m N : Nat} (h : Laid w b k m N) : (∃ v, w.cell? ⟨b, k, none⟩ = some v) ∧ w.frozen? ⟨b, k, none⟩ = false := by
  obtain ⟨L, hL, hb, hk, _, _⟩ := h
  exact ⟨⟨.int .u8 (L.getD k 0), by simp [World.cell?, hb, nums, List.getElem?_eq_getElem (show k < L.length by omega)]⟩, by simp [World.frozen?, hb]⟩
theorem set_nums (L : List Int) (k : Nat) (x : Int) : (nums .u8 L).toArray.setIfInBounds k (.int .u8 x) = (nums .u8 (L.set k x)).toArray := by
  simp [nums, List.map_set]
theorem Laid.step {w : World} {b k m N : Nat} (h : Laid w b k m N) (hm : 128 ≤ m) : Laid (w.setCell ⟨b, k, none⟩ (.int .u8 ((m % 128 + 128 : Nat) : Int))) b (k + 1) (m / 128) N := by
  have hk := h.k_lt hm
  obtain ⟨L, hL, hb, _, hp, hv⟩ := h
  refine ⟨L.set k ((m % 128 + 128 : Nat) : Int), by simpa using hL, ?_, by omega, ?_, ?_⟩
  · rw [blk_set hb, set_nums]
  · refine Nat.lt_of_le_of_lt ?_ hp
    rw [Nat.pow_succ, Nat.mul_comm (128 ^ k), ← Nat.mul_assoc]
    exact Nat.mul_le_mul_right _ (Nat.div_mul_le_self m 128)
  · rw [← hv]
    have e : 9 - k = (9 - (k + 1)) + 1 := by omega
    rw [e]
    conv => rhs; rw [vputF, if_neg (by omega)]
    rw [List.take_succ_eq_append_getElem (by simp; omega), List.take_set_of_le (Nat.le_refl _)]
    simp
end Go.Proofs.Ytojepleodijdeaa.B
namespace Go.Proofs.Ytojepleodijdeaa.VP
set_option linter.unusedVariables false
set_option linter.unusedSimpArgs false
open Go.RowKit Go.Proofs.Ytojepleodijdeaa.B Go.Proofs.YtojepleodijdeaaW.PrintWords Go.Proofs.YtojepleodijdeaaW.PrintLast Go.Proofs.YtojepleodijdeaaW.PrintMore
def isB (l : List Int) : Prop := ∀ x ∈ l, 0 ≤ x ∧ x ≤ 255
theorem isB_of_wf {l : List Int} (h : ∀ x ∈ l, (Lit.int .u8 x).wf = true) : isB l := fun x hx => by
  have := h x hx
  simp [Lit.wf, IntKind.min, IntKind.max, IntKind.signed, IntKind.bits] at this
  omega
theorem isB_drop {l : List Int} (h : isB l) (n : Nat) : isB (l.drop n) := fun x hx => h x (List.mem_of_mem_drop hx)
theorem isB_take {l : List Int} (h : isB l) (n : Nat) : isB (l.take n) := fun x hx => h x (List.mem_of_mem_take hx)
theorem rd_at {l : List Int} {i : Nat} (h : i < l.length) : rd l (i : Int) = l[i] := by
  simp [rd, List.getD_eq_getElem?_getD, List.getElem?_eq_getElem h]
theorem wrap_succ (i : Nat) (h : i < 9223372036854775807) : wrap64 ((i : Int) + 1) = ((i + 1 : Nat) : Int) := by
  unfold wrap64; omega
end Go.Proofs.Ytojepleodijdeaa.VP
namespace Go.Proofs.Ytojepleodijdeaa.VP
set_option linter.unusedVariables false
set_option linter.unusedSimpArgs false
open Go.RowKit Go.Proofs.Ytojepleodijdeaa.B Go.Proofs.YtojepleodijdeaaW.PrintWords Go.Proofs.YtojepleodijdeaaW.PrintLast Go.Proofs.YtojepleodijdeaaW.PrintMore
theorem dec_cons {x y : Int} {l m : List Int} (h : x = y) : decide (x :: l = y :: m) = decide (l = m) := by subst h; simp
theorem dec_cons_ne {x y : Int} {l m : List Int} (h : x ≠ y) : decide (x :: l = y :: m) = false := by simp [h]
theorem same_loop (a b : List Int) (hl : a.length = b.length) (h : a.length ≤ 140737488355328) : ∀ (d i : Nat), a.length - i = d → Ev (fun k => tumbrelref01_Same.l0 k a b (i : Int)) (decide (a.drop i = b.drop i)) := by
  intro d
  induction d with
  | zero =>
    intro i hd
    refine Ev.step (f := fun _ => some true) (fun k => ?_) ?_
    · simp only [tumbrelref01_Same.l0]; rw [if_neg (by omega)]
    · rw [List.drop_of_length_le (by omega), List.drop_of_length_le (by omega)]; exact Ev.now _
  | succ d ih =>
    intro i hd
    have h1 : i < a.length := by omega
    have h2 : i < b.length := by omega
    rw [List.drop_eq_getElem_cons h1, List.drop_eq_getElem_cons h2]
    by_cases he : a[i] = b[i]
    · refine Ev.step (f := fun k => tumbrelref01_Same.l0 k a b ((i + 1 : Nat) : Int)) (fun k => ?_) ?_
      · simp only [tumbrelref01_Same.l0]
        rw [if_pos (by omega), if_pos (by omega), if_pos (by omega), rd_at h1, rd_at h2, if_pos he, wrap_succ i (by omega)]
      · rw [dec_cons he]; exact ih (i + 1) (by omega)
    · refine Ev.step (f := fun _ => some false) (fun k => ?_) ?_
      · simp only [tumbrelref01_Same.l0]
        rw [if_pos (by omega), if_pos (by omega), if_pos (by omega), rd_at h1, rd_at h2, if_neg he]
      · rw [dec_cons_ne he]; exact Ev.now _
theorem same_ev (a b : List Int) (h : a.length ≤ 140737488355328) : Ev (fun k => tumbrelref01_Same.f k a b) (decide (a = b)) := by
  by_cases hl : a.length = b.length
  · refine Ev.congr (f := fun k => tumbrelref01_Same.l0 k a b ((0 : Nat) : Int)) (fun k => ?_) ?_
    · simp only [tumbrelref01_Same.f]; rw [if_pos (by omega)]; rfl
    · have := same_loop a b hl h a.length 0 (by omega)
      simpa using this
  · refine Ev.congr (f := fun _ => some false) (fun k => ?_) ?_
    · simp only [tumbrelref01_Same.f]; rw [if_neg (by omega)]
    · have : decide (a = b) = false := by simp; intro e; exact hl (by rw [e])
      rw [this]; exact Ev.now _
end Go.Proofs.Ytojepleodijdeaa.VP
namespace Go.Proofs.Ytojepleodijdeaa.VP
set_option linter.unusedVariables false
set_option linter.unusedSimpArgs false
open Go.RowKit Go.Proofs.Ytojepleodijdeaa.B Go.Proofs.YtojepleodijdeaaW.PrintWords Go.Proofs.YtojepleodijdeaaW.PrintLast Go.Proofs.YtojepleodijdeaaW.PrintMore
open Go.Proofs.Ytojepleodijdeaa.Crc (steps)
theorem w32_of {a : Int} (h : 0 ≤ a ∧ a < 4294967296) : w32 (BitVec.ofNat 32 a.toNat) = a := by
  unfold w32; rw [BitVec.toNat_ofNat]; omega
theorem w32_not (x : BitVec 32) : w32 (~~~ x) = 4294967295 - w32 x := by
  have := x.isLt
  unfold w32; rw [BitVec.toNat_not]; omega
/-- the sum of more bytes -/
def moreL (a : Int) (l : List Int) : Int := w32 (~~~ crcL (~~~ BitVec.ofNat 32 a.toNat) l)
theorem ofL_lt (l : List Int) : 0 ≤ ofL l ∧ ofL l < 4294967296 := w32_lt _
theorem more_f {a : Int} {l : List Int} (h : 0 ≤ a ∧ a < 4294967296) (hb : isB l) : sum_More.f a l = some (moreL a l) := by
  unfold sum_More.f; rw [if_pos ⟨h, hb⟩]; rfl
theorem of_f {l : List Int} (hb : isB l) : sum_Of.f l = some (ofL l) := by
  unfold sum_Of.f; rw [more_f (by decide) hb]; rfl
theorem put_f {l : List Int} (hb : isB l) (hl : l.length ≤ 1000000000) : sum_Put.f l = some (putL l) := by
  unfold sum_Put.f; rw [if_pos ⟨hb, by omega⟩]
theorem fourL_len (a : Int) : (fourL a).length = 4 := rfl
theorem putL_len (l : List Int) : (putL l).length = l.length + 4 := by simp [putL, fourL_len]
theorem rmore_loop (l : List Int) (hb : isB l) (hl : l.length ≤ 1000000000) : ∀ (d i : Nat) (s : BitVec 32), l.length - i = d → Ev (fun k => tumbrelref01_More.l0 k l (w32 s) (i : Int)) (w32 (~~~ crcL s (l.drop i))) := by
  intro d
  induction d with
  | zero =>
    intro i s hd
    rw [List.drop_of_length_le (by omega)]
    refine Ev.step (f := fun _ => some (w32 (~~~ s))) (fun k => ?_) (Ev.now _)
    have h := w32_lt s
    simp only [tumbrelref01_More.l0]
    rw [if_neg (by omega), w32_not]
    congr 1
    omega
  | succ d ih =>
    intro i s hd
    have h1 : i < l.length := by omega
    have hc := hb l[i] (List.getElem_mem h1)
    rw [List.drop_eq_getElem_cons h1]
    obtain ⟨K, hK⟩ := rentry_ev (s ^^^ b32 l[i])
    obtain ⟨K2, hK2⟩ := ih (i + 1) (crcByte s l[i]) (by omega)
    dsimp only at hK hK2
    refine ⟨K + K2 + 1, fun k hk => ?_⟩
    obtain ⟨k, rfl⟩ : ∃ m, k = m + 1 := ⟨k - 1, by omega⟩
    simp only [tumbrelref01_More.l0]
    rw [if_pos (by omega), if_pos (by omega), rd_at h1, show l[i] % (4294967296 : Int) = w32 (b32 l[i]) by rw [b32_val hc]; omega, xor32, hK k (by omega)]
    simp only [Option.bind_some]
    rw [wrap_succ i (by omega)]
    exact hK2 k (by omega)
theorem rmore_ev {a : Int} {l : List Int} (h : 0 ≤ a ∧ a < 4294967296) (hb : isB l) (hl : l.length ≤ 1000000000) : Ev (fun k => tumbrelref01_More.f k a l) (moreL a l) := by
  have := rmore_loop l hb hl l.length 0 (~~~ BitVec.ofNat 32 a.toNat) (by omega)
  rw [w32_not, w32_of h] at this
  refine Ev.congr (fun k => ?_) this
  simp only [tumbrelref01_More.f]
  rw [show ((4294967295 : Int) - a) % 4294967296 = 4294967295 - a by omega]
  rfl
theorem rof_ev {l : List Int} (hb : isB l) (hl : l.length ≤ 1000000000) : Ev (fun k => tumbrelref01_Of.f k l) (ofL l) := by
  obtain ⟨K, hK⟩ := rmore_ev (a := 0) (by decide) hb hl
  exact ⟨K, fun k hk => by have := hK k hk; dsimp only at this; simp only [tumbrelref01_Of.f, this, Option.bind_some]; rfl⟩
theorem rfour_ev {a : Int} (h : 0 ≤ a ∧ a < 4294967296) : Ev (fun k => tumbrelref01_Four.f k a) (fourL a) := by
  refine ⟨5, fun k hk => at_rounds (g := fun k => tumbrelref01_Four.f k a) (fun k => tumbrelref01_Four.mono a k) hk ?_⟩
  have d : ∀ x : Int, 0 ≤ x → Int.tdiv x 256 = x / 256 := fun x hx => Int.tdiv_eq_ediv_of_nonneg hx
  have m : ∀ x : Int, 0 ≤ x → Int.tmod x 256 = x % 256 := fun x hx => Int.tmod_eq_emod_of_nonneg hx
  have w : ∀ i : Int, 0 ≤ i → i < 10 → wrap64 (i + 1) = i + 1 := fun i h0 h1 => by unfold wrap64; omega
  simp only [tumbrelref01_Four.f, tumbrelref01_Four.l0]
  rw [if_pos (by decide), if_pos (by decide), w 0 (by decide) (by decide), if_pos (by decide), if_pos (by simp), w (0 + 1) (by decide) (by decide), if_pos (by decide), if_pos (by simp), w (0 + 1 + 1) (by decide) (by decide), if_pos (by decide), if_pos (by simp), w (0 + 1 + 1 + 1) (by decide) (by decide), if_neg (by decide)]
  simp only [List.nil_append, List.cons_append, fourL]
  congr 1
  rw [d a h.1, d _ (by omega), d _ (by omega), m a h.1, m _ (by omega), m _ (by omega), m _ (by omega)]
  simp only [List.cons.injEq, and_true]
  omega
theorem rput_ev1 {l : List Int} (hb : isB l) (hl : l.length ≤ 1000000000) : Ev (fun k => tumbrelref01_Put.f k l) (putL l) := by
  obtain ⟨K1, h1⟩ := rof_ev hb hl
  obtain ⟨K2, h2⟩ := rfour_ev (ofL_lt l)
  dsimp only at h1 h2
  refine ⟨K1 + K2, fun k hk => ?_⟩
  simp only [tumbrelref01_Put.f, Option.bind_some, List.nil_append, List.length_nil]
  rw [if_pos (by omega), h1 k (by omega)]
  simp only [Option.bind_some]
  rw [h2 k (by omega)]
  simp only [Option.bind_some]
  rw [if_pos (by rw [fourL_len]; omega)]
  rfl
/-- without the sum -/
def cutL (l : List Int) : List Int × Bool :=
  if l.length < 4 then ([], false)
  else if l.drop (l.length - 4) = fourL (ofL (l.take (l.length - 4))) then (l.take (l.length - 4), true) else ([], false)
theorem eq_loop (a b : List Int) (hl : a.length = b.length) (h : a.length ≤ 140737488355328) : ∀ (d i : Nat), a.length - i = d → Ev (fun k => slices_Equal_byte_byte.l0 k a b (a.length : Int) (i : Int)) (decide (a.drop i = b.drop i)) := by
  intro d
  induction d with
  | zero =>
    intro i hd
    refine Ev.step (f := fun _ => some true) (fun k => ?_) ?_
    · simp only [slices_Equal_byte_byte.l0]; rw [if_neg (by omega)]
    · rw [List.drop_of_length_le (by omega), List.drop_of_length_le (by omega)]; exact Ev.now _
  | succ d ih =>
    intro i hd
    have h1 : i < a.length := by omega
    have h2 : i < b.length := by omega
    rw [List.drop_eq_getElem_cons h1, List.drop_eq_getElem_cons h2]
    by_cases he : a[i] = b[i]
    · refine Ev.step (f := fun k => slices_Equal_byte_byte.l0 k a b (a.length : Int) ((i + 1 : Nat) : Int)) (fun k => ?_) ?_
      · simp only [slices_Equal_byte_byte.l0]
        rw [if_pos (by omega), if_pos (by omega), if_pos (by omega), if_pos (by omega), rd_at h1, rd_at h2, if_pos he, wrap_succ i (by omega)]
      · rw [dec_cons he]; exact ih (i + 1) (by omega)
    · refine Ev.step (f := fun _ => some false) (fun k => ?_) ?_
      · simp only [slices_Equal_byte_byte.l0]
        rw [if_pos (by omega), if_pos (by omega), if_pos (by omega), if_pos (by omega), rd_at h1, rd_at h2, if_neg he]
      · rw [dec_cons_ne he]; exact Ev.now _
theorem eq_ev (a b : List Int) (h : a.length ≤ 140737488355328) : Ev (fun k => slices_Equal_byte_byte.f k a b) (decide (a = b)) := by
  by_cases hl : a.length = b.length
  · refine Ev.congr (f := fun k => slices_Equal_byte_byte.l0 k a b (a.length : Int) ((0 : Nat) : Int)) (fun k => ?_) ?_
    · simp only [slices_Equal_byte_byte.f]; rw [if_pos (by omega)]; rfl
    · have := eq_loop a b hl h a.length 0 (by omega)
      simpa using this
  · refine Ev.congr (f := fun _ => some false) (fun k => ?_) ?_
    · simp only [slices_Equal_byte_byte.f]; rw [if_neg (by omega)]
    · have : decide (a = b) = false := by simp; intro e; exact hl (by rw [e])
      rw [this]; exact Ev.now _
theorem cut_ev {l : List Int} (hb : isB l) (hl : l.length ≤ 1000000000) : Ev (fun k => sum_Cut.f k l) (cutL l) := by
  unfold cutL
  by_cases h4 : l.length < 4
  · rw [if_pos h4]
    refine Ev.congr (f := fun _ => some (([] : List Int), false)) (fun k => ?_) (Ev.now _)
    simp only [sum_Cut.f]
    rw [if_pos (by unfold wrap64; omega)]
  · rw [if_neg h4]
    have hw : wrap64 ((l.length : Int) - 4) = ((l.length - 4 : Nat) : Int) := by unfold wrap64; omega
    have hbt := isB_take hb (l.length - 4)
    obtain ⟨K, hK⟩ := eq_ev (l.drop (l.length - 4)) (fourL (ofL (l.take (l.length - 4)))) (by rw [List.length_drop]; omega)
    dsimp only at hK
    refine ⟨K, fun k hk => ?_⟩
    simp only [sum_Cut.f, hw]
    rw [if_neg (by omega), if_pos (by omega), if_pos (by omega)]
    simp only [Int.toNat_natCast, of_f hbt, Option.bind_some]
    have hf : sum_four.f (ofL (l.take (l.length - 4))) = some (fourL (ofL (l.take (l.length - 4)))) := rfl
    rw [hf]
    simp only [Option.bind_some]
    rw [hK k hk]
    simp only [Option.bind_some]
    by_cases he : l.drop (l.length - 4) = fourL (ofL (l.take (l.length - 4)))
    · rw [if_pos he, if_pos (decide_eq_true he)]
      have hc : slices_Clone_byte_byte.f (l.take (l.length - 4)) = some (l.take (l.length - 4)) := by
        unfold slices_Clone_byte_byte.f
        rw [if_pos (by rw [List.length_take]; omega)]
      rw [hc]; rfl
    · rw [if_neg he, if_neg (by simpa using he)]
theorem rcut_ev {l : List Int} (hb : isB l) (hl : l.length ≤ 1000000000) : Ev (fun k => tumbrelref01_Cut.f k l) (cutL l) := by
  unfold cutL
  by_cases h4 : l.length < 4
  · rw [if_pos h4]
    refine Ev.congr (f := fun _ => some (([] : List Int), false)) (fun k => ?_) (Ev.now _)
    simp only [tumbrelref01_Cut.f]
    rw [if_pos (by omega)]
  · rw [if_neg h4]
    have hw : wrap64 ((l.length : Int) - 4) = ((l.length - 4 : Nat) : Int) := by unfold wrap64; omega
    have hbt := isB_take hb (l.length - 4)
    have hlt : (l.take (l.length - 4)).length = l.length - 4 := by rw [List.length_take]; omega
    obtain ⟨K1, h1⟩ := rput_ev1 hbt (by omega)
    obtain ⟨K2, h2⟩ := same_ev (putL (l.take (l.length - 4))) l (by rw [putL_len]; omega)
    dsimp only at h1 h2
    refine ⟨K1 + K2, fun k hk => ?_⟩
    simp only [tumbrelref01_Cut.f, hw]
    rw [if_neg (by omega)]
    simp only [Option.bind_some, List.nil_append, List.length_nil, Int.toNat_natCast]
    rw [if_pos (by omega), if_pos (by omega), if_pos (by omega)]
    rw [h1 k (by omega)]
    simp only [Option.bind_some]
    rw [h2 k (by omega)]
    simp only [Option.bind_some]
    have hiff : putL (l.take (l.length - 4)) = l ↔ l.drop (l.length - 4) = fourL (ofL (l.take (l.length - 4))) := by
      constructor
      · intro h
        have h3 := congrArg (List.drop (l.length - 4)) h
        rw [← h3, putL, List.drop_left' hlt]
      · intro h
        rw [putL, ← h]
        exact List.take_append_drop _ _
    by_cases he : l.drop (l.length - 4) = fourL (ofL (l.take (l.length - 4)))
    · rw [if_pos he, if_pos (decide_eq_true (hiff.2 he))]
    · rw [if_neg he, if_neg (by simp only [decide_eq_true_eq]; exact fun hh => he (hiff.1 hh))]
end Go.Proofs.Ytojepleodijdeaa.VP
namespace Go.Proofs.Ytojepleodijdeaa.B
open Go.RowKit Go.Proofs.YtojepleodijdeaaW.PrintWords Go.Proofs.YtojepleodijdeaaW.PrintLast Go.Proofs.YtojepleodijdeaaW.PrintMore
open Go.Proofs.Ytojepleodijdeaa.VP (w32)
set_option linter.unusedVariables false
set_option linter.unusedSimpArgs false
/-- a literal row -/
theorem lit_C (W : World) (e : TypeId) (xs : List Int) (h : xs.length ≤ 9223372036854775807) (fr : Nat × Nat := (0, 0)) : Kd.C (Kd.int .u8) (W.alloc (.cells (nums .u8 xs).toArray e fr)) (some ⟨W.heap.size, 0, none⟩) xs.length xs := by
  refine Kd.C_of_reads (d := (0 : Int)) (h1 := fun _ => rfl) ⟨rfl, h, fun hn => ⟨_, rfl, fun j hj => ?_⟩⟩
  rw [add_plain, cell_of_row _ _ _ _ _ _ (blk_new W _)]
  simp [nums, List.getElem?_eq_getElem hj, List.getD_eq_getElem?_getD]
end Go.Proofs.Ytojepleodijdeaa.B
