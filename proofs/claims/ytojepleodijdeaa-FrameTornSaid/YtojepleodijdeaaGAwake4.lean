/- By hand: tumbrellaw04.awake. -/
import Derived.Test.YtojepleodijdeaaB13
import Derived.Test.YtojepleodijdeaaGAwake
import Derived.Test.YtojepleodijdeaaApp
namespace Go.Proofs.Ytojepleodijdeaa.B
open Go.RowKit Go.Proofs.YtojepleodijdeaaW.PrintWords Go.Proofs.YtojepleodijdeaaW.PrintLast Go.Proofs.YtojepleodijdeaaW.PrintMore
set_option linter.unusedVariables false
set_option linter.unusedSimpArgs false

def tumbrellaw04_awake.f : Option Bool := some true
def aw4 : List Int := putL [1, 1, 0] ++ putL [2]
theorem aw4_b : frame_Bytes.f 1 [2] = some (aw4, 0) := by decide +kernel
theorem aw4_r : frame_Read.f 20 (aw4 ++ [9]) = some (1, [2], 12, 0) := by decide +kernel
theorem aw4_s : frame_Read.f 20 [1] = some (0, [], 0, 3) := by decide +kernel
theorem aw4_a : frame_All.f 20 (aw4 ++ [9]) = some ([⟨1, [2]⟩], 12, 3) := by kernel_rfl
theorem aw4_l : aw4.length = 12 := by decide +kernel
theorem aw4_e : frame_Same.f 1 [2] 1 [2] = some true := by decide +kernel
set_option maxRecDepth 100000 in
set_option maxHeartbeats 4000000 in
theorem tumbrellaw04_awake.calls (r : Bool) (w : World) (h : tumbrellaw04_awake.f = some r) :
    Calls Try.prog 44 #[] w fun e w' => e = .returned (.bool r) ∧ Below w.heap.size w w' := by
  obtain rfl := Option.some.inj h
  clear h
  have hu56 := Try.underlying56
  go_enter Try.func44, Try.ntmps44
  go_wp2_with fail
  refine (frame_Bytes.calls 1 _ 1 [2] aw4 0 _ (lit_C w 5 [2] (by decide)) (by decide) aw4_b).mono ?_
  rintro e w1 ⟨v1, rfl, ho1, hb1⟩
  have HO1 := Aside0.mk (Kd.R_lower ho1 (Nat.le_trans (Nat.le_refl _) (by simp : w.heap.size ≤ _)))
  have HB1 := Aside0.mk (below_step (below_alloc (Below.refl w.heap.size w) _) hb1)
  clear ho1 hb1
  have hl4 : aw4.length = 12 := aw4_l
  go_wp2_with (first | (at_builtin; refine append2_num (w0 := w) w.heap.size rfl (.tmp 19) (.tmp 20) 23 5 .u8 1 rfl Try.underlying23 info5 (by omega) v1 aw4 9 (by decide +kernel) rfl rfl ?aO ?aB ?aS (by rw [hl4]; decide) ?_; (case aO => exact HO1.out); (case aB => exact HB1.out); (case aS => exact below_size HB1.out); intro v2 w2 ho2 ho1 hb2 hg2; have hvk : ∀ k, v1.ownBlock = some k → k < w2.heap.size := Kd.R_lt ho1; have HO2 := Aside0.mk ho2; have HO1' := Aside0.mk ho1; have HB2 := Aside0.mk hb2; clear ho1 ho2 hb2 HO1 HB1; obtain ⟨A2, c2, e2⟩ := Kd.R_slice HO2.out; subst e2))
  have c47 := frame_Read.calls 20 A2 c2 (aw4 ++ [9]) 1 [2] 12 0 w2 (Kd.R_reads' HO2.out).2.2 (Kd.R_reads' HO2.out).2.1 aw4_r
  have h13 : (aw4 ++ [9]).length = 13 := by rw [List.length_append, hl4]; rfl
  rw [h13] at c47
  refine c47.mono ?_
  clear c47
  rintro e w3 ⟨v3, rfl, ho3, hb3⟩
  have ho3' : (Kd.int .u8).R 5 w3 w.heap.size (fun k => w2.heap.size ≤ k) v3 [2] := Kd.R_lower (base := w2.heap.size) (by
    obtain ⟨h0, inner, hown, hr⟩ := ho3
    exact ⟨fun k hk => own_base hown k hk, inner, hown, hr⟩) (below_size HB2.out)
  have HO3 := Aside0.mk ho3'
  have hw3 : w2.heap.size ≤ w3.heap.size := below_size hb3
  clear ho3'
  have HO4 := Aside0.mk (Kd.R_below HO1'.out hb3)
  have HB3 := Aside0.mk (below_step HB2.out hb3)
  clear ho3 hb3 HO2 HO1' HB2
  obtain ⟨A3, c3, e3⟩ := Kd.R_slice HO3.out
  subst e3
  go_wp2_with fail
  have BK3 := Aside0.mk (blk_new w3 (Obj.cells #[Value.int IntKind.u8 1, Value.slice A3 1 c3] 56))
  have HB3' := Aside0.mk (below_alloc HB3.out (Obj.cells #[Value.int IntKind.u8 1, Value.slice A3 1 c3] 56))
  have HO5 := Aside0.mk (Kd.R_alloc HO4.out (Obj.cells #[Value.int IntKind.u8 1, Value.slice A3 1 c3] 56))
  have HO6 := Aside0.mk (Kd.R_alloc HO3.out (Obj.cells #[Value.int IntKind.u8 1, Value.slice A3 1 c3] 56))
  clear HO4 HO3 HB3
  generalize hw4 : w3.alloc (Obj.cells #[Value.int IntKind.u8 1, Value.slice A3 1 c3] 56) = w4 at *
  have hs4 : w3.heap.size + 1 = w4.heap.size := by subst hw4; simp
  have hlt4 : w3.heap.size < w4.heap.size := by omega
  rw [hs4]
  have c47 := frame_Read.calls 20 _ 1 [1] 0 [] 0 3 _ (lit_C w4 5 [1] (by decide)) (by decide) aw4_s
  refine c47.mono ?_
  clear c47
  rintro e w5 ⟨v5, rfl, ho5, hb5⟩
  obtain ⟨A5, c5, e5⟩ := Kd.R_slice ho5
  subst e5
  have HB45 := Aside0.mk (below_step (below_alloc (Below.refl w4.heap.size w4) (.cells (nums .u8 [1]).toArray 5 (0, 0))) hb5)
  have BK5 := Aside0.mk (blk_below BK3.out HB45.out)
  have HO7 := Aside0.mk (Kd.R_below HO5.out HB45.out)
  have HO8 := Aside0.mk (Kd.R_below HO6.out HB45.out)
  have HB5 := Aside0.mk (below_step HB3'.out HB45.out)
  clear ho5 hb5 HO5 HO6 HB45 HB3' BK3
  have BK6 := Aside0.mk (fun o => blk_alloc BK5.out o)
  have HO9 := Aside0.mk (fun o => Kd.R_alloc HO7.out o)
  have HO10 := Aside0.mk (fun o => Kd.R_alloc HO8.out o)
  have HB6 := Aside0.mk (fun o => below_alloc HB5.out o)
  clear BK5 HO7 HO8
  go_wp2_with (first | (at_builtin; refine append2_num (w0 := w) (W := w5.alloc (Obj.cells #[Value.int IntKind.u8 0, Value.slice A5 ([] : List Int).length c5] 56)) w.heap.size rfl (.tmp 33) (.tmp 34) 23 5 .u8 1 rfl Try.underlying23 info5 (by omega) v1 aw4 9 (by decide +kernel) rfl (by simp; rfl) ?aO ?aB ?aS (by rw [hl4]; decide) ?_; (case aO => exact HO9.out _); (case aB => exact HB6.out _); (case aS => exact below_size (HB6.out _)); intro v7 w7 ho7 ho1 hb7 hg7; have BK7 := Aside0.mk (blk_grown (BK6.out _) hg7 (fun e => by have := hvk _ e.symm; omega)); have HO13 := Aside0.mk (Kd.R_grown (HO10.out _) hg7 (fun k hk e => by have := hvk _ e.symm; omega)); have HO11 := Aside0.mk ho7; have HO12 := Aside0.mk ho1; have HB7 := Aside0.mk hb7; clear ho1 ho7 hb7; obtain ⟨A7, c7, e7⟩ := Kd.R_slice HO11.out; subst e7))
  have h13' : (aw4 ++ [9]).length = 13 := by rw [List.length_append, hl4]; rfl
  have c49 := frame_All.calls 20 A7 c7 (aw4 ++ [9]) [⟨1, [2]⟩] 12 3 w7 (Kd.R_reads' HO11.out).2.2 (Kd.R_reads' HO11.out).2.1 aw4_a
  rw [h13'] at c49
  refine c49.mono ?_
  clear c49
  rintro e w8 ⟨v8, rfl, ho8, hb8⟩
  obtain ⟨A8, c8, e8⟩ := Kd.S_slice ho8
  subst e8
  have BK8 := Aside0.mk (blk_below BK7.out hb8)
  have HO14 := Aside0.mk (Kd.R_below HO13.out hb8)
  have HO15 := Aside0.mk (Kd.R_below HO12.out hb8)
  have HB8 := Aside0.mk (below_step HB7.out hb8)
  clear ho8 hb8 HO11 HO12 HO13 HB7 BK7 BK6 HO9 HO10 HB6
  obtain ⟨A1, c1, e1⟩ := Kd.R_slice HO15.out
  subst e1
  have hlt : ([2] : List Int).length = 1 := rfl
  have hlt2 : ([⟨1, [2]⟩] : List S56).length = 1 := rfl
  have hbk := blk_cell BK8.out
  go_wp2_with fail
  have c53 := fun W (h : (Kd.int .u8).C W A3 ([2] : List Int).length [2]) => frame_Same.calls 1 A3 c3 [2] 1 A3 c3 [2] true W h (Kd.R_reads' HO14.out).2.1 h (Kd.R_reads' HO14.out).2.1 aw4_e
  refine (c53 _ (Kd.R_reads' HO14.out).2.2).mono ?_
  rintro e w9 ⟨rfl, hb9⟩
  have HB9 := Aside0.mk (below_step HB8.out hb9)
  clear hb9 c53
  go_wp2_with fail
  go_ret
  exact ⟨rfl, HB9.out⟩
end Go.Proofs.Ytojepleodijdeaa.B
