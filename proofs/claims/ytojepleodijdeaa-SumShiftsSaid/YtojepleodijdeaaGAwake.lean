/- By hand: tumbrellaw01.awake. -/
import Derived.Test.YtojepleodijdeaaB12
import Derived.Test.YtojepleodijdeaaC2
import Derived.Lib.SlBytesConst
namespace Go.Proofs.Ytojepleodijdeaa.B
open Go.RowKit Go.Proofs.YtojepleodijdeaaW.PrintWords Go.Proofs.YtojepleodijdeaaW.PrintLast Go.Proofs.YtojepleodijdeaaW.PrintMore
open Go.Proofs.Ytojepleodijdeaa.VP (w32)
set_option linter.unusedVariables false
set_option linter.unusedSimpArgs false

def tumbrellaw01_awake.f : Option Bool := some true
theorem aw_cut1 : sum_Cut.f 20 (putL [1, 2]) = some ([1, 2], true) := by decide +kernel
theorem aw_cut2 : sum_Cut.f 20 [1, 2, 3, 4, 5] = some ([], false) := by decide +kernel
theorem aw_of : ofL [49, 50, 51, 52, 53, 54, 55, 56, 57] = 3808858755 := by decide +kernel
theorem aw_tab : tabE 1 = 4067132163 := by decide +kernel
theorem idx_tab (W : World) : (Instr.index 47 (.agg (tabN 256).toArray) (.int .i64 1)).run Try.prog W = .ok (.int .u32 4067132163) W := by
  kernel_rfl
/-- a literal row -/
theorem lit_C (W : World) (e : TypeId) (xs : List Int) (h : xs.length ≤ 9223372036854775807) (fr : Nat × Nat := (0, 0)) : Kd.C (Kd.int .u8) (W.alloc (.cells (nums .u8 xs).toArray e fr)) (some ⟨W.heap.size, 0, none⟩) xs.length xs := by
  refine Kd.C_of_reads (d := (0 : Int)) (h1 := fun _ => rfl) ⟨rfl, h, fun hn => ⟨_, rfl, fun j hj => ?_⟩⟩
  rw [add_plain, cell_of_row _ _ _ _ _ _ (blk_new W _)]
  simp [nums, List.getElem?_eq_getElem hj, List.getD_eq_getElem?_getD]
theorem aw_put : sum_Put.f [1, 2] = some (putL [1, 2]) := by decide +kernel
set_option maxRecDepth 100000 in
set_option maxHeartbeats 2000000 in
theorem tumbrellaw01_awake.calls (r : Bool) (w : World) (h : tumbrellaw01_awake.f = some r) :
    Calls Try.prog 32 #[] w fun e w' => e = .returned (.bool r) ∧ Below w.heap.size w w' := by
  obtain rfl := Option.some.inj h
  clear h
  have hidx := idx_tab
  go_enter Try.func32, Try.ntmps32
  go_wp2_with fail
  refine (sum_Put.calls _ 2 [1, 2] (putL [1, 2]) _ (lit_C w 5 [1, 2] (by decide)) (by decide) aw_put).mono ?_
  rintro e w1 ⟨v1, rfl, ho1, hb1⟩
  have HO1 := Aside0.mk ho1
  have HB1 := Aside0.mk (below_step (below_alloc (Below.refl w.heap.size w) _) hb1)
  clear ho1 hb1
  obtain ⟨A1, c1, e1⟩ := Kd.R_slice HO1.out
  subst e1
  go_wp2_with fail
  refine (sum_Cut.calls 20 _ _ (putL [1, 2]) [1, 2] true _ (Kd.R_reads' HO1.out).2.2 (Kd.R_reads' HO1.out).2.1 aw_cut1).mono ?_
  rintro e w2 ⟨v2, rfl, ho2, hb2⟩
  have HO2 := Aside0.mk ho2
  have HB2 := Aside0.mk (below_step HB1.out hb2)
  clear ho2 hb2 HO1
  obtain ⟨A2, c2, e2⟩ := Kd.R_slice HO2.out
  subst e2
  go_wp2_with fail
  refine (sum_Cut.calls 20 _ 5 [1, 2, 3, 4, 5] [] false _ (lit_C w2 5 [1, 2, 3, 4, 5] (by decide)) (by decide) aw_cut2).mono ?_
  rintro e w3 ⟨v3, rfl, ho3, hb3⟩
  have HO3 := Aside0.mk ho3
  have HB23 := Aside0.mk (below_step (below_alloc (Below.refl w2.heap.size w2) (.cells (nums .u8 [1, 2, 3, 4, 5]).toArray 5 (0, 0))) hb3)
  have HB3 := Aside0.mk (below_step HB2.out HB23.out)
  clear ho3 hb3 HO3
  have kc := fun (w : World) (C : Array Value) (n c : Nat) => Go.Lib.run_convert_bytes_const (P := Try.prog) w 23 5 C n c Try.underlying23 Try.underlying5
  have hof : ofL [49, 50, 51, 52, 53, 54, 55, 56, 57] = 3808858755 := aw_of
  have H2 := Aside0.mk (Kd.at_int (Kd.C_below (Kd.R_reads' HO2.out).2.2 HB23.out) 1 (by decide) (by decide))
  obtain ⟨ad, e2, hx⟩ := H2.out
  subst e2
  have hx1 : w3.cell? (ad.add 1) = some (.int .u8 2) := hx
  clear hx
  have hlt : [1, 2].length = 2 := rfl
  go_wp2_with fail
  have HB4 := Aside0.mk (below_alloc HB3.out (.cells (nums .u8 [49, 50, 51, 52, 53, 54, 55, 56, 57]).toArray 5 (9, 10)))
  refine (of_calls _ 9 [49, 50, 51, 52, 53, 54, 55, 56, 57] _ (by decide) (lit_C w3 5 [49, 50, 51, 52, 53, 54, 55, 56, 57] (by decide) (9, 10)) (by decide)).mono ?_
  rintro e w5 ⟨rfl, hb5⟩
  have HB5 := Aside0.mk (below_step HB4.out hb5)
  have hx5 : w5.cell? ⟨ad.block, ad.off + 1, none⟩ = some (.int .u8 2) := pw_cell_below (below_step (below_alloc (Below.refl w3.heap.size w3) _) hb5) hx1
  clear hb5 hx1
  go_wp2_with fail
  refine (table_calls _).mono ?_
  rintro e w6 ⟨rfl, hb6⟩
  have HB6 := Aside0.mk (below_step HB5.out hb6)
  clear hb6
  go_wp2_with fail
  go_ret
  exact ⟨rfl, HB6.out⟩
end Go.Proofs.Ytojepleodijdeaa.B
