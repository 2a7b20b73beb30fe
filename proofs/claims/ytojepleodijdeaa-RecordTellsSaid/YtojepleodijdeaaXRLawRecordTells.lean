-- Printed by a program of this session.
import Derived.Test.YtojepleodijdeaaXR1
import Derived.Test.YtojepleodijdeaaXR2
import Derived.Test.YtojepleodijdeaaXR3
import Derived.Test.YtojepleodijdeaaXR4
import Derived.Test.YtojepleodijdeaaXR5
import Derived.Test.YtojepleodijdeaaXR6
import Derived.Test.YtojepleodijdeaaXR7
import Derived.Test.YtojepleodijdeaaRows
import Derived.WalkKit
import Derived.ProofKit
import Derived.OpenShut
import Derived.ShutString
import Derived.ChangeOld
import Derived.Below
import Derived.SizedLaws
import Derived.Lib.SmallJoins
namespace Go.Proofs.Ytojepleodijdeaa.recordTells
open Go.ChangeShapes Go.WideShapes Go.ChangeAt Go.RowKit Go.Joins Go.Proofs.YtojepleodijdeaaW.PrintWords Go.Proofs.YtojepleodijdeaaW.PrintLast Go.Proofs.YtojepleodijdeaaW.PrintMore
open Go.ChangeMaps (open_string shut_string)
set_option linter.unusedVariables false
set_option linter.unusedSimpArgs false
theorem own : ownKnob Try.prog.godebug = none := by kernel_rfl
theorem laidOut : laidOutB Try.prog = true := by kernel_rfl
theorem zok : Try.prog.cellsOf 56 = 2 := by kernel_rfl
def IsRow (k : IntKind) (w : World) (a : Option Addr) (len cap : Nat) (zs : List Int) : Prop :=
 (a = none ∧ len = 0 ∧ cap = 0 ∧ zs = []) ∨
 ∃ x, a = some x ∧ len ≤ cap ∧ cap ≤ maxLen ∧ zs.length = cap ∧ (∀ i, i < zs.length → w.cell? (x.add i) = some (.int k (zs.getD i 0))) ∧ ∀ n ∈ zs, (Lit.int k n).wf = true
set_option maxRecDepth 100000 in
theorem lifted (os : Os) (started : os.Started) (H : Type) (enc : TypeId × Value → H) :
  ReturnsInHanded {} Try.checked os 16 .any (Rows.recordTellsSpec.pre6 enc Try.prog Try.f16 Rows.recordTellsRow.domain false) (Rows.recordTellsSpec.post enc Try.prog Try.f16 false true false false) := by
 refine returnsInHanded_of_change_sized (C := Try.checked) own started (by kernel_rfl) Try.func16
  (ChangeSpec.witness6 (enc := enc) (C := Try.checked) false ⟨#[], #[.agg #[.int .i64 0, .slice none 0 0, .string (⟨#[]⟩ : ByteArray)], .agg #[.int .i64 0, .slice none 0 0, .string (⟨#[]⟩ : ByteArray)], .agg #[.int .u8 0, .slice none 0 0]], []⟩ 8 (by kernel_rfl) (by kernel_rfl) (by kernel_rfl) (by kernel_rfl)) ?_
 intro W base args ds gs before hval0 hW hcnd hsz0 _
 have hval : ∀ (j : Nat) t v, Try.f16.params[j]? = some t → args[j]? = some v → Value.okWide Try.prog W .any base t v := hval0
 have hW' := hW
 obtain ⟨p, q, hA0, hV, rfl, hfz, hnd⟩ := hW
 have hA : DataW.TrodAll enc Try.prog W 0 (fun _ => true) true Try.f16.params.toList args.toList ds p := hA0
 rw [Try.params16] at hA hval
 obtain ⟨v0, vs0, d0, ds0, p0, q0, hargs, rfl, rfl, h0, r0⟩ := trodAll_cons hA
 obtain ⟨v1, vs1, d1, ds1, p1, q1, rfl, rfl, rfl, h1, r1⟩ := trodAll_cons r0
 obtain ⟨v2, vs2, d2, ds2, p2, q2, rfl, rfl, rfl, h2, r2⟩ := trodAll_cons r1
 obtain ⟨rfl, rfl, rfl⟩ := trodAll_nil r2
 obtain rfl : args = #[v0, v1, v2] := by cases args; simp_all
 obtain ⟨rfl, rfl⟩ := trodVars_none hV
 have k0 := h0
 have lt0 : ∀ x ∈ p0, x.block < W.heap.size := by obtain ⟨m, hm⟩ := k0; exact DataW.trod_lt m _ _ _ hm
 obtain ⟨s0, t0, u0, y00, y01, y02, m0, rfl, rfl, rfl, hy00, hy01, hy02⟩ := open_agg3 Try.underlying80 (by kernel_rfl) B.cells80 (hval 0 80 v0 rfl rfl) h0
 obtain ⟨n0, es0, ey0, wn0⟩ := DataW.trod_int Try.underlying3 hy00
 simp only [List.cons.injEq, and_true] at es0
 subst es0
 obtain ⟨A0, c0, l0, et0, hc0, hm0, hr0, hw0⟩ := B.open_nums hy01
 simp only [List.cons.injEq, and_true] at et0
 subst et0
 obtain ⟨x0, eu0, _, _⟩ := DataW.trod_string Try.underlying9 hy02
 simp only [List.cons.injEq, and_true] at eu0
 subst eu0
 have k1 := h1
 have lt1 : ∀ x ∈ p1, x.block < W.heap.size := by obtain ⟨m, hm⟩ := k1; exact DataW.trod_lt m _ _ _ hm
 obtain ⟨s1, t1, u1, y10, y11, y12, m1, rfl, rfl, rfl, hy10, hy11, hy12⟩ := open_agg3 Try.underlying80 (by kernel_rfl) B.cells80 (hval 1 80 v1 rfl rfl) h1
 obtain ⟨n1, es1, ey1, wn1⟩ := DataW.trod_int Try.underlying3 hy10
 simp only [List.cons.injEq, and_true] at es1
 subst es1
 obtain ⟨A1, c1, l1, et1, hc1, hm1, hr1, hw1⟩ := B.open_nums hy11
 simp only [List.cons.injEq, and_true] at et1
 subst et1
 obtain ⟨x1, eu1, _, _⟩ := DataW.trod_string Try.underlying9 hy12
 simp only [List.cons.injEq, and_true] at eu1
 subst eu1
 have k2 := h2
 have lt2 : ∀ x ∈ p2, x.block < W.heap.size := by obtain ⟨m, hm⟩ := k2; exact DataW.trod_lt m _ _ _ hm
 obtain ⟨s2, t2, y20, y21, m2, rfl, rfl, rfl, hy20, hy21⟩ := open_agg2 Try.underlying56 (by kernel_rfl) zok (hval 2 56 v2 rfl rfl) h2
 obtain ⟨n2, es2, ey2, wn2⟩ := DataW.trod_int Try.underlying5 hy20
 simp only [List.cons.injEq, and_true] at es2
 subst es2
 obtain ⟨a2, len2, cap2, et2⟩ := slice_form Try.underlying23 hy21
 simp only [List.cons.injEq, and_true] at et2
 subst et2
 obtain ⟨z2, w2⟩ : ∃ zs, IsRow .u8 W a2 len2 cap2 zs := by
  rcases open_ints Try.underlying23 Try.underlying5 (by kernel_rfl) hy21 with ⟨hcs, _⟩ | ⟨x, l, c, zs, hcs, _, hl, hm, hz, _, hcell, hwz⟩
  ·simp [Value.cells] at hcs
   obtain ⟨rfl, rfl, rfl⟩ := hcs
   exact ⟨[], .inl ⟨rfl, rfl, rfl, rfl⟩⟩
  ·simp [Value.cells] at hcs
   obtain ⟨rfl, rfl, rfl⟩ := hcs
   exact ⟨zs, .inr ⟨_, rfl, hl, hm, by simpa using hz, hcell, hwz⟩⟩
 obtain ⟨l2, rfl, hr2, hm2, hw2, hc2⟩ := ReadsInt.ofRowC w2
 clear hA0 hval0 hsz0
 obtain ⟨k, h⟩ := Pure.RecordTells n0 wn0 l0 hm0 hw0 x0 n1 wn1 l1 hm1 hw1 x1 n2 wn2 l2 hm2 hw2
 refine (B.tumbrellaw05_RecordTells.calls k n0 (fun _ => True) _ _ l0 x0 n1 (fun _ => True) _ _ l1 x1 n2 _ _ l2 true W (B.nums_V hr0 hc0) (B.nums_V hr1 hc1) (Kd.C_of_reads (d := (0 : Int)) (h1 := fun _ => rfl) hr2) hc2 h rfl).mono fun e W' ⟨he, bel⟩ => ?_
 subst he
 exact ⟨_, rfl, _, _, _, [], _, [], hW', trodAll_mk1 (shut_bool Try.underlying4 _), (trodAll_cons_mk (Below.trod laidOut (by kernel_rfl) (of_decide_eq_true (by kernel_rfl)) k0 bel lt0) (trodAll_cons_mk (Below.trod laidOut (by kernel_rfl) (of_decide_eq_true (by kernel_rfl)) k1 bel lt1) (trodAll_cons_mk (Below.trod laidOut (by kernel_rfl) (of_decide_eq_true (by kernel_rfl)) k2 bel lt2) trodAll_mk0))), rfl, bel.frame _, fun h => by cases h⟩
theorem over : Rows.recordTellsRow.holds Try.pinned (OpenSpec.ofChange Rows.recordTellsSpec) :=
 OpenClaim.holds_of_wide 16 Try.f16 rfl rfl rfl rfl rfl rfl rfl ⟨rfl, rfl, rfl, rfl, rfl⟩ rfl rfl rfl rfl rfl (by kernel_rfl) Try.func16 (by kernel_rfl)
  (of_decide_eq_true (by kernel_rfl)) (by unfold Func.isWrapper; first | (rw [if_pos (by decide +kernel)]; kernel_rfl) | (rw [if_neg (by decide +kernel)]; exact ⟨rfl, rfl⟩))
  (fun os started H enc _ => lifted os started H enc)
theorem proved : Rows.RecordTellsSaid := over
#print axioms proved
end Go.Proofs.Ytojepleodijdeaa.recordTells
namespace Go.Proofs.Ytojepleodijdeaa
theorem recordTells_holds : Rows.RecordTellsSaid := recordTells.proved
end Go.Proofs.Ytojepleodijdeaa
