-- Printed by a program of this session.
import Derived.Test.YtbhkboikholmhaaRows
import Derived.Test.YtbhkboikholmhaaLT
import Derived.Test.YtbhkboikholmhaaPureLifeTells
import Derived.WalkKit
import Derived.ProofKit
import Derived.OpenShut
import Derived.ShutString
import Derived.ChangeOld
import Derived.Below
import Derived.SizedLaws
import Derived.Lib.SmallJoins
import Derived.Test.YtbhkboikholmhaaWSized
namespace Go.Proofs.Ytbhkboikholmhaa.lifeTells
open Go.ChangeShapes Go.WideShapes Go.ChangeAt Go.RowKit Go.Joins Go.Proofs.YtbhkboikholmhaaW.PrintWords Go.Proofs.YtbhkboikholmhaaW.PrintLast Go.Proofs.YtbhkboikholmhaaW.PrintMore
open Go.ChangeMaps (open_string shut_string)
set_option linter.unusedVariables false
set_option linter.unusedSimpArgs false
theorem own : ownKnob Try.prog.godebug = none := by kernel_rfl
theorem laidOut : laidOutB Try.prog = true := by kernel_rfl
theorem cells24 : Try.prog.cellsOf 24 = 4 := by kernel_rfl
theorem cells30 : Try.prog.cellsOf 30 = 4 := by kernel_rfl
def IsRow (k : IntKind) (w : World) (a : Option Addr) (len cap : Nat) (zs : List Int) : Prop :=
  (a = none ∧ len = 0 ∧ cap = 0 ∧ zs = []) ∨
  ∃ x, a = some x ∧ len ≤ cap ∧ cap ≤ maxLen ∧ zs.length = cap ∧ (∀ i, i < zs.length → w.cell? (x.add i) = some (.int k (zs.getD i 0))) ∧ ∀ n ∈ zs, (Lit.int k n).wf = true
set_option maxRecDepth 100000 in
theorem lifted (os : Os) (started : os.Started) (H : Type) (enc : TypeId × Value → H) :
    ReturnsInHanded {} Try.checked os 4 .any (Rows.lifeTellsSpec.pre6 enc Try.prog Try.f4 Rows.lifeTellsRow.domain false) (Rows.lifeTellsSpec.post enc Try.prog Try.f4 false true false false) := by
  refine returnsInHanded_of_change_sized (C := Try.checked) own started (by kernel_rfl) Try.func4
    (ChangeSpec.witness6 (enc := enc) (C := Try.checked) false ⟨#[], #[.agg #[.int .i64 0, .int .i64 0, .int .u64 0, .int .u64 0], .agg #[.int .i64 0, .int .u64 0, .int .u64 0, .int .u64 0], .int .i64 0], []⟩ 8 (by kernel_rfl) (by kernel_rfl) (by kernel_rfl) (by kernel_rfl)) ?_
  intro W base args ds gs before hval0 hW hcnd hsz0 _
  have hval : ∀ (j : Nat) t v, Try.f4.params[j]? = some t → args[j]? = some v → Value.okWide Try.prog W .any base t v := hval0
  have hW' := hW
  obtain ⟨p, q, hA0, hV, rfl, hfz, hnd⟩ := hW
  have hA : DataW.TrodAll enc Try.prog W 0 (fun _ => true) true Try.f4.params.toList args.toList ds p := hA0
  rw [Try.params4] at hA hval
  obtain ⟨v0, vs0, d0, ds0, p0, q0, hargs, rfl, rfl, h0, r0⟩ := trodAll_cons hA
  obtain ⟨v1, vs1, d1, ds1, p1, q1, rfl, rfl, rfl, h1, r1⟩ := trodAll_cons r0
  obtain ⟨v2, vs2, d2, ds2, p2, q2, rfl, rfl, rfl, h2, r2⟩ := trodAll_cons r1
  obtain ⟨rfl, rfl, rfl⟩ := trodAll_nil r2
  obtain rfl : args = #[v0, v1, v2] := by cases args; simp_all
  obtain ⟨rfl, rfl⟩ := trodVars_none hV
  have k0 := h0
  have lt0 : ∀ x ∈ p0, x.block < W.heap.size := by obtain ⟨m, hm⟩ := k0; exact DataW.trod_lt m _ _ _ hm
  obtain ⟨c00, c01, c02, c03, y00, y01, y02, y03, m0, rfl, rfl, rfl, hy00, hy01, hy02, hy03⟩ := open_agg4 Try.underlying24 (by kernel_rfl) cells24 (hval 0 24 v0 rfl rfl) h0
  obtain ⟨n00, es00, ey00, wn00⟩ := DataW.trod_int Try.underlying3 hy00
  simp only [List.cons.injEq, and_true] at es00
  subst es00
  obtain ⟨n01, es01, ey01, wn01⟩ := DataW.trod_int Try.underlying3 hy01
  simp only [List.cons.injEq, and_true] at es01
  subst es01
  obtain ⟨n02, es02, ey02, wn02⟩ := DataW.trod_int Try.underlying22 hy02
  simp only [List.cons.injEq, and_true] at es02
  subst es02
  obtain ⟨n03, es03, ey03, wn03⟩ := DataW.trod_int Try.underlying22 hy03
  simp only [List.cons.injEq, and_true] at es03
  subst es03
  have k1 := h1
  have lt1 : ∀ x ∈ p1, x.block < W.heap.size := by obtain ⟨m, hm⟩ := k1; exact DataW.trod_lt m _ _ _ hm
  obtain ⟨c10, c11, c12, c13, y10, y11, y12, y13, m1, rfl, rfl, rfl, hy10, hy11, hy12, hy13⟩ := open_agg4 Try.underlying30 (by kernel_rfl) cells30 (hval 1 30 v1 rfl rfl) h1
  obtain ⟨n10, es10, ey10, wn10⟩ := DataW.trod_int Try.underlying3 hy10
  simp only [List.cons.injEq, and_true] at es10
  subst es10
  obtain ⟨n11, es11, ey11, wn11⟩ := DataW.trod_int Try.underlying22 hy11
  simp only [List.cons.injEq, and_true] at es11
  subst es11
  obtain ⟨n12, es12, ey12, wn12⟩ := DataW.trod_int Try.underlying22 hy12
  simp only [List.cons.injEq, and_true] at es12
  subst es12
  obtain ⟨n13, es13, ey13, wn13⟩ := DataW.trod_int Try.underlying22 hy13
  simp only [List.cons.injEq, and_true] at es13
  subst es13
  obtain ⟨a2, rfl, rfl, rfl, w2⟩ := open_int Try.underlying3 (hval 2 3 v2 rfl rfl) h2
  clear hA0 hval0 hsz0
  obtain ⟨k, h⟩ := Pure.LifeTells n00 wn00 n01 wn01 n02 wn02 n03 wn03 n10 wn10 n11 wn11 n12 wn12 n13 wn13 a2 w2
  refine (B.tumbrellaw09_LifeTells.calls k n00 n01 n02 n03 n10 n11 n12 n13 a2 true W  h rfl).mono fun e W' ⟨he, bel⟩ => ?_
  subst he
  exact ⟨_, rfl, _, _, _, [], _, [], hW', trodAll_mk1 (shut_bool Try.underlying4 _), (trodAll_cons_mk (Below.trod laidOut (by kernel_rfl) (of_decide_eq_true (by kernel_rfl)) k0 bel lt0) (trodAll_cons_mk (Below.trod laidOut (by kernel_rfl) (of_decide_eq_true (by kernel_rfl)) k1 bel lt1) (trodAll_cons_mk (shut_int Try.underlying3 w2) trodAll_mk0))), rfl, bel.frame _, fun h => by cases h⟩
theorem over : Rows.lifeTellsRow.holds Try.pinned (OpenSpec.ofChange Rows.lifeTellsSpec) :=
  OpenClaim.holds_of_wide 4 Try.f4 rfl rfl rfl rfl rfl rfl rfl ⟨rfl, rfl, rfl, rfl, rfl⟩ rfl rfl rfl rfl rfl (by kernel_rfl) Try.func4 (by kernel_rfl)
    (of_decide_eq_true (by kernel_rfl)) (by unfold Func.isWrapper; first | (rw [if_pos (by decide +kernel)]; kernel_rfl) | (rw [if_neg (by decide +kernel)]; exact ⟨rfl, rfl⟩))
    (fun os started H enc _ => lifted os started H enc)
theorem proved : Rows.LifeTellsSaid := over
#print axioms proved
end Go.Proofs.Ytbhkboikholmhaa.lifeTells
namespace Go.Proofs.Ytbhkboikholmhaa
/-- The row, under a short name, for the claim. -/
theorem lifeTells_holds : Rows.LifeTellsSaid := lifeTells.proved
end Go.Proofs.Ytbhkboikholmhaa
