/- By hand: tumbrellaw09.LifeCounts: true where its acts are many, or most is less than 1, or lived answers true. -/
import Derived.Test.YtbhkboikholmhaaL3
import Derived.Test.YtbhkboikholmhaaGAwake
namespace Go.Proofs.Ytbhkboikholmhaa.B
open Go.RowKit Go.Proofs.YtbhkboikholmhaaW.PrintWords Go.Proofs.YtbhkboikholmhaaW.PrintLast Go.Proofs.YtbhkboikholmhaaW.PrintMore
set_option linter.unusedVariables false
set_option linter.unusedSimpArgs false

set_option maxRecDepth 100000 in
set_option maxHeartbeats 1000000 in
theorem tumbrellaw09_LifeCounts.calls (k : Nat) (A0 : Option Addr) (c0 : Nat) (l0 : List S30) (a1 : Int) (w : World) (hr0 : Kd.C k30 w A0 l0.length l0) (hc0 : l0.length ≤ c0)
    (h : (l0.length : Int) > 300 ∨ a1 < 1 ∨ tumbrellaw09_lived.f (LP.seeC a1) k l0 a1 = some true) :
    Calls Try.prog 5 #[.slice A0 l0.length c0, .int .i64 a1] w fun e w' => e = .returned (.bool true) ∧ Below w.heap.size w w' := by
  have hmf : ∀ (fn : Fn) (first cap : Array Value) (w : World), (Instr.makeFunc fn first cap).run Try.prog w = .ok (.func fn first cap) w := fun _ _ _ _ => rfl
  have HR0 := Aside0.mk (Kd.C_below hr0 (below_alloc (Below.refl _ _) (.cells #[.int .i64 a1] 3 (0, 0))))
  have HC := Aside0.mk hc0
  clear hr0 hc0
  have BK0 := Aside0.mk (blk_new w (.cells #[.int .i64 a1] 3 (0, 0)))
  have HB0 := Aside0.mk (below_alloc (Below.refl w.heap.size w) (.cells #[.int .i64 a1] 3 (0, 0)))
  by_cases c1 : (l0.length : Int) > 300
  · have hd1 : decide ((300 : Int) < l0.length) = true := decide_eq_true c1
    clear h
    go_enter Try.func5, Try.ntmps5
    go_wp2_with (go_at_call 8; refine (tumbrellaw09_awake.calls true _ rfl).mono ?_; rintro e w1 ⟨rfl, hb1⟩; have HB := Aside0.mk (below_step HB0.out hb1); clear hb1)
    go_ret
    exact ⟨rfl, HB.out⟩
  have hd1 : decide ((300 : Int) < l0.length) = false := decide_eq_false c1
  by_cases c2 : a1 < 1
  · have hd2 : decide (a1 < 1) = true := decide_eq_true c2
    clear h
    go_enter Try.func5, Try.ntmps5
    go_wp2_with (go_at_call 8; refine (tumbrellaw09_awake.calls true _ rfl).mono ?_; rintro e w1 ⟨rfl, hb1⟩; have HB := Aside0.mk (below_step HB0.out hb1); have BK := Aside0.mk (blk_below BK0.out hb1); have hcm : w1.cell? ⟨w.heap.size, 0, none⟩ = some (.int .i64 a1) := (blk_cell BK.out 0).trans rfl; clear hb1)
    go_ret
    exact ⟨rfl, HB.out⟩
  have hd2 : decide (a1 < 1) = false := decide_eq_false c2
  have H := Aside0.mk ((h.resolve_left c1).resolve_left c2)
  clear h c1 c2
  go_enter Try.func5, Try.ntmps5
  go_wp2_with (go_at_call 8; refine (tumbrellaw09_awake.calls true _ rfl).mono ?_; rintro e w1 ⟨rfl, hb1⟩; have HB := Aside0.mk (below_step HB0.out hb1); have HR := Aside0.mk (Kd.C_below HR0.out hb1); have BK := Aside0.mk (blk_below BK0.out hb1); have hcm : w1.cell? ⟨w.heap.size, 0, none⟩ = some (.int .i64 a1) := (blk_cell BK.out 0).trans rfl; clear hb1)
  refine (tumbrellaw09_lived.calls (LP.seeC a1) k A0 c0 l0 a1 true _ 16 _ #[.pointer (some ⟨w.heap.size, 0, none⟩)] Try.func16 (by kernel_rfl) rfl (fun k p0 p1 p2 p3 q0 q1 q2 q3 s0 s1 s2 s3 e0 W hW h => LP.seeC_calls w.heap.size a1 k p0 p1 p2 p3 q0 q1 q2 q3 s0 s1 s2 s3 e0 W (blk_below BK.out hW) h) HR.out HC.out H.out rfl).mono ?_
  rintro e w2 ⟨rfl, hb⟩
  have HB := Aside0.mk (below_step HB.out hb)
  clear hb
  go_wp2_with fail
  go_ret
  exact ⟨rfl, HB.out⟩
end Go.Proofs.Ytbhkboikholmhaa.B
