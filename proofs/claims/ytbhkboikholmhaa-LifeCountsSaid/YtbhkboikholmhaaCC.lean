/- By hand: the closure of LifeCounts, where an act brought what it may. -/
import Derived.Test.YtbhkboikholmhaaL2
namespace Go.Proofs.Ytbhkboikholmhaa.B
open Go.RowKit Go.Proofs.Ytbhkboikholmhaa.LP Go.Proofs.YtbhkboikholmhaaW.PrintWords Go.Proofs.YtbhkboikholmhaaW.PrintLast Go.Proofs.YtbhkboikholmhaaW.PrintMore
set_option linter.unusedVariables false
set_option linter.unusedSimpArgs false
attribute [local go_sem high] eqA24

def InvC (m s c : Int) : Prop := 0 ≤ c ∧ c ≤ m ∧ m ≤ 9223372036854775807 ∧ 1 ≤ m ∧ ((s = 1 ∨ s = 2) → c < m)
set_option maxRecDepth 100000 in
set_option maxHeartbeats 1000000 in
theorem seeC_err (g : Nat) (m s c d t x0 x1 x2 x3 e : Int) (w : World) (hm : w.heap[g]? = some (.cells #[.int .i64 m] 3 (0, 0))) (hI : InvC m s c) (he : e ≠ 0) :
    Calls Try.prog 16 #[.agg #[.int .i64 s, .int .i64 c, .int .u64 d, .int .u64 t], .agg #[.int .i64 0, .int .i64 0, .int .u64 0, .int .u64 0], .agg #[.int .i64 x0, .int .u64 x1, .int .u64 x2, .int .u64 x3], .int .i64 e, .pointer (some ⟨g, 0, none⟩)] w fun e w' => e = .returned (.bool true) ∧ Below w.heap.size w w' := by
  have hcm : ∀ o1 o2 o3, (((w.alloc o1).alloc o2).alloc o3).cell? ⟨g, 0, none⟩ = some (.int .i64 m) := fun o1 o2 o3 => (blk_cell (blk_alloc (blk_alloc (blk_alloc hm o1) o2) o3) 0).trans rfl
  obtain ⟨i0, i1, i2, i3, i4⟩ := hI
  have f0 : (e != 0) = true := bne_iff_ne.mpr (by omega)
  clear i0 i1 i2 i3 i4 hm
  go_enter Try.func16, Try.ntmps16
  go_wp2
  go_ret
  exact ⟨rfl, below_alloc (below_alloc (below_alloc (Below.refl _ _) _) _) _⟩
set_option maxRecDepth 100000 in
set_option maxHeartbeats 1000000 in
theorem seeC_lease (g : Nat) (m c d t x1 x2 x3 r3 r4 : Int) (w : World) (hm : w.heap[g]? = some (.cells #[.int .i64 m] 3 (0, 0))) (hI : InvC m 1 c) :
    Calls Try.prog 16 #[.agg #[.int .i64 1, .int .i64 c, .int .u64 d, .int .u64 t], .agg #[.int .i64 3, .int .i64 (wrap64 (c + 1)), .int .u64 r3, .int .u64 r4], .agg #[.int .i64 0, .int .u64 x1, .int .u64 x2, .int .u64 x3], .int .i64 0, .pointer (some ⟨g, 0, none⟩)] w fun e w' => e = .returned (.bool true) ∧ Below w.heap.size w w' := by
  have hcm : ∀ o1 o2 o3, (((w.alloc o1).alloc o2).alloc o3).cell? ⟨g, 0, none⟩ = some (.int .i64 m) := fun o1 o2 o3 => (blk_cell (blk_alloc (blk_alloc (blk_alloc hm o1) o2) o3) 0).trans rfl
  obtain ⟨i0, i1, i2, i3, i4⟩ := hI
  have f0 : wrap64 (c + 1) = c + 1 := by unfold wrap64; omega
  have f1 : ((c + 1) == 0) = false := beq_eq_false_iff_ne.mpr (by (try unfold wrap64); omega)
  have f2 : ((c + 1) == c) = false := beq_eq_false_iff_ne.mpr (by (try unfold wrap64); omega)
  have f3 : decide (c + 1 ≤ m) = true := decide_eq_true (by omega)
  have f4 : ((wrap64 (c + 1)) == 0) = false := beq_eq_false_iff_ne.mpr (by (try unfold wrap64); omega)
  have f5 : ((wrap64 (c + 1)) == c) = false := beq_eq_false_iff_ne.mpr (by (try unfold wrap64); omega)
  have f6 : decide ((wrap64 (c + 1)) ≤ m) = true := decide_eq_true (by (try unfold wrap64); omega)
  clear i0 i1 i2 i3 i4 hm
  go_enter Try.func16, Try.ntmps16
  go_wp2
  go_ret
  exact ⟨rfl, below_alloc (below_alloc (below_alloc (Below.refl _ _) _) _) _⟩
set_option maxRecDepth 100000 in
set_option maxHeartbeats 1000000 in
theorem seeC_ack_z (g : Nat) (m c d t x1 x2 x3 : Int) (w : World) (hm : w.heap[g]? = some (.cells #[.int .i64 m] 3 (0, 0))) (hI : InvC m 3 c) (hz : c = 0) :
    Calls Try.prog 16 #[.agg #[.int .i64 3, .int .i64 c, .int .u64 d, .int .u64 t], .agg #[.int .i64 5, .int .i64 0, .int .u64 0, .int .u64 0], .agg #[.int .i64 1, .int .u64 x1, .int .u64 x2, .int .u64 x3], .int .i64 0, .pointer (some ⟨g, 0, none⟩)] w fun e w' => e = .returned (.bool true) ∧ Below w.heap.size w w' := by
  have hcm : ∀ o1 o2 o3, (((w.alloc o1).alloc o2).alloc o3).cell? ⟨g, 0, none⟩ = some (.int .i64 m) := fun o1 o2 o3 => (blk_cell (blk_alloc (blk_alloc (blk_alloc hm o1) o2) o3) 0).trans rfl
  obtain ⟨i0, i1, i2, i3, i4⟩ := hI
  have f0 : (0 == (wrap64 (c + 1))) = false := beq_eq_false_iff_ne.mpr (by (try unfold wrap64); omega)
  have f1 : (0 == c) = true := beq_iff_eq.mpr (by omega)
  have f2 : decide (0 ≤ m) = true := decide_eq_true (by (try unfold wrap64); omega)
  have f3 : decide (0 < m) = true := decide_eq_true (by (try unfold wrap64); omega)
  clear i0 i1 i2 i3 i4 hm
  go_enter Try.func16, Try.ntmps16
  go_wp2
  go_ret
  exact ⟨rfl, below_alloc (below_alloc (below_alloc (Below.refl _ _) _) _) _⟩
set_option maxRecDepth 100000 in
set_option maxHeartbeats 1000000 in
theorem seeC_requeue_z (g : Nat) (m c d t x1 x2 x3 : Int) (w : World) (hm : w.heap[g]? = some (.cells #[.int .i64 m] 3 (0, 0))) (hI : InvC m 4 c) (hz : c = 0) :
    Calls Try.prog 16 #[.agg #[.int .i64 4, .int .i64 c, .int .u64 d, .int .u64 t], .agg #[.int .i64 1, .int .i64 0, .int .u64 0, .int .u64 0], .agg #[.int .i64 5, .int .u64 x1, .int .u64 x2, .int .u64 x3], .int .i64 0, .pointer (some ⟨g, 0, none⟩)] w fun e w' => e = .returned (.bool true) ∧ Below w.heap.size w w' := by
  have hcm : ∀ o1 o2 o3, (((w.alloc o1).alloc o2).alloc o3).cell? ⟨g, 0, none⟩ = some (.int .i64 m) := fun o1 o2 o3 => (blk_cell (blk_alloc (blk_alloc (blk_alloc hm o1) o2) o3) 0).trans rfl
  obtain ⟨i0, i1, i2, i3, i4⟩ := hI
  have f0 : (0 == (wrap64 (c + 1))) = false := beq_eq_false_iff_ne.mpr (by (try unfold wrap64); omega)
  have f1 : (0 == c) = true := beq_iff_eq.mpr (by omega)
  have f2 : decide (0 ≤ m) = true := decide_eq_true (by (try unfold wrap64); omega)
  have f3 : decide (0 < m) = true := decide_eq_true (by (try unfold wrap64); omega)
  clear i0 i1 i2 i3 i4 hm
  go_enter Try.func16, Try.ntmps16
  go_wp2
  go_ret
  exact ⟨rfl, below_alloc (below_alloc (below_alloc (Below.refl _ _) _) _) _⟩
set_option maxRecDepth 100000 in
set_option maxHeartbeats 1000000 in
theorem seeC_purge_z (g : Nat) (m c d t x1 x2 x3 : Int) (w : World) (hm : w.heap[g]? = some (.cells #[.int .i64 m] 3 (0, 0))) (hI : InvC m 4 c) (hz : c = 0) :
    Calls Try.prog 16 #[.agg #[.int .i64 4, .int .i64 c, .int .u64 d, .int .u64 t], .agg #[.int .i64 5, .int .i64 0, .int .u64 0, .int .u64 0], .agg #[.int .i64 6, .int .u64 x1, .int .u64 x2, .int .u64 x3], .int .i64 0, .pointer (some ⟨g, 0, none⟩)] w fun e w' => e = .returned (.bool true) ∧ Below w.heap.size w w' := by
  have hcm : ∀ o1 o2 o3, (((w.alloc o1).alloc o2).alloc o3).cell? ⟨g, 0, none⟩ = some (.int .i64 m) := fun o1 o2 o3 => (blk_cell (blk_alloc (blk_alloc (blk_alloc hm o1) o2) o3) 0).trans rfl
  obtain ⟨i0, i1, i2, i3, i4⟩ := hI
  have f0 : (0 == (wrap64 (c + 1))) = false := beq_eq_false_iff_ne.mpr (by (try unfold wrap64); omega)
  have f1 : (0 == c) = true := beq_iff_eq.mpr (by omega)
  have f2 : decide (0 ≤ m) = true := decide_eq_true (by (try unfold wrap64); omega)
  have f3 : decide (0 < m) = true := decide_eq_true (by (try unfold wrap64); omega)
  clear i0 i1 i2 i3 i4 hm
  go_enter Try.func16, Try.ntmps16
  go_wp2
  go_ret
  exact ⟨rfl, below_alloc (below_alloc (below_alloc (Below.refl _ _) _) _) _⟩
set_option maxRecDepth 100000 in
set_option maxHeartbeats 1000000 in
theorem seeC_keep_z (g : Nat) (m s r1 r3 r4 x0 c d t x1 x2 x3 : Int) (w : World) (hm : w.heap[g]? = some (.cells #[.int .i64 m] 3 (0, 0))) (hI : InvC m s c) (hz : c = 0) (hx : x0 ≠ 0 ∧ x0 ≠ 1 ∧ x0 ≠ 5 ∧ x0 ≠ 6) (hr : r1 ≠ 1) :
    Calls Try.prog 16 #[.agg #[.int .i64 s, .int .i64 c, .int .u64 d, .int .u64 t], .agg #[.int .i64 r1, .int .i64 c, .int .u64 r3, .int .u64 r4], .agg #[.int .i64 x0, .int .u64 x1, .int .u64 x2, .int .u64 x3], .int .i64 0, .pointer (some ⟨g, 0, none⟩)] w fun e w' => e = .returned (.bool true) ∧ Below w.heap.size w w' := by
  have hcm : ∀ o1 o2 o3, (((w.alloc o1).alloc o2).alloc o3).cell? ⟨g, 0, none⟩ = some (.int .i64 m) := fun o1 o2 o3 => (blk_cell (blk_alloc (blk_alloc (blk_alloc hm o1) o2) o3) 0).trans rfl
  obtain ⟨i0, i1, i2, i3, i4⟩ := hI
  have f0 : (c == (wrap64 (c + 1))) = false := beq_eq_false_iff_ne.mpr (by (try unfold wrap64); omega)
  have f1 : (c == 0) = true := beq_iff_eq.mpr (by omega)
  have f2 : decide (c ≤ m) = true := decide_eq_true (by (try unfold wrap64); omega)
  have f3 : decide (0 ≤ m) = true := decide_eq_true (by (try unfold wrap64); omega)
  have f4 : decide (0 < m) = true := decide_eq_true (by (try unfold wrap64); omega)
  have f5 : (x0 == 0) = false := beq_eq_false_iff_ne.mpr (by (try unfold wrap64); omega)
  have f6 : (x0 == 1) = false := beq_eq_false_iff_ne.mpr (by (try unfold wrap64); omega)
  have f7 : (x0 == 5) = false := beq_eq_false_iff_ne.mpr (by (try unfold wrap64); omega)
  have f8 : (x0 == 6) = false := beq_eq_false_iff_ne.mpr (by (try unfold wrap64); omega)
  have f9 : (r1 != 1) = true := bne_iff_ne.mpr (by omega)
  have f10 : (r1 == 1) = false := beq_eq_false_iff_ne.mpr (by (try unfold wrap64); omega)
  clear i0 i1 i2 i3 i4 hm
  go_enter Try.func16, Try.ntmps16
  go_wp2
  go_ret
  exact ⟨rfl, below_alloc (below_alloc (below_alloc (Below.refl _ _) _) _) _⟩
set_option maxRecDepth 100000 in
set_option maxHeartbeats 1000000 in
theorem seeC_keep1_z (g : Nat) (m s r3 r4 x0 c d t x1 x2 x3 : Int) (w : World) (hm : w.heap[g]? = some (.cells #[.int .i64 m] 3 (0, 0))) (hI : InvC m s c) (hz : c = 0) (hx : x0 ≠ 0 ∧ x0 ≠ 1 ∧ x0 ≠ 5 ∧ x0 ≠ 6) (hlt : c < m) :
    Calls Try.prog 16 #[.agg #[.int .i64 s, .int .i64 c, .int .u64 d, .int .u64 t], .agg #[.int .i64 1, .int .i64 c, .int .u64 r3, .int .u64 r4], .agg #[.int .i64 x0, .int .u64 x1, .int .u64 x2, .int .u64 x3], .int .i64 0, .pointer (some ⟨g, 0, none⟩)] w fun e w' => e = .returned (.bool true) ∧ Below w.heap.size w w' := by
  have hcm : ∀ o1 o2 o3, (((w.alloc o1).alloc o2).alloc o3).cell? ⟨g, 0, none⟩ = some (.int .i64 m) := fun o1 o2 o3 => (blk_cell (blk_alloc (blk_alloc (blk_alloc hm o1) o2) o3) 0).trans rfl
  obtain ⟨i0, i1, i2, i3, i4⟩ := hI
  have f0 : (c == (wrap64 (c + 1))) = false := beq_eq_false_iff_ne.mpr (by (try unfold wrap64); omega)
  have f1 : (c == 0) = true := beq_iff_eq.mpr (by omega)
  have f2 : decide (c ≤ m) = true := decide_eq_true (by (try unfold wrap64); omega)
  have f3 : decide (0 ≤ m) = true := decide_eq_true (by (try unfold wrap64); omega)
  have f4 : decide (0 < m) = true := decide_eq_true (by (try unfold wrap64); omega)
  have f5 : (x0 == 0) = false := beq_eq_false_iff_ne.mpr (by (try unfold wrap64); omega)
  have f6 : (x0 == 1) = false := beq_eq_false_iff_ne.mpr (by (try unfold wrap64); omega)
  have f7 : (x0 == 5) = false := beq_eq_false_iff_ne.mpr (by (try unfold wrap64); omega)
  have f8 : (x0 == 6) = false := beq_eq_false_iff_ne.mpr (by (try unfold wrap64); omega)
  have f9 : decide (c < m) = true := decide_eq_true (by (try unfold wrap64); omega)
  clear i0 i1 i2 i3 i4 hm
  go_enter Try.func16, Try.ntmps16
  go_wp2
  go_ret
  exact ⟨rfl, below_alloc (below_alloc (below_alloc (Below.refl _ _) _) _) _⟩
set_option maxRecDepth 100000 in
set_option maxHeartbeats 1000000 in
theorem seeC_ack_n (g : Nat) (m c d t x1 x2 x3 : Int) (w : World) (hm : w.heap[g]? = some (.cells #[.int .i64 m] 3 (0, 0))) (hI : InvC m 3 c) (hz : c ≠ 0) :
    Calls Try.prog 16 #[.agg #[.int .i64 3, .int .i64 c, .int .u64 d, .int .u64 t], .agg #[.int .i64 5, .int .i64 0, .int .u64 0, .int .u64 0], .agg #[.int .i64 1, .int .u64 x1, .int .u64 x2, .int .u64 x3], .int .i64 0, .pointer (some ⟨g, 0, none⟩)] w fun e w' => e = .returned (.bool true) ∧ Below w.heap.size w w' := by
  have hcm : ∀ o1 o2 o3, (((w.alloc o1).alloc o2).alloc o3).cell? ⟨g, 0, none⟩ = some (.int .i64 m) := fun o1 o2 o3 => (blk_cell (blk_alloc (blk_alloc (blk_alloc hm o1) o2) o3) 0).trans rfl
  obtain ⟨i0, i1, i2, i3, i4⟩ := hI
  have f0 : (0 == (wrap64 (c + 1))) = false := beq_eq_false_iff_ne.mpr (by (try unfold wrap64); omega)
  have f1 : (0 == c) = false := beq_eq_false_iff_ne.mpr (by (try unfold wrap64); omega)
  have f2 : decide (0 ≤ m) = true := decide_eq_true (by (try unfold wrap64); omega)
  have f3 : decide (0 < m) = true := decide_eq_true (by (try unfold wrap64); omega)
  clear i0 i1 i2 i3 i4 hm
  go_enter Try.func16, Try.ntmps16
  go_wp2
  go_ret
  exact ⟨rfl, below_alloc (below_alloc (below_alloc (Below.refl _ _) _) _) _⟩
set_option maxRecDepth 100000 in
set_option maxHeartbeats 1000000 in
theorem seeC_requeue_n (g : Nat) (m c d t x1 x2 x3 : Int) (w : World) (hm : w.heap[g]? = some (.cells #[.int .i64 m] 3 (0, 0))) (hI : InvC m 4 c) (hz : c ≠ 0) :
    Calls Try.prog 16 #[.agg #[.int .i64 4, .int .i64 c, .int .u64 d, .int .u64 t], .agg #[.int .i64 1, .int .i64 0, .int .u64 0, .int .u64 0], .agg #[.int .i64 5, .int .u64 x1, .int .u64 x2, .int .u64 x3], .int .i64 0, .pointer (some ⟨g, 0, none⟩)] w fun e w' => e = .returned (.bool true) ∧ Below w.heap.size w w' := by
  have hcm : ∀ o1 o2 o3, (((w.alloc o1).alloc o2).alloc o3).cell? ⟨g, 0, none⟩ = some (.int .i64 m) := fun o1 o2 o3 => (blk_cell (blk_alloc (blk_alloc (blk_alloc hm o1) o2) o3) 0).trans rfl
  obtain ⟨i0, i1, i2, i3, i4⟩ := hI
  have f0 : (0 == (wrap64 (c + 1))) = false := beq_eq_false_iff_ne.mpr (by (try unfold wrap64); omega)
  have f1 : (0 == c) = false := beq_eq_false_iff_ne.mpr (by (try unfold wrap64); omega)
  have f2 : decide (0 ≤ m) = true := decide_eq_true (by (try unfold wrap64); omega)
  have f3 : decide (0 < m) = true := decide_eq_true (by (try unfold wrap64); omega)
  clear i0 i1 i2 i3 i4 hm
  go_enter Try.func16, Try.ntmps16
  go_wp2
  go_ret
  exact ⟨rfl, below_alloc (below_alloc (below_alloc (Below.refl _ _) _) _) _⟩
set_option maxRecDepth 100000 in
set_option maxHeartbeats 1000000 in
theorem seeC_purge_n (g : Nat) (m c d t x1 x2 x3 : Int) (w : World) (hm : w.heap[g]? = some (.cells #[.int .i64 m] 3 (0, 0))) (hI : InvC m 4 c) (hz : c ≠ 0) :
    Calls Try.prog 16 #[.agg #[.int .i64 4, .int .i64 c, .int .u64 d, .int .u64 t], .agg #[.int .i64 5, .int .i64 0, .int .u64 0, .int .u64 0], .agg #[.int .i64 6, .int .u64 x1, .int .u64 x2, .int .u64 x3], .int .i64 0, .pointer (some ⟨g, 0, none⟩)] w fun e w' => e = .returned (.bool true) ∧ Below w.heap.size w w' := by
  have hcm : ∀ o1 o2 o3, (((w.alloc o1).alloc o2).alloc o3).cell? ⟨g, 0, none⟩ = some (.int .i64 m) := fun o1 o2 o3 => (blk_cell (blk_alloc (blk_alloc (blk_alloc hm o1) o2) o3) 0).trans rfl
  obtain ⟨i0, i1, i2, i3, i4⟩ := hI
  have f0 : (0 == (wrap64 (c + 1))) = false := beq_eq_false_iff_ne.mpr (by (try unfold wrap64); omega)
  have f1 : (0 == c) = false := beq_eq_false_iff_ne.mpr (by (try unfold wrap64); omega)
  have f2 : decide (0 ≤ m) = true := decide_eq_true (by (try unfold wrap64); omega)
  have f3 : decide (0 < m) = true := decide_eq_true (by (try unfold wrap64); omega)
  clear i0 i1 i2 i3 i4 hm
  go_enter Try.func16, Try.ntmps16
  go_wp2
  go_ret
  exact ⟨rfl, below_alloc (below_alloc (below_alloc (Below.refl _ _) _) _) _⟩
set_option maxRecDepth 100000 in
set_option maxHeartbeats 1000000 in
theorem seeC_keep_n (g : Nat) (m s r1 r3 r4 x0 c d t x1 x2 x3 : Int) (w : World) (hm : w.heap[g]? = some (.cells #[.int .i64 m] 3 (0, 0))) (hI : InvC m s c) (hz : c ≠ 0) (hx : x0 ≠ 0 ∧ x0 ≠ 1 ∧ x0 ≠ 5 ∧ x0 ≠ 6) (hr : r1 ≠ 1) :
    Calls Try.prog 16 #[.agg #[.int .i64 s, .int .i64 c, .int .u64 d, .int .u64 t], .agg #[.int .i64 r1, .int .i64 c, .int .u64 r3, .int .u64 r4], .agg #[.int .i64 x0, .int .u64 x1, .int .u64 x2, .int .u64 x3], .int .i64 0, .pointer (some ⟨g, 0, none⟩)] w fun e w' => e = .returned (.bool true) ∧ Below w.heap.size w w' := by
  have hcm : ∀ o1 o2 o3, (((w.alloc o1).alloc o2).alloc o3).cell? ⟨g, 0, none⟩ = some (.int .i64 m) := fun o1 o2 o3 => (blk_cell (blk_alloc (blk_alloc (blk_alloc hm o1) o2) o3) 0).trans rfl
  obtain ⟨i0, i1, i2, i3, i4⟩ := hI
  have f0 : (c == (wrap64 (c + 1))) = false := beq_eq_false_iff_ne.mpr (by (try unfold wrap64); omega)
  have f1 : (c == 0) = false := beq_eq_false_iff_ne.mpr (by (try unfold wrap64); omega)
  have f2 : decide (c ≤ m) = true := decide_eq_true (by (try unfold wrap64); omega)
  have f3 : (x0 == 0) = false := beq_eq_false_iff_ne.mpr (by (try unfold wrap64); omega)
  have f4 : (x0 == 1) = false := beq_eq_false_iff_ne.mpr (by (try unfold wrap64); omega)
  have f5 : (x0 == 5) = false := beq_eq_false_iff_ne.mpr (by (try unfold wrap64); omega)
  have f6 : (x0 == 6) = false := beq_eq_false_iff_ne.mpr (by (try unfold wrap64); omega)
  have f7 : (r1 != 1) = true := bne_iff_ne.mpr (by omega)
  have f8 : (r1 == 1) = false := beq_eq_false_iff_ne.mpr (by (try unfold wrap64); omega)
  clear i0 i1 i2 i3 i4 hm
  go_enter Try.func16, Try.ntmps16
  go_wp2
  go_ret
  exact ⟨rfl, below_alloc (below_alloc (below_alloc (Below.refl _ _) _) _) _⟩
set_option maxRecDepth 100000 in
set_option maxHeartbeats 1000000 in
theorem seeC_keep1_n (g : Nat) (m s r3 r4 x0 c d t x1 x2 x3 : Int) (w : World) (hm : w.heap[g]? = some (.cells #[.int .i64 m] 3 (0, 0))) (hI : InvC m s c) (hz : c ≠ 0) (hx : x0 ≠ 0 ∧ x0 ≠ 1 ∧ x0 ≠ 5 ∧ x0 ≠ 6) (hlt : c < m) :
    Calls Try.prog 16 #[.agg #[.int .i64 s, .int .i64 c, .int .u64 d, .int .u64 t], .agg #[.int .i64 1, .int .i64 c, .int .u64 r3, .int .u64 r4], .agg #[.int .i64 x0, .int .u64 x1, .int .u64 x2, .int .u64 x3], .int .i64 0, .pointer (some ⟨g, 0, none⟩)] w fun e w' => e = .returned (.bool true) ∧ Below w.heap.size w w' := by
  have hcm : ∀ o1 o2 o3, (((w.alloc o1).alloc o2).alloc o3).cell? ⟨g, 0, none⟩ = some (.int .i64 m) := fun o1 o2 o3 => (blk_cell (blk_alloc (blk_alloc (blk_alloc hm o1) o2) o3) 0).trans rfl
  obtain ⟨i0, i1, i2, i3, i4⟩ := hI
  have f0 : (c == (wrap64 (c + 1))) = false := beq_eq_false_iff_ne.mpr (by (try unfold wrap64); omega)
  have f1 : (c == 0) = false := beq_eq_false_iff_ne.mpr (by (try unfold wrap64); omega)
  have f2 : decide (c ≤ m) = true := decide_eq_true (by (try unfold wrap64); omega)
  have f3 : (x0 == 0) = false := beq_eq_false_iff_ne.mpr (by (try unfold wrap64); omega)
  have f4 : (x0 == 1) = false := beq_eq_false_iff_ne.mpr (by (try unfold wrap64); omega)
  have f5 : (x0 == 5) = false := beq_eq_false_iff_ne.mpr (by (try unfold wrap64); omega)
  have f6 : (x0 == 6) = false := beq_eq_false_iff_ne.mpr (by (try unfold wrap64); omega)
  have f7 : decide (c < m) = true := decide_eq_true (by (try unfold wrap64); omega)
  clear i0 i1 i2 i3 i4 hm
  go_enter Try.func16, Try.ntmps16
  go_wp2
  go_ret
  exact ⟨rfl, below_alloc (below_alloc (below_alloc (Below.refl _ _) _) _) _⟩
end Go.Proofs.Ytbhkboikholmhaa.B
