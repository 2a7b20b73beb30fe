/- Own texts and printed ones, those declarations alone that this claim needs, laid into one text by a program of this session. -/
import Derived.Test.YtojepleodijdeaaXR1
namespace Go.Proofs.Ytojepleodijdeaa.B
open Go.RowKit Go.Proofs.YtojepleodijdeaaW.PrintWords Go.Proofs.YtojepleodijdeaaW.PrintLast Go.Proofs.YtojepleodijdeaaW.PrintMore
attribute [local go_sem] qgz qgx qhj qhk qfx qfj qgj qgk   -- for this text's walks alone
set_option linter.unusedVariables false
set_option linter.unusedSimpArgs false
def tumbrelref02_All.l0 : Nat → List Int → List Int → Int → Option (List Int)
 | 0, _, _, _ => none
 | k + 1, x0, x3, x4 => if x4 < (x0.length : Int) then (if 0 ≤ x4 then ((tumbrelref02_Put.f k (rd x0 x4)).bind fun t235 => (if x3.length + t235.length < 140737488355328 then (tumbrelref02_All.l0 k x0 (x3 ++ t235) (wrap64 (x4 + 1))) else (none))) else (none)) else (some x3)
def tumbrelref02_All.f (k : Nat) (l0 : List Int) : Option (List Int) := tumbrelref02_All.l0 k l0 (([] : List Int)) 0
set_option maxHeartbeats 8000000 in
set_option maxRecDepth 100000 in
theorem tumbrelref02_All.calls (k : Nat) (A0 : Option Addr) (c0 : Nat) (l0 : List Int) (r : List Int) (w : World) (hr0 : Kd.C (Kd.int .u64) w A0 l0.length l0) (hc0 : l0.length ≤ c0) (h : tumbrelref02_All.f k l0 = some r) :
  Calls Try.prog 31 #[.slice A0 l0.length c0] w fun e w' => ∃ v0_ : Value, e = .returned (v0_) ∧ Kd.R (Kd.int .u8) 5 w' w.heap.size (fun _ => True) v0_ r ∧ Below w.heap.size w w' := by
 have HR0 := Aside0.mk hr0
 have HC0 := Aside0.mk hc0
 clear hr0 hc0
 have HB := Aside0.mk (Below.refl w.heap.size w)
 have H : (tumbrelref02_All.l0 k l0 (([] : List Int)) 0) = some r := h
 clear h
 obtain ⟨y231, hy231⟩ : ∃ y_ : List Int, y_ = (([] : List Int)) := ⟨_, rfl⟩
 replace H : (tumbrelref02_All.l0 k l0 y231 0) = some r := by first | (rw [hy231]; with_reducible exact H) | (have H2_ := (Option.bind_some _ _).symm.trans H; rw [hy231]; with_reducible exact H2_) | (have H2_ := (Option.bind_some _ _).symm.trans H; with_reducible exact H2_) | with_reducible exact H | (rw [hy231]; exact H) | exact H
 have Ny231 := Aside0.mk hy231
 clear hy231
 have H' := Aside0.mk H
 clear H
 go_enter Try.func31, Try.ntmps31
 go_wp2_with (first | ((with_reducible refine qcv (N := 5) rfl ?_); refine Kd.R_lit (Kd.int .u8) _ 5 ?hg (N := 5) ?hd (xs := ([] : List Int)) (inner := []) (ok := fun _ => True) (okp := fun _ => True) ?hr ?hp (fun _ hk => hk) trivial (Below.refl _ _) (Nat.le_refl _) (by simp) ?_; (case hd => rfl); (case hg => rfl); (case hr => first | (go_simp; done) | (go_simp; rfl)); (case hp => exact (Reps.none _ _)); intro v232 w2 ho3 hb hg_ hnew_; clear hg_ hnew_; (first | rw [← Ny231.out] at ho3 | (simp only [Int.reduceToNat] at ho3; rw [← Ny231.out] at ho3)); have n0_ := Aside0.mk (Kd.R_lower ho3 (qbx (by repeat (first | (with_reducible first | exact HB.out | apply qax | apply qaq | apply qaz) | exact HB.out)))); have n1_ := Aside0.mk (qbj (by repeat (first | (with_reducible first | exact HB.out | apply qax | apply qaq | apply qaz) | exact HB.out)) hb); clear HB; have HO233 := n0_; have HB := n1_; clear n0_ n1_; clear hb ho3))
 go_loopg [3, 4] k (fun kq v3 v4 w' => ∃ (x3_1 : List Int) (x4_1 : Int), v4 = .int .i64 x4_1 ∧ Aside0 (tumbrelref02_All.l0 kq l0 x3_1 x4_1 = some r) ∧ Aside0 (kq ≤ k) ∧ Aside0 (Kd.R (Kd.int .u8) 5 w' w.heap.size (fun _ => True) v3 x3_1) ∧ Aside0 (Below w.heap.size w w'))
 case atStart => exact ⟨(y231), (0), (by first | rfl | (simp; done) | (simp [*]; done)), H', ⟨Nat.le_refl _⟩, ⟨by (with_reducible repeat (first | apply Kd.R_alloc | apply Kd.R_drewN | apply Kd.R_drew)); exact HO233.out⟩, ⟨by repeat (first | (with_reducible first | exact HB.out | apply qax | apply qaq | apply qaz) | exact HB.out)⟩⟩
 case round =>
  clear H'
  try clear p2
  try clear c3
  obtain ⟨x3_1, x4_1, rfl, HA, HK1, HO_3, HB⟩ := hrel
  cases gk with
  | zero => exact absurd HA.out (by simp [tumbrelref02_All.l0])
  | succ k1 =>
   have H := HA.out
   clear HA
   simp only [tumbrelref02_All.l0] at H
   by_cases c4 : x4_1 < (l0.length : Int)
   ·rw [if_pos c4] at H
    have c4b0 : decide (x4_1 < (l0.length : Int)) = true := decide_eq_true c4
    clear c4
    by_cases c5 : 0 ≤ x4_1
    ·rw [if_pos c5] at H
     have c5b0 : decide (0 ≤ x4_1) = true := decide_eq_true c5
     clear c5
     replace H := Option.bind_eq_some_iff.mp H
     obtain ⟨t235, A60, H⟩ := H
     replace H : (if x3_1.length + t235.length < 140737488355328 then (tumbrelref02_All.l0 k1 l0 (x3_1 ++ t235) (wrap64 (x4_1 + 1))) else (none)) = some r := H
     have A6 := Aside0.mk A60
     clear A60
     by_cases c7 : x3_1.length + t235.length < 140737488355328
     ·rw [if_pos c7] at H
      have LMc7 := Aside0.mk c7
      clear c7
      obtain ⟨y238, hy238⟩ : ∃ y_ : List Int, y_ = (x3_1 ++ t235) := ⟨_, rfl⟩
      replace H : (tumbrelref02_All.l0 k1 l0 y238 (wrap64 (x4_1 + 1))) = some r := by first | (rw [hy238]; with_reducible exact H) | (have H2_ := (Option.bind_some _ _).symm.trans H; rw [hy238]; with_reducible exact H2_) | (have H2_ := (Option.bind_some _ _).symm.trans H; with_reducible exact H2_) | with_reducible exact H | (rw [hy238]; exact H) | exact H
      have Ny238 := Aside0.mk hy238
      clear hy238
      have H' := Aside0.mk H
      clear H
      have p234 : 0 ≤ (x4_1 : Int) := of_decide_eq_true (by first | (with_reducible assumption) | assumption)
      have q234 : x4_1 < (l0.length : Int) := of_decide_eq_true (by first | (with_reducible assumption) | assumption)
      obtain ⟨ad234, e234, hx234_0⟩ := Kd.at_int HR0.out x4_1 p234 q234
      cases e234
      replace hx234_0 := (HB.out.cell (World.block_lt_of_cell? w _ hx234_0)).trans hx234_0
      replace p234 := eq_true p234
      replace q234 := eq_true q234
      go_wp2_with (first | ((with_reducible refine qdq (f := 28) rfl ?_); refine qew (some 17) rfl rfl Try.func28 (by kernel_rfl) rfl #[.int .u64 (rd l0 x4_1)] rfl (by (try simp only [List.map_toArray, List.map_cons, List.map_nil]); first | done | rfl | (simp only [List.length_drop, List.length_take]; rfl)) ?_; (with_reducible refine (tumbrelref02_Put.calls k1 (rd l0 x4_1) t235 _ A6.out).mono ?_); rintro e w8 ⟨v236, rfl, ho0, hb⟩; refine ⟨_, rfl, ?_⟩; have n0_ := Aside0.mk (Kd.R_elder' (by (with_reducible repeat (first | apply Kd.R_alloc | apply Kd.R_drewN | apply Kd.R_drew)); exact HO_3.out) (Kd.R_base ho0) hb); have n1_ := Aside0.mk (Kd.R_lower (Kd.R_new' ho0 (Kd.R_lt (by (with_reducible repeat (first | apply Kd.R_alloc | apply Kd.R_drewN | apply Kd.R_drew)); exact HO_3.out))) (qbx (by repeat (first | (with_reducible first | exact HB.out | apply qax | apply qaq | apply qaz) | exact HB.out)))); have n2_ := Aside0.mk (qbj (by repeat (first | (with_reducible first | exact HB.out | apply qax | apply qaq | apply qaz) | exact HB.out)) hb); clear HO_3; clear HB; have HO_3 := n0_; have HO237 := n1_; have HB := n2_; clear n0_ n1_ n2_; (try clear hb); (try clear hb2); (try clear hk); (try clear hi); (try clear ho0); obtain ⟨Ao10, co10, eo10⟩ := Kd.R_slice HO237.out; subst eo10) | ((with_reducible refine qev (b := .append) (xs := #[.tmp 12, .tmp 17]) rfl ?_); at_builtin; refine Kd.R_append_rows (Kd.int .u8) (w0 := w) w.heap.size rfl (.tmp 12) (.tmp 17) 23 5 (.int .u8 0) 1 rfl Try.underlying23 qgv rfl (by decide) (by omega) u3 x3_1 t235 _ _ _ (fun k_ => some k_ ≠ (.slice Ao10 t235.length co10 : Value).ownBlock) (fun _ => False) rfl rfl ?aO ?aR (fun _ _ h => h) (fun _ h => h.elim) ?aF ?aB ?aS ?aL ?_; (case aR => repeat (first | exact (Kd.R_reads' HO237.out).2.2 | (with_reducible refine Kd.C_alloc ?_ _) | (with_reducible refine Kd.C_drewN ?_ _) | (with_reducible refine Kd.C_drew ?_))); (case aB => exact (by repeat (first | (with_reducible first | exact HB.out | apply qax | apply qaq | apply qaz) | exact HB.out))); (case aF => exact (fun k_ hk => Kd.fresh' (Kd.R_lt (by (with_reducible repeat (first | apply Kd.R_alloc | apply Kd.R_drewN | apply Kd.R_drew)); exact HO237.out)) k_ hk)); (case aO => exact (by (with_reducible repeat (first | apply Kd.R_alloc | apply Kd.R_drewN | apply Kd.R_drew)); exact Kd.R_mono HO_3.out (fun _ hk => hk.2))); (case aS => exact (qbx (by repeat (first | (with_reducible first | exact HB.out | apply qax | apply qaq | apply qaz) | exact HB.out)))); (case aL => have := LMc7.out; omega); intro v239 w9 ho hb hg hat; rw [← Ny238.out] at ho; have n0_ := Aside0.mk (Kd.R_after (ok := (fun _ => True)) (by (with_reducible repeat (first | apply Kd.R_alloc | apply Kd.R_drewN | apply Kd.R_drew)); exact HO237.out) hg hat); have n1_ := Aside0.mk (hb); have n2_ := Aside0.mk (ho); clear HO237; clear HB; clear HO_3; have HO237 := n0_; have HB := n1_; have HO240 := n2_; clear n0_ n1_ n2_; clear ho hb hg hat))
      go_roundg k1
      case measure => have := HK1.out; omega
      case rel => exact ⟨(y238), (wrap64 (x4_1 + 1)), (by first | rfl | (simp; done) | (simp [*]; done)), H', ⟨by have := HK1.out; omega⟩, ⟨by (with_reducible repeat (first | apply Kd.R_alloc | apply Kd.R_drewN | apply Kd.R_drew)); exact Kd.R_mono HO240.out (fun _ hk => trivial)⟩, ⟨by repeat (first | (with_reducible first | exact HB.out | apply qax | apply qaq | apply qaz) | exact HB.out)⟩⟩
     ·rw [if_neg c7] at H
      exact absurd H (by simp)
    ·rw [if_neg c5] at H
     exact absurd H (by simp)
   ·rw [if_neg c4] at H
    have c4b0 : decide (x4_1 < (l0.length : Int)) = false := decide_eq_false c4
    clear c4
    obtain rfl := Option.some.inj H
    go_wp2
    go_ret
    exact ⟨_, by first | rfl | (simp [qcq, qcz] <;> rfl) | (simp [*, qcq, qcz] <;> rfl), by (with_reducible repeat (first | apply Kd.R_alloc | apply Kd.R_drewN | apply Kd.R_drew)); exact HO_3.out, by repeat (first | (with_reducible first | exact HB.out | apply qax | apply qaq | apply qaz) | exact HB.out)⟩
def sum_entry.l0 : Nat → Int → Int → Option (Int)
 | 0, _, _ => none
 | k + 1, x0, x4 => if x4 < 8 then (if (Go.bits .and .u32 x0 1) = 1 then (sum_entry.l0 k (Go.bits .xor .u32 (x0 / 2) 2197175160) (wrap64 (x4 + 1))) else (sum_entry.l0 k (x0 / 2) (wrap64 (x4 + 1)))) else (some x0)
def sum_entry.f (k : Nat) (a0 : Int) : Option (Int) := sum_entry.l0 k a0 0
set_option maxHeartbeats 8000000 in
set_option maxRecDepth 100000 in
theorem sum_entry.calls (k : Nat) (a0 : Int) (r : Int) (w : World) (h : sum_entry.f k a0 = some r) :
  Calls Try.prog 74 #[.int .u32 a0] w fun e w' => e = .returned (.int .u32 r) ∧ Drawn0 w w' := by
 have H : (sum_entry.l0 k a0 0) = some r := h
 clear h
 have H' := Aside0.mk H
 clear H
 go_enter Try.func74, Try.ntmps74
 go_wp2
 go_loopg [0, 4] k (fun kq v0 v4 w' => ∃ (x0_1 : Int) (x4_1 : Int), v0 = .int .u32 x0_1 ∧ v4 = .int .i64 x4_1 ∧ Aside0 (sum_entry.l0 kq x0_1 x4_1 = some r) ∧ Aside0 (kq ≤ k) ∧ Drawn0 w w')
 case atStart => exact ⟨(a0), (0), (by first | rfl | (simp; done) | (simp [*]; done)), (by first | rfl | (simp; done) | (simp [*]; done)), H', ⟨Nat.le_refl _⟩, by repeat (first | exact Drawn0.refl _ | apply Drawn0.step)⟩
 case round =>
  clear H'
  obtain ⟨x0_1, x4_1, rfl, rfl, HA, HK1, ⟨m1, rfl⟩⟩ := hrel
  cases gk with
  | zero => exact absurd HA.out (by simp [sum_entry.l0])
  | succ k1 =>
   have H := HA.out
   clear HA
   simp only [sum_entry.l0] at H
   by_cases c2 : x4_1 < 8
   ·rw [if_pos c2] at H
    have c2b0 : decide (x4_1 < 8) = true := decide_eq_true c2
    clear c2
    by_cases c3 : (Go.bits .and .u32 x0_1 1) = 1
    ·rw [if_pos c3] at H
     have c3b0 : ((Go.bits .and .u32 x0_1 1) == 1) = true := beq_iff_eq.mpr c3
     have c3b1 : ((Go.bits .and .u32 x0_1 1) != 1) = false := bne_eq_false_iff_eq.mpr c3
     clear c3
     have H' := Aside0.mk H
     clear H
     go_wp2
     go_roundg k1
     case measure => have := HK1.out; omega
     case rel => exact ⟨(Go.bits .xor .u32 (x0_1 / 2) 2197175160), (wrap64 (x4_1 + 1)), (by first | rfl | (simp; done) | (simp [*]; done)), (by first | rfl | (simp; done) | (simp [*]; done)), H', ⟨by have := HK1.out; omega⟩, by repeat (first | exact Drawn0.refl _ | apply Drawn0.step)⟩
    ·rw [if_neg c3] at H
     have c3b0 : ((Go.bits .and .u32 x0_1 1) == 1) = false := beq_eq_false_iff_ne.mpr c3
     have c3b1 : ((Go.bits .and .u32 x0_1 1) != 1) = true := bne_iff_ne.mpr c3
     have H' := Aside0.mk H
     clear H
     go_wp2
     go_roundg k1
     case measure => have := HK1.out; omega
     case rel => exact ⟨(x0_1 / 2), (wrap64 (x4_1 + 1)), (by first | rfl | (simp; done) | (simp [*]; done)), (by first | rfl | (simp; done) | (simp [*]; done)), H', ⟨by have := HK1.out; omega⟩, by repeat (first | exact Drawn0.refl _ | apply Drawn0.step)⟩
   ·rw [if_neg c2] at H
    have c2b0 : decide (x4_1 < 8) = false := decide_eq_false c2
    clear c2
    obtain rfl := Option.some.inj H
    go_wp2
    go_ret
    exact ⟨by first | rfl | (simp; done) | (simp [*]; done), by repeat (first | exact Drawn0.refl _ | apply Drawn0.step)⟩
def slices_Equal_byte_byte.l0 : Nat → List Int → List Int → Int → Int → Option (Bool)
 | 0, _, _, _, _ => none
 | k + 1, x0, x1, x12, x13 => if x13 < x12 then (if 0 ≤ x13 then (if x13 < (x0.length : Int) then (if x13 < (x1.length : Int) then (if (rd x0 x13) = (rd x1 x13) then (slices_Equal_byte_byte.l0 k x0 x1 x12 (wrap64 (x13 + 1))) else (some false)) else (none)) else (none)) else (none)) else (some true)
def slices_Equal_byte_byte.f (k : Nat) (l0 : List Int) (l1 : List Int) : Option (Bool) := if (l0.length : Int) = (l1.length : Int) then (slices_Equal_byte_byte.l0 k l0 l1 (l0.length : Int) 0) else (some false)
theorem slices_Equal_byte_byte.mono_l : ∀ k, (∀ y0 y1 y2 y3, LeO (slices_Equal_byte_byte.l0 k y0 y1 y2 y3) (slices_Equal_byte_byte.l0 (k + 1) y0 y1 y2 y3))
 | 0 => fun _ _ _ _ r h => by simp [slices_Equal_byte_byte.l0] at h
 | k + 1 => by
  have ih0 := slices_Equal_byte_byte.mono_l k
  ·intro y0 y1 y2 y3
   unfold slices_Equal_byte_byte.l0
   repeat' first
   | (with_reducible exact ih0 _ _ _ _)
   | (with_reducible exact LeO.refl _)
   | (with_reducible exact LeO.none _)
   | (with_reducible refine LeO.ite ?_ ?_)
   | (with_reducible refine LeO.bind ?_ (fun _ => ?_))
   | exact ih0 _ _ _ _
   | exact LeO.none _
   | refine LeO.ite ?_ ?_
   | refine LeO.bind ?_ (fun _ => ?_)
theorem slices_Equal_byte_byte.mono : ∀ a0 a1 k, LeO (slices_Equal_byte_byte.f k a0 a1) (slices_Equal_byte_byte.f (k + 1) a0 a1) := by
 intro a0 a1 k
 have ih0 := slices_Equal_byte_byte.mono_l k
 unfold slices_Equal_byte_byte.f
 repeat' first
   | (with_reducible exact ih0 _ _ _ _)
   | (with_reducible exact LeO.refl _)
   | (with_reducible exact LeO.none _)
   | (with_reducible refine LeO.ite ?_ ?_)
   | (with_reducible refine LeO.bind ?_ (fun _ => ?_))
   | exact ih0 _ _ _ _
   | exact LeO.none _
   | refine LeO.ite ?_ ?_
   | refine LeO.bind ?_ (fun _ => ?_)
set_option maxHeartbeats 8000000 in
set_option maxRecDepth 100000 in
theorem slices_Equal_byte_byte.calls (k : Nat) (A0 : Option Addr) (c0 : Nat) (l0 : List Int) (A1 : Option Addr) (c1 : Nat) (l1 : List Int) (r : Bool) (w : World) (hr0 : Kd.C (Kd.int .u8) w A0 l0.length l0) (hc0 : l0.length ≤ c0) (hr1 : Kd.C (Kd.int .u8) w A1 l1.length l1) (hc1 : l1.length ≤ c1) (h : slices_Equal_byte_byte.f k l0 l1 = some r) :
  Calls Try.prog 69 #[.slice A0 l0.length c0, .slice A1 l1.length c1] w fun e w' => e = .returned (.bool r) ∧ Drawn0 w w' := by
 have HR0 := Aside0.mk hr0
 have HC0 := Aside0.mk hc0
 clear hr0 hc0
 have HR1 := Aside0.mk hr1
 have HC1 := Aside0.mk hc1
 clear hr1 hc1
 have H : (if (l0.length : Int) = (l1.length : Int) then (slices_Equal_byte_byte.l0 k l0 l1 (l0.length : Int) 0) else (some false)) = some r := h
 clear h
 by_cases c3 : (l0.length : Int) = (l1.length : Int)
 ·rw [if_pos c3] at H
  have c3b0 : ((l0.length : Int) == (l1.length : Int)) = true := beq_iff_eq.mpr c3
  have c3b1 : ((l0.length : Int) != (l1.length : Int)) = false := bne_eq_false_iff_eq.mpr c3
  have c3b2 : (l0.length == l1.length) = true := by first | simpa using c3 | (simp at c3 ⊢; omega)
  clear c3
  have H' := Aside0.mk H
  clear H
  go_enter Try.func69, Try.ntmps69
  go_wp2
  repeat (go_quiet (fail); try go_wp2)
  go_loopg [13] k (fun kq v13 w' => ∃ (x13_1 : Int), v13 = .int .i64 x13_1 ∧ Aside0 (slices_Equal_byte_byte.l0 kq l0 l1 (l0.length : Int) x13_1 = some r) ∧ Aside0 (kq ≤ k) ∧ Drawn0 w w')
  case atStart => exact ⟨(0), (by first | rfl | (simp; done) | (simp [*]; done)), H', ⟨Nat.le_refl _⟩, by repeat (first | exact Drawn0.refl _ | apply Drawn0.step)⟩
  case round =>
   clear H'
   try clear c1
   try clear p2
   try clear c3
   try clear c3b0
   try clear c3b1
   try clear c3b2
   obtain ⟨x13_1, rfl, HA, HK1, ⟨m1, rfl⟩⟩ := hrel
   cases gk with
   | zero => exact absurd HA.out (by simp [slices_Equal_byte_byte.l0])
   | succ k1 =>
    have H := HA.out
    clear HA
    simp only [slices_Equal_byte_byte.l0] at H
    by_cases c4 : x13_1 < (l0.length : Int)
    ·rw [if_pos c4] at H
     have c4b0 : decide (x13_1 < (l0.length : Int)) = true := decide_eq_true c4
     clear c4
     by_cases c5 : 0 ≤ x13_1
     ·rw [if_pos c5] at H
      have c5b0 : decide (0 ≤ x13_1) = true := decide_eq_true c5
      clear c5
      by_cases c6 : x13_1 < (l0.length : Int)
      ·rw [if_pos c6] at H
       have c6b0 : decide (x13_1 < (l0.length : Int)) = true := decide_eq_true c6
       clear c6
       by_cases c7 : x13_1 < (l1.length : Int)
       ·rw [if_pos c7] at H
        have c7b0 : decide (x13_1 < (l1.length : Int)) = true := decide_eq_true c7
        clear c7
        by_cases c8 : (rd l0 x13_1) = (rd l1 x13_1)
        ·rw [if_pos c8] at H
         have c8b0 : ((rd l0 x13_1) == (rd l1 x13_1)) = true := beq_iff_eq.mpr c8
         have c8b1 : ((rd l0 x13_1) != (rd l1 x13_1)) = false := bne_eq_false_iff_eq.mpr c8
         clear c8
         have H' := Aside0.mk H
         clear H
         have p293 : 0 ≤ (x13_1 : Int) := of_decide_eq_true (by first | (with_reducible assumption) | assumption)
         have q293 : x13_1 < (l0.length : Int) := of_decide_eq_true (by first | (with_reducible assumption) | assumption)
         obtain ⟨ad293, e293, hx293_0⟩ := Kd.at_int HR0.out x13_1 p293 q293
         cases e293
         replace p293 := eq_true p293
         replace q293 := eq_true q293
         have p294 : 0 ≤ (x13_1 : Int) := of_decide_eq_true (by first | (with_reducible assumption) | assumption)
         have q294 : x13_1 < (l1.length : Int) := of_decide_eq_true (by first | (with_reducible assumption) | assumption)
         obtain ⟨ad294, e294, hx294_0⟩ := Kd.at_int HR1.out x13_1 p294 q294
         cases e294
         replace p294 := eq_true p294
         replace q294 := eq_true q294
         go_wp2
         repeat (go_quiet (fail); try go_wp2)
         go_roundg k1
         case measure => have := HK1.out; omega
         case rel => exact ⟨(wrap64 (x13_1 + 1)), (by first | rfl | (simp; done) | (simp [*]; done)), H', ⟨by have := HK1.out; omega⟩, by repeat (first | exact Drawn0.refl _ | apply Drawn0.step)⟩
        ·rw [if_neg c8] at H
         have c8b0 : ((rd l0 x13_1) == (rd l1 x13_1)) = false := beq_eq_false_iff_ne.mpr c8
         have c8b1 : ((rd l0 x13_1) != (rd l1 x13_1)) = true := bne_iff_ne.mpr c8
         obtain rfl := Option.some.inj H
         have p293 : 0 ≤ (x13_1 : Int) := of_decide_eq_true (by first | (with_reducible assumption) | assumption)
         have q293 : x13_1 < (l0.length : Int) := of_decide_eq_true (by first | (with_reducible assumption) | assumption)
         obtain ⟨ad293, e293, hx293_0⟩ := Kd.at_int HR0.out x13_1 p293 q293
         cases e293
         replace p293 := eq_true p293
         replace q293 := eq_true q293
         have p294 : 0 ≤ (x13_1 : Int) := of_decide_eq_true (by first | (with_reducible assumption) | assumption)
         have q294 : x13_1 < (l1.length : Int) := of_decide_eq_true (by first | (with_reducible assumption) | assumption)
         obtain ⟨ad294, e294, hx294_0⟩ := Kd.at_int HR1.out x13_1 p294 q294
         cases e294
         replace p294 := eq_true p294
         replace q294 := eq_true q294
         go_wp2
         repeat (go_quiet (fail); try go_wp2)
         go_ret
         exact ⟨by first | rfl | (simp; done) | (simp [*]; done), by repeat (first | exact Drawn0.refl _ | apply Drawn0.step)⟩
       ·rw [if_neg c7] at H
        exact absurd H (by simp)
      ·rw [if_neg c6] at H
       exact absurd H (by simp)
     ·rw [if_neg c5] at H
      exact absurd H (by simp)
    ·rw [if_neg c4] at H
     have c4b0 : decide (x13_1 < (l0.length : Int)) = false := decide_eq_false c4
     clear c4
     obtain rfl := Option.some.inj H
     go_wp2
     repeat (go_quiet (fail); try go_wp2)
     go_ret
     exact ⟨by first | rfl | (simp; done) | (simp [*]; done), by repeat (first | exact Drawn0.refl _ | apply Drawn0.step)⟩
 ·rw [if_neg c3] at H
  have c3b0 : ((l0.length : Int) == (l1.length : Int)) = false := beq_eq_false_iff_ne.mpr c3
  have c3b1 : ((l0.length : Int) != (l1.length : Int)) = true := bne_iff_ne.mpr c3
  have c3b2 : (l0.length == l1.length) = false := by first | simpa using c3 | (simp at c3 ⊢; omega)
  obtain rfl := Option.some.inj H
  go_enter Try.func69, Try.ntmps69
  go_wp2
  repeat (go_quiet (fail); try go_wp2)
  go_ret
  exact ⟨by first | rfl | (simp; done) | (simp [*]; done), by repeat (first | exact Drawn0.refl _ | apply Drawn0.step)⟩
def sum_four.f (a0 : Int) : Option (List Int) := some (([(a0) % 256, (a0 / 256) % 256, (a0 / 65536) % 256, (a0 / 16777216) % 256] : List Int))
set_option maxHeartbeats 8000000 in
set_option maxRecDepth 100000 in
theorem sum_four.calls (a0 : Int) (r : List Int) (w : World) (h : sum_four.f a0 = some r) :
  Calls Try.prog 70 #[.int .u32 a0] w fun e w' => ∃ v0_ : Value, e = .returned (v0_) ∧ Kd.R (Kd.int .u8) 5 w' w.heap.size (fun _ => True) v0_ r ∧ Below w.heap.size w w' := by
 have HB := Aside0.mk (Below.refl w.heap.size w)
 have H : (some (([(a0) % 256, (a0 / 256) % 256, (a0 / 65536) % 256, (a0 / 16777216) % 256] : List Int))) = some r := h
 clear h
 obtain ⟨y295, hy295⟩ : ∃ y_ : List Int, y_ = (([(a0) % 256, (a0 / 256) % 256, (a0 / 65536) % 256, (a0 / 16777216) % 256] : List Int)) := ⟨_, rfl⟩
 replace H : (some y295) = some r := by first | (rw [hy295]; with_reducible exact H) | (have H2_ := (Option.bind_some _ _).symm.trans H; rw [hy295]; with_reducible exact H2_) | (have H2_ := (Option.bind_some _ _).symm.trans H; with_reducible exact H2_) | with_reducible exact H | (rw [hy295]; exact H) | exact H
 have Ny295 := Aside0.mk hy295
 clear hy295
 obtain rfl := Option.some.inj H
 go_enter Try.func70, Try.ntmps70
 go_wp2_with (first | ((with_reducible refine qcv (N := 14) rfl ?_); refine Kd.R_lit (Kd.int .u8) _ 5 ?hg (N := 14) ?hd (xs := ([(a0) % 256, (a0 / 256) % 256, (a0 / 65536) % 256, (a0 / 16777216) % 256] : List Int)) (inner := [.int .u8 ((a0) % 256), .int .u8 ((a0 / 256) % 256), .int .u8 ((a0 / 65536) % 256), .int .u8 ((a0 / 16777216) % 256)]) (ok := fun _ => True) (okp := fun _ => True) ?hr ?hp (fun _ hk => hk) trivial (Below.refl _ _) (Nat.le_refl _) (by simp) ?_; (case hd => rfl); (case hg => rfl); (case hr => first | (go_simp; done) | (go_simp; rfl)); (case hp => exact (Reps.one (show Kd.M (Kd.int .u8) _ _ _ ((a0) % 256) [.int .u8 ((a0) % 256)] from rfl) (Reps.one (show Kd.M (Kd.int .u8) _ _ _ ((a0 / 256) % 256) [.int .u8 ((a0 / 256) % 256)] from rfl) (Reps.one (show Kd.M (Kd.int .u8) _ _ _ ((a0 / 65536) % 256) [.int .u8 ((a0 / 65536) % 256)] from rfl) (Reps.one (show Kd.M (Kd.int .u8) _ _ _ ((a0 / 16777216) % 256) [.int .u8 ((a0 / 16777216) % 256)] from rfl) (Reps.none _ _)))))); intro v296 w2 ho3 hb hg_ hnew_; clear hg_ hnew_; (first | rw [← Ny295.out] at ho3 | (simp only [Int.reduceToNat] at ho3; rw [← Ny295.out] at ho3)); have n0_ := Aside0.mk (Kd.R_lower ho3 (qbx (by repeat (first | (with_reducible first | exact HB.out | apply qax | apply qaq | apply qaz) | exact HB.out)))); have n1_ := Aside0.mk (qbj (by repeat (first | (with_reducible first | exact HB.out | apply qax | apply qaq | apply qaz) | exact HB.out)) hb); clear HB; have HO297 := n0_; have HB := n1_; clear n0_ n1_; clear hb ho3))
 go_ret
 exact ⟨_, by first | rfl | (simp [qcq, qcz] <;> rfl) | (simp [*, qcq, qcz] <;> rfl), by (with_reducible repeat (first | apply Kd.R_alloc | apply Kd.R_drewN | apply Kd.R_drew)); exact HO297.out, by repeat (first | (with_reducible first | exact HB.out | apply qax | apply qaq | apply qaz) | exact HB.out)⟩
def tumbrelref01_Entry.l0 : Nat → Int → Int → Option (Int)
 | 0, _, _ => none
 | k + 1, x0, x3 => if x3 < 8 then (if (Int.tmod x0 2) = 1 then (tumbrelref01_Entry.l0 k (Go.bits .xor .u32 ((Int.tdiv x0 2) % 4294967296) 2197175160) (wrap64 (x3 + 1))) else (tumbrelref01_Entry.l0 k ((Int.tdiv x0 2) % 4294967296) (wrap64 (x3 + 1)))) else (some x0)
def tumbrelref01_Entry.f (k : Nat) (a0 : Int) : Option (Int) := tumbrelref01_Entry.l0 k a0 0
set_option maxHeartbeats 8000000 in
set_option maxRecDepth 100000 in
theorem tumbrelref01_Entry.calls (k : Nat) (a0 : Int) (r : Int) (w : World) (h : tumbrelref01_Entry.f k a0 = some r) :
  Calls Try.prog 42 #[.int .u32 a0] w fun e w' => e = .returned (.int .u32 r) ∧ Drawn0 w w' := by
 have H : (tumbrelref01_Entry.l0 k a0 0) = some r := h
 clear h
 have H' := Aside0.mk H
 clear H
 go_enter Try.func42, Try.ntmps42
 go_wp2
 go_loopg [0, 3] k (fun kq v0 v3 w' => ∃ (x0_1 : Int) (x3_1 : Int), v0 = .int .u32 x0_1 ∧ v3 = .int .i64 x3_1 ∧ Aside0 (tumbrelref01_Entry.l0 kq x0_1 x3_1 = some r) ∧ Aside0 (kq ≤ k) ∧ Drawn0 w w')
 case atStart => exact ⟨(a0), (0), (by first | rfl | (simp; done) | (simp [*]; done)), (by first | rfl | (simp; done) | (simp [*]; done)), H', ⟨Nat.le_refl _⟩, by repeat (first | exact Drawn0.refl _ | apply Drawn0.step)⟩
 case round =>
  clear H'
  obtain ⟨x0_1, x3_1, rfl, rfl, HA, HK1, ⟨m1, rfl⟩⟩ := hrel
  cases gk with
  | zero => exact absurd HA.out (by simp [tumbrelref01_Entry.l0])
  | succ k1 =>
   have H := HA.out
   clear HA
   simp only [tumbrelref01_Entry.l0] at H
   by_cases c2 : x3_1 < 8
   ·rw [if_pos c2] at H
    have c2b0 : decide (x3_1 < 8) = true := decide_eq_true c2
    clear c2
    by_cases c3 : (Int.tmod x0_1 2) = 1
    ·rw [if_pos c3] at H
     have c3b0 : ((Int.tmod x0_1 2) == 1) = true := beq_iff_eq.mpr c3
     have c3b1 : ((Int.tmod x0_1 2) != 1) = false := bne_eq_false_iff_eq.mpr c3
     clear c3
     have H' := Aside0.mk H
     clear H
     go_wp2
     go_roundg k1
     case measure => have := HK1.out; omega
     case rel => exact ⟨(Go.bits .xor .u32 ((Int.tdiv x0_1 2) % 4294967296) 2197175160), (wrap64 (x3_1 + 1)), (by first | rfl | (simp; done) | (simp [*]; done)), (by first | rfl | (simp; done) | (simp [*]; done)), H', ⟨by have := HK1.out; omega⟩, by repeat (first | exact Drawn0.refl _ | apply Drawn0.step)⟩
    ·rw [if_neg c3] at H
     have c3b0 : ((Int.tmod x0_1 2) == 1) = false := beq_eq_false_iff_ne.mpr c3
     have c3b1 : ((Int.tmod x0_1 2) != 1) = true := bne_iff_ne.mpr c3
     have H' := Aside0.mk H
     clear H
     go_wp2
     go_roundg k1
     case measure => have := HK1.out; omega
     case rel => exact ⟨((Int.tdiv x0_1 2) % 4294967296), (wrap64 (x3_1 + 1)), (by first | rfl | (simp; done) | (simp [*]; done)), (by first | rfl | (simp; done) | (simp [*]; done)), H', ⟨by have := HK1.out; omega⟩, by repeat (first | exact Drawn0.refl _ | apply Drawn0.step)⟩
   ·rw [if_neg c2] at H
    have c2b0 : decide (x3_1 < 8) = false := decide_eq_false c2
    clear c2
    obtain rfl := Option.some.inj H
    go_wp2
    go_ret
    exact ⟨by first | rfl | (simp; done) | (simp [*]; done), by repeat (first | exact Drawn0.refl _ | apply Drawn0.step)⟩
def tumbrelref01_More.l0 : Nat → List Int → Int → Int → Option (Int)
 | 0, _, _, _ => none
 | k + 1, x1, x5, x6 => if x6 < (x1.length : Int) then (if 0 ≤ x6 then ((tumbrelref01_Entry.f k (Go.bits .xor .u32 x5 ((rd x1 x6) % 4294967296))).bind fun t311 => (tumbrelref01_More.l0 k x1 t311 (wrap64 (x6 + 1)))) else (none)) else (some ((4294967295 - x5) % 4294967296))
def tumbrelref01_More.f (k : Nat) (a0 : Int) (l1 : List Int) : Option (Int) := tumbrelref01_More.l0 k l1 ((4294967295 - a0) % 4294967296) 0
set_option maxHeartbeats 8000000 in
set_option maxRecDepth 100000 in
theorem tumbrelref01_More.calls (k : Nat) (a0 : Int) (A1 : Option Addr) (c1 : Nat) (l1 : List Int) (r : Int) (w : World) (hr1 : Kd.C (Kd.int .u8) w A1 l1.length l1) (hc1 : l1.length ≤ c1) (h : tumbrelref01_More.f k a0 l1 = some r) :
  Calls Try.prog 38 #[.int .u32 a0, .slice A1 l1.length c1] w fun e w' => e = .returned (.int .u32 r) ∧ Drawn0 w w' := by
 have HR1 := Aside0.mk hr1
 have HC1 := Aside0.mk hc1
 clear hr1 hc1
 have H : (tumbrelref01_More.l0 k l1 ((4294967295 - a0) % 4294967296) 0) = some r := h
 clear h
 have H' := Aside0.mk H
 clear H
 go_enter Try.func38, Try.ntmps38
 go_wp2
 go_loopg [5, 6] k (fun kq v5 v6 w' => ∃ (x5_1 : Int) (x6_1 : Int), v5 = .int .u32 x5_1 ∧ v6 = .int .i64 x6_1 ∧ Aside0 (tumbrelref01_More.l0 kq l1 x5_1 x6_1 = some r) ∧ Aside0 (kq ≤ k) ∧ Drawn0 w w')
 case atStart => exact ⟨((4294967295 - a0) % 4294967296), (0), (by first | rfl | (simp; done) | (simp [*]; done)), (by first | rfl | (simp; done) | (simp [*]; done)), H', ⟨Nat.le_refl _⟩, by repeat (first | exact Drawn0.refl _ | apply Drawn0.step)⟩
 case round =>
  clear H'
  try clear c1
  try clear p2
  obtain ⟨x5_1, x6_1, rfl, rfl, HA, HK1, ⟨m1, rfl⟩⟩ := hrel
  cases gk with
  | zero => exact absurd HA.out (by simp [tumbrelref01_More.l0])
  | succ k1 =>
   have H := HA.out
   clear HA
   simp only [tumbrelref01_More.l0] at H
   by_cases c3 : x6_1 < (l1.length : Int)
   ·rw [if_pos c3] at H
    have c3b0 : decide (x6_1 < (l1.length : Int)) = true := decide_eq_true c3
    clear c3
    by_cases c4 : 0 ≤ x6_1
    ·rw [if_pos c4] at H
     have c4b0 : decide (0 ≤ x6_1) = true := decide_eq_true c4
     clear c4
     replace H := Option.bind_eq_some_iff.mp H
     obtain ⟨t311, A50, H⟩ := H
     replace H : (tumbrelref01_More.l0 k1 l1 t311 (wrap64 (x6_1 + 1))) = some r := H
     have A5 := Aside0.mk A50
     clear A50
     have H' := Aside0.mk H
     clear H
     have p310 : 0 ≤ (x6_1 : Int) := of_decide_eq_true (by first | (with_reducible assumption) | assumption)
     have q310 : x6_1 < (l1.length : Int) := of_decide_eq_true (by first | (with_reducible assumption) | assumption)
     obtain ⟨ad310, e310, hx310_0⟩ := Kd.at_int HR1.out x6_1 p310 q310
     cases e310
     replace p310 := eq_true p310
     replace q310 := eq_true q310
     go_wp2_with (first | ((with_reducible refine qdq (f := 42) rfl ?_); refine qew (some 22) rfl rfl Try.func42 (by kernel_rfl) rfl #[.int .u32 (Go.bits .xor .u32 x5_1 ((rd l1 x6_1) % 4294967296))] rfl (by (try simp only [List.map_toArray, List.map_cons, List.map_nil]); first | done | rfl | (simp only [List.length_drop, List.length_take]; rfl)) ?_; (with_reducible refine (tumbrelref01_Entry.calls k1 (Go.bits .xor .u32 x5_1 ((rd l1 x6_1) % 4294967296)) t311 _ A5.out).mono ?_); rintro e w' ⟨rfl, ⟨nd, rfl⟩⟩; refine ⟨_, rfl, ?_⟩))
     go_roundg k1
     case measure => have := HK1.out; omega
     case rel => exact ⟨(t311), (wrap64 (x6_1 + 1)), (by first | rfl | (simp; done) | (simp [*]; done)), (by first | rfl | (simp; done) | (simp [*]; done)), H', ⟨by have := HK1.out; omega⟩, by repeat (first | exact Drawn0.refl _ | apply Drawn0.step)⟩
    ·rw [if_neg c4] at H
     exact absurd H (by simp)
   ·rw [if_neg c3] at H
    have c3b0 : decide (x6_1 < (l1.length : Int)) = false := decide_eq_false c3
    clear c3
    obtain rfl := Option.some.inj H
    go_wp2
    go_ret
    exact ⟨by first | rfl | (simp; done) | (simp [*]; done), by repeat (first | exact Drawn0.refl _ | apply Drawn0.step)⟩
def tumbrelref01_Of.f (k : Nat) (l0 : List Int) : Option (Int) := (tumbrelref01_More.f k 0 l0).bind fun t312 => (some t312)
set_option maxHeartbeats 8000000 in
set_option maxRecDepth 100000 in
theorem tumbrelref01_Of.calls (k : Nat) (A0 : Option Addr) (c0 : Nat) (l0 : List Int) (r : Int) (w : World) (hr0 : Kd.C (Kd.int .u8) w A0 l0.length l0) (hc0 : l0.length ≤ c0) (h : tumbrelref01_Of.f k l0 = some r) :
  Calls Try.prog 36 #[.slice A0 l0.length c0] w fun e w' => e = .returned (.int .u32 r) ∧ Drawn0 w w' := by
 have HR0 := Aside0.mk hr0
 have HC0 := Aside0.mk hc0
 clear hr0 hc0
 have H : ((tumbrelref01_More.f k 0 l0).bind fun t312 => (some t312)) = some r := h
 clear h
 replace H := Option.bind_eq_some_iff.mp H
 obtain ⟨t312, A20, H⟩ := H
 replace H : (some t312) = some r := H
 have A2 := Aside0.mk A20
 clear A20
 obtain rfl := Option.some.inj H
 go_enter Try.func36, Try.ntmps36
 go_wp2_with (first | ((with_reducible refine qdq (f := 38) rfl ?_); refine qew (some 4) rfl rfl Try.func38 (by kernel_rfl) rfl #[.int .u32 0, .slice A0 l0.length c0] rfl (by (try simp only [List.map_toArray, List.map_cons, List.map_nil]); first | done | rfl | (simp only [List.length_drop, List.length_take]; rfl)) ?_; (with_reducible refine (tumbrelref01_More.calls k 0 _ _ l0 t312 _ ?side1 ?side2 A2.out).mono ?_); (case side1 => repeat (first | exact HR0.out | (with_reducible refine Kd.C_alloc ?_ _) | (with_reducible refine Kd.C_drewN ?_ _) | (with_reducible refine Kd.C_drew ?_))); (case side2 => exact HC0.out); rintro e w' ⟨rfl, ⟨nd, rfl⟩⟩; refine ⟨_, rfl, ?_⟩))
 go_ret
 exact ⟨by first | rfl | (simp; done) | (simp [*]; done), by repeat (first | exact Drawn0.refl _ | apply Drawn0.step)⟩
def tumbrelref01_Four.l0 : Nat → Int → List Int → Int → Option (List Int)
 | 0, _, _, _ => none
 | k + 1, x0, x3, x4 => if x4 < 4 then (if x3.length < 140737488355328 then (tumbrelref01_Four.l0 k ((Int.tdiv x0 256) % 4294967296) (x3 ++ [(Int.tmod x0 256) % 256]) (wrap64 (x4 + 1))) else (none)) else (some x3)
def tumbrelref01_Four.f (k : Nat) (a0 : Int) : Option (List Int) := tumbrelref01_Four.l0 k a0 (([] : List Int)) 0
theorem tumbrelref01_Four.mono_l : ∀ k, (∀ y0 y1 y2, LeO (tumbrelref01_Four.l0 k y0 y1 y2) (tumbrelref01_Four.l0 (k + 1) y0 y1 y2))
 | 0 => fun _ _ _ r h => by simp [tumbrelref01_Four.l0] at h
 | k + 1 => by
  have ih0 := tumbrelref01_Four.mono_l k
  ·intro y0 y1 y2
   unfold tumbrelref01_Four.l0
   repeat' first
   | (with_reducible exact ih0 _ _ _)
   | (with_reducible exact LeO.refl _)
   | (with_reducible exact LeO.none _)
   | (with_reducible refine LeO.ite ?_ ?_)
   | (with_reducible refine LeO.bind ?_ (fun _ => ?_))
   | exact ih0 _ _ _
   | exact LeO.none _
   | refine LeO.ite ?_ ?_
   | refine LeO.bind ?_ (fun _ => ?_)
theorem tumbrelref01_Four.mono : ∀ a0 k, LeO (tumbrelref01_Four.f k a0) (tumbrelref01_Four.f (k + 1) a0) := by
 intro a0 k
 have ih0 := tumbrelref01_Four.mono_l k
 unfold tumbrelref01_Four.f
 repeat' first
   | (with_reducible exact ih0 _ _ _)
   | (with_reducible exact LeO.refl _)
   | (with_reducible exact LeO.none _)
   | (with_reducible refine LeO.ite ?_ ?_)
   | (with_reducible refine LeO.bind ?_ (fun _ => ?_))
   | exact ih0 _ _ _
   | exact LeO.none _
   | refine LeO.ite ?_ ?_
   | refine LeO.bind ?_ (fun _ => ?_)
set_option maxHeartbeats 8000000 in
set_option maxRecDepth 100000 in
theorem tumbrelref01_Four.calls (k : Nat) (a0 : Int) (r : List Int) (w : World) (h : tumbrelref01_Four.f k a0 = some r) :
  Calls Try.prog 73 #[.int .u32 a0] w fun e w' => ∃ v0_ : Value, e = .returned (v0_) ∧ Kd.R (Kd.int .u8) 5 w' w.heap.size (fun _ => True) v0_ r ∧ Below w.heap.size w w' := by
 have HB := Aside0.mk (Below.refl w.heap.size w)
 have H : (tumbrelref01_Four.l0 k a0 (([] : List Int)) 0) = some r := h
 clear h
 obtain ⟨y313, hy313⟩ : ∃ y_ : List Int, y_ = (([] : List Int)) := ⟨_, rfl⟩
 replace H : (tumbrelref01_Four.l0 k a0 y313 0) = some r := by first | (rw [hy313]; with_reducible exact H) | (have H2_ := (Option.bind_some _ _).symm.trans H; rw [hy313]; with_reducible exact H2_) | (have H2_ := (Option.bind_some _ _).symm.trans H; with_reducible exact H2_) | with_reducible exact H | (rw [hy313]; exact H) | exact H
 have Ny313 := Aside0.mk hy313
 clear hy313
 have H' := Aside0.mk H
 clear H
 go_enter Try.func73, Try.ntmps73
 go_wp2_with (first | ((with_reducible refine qcv (N := 5) rfl ?_); refine Kd.R_lit (Kd.int .u8) _ 5 ?hg (N := 5) ?hd (xs := ([] : List Int)) (inner := []) (ok := fun _ => True) (okp := fun _ => True) ?hr ?hp (fun _ hk => hk) trivial (Below.refl _ _) (Nat.le_refl _) (by simp) ?_; (case hd => rfl); (case hg => rfl); (case hr => first | (go_simp; done) | (go_simp; rfl)); (case hp => exact (Reps.none _ _)); intro v314 w2 ho3 hb hg_ hnew_; clear hg_ hnew_; (first | rw [← Ny313.out] at ho3 | (simp only [Int.reduceToNat] at ho3; rw [← Ny313.out] at ho3)); have n0_ := Aside0.mk (Kd.R_lower ho3 (qbx (by repeat (first | (with_reducible first | exact HB.out | apply qax | apply qaq | apply qaz) | exact HB.out)))); have n1_ := Aside0.mk (qbj (by repeat (first | (with_reducible first | exact HB.out | apply qax | apply qaq | apply qaz) | exact HB.out)) hb); clear HB; have HO315 := n0_; have HB := n1_; clear n0_ n1_; clear hb ho3))
 go_loopg [0, 3, 4] k (fun kq v0 v3 v4 w' => ∃ (x0_1 : Int) (x3_1 : List Int) (x4_1 : Int), v0 = .int .u32 x0_1 ∧ v4 = .int .i64 x4_1 ∧ Aside0 (tumbrelref01_Four.l0 kq x0_1 x3_1 x4_1 = some r) ∧ Aside0 (kq ≤ k) ∧ Aside0 (Kd.R (Kd.int .u8) 5 w' w.heap.size (fun _ => True) v3 x3_1) ∧ Aside0 (Below w.heap.size w w'))
 case atStart => exact ⟨(a0), (y313), (0), (by first | rfl | (simp; done) | (simp [*]; done)), (by first | rfl | (simp; done) | (simp [*]; done)), H', ⟨Nat.le_refl _⟩, ⟨by (with_reducible repeat (first | apply Kd.R_alloc | apply Kd.R_drewN | apply Kd.R_drew)); exact HO315.out⟩, ⟨by repeat (first | (with_reducible first | exact HB.out | apply qax | apply qaq | apply qaz) | exact HB.out)⟩⟩
 case round =>
  clear H'
  try clear p2
  obtain ⟨x0_1, x3_1, x4_1, rfl, rfl, HA, HK1, HO_3, HB⟩ := hrel
  cases gk with
  | zero => exact absurd HA.out (by simp [tumbrelref01_Four.l0])
  | succ k1 =>
   have H := HA.out
   clear HA
   simp only [tumbrelref01_Four.l0] at H
   by_cases c4 : x4_1 < 4
   ·rw [if_pos c4] at H
    have c4b0 : decide (x4_1 < 4) = true := decide_eq_true c4
    clear c4
    by_cases c5 : x3_1.length < 140737488355328
    ·rw [if_pos c5] at H
     have LMc5 := Aside0.mk c5
     clear c5
     obtain ⟨y316, hy316⟩ : ∃ y_ : List Int, y_ = (x3_1 ++ [(Int.tmod x0_1 256) % 256]) := ⟨_, rfl⟩
     replace H : (tumbrelref01_Four.l0 k1 ((Int.tdiv x0_1 256) % 4294967296) y316 (wrap64 (x4_1 + 1))) = some r := by first | (rw [hy316]; with_reducible exact H) | (have H2_ := (Option.bind_some _ _).symm.trans H; rw [hy316]; with_reducible exact H2_) | (have H2_ := (Option.bind_some _ _).symm.trans H; with_reducible exact H2_) | with_reducible exact H | (rw [hy316]; exact H) | exact H
     have Ny316 := Aside0.mk hy316
     clear hy316
     have H' := Aside0.mk H
     clear H
     go_wp2_with (first | ((with_reducible refine qev (b := .append) (xs := #[.tmp 10, .tmp 14]) rfl ?_); at_builtin; refine Kd.R_append (Kd.int .u8) (w0 := w) w.heap.size rfl (.tmp 10) (.tmp 14) 23 5 (.int .u8 0) 1 rfl Try.underlying23 qgv rfl (by decide) (by omega) u3 x3_1 ((Int.tmod x0_1 256) % 256) [.int .u8 ((Int.tmod x0_1 256) % 256)] (fun _ => True) (fun _ => False) rfl rfl ?aP (fun _ hk => hk.elim) ?aF ?aO ?aB ?aS ?aL ?_; (case aP => exact rfl); (case aB => exact (by repeat (first | (with_reducible first | exact HB.out | apply qax | apply qaq | apply qaz) | exact HB.out))); (case aF => exact (fun _ _ => trivial)); (case aO => exact (by (with_reducible repeat (first | apply Kd.R_alloc | apply Kd.R_drewN | apply Kd.R_drew)); exact HO_3.out)); (case aS => exact (qbx (by repeat (first | (with_reducible first | exact HB.out | apply qax | apply qaq | apply qaz) | exact HB.out)))); (case aL => have := LMc5.out; omega); intro v317 w6 ho hb hg hat; rw [← Ny316.out] at ho; have n0_ := Aside0.mk (hb); have n1_ := Aside0.mk (ho); clear HB; clear HO_3; have HB := n0_; have HO318 := n1_; clear n0_ n1_; clear ho hb hg hat))
     go_roundg k1
     case measure => have := HK1.out; omega
     case rel => exact ⟨((Int.tdiv x0_1 256) % 4294967296), (y316), (wrap64 (x4_1 + 1)), (by first | rfl | (simp; done) | (simp [*]; done)), (by first | rfl | (simp; done) | (simp [*]; done)), H', ⟨by have := HK1.out; omega⟩, ⟨by (with_reducible repeat (first | apply Kd.R_alloc | apply Kd.R_drewN | apply Kd.R_drew)); exact HO318.out⟩, ⟨by repeat (first | (with_reducible first | exact HB.out | apply qax | apply qaq | apply qaz) | exact HB.out)⟩⟩
    ·rw [if_neg c5] at H
     exact absurd H (by simp)
   ·rw [if_neg c4] at H
    have c4b0 : decide (x4_1 < 4) = false := decide_eq_false c4
    clear c4
    obtain rfl := Option.some.inj H
    go_wp2
    go_ret
    exact ⟨_, by first | rfl | (simp [qcq, qcz] <;> rfl) | (simp [*, qcq, qcz] <;> rfl), by (with_reducible repeat (first | apply Kd.R_alloc | apply Kd.R_drewN | apply Kd.R_drew)); exact HO_3.out, by repeat (first | (with_reducible first | exact HB.out | apply qax | apply qaq | apply qaz) | exact HB.out)⟩
def tumbrelref01_Put.f (k : Nat) (l0 : List Int) : Option (List Int) := (some (([] : List Int) : List Int)).bind fun y319 => (if y319.length + l0.length < 140737488355328 then ((some (y319 ++ l0 : List Int)).bind fun y322 => ((tumbrelref01_Of.f k l0).bind fun t325 => ((tumbrelref01_Four.f k t325).bind fun t326 => (if y322.length + t326.length < 140737488355328 then (some (y322 ++ t326)) else (none))))) else (none))
set_option maxHeartbeats 8000000 in
set_option maxRecDepth 100000 in
theorem tumbrelref01_Put.calls (k : Nat) (A0 : Option Addr) (c0 : Nat) (l0 : List Int) (r : List Int) (w : World) (hr0 : Kd.C (Kd.int .u8) w A0 l0.length l0) (hc0 : l0.length ≤ c0) (h : tumbrelref01_Put.f k l0 = some r) :
  Calls Try.prog 40 #[.slice A0 l0.length c0] w fun e w' => ∃ v0_ : Value, e = .returned (v0_) ∧ Kd.R (Kd.int .u8) 5 w' w.heap.size (fun _ => True) v0_ r ∧ Below w.heap.size w w' := by
 have HR0 := Aside0.mk hr0
 have HC0 := Aside0.mk hc0
 clear hr0 hc0
 have HB := Aside0.mk (Below.refl w.heap.size w)
 have H : ((some (([] : List Int) : List Int)).bind fun y319 => (if y319.length + l0.length < 140737488355328 then ((some (y319 ++ l0 : List Int)).bind fun y322 => ((tumbrelref01_Of.f k l0).bind fun t325 => ((tumbrelref01_Four.f k t325).bind fun t326 => (if y322.length + t326.length < 140737488355328 then (some (y322 ++ t326)) else (none))))) else (none))) = some r := h
 clear h
 obtain ⟨y319, hy319⟩ : ∃ y_ : List Int, y_ = (([] : List Int)) := ⟨_, rfl⟩
 replace H : (if y319.length + l0.length < 140737488355328 then ((some (y319 ++ l0 : List Int)).bind fun y322 => ((tumbrelref01_Of.f k l0).bind fun t325 => ((tumbrelref01_Four.f k t325).bind fun t326 => (if y322.length + t326.length < 140737488355328 then (some (y322 ++ t326)) else (none))))) else (none)) = some r := by first | (rw [hy319]; with_reducible exact H) | (have H2_ := (Option.bind_some _ _).symm.trans H; rw [hy319]; with_reducible exact H2_) | (have H2_ := (Option.bind_some _ _).symm.trans H; with_reducible exact H2_) | with_reducible exact H | (rw [hy319]; exact H) | exact H
 have Ny319 := Aside0.mk hy319
 clear hy319
 by_cases c2 : y319.length + l0.length < 140737488355328
 ·rw [if_pos c2] at H
  have LMc2 := Aside0.mk c2
  clear c2
  obtain ⟨y322, hy322⟩ : ∃ y_ : List Int, y_ = (y319 ++ l0) := ⟨_, rfl⟩
  replace H : ((tumbrelref01_Of.f k l0).bind fun t325 => ((tumbrelref01_Four.f k t325).bind fun t326 => (if y322.length + t326.length < 140737488355328 then (some (y322 ++ t326)) else (none)))) = some r := by first | (rw [hy322]; with_reducible exact H) | (have H2_ := (Option.bind_some _ _).symm.trans H; rw [hy322]; with_reducible exact H2_) | (have H2_ := (Option.bind_some _ _).symm.trans H; with_reducible exact H2_) | with_reducible exact H | (rw [hy322]; exact H) | exact H
  have Ny322 := Aside0.mk hy322
  clear hy322
  replace H := Option.bind_eq_some_iff.mp H
  obtain ⟨t325, A30, H⟩ := H
  replace H : ((tumbrelref01_Four.f k t325).bind fun t326 => (if y322.length + t326.length < 140737488355328 then (some (y322 ++ t326)) else (none))) = some r := H
  have A3 := Aside0.mk A30
  clear A30
  replace H := Option.bind_eq_some_iff.mp H
  obtain ⟨t326, A40, H⟩ := H
  replace H : (if y322.length + t326.length < 140737488355328 then (some (y322 ++ t326)) else (none)) = some r := H
  have A4 := Aside0.mk A40
  clear A40
  by_cases c5 : y322.length + t326.length < 140737488355328
  ·rw [if_pos c5] at H
   have LMc5 := Aside0.mk c5
   clear c5
   obtain ⟨y329, hy329⟩ : ∃ y_ : List Int, y_ = (y322 ++ t326) := ⟨_, rfl⟩
   replace H : (some y329) = some r := by first | (rw [hy329]; with_reducible exact H) | (have H2_ := (Option.bind_some _ _).symm.trans H; rw [hy329]; with_reducible exact H2_) | (have H2_ := (Option.bind_some _ _).symm.trans H; with_reducible exact H2_) | with_reducible exact H | (rw [hy329]; exact H) | exact H
   have Ny329 := Aside0.mk hy329
   clear hy329
   obtain rfl := Option.some.inj H
   go_enter Try.func40, Try.ntmps40
   go_wp2_with (first | ((with_reducible refine qcv (N := 3) rfl ?_); refine Kd.R_lit (Kd.int .u8) _ 5 ?hg (N := 3) ?hd (xs := ([] : List Int)) (inner := []) (ok := fun _ => True) (okp := fun _ => True) ?hr ?hp (fun _ hk => hk) trivial (Below.refl _ _) (Nat.le_refl _) (by simp) ?_; (case hd => rfl); (case hg => rfl); (case hr => first | (go_simp; done) | (go_simp; rfl)); (case hp => exact (Reps.none _ _)); intro v320 w6 ho7 hb hg_ hnew_; clear hg_ hnew_; (first | rw [← Ny319.out] at ho7 | (simp only [Int.reduceToNat] at ho7; rw [← Ny319.out] at ho7)); have n0_ := Aside0.mk (Kd.R_lower ho7 (qbx (by repeat (first | (with_reducible first | exact HB.out | apply qax | apply qaq | apply qaz) | exact HB.out)))); have n1_ := Aside0.mk (qbj (by repeat (first | (with_reducible first | exact HB.out | apply qax | apply qaq | apply qaz) | exact HB.out)) hb); clear HB; have HO321 := n0_; have HB := n1_; clear n0_ n1_; clear hb ho7) | ((with_reducible refine qev (b := .append) (xs := #[.tmp 3, .tmp 4]) rfl ?_); at_builtin; refine Kd.R_append_rows (Kd.int .u8) (w0 := w) w.heap.size rfl (.tmp 3) (.tmp 4) 23 5 (.int .u8 0) 1 rfl Try.underlying23 qgv rfl (by decide) (by omega) v320 y319 l0 _ _ _ (fun _ => True) (fun _ => False) rfl rfl ?aO ?aR (fun _ _ h => h) (fun _ h => h.elim) ?aF ?aB ?aS ?aL ?_; (case aR => repeat (first | exact (Kd.C_below HR0.out HB.out) | (with_reducible refine Kd.C_alloc ?_ _) | (with_reducible refine Kd.C_drewN ?_ _) | (with_reducible refine Kd.C_drew ?_))); (case aB => exact (by repeat (first | (with_reducible first | exact HB.out | apply qax | apply qaq | apply qaz) | exact HB.out))); (case aF => exact (fun _ _ => trivial)); (case aO => exact (by (with_reducible repeat (first | apply Kd.R_alloc | apply Kd.R_drewN | apply Kd.R_drew)); exact HO321.out)); (case aS => exact (qbx (by repeat (first | (with_reducible first | exact HB.out | apply qax | apply qaq | apply qaz) | exact HB.out)))); (case aL => have := LMc2.out; omega); intro v323 w8 ho hb hg hat; rw [← Ny322.out] at ho; have n0_ := Aside0.mk (hb); have n1_ := Aside0.mk (ho); clear HB; clear HO321; have HB := n0_; have HO324 := n1_; clear n0_ n1_; clear ho hb hg hat) | ((with_reducible refine qdq (f := 36) rfl ?_); refine qew (some 7) rfl rfl Try.func36 (by kernel_rfl) rfl #[.slice A0 l0.length c0] rfl (by (try simp only [List.map_toArray, List.map_cons, List.map_nil]); first | done | rfl | (simp only [List.length_drop, List.length_take]; rfl)) ?_; (with_reducible refine (tumbrelref01_Of.calls k _ _ l0 t325 _ ?side1 ?side2 A3.out).mono ?_); (case side1 => repeat (first | exact (Kd.C_below HR0.out HB.out) | (with_reducible refine Kd.C_alloc ?_ _) | (with_reducible refine Kd.C_drewN ?_ _) | (with_reducible refine Kd.C_drew ?_))); (case side2 => exact HC0.out); rintro e w' ⟨rfl, ⟨nd, rfl⟩⟩; refine ⟨_, rfl, ?_⟩) | ((with_reducible refine qdq (f := 73) rfl ?_); refine qew (some 8) rfl rfl Try.func73 (by kernel_rfl) rfl #[.int .u32 t325] rfl (by (try simp only [List.map_toArray, List.map_cons, List.map_nil]); first | done | rfl | (simp only [List.length_drop, List.length_take]; rfl)) ?_; (with_reducible refine (tumbrelref01_Four.calls k t325 t326 _ A4.out).mono ?_); rintro e w9 ⟨v327, rfl, ho0, hb⟩; refine ⟨_, rfl, ?_⟩; have n0_ := Aside0.mk (Kd.R_elder' (by (with_reducible repeat (first | apply Kd.R_alloc | apply Kd.R_drewN | apply Kd.R_drew)); exact HO324.out) (Kd.R_base ho0) hb); have n1_ := Aside0.mk (Kd.R_lower (Kd.R_new' ho0 (Kd.R_lt (by (with_reducible repeat (first | apply Kd.R_alloc | apply Kd.R_drewN | apply Kd.R_drew)); exact HO324.out))) (qbx (by repeat (first | (with_reducible first | exact HB.out | apply qax | apply qaq | apply qaz) | exact HB.out)))); have n2_ := Aside0.mk (qbj (by repeat (first | (with_reducible first | exact HB.out | apply qax | apply qaq | apply qaz) | exact HB.out)) hb); clear HO324; clear HB; have HO324 := n0_; have HO328 := n1_; have HB := n2_; clear n0_ n1_ n2_; (try clear hb); (try clear hb2); (try clear hk); (try clear hi); (try clear ho0); obtain ⟨Ao11, co11, eo11⟩ := Kd.R_slice HO328.out; subst eo11) | ((with_reducible refine qev (b := .append) (xs := #[.tmp 5, .tmp 8]) rfl ?_); at_builtin; refine Kd.R_append_rows (Kd.int .u8) (w0 := w) w.heap.size rfl (.tmp 5) (.tmp 8) 23 5 (.int .u8 0) 1 rfl Try.underlying23 qgv rfl (by decide) (by omega) v323 y322 t326 _ _ _ (fun k_ => some k_ ≠ (.slice Ao11 t326.length co11 : Value).ownBlock) (fun _ => False) rfl rfl ?aO ?aR (fun _ _ h => h) (fun _ h => h.elim) ?aF ?aB ?aS ?aL ?_; (case aR => repeat (first | exact (Kd.R_reads' HO328.out).2.2 | (with_reducible refine Kd.C_alloc ?_ _) | (with_reducible refine Kd.C_drewN ?_ _) | (with_reducible refine Kd.C_drew ?_))); (case aB => exact (by repeat (first | (with_reducible first | exact HB.out | apply qax | apply qaq | apply qaz) | exact HB.out))); (case aF => exact (fun k_ hk => Kd.fresh' (Kd.R_lt (by (with_reducible repeat (first | apply Kd.R_alloc | apply Kd.R_drewN | apply Kd.R_drew)); exact HO328.out)) k_ hk)); (case aO => exact (by (with_reducible repeat (first | apply Kd.R_alloc | apply Kd.R_drewN | apply Kd.R_drew)); exact Kd.R_mono HO324.out (fun _ hk => hk.2))); (case aS => exact (qbx (by repeat (first | (with_reducible first | exact HB.out | apply qax | apply qaq | apply qaz) | exact HB.out)))); (case aL => have := LMc5.out; omega); intro v330 w10 ho hb hg hat; rw [← Ny329.out] at ho; have n0_ := Aside0.mk (Kd.R_after (ok := (fun _ => True)) (by (with_reducible repeat (first | apply Kd.R_alloc | apply Kd.R_drewN | apply Kd.R_drew)); exact HO328.out) hg hat); have n1_ := Aside0.mk (hb); have n2_ := Aside0.mk (ho); clear HO328; clear HB; clear HO324; have HO328 := n0_; have HB := n1_; have HO331 := n2_; clear n0_ n1_ n2_; clear ho hb hg hat))
   go_ret
   exact ⟨_, by first | rfl | (simp [qcq, qcz] <;> rfl) | (simp [*, qcq, qcz] <;> rfl), by (with_reducible repeat (first | apply Kd.R_alloc | apply Kd.R_drewN | apply Kd.R_drew)); exact Kd.R_mono HO331.out (fun _ hk => trivial), by repeat (first | (with_reducible first | exact HB.out | apply qax | apply qaq | apply qaz) | exact HB.out)⟩
  ·rw [if_neg c5] at H
   exact absurd H (by simp)
 ·rw [if_neg c2] at H
  exact absurd H (by simp)
end Go.Proofs.Ytojepleodijdeaa.B
namespace Go.Proofs.Ytojepleodijdeaa.B
open Go.RowKit Go.Proofs.YtojepleodijdeaaW.PrintWords Go.Proofs.YtojepleodijdeaaW.PrintLast Go.Proofs.YtojepleodijdeaaW.PrintMore
attribute [local go_sem] qgz qgx qhj qhk qfx qfj qgj qgk   -- for this text's walks alone
set_option linter.unusedVariables false
set_option linter.unusedSimpArgs false
def frame_low_int.f (a0 : Int) : Option (Int × Int) := some ((Go.bits .and .i64 a0 255) % 256, a0 / 256)
set_option maxHeartbeats 8000000 in
set_option maxRecDepth 100000 in
theorem frame_low_int.calls (a0 : Int) (r1 : Int) (r2 : Int) (w : World) (h : frame_low_int.f a0 = some (r1, r2)) :
  Calls Try.prog 75 #[.int .i64 a0] w fun e w' => e = .returned (.tuple #[.int .u8 r1, .int .i64 r2]) ∧ Drawn0 w w' := by
 have H : (some ((Go.bits .and .i64 a0 255) % 256, a0 / 256)) = some (r1, r2) := h
 clear h
 simp only [Option.some.injEq, Prod.mk.injEq] at H
 obtain ⟨rfl, rfl⟩ := H
 go_enter Try.func75, Try.ntmps75
 go_wp2
 go_ret2
 exact ⟨by first | rfl | (simp; done) | (simp [*]; done), by repeat (first | exact Drawn0.refl _ | apply Drawn0.step)⟩
def tumbrelref04_Bytes.f (k : Nat) (a0_0 : Int) (l0_1 : List Int) : Option (List Int × Int) := if (l0_1.length : Int) > 400 then (some (([] : List Int), 4)) else ((tumbrelref01_Put.f k (([a0_0, (l0_1.length : Int) % 256, (wrap64 ((l0_1.length : Int) / 256)) % 256] : List Int))).bind fun t459 => ((tumbrelref01_Put.f k l0_1).bind fun t462 => (if t459.length + t462.length < 140737488355328 then (some ((t459 ++ t462), 0)) else (none))))
def tumbrelref04_Bytes.T4 : Bool × List (List Nat × List Nat) := (true, [([], []), ([0], [0]), ([], []), ([2], [2]), ([3], [3]), ([], []), ([5], [5]), ([6], [6]), ([1, 4, 7], [1, 4, 7]), ([8], [8]), ([], []), ([10], [10]), ([11, 9], [11]), ([9, 12, 12], [9, 12]), ([13, 13, 0, 1, 2, 3, 4, 5, 6, 7, 8, 9, 10, 11, 12, 13], [13]), ([14, 0, 1, 2, 3, 4, 5, 6, 7, 8, 9, 10, 11, 12, 13, 14], [])])
def tumbrelref04_Bytes.B4 : List Nat := [0, 1, 0, 4, 12, 0, 32, 96, 255, 511, 0, 1024, 4095, 8191, 16383, 32767]
theorem tumbrelref04_Bytes.tab4 : rtab .any (qdv Try.f46 4) = tumbrelref04_Bytes.T4 := by kernel_rfl
theorem tumbrelref04_Bytes.bits4 : qjv tumbrelref04_Bytes.T4.2 tumbrelref04_Bytes.B4 = true := by kernel_rfl
set_option maxHeartbeats 8000000 in
set_option maxRecDepth 100000 in
theorem tumbrelref04_Bytes.calls (k : Nat) (a0_0 : Int) (A0_1 : Option Addr) (c0_1 : Nat) (l0_1 : List Int) (r1 : List Int) (r2 : Int) (w : World) (hr0_1 : Kd.C (Kd.int .u8) w A0_1 l0_1.length l0_1) (hc0_1 : l0_1.length ≤ c0_1) (h : tumbrelref04_Bytes.f k a0_0 l0_1 = some (r1, r2)) :
  Calls Try.prog 46 #[.agg #[.int .u8 a0_0, .slice A0_1 l0_1.length c0_1]] w fun e w' => ∃ v0_ : Value, e = .returned (.tuple #[v0_, .int .i64 r2]) ∧ Kd.R (Kd.int .u8) 5 w' w.heap.size (fun _ => True) v0_ r1 ∧ Below w.heap.size w w' := by
 have hu60 := Try.underlying60
 have HR0_1 := Aside0.mk hr0_1
 have HC0_1 := Aside0.mk hc0_1
 clear hr0_1 hc0_1
 have HB := Aside0.mk (Below.refl w.heap.size w)
 have H : (if (l0_1.length : Int) > 400 then (some (([] : List Int), 4)) else ((tumbrelref01_Put.f k (([a0_0, (l0_1.length : Int) % 256, (wrap64 ((l0_1.length : Int) / 256)) % 256] : List Int))).bind fun t459 => ((tumbrelref01_Put.f k l0_1).bind fun t462 => (if t459.length + t462.length < 140737488355328 then (some ((t459 ++ t462), 0)) else (none))))) = some (r1, r2) := h
 clear h
 by_cases c2 : (l0_1.length : Int) > 400
 ·rw [if_pos c2] at H
  have c2b0 : decide (400 < (l0_1.length : Int)) = true := decide_eq_true c2
  have c2b1 : decide (400 < l0_1.length) = true := decide_eq_true (by omega)
  clear c2
  simp only [Option.some.injEq, Prod.mk.injEq] at H
  obtain ⟨rfl, rfl⟩ := H
  go_enter Try.func46, Try.ntmps46
  go_wp2_with (first | ((with_reducible refine qcv (N := 1) rfl ?_); refine qcw ?hg (N := 1) ?hd (cs := #[.int .u8 a0_0, .slice A0_1 l0_1.length c0_1]) (t := 60) ?hr ?_; (case hd => rfl); (case hg => rfl); (case hr => first | (go_simp; done) | (go_simp; rfl) | (go_simp; simp only [IntKind.wrap_u8]; rw [Int.tmod_eq_emod_of_nonneg (Int.natCast_nonneg _), Int.emod_emod])); intro gb455 hg w3 hbox hb; have n0_ := Aside0.mk (qbj (by repeat (first | (with_reducible first | exact HB.out | apply qax | apply qaq | apply qaz) | exact HB.out)) hb); have n1_ := Aside0.mk (hbox); have n2_ := Aside0.mk ((by rw [hg]; exact (qbx (by repeat (first | (with_reducible first | exact HB.out | apply qax | apply qaq | apply qaz) | exact HB.out))) : w.heap.size ≤ gb455)); have n3_ := Aside0.mk ((by rw [hg]; exact (qbx (by repeat (first | (with_reducible first | exact HB.out | apply qax | apply qaq | apply qaz) | exact HB.out))) : w.heap.size ≤ gb455)); clear HB; have HB := n0_; have BK455 := n1_; have GW455 := n2_; have GE455 := n3_; clear n0_ n1_ n2_ n3_; clear hb hbox hg; have hcz4_0 : w3.cell? ⟨gb455, 0, none⟩ = some (.int .u8 a0_0) := (qbq BK455.out 0).trans rfl; have hcz4_1 : w3.cell? ⟨gb455, 1, none⟩ = some (.slice A0_1 l0_1.length c0_1) := (qbq BK455.out 1).trans rfl; have hfz4_0 := qbz BK455.out 0; have hfz4_1 := qbz BK455.out 1))
  go_ret2
  exact ⟨_, by first | rfl | (simp [qcq, qcz] <;> rfl) | (simp [*, qcq, qcz] <;> rfl), by first | exact Kd.R_nil _ _ _ _ _ | exact Kd.N_nil _ _ _ _ _ | exact Kd.V_nil _ _ _ _ _ | exact Kd.Q_nil _ _ _ _ _ | exact Kd.S_nil _ _ _ _ _, by repeat (first | (with_reducible first | exact HB.out | apply qax | apply qaq | apply qaz | refine qaj ?_ GE455.out) | exact HB.out)⟩
 ·rw [if_neg c2] at H
  have c2b0 : decide (400 < (l0_1.length : Int)) = false := decide_eq_false c2
  have c2b1 : decide (400 < l0_1.length) = false := decide_eq_false (by omega)
  clear c2
  obtain ⟨y456, hy456⟩ : ∃ y_ : List Int, y_ = (([a0_0, (l0_1.length : Int) % 256, (wrap64 ((l0_1.length : Int) / 256)) % 256] : List Int)) := ⟨_, rfl⟩
  replace H : ((tumbrelref01_Put.f k y456).bind fun t459 => ((tumbrelref01_Put.f k l0_1).bind fun t462 => (if t459.length + t462.length < 140737488355328 then (some ((t459 ++ t462), 0)) else (none)))) = some (r1, r2) := by first | (rw [hy456]; with_reducible exact H) | (have H2_ := (Option.bind_some _ _).symm.trans H; rw [hy456]; with_reducible exact H2_) | (have H2_ := (Option.bind_some _ _).symm.trans H; with_reducible exact H2_) | with_reducible exact H | (rw [hy456]; exact H) | exact H
  have Ny456 := Aside0.mk hy456
  clear hy456
  replace H := Option.bind_eq_some_iff.mp H
  obtain ⟨t459, A50, H⟩ := H
  replace H : ((tumbrelref01_Put.f k l0_1).bind fun t462 => (if t459.length + t462.length < 140737488355328 then (some ((t459 ++ t462), 0)) else (none))) = some (r1, r2) := H
  have A5 := Aside0.mk A50
  clear A50
  replace H := Option.bind_eq_some_iff.mp H
  obtain ⟨t462, A60, H⟩ := H
  replace H : (if t459.length + t462.length < 140737488355328 then (some ((t459 ++ t462), 0)) else (none)) = some (r1, r2) := H
  have A6 := Aside0.mk A60
  clear A60
  by_cases c7 : t459.length + t462.length < 140737488355328
  ·rw [if_pos c7] at H
   have LMc7 := Aside0.mk c7
   clear c7
   obtain ⟨y465, hy465⟩ : ∃ y_ : List Int, y_ = (t459 ++ t462) := ⟨_, rfl⟩
   replace H : (some (y465, 0)) = some (r1, r2) := by first | (rw [hy465]; with_reducible exact H) | (have H2_ := (Option.bind_some _ _).symm.trans H; rw [hy465]; with_reducible exact H2_) | (have H2_ := (Option.bind_some _ _).symm.trans H; with_reducible exact H2_) | with_reducible exact H | (rw [hy465]; exact H) | exact H
   have Ny465 := Aside0.mk hy465
   clear hy465
   simp only [Option.some.injEq, Prod.mk.injEq] at H
   obtain ⟨rfl, rfl⟩ := H
   go_enter Try.func46, Try.ntmps46
   try go_wp2_with (first | ((with_reducible refine qcv (N := 1) rfl ?_); refine qcw ?hg (N := 1) ?hd (cs := #[.int .u8 a0_0, .slice A0_1 l0_1.length c0_1]) (t := 60) ?hr ?_; (case hd => rfl); (case hg => rfl); (case hr => first | (go_simp; done) | (go_simp; rfl) | (go_simp; simp only [IntKind.wrap_u8]; rw [Int.tmod_eq_emod_of_nonneg (Int.natCast_nonneg _), Int.emod_emod])); intro gb455 hg w8 hbox hb; have n0_ := Aside0.mk (qbj (by repeat (first | (with_reducible first | exact HB.out | apply qax | apply qaq | apply qaz) | exact HB.out)) hb); have n1_ := Aside0.mk (hbox); have n2_ := Aside0.mk ((by rw [hg]; exact (qbx (by repeat (first | (with_reducible first | exact HB.out | apply qax | apply qaq | apply qaz) | exact HB.out))) : w.heap.size ≤ gb455)); have n3_ := Aside0.mk ((by rw [hg]; exact (qbx (by repeat (first | (with_reducible first | exact HB.out | apply qax | apply qaq | apply qaz) | exact HB.out))) : w.heap.size ≤ gb455)); clear HB; have HB := n0_; have BK455 := n1_; have GW455 := n2_; have GE455 := n3_; clear n0_ n1_ n2_ n3_; clear hb hbox hg; have hcz9_0 : w8.cell? ⟨gb455, 0, none⟩ = some (.int .u8 a0_0) := (qbq BK455.out 0).trans rfl; have hcz9_1 : w8.cell? ⟨gb455, 1, none⟩ = some (.slice A0_1 l0_1.length c0_1) := (qbq BK455.out 1).trans rfl; have hfz9_0 := qbz BK455.out 0; have hfz9_1 := qbz BK455.out 1))
   have n0_ := Aside0.mk (qaw BK455.out)
   have n1_ := Aside0.mk (qaz HB.out)
   clear BK455
   clear HB
   have BK455 := n0_
   have HB := n1_
   clear n0_ n1_
   refine qjz (n := 16) (S := fun w' => w'.cell? ⟨gb455, 0, none⟩ = some (.int .u8 a0_0) ∧ w'.cell? ⟨gb455, 1, none⟩ = some (.slice A0_1 l0_1.length c0_1)) (ds := []) #[false, false, false, false, false, false, false, false, false, false, false, false, false, false, false, false] (by kernel_rfl) rfl rfl ⟨(qbq BK455.out 0).trans rfl, (qbq BK455.out 1).trans rfl⟩ (fun hHeld => ?_); refine qfw tumbrelref04_Bytes.tab4 tumbrelref04_Bytes.bits4 (fun HT_ HW_ => ?_)
   generalize w8.drew = w10 at BK455 HB hHeld ⊢
   refine qcj (i := 0) (N := some 10) (v := ?_) (a' := ?_) #[true, false, false, false, false, false, false, false, false, false, false, false, false, false, false, false] rfl rfl (qbk HT_.out (by kernel_rfl)) (fun _ _ _ h => h) (Or.inl ⟨by rfl, ?_⟩) ?_ ?_
   rotate_left
   ·intro w'
    go_simp
    with_reducible rfl
   rotate_left
   ·simp only [Act.put, List.setIfInBounds_toArray, List.set_cons_zero, List.set_cons_succ, qbv, qbw]
    rfl
   refine qcj (i := 2) (N := some 12) (v := ?_) (a' := ?_) #[true, false, true, false, false, false, false, false, false, false, false, false, false, false, false, false] rfl rfl (qbk HT_.out (by kernel_rfl)) (fun _ _ _ h => h) (Or.inl ⟨by rfl, ?_⟩) ?_ ?_
   rotate_left
   ·intro w'
    go_simp
    with_reducible rfl
   rotate_left
   ·simp only [Act.put, List.setIfInBounds_toArray, List.set_cons_zero, List.set_cons_succ, qbv, qbw]
    rfl
   refine qcj (i := 3) (N := some 13) (v := ?_) (a' := ?_) #[true, false, true, true, false, false, false, false, false, false, false, false, false, false, false, false] rfl rfl (qbk HT_.out (by kernel_rfl)) (fun _ _ _ h => h) (Or.inl ⟨by rfl, ?_⟩) ?_ ?_
   rotate_left
   ·intro w'
    go_simp
    with_reducible rfl
   rotate_left
   ·simp only [Act.put, List.setIfInBounds_toArray, List.set_cons_zero, List.set_cons_succ, qbv, qbw]
    rfl
   refine qcj (i := 4) (N := some 14) (v := ?_) (a' := ?_) #[true, false, true, true, true, false, false, false, false, false, false, false, false, false, false, false] rfl rfl (qbk HT_.out (by kernel_rfl)) (fun _ _ _ h => h) (Or.inl ⟨by rfl, ?_⟩) ?_ ?_
   rotate_left
   ·intro w'
    go_simp
    with_reducible rfl
   rotate_left
   ·simp only [Act.put, List.setIfInBounds_toArray, List.set_cons_zero, List.set_cons_succ, qbv, qbw]
    rfl
   refine qcj (i := 5) (N := some 15) (v := ?_) (a' := ?_) #[true, false, true, true, true, true, false, false, false, false, false, false, false, false, false, false] rfl rfl (qbk HT_.out (by kernel_rfl)) (fun _ _ _ h => h) (Or.inl ⟨by rfl, ?_⟩) ?_ ?_
   rotate_left
   ·intro w'
    go_simp
    with_reducible rfl
   rotate_left
   ·simp only [Act.put, List.setIfInBounds_toArray, List.set_cons_zero, List.set_cons_succ, qbv, qbw]
    rfl
   refine qcj (i := 6) (N := some 16) (v := ?_) (a' := ?_) #[true, false, true, true, true, true, true, false, false, false, false, false, false, false, false, false] rfl rfl (qbk HT_.out (by kernel_rfl)) (fun _ _ _ h => h) (Or.inl ⟨by rfl, ?_⟩) ?_ ?_
   rotate_left
   ·intro w'
    go_simp
    with_reducible rfl
   rotate_left
   ·simp only [Act.put, List.setIfInBounds_toArray, List.set_cons_zero, List.set_cons_succ, qbv, qbw]
    rfl
   refine qcj (i := 7) (N := some 17) (v := ?_) (a' := ?_) #[true, false, true, true, true, true, true, true, false, false, false, false, false, false, false, false] rfl rfl (qbk HT_.out (by kernel_rfl)) (fun _ _ _ h => h) (Or.inl ⟨by rfl, ?_⟩) ?_ ?_
   rotate_left
   ·intro w'
    go_simp
    with_reducible rfl
   rotate_left
   ·simp only [Act.put, List.setIfInBounds_toArray, List.set_cons_zero, List.set_cons_succ, qbv, qbw]
    rfl
   refine qcj (i := 10) (N := some 20) (v := ?_) (a' := ?_) #[true, false, true, true, true, true, true, true, false, false, true, false, false, false, false, false] rfl rfl (qbk HT_.out (by kernel_rfl)) (fun _ _ _ h => h) (Or.inl ⟨by rfl, ?_⟩) ?_ ?_
   rotate_left
   ·intro w'
    go_simp
    with_reducible rfl
   rotate_left
   ·simp only [Act.put, List.setIfInBounds_toArray, List.set_cons_zero, List.set_cons_succ, qbv, qbw]
    rfl
   refine take_ (i := 1) (N := some 11) (v := ?_) (a' := ?_) #[true, true, true, true, true, true, true, true, false, false, true, false, false, false, false, false] rfl rfl (qdk HT_.out HW_.out (by kernel_rfl)) (fun _ _ _ h => h) (Or.inl ⟨by rfl, ?_⟩) hHeld ?_ ?_
   rotate_left
   ·rintro w' ⟨s0, s1⟩
    go_simp
    with_reducible rfl
   rotate_left
   ·simp only [Act.put, List.setIfInBounds_toArray, List.set_cons_zero, List.set_cons_succ, qbv, qbw]
    rfl
   refine take_ (i := 11) (N := some 21) (v := ?_) (a' := ?_) #[true, true, true, true, true, true, true, true, false, false, true, true, false, false, false, false] rfl rfl (qdk HT_.out HW_.out (by kernel_rfl)) (fun _ _ _ h => h) (Or.inl ⟨by rfl, ?_⟩) hHeld ?_ ?_
   rotate_left
   ·rintro w' ⟨s0, s1⟩
    go_simp
    with_reducible rfl
   rotate_left
   ·simp only [Act.put, List.setIfInBounds_toArray, List.set_cons_zero, List.set_cons_succ, qbv, qbw]
    rfl
   refine one_ (i := 8) (N := some 18) #[true, true, true, true, true, true, true, true, true, false, true, true, false, false, false, false] rfl rfl (qfk HT_.out (by kernel_rfl)) (by decide) (fun K hK => ?_)
   refine Kd.R_lit_step (Kd.int .u8) _ 5 ?hg (N := 18) ?hd (xs := ([a0_0, (l0_1.length : Int) % 256, (wrap64 ((l0_1.length : Int) / 256)) % 256] : List Int)) (inner := [.int .u8 a0_0, .int .u8 ((l0_1.length : Int) % 256), .int .u8 ((wrap64 ((l0_1.length : Int) / 256)) % 256)]) (ok := fun _ => True) (okp := fun _ => True) ?hr ?hp (fun _ hk => hk) trivial (Below.refl _ _) (Nat.le_refl _) (by simp) ?_; (case hd => rfl); (case hg => rfl); (case hr => first | (go_simp; done) | (go_simp; rfl) | (go_simp; simp only [IntKind.wrap_u8]; rw [Int.tmod_eq_emod_of_nonneg (Int.natCast_nonneg _), Int.emod_emod])); (case hp => exact (Reps.one (show Kd.M (Kd.int .u8) _ _ _ a0_0 [.int .u8 a0_0] from rfl) (Reps.one (show Kd.M (Kd.int .u8) _ _ _ ((l0_1.length : Int) % 256) [.int .u8 ((l0_1.length : Int) % 256)] from rfl) (Reps.one (show Kd.M (Kd.int .u8) _ _ _ ((wrap64 ((l0_1.length : Int) / 256)) % 256) [.int .u8 ((wrap64 ((l0_1.length : Int) / 256)) % 256)] from rfl) (Reps.none _ _)))))
   intro v457 w11 ho12 hb hg_ hnew_
   clear hg_ hnew_
   (first | rw [← Ny456.out] at ho12 | (simp only [Int.reduceToNat] at ho12; rw [← Ny456.out] at ho12))
   have n0_ := Aside0.mk (Kd.R_lower ho12 (qbx (by repeat (first | (with_reducible first | exact HB.out | apply qax | apply qaq | apply qaz | refine qaj ?_ GE455.out) | exact HB.out))))
   have n1_ := Aside0.mk (qcx (g := gb455) (o := .cells #[.int .u8 a0_0, .slice A0_1 l0_1.length c0_1] 60 (0, 0)) (by (with_reducible repeat (first | refine qav ?_ _ | refine qaw ?_ | refine qak ?_ _)); exact BK455.out) hb)
   have n2_ := Aside0.mk (qbj (by repeat (first | (with_reducible first | exact HB.out | apply qax | apply qaq | apply qaz | refine qaj ?_ GE455.out) | exact HB.out)) hb)
   clear BK455
   clear HB
   have HO458 := n0_
   have BK455 := n1_
   have HB := n2_
   clear n0_ n1_ n2_
   clear hb ho12
   obtain ⟨Ao13, co13, eo13⟩ := Kd.R_slice HO458.out
   (first | subst eo13 | (injection eo13 with f1_ f2_ f3_; have f4_ := f1_.symm; have f5_ := f3_.symm; clear f1_ f2_ f3_; subst f4_; subst f5_))
   refine hK.out _ _ ⟨(qbq BK455.out 0).trans rfl, (qbq BK455.out 1).trans rfl⟩ (fun hHeld => ?_)
   clear hK K
   refine qhz (a' := ?_) ?_ ?_
   rotate_left
   ·show Act.put _ (some 18) _ = _
    simp only [Act.put, List.setIfInBounds_toArray, List.set_cons_zero, List.set_cons_succ, qbv, qbw]
    rfl
   refine one_ (i := 9) (N := some 19) #[true, true, true, true, true, true, true, true, true, true, true, true, false, false, false, false] rfl rfl (qfk HT_.out (by kernel_rfl)) (by decide) (fun K hK => ?_)
   refine qhx Try.func40 (by kernel_rfl) rfl #[.slice Ao13 y456.length co13] (by rfl) rfl rfl (by (try simp only [List.map_toArray, List.map_cons, List.map_nil]); first | done | rfl | (simp only [List.length_drop, List.length_take]; rfl)) ?_
   with_reducible refine (tumbrelref01_Put.calls k _ _ y456 t459 _ ?side1 ?side2 A5.out).mono ?_
   (case side1 => repeat (first | exact (Kd.R_reads' HO458.out).2.2 | (with_reducible refine Kd.C_alloc ?_ _) | (with_reducible refine Kd.C_drewN ?_ _) | (with_reducible refine Kd.C_drew ?_)))
   (case side2 => exact (Kd.R_reads' HO458.out).2.1)
   rintro e w14 ⟨v460, rfl, ho0, hb⟩
   refine ⟨_, rfl, ?_⟩
   have n0_ := Aside0.mk (Kd.R_elder' (by (with_reducible repeat (first | apply Kd.R_alloc | apply Kd.R_drewN | apply Kd.R_drew)); exact HO458.out) (Kd.R_base ho0) hb)
   have n1_ := Aside0.mk (Kd.R_lower (Kd.R_new' ho0 (Kd.R_lt (by (with_reducible repeat (first | apply Kd.R_alloc | apply Kd.R_drewN | apply Kd.R_drew)); exact HO458.out))) (qbx (by repeat (first | (with_reducible first | exact HB.out | apply qax | apply qaq | apply qaz | refine qaj ?_ GE455.out) | exact HB.out))))
   have n2_ := Aside0.mk (qcx (g := gb455) (o := .cells #[.int .u8 a0_0, .slice A0_1 l0_1.length c0_1] 60 (0, 0)) (by (with_reducible repeat (first | refine qav ?_ _ | refine qaw ?_ | refine qak ?_ _)); exact BK455.out) hb)
   have n3_ := Aside0.mk (qbj (by repeat (first | (with_reducible first | exact HB.out | apply qax | apply qaq | apply qaz | refine qaj ?_ GE455.out) | exact HB.out)) hb)
   clear HO458
   clear BK455
   clear HB
   have HO458 := n0_
   have HO461 := n1_
   have BK455 := n2_
   have HB := n3_
   clear n0_ n1_ n2_ n3_
   (try clear hb)
   (try clear hb2)
   (try clear hk)
   (try clear hi)
   (try clear ho0)
   refine hK.out _ _ ⟨(qbq BK455.out 0).trans rfl, (qbq BK455.out 1).trans rfl⟩ (fun hHeld => ?_)
   clear hK K
   refine qhz (a' := ?_) ?_ ?_
   rotate_left
   ·show Act.put _ (some 19) _ = _
    simp only [Act.put, List.setIfInBounds_toArray, List.set_cons_zero, List.set_cons_succ, qbv, qbw]
    rfl
   refine one_ (i := 12) (N := some 22) #[true, true, true, true, true, true, true, true, true, true, true, true, true, false, false, false] rfl rfl (qfk HT_.out (by kernel_rfl)) (by decide) (fun K hK => ?_)
   refine qhx Try.func40 (by kernel_rfl) rfl #[.slice A0_1 l0_1.length c0_1] (by rfl) rfl rfl (by (try simp only [List.map_toArray, List.map_cons, List.map_nil]); first | done | rfl | (simp only [List.length_drop, List.length_take]; rfl)) ?_
   with_reducible refine (tumbrelref01_Put.calls k _ _ l0_1 t462 _ ?side1 ?side2 A6.out).mono ?_
   (case side1 => repeat (first | exact (Kd.C_below HR0_1.out HB.out) | (with_reducible refine Kd.C_alloc ?_ _) | (with_reducible refine Kd.C_drewN ?_ _) | (with_reducible refine Kd.C_drew ?_)))
   (case side2 => exact HC0_1.out)
   rintro e w15 ⟨v463, rfl, ho0, hb⟩
   refine ⟨_, rfl, ?_⟩
   have n0_ := Aside0.mk (Kd.R_elder' (by (with_reducible repeat (first | apply Kd.R_alloc | apply Kd.R_drewN | apply Kd.R_drew)); exact HO458.out) (Kd.R_base ho0) hb)
   have n1_ := Aside0.mk (Kd.R_elder' (by (with_reducible repeat (first | apply Kd.R_alloc | apply Kd.R_drewN | apply Kd.R_drew)); exact HO461.out) (Kd.R_base ho0) hb)
   have n2_ := Aside0.mk (Kd.R_lower (Kd.R_new' (Kd.R_new' ho0 (Kd.R_lt (by (with_reducible repeat (first | apply Kd.R_alloc | apply Kd.R_drewN | apply Kd.R_drew)); exact HO458.out))) (Kd.R_lt (by (with_reducible repeat (first | apply Kd.R_alloc | apply Kd.R_drewN | apply Kd.R_drew)); exact HO461.out))) (qbx (by repeat (first | (with_reducible first | exact HB.out | apply qax | apply qaq | apply qaz | refine qaj ?_ GE455.out) | exact HB.out))))
   have n3_ := Aside0.mk (qcx (g := gb455) (o := .cells #[.int .u8 a0_0, .slice A0_1 l0_1.length c0_1] 60 (0, 0)) (by (with_reducible repeat (first | refine qav ?_ _ | refine qaw ?_ | refine qak ?_ _)); exact BK455.out) hb)
   have n4_ := Aside0.mk (qbj (by repeat (first | (with_reducible first | exact HB.out | apply qax | apply qaq | apply qaz | refine qaj ?_ GE455.out) | exact HB.out)) hb)
   clear HO458
   clear HO461
   clear BK455
   clear HB
   have HO458 := n0_
   have HO461 := n1_
   have HO464 := n2_
   have BK455 := n3_
   have HB := n4_
   clear n0_ n1_ n2_ n3_ n4_
   (try clear hb)
   (try clear hb2)
   (try clear hk)
   (try clear hi)
   (try clear ho0)
   obtain ⟨Ao17, co17, eo17⟩ := Kd.R_slice HO464.out
   (first | subst eo17 | (injection eo17 with f1_ f2_ f3_; have f4_ := f1_.symm; have f5_ := f3_.symm; clear f1_ f2_ f3_; subst f4_; subst f5_))
   refine hK.out _ _ ⟨(qbq BK455.out 0).trans rfl, (qbq BK455.out 1).trans rfl⟩ (fun hHeld => ?_)
   clear hK K
   refine qhz (a' := ?_) ?_ ?_
   rotate_left
   ·show Act.put _ (some 22) _ = _
    simp only [Act.put, List.setIfInBounds_toArray, List.set_cons_zero, List.set_cons_succ, qbv, qbw]
    rfl
   refine one_ (i := 13) (N := some 23) #[true, true, true, true, true, true, true, true, true, true, true, true, true, true, false, false] rfl rfl (qfk HT_.out (by kernel_rfl)) (by decide) (fun K hK => ?_)
   refine Kd.R_append_rows_step (Kd.int .u8) (w0 := w) w.heap.size (by rfl) (.tmp 19) (.tmp 22) 23 5 (.int .u8 0) 1 rfl Try.underlying23 qgv rfl (by decide) (by omega) v460 t459 t462 _ _ _ (fun k_ => some k_ ≠ (.slice Ao13 y456.length co13 : Value).ownBlock ∧ some k_ ≠ (.slice Ao17 t462.length co17 : Value).ownBlock) (fun _ => False) rfl rfl ?aO ?aR (fun _ _ h => h) (fun _ h => h.elim) ?aF ?aB ?aS ?aL ?_
   (case aR => repeat (first | exact (Kd.R_reads' HO464.out).2.2 | (with_reducible refine Kd.C_alloc ?_ _) | (with_reducible refine Kd.C_drewN ?_ _) | (with_reducible refine Kd.C_drew ?_)))
   (case aB => exact (by repeat (first | (with_reducible first | exact HB.out | apply qax | apply qaq | apply qaz | refine qaj ?_ GE455.out) | exact HB.out)))
   (case aF => exact (fun k_ hk => ⟨Kd.fresh' (Kd.R_lt (by (with_reducible repeat (first | apply Kd.R_alloc | apply Kd.R_drewN | apply Kd.R_drew)); exact HO458.out)) k_ hk, Kd.fresh' (Kd.R_lt (by (with_reducible repeat (first | apply Kd.R_alloc | apply Kd.R_drewN | apply Kd.R_drew)); exact HO464.out)) k_ hk⟩))
   (case aO => exact (by (with_reducible repeat (first | apply Kd.R_alloc | apply Kd.R_drewN | apply Kd.R_drew)); exact Kd.R_mono HO461.out (fun _ hk => ⟨hk.1.2, hk.2⟩)))
   (case aS => exact (qbx (by repeat (first | (with_reducible first | exact HB.out | apply qax | apply qaq | apply qaz | refine qaj ?_ GE455.out) | exact HB.out))))
   (case aL => have := LMc7.out; omega)
   intro v466 w16 ho hb hg hat
   rw [← Ny465.out] at ho
   have n0_ := Aside0.mk (qgq (g := gb455) (o := .cells #[.int .u8 a0_0, .slice A0_1 l0_1.length c0_1] 60 (0, 0)) (by (with_reducible repeat (first | refine qav ?_ _ | refine qaw ?_ | refine qak ?_ _)); exact BK455.out) hg (Kd.R_ne HO461.out BK455.out (by decide)))
   have n1_ := Aside0.mk (Kd.R_after (ok := (fun k_ => some k_ ≠ (.slice Ao17 t462.length co17 : Value).ownBlock)) (by (with_reducible repeat (first | apply Kd.R_alloc | apply Kd.R_drewN | apply Kd.R_drew)); exact Kd.R_mono HO458.out (fun _ hk => ⟨hk.2, hk.1.2⟩)) hg hat)
   have n2_ := Aside0.mk (Kd.R_after (ok := (fun k_ => some k_ ≠ (.slice Ao13 y456.length co13 : Value).ownBlock)) (by (with_reducible repeat (first | apply Kd.R_alloc | apply Kd.R_drewN | apply Kd.R_drew)); exact Kd.R_mono HO464.out (fun _ hk => ⟨hk.1.2, hk.2⟩)) hg hat)
   have n3_ := Aside0.mk (hb)
   have n4_ := Aside0.mk (ho)
   clear BK455
   clear HO458
   clear HO464
   clear HB
   clear HO461
   have BK455 := n0_
   have HO458 := n1_
   have HO464 := n2_
   have HB := n3_
   have HO467 := n4_
   clear n0_ n1_ n2_ n3_ n4_
   clear ho hb hg hat
   refine hK.out _ _ ⟨(qbq BK455.out 0).trans rfl, (qbq BK455.out 1).trans rfl⟩ (fun hHeld => ?_)
   clear hK K
   refine qhz (a' := ?_) ?_ ?_
   rotate_left
   ·show Act.put _ (some 23) _ = _
    simp only [Act.put, List.setIfInBounds_toArray, List.set_cons_zero, List.set_cons_succ, qbv, qbw]
    rfl
   refine qcj (i := 14) (N := some 2) (v := ?_) (a' := ?_) #[true, true, true, true, true, true, true, true, true, true, true, true, true, true, true, false] rfl rfl (qbk HT_.out (by kernel_rfl)) (fun _ _ _ h => h) (Or.inl ⟨by rfl, ?_⟩) ?_ ?_
   rotate_left
   ·intro w'
    go_simp
    with_reducible rfl
   rotate_left
   ·simp only [Act.put, List.setIfInBounds_toArray, List.set_cons_zero, List.set_cons_succ, qbv, qbw]
    rfl
   refine qcj (i := 15) (N := some 3) (v := ?_) (a' := ?_) #[true, true, true, true, true, true, true, true, true, true, true, true, true, true, true, true] rfl rfl (qbk HT_.out (by kernel_rfl)) (fun _ _ _ h => h) (Or.inl ⟨by rfl, ?_⟩) ?_ ?_
   rotate_left
   ·intro w'
    go_simp
    with_reducible rfl
   rotate_left
   ·simp only [Act.put, List.setIfInBounds_toArray, List.set_cons_zero, List.set_cons_succ, qbv, qbw]
    rfl
   refine qlv (qiq HT_.out (by kernel_rfl)) ?_
   try go_wp2
   go_ret2
   exact ⟨_, by first | rfl | (simp [qcq, qcz] <;> rfl) | (simp [*, qcq, qcz] <;> rfl), by (with_reducible repeat (first | apply Kd.R_alloc | apply Kd.R_drewN | apply Kd.R_drew)); exact Kd.R_mono HO467.out (fun _ hk => trivial), by repeat (first | (with_reducible first | exact HB.out | apply qax | apply qaq | apply qaz | refine qaj ?_ GE455.out) | exact HB.out)⟩
  ·rw [if_neg c7] at H
   exact absurd H (by simp)
end Go.Proofs.Ytojepleodijdeaa.B
namespace Go.Proofs.Ytojepleodijdeaa.B
open Go.RowKit Go.Proofs.YtojepleodijdeaaW.PrintWords Go.Proofs.YtojepleodijdeaaW.PrintLast Go.Proofs.YtojepleodijdeaaW.PrintMore
attribute [local go_sem] qgz qgx qhj qhk qfx qfj qgj qgk   -- for this text's walks alone
set_option linter.unusedVariables false
set_option linter.unusedSimpArgs false
def record_known.f (a0 : Int) : Option (Bool) := if a0 ≥ 1 then (some (decide (a0 ≤ 17))) else (some false)
set_option maxHeartbeats 8000000 in
set_option maxRecDepth 100000 in
theorem record_known.calls (a0 : Int) (r : Bool) (w : World) (h : record_known.f a0 = some r) :
  Calls Try.prog 77 #[.int .i64 a0] w fun e w' => e = .returned (.bool r) ∧ Drawn0 w w' := by
 have H : (if a0 ≥ 1 then (some (decide (a0 ≤ 17))) else (some false)) = some r := h
 clear h
 by_cases c2 : a0 ≥ 1
 ·rw [if_pos c2] at H
  have c2b0 : decide (1 ≤ a0) = true := decide_eq_true c2
  clear c2
  obtain rfl := Option.some.inj H
  go_enter Try.func77, Try.ntmps77
  go_wp2
  go_ret
  exact ⟨by first | rfl | (simp; done) | (simp [*]; done), by repeat (first | exact Drawn0.refl _ | apply Drawn0.step)⟩
 ·rw [if_neg c2] at H
  have c2b0 : decide (1 ≤ a0) = false := decide_eq_false c2
  clear c2
  obtain rfl := Option.some.inj H
  go_enter Try.func77, Try.ntmps77
  go_wp2
  go_ret
  exact ⟨by first | rfl | (simp; done) | (simp [*]; done), by repeat (first | exact Drawn0.refl _ | apply Drawn0.step)⟩
def record_worded.f (a0 : Int) : Option (Bool) := if a0 = 10 then (some true) else (if a0 = 11 then (some true) else (some (a0 == 16)))
set_option maxHeartbeats 8000000 in
set_option maxRecDepth 100000 in
theorem record_worded.calls (a0 : Int) (r : Bool) (w : World) (h : record_worded.f a0 = some r) :
  Calls Try.prog 84 #[.int .i64 a0] w fun e w' => e = .returned (.bool r) ∧ Drawn0 w w' := by
 have H : (if a0 = 10 then (some true) else (if a0 = 11 then (some true) else (some (a0 == 16)))) = some r := h
 clear h
 by_cases c2 : a0 = 10
 ·rw [if_pos c2] at H
  have c2b0 : (a0 == 10) = true := beq_iff_eq.mpr c2
  have c2b1 : (a0 != 10) = false := bne_eq_false_iff_eq.mpr c2
  clear c2
  obtain rfl := Option.some.inj H
  go_enter Try.func84, Try.ntmps84
  go_wp2
  go_ret
  exact ⟨by first | rfl | (simp; done) | (simp [*]; done), by repeat (first | exact Drawn0.refl _ | apply Drawn0.step)⟩
 ·rw [if_neg c2] at H
  have c2b0 : (a0 == 10) = false := beq_eq_false_iff_ne.mpr c2
  have c2b1 : (a0 != 10) = true := bne_iff_ne.mpr c2
  by_cases c3 : a0 = 11
  ·rw [if_pos c3] at H
   have c3b0 : (a0 == 11) = true := beq_iff_eq.mpr c3
   have c3b1 : (a0 != 11) = false := bne_eq_false_iff_eq.mpr c3
   clear c3
   obtain rfl := Option.some.inj H
   go_enter Try.func84, Try.ntmps84
   go_wp2
   go_ret
   exact ⟨by first | rfl | (simp; done) | (simp [*]; done), by repeat (first | exact Drawn0.refl _ | apply Drawn0.step)⟩
  ·rw [if_neg c3] at H
   have c3b0 : (a0 == 11) = false := beq_eq_false_iff_ne.mpr c3
   have c3b1 : (a0 != 11) = true := bne_iff_ne.mpr c3
   obtain rfl := Option.some.inj H
   go_enter Try.func84, Try.ntmps84
   go_wp2
   go_ret
   exact ⟨by first | rfl | (simp; done) | (simp [*]; done), by repeat (first | exact Drawn0.refl _ | apply Drawn0.step)⟩
def record_fits.f (a0 : Int) (a1 : Int) : Option (Bool) := if a1 = 0 then (some true) else ((record_worded.f a0).bind fun t686 => (if t686 = true then (some (decide (a1 ≤ 64))) else (some false)))
set_option maxHeartbeats 8000000 in
set_option maxRecDepth 100000 in
theorem record_fits.calls (a0 : Int) (a1 : Int) (r : Bool) (w : World) (h : record_fits.f a0 a1 = some r) :
  Calls Try.prog 79 #[.int .i64 a0, .int .i64 a1] w fun e w' => e = .returned (.bool r) ∧ Drawn0 w w' := by
 have H : (if a1 = 0 then (some true) else ((record_worded.f a0).bind fun t686 => (if t686 = true then (some (decide (a1 ≤ 64))) else (some false)))) = some r := h
 clear h
 by_cases c3 : a1 = 0
 ·rw [if_pos c3] at H
  have c3b0 : (a1 == 0) = true := beq_iff_eq.mpr c3
  have c3b1 : (a1 != 0) = false := bne_eq_false_iff_eq.mpr c3
  clear c3
  obtain rfl := Option.some.inj H
  go_enter Try.func79, Try.ntmps79
  go_wp2
  go_ret
  exact ⟨by first | rfl | (simp; done) | (simp [*]; done), by repeat (first | exact Drawn0.refl _ | apply Drawn0.step)⟩
 ·rw [if_neg c3] at H
  have c3b0 : (a1 == 0) = false := beq_eq_false_iff_ne.mpr c3
  have c3b1 : (a1 != 0) = true := bne_iff_ne.mpr c3
  replace H := Option.bind_eq_some_iff.mp H
  obtain ⟨t686, A40, H⟩ := H
  replace H : (if t686 = true then (some (decide (a1 ≤ 64))) else (some false)) = some r := H
  have A4 := Aside0.mk A40
  clear A40
  by_cases c5 : t686 = true
  ·subst c5
   have H1 : (some (decide (a1 ≤ 64))) = some r := by rw [if_pos rfl] at H; exact H
   clear H
   have H := H1
   clear H1
   obtain rfl := Option.some.inj H
   go_enter Try.func79, Try.ntmps79
   go_wp2_with (first | (go_at_call 84; (with_reducible refine (record_worded.calls a0 true _ A4.out).mono ?_); rintro e w' ⟨rfl, ⟨nd, rfl⟩⟩))
   go_ret
   exact ⟨by first | rfl | (simp; done) | (simp [*]; done), by repeat (first | exact Drawn0.refl _ | apply Drawn0.step)⟩
  ·replace c5 := Bool.eq_false_iff.mpr c5
   subst c5
   have H1 : (some false) = some r := by rw [if_neg (show ¬ (false = true) by decide)] at H; exact H
   clear H
   have H := H1
   clear H1
   obtain rfl := Option.some.inj H
   go_enter Try.func79, Try.ntmps79
   go_wp2_with (first | (go_at_call 84; (with_reducible refine (record_worded.calls a0 false _ A4.out).mono ?_); rintro e w' ⟨rfl, ⟨nd, rfl⟩⟩))
   go_ret
   exact ⟨by first | rfl | (simp; done) | (simp [*]; done), by repeat (first | exact Drawn0.refl _ | apply Drawn0.step)⟩
def slices_Equal_uint64_uint64.l0 : Nat → List Int → List Int → Int → Int → Option (Bool)
 | 0, _, _, _, _ => none
 | k + 1, x0, x1, x12, x13 => if x13 < x12 then (if 0 ≤ x13 then (if x13 < (x0.length : Int) then (if x13 < (x1.length : Int) then (if (rd x0 x13) = (rd x1 x13) then (slices_Equal_uint64_uint64.l0 k x0 x1 x12 (wrap64 (x13 + 1))) else (some false)) else (none)) else (none)) else (none)) else (some true)
def slices_Equal_uint64_uint64.f (k : Nat) (l0 : List Int) (l1 : List Int) : Option (Bool) := if (l0.length : Int) = (l1.length : Int) then (slices_Equal_uint64_uint64.l0 k l0 l1 (l0.length : Int) 0) else (some false)
theorem slices_Equal_uint64_uint64.mono_l : ∀ k, (∀ y0 y1 y2 y3, LeO (slices_Equal_uint64_uint64.l0 k y0 y1 y2 y3) (slices_Equal_uint64_uint64.l0 (k + 1) y0 y1 y2 y3))
 | 0 => fun _ _ _ _ r h => by simp [slices_Equal_uint64_uint64.l0] at h
 | k + 1 => by
  have ih0 := slices_Equal_uint64_uint64.mono_l k
  ·intro y0 y1 y2 y3
   unfold slices_Equal_uint64_uint64.l0
   repeat' first
   | (with_reducible exact ih0 _ _ _ _)
   | (with_reducible exact LeO.refl _)
   | (with_reducible exact LeO.none _)
   | (with_reducible refine LeO.ite ?_ ?_)
   | (with_reducible refine LeO.bind ?_ (fun _ => ?_))
   | exact ih0 _ _ _ _
   | exact LeO.none _
   | refine LeO.ite ?_ ?_
   | refine LeO.bind ?_ (fun _ => ?_)
theorem slices_Equal_uint64_uint64.mono : ∀ a0 a1 k, LeO (slices_Equal_uint64_uint64.f k a0 a1) (slices_Equal_uint64_uint64.f (k + 1) a0 a1) := by
 intro a0 a1 k
 have ih0 := slices_Equal_uint64_uint64.mono_l k
 unfold slices_Equal_uint64_uint64.f
 repeat' first
   | (with_reducible exact ih0 _ _ _ _)
   | (with_reducible exact LeO.refl _)
   | (with_reducible exact LeO.none _)
   | (with_reducible refine LeO.ite ?_ ?_)
   | (with_reducible refine LeO.bind ?_ (fun _ => ?_))
   | exact ih0 _ _ _ _
   | exact LeO.none _
   | refine LeO.ite ?_ ?_
   | refine LeO.bind ?_ (fun _ => ?_)
set_option maxHeartbeats 8000000 in
set_option maxRecDepth 100000 in
theorem slices_Equal_uint64_uint64.calls (k : Nat) (A0 : Option Addr) (c0 : Nat) (l0 : List Int) (A1 : Option Addr) (c1 : Nat) (l1 : List Int) (r : Bool) (w : World) (hr0 : Kd.C (Kd.int .u64) w A0 l0.length l0) (hc0 : l0.length ≤ c0) (hr1 : Kd.C (Kd.int .u64) w A1 l1.length l1) (hc1 : l1.length ≤ c1) (h : slices_Equal_uint64_uint64.f k l0 l1 = some r) :
  Calls Try.prog 82 #[.slice A0 l0.length c0, .slice A1 l1.length c1] w fun e w' => e = .returned (.bool r) ∧ Drawn0 w w' := by
 have HR0 := Aside0.mk hr0
 have HC0 := Aside0.mk hc0
 clear hr0 hc0
 have HR1 := Aside0.mk hr1
 have HC1 := Aside0.mk hc1
 clear hr1 hc1
 have H : (if (l0.length : Int) = (l1.length : Int) then (slices_Equal_uint64_uint64.l0 k l0 l1 (l0.length : Int) 0) else (some false)) = some r := h
 clear h
 by_cases c3 : (l0.length : Int) = (l1.length : Int)
 ·rw [if_pos c3] at H
  have c3b0 : ((l0.length : Int) == (l1.length : Int)) = true := beq_iff_eq.mpr c3
  have c3b1 : ((l0.length : Int) != (l1.length : Int)) = false := bne_eq_false_iff_eq.mpr c3
  have c3b2 : (l0.length == l1.length) = true := by first | simpa using c3 | (simp at c3 ⊢; omega)
  clear c3
  have H' := Aside0.mk H
  clear H
  go_enter Try.func82, Try.ntmps82
  go_wp2
  repeat (go_quiet (fail); try go_wp2)
  go_loopg [13] k (fun kq v13 w' => ∃ (x13_1 : Int), v13 = .int .i64 x13_1 ∧ Aside0 (slices_Equal_uint64_uint64.l0 kq l0 l1 (l0.length : Int) x13_1 = some r) ∧ Aside0 (kq ≤ k) ∧ Drawn0 w w')
  case atStart => exact ⟨(0), (by first | rfl | (simp; done) | (simp [*]; done)), H', ⟨Nat.le_refl _⟩, by repeat (first | exact Drawn0.refl _ | apply Drawn0.step)⟩
  case round =>
   clear H'
   try clear c1
   try clear p2
   try clear c3
   try clear c3b0
   try clear c3b1
   try clear c3b2
   obtain ⟨x13_1, rfl, HA, HK1, ⟨m1, rfl⟩⟩ := hrel
   cases gk with
   | zero => exact absurd HA.out (by simp [slices_Equal_uint64_uint64.l0])
   | succ k1 =>
    have H := HA.out
    clear HA
    simp only [slices_Equal_uint64_uint64.l0] at H
    by_cases c4 : x13_1 < (l0.length : Int)
    ·rw [if_pos c4] at H
     have c4b0 : decide (x13_1 < (l0.length : Int)) = true := decide_eq_true c4
     clear c4
     by_cases c5 : 0 ≤ x13_1
     ·rw [if_pos c5] at H
      have c5b0 : decide (0 ≤ x13_1) = true := decide_eq_true c5
      clear c5
      by_cases c6 : x13_1 < (l0.length : Int)
      ·rw [if_pos c6] at H
       have c6b0 : decide (x13_1 < (l0.length : Int)) = true := decide_eq_true c6
       clear c6
       by_cases c7 : x13_1 < (l1.length : Int)
       ·rw [if_pos c7] at H
        have c7b0 : decide (x13_1 < (l1.length : Int)) = true := decide_eq_true c7
        clear c7
        by_cases c8 : (rd l0 x13_1) = (rd l1 x13_1)
        ·rw [if_pos c8] at H
         have c8b0 : ((rd l0 x13_1) == (rd l1 x13_1)) = true := beq_iff_eq.mpr c8
         have c8b1 : ((rd l0 x13_1) != (rd l1 x13_1)) = false := bne_eq_false_iff_eq.mpr c8
         clear c8
         have H' := Aside0.mk H
         clear H
         have p687 : 0 ≤ (x13_1 : Int) := of_decide_eq_true (by first | (with_reducible assumption) | assumption)
         have q687 : x13_1 < (l0.length : Int) := of_decide_eq_true (by first | (with_reducible assumption) | assumption)
         obtain ⟨ad687, e687, hx687_0⟩ := Kd.at_int HR0.out x13_1 p687 q687
         cases e687
         replace p687 := eq_true p687
         replace q687 := eq_true q687
         have p688 : 0 ≤ (x13_1 : Int) := of_decide_eq_true (by first | (with_reducible assumption) | assumption)
         have q688 : x13_1 < (l1.length : Int) := of_decide_eq_true (by first | (with_reducible assumption) | assumption)
         obtain ⟨ad688, e688, hx688_0⟩ := Kd.at_int HR1.out x13_1 p688 q688
         cases e688
         replace p688 := eq_true p688
         replace q688 := eq_true q688
         go_wp2
         repeat (go_quiet (fail); try go_wp2)
         go_roundg k1
         case measure => have := HK1.out; omega
         case rel => exact ⟨(wrap64 (x13_1 + 1)), (by first | rfl | (simp; done) | (simp [*]; done)), H', ⟨by have := HK1.out; omega⟩, by repeat (first | exact Drawn0.refl _ | apply Drawn0.step)⟩
        ·rw [if_neg c8] at H
         have c8b0 : ((rd l0 x13_1) == (rd l1 x13_1)) = false := beq_eq_false_iff_ne.mpr c8
         have c8b1 : ((rd l0 x13_1) != (rd l1 x13_1)) = true := bne_iff_ne.mpr c8
         obtain rfl := Option.some.inj H
         have p687 : 0 ≤ (x13_1 : Int) := of_decide_eq_true (by first | (with_reducible assumption) | assumption)
         have q687 : x13_1 < (l0.length : Int) := of_decide_eq_true (by first | (with_reducible assumption) | assumption)
         obtain ⟨ad687, e687, hx687_0⟩ := Kd.at_int HR0.out x13_1 p687 q687
         cases e687
         replace p687 := eq_true p687
         replace q687 := eq_true q687
         have p688 : 0 ≤ (x13_1 : Int) := of_decide_eq_true (by first | (with_reducible assumption) | assumption)
         have q688 : x13_1 < (l1.length : Int) := of_decide_eq_true (by first | (with_reducible assumption) | assumption)
         obtain ⟨ad688, e688, hx688_0⟩ := Kd.at_int HR1.out x13_1 p688 q688
         cases e688
         replace p688 := eq_true p688
         replace q688 := eq_true q688
         go_wp2
         repeat (go_quiet (fail); try go_wp2)
         go_ret
         exact ⟨by first | rfl | (simp; done) | (simp [*]; done), by repeat (first | exact Drawn0.refl _ | apply Drawn0.step)⟩
       ·rw [if_neg c7] at H
        exact absurd H (by simp)
      ·rw [if_neg c6] at H
       exact absurd H (by simp)
     ·rw [if_neg c5] at H
      exact absurd H (by simp)
    ·rw [if_neg c4] at H
     have c4b0 : decide (x13_1 < (l0.length : Int)) = false := decide_eq_false c4
     clear c4
     obtain rfl := Option.some.inj H
     go_wp2
     repeat (go_quiet (fail); try go_wp2)
     go_ret
     exact ⟨by first | rfl | (simp; done) | (simp [*]; done), by repeat (first | exact Drawn0.refl _ | apply Drawn0.step)⟩
 ·rw [if_neg c3] at H
  have c3b0 : ((l0.length : Int) == (l1.length : Int)) = false := beq_eq_false_iff_ne.mpr c3
  have c3b1 : ((l0.length : Int) != (l1.length : Int)) = true := bne_iff_ne.mpr c3
  have c3b2 : (l0.length == l1.length) = false := by first | simpa using c3 | (simp at c3 ⊢; omega)
  obtain rfl := Option.some.inj H
  go_enter Try.func82, Try.ntmps82
  go_wp2
  repeat (go_quiet (fail); try go_wp2)
  go_ret
  exact ⟨by first | rfl | (simp; done) | (simp [*]; done), by repeat (first | exact Drawn0.refl _ | apply Drawn0.step)⟩
def record_Same.f (k : Nat) (a0_0 : Int) (l0_1 : List Int) (a0_2 : ByteArray) (a1_0 : Int) (l1_1 : List Int) (a1_2 : ByteArray) : Option (Bool) := if a0_0 = a1_0 then ((slices_Equal_uint64_uint64.f k l0_1 l1_1).bind fun t691 => (if t691 = true then (some (a0_2.toList == a1_2.toList)) else (some false))) else (some false)
theorem record_Same.mono : ∀ a0 a1 a2 a3 a4 a5 k, LeO (record_Same.f k a0 a1 a2 a3 a4 a5) (record_Same.f (k + 1) a0 a1 a2 a3 a4 a5) := by
 intro a0 a1 a2 a3 a4 a5 k
 unfold record_Same.f
 repeat' first
   | (with_reducible exact slices_Equal_uint64_uint64.mono _ _ _)
   | (with_reducible exact LeO.refl _)
   | (with_reducible exact LeO.none _)
   | (with_reducible refine LeO.ite ?_ ?_)
   | (with_reducible refine LeO.bind ?_ (fun _ => ?_))
   | exact slices_Equal_uint64_uint64.mono _ _ _
   | exact LeO.none _
   | refine LeO.ite ?_ ?_
   | refine LeO.bind ?_ (fun _ => ?_)
set_option maxHeartbeats 8000000 in
set_option maxRecDepth 100000 in
theorem record_Same.calls (k : Nat) (a0_0 : Int) (A0_1 : Option Addr) (c0_1 : Nat) (l0_1 : List Int) (a0_2 : ByteArray) (a1_0 : Int) (A1_1 : Option Addr) (c1_1 : Nat) (l1_1 : List Int) (a1_2 : ByteArray) (r : Bool) (w : World) (hr0_1 : Kd.C (Kd.int .u64) w A0_1 l0_1.length l0_1) (hc0_1 : l0_1.length ≤ c0_1) (hr1_1 : Kd.C (Kd.int .u64) w A1_1 l1_1.length l1_1) (hc1_1 : l1_1.length ≤ c1_1) (h : record_Same.f k a0_0 l0_1 a0_2 a1_0 l1_1 a1_2 = some r) :
  Calls Try.prog 64 #[.agg #[.int .i64 a0_0, .slice A0_1 l0_1.length c0_1, .string a0_2], .agg #[.int .i64 a1_0, .slice A1_1 l1_1.length c1_1, .string a1_2]] w fun e w' => e = .returned (.bool r) ∧ Below w.heap.size w w' := by
 have hu80 := Try.underlying80
 have HR0_1 := Aside0.mk hr0_1
 have HC0_1 := Aside0.mk hc0_1
 clear hr0_1 hc0_1
 have HR1_1 := Aside0.mk hr1_1
 have HC1_1 := Aside0.mk hc1_1
 clear hr1_1 hc1_1
 have HB := Aside0.mk (Below.refl w.heap.size w)
 have H : (if a0_0 = a1_0 then ((slices_Equal_uint64_uint64.f k l0_1 l1_1).bind fun t691 => (if t691 = true then (some (a0_2.toList == a1_2.toList)) else (some false))) else (some false)) = some r := h
 clear h
 by_cases c3 : a0_0 = a1_0
 ·rw [if_pos c3] at H
  have c3b0 : (a0_0 == a1_0) = true := beq_iff_eq.mpr c3
  have c3b1 : (a0_0 != a1_0) = false := bne_eq_false_iff_eq.mpr c3
  clear c3
  replace H := Option.bind_eq_some_iff.mp H
  obtain ⟨t691, A40, H⟩ := H
  replace H : (if t691 = true then (some (a0_2.toList == a1_2.toList)) else (some false)) = some r := H
  have A4 := Aside0.mk A40
  clear A40
  by_cases c5 : t691 = true
  ·subst c5
   have H1 : (some (a0_2.toList == a1_2.toList)) = some r := by rw [if_pos rfl] at H; exact H
   clear H
   have H := H1
   clear H1
   obtain rfl := Option.some.inj H
   go_enter Try.func64, Try.ntmps64
   go_wp2_with (first | ((with_reducible refine qcv (N := 2) rfl ?_); refine qcw ?hg (N := 2) ?hd (cs := #[.int .i64 a0_0, .slice A0_1 l0_1.length c0_1, .string a0_2]) (t := 80) ?hr ?_; (case hd => rfl); (case hg => rfl); (case hr => first | (go_simp; done) | (go_simp; rfl)); intro gb689 hg w6 hbox hb; have n0_ := Aside0.mk (qbj (by repeat (first | (with_reducible first | exact HB.out | apply qax | apply qaq | apply qaz) | exact HB.out)) hb); have n1_ := Aside0.mk (hbox); have n2_ := Aside0.mk ((by rw [hg]; exact (qbx (by repeat (first | (with_reducible first | exact HB.out | apply qax | apply qaq | apply qaz) | exact HB.out))) : w.heap.size ≤ gb689)); have n3_ := Aside0.mk ((by rw [hg]; exact (qbx (by repeat (first | (with_reducible first | exact HB.out | apply qax | apply qaq | apply qaz) | exact HB.out))) : w.heap.size ≤ gb689)); clear HB; have HB := n0_; have BK689 := n1_; have GW689 := n2_; have GE689 := n3_; clear n0_ n1_ n2_ n3_; clear hb hbox hg) | ((with_reducible refine qcv (N := 3) rfl ?_); refine qcw ?hg (N := 3) ?hd (cs := #[.int .i64 a1_0, .slice A1_1 l1_1.length c1_1, .string a1_2]) (t := 80) ?hr ?_; (case hd => rfl); (case hg => rfl); (case hr => first | (go_simp; done) | (go_simp; rfl)); intro gb690 hg w7 hbox hb; have n0_ := Aside0.mk (qcx (g := gb689) (o := .cells #[.int .i64 a0_0, .slice A0_1 l0_1.length c0_1, .string a0_2] 80 (0, 0)) (by (with_reducible repeat (first | refine qav ?_ _ | refine qaw ?_ | refine qak ?_ _)); exact BK689.out) hb); have n1_ := Aside0.mk (qbj (by repeat (first | (with_reducible first | exact HB.out | apply qax | apply qaq | apply qaz | refine qaj ?_ GE689.out) | exact HB.out)) hb); have n2_ := Aside0.mk (hbox); have n3_ := Aside0.mk ((by rw [hg]; exact (qbx (by repeat (first | (with_reducible first | exact HB.out | apply qax | apply qaq | apply qaz | refine qaj ?_ GE689.out) | exact HB.out))) : w.heap.size ≤ gb690)); have n4_ := Aside0.mk ((by rw [hg]; exact (qbx (by repeat (first | (with_reducible first | exact HB.out | apply qax | apply qaq | apply qaz | refine qaj ?_ GE689.out) | exact HB.out))) : w.heap.size ≤ gb690)); have n5_ := Aside0.mk ((by rw [hg]; exact Nat.ne_of_lt (qez (g := gb689) (o := .cells #[.int .i64 a0_0, .slice A0_1 l0_1.length c0_1, .string a0_2] 80 (0, 0)) (by (with_reducible repeat (first | refine qav ?_ _ | refine qaw ?_ | refine qak ?_ _)); exact BK689.out)) : gb689 ≠ gb690)); have n6_ := Aside0.mk ((by rw [hg]; exact Nat.ne_of_gt (qez (g := gb689) (o := .cells #[.int .i64 a0_0, .slice A0_1 l0_1.length c0_1, .string a0_2] 80 (0, 0)) (by (with_reducible repeat (first | refine qav ?_ _ | refine qaw ?_ | refine qak ?_ _)); exact BK689.out)) : gb690 ≠ gb689)); clear BK689; clear HB; have BK689 := n0_; have HB := n1_; have BK690 := n2_; have GW690 := n3_; have GE690 := n4_; have NB689_690 := n5_; have NB690_689 := n6_; clear n0_ n1_ n2_ n3_ n4_ n5_ n6_; clear hb hbox hg; have hnb8 := NB689_690.out; have hnc8 := NB690_689.out; have hcz9_0 : w7.cell? ⟨gb689, 0, none⟩ = some (.int .i64 a0_0) := (qbq BK689.out 0).trans rfl; have hcz9_1 : w7.cell? ⟨gb689, 1, none⟩ = some (.slice A0_1 l0_1.length c0_1) := (qbq BK689.out 1).trans rfl; have hcz9_2 : w7.cell? ⟨gb689, 2, none⟩ = some (.string a0_2) := (qbq BK689.out 2).trans rfl; have hfz9_0 := qbz BK689.out 0; have hfz9_1 := qbz BK689.out 1; have hfz9_2 := qbz BK689.out 2; have hcz10_0 : w7.cell? ⟨gb690, 0, none⟩ = some (.int .i64 a1_0) := (qbq BK690.out 0).trans rfl; have hcz10_1 : w7.cell? ⟨gb690, 1, none⟩ = some (.slice A1_1 l1_1.length c1_1) := (qbq BK690.out 1).trans rfl; have hcz10_2 : w7.cell? ⟨gb690, 2, none⟩ = some (.string a1_2) := (qbq BK690.out 2).trans rfl; have hfz10_0 := qbz BK690.out 0; have hfz10_1 := qbz BK690.out 1; have hfz10_2 := qbz BK690.out 2) | (go_at_call 82; (with_reducible refine (slices_Equal_uint64_uint64.calls k _ _ l0_1 _ _ l1_1 true _ ?side1 ?side2 ?side3 ?side4 A4.out).mono ?_); (case side1 => repeat (first | exact (Kd.C_below HR0_1.out HB.out) | (with_reducible refine Kd.C_alloc ?_ _) | (with_reducible refine Kd.C_drewN ?_ _) | (with_reducible refine Kd.C_drew ?_))); (case side2 => exact HC0_1.out); (case side3 => repeat (first | exact (Kd.C_below HR1_1.out HB.out) | (with_reducible refine Kd.C_alloc ?_ _) | (with_reducible refine Kd.C_drewN ?_ _) | (with_reducible refine Kd.C_drew ?_))); (case side4 => exact HC1_1.out); rintro e w' ⟨rfl, ⟨nd, rfl⟩⟩))
   go_ret
   exact ⟨by first | rfl | (simp [qcq, qcz] <;> rfl) | (simp [*, qcq, qcz] <;> rfl), by repeat (first | (with_reducible first | exact HB.out | apply qax | apply qaq | apply qaz | refine qaj ?_ GE689.out | refine qaj ?_ GE690.out) | exact HB.out)⟩
  ·replace c5 := Bool.eq_false_iff.mpr c5
   subst c5
   have H1 : (some false) = some r := by rw [if_neg (show ¬ (false = true) by decide)] at H; exact H
   clear H
   have H := H1
   clear H1
   obtain rfl := Option.some.inj H
   go_enter Try.func64, Try.ntmps64
   go_wp2_with (first | ((with_reducible refine qcv (N := 2) rfl ?_); refine qcw ?hg (N := 2) ?hd (cs := #[.int .i64 a0_0, .slice A0_1 l0_1.length c0_1, .string a0_2]) (t := 80) ?hr ?_; (case hd => rfl); (case hg => rfl); (case hr => first | (go_simp; done) | (go_simp; rfl)); intro gb689 hg w11 hbox hb; have n0_ := Aside0.mk (qbj (by repeat (first | (with_reducible first | exact HB.out | apply qax | apply qaq | apply qaz) | exact HB.out)) hb); have n1_ := Aside0.mk (hbox); have n2_ := Aside0.mk ((by rw [hg]; exact (qbx (by repeat (first | (with_reducible first | exact HB.out | apply qax | apply qaq | apply qaz) | exact HB.out))) : w.heap.size ≤ gb689)); have n3_ := Aside0.mk ((by rw [hg]; exact (qbx (by repeat (first | (with_reducible first | exact HB.out | apply qax | apply qaq | apply qaz) | exact HB.out))) : w.heap.size ≤ gb689)); clear HB; have HB := n0_; have BK689 := n1_; have GW689 := n2_; have GE689 := n3_; clear n0_ n1_ n2_ n3_; clear hb hbox hg) | ((with_reducible refine qcv (N := 3) rfl ?_); refine qcw ?hg (N := 3) ?hd (cs := #[.int .i64 a1_0, .slice A1_1 l1_1.length c1_1, .string a1_2]) (t := 80) ?hr ?_; (case hd => rfl); (case hg => rfl); (case hr => first | (go_simp; done) | (go_simp; rfl)); intro gb690 hg w12 hbox hb; have n0_ := Aside0.mk (qcx (g := gb689) (o := .cells #[.int .i64 a0_0, .slice A0_1 l0_1.length c0_1, .string a0_2] 80 (0, 0)) (by (with_reducible repeat (first | refine qav ?_ _ | refine qaw ?_ | refine qak ?_ _)); exact BK689.out) hb); have n1_ := Aside0.mk (qbj (by repeat (first | (with_reducible first | exact HB.out | apply qax | apply qaq | apply qaz | refine qaj ?_ GE689.out) | exact HB.out)) hb); have n2_ := Aside0.mk (hbox); have n3_ := Aside0.mk ((by rw [hg]; exact (qbx (by repeat (first | (with_reducible first | exact HB.out | apply qax | apply qaq | apply qaz | refine qaj ?_ GE689.out) | exact HB.out))) : w.heap.size ≤ gb690)); have n4_ := Aside0.mk ((by rw [hg]; exact (qbx (by repeat (first | (with_reducible first | exact HB.out | apply qax | apply qaq | apply qaz | refine qaj ?_ GE689.out) | exact HB.out))) : w.heap.size ≤ gb690)); have n5_ := Aside0.mk ((by rw [hg]; exact Nat.ne_of_lt (qez (g := gb689) (o := .cells #[.int .i64 a0_0, .slice A0_1 l0_1.length c0_1, .string a0_2] 80 (0, 0)) (by (with_reducible repeat (first | refine qav ?_ _ | refine qaw ?_ | refine qak ?_ _)); exact BK689.out)) : gb689 ≠ gb690)); have n6_ := Aside0.mk ((by rw [hg]; exact Nat.ne_of_gt (qez (g := gb689) (o := .cells #[.int .i64 a0_0, .slice A0_1 l0_1.length c0_1, .string a0_2] 80 (0, 0)) (by (with_reducible repeat (first | refine qav ?_ _ | refine qaw ?_ | refine qak ?_ _)); exact BK689.out)) : gb690 ≠ gb689)); clear BK689; clear HB; have BK689 := n0_; have HB := n1_; have BK690 := n2_; have GW690 := n3_; have GE690 := n4_; have NB689_690 := n5_; have NB690_689 := n6_; clear n0_ n1_ n2_ n3_ n4_ n5_ n6_; clear hb hbox hg; have hnb13 := NB689_690.out; have hnc13 := NB690_689.out; have hcz14_0 : w12.cell? ⟨gb689, 0, none⟩ = some (.int .i64 a0_0) := (qbq BK689.out 0).trans rfl; have hcz14_1 : w12.cell? ⟨gb689, 1, none⟩ = some (.slice A0_1 l0_1.length c0_1) := (qbq BK689.out 1).trans rfl; have hcz14_2 : w12.cell? ⟨gb689, 2, none⟩ = some (.string a0_2) := (qbq BK689.out 2).trans rfl; have hfz14_0 := qbz BK689.out 0; have hfz14_1 := qbz BK689.out 1; have hfz14_2 := qbz BK689.out 2; have hcz15_0 : w12.cell? ⟨gb690, 0, none⟩ = some (.int .i64 a1_0) := (qbq BK690.out 0).trans rfl; have hcz15_1 : w12.cell? ⟨gb690, 1, none⟩ = some (.slice A1_1 l1_1.length c1_1) := (qbq BK690.out 1).trans rfl; have hcz15_2 : w12.cell? ⟨gb690, 2, none⟩ = some (.string a1_2) := (qbq BK690.out 2).trans rfl; have hfz15_0 := qbz BK690.out 0; have hfz15_1 := qbz BK690.out 1; have hfz15_2 := qbz BK690.out 2) | (go_at_call 82; (with_reducible refine (slices_Equal_uint64_uint64.calls k _ _ l0_1 _ _ l1_1 false _ ?side1 ?side2 ?side3 ?side4 A4.out).mono ?_); (case side1 => repeat (first | exact (Kd.C_below HR0_1.out HB.out) | (with_reducible refine Kd.C_alloc ?_ _) | (with_reducible refine Kd.C_drewN ?_ _) | (with_reducible refine Kd.C_drew ?_))); (case side2 => exact HC0_1.out); (case side3 => repeat (first | exact (Kd.C_below HR1_1.out HB.out) | (with_reducible refine Kd.C_alloc ?_ _) | (with_reducible refine Kd.C_drewN ?_ _) | (with_reducible refine Kd.C_drew ?_))); (case side4 => exact HC1_1.out); rintro e w' ⟨rfl, ⟨nd, rfl⟩⟩))
   go_ret
   exact ⟨by first | rfl | (simp [qcq, qcz] <;> rfl) | (simp [*, qcq, qcz] <;> rfl), by repeat (first | (with_reducible first | exact HB.out | apply qax | apply qaq | apply qaz | refine qaj ?_ GE689.out | refine qaj ?_ GE690.out) | exact HB.out)⟩
 ·rw [if_neg c3] at H
  have c3b0 : (a0_0 == a1_0) = false := beq_eq_false_iff_ne.mpr c3
  have c3b1 : (a0_0 != a1_0) = true := bne_iff_ne.mpr c3
  obtain rfl := Option.some.inj H
  go_enter Try.func64, Try.ntmps64
  go_wp2_with (first | ((with_reducible refine qcv (N := 2) rfl ?_); refine qcw ?hg (N := 2) ?hd (cs := #[.int .i64 a0_0, .slice A0_1 l0_1.length c0_1, .string a0_2]) (t := 80) ?hr ?_; (case hd => rfl); (case hg => rfl); (case hr => first | (go_simp; done) | (go_simp; rfl)); intro gb689 hg w16 hbox hb; have n0_ := Aside0.mk (qbj (by repeat (first | (with_reducible first | exact HB.out | apply qax | apply qaq | apply qaz) | exact HB.out)) hb); have n1_ := Aside0.mk (hbox); have n2_ := Aside0.mk ((by rw [hg]; exact (qbx (by repeat (first | (with_reducible first | exact HB.out | apply qax | apply qaq | apply qaz) | exact HB.out))) : w.heap.size ≤ gb689)); have n3_ := Aside0.mk ((by rw [hg]; exact (qbx (by repeat (first | (with_reducible first | exact HB.out | apply qax | apply qaq | apply qaz) | exact HB.out))) : w.heap.size ≤ gb689)); clear HB; have HB := n0_; have BK689 := n1_; have GW689 := n2_; have GE689 := n3_; clear n0_ n1_ n2_ n3_; clear hb hbox hg) | ((with_reducible refine qcv (N := 3) rfl ?_); refine qcw ?hg (N := 3) ?hd (cs := #[.int .i64 a1_0, .slice A1_1 l1_1.length c1_1, .string a1_2]) (t := 80) ?hr ?_; (case hd => rfl); (case hg => rfl); (case hr => first | (go_simp; done) | (go_simp; rfl)); intro gb690 hg w17 hbox hb; have n0_ := Aside0.mk (qcx (g := gb689) (o := .cells #[.int .i64 a0_0, .slice A0_1 l0_1.length c0_1, .string a0_2] 80 (0, 0)) (by (with_reducible repeat (first | refine qav ?_ _ | refine qaw ?_ | refine qak ?_ _)); exact BK689.out) hb); have n1_ := Aside0.mk (qbj (by repeat (first | (with_reducible first | exact HB.out | apply qax | apply qaq | apply qaz | refine qaj ?_ GE689.out) | exact HB.out)) hb); have n2_ := Aside0.mk (hbox); have n3_ := Aside0.mk ((by rw [hg]; exact (qbx (by repeat (first | (with_reducible first | exact HB.out | apply qax | apply qaq | apply qaz | refine qaj ?_ GE689.out) | exact HB.out))) : w.heap.size ≤ gb690)); have n4_ := Aside0.mk ((by rw [hg]; exact (qbx (by repeat (first | (with_reducible first | exact HB.out | apply qax | apply qaq | apply qaz | refine qaj ?_ GE689.out) | exact HB.out))) : w.heap.size ≤ gb690)); have n5_ := Aside0.mk ((by rw [hg]; exact Nat.ne_of_lt (qez (g := gb689) (o := .cells #[.int .i64 a0_0, .slice A0_1 l0_1.length c0_1, .string a0_2] 80 (0, 0)) (by (with_reducible repeat (first | refine qav ?_ _ | refine qaw ?_ | refine qak ?_ _)); exact BK689.out)) : gb689 ≠ gb690)); have n6_ := Aside0.mk ((by rw [hg]; exact Nat.ne_of_gt (qez (g := gb689) (o := .cells #[.int .i64 a0_0, .slice A0_1 l0_1.length c0_1, .string a0_2] 80 (0, 0)) (by (with_reducible repeat (first | refine qav ?_ _ | refine qaw ?_ | refine qak ?_ _)); exact BK689.out)) : gb690 ≠ gb689)); clear BK689; clear HB; have BK689 := n0_; have HB := n1_; have BK690 := n2_; have GW690 := n3_; have GE690 := n4_; have NB689_690 := n5_; have NB690_689 := n6_; clear n0_ n1_ n2_ n3_ n4_ n5_ n6_; clear hb hbox hg; have hnb18 := NB689_690.out; have hnc18 := NB690_689.out; have hcz19_0 : w17.cell? ⟨gb689, 0, none⟩ = some (.int .i64 a0_0) := (qbq BK689.out 0).trans rfl; have hcz19_1 : w17.cell? ⟨gb689, 1, none⟩ = some (.slice A0_1 l0_1.length c0_1) := (qbq BK689.out 1).trans rfl; have hcz19_2 : w17.cell? ⟨gb689, 2, none⟩ = some (.string a0_2) := (qbq BK689.out 2).trans rfl; have hfz19_0 := qbz BK689.out 0; have hfz19_1 := qbz BK689.out 1; have hfz19_2 := qbz BK689.out 2; have hcz20_0 : w17.cell? ⟨gb690, 0, none⟩ = some (.int .i64 a1_0) := (qbq BK690.out 0).trans rfl; have hcz20_1 : w17.cell? ⟨gb690, 1, none⟩ = some (.slice A1_1 l1_1.length c1_1) := (qbq BK690.out 1).trans rfl; have hcz20_2 : w17.cell? ⟨gb690, 2, none⟩ = some (.string a1_2) := (qbq BK690.out 2).trans rfl; have hfz20_0 := qbz BK690.out 0; have hfz20_1 := qbz BK690.out 1; have hfz20_2 := qbz BK690.out 2))
  go_ret
  exact ⟨by first | rfl | (simp [qcq, qcz] <;> rfl) | (simp [*, qcq, qcz] <;> rfl), by repeat (first | (with_reducible first | exact HB.out | apply qax | apply qaq | apply qaz | refine qaj ?_ GE689.out | refine qaj ?_ GE690.out) | exact HB.out)⟩
end Go.Proofs.Ytojepleodijdeaa.B
namespace Go.Proofs.Ytojepleodijdeaa.B
open Go.RowKit Go.Proofs.YtojepleodijdeaaW.PrintWords Go.Proofs.YtojepleodijdeaaW.PrintLast Go.Proofs.YtojepleodijdeaaW.PrintMore
attribute [local go_sem] qgz qgx qhj qhk qfx qfj qgj qgk   -- for this text's walks alone
set_option linter.unusedVariables false
set_option linter.unusedSimpArgs false
def tumbrelref05_Ints.l0 : Nat → List Int → List Int → Int → Option (Bool)
 | 0, _, _, _ => none
 | k + 1, x0, x1, x5 => if x5 < (x0.length : Int) then (if 0 ≤ x5 then (if x5 < (x1.length : Int) then (if (rd x0 x5) = (rd x1 x5) then (tumbrelref05_Ints.l0 k x0 x1 (wrap64 (x5 + 1))) else (some false)) else (none)) else (none)) else (some true)
def tumbrelref05_Ints.f (k : Nat) (l0 : List Int) (l1 : List Int) : Option (Bool) := if (l0.length : Int) = (l1.length : Int) then (tumbrelref05_Ints.l0 k l0 l1 0) else (some false)
theorem tumbrelref05_Ints.mono_l : ∀ k, (∀ y0 y1 y2, LeO (tumbrelref05_Ints.l0 k y0 y1 y2) (tumbrelref05_Ints.l0 (k + 1) y0 y1 y2))
 | 0 => fun _ _ _ r h => by simp [tumbrelref05_Ints.l0] at h
 | k + 1 => by
  have ih0 := tumbrelref05_Ints.mono_l k
  ·intro y0 y1 y2
   unfold tumbrelref05_Ints.l0
   repeat' first
   | (with_reducible exact ih0 _ _ _)
   | (with_reducible exact LeO.refl _)
   | (with_reducible exact LeO.none _)
   | (with_reducible refine LeO.ite ?_ ?_)
   | (with_reducible refine LeO.bind ?_ (fun _ => ?_))
   | exact ih0 _ _ _
   | exact LeO.none _
   | refine LeO.ite ?_ ?_
   | refine LeO.bind ?_ (fun _ => ?_)
theorem tumbrelref05_Ints.mono : ∀ a0 a1 k, LeO (tumbrelref05_Ints.f k a0 a1) (tumbrelref05_Ints.f (k + 1) a0 a1) := by
 intro a0 a1 k
 have ih0 := tumbrelref05_Ints.mono_l k
 unfold tumbrelref05_Ints.f
 repeat' first
   | (with_reducible exact ih0 _ _ _)
   | (with_reducible exact LeO.refl _)
   | (with_reducible exact LeO.none _)
   | (with_reducible refine LeO.ite ?_ ?_)
   | (with_reducible refine LeO.bind ?_ (fun _ => ?_))
   | exact ih0 _ _ _
   | exact LeO.none _
   | refine LeO.ite ?_ ?_
   | refine LeO.bind ?_ (fun _ => ?_)
set_option maxHeartbeats 8000000 in
set_option maxRecDepth 100000 in
theorem tumbrelref05_Ints.calls (k : Nat) (A0 : Option Addr) (c0 : Nat) (l0 : List Int) (A1 : Option Addr) (c1 : Nat) (l1 : List Int) (r : Bool) (w : World) (hr0 : Kd.C (Kd.int .i64) w A0 l0.length l0) (hc0 : l0.length ≤ c0) (hr1 : Kd.C (Kd.int .i64) w A1 l1.length l1) (hc1 : l1.length ≤ c1) (h : tumbrelref05_Ints.f k l0 l1 = some r) :
  Calls Try.prog 67 #[.slice A0 l0.length c0, .slice A1 l1.length c1] w fun e w' => e = .returned (.bool r) ∧ Drawn0 w w' := by
 have HR0 := Aside0.mk hr0
 have HC0 := Aside0.mk hc0
 clear hr0 hc0
 have HR1 := Aside0.mk hr1
 have HC1 := Aside0.mk hc1
 clear hr1 hc1
 have H : (if (l0.length : Int) = (l1.length : Int) then (tumbrelref05_Ints.l0 k l0 l1 0) else (some false)) = some r := h
 clear h
 by_cases c3 : (l0.length : Int) = (l1.length : Int)
 ·rw [if_pos c3] at H
  have c3b0 : ((l0.length : Int) == (l1.length : Int)) = true := beq_iff_eq.mpr c3
  have c3b1 : ((l0.length : Int) != (l1.length : Int)) = false := bne_eq_false_iff_eq.mpr c3
  have c3b2 : (l0.length == l1.length) = true := by first | simpa using c3 | (simp at c3 ⊢; omega)
  clear c3
  have H' := Aside0.mk H
  clear H
  go_enter Try.func67, Try.ntmps67
  go_wp2
  repeat (go_quiet (fail); try go_wp2)
  go_loopg [5] k (fun kq v5 w' => ∃ (x5_1 : Int), v5 = .int .i64 x5_1 ∧ Aside0 (tumbrelref05_Ints.l0 kq l0 l1 x5_1 = some r) ∧ Aside0 (kq ≤ k) ∧ Drawn0 w w')
  case atStart => exact ⟨(0), (by first | rfl | (simp; done) | (simp [*]; done)), H', ⟨Nat.le_refl _⟩, by repeat (first | exact Drawn0.refl _ | apply Drawn0.step)⟩
  case round =>
   clear H'
   try clear c1
   try clear p2
   try clear c3
   try clear c3b0
   try clear c3b1
   try clear c3b2
   obtain ⟨x5_1, rfl, HA, HK1, ⟨m1, rfl⟩⟩ := hrel
   cases gk with
   | zero => exact absurd HA.out (by simp [tumbrelref05_Ints.l0])
   | succ k1 =>
    have H := HA.out
    clear HA
    simp only [tumbrelref05_Ints.l0] at H
    by_cases c4 : x5_1 < (l0.length : Int)
    ·rw [if_pos c4] at H
     have c4b0 : decide (x5_1 < (l0.length : Int)) = true := decide_eq_true c4
     clear c4
     by_cases c5 : 0 ≤ x5_1
     ·rw [if_pos c5] at H
      have c5b0 : decide (0 ≤ x5_1) = true := decide_eq_true c5
      clear c5
      by_cases c6 : x5_1 < (l1.length : Int)
      ·rw [if_pos c6] at H
       have c6b0 : decide (x5_1 < (l1.length : Int)) = true := decide_eq_true c6
       clear c6
       by_cases c7 : (rd l0 x5_1) = (rd l1 x5_1)
       ·rw [if_pos c7] at H
        have c7b0 : ((rd l0 x5_1) == (rd l1 x5_1)) = true := beq_iff_eq.mpr c7
        have c7b1 : ((rd l0 x5_1) != (rd l1 x5_1)) = false := bne_eq_false_iff_eq.mpr c7
        clear c7
        have H' := Aside0.mk H
        clear H
        have p716 : 0 ≤ (x5_1 : Int) := of_decide_eq_true (by first | (with_reducible assumption) | assumption)
        have q716 : x5_1 < (l0.length : Int) := of_decide_eq_true (by first | (with_reducible assumption) | assumption)
        obtain ⟨ad716, e716, hx716_0⟩ := Kd.at_int HR0.out x5_1 p716 q716
        cases e716
        replace p716 := eq_true p716
        replace q716 := eq_true q716
        have p717 : 0 ≤ (x5_1 : Int) := of_decide_eq_true (by first | (with_reducible assumption) | assumption)
        have q717 : x5_1 < (l1.length : Int) := of_decide_eq_true (by first | (with_reducible assumption) | assumption)
        obtain ⟨ad717, e717, hx717_0⟩ := Kd.at_int HR1.out x5_1 p717 q717
        cases e717
        replace p717 := eq_true p717
        replace q717 := eq_true q717
        go_wp2
        repeat (go_quiet (fail); try go_wp2)
        go_roundg k1
        case measure => have := HK1.out; omega
        case rel => exact ⟨(wrap64 (x5_1 + 1)), (by first | rfl | (simp; done) | (simp [*]; done)), H', ⟨by have := HK1.out; omega⟩, by repeat (first | exact Drawn0.refl _ | apply Drawn0.step)⟩
       ·rw [if_neg c7] at H
        have c7b0 : ((rd l0 x5_1) == (rd l1 x5_1)) = false := beq_eq_false_iff_ne.mpr c7
        have c7b1 : ((rd l0 x5_1) != (rd l1 x5_1)) = true := bne_iff_ne.mpr c7
        obtain rfl := Option.some.inj H
        have p716 : 0 ≤ (x5_1 : Int) := of_decide_eq_true (by first | (with_reducible assumption) | assumption)
        have q716 : x5_1 < (l0.length : Int) := of_decide_eq_true (by first | (with_reducible assumption) | assumption)
        obtain ⟨ad716, e716, hx716_0⟩ := Kd.at_int HR0.out x5_1 p716 q716
        cases e716
        replace p716 := eq_true p716
        replace q716 := eq_true q716
        have p717 : 0 ≤ (x5_1 : Int) := of_decide_eq_true (by first | (with_reducible assumption) | assumption)
        have q717 : x5_1 < (l1.length : Int) := of_decide_eq_true (by first | (with_reducible assumption) | assumption)
        obtain ⟨ad717, e717, hx717_0⟩ := Kd.at_int HR1.out x5_1 p717 q717
        cases e717
        replace p717 := eq_true p717
        replace q717 := eq_true q717
        go_wp2
        repeat (go_quiet (fail); try go_wp2)
        go_ret
        exact ⟨by first | rfl | (simp; done) | (simp [*]; done), by repeat (first | exact Drawn0.refl _ | apply Drawn0.step)⟩
      ·rw [if_neg c6] at H
       exact absurd H (by simp)
     ·rw [if_neg c5] at H
      exact absurd H (by simp)
    ·rw [if_neg c4] at H
     have c4b0 : decide (x5_1 < (l0.length : Int)) = false := decide_eq_false c4
     clear c4
     obtain rfl := Option.some.inj H
     go_wp2
     repeat (go_quiet (fail); try go_wp2)
     go_ret
     exact ⟨by first | rfl | (simp; done) | (simp [*]; done), by repeat (first | exact Drawn0.refl _ | apply Drawn0.step)⟩
 ·rw [if_neg c3] at H
  have c3b0 : ((l0.length : Int) == (l1.length : Int)) = false := beq_eq_false_iff_ne.mpr c3
  have c3b1 : ((l0.length : Int) != (l1.length : Int)) = true := bne_iff_ne.mpr c3
  have c3b2 : (l0.length == l1.length) = false := by first | simpa using c3 | (simp at c3 ⊢; omega)
  obtain rfl := Option.some.inj H
  go_enter Try.func67, Try.ntmps67
  go_wp2
  repeat (go_quiet (fail); try go_wp2)
  go_ret
  exact ⟨by first | rfl | (simp; done) | (simp [*]; done), by repeat (first | exact Drawn0.refl _ | apply Drawn0.step)⟩
def tumbrelref05_Large.f (a0_0 : Int) (l0_1 : List Int) (a0_2 : ByteArray) : Option (Bool) := if (l0_1.length : Int) > 100 then (some true) else (some (decide ((a0_2.size : Int) > 300)))
set_option maxHeartbeats 8000000 in
set_option maxRecDepth 100000 in
theorem tumbrelref05_Large.calls (a0_0 : Int) (A0_1 : Option Addr) (c0_1 : Nat) (l0_1 : List Int) (a0_2 : ByteArray) (r : Bool) (w : World) (hr0_1 : Kd.C (Kd.int .u64) w A0_1 l0_1.length l0_1) (hc0_1 : l0_1.length ≤ c0_1) (h : tumbrelref05_Large.f a0_0 l0_1 a0_2 = some r) :
  Calls Try.prog 55 #[.agg #[.int .i64 a0_0, .slice A0_1 l0_1.length c0_1, .string a0_2]] w fun e w' => e = .returned (.bool r) ∧ Below w.heap.size w w' := by
 have hu82 := Try.underlying82
 have HR0_1 := Aside0.mk hr0_1
 have HC0_1 := Aside0.mk hc0_1
 clear hr0_1 hc0_1
 have HB := Aside0.mk (Below.refl w.heap.size w)
 have H : (if (l0_1.length : Int) > 100 then (some true) else (some (decide ((a0_2.size : Int) > 300)))) = some r := h
 clear h
 by_cases c2 : (l0_1.length : Int) > 100
 ·rw [if_pos c2] at H
  have c2b0 : decide (100 < (l0_1.length : Int)) = true := decide_eq_true c2
  have c2b1 : decide (100 < l0_1.length) = true := decide_eq_true (by omega)
  clear c2
  obtain rfl := Option.some.inj H
  go_enter Try.func55, Try.ntmps55
  go_wp2_with (first | ((with_reducible refine qcv (N := 1) rfl ?_); (try (refine qfz (by rfl) ?_; dsimp only)); refine qcw ?hg (N := 1) ?hd (cs := #[.int .i64 a0_0, .slice A0_1 l0_1.length c0_1, .string a0_2]) (t := 82) ?hr ?_; (case hd => rfl); (case hg => rfl); (case hr => first | (go_simp; done) | (go_simp; rfl)); intro gb757 hg w3 hbox hb; have n0_ := Aside0.mk (qbj (by repeat (first | (with_reducible first | exact HB.out | apply qax | apply qaq | apply qaz) | exact HB.out)) hb); have n1_ := Aside0.mk (hbox); have n2_ := Aside0.mk ((by rw [hg]; exact (qbx (by repeat (first | (with_reducible first | exact HB.out | apply qax | apply qaq | apply qaz) | exact HB.out))) : w.heap.size ≤ gb757)); have n3_ := Aside0.mk ((by rw [hg]; exact (qbx (by repeat (first | (with_reducible first | exact HB.out | apply qax | apply qaq | apply qaz) | exact HB.out))) : w.heap.size ≤ gb757)); clear HB; have HB := n0_; have BK757 := n1_; have GW757 := n2_; have GE757 := n3_; clear n0_ n1_ n2_ n3_; clear hb hbox hg; have hcz4_0 : w3.cell? ⟨gb757, 0, none⟩ = some (.int .i64 a0_0) := (qbq BK757.out 0).trans rfl; have hcz4_1 : w3.cell? ⟨gb757, 1, none⟩ = some (.slice A0_1 l0_1.length c0_1) := (qbq BK757.out 1).trans rfl; have hcz4_2 : w3.cell? ⟨gb757, 2, none⟩ = some (.string a0_2) := (qbq BK757.out 2).trans rfl; have hfz4_0 := qbz BK757.out 0; have hfz4_1 := qbz BK757.out 1; have hfz4_2 := qbz BK757.out 2))
  go_ret
  exact ⟨by first | rfl | (simp [qcq, qcz] <;> rfl) | (simp [*, qcq, qcz] <;> rfl), by repeat (first | (with_reducible first | exact HB.out | apply qax | apply qaq | apply qaz | refine qaj ?_ GE757.out) | exact HB.out)⟩
 ·rw [if_neg c2] at H
  have c2b0 : decide (100 < (l0_1.length : Int)) = false := decide_eq_false c2
  have c2b1 : decide (100 < l0_1.length) = false := decide_eq_false (by omega)
  clear c2
  obtain rfl := Option.some.inj H
  go_enter Try.func55, Try.ntmps55
  go_wp2_with (first | ((with_reducible refine qcv (N := 1) rfl ?_); (try (refine qfz (by rfl) ?_; dsimp only)); refine qcw ?hg (N := 1) ?hd (cs := #[.int .i64 a0_0, .slice A0_1 l0_1.length c0_1, .string a0_2]) (t := 82) ?hr ?_; (case hd => rfl); (case hg => rfl); (case hr => first | (go_simp; done) | (go_simp; rfl)); intro gb757 hg w5 hbox hb; have n0_ := Aside0.mk (qbj (by repeat (first | (with_reducible first | exact HB.out | apply qax | apply qaq | apply qaz) | exact HB.out)) hb); have n1_ := Aside0.mk (hbox); have n2_ := Aside0.mk ((by rw [hg]; exact (qbx (by repeat (first | (with_reducible first | exact HB.out | apply qax | apply qaq | apply qaz) | exact HB.out))) : w.heap.size ≤ gb757)); have n3_ := Aside0.mk ((by rw [hg]; exact (qbx (by repeat (first | (with_reducible first | exact HB.out | apply qax | apply qaq | apply qaz) | exact HB.out))) : w.heap.size ≤ gb757)); clear HB; have HB := n0_; have BK757 := n1_; have GW757 := n2_; have GE757 := n3_; clear n0_ n1_ n2_ n3_; clear hb hbox hg; have hcz6_0 : w5.cell? ⟨gb757, 0, none⟩ = some (.int .i64 a0_0) := (qbq BK757.out 0).trans rfl; have hcz6_1 : w5.cell? ⟨gb757, 1, none⟩ = some (.slice A0_1 l0_1.length c0_1) := (qbq BK757.out 1).trans rfl; have hcz6_2 : w5.cell? ⟨gb757, 2, none⟩ = some (.string a0_2) := (qbq BK757.out 2).trans rfl; have hfz6_0 := qbz BK757.out 0; have hfz6_1 := qbz BK757.out 1; have hfz6_2 := qbz BK757.out 2))
  go_ret
  exact ⟨by first | rfl | (simp [qcq, qcz] <;> rfl) | (simp [*, qcq, qcz] <;> rfl), by repeat (first | (with_reducible first | exact HB.out | apply qax | apply qaq | apply qaz | refine qaj ?_ GE757.out) | exact HB.out)⟩
def tumbrelref05_many.f (a0 : Int) : Option (Int) := (some (([(-1), 0, 5, 2, 1, 2, 2, 1, 1, 1, 1, 1, 5, 7, 10, 2, 1, 1] : List Int) : List Int)).bind fun y758 => (if a0 < 0 then (some (-1)) else (if a0 > 17 then (some (-1)) else (if 0 ≤ a0 then (if a0 < (y758.length : Int) then (some (rd y758 a0)) else (none)) else (none))))
set_option maxHeartbeats 8000000 in
set_option maxRecDepth 100000 in
theorem tumbrelref05_many.calls (a0 : Int) (r : Int) (w : World) (h : tumbrelref05_many.f a0 = some r) :
  Calls Try.prog 80 #[.int .i64 a0] w fun e w' => e = .returned (.int .i64 r) ∧ Below w.heap.size w w' := by
 have HB := Aside0.mk (Below.refl w.heap.size w)
 have H : ((some (([(-1), 0, 5, 2, 1, 2, 2, 1, 1, 1, 1, 1, 5, 7, 10, 2, 1, 1] : List Int) : List Int)).bind fun y758 => (if a0 < 0 then (some (-1)) else (if a0 > 17 then (some (-1)) else (if 0 ≤ a0 then (if a0 < (y758.length : Int) then (some (rd y758 a0)) else (none)) else (none))))) = some r := h
 clear h
 obtain ⟨y758, hy758⟩ : ∃ y_ : List Int, y_ = (([(-1), 0, 5, 2, 1, 2, 2, 1, 1, 1, 1, 1, 5, 7, 10, 2, 1, 1] : List Int)) := ⟨_, rfl⟩
 replace H : (if a0 < 0 then (some (-1)) else (if a0 > 17 then (some (-1)) else (if 0 ≤ a0 then (if a0 < (y758.length : Int) then (some (rd y758 a0)) else (none)) else (none)))) = some r := by first | (rw [hy758]; with_reducible exact H) | (have H2_ := (Option.bind_some _ _).symm.trans H; rw [hy758]; with_reducible exact H2_) | (have H2_ := (Option.bind_some _ _).symm.trans H; with_reducible exact H2_) | with_reducible exact H | (rw [hy758]; exact H) | exact H
 have Ny758 := Aside0.mk hy758
 clear hy758
 by_cases c2 : a0 < 0
 ·rw [if_pos c2] at H
  have c2b0 : decide (a0 < 0) = true := decide_eq_true c2
  clear c2
  obtain rfl := Option.some.inj H
  go_enter Try.func80, Try.ntmps80
  go_wp2_with (first | ((with_reducible refine qcv (N := 4) rfl ?_); refine Kd.R_lit (Kd.int .i64) _ 3 ?hg (N := 4) ?hd (xs := ([(-1), 0, 5, 2, 1, 2, 2, 1, 1, 1, 1, 1, 5, 7, 10, 2, 1, 1] : List Int)) (inner := [.int .i64 (-1), .int .i64 0, .int .i64 5, .int .i64 2, .int .i64 1, .int .i64 2, .int .i64 2, .int .i64 1, .int .i64 1, .int .i64 1, .int .i64 1, .int .i64 1, .int .i64 5, .int .i64 7, .int .i64 10, .int .i64 2, .int .i64 1, .int .i64 1]) (ok := fun _ => True) (okp := fun _ => True) ?hr ?hp (fun _ hk => hk) trivial (Below.refl _ _) (Nat.le_refl _) (by simp) ?_; (case hd => rfl); (case hg => rfl); (case hr => first | (go_simp; done) | (go_simp; rfl)); (case hp => exact (Reps.one (show Kd.M (Kd.int .i64) _ _ _ (-1) [.int .i64 (-1)] from rfl) (Reps.one (show Kd.M (Kd.int .i64) _ _ _ 0 [.int .i64 0] from rfl) (Reps.one (show Kd.M (Kd.int .i64) _ _ _ 5 [.int .i64 5] from rfl) (Reps.one (show Kd.M (Kd.int .i64) _ _ _ 2 [.int .i64 2] from rfl) (Reps.one (show Kd.M (Kd.int .i64) _ _ _ 1 [.int .i64 1] from rfl) (Reps.one (show Kd.M (Kd.int .i64) _ _ _ 2 [.int .i64 2] from rfl) (Reps.one (show Kd.M (Kd.int .i64) _ _ _ 2 [.int .i64 2] from rfl) (Reps.one (show Kd.M (Kd.int .i64) _ _ _ 1 [.int .i64 1] from rfl) (Reps.one (show Kd.M (Kd.int .i64) _ _ _ 1 [.int .i64 1] from rfl) (Reps.one (show Kd.M (Kd.int .i64) _ _ _ 1 [.int .i64 1] from rfl) (Reps.one (show Kd.M (Kd.int .i64) _ _ _ 1 [.int .i64 1] from rfl) (Reps.one (show Kd.M (Kd.int .i64) _ _ _ 1 [.int .i64 1] from rfl) (Reps.one (show Kd.M (Kd.int .i64) _ _ _ 5 [.int .i64 5] from rfl) (Reps.one (show Kd.M (Kd.int .i64) _ _ _ 7 [.int .i64 7] from rfl) (Reps.one (show Kd.M (Kd.int .i64) _ _ _ 10 [.int .i64 10] from rfl) (Reps.one (show Kd.M (Kd.int .i64) _ _ _ 2 [.int .i64 2] from rfl) (Reps.one (show Kd.M (Kd.int .i64) _ _ _ 1 [.int .i64 1] from rfl) (Reps.one (show Kd.M (Kd.int .i64) _ _ _ 1 [.int .i64 1] from rfl) (Reps.none _ _)))))))))))))))))))); intro v759 w3 ho4 hb hg_ hnew_; clear hg_ hnew_; (first | rw [← Ny758.out] at ho4 | (simp only [Int.reduceToNat] at ho4; rw [← Ny758.out] at ho4)); have n0_ := Aside0.mk (Kd.R_lower ho4 (qbx (by repeat (first | (with_reducible first | exact HB.out | apply qax | apply qaq | apply qaz) | exact HB.out)))); have n1_ := Aside0.mk (qbj (by repeat (first | (with_reducible first | exact HB.out | apply qax | apply qaq | apply qaz) | exact HB.out)) hb); clear HB; have HO760 := n0_; have HB := n1_; clear n0_ n1_; clear hb ho4))
  go_ret
  exact ⟨by first | rfl | (simp [qcq, qcz] <;> rfl) | (simp [*, qcq, qcz] <;> rfl), by repeat (first | (with_reducible first | exact HB.out | apply qax | apply qaq | apply qaz) | exact HB.out)⟩
 ·rw [if_neg c2] at H
  have c2b0 : decide (a0 < 0) = false := decide_eq_false c2
  clear c2
  by_cases c5 : a0 > 17
  ·rw [if_pos c5] at H
   have c5b0 : decide (17 < a0) = true := decide_eq_true c5
   clear c5
   obtain rfl := Option.some.inj H
   go_enter Try.func80, Try.ntmps80
   go_wp2_with (first | ((with_reducible refine qcv (N := 4) rfl ?_); refine Kd.R_lit (Kd.int .i64) _ 3 ?hg (N := 4) ?hd (xs := ([(-1), 0, 5, 2, 1, 2, 2, 1, 1, 1, 1, 1, 5, 7, 10, 2, 1, 1] : List Int)) (inner := [.int .i64 (-1), .int .i64 0, .int .i64 5, .int .i64 2, .int .i64 1, .int .i64 2, .int .i64 2, .int .i64 1, .int .i64 1, .int .i64 1, .int .i64 1, .int .i64 1, .int .i64 5, .int .i64 7, .int .i64 10, .int .i64 2, .int .i64 1, .int .i64 1]) (ok := fun _ => True) (okp := fun _ => True) ?hr ?hp (fun _ hk => hk) trivial (Below.refl _ _) (Nat.le_refl _) (by simp) ?_; (case hd => rfl); (case hg => rfl); (case hr => first | (go_simp; done) | (go_simp; rfl)); (case hp => exact (Reps.one (show Kd.M (Kd.int .i64) _ _ _ (-1) [.int .i64 (-1)] from rfl) (Reps.one (show Kd.M (Kd.int .i64) _ _ _ 0 [.int .i64 0] from rfl) (Reps.one (show Kd.M (Kd.int .i64) _ _ _ 5 [.int .i64 5] from rfl) (Reps.one (show Kd.M (Kd.int .i64) _ _ _ 2 [.int .i64 2] from rfl) (Reps.one (show Kd.M (Kd.int .i64) _ _ _ 1 [.int .i64 1] from rfl) (Reps.one (show Kd.M (Kd.int .i64) _ _ _ 2 [.int .i64 2] from rfl) (Reps.one (show Kd.M (Kd.int .i64) _ _ _ 2 [.int .i64 2] from rfl) (Reps.one (show Kd.M (Kd.int .i64) _ _ _ 1 [.int .i64 1] from rfl) (Reps.one (show Kd.M (Kd.int .i64) _ _ _ 1 [.int .i64 1] from rfl) (Reps.one (show Kd.M (Kd.int .i64) _ _ _ 1 [.int .i64 1] from rfl) (Reps.one (show Kd.M (Kd.int .i64) _ _ _ 1 [.int .i64 1] from rfl) (Reps.one (show Kd.M (Kd.int .i64) _ _ _ 1 [.int .i64 1] from rfl) (Reps.one (show Kd.M (Kd.int .i64) _ _ _ 5 [.int .i64 5] from rfl) (Reps.one (show Kd.M (Kd.int .i64) _ _ _ 7 [.int .i64 7] from rfl) (Reps.one (show Kd.M (Kd.int .i64) _ _ _ 10 [.int .i64 10] from rfl) (Reps.one (show Kd.M (Kd.int .i64) _ _ _ 2 [.int .i64 2] from rfl) (Reps.one (show Kd.M (Kd.int .i64) _ _ _ 1 [.int .i64 1] from rfl) (Reps.one (show Kd.M (Kd.int .i64) _ _ _ 1 [.int .i64 1] from rfl) (Reps.none _ _)))))))))))))))))))); intro v759 w6 ho7 hb hg_ hnew_; clear hg_ hnew_; (first | rw [← Ny758.out] at ho7 | (simp only [Int.reduceToNat] at ho7; rw [← Ny758.out] at ho7)); have n0_ := Aside0.mk (Kd.R_lower ho7 (qbx (by repeat (first | (with_reducible first | exact HB.out | apply qax | apply qaq | apply qaz) | exact HB.out)))); have n1_ := Aside0.mk (qbj (by repeat (first | (with_reducible first | exact HB.out | apply qax | apply qaq | apply qaz) | exact HB.out)) hb); clear HB; have HO760 := n0_; have HB := n1_; clear n0_ n1_; clear hb ho7))
   go_ret
   exact ⟨by first | rfl | (simp [qcq, qcz] <;> rfl) | (simp [*, qcq, qcz] <;> rfl), by repeat (first | (with_reducible first | exact HB.out | apply qax | apply qaq | apply qaz) | exact HB.out)⟩
  ·rw [if_neg c5] at H
   have c5b0 : decide (17 < a0) = false := decide_eq_false c5
   clear c5
   by_cases c8 : 0 ≤ a0
   ·rw [if_pos c8] at H
    have c8b0 : decide (0 ≤ a0) = true := decide_eq_true c8
    clear c8
    by_cases c9 : a0 < (y758.length : Int)
    ·rw [if_pos c9] at H
     have c9b0 : decide (a0 < (y758.length : Int)) = true := decide_eq_true c9
     clear c9
     obtain rfl := Option.some.inj H
     go_enter Try.func80, Try.ntmps80
     go_wp2_with (first | ((with_reducible refine qcv (N := 4) rfl ?_); refine Kd.R_lit (Kd.int .i64) _ 3 ?hg (N := 4) ?hd (xs := ([(-1), 0, 5, 2, 1, 2, 2, 1, 1, 1, 1, 1, 5, 7, 10, 2, 1, 1] : List Int)) (inner := [.int .i64 (-1), .int .i64 0, .int .i64 5, .int .i64 2, .int .i64 1, .int .i64 2, .int .i64 2, .int .i64 1, .int .i64 1, .int .i64 1, .int .i64 1, .int .i64 1, .int .i64 5, .int .i64 7, .int .i64 10, .int .i64 2, .int .i64 1, .int .i64 1]) (ok := fun _ => True) (okp := fun _ => True) ?hr ?hp (fun _ hk => hk) trivial (Below.refl _ _) (Nat.le_refl _) (by simp) ?_; (case hd => rfl); (case hg => rfl); (case hr => first | (go_simp; done) | (go_simp; rfl)); (case hp => exact (Reps.one (show Kd.M (Kd.int .i64) _ _ _ (-1) [.int .i64 (-1)] from rfl) (Reps.one (show Kd.M (Kd.int .i64) _ _ _ 0 [.int .i64 0] from rfl) (Reps.one (show Kd.M (Kd.int .i64) _ _ _ 5 [.int .i64 5] from rfl) (Reps.one (show Kd.M (Kd.int .i64) _ _ _ 2 [.int .i64 2] from rfl) (Reps.one (show Kd.M (Kd.int .i64) _ _ _ 1 [.int .i64 1] from rfl) (Reps.one (show Kd.M (Kd.int .i64) _ _ _ 2 [.int .i64 2] from rfl) (Reps.one (show Kd.M (Kd.int .i64) _ _ _ 2 [.int .i64 2] from rfl) (Reps.one (show Kd.M (Kd.int .i64) _ _ _ 1 [.int .i64 1] from rfl) (Reps.one (show Kd.M (Kd.int .i64) _ _ _ 1 [.int .i64 1] from rfl) (Reps.one (show Kd.M (Kd.int .i64) _ _ _ 1 [.int .i64 1] from rfl) (Reps.one (show Kd.M (Kd.int .i64) _ _ _ 1 [.int .i64 1] from rfl) (Reps.one (show Kd.M (Kd.int .i64) _ _ _ 1 [.int .i64 1] from rfl) (Reps.one (show Kd.M (Kd.int .i64) _ _ _ 5 [.int .i64 5] from rfl) (Reps.one (show Kd.M (Kd.int .i64) _ _ _ 7 [.int .i64 7] from rfl) (Reps.one (show Kd.M (Kd.int .i64) _ _ _ 10 [.int .i64 10] from rfl) (Reps.one (show Kd.M (Kd.int .i64) _ _ _ 2 [.int .i64 2] from rfl) (Reps.one (show Kd.M (Kd.int .i64) _ _ _ 1 [.int .i64 1] from rfl) (Reps.one (show Kd.M (Kd.int .i64) _ _ _ 1 [.int .i64 1] from rfl) (Reps.none _ _)))))))))))))))))))); intro v759 w10 ho11 hb hg_ hnew_; clear hg_ hnew_; (first | rw [← Ny758.out] at ho11 | (simp only [Int.reduceToNat] at ho11; rw [← Ny758.out] at ho11)); have n0_ := Aside0.mk (Kd.R_lower ho11 (qbx (by repeat (first | (with_reducible first | exact HB.out | apply qax | apply qaq | apply qaz) | exact HB.out)))); have n1_ := Aside0.mk (qbj (by repeat (first | (with_reducible first | exact HB.out | apply qax | apply qaq | apply qaz) | exact HB.out)) hb); clear HB; have HO760 := n0_; have HB := n1_; clear n0_ n1_; clear hb ho11; obtain ⟨Ao12, co12, eo12⟩ := Kd.R_slice HO760.out; subst eo12; have p761 : 0 ≤ (a0 : Int) := of_decide_eq_true (by first | (with_reducible assumption) | assumption); have q761 : a0 < (y758.length : Int) := of_decide_eq_true (by first | (with_reducible assumption) | assumption); obtain ⟨ad761, e761, hx761_0⟩ := Kd.at_int (Kd.R_reads' HO760.out).2.2 a0 p761 q761; cases e761; replace p761 := eq_true p761; replace q761 := eq_true q761))
     go_ret
     exact ⟨by first | rfl | (simp [qcq, qcz] <;> rfl) | (simp [*, qcq, qcz] <;> rfl), by repeat (first | (with_reducible first | exact HB.out | apply qax | apply qaq | apply qaz) | exact HB.out)⟩
    ·rw [if_neg c9] at H
     exact absurd H (by simp)
   ·rw [if_neg c8] at H
    exact absurd H (by simp)
def tumbrelref05_texts.f (a0 : Int) (a1 : Int) : Option (Bool) := if a0 = 10 then (some (decide (a1 ≤ 64))) else (if a0 = 11 then (some (decide (a1 ≤ 64))) else (if a0 = 16 then (some (decide (a1 ≤ 64))) else (some (a1 == 0))))
set_option maxHeartbeats 8000000 in
set_option maxRecDepth 100000 in
theorem tumbrelref05_texts.calls (a0 : Int) (a1 : Int) (r : Bool) (w : World) (h : tumbrelref05_texts.f a0 a1 = some r) :
  Calls Try.prog 81 #[.int .i64 a0, .int .i64 a1] w fun e w' => e = .returned (.bool r) ∧ Drawn0 w w' := by
 have H : (if a0 = 10 then (some (decide (a1 ≤ 64))) else (if a0 = 11 then (some (decide (a1 ≤ 64))) else (if a0 = 16 then (some (decide (a1 ≤ 64))) else (some (a1 == 0))))) = some r := h
 clear h
 by_cases c3 : a0 = 10
 ·rw [if_pos c3] at H
  have c3b0 : (a0 == 10) = true := beq_iff_eq.mpr c3
  have c3b1 : (a0 != 10) = false := bne_eq_false_iff_eq.mpr c3
  clear c3
  obtain rfl := Option.some.inj H
  go_enter Try.func81, Try.ntmps81
  go_wp2
  go_ret
  exact ⟨by first | rfl | (simp; done) | (simp [*]; done), by repeat (first | exact Drawn0.refl _ | apply Drawn0.step)⟩
 ·rw [if_neg c3] at H
  have c3b0 : (a0 == 10) = false := beq_eq_false_iff_ne.mpr c3
  have c3b1 : (a0 != 10) = true := bne_iff_ne.mpr c3
  by_cases c4 : a0 = 11
  ·rw [if_pos c4] at H
   have c4b0 : (a0 == 11) = true := beq_iff_eq.mpr c4
   have c4b1 : (a0 != 11) = false := bne_eq_false_iff_eq.mpr c4
   clear c4
   obtain rfl := Option.some.inj H
   go_enter Try.func81, Try.ntmps81
   go_wp2
   go_ret
   exact ⟨by first | rfl | (simp; done) | (simp [*]; done), by repeat (first | exact Drawn0.refl _ | apply Drawn0.step)⟩
  ·rw [if_neg c4] at H
   have c4b0 : (a0 == 11) = false := beq_eq_false_iff_ne.mpr c4
   have c4b1 : (a0 != 11) = true := bne_iff_ne.mpr c4
   by_cases c5 : a0 = 16
   ·rw [if_pos c5] at H
    have c5b0 : (a0 == 16) = true := beq_iff_eq.mpr c5
    have c5b1 : (a0 != 16) = false := bne_eq_false_iff_eq.mpr c5
    clear c5
    obtain rfl := Option.some.inj H
    go_enter Try.func81, Try.ntmps81
    go_wp2
    go_ret
    exact ⟨by first | rfl | (simp; done) | (simp [*]; done), by repeat (first | exact Drawn0.refl _ | apply Drawn0.step)⟩
   ·rw [if_neg c5] at H
    have c5b0 : (a0 == 16) = false := beq_eq_false_iff_ne.mpr c5
    have c5b1 : (a0 != 16) = true := bne_iff_ne.mpr c5
    obtain rfl := Option.some.inj H
    go_enter Try.func81, Try.ntmps81
    go_wp2
    go_ret
    exact ⟨by first | rfl | (simp; done) | (simp [*]; done), by repeat (first | exact Drawn0.refl _ | apply Drawn0.step)⟩
end Go.Proofs.Ytojepleodijdeaa.B
namespace Go.Proofs.Ytojepleodijdeaa.B
open Go.RowKit Go.Proofs.YtojepleodijdeaaW.PrintWords Go.Proofs.YtojepleodijdeaaW.PrintLast Go.Proofs.YtojepleodijdeaaW.PrintMore
attribute [local go_sem] qgz qgx qhj qhk qfx qfj qgj qgk   -- for this text's walks alone
set_option linter.unusedVariables false
set_option linter.unusedSimpArgs false
def tumbrelref05_Right.f (a0_0 : Int) (l0_1 : List Int) (a0_2 : ByteArray) : Option (Bool) := (tumbrelref05_many.f a0_0).bind fun t763 => (if t763 ≥ 0 then ((tumbrelref05_many.f a0_0).bind fun t764 => (if (l0_1.length : Int) = t764 then ((tumbrelref05_texts.f a0_0 (a0_2.size : Int)).bind fun t765 => (some t765)) else (some false))) else (some false))
def tumbrelref05_Right.T1 : Bool × List (List Nat × List Nat) := (true, [([], []), ([0], [0]), ([1], [1]), ([2], [2]), ([3, 2], [3]), ([4], [4]), ([5, 4], [4, 5]), ([6, 4], [4, 6]), ([4], [4]), ([8, 4], [4, 8]), ([9, 4, 4], [4, 9]), ([7, 10, 4], [4, 7, 10]), ([4, 11], [4, 11]), ([12, 10], [12]), ([13], [13]), ([14, 13], [13, 14]), ([13], [13]), ([16, 13], [13, 16]), ([17, 13], [13, 17]), ([15, 18, 13, 13], [13, 15, 18]), ([13, 19], [13, 19]), ([20, 19, 0, 1, 2, 3, 4, 5, 6, 7, 8, 9, 10, 11, 12, 13, 14, 15, 16, 17, 18, 19, 20], [20])])
def tumbrelref05_Right.B1 : List Nat := [0, 1, 3, 7, 15, 31, 63, 127, 31, 287, 799, 2047, 4095, 8191, 16383, 32767, 16383, 81919, 212991, 524287, 1048575, 2097151]
theorem tumbrelref05_Right.tab1 : rtab .any (qdv Try.f61 1) = tumbrelref05_Right.T1 := by kernel_rfl
theorem tumbrelref05_Right.bits1 : qjv tumbrelref05_Right.T1.2 tumbrelref05_Right.B1 = true := by kernel_rfl
set_option maxHeartbeats 8000000 in
set_option maxRecDepth 100000 in
theorem tumbrelref05_Right.calls (a0_0 : Int) (A0_1 : Option Addr) (c0_1 : Nat) (l0_1 : List Int) (a0_2 : ByteArray) (r : Bool) (w : World) (hr0_1 : Kd.C (Kd.int .u64) w A0_1 l0_1.length l0_1) (hc0_1 : l0_1.length ≤ c0_1) (h : tumbrelref05_Right.f a0_0 l0_1 a0_2 = some r) :
  Calls Try.prog 61 #[.agg #[.int .i64 a0_0, .slice A0_1 l0_1.length c0_1, .string a0_2]] w fun e w' => e = .returned (.bool r) ∧ Below w.heap.size w w' := by
 have hu82 := Try.underlying82
 have HR0_1 := Aside0.mk hr0_1
 have HC0_1 := Aside0.mk hc0_1
 clear hr0_1 hc0_1
 have HB := Aside0.mk (Below.refl w.heap.size w)
 have H : ((tumbrelref05_many.f a0_0).bind fun t763 => (if t763 ≥ 0 then ((tumbrelref05_many.f a0_0).bind fun t764 => (if (l0_1.length : Int) = t764 then ((tumbrelref05_texts.f a0_0 (a0_2.size : Int)).bind fun t765 => (some t765)) else (some false))) else (some false))) = some r := h
 clear h
 replace H := Option.bind_eq_some_iff.mp H
 obtain ⟨t763, A20, H⟩ := H
 replace H : (if t763 ≥ 0 then ((tumbrelref05_many.f a0_0).bind fun t764 => (if (l0_1.length : Int) = t764 then ((tumbrelref05_texts.f a0_0 (a0_2.size : Int)).bind fun t765 => (some t765)) else (some false))) else (some false)) = some r := H
 have A2 := Aside0.mk A20
 clear A20
 by_cases c3 : t763 ≥ 0
 ·rw [if_pos c3] at H
  have c3b0 : decide (0 ≤ t763) = true := decide_eq_true c3
  clear c3
  replace H := Option.bind_eq_some_iff.mp H
  obtain ⟨t764, A40, H⟩ := H
  replace H : (if (l0_1.length : Int) = t764 then ((tumbrelref05_texts.f a0_0 (a0_2.size : Int)).bind fun t765 => (some t765)) else (some false)) = some r := H
  have A4 := Aside0.mk A40
  clear A40
  by_cases c5 : (l0_1.length : Int) = t764
  ·rw [if_pos c5] at H
   have c5b0 : ((l0_1.length : Int) == t764) = true := beq_iff_eq.mpr c5
   have c5b1 : ((l0_1.length : Int) != t764) = false := bne_eq_false_iff_eq.mpr c5
   clear c5
   replace H := Option.bind_eq_some_iff.mp H
   obtain ⟨t765, A60, H⟩ := H
   replace H : (some t765) = some r := H
   have A6 := Aside0.mk A60
   clear A60
   obtain rfl := Option.some.inj H
   go_enter Try.func61, Try.ntmps61
   try go_wp2_with (first | ((with_reducible refine qcv (N := 1) rfl ?_); (try (refine qfz (by rfl) ?_; dsimp only)); refine qcw ?hg (N := 1) ?hd (cs := #[.int .i64 a0_0, .slice A0_1 l0_1.length c0_1, .string a0_2]) (t := 82) ?hr ?_; (case hd => rfl); (case hg => rfl); (case hr => first | (go_simp; done) | (go_simp; rfl)); intro gb762 hg w7 hbox hb; have n0_ := Aside0.mk (qbj (by repeat (first | (with_reducible first | exact HB.out | apply qax | apply qaq | apply qaz) | exact HB.out)) hb); have n1_ := Aside0.mk (hbox); have n2_ := Aside0.mk ((by rw [hg]; exact (qbx (by repeat (first | (with_reducible first | exact HB.out | apply qax | apply qaq | apply qaz) | exact HB.out))) : w.heap.size ≤ gb762)); have n3_ := Aside0.mk ((by rw [hg]; exact (qbx (by repeat (first | (with_reducible first | exact HB.out | apply qax | apply qaq | apply qaz) | exact HB.out))) : w.heap.size ≤ gb762)); clear HB; have HB := n0_; have BK762 := n1_; have GW762 := n2_; have GE762 := n3_; clear n0_ n1_ n2_ n3_; clear hb hbox hg))
   have n0_ := Aside0.mk (qaw BK762.out)
   have n1_ := Aside0.mk (qaz HB.out)
   clear BK762
   clear HB
   have BK762 := n0_
   have HB := n1_
   clear n0_ n1_
   refine qjz (n := 22) (S := fun w' => w'.cell? ⟨gb762, 0, none⟩ = some (.int .i64 a0_0) ∧ w'.cell? ⟨gb762, 1, none⟩ = some (.slice A0_1 l0_1.length c0_1) ∧ w'.cell? ⟨gb762, 2, none⟩ = some (.string a0_2)) (ds := []) #[false, false, false, false, false, false, false, false, false, false, false, false, false, false, false, false, false, false, false, false, false, false] (by kernel_rfl) rfl rfl ⟨(qbq BK762.out 0).trans rfl, (qbq BK762.out 1).trans rfl, (qbq BK762.out 2).trans rfl⟩ (fun hHeld => ?_); refine qfw tumbrelref05_Right.tab1 tumbrelref05_Right.bits1 (fun HT_ HW_ => ?_)
   generalize w7.drew = w8 at BK762 HB hHeld ⊢
   refine qcj (i := 0) (N := some 3) (v := ?_) (a' := ?_) #[true, false, false, false, false, false, false, false, false, false, false, false, false, false, false, false, false, false, false, false, false, false] rfl rfl (qbk HT_.out (by kernel_rfl)) (fun _ _ _ h => h) (Or.inl ⟨by rfl, ?_⟩) ?_ ?_
   rotate_left
   ·intro w'
    go_simp
    with_reducible rfl
   rotate_left
   ·simp only [Act.put, List.setIfInBounds_toArray, List.set_cons_zero, List.set_cons_succ, qbv, qbw]
    rfl
   refine take_ (i := 1) (N := some 4) (v := ?_) (a' := ?_) #[true, true, false, false, false, false, false, false, false, false, false, false, false, false, false, false, false, false, false, false, false, false] rfl rfl (qdk HT_.out HW_.out (by kernel_rfl)) (fun _ _ _ h => h) (Or.inl ⟨by rfl, ?_⟩) hHeld ?_ ?_
   rotate_left
   ·rintro w' ⟨s0, s1, s2⟩
    go_simp
    with_reducible rfl
   rotate_left
   ·simp only [Act.put, List.setIfInBounds_toArray, List.set_cons_zero, List.set_cons_succ, qbv, qbw]
    rfl
   refine one_ (i := 2) (N := some 5) #[true, true, true, false, false, false, false, false, false, false, false, false, false, false, false, false, false, false, false, false, false, false] rfl rfl (qfk HT_.out (by kernel_rfl)) (by decide) (fun K hK => ?_)
   refine qhx Try.func80 (by kernel_rfl) rfl #[.int .i64 a0_0] (by rfl) rfl rfl (by (try simp only [List.map_toArray, List.map_cons, List.map_nil]); first | done | rfl | (simp only [List.length_drop, List.length_take]; rfl)) ?_
   with_reducible refine (tumbrelref05_many.calls a0_0 t763 _ A2.out).mono ?_
   rintro e w9 ⟨rfl, hb⟩
   refine ⟨_, rfl, ?_⟩
   have n0_ := Aside0.mk (qcx (g := gb762) (o := .cells #[.int .i64 a0_0, .slice A0_1 l0_1.length c0_1, .string a0_2] 82 (0, 0)) (by (with_reducible repeat (first | refine qav ?_ _ | refine qaw ?_ | refine qak ?_ _)); exact BK762.out) hb)
   have n1_ := Aside0.mk (qbj (by repeat (first | (with_reducible first | exact HB.out | apply qax | apply qaq | apply qaz | refine qaj ?_ GE762.out) | exact HB.out)) hb)
   clear BK762
   clear HB
   have BK762 := n0_
   have HB := n1_
   clear n0_ n1_
   (try clear hb)
   (try clear hb2)
   (try clear hk)
   (try clear hi)
   refine hK.out _ _ ⟨(qbq BK762.out 0).trans rfl, (qbq BK762.out 1).trans rfl, (qbq BK762.out 2).trans rfl⟩ (fun hHeld => ?_)
   clear hK K
   refine qhz (a' := ?_) ?_ ?_
   rotate_left
   ·show Act.put _ (some 5) _ = _
    simp only [Act.put, List.setIfInBounds_toArray, List.set_cons_zero, List.set_cons_succ, qbv, qbw]
    rfl
   refine qcj (i := 3) (N := some 6) (v := ?_) (a' := ?_) #[true, true, true, true, false, false, false, false, false, false, false, false, false, false, false, false, false, false, false, false, false, false] rfl rfl (qbk HT_.out (by kernel_rfl)) (fun _ _ _ h => h) (Or.inl ⟨by rfl, ?_⟩) ?_ ?_
   rotate_left
   ·intro w'
    go_simp
    with_reducible rfl
   rotate_left
   ·simp only [Act.put, List.setIfInBounds_toArray, List.set_cons_zero, List.set_cons_succ, qbv, qbw]
    rfl
   refine qcj (i := 4) (N := some 7) (v := ?_) (a' := ?_) #[true, true, true, true, true, false, false, false, false, false, false, false, false, false, false, false, false, false, false, false, false, false] rfl rfl (qbk HT_.out (by kernel_rfl)) (fun _ _ _ h => h) (Or.inl ⟨by rfl, ?_⟩) ?_ ?_
   rotate_left
   ·intro w'
    go_simp
    with_reducible rfl
   rotate_left
   ·simp only [Act.put, List.setIfInBounds_toArray, List.set_cons_zero, List.set_cons_succ, qbv, qbw]
    rfl
   refine qcj (i := 5) (N := some 8) (v := ?_) (a' := ?_) #[true, true, true, true, true, true, false, false, false, false, false, false, false, false, false, false, false, false, false, false, false, false] rfl rfl (qbk HT_.out (by kernel_rfl)) (fun _ _ _ h => h) (Or.inl ⟨by rfl, ?_⟩) ?_ ?_
   rotate_left
   ·intro w'
    go_simp
    with_reducible rfl
   rotate_left
   ·simp only [Act.put, List.setIfInBounds_toArray, List.set_cons_zero, List.set_cons_succ, qbv, qbw]
    rfl
   refine qcj (i := 8) (N := some 11) (v := ?_) (a' := ?_) #[true, true, true, true, true, true, false, false, true, false, false, false, false, false, false, false, false, false, false, false, false, false] rfl rfl (qbk HT_.out (by kernel_rfl)) (fun _ _ _ h => h) (Or.inl ⟨by rfl, ?_⟩) ?_ ?_
   rotate_left
   ·intro w'
    go_simp
    with_reducible rfl
   rotate_left
   ·simp only [Act.put, List.setIfInBounds_toArray, List.set_cons_zero, List.set_cons_succ, qbv, qbw]
    rfl
   refine take_ (i := 6) (N := some 9) (v := ?_) (a' := ?_) #[true, true, true, true, true, true, true, false, true, false, false, false, false, false, false, false, false, false, false, false, false, false] rfl rfl (qdk HT_.out HW_.out (by kernel_rfl)) (fun _ _ _ h => h) (Or.inl ⟨by rfl, ?_⟩) hHeld ?_ ?_
   rotate_left
   ·rintro w' ⟨s0, s1, s2⟩
    go_simp
    with_reducible rfl
   rotate_left
   ·simp only [Act.put, List.setIfInBounds_toArray, List.set_cons_zero, List.set_cons_succ, qbv, qbw]
    rfl
   refine qcj (i := 7) (N := some 10) (v := ?_) (a' := ?_) #[true, true, true, true, true, true, true, true, true, false, false, false, false, false, false, false, false, false, false, false, false, false] rfl rfl (qbk HT_.out (by kernel_rfl)) (fun _ _ _ h => h) (Or.inl ⟨by rfl, ?_⟩) ?_ ?_
   rotate_left
   ·intro w'
    go_simp
    with_reducible rfl
   rotate_left
   ·simp only [Act.put, List.setIfInBounds_toArray, List.set_cons_zero, List.set_cons_succ, qbv, qbw]
    rfl
   refine take_ (i := 9) (N := some 12) (v := ?_) (a' := ?_) #[true, true, true, true, true, true, true, true, true, true, false, false, false, false, false, false, false, false, false, false, false, false] rfl rfl (qdk HT_.out HW_.out (by kernel_rfl)) (fun _ _ _ h => h) (Or.inl ⟨by rfl, ?_⟩) hHeld ?_ ?_
   rotate_left
   ·rintro w' ⟨s0, s1, s2⟩
    go_simp
    with_reducible rfl
   rotate_left
   ·simp only [Act.put, List.setIfInBounds_toArray, List.set_cons_zero, List.set_cons_succ, qbv, qbw]
    rfl
   refine one_ (i := 10) (N := some 13) #[true, true, true, true, true, true, true, true, true, true, true, false, false, false, false, false, false, false, false, false, false, false] rfl rfl (qfk HT_.out (by kernel_rfl)) (by decide) (fun K hK => ?_)
   refine qhx Try.func80 (by kernel_rfl) rfl #[.int .i64 a0_0] (by rfl) rfl rfl (by (try simp only [List.map_toArray, List.map_cons, List.map_nil]); first | done | rfl | (simp only [List.length_drop, List.length_take]; rfl)) ?_
   with_reducible refine (tumbrelref05_many.calls a0_0 t764 _ A4.out).mono ?_
   rintro e w10 ⟨rfl, hb⟩
   refine ⟨_, rfl, ?_⟩
   have n0_ := Aside0.mk (qcx (g := gb762) (o := .cells #[.int .i64 a0_0, .slice A0_1 l0_1.length c0_1, .string a0_2] 82 (0, 0)) (by (with_reducible repeat (first | refine qav ?_ _ | refine qaw ?_ | refine qak ?_ _)); exact BK762.out) hb)
   have n1_ := Aside0.mk (qbj (by repeat (first | (with_reducible first | exact HB.out | apply qax | apply qaq | apply qaz | refine qaj ?_ GE762.out) | exact HB.out)) hb)
   clear BK762
   clear HB
   have BK762 := n0_
   have HB := n1_
   clear n0_ n1_
   (try clear hb)
   (try clear hb2)
   (try clear hk)
   (try clear hi)
   refine hK.out _ _ ⟨(qbq BK762.out 0).trans rfl, (qbq BK762.out 1).trans rfl, (qbq BK762.out 2).trans rfl⟩ (fun hHeld => ?_)
   clear hK K
   refine qhz (a' := ?_) ?_ ?_
   rotate_left
   ·show Act.put _ (some 13) _ = _
    simp only [Act.put, List.setIfInBounds_toArray, List.set_cons_zero, List.set_cons_succ, qbv, qbw]
    rfl
   refine qcj (i := 11) (N := some 14) (v := ?_) (a' := ?_) #[true, true, true, true, true, true, true, true, true, true, true, true, false, false, false, false, false, false, false, false, false, false] rfl rfl (qbk HT_.out (by kernel_rfl)) (fun _ _ _ h => h) (Or.inl ⟨by rfl, ?_⟩) ?_ ?_
   rotate_left
   ·intro w'
    go_simp
    with_reducible rfl
   rotate_left
   ·simp only [Act.put, List.setIfInBounds_toArray, List.set_cons_zero, List.set_cons_succ, qbv, qbw]
    rfl
   refine qcj (i := 12) (N := some 15) (v := ?_) (a' := ?_) #[true, true, true, true, true, true, true, true, true, true, true, true, true, false, false, false, false, false, false, false, false, false] rfl rfl (qbk HT_.out (by kernel_rfl)) (fun _ _ _ h => h) (Or.inl ⟨by rfl, ?_⟩) ?_ ?_
   rotate_left
   ·intro w'
    go_simp
    with_reducible rfl
   rotate_left
   ·simp only [Act.put, List.setIfInBounds_toArray, List.set_cons_zero, List.set_cons_succ, qbv, qbw]
    rfl
   refine qcj (i := 13) (N := some 16) (v := ?_) (a' := ?_) #[true, true, true, true, true, true, true, true, true, true, true, true, true, true, false, false, false, false, false, false, false, false] rfl rfl (qbk HT_.out (by kernel_rfl)) (fun _ _ _ h => h) (Or.inl ⟨by rfl, ?_⟩) ?_ ?_
   rotate_left
   ·intro w'
    go_simp
    with_reducible rfl
   rotate_left
   ·simp only [Act.put, List.setIfInBounds_toArray, List.set_cons_zero, List.set_cons_succ, qbv, qbw]
    rfl
   refine qcj (i := 14) (N := some 17) (v := ?_) (a' := ?_) #[true, true, true, true, true, true, true, true, true, true, true, true, true, true, true, false, false, false, false, false, false, false] rfl rfl (qbk HT_.out (by kernel_rfl)) (fun _ _ _ h => h) (Or.inl ⟨by rfl, ?_⟩) ?_ ?_
   rotate_left
   ·intro w'
    go_simp
    with_reducible rfl
   rotate_left
   ·simp only [Act.put, List.setIfInBounds_toArray, List.set_cons_zero, List.set_cons_succ, qbv, qbw]
    rfl
   refine qcj (i := 16) (N := some 19) (v := ?_) (a' := ?_) #[true, true, true, true, true, true, true, true, true, true, true, true, true, true, true, false, true, false, false, false, false, false] rfl rfl (qbk HT_.out (by kernel_rfl)) (fun _ _ _ h => h) (Or.inl ⟨by rfl, ?_⟩) ?_ ?_
   rotate_left
   ·intro w'
    go_simp
    with_reducible rfl
   rotate_left
   ·simp only [Act.put, List.setIfInBounds_toArray, List.set_cons_zero, List.set_cons_succ, qbv, qbw]
    rfl
   refine take_ (i := 15) (N := some 18) (v := ?_) (a' := ?_) #[true, true, true, true, true, true, true, true, true, true, true, true, true, true, true, true, true, false, false, false, false, false] rfl rfl (qdk HT_.out HW_.out (by kernel_rfl)) (fun _ _ _ h => h) (Or.inl ⟨by rfl, ?_⟩) hHeld ?_ ?_
   rotate_left
   ·rintro w' ⟨s0, s1, s2⟩
    go_simp
    with_reducible rfl
   rotate_left
   ·simp only [Act.put, List.setIfInBounds_toArray, List.set_cons_zero, List.set_cons_succ, qbv, qbw]
    rfl
   refine take_ (i := 17) (N := some 20) (v := ?_) (a' := ?_) #[true, true, true, true, true, true, true, true, true, true, true, true, true, true, true, true, true, true, false, false, false, false] rfl rfl (qdk HT_.out HW_.out (by kernel_rfl)) (fun _ _ _ h => h) (Or.inl ⟨by rfl, ?_⟩) hHeld ?_ ?_
   rotate_left
   ·rintro w' ⟨s0, s1, s2⟩
    go_simp
    with_reducible rfl
   rotate_left
   ·simp only [Act.put, List.setIfInBounds_toArray, List.set_cons_zero, List.set_cons_succ, qbv, qbw]
    rfl
   refine qcj (i := 18) (N := some 21) (v := ?_) (a' := ?_) #[true, true, true, true, true, true, true, true, true, true, true, true, true, true, true, true, true, true, true, false, false, false] rfl rfl (qbk HT_.out (by kernel_rfl)) (fun _ _ _ h => h) (Or.inl ⟨by rfl, ?_⟩) ?_ ?_
   rotate_left
   ·intro w'
    go_simp
    with_reducible rfl
   rotate_left
   ·simp only [Act.put, List.setIfInBounds_toArray, List.set_cons_zero, List.set_cons_succ, qbv, qbw]
    rfl
   refine one_ (i := 19) (N := some 22) #[true, true, true, true, true, true, true, true, true, true, true, true, true, true, true, true, true, true, true, true, false, false] rfl rfl (qfk HT_.out (by kernel_rfl)) (by decide) (fun K hK => ?_)
   refine qhx Try.func81 (by kernel_rfl) rfl #[.int .i64 a0_0, .int .i64 (a0_2.size : Int)] (by rfl) rfl rfl (by (try simp only [List.map_toArray, List.map_cons, List.map_nil]); first | done | rfl | (simp only [List.length_drop, List.length_take]; rfl)) ?_
   with_reducible refine (tumbrelref05_texts.calls a0_0 (a0_2.size : Int) t765 _ A6.out).mono ?_
   rintro e w' ⟨rfl, ⟨nd, rfl⟩⟩
   refine ⟨_, rfl, ?_⟩
   refine hK.out _ _ ⟨(qbq BK762.out 0).trans rfl, (qbq BK762.out 1).trans rfl, (qbq BK762.out 2).trans rfl⟩ (fun hHeld => ?_)
   clear hK K
   refine qhz (a' := ?_) ?_ ?_
   rotate_left
   ·show Act.put _ (some 22) _ = _
    simp only [Act.put, List.setIfInBounds_toArray, List.set_cons_zero, List.set_cons_succ, qbv, qbw]
    rfl
   refine qcj (i := 20) (N := some 23) (v := ?_) (a' := ?_) #[true, true, true, true, true, true, true, true, true, true, true, true, true, true, true, true, true, true, true, true, true, false] rfl rfl (qbk HT_.out (by kernel_rfl)) (fun _ _ _ h => h) (Or.inl ⟨by rfl, ?_⟩) ?_ ?_
   rotate_left
   ·intro w'
    go_simp
    with_reducible rfl
   rotate_left
   ·simp only [Act.put, List.setIfInBounds_toArray, List.set_cons_zero, List.set_cons_succ, qbv, qbw]
    rfl
   refine qcj (i := 21) (N := some 2) (v := ?_) (a' := ?_) #[true, true, true, true, true, true, true, true, true, true, true, true, true, true, true, true, true, true, true, true, true, true] rfl rfl (qbk HT_.out (by kernel_rfl)) (fun _ _ _ h => h) (Or.inl ⟨by rfl, ?_⟩) ?_ ?_
   rotate_left
   ·intro w'
    go_simp
    with_reducible rfl
   rotate_left
   ·simp only [Act.put, List.setIfInBounds_toArray, List.set_cons_zero, List.set_cons_succ, qbv, qbw]
    rfl
   refine qlv (qiq HT_.out (by kernel_rfl)) ?_
   try go_wp2
   go_ret
   exact ⟨by first | rfl | (simp [qcq, qcz] <;> rfl) | (simp [*, qcq, qcz] <;> rfl), by repeat (first | (with_reducible first | exact HB.out | apply qax | apply qaq | apply qaz | refine qaj ?_ GE762.out) | exact HB.out)⟩
  ·rw [if_neg c5] at H
   have c5b0 : ((l0_1.length : Int) == t764) = false := beq_eq_false_iff_ne.mpr c5
   have c5b1 : ((l0_1.length : Int) != t764) = true := bne_iff_ne.mpr c5
   obtain rfl := Option.some.inj H
   go_enter Try.func61, Try.ntmps61
   try go_wp2_with (first | ((with_reducible refine qcv (N := 1) rfl ?_); (try (refine qfz (by rfl) ?_; dsimp only)); refine qcw ?hg (N := 1) ?hd (cs := #[.int .i64 a0_0, .slice A0_1 l0_1.length c0_1, .string a0_2]) (t := 82) ?hr ?_; (case hd => rfl); (case hg => rfl); (case hr => first | (go_simp; done) | (go_simp; rfl)); intro gb762 hg w11 hbox hb; have n0_ := Aside0.mk (qbj (by repeat (first | (with_reducible first | exact HB.out | apply qax | apply qaq | apply qaz) | exact HB.out)) hb); have n1_ := Aside0.mk (hbox); have n2_ := Aside0.mk ((by rw [hg]; exact (qbx (by repeat (first | (with_reducible first | exact HB.out | apply qax | apply qaq | apply qaz) | exact HB.out))) : w.heap.size ≤ gb762)); have n3_ := Aside0.mk ((by rw [hg]; exact (qbx (by repeat (first | (with_reducible first | exact HB.out | apply qax | apply qaq | apply qaz) | exact HB.out))) : w.heap.size ≤ gb762)); clear HB; have HB := n0_; have BK762 := n1_; have GW762 := n2_; have GE762 := n3_; clear n0_ n1_ n2_ n3_; clear hb hbox hg))
   have n0_ := Aside0.mk (qaw BK762.out)
   have n1_ := Aside0.mk (qaz HB.out)
   clear BK762
   clear HB
   have BK762 := n0_
   have HB := n1_
   clear n0_ n1_
   refine qjz (n := 22) (S := fun w' => w'.cell? ⟨gb762, 0, none⟩ = some (.int .i64 a0_0) ∧ w'.cell? ⟨gb762, 1, none⟩ = some (.slice A0_1 l0_1.length c0_1) ∧ w'.cell? ⟨gb762, 2, none⟩ = some (.string a0_2)) (ds := []) #[false, false, false, false, false, false, false, false, false, false, false, false, false, false, false, false, false, false, false, false, false, false] (by kernel_rfl) rfl rfl ⟨(qbq BK762.out 0).trans rfl, (qbq BK762.out 1).trans rfl, (qbq BK762.out 2).trans rfl⟩ (fun hHeld => ?_); refine qfw tumbrelref05_Right.tab1 tumbrelref05_Right.bits1 (fun HT_ HW_ => ?_)
   generalize w11.drew = w12 at BK762 HB hHeld ⊢
   refine qcj (i := 0) (N := some 3) (v := ?_) (a' := ?_) #[true, false, false, false, false, false, false, false, false, false, false, false, false, false, false, false, false, false, false, false, false, false] rfl rfl (qbk HT_.out (by kernel_rfl)) (fun _ _ _ h => h) (Or.inl ⟨by rfl, ?_⟩) ?_ ?_
   rotate_left
   ·intro w'
    go_simp
    with_reducible rfl
   rotate_left
   ·simp only [Act.put, List.setIfInBounds_toArray, List.set_cons_zero, List.set_cons_succ, qbv, qbw]
    rfl
   refine take_ (i := 1) (N := some 4) (v := ?_) (a' := ?_) #[true, true, false, false, false, false, false, false, false, false, false, false, false, false, false, false, false, false, false, false, false, false] rfl rfl (qdk HT_.out HW_.out (by kernel_rfl)) (fun _ _ _ h => h) (Or.inl ⟨by rfl, ?_⟩) hHeld ?_ ?_
   rotate_left
   ·rintro w' ⟨s0, s1, s2⟩
    go_simp
    with_reducible rfl
   rotate_left
   ·simp only [Act.put, List.setIfInBounds_toArray, List.set_cons_zero, List.set_cons_succ, qbv, qbw]
    rfl
   refine one_ (i := 2) (N := some 5) #[true, true, true, false, false, false, false, false, false, false, false, false, false, false, false, false, false, false, false, false, false, false] rfl rfl (qfk HT_.out (by kernel_rfl)) (by decide) (fun K hK => ?_)
   refine qhx Try.func80 (by kernel_rfl) rfl #[.int .i64 a0_0] (by rfl) rfl rfl (by (try simp only [List.map_toArray, List.map_cons, List.map_nil]); first | done | rfl | (simp only [List.length_drop, List.length_take]; rfl)) ?_
   with_reducible refine (tumbrelref05_many.calls a0_0 t763 _ A2.out).mono ?_
   rintro e w13 ⟨rfl, hb⟩
   refine ⟨_, rfl, ?_⟩
   have n0_ := Aside0.mk (qcx (g := gb762) (o := .cells #[.int .i64 a0_0, .slice A0_1 l0_1.length c0_1, .string a0_2] 82 (0, 0)) (by (with_reducible repeat (first | refine qav ?_ _ | refine qaw ?_ | refine qak ?_ _)); exact BK762.out) hb)
   have n1_ := Aside0.mk (qbj (by repeat (first | (with_reducible first | exact HB.out | apply qax | apply qaq | apply qaz | refine qaj ?_ GE762.out) | exact HB.out)) hb)
   clear BK762
   clear HB
   have BK762 := n0_
   have HB := n1_
   clear n0_ n1_
   (try clear hb)
   (try clear hb2)
   (try clear hk)
   (try clear hi)
   refine hK.out _ _ ⟨(qbq BK762.out 0).trans rfl, (qbq BK762.out 1).trans rfl, (qbq BK762.out 2).trans rfl⟩ (fun hHeld => ?_)
   clear hK K
   refine qhz (a' := ?_) ?_ ?_
   rotate_left
   ·show Act.put _ (some 5) _ = _
    simp only [Act.put, List.setIfInBounds_toArray, List.set_cons_zero, List.set_cons_succ, qbv, qbw]
    rfl
   refine qcj (i := 3) (N := some 6) (v := ?_) (a' := ?_) #[true, true, true, true, false, false, false, false, false, false, false, false, false, false, false, false, false, false, false, false, false, false] rfl rfl (qbk HT_.out (by kernel_rfl)) (fun _ _ _ h => h) (Or.inl ⟨by rfl, ?_⟩) ?_ ?_
   rotate_left
   ·intro w'
    go_simp
    with_reducible rfl
   rotate_left
   ·simp only [Act.put, List.setIfInBounds_toArray, List.set_cons_zero, List.set_cons_succ, qbv, qbw]
    rfl
   refine qcj (i := 4) (N := some 7) (v := ?_) (a' := ?_) #[true, true, true, true, true, false, false, false, false, false, false, false, false, false, false, false, false, false, false, false, false, false] rfl rfl (qbk HT_.out (by kernel_rfl)) (fun _ _ _ h => h) (Or.inl ⟨by rfl, ?_⟩) ?_ ?_
   rotate_left
   ·intro w'
    go_simp
    with_reducible rfl
   rotate_left
   ·simp only [Act.put, List.setIfInBounds_toArray, List.set_cons_zero, List.set_cons_succ, qbv, qbw]
    rfl
   refine qcj (i := 5) (N := some 8) (v := ?_) (a' := ?_) #[true, true, true, true, true, true, false, false, false, false, false, false, false, false, false, false, false, false, false, false, false, false] rfl rfl (qbk HT_.out (by kernel_rfl)) (fun _ _ _ h => h) (Or.inl ⟨by rfl, ?_⟩) ?_ ?_
   rotate_left
   ·intro w'
    go_simp
    with_reducible rfl
   rotate_left
   ·simp only [Act.put, List.setIfInBounds_toArray, List.set_cons_zero, List.set_cons_succ, qbv, qbw]
    rfl
   refine qcj (i := 8) (N := some 11) (v := ?_) (a' := ?_) #[true, true, true, true, true, true, false, false, true, false, false, false, false, false, false, false, false, false, false, false, false, false] rfl rfl (qbk HT_.out (by kernel_rfl)) (fun _ _ _ h => h) (Or.inl ⟨by rfl, ?_⟩) ?_ ?_
   rotate_left
   ·intro w'
    go_simp
    with_reducible rfl
   rotate_left
   ·simp only [Act.put, List.setIfInBounds_toArray, List.set_cons_zero, List.set_cons_succ, qbv, qbw]
    rfl
   refine take_ (i := 6) (N := some 9) (v := ?_) (a' := ?_) #[true, true, true, true, true, true, true, false, true, false, false, false, false, false, false, false, false, false, false, false, false, false] rfl rfl (qdk HT_.out HW_.out (by kernel_rfl)) (fun _ _ _ h => h) (Or.inl ⟨by rfl, ?_⟩) hHeld ?_ ?_
   rotate_left
   ·rintro w' ⟨s0, s1, s2⟩
    go_simp
    with_reducible rfl
   rotate_left
   ·simp only [Act.put, List.setIfInBounds_toArray, List.set_cons_zero, List.set_cons_succ, qbv, qbw]
    rfl
   refine qcj (i := 7) (N := some 10) (v := ?_) (a' := ?_) #[true, true, true, true, true, true, true, true, true, false, false, false, false, false, false, false, false, false, false, false, false, false] rfl rfl (qbk HT_.out (by kernel_rfl)) (fun _ _ _ h => h) (Or.inl ⟨by rfl, ?_⟩) ?_ ?_
   rotate_left
   ·intro w'
    go_simp
    with_reducible rfl
   rotate_left
   ·simp only [Act.put, List.setIfInBounds_toArray, List.set_cons_zero, List.set_cons_succ, qbv, qbw]
    rfl
   refine take_ (i := 9) (N := some 12) (v := ?_) (a' := ?_) #[true, true, true, true, true, true, true, true, true, true, false, false, false, false, false, false, false, false, false, false, false, false] rfl rfl (qdk HT_.out HW_.out (by kernel_rfl)) (fun _ _ _ h => h) (Or.inl ⟨by rfl, ?_⟩) hHeld ?_ ?_
   rotate_left
   ·rintro w' ⟨s0, s1, s2⟩
    go_simp
    with_reducible rfl
   rotate_left
   ·simp only [Act.put, List.setIfInBounds_toArray, List.set_cons_zero, List.set_cons_succ, qbv, qbw]
    rfl
   refine one_ (i := 10) (N := some 13) #[true, true, true, true, true, true, true, true, true, true, true, false, false, false, false, false, false, false, false, false, false, false] rfl rfl (qfk HT_.out (by kernel_rfl)) (by decide) (fun K hK => ?_)
   refine qhx Try.func80 (by kernel_rfl) rfl #[.int .i64 a0_0] (by rfl) rfl rfl (by (try simp only [List.map_toArray, List.map_cons, List.map_nil]); first | done | rfl | (simp only [List.length_drop, List.length_take]; rfl)) ?_
   with_reducible refine (tumbrelref05_many.calls a0_0 t764 _ A4.out).mono ?_
   rintro e w14 ⟨rfl, hb⟩
   refine ⟨_, rfl, ?_⟩
   have n0_ := Aside0.mk (qcx (g := gb762) (o := .cells #[.int .i64 a0_0, .slice A0_1 l0_1.length c0_1, .string a0_2] 82 (0, 0)) (by (with_reducible repeat (first | refine qav ?_ _ | refine qaw ?_ | refine qak ?_ _)); exact BK762.out) hb)
   have n1_ := Aside0.mk (qbj (by repeat (first | (with_reducible first | exact HB.out | apply qax | apply qaq | apply qaz | refine qaj ?_ GE762.out) | exact HB.out)) hb)
   clear BK762
   clear HB
   have BK762 := n0_
   have HB := n1_
   clear n0_ n1_
   (try clear hb)
   (try clear hb2)
   (try clear hk)
   (try clear hi)
   refine hK.out _ _ ⟨(qbq BK762.out 0).trans rfl, (qbq BK762.out 1).trans rfl, (qbq BK762.out 2).trans rfl⟩ (fun hHeld => ?_)
   clear hK K
   refine qhz (a' := ?_) ?_ ?_
   rotate_left
   ·show Act.put _ (some 13) _ = _
    simp only [Act.put, List.setIfInBounds_toArray, List.set_cons_zero, List.set_cons_succ, qbv, qbw]
    rfl
   refine qcj (i := 11) (N := some 14) (v := ?_) (a' := ?_) #[true, true, true, true, true, true, true, true, true, true, true, true, false, false, false, false, false, false, false, false, false, false] rfl rfl (qbk HT_.out (by kernel_rfl)) (fun _ _ _ h => h) (Or.inl ⟨by rfl, ?_⟩) ?_ ?_
   rotate_left
   ·intro w'
    go_simp
    with_reducible rfl
   rotate_left
   ·simp only [Act.put, List.setIfInBounds_toArray, List.set_cons_zero, List.set_cons_succ, qbv, qbw]
    rfl
   refine qcj (i := 12) (N := some 15) (v := ?_) (a' := ?_) #[true, true, true, true, true, true, true, true, true, true, true, true, true, false, false, false, false, false, false, false, false, false] rfl rfl (qbk HT_.out (by kernel_rfl)) (fun _ _ _ h => h) (Or.inl ⟨by rfl, ?_⟩) ?_ ?_
   rotate_left
   ·intro w'
    go_simp
    with_reducible rfl
   rotate_left
   ·simp only [Act.put, List.setIfInBounds_toArray, List.set_cons_zero, List.set_cons_succ, qbv, qbw]
    rfl
   refine qcj (i := 13) (N := some 16) (v := ?_) (a' := ?_) #[true, true, true, true, true, true, true, true, true, true, true, true, true, true, false, false, false, false, false, false, false, false] rfl rfl (qbk HT_.out (by kernel_rfl)) (fun _ _ _ h => h) (Or.inl ⟨by rfl, ?_⟩) ?_ ?_
   rotate_left
   ·intro w'
    go_simp
    with_reducible rfl
   rotate_left
   ·simp only [Act.put, List.setIfInBounds_toArray, List.set_cons_zero, List.set_cons_succ, qbv, qbw]
    rfl
   refine qcj (i := 14) (N := some 17) (v := undef) (a' := ?_) #[true, true, true, true, true, true, true, true, true, true, true, true, true, true, true, false, false, false, false, false, false, false] rfl rfl (qbk HT_.out (by kernel_rfl)) (fun _ _ _ h => h) (Or.inr ⟨by rfl, rfl⟩) ?_ ?_
   rotate_left
   ·simp only [Act.put, List.setIfInBounds_toArray, List.set_cons_zero, List.set_cons_succ, qbv, qbw]
    rfl
   refine qcj (i := 15) (N := some 18) (v := undef) (a' := ?_) #[true, true, true, true, true, true, true, true, true, true, true, true, true, true, true, true, false, false, false, false, false, false] rfl rfl (qbk HT_.out (by kernel_rfl)) (fun _ _ _ h => h) (Or.inr ⟨by rfl, rfl⟩) ?_ ?_
   rotate_left
   ·simp only [Act.put, List.setIfInBounds_toArray, List.set_cons_zero, List.set_cons_succ, qbv, qbw]
    rfl
   refine qcj (i := 16) (N := some 19) (v := undef) (a' := ?_) #[true, true, true, true, true, true, true, true, true, true, true, true, true, true, true, true, true, false, false, false, false, false] rfl rfl (qbk HT_.out (by kernel_rfl)) (fun _ _ _ h => h) (Or.inr ⟨by rfl, rfl⟩) ?_ ?_
   rotate_left
   ·simp only [Act.put, List.setIfInBounds_toArray, List.set_cons_zero, List.set_cons_succ, qbv, qbw]
    rfl
   refine qcj (i := 17) (N := some 20) (v := undef) (a' := ?_) #[true, true, true, true, true, true, true, true, true, true, true, true, true, true, true, true, true, true, false, false, false, false] rfl rfl (qbk HT_.out (by kernel_rfl)) (fun _ _ _ h => h) (Or.inr ⟨by rfl, rfl⟩) ?_ ?_
   rotate_left
   ·simp only [Act.put, List.setIfInBounds_toArray, List.set_cons_zero, List.set_cons_succ, qbv, qbw]
    rfl
   refine qcj (i := 18) (N := some 21) (v := undef) (a' := ?_) #[true, true, true, true, true, true, true, true, true, true, true, true, true, true, true, true, true, true, true, false, false, false] rfl rfl (qbk HT_.out (by kernel_rfl)) (fun _ _ _ h => h) (Or.inr ⟨by rfl, rfl⟩) ?_ ?_
   rotate_left
   ·simp only [Act.put, List.setIfInBounds_toArray, List.set_cons_zero, List.set_cons_succ, qbv, qbw]
    rfl
   refine qcj (i := 19) (N := some 22) (v := undef) (a' := ?_) #[true, true, true, true, true, true, true, true, true, true, true, true, true, true, true, true, true, true, true, true, false, false] rfl rfl (qbk HT_.out (by kernel_rfl)) (fun _ _ _ h => h) (Or.inr ⟨by rfl, rfl⟩) ?_ ?_
   rotate_left
   ·simp only [Act.put, List.setIfInBounds_toArray, List.set_cons_zero, List.set_cons_succ, qbv, qbw]
    rfl
   refine qcj (i := 20) (N := some 23) (v := ?_) (a' := ?_) #[true, true, true, true, true, true, true, true, true, true, true, true, true, true, true, true, true, true, true, true, true, false] rfl rfl (qbk HT_.out (by kernel_rfl)) (fun _ _ _ h => h) (Or.inl ⟨by rfl, ?_⟩) ?_ ?_
   rotate_left
   ·intro w'
    go_simp
    with_reducible rfl
   rotate_left
   ·simp only [Act.put, List.setIfInBounds_toArray, List.set_cons_zero, List.set_cons_succ, qbv, qbw]
    rfl
   refine qcj (i := 21) (N := some 2) (v := ?_) (a' := ?_) #[true, true, true, true, true, true, true, true, true, true, true, true, true, true, true, true, true, true, true, true, true, true] rfl rfl (qbk HT_.out (by kernel_rfl)) (fun _ _ _ h => h) (Or.inl ⟨by rfl, ?_⟩) ?_ ?_
   rotate_left
   ·intro w'
    go_simp
    with_reducible rfl
   rotate_left
   ·simp only [Act.put, List.setIfInBounds_toArray, List.set_cons_zero, List.set_cons_succ, qbv, qbw]
    rfl
   refine qlv (qiq HT_.out (by kernel_rfl)) ?_
   try go_wp2
   go_ret
   exact ⟨by first | rfl | (simp [qcq, qcz] <;> rfl) | (simp [*, qcq, qcz] <;> rfl), by repeat (first | (with_reducible first | exact HB.out | apply qax | apply qaq | apply qaz | refine qaj ?_ GE762.out) | exact HB.out)⟩
 ·rw [if_neg c3] at H
  have c3b0 : decide (0 ≤ t763) = false := decide_eq_false c3
  clear c3
  obtain rfl := Option.some.inj H
  go_enter Try.func61, Try.ntmps61
  try go_wp2_with (first | ((with_reducible refine qcv (N := 1) rfl ?_); (try (refine qfz (by rfl) ?_; dsimp only)); refine qcw ?hg (N := 1) ?hd (cs := #[.int .i64 a0_0, .slice A0_1 l0_1.length c0_1, .string a0_2]) (t := 82) ?hr ?_; (case hd => rfl); (case hg => rfl); (case hr => first | (go_simp; done) | (go_simp; rfl)); intro gb762 hg w15 hbox hb; have n0_ := Aside0.mk (qbj (by repeat (first | (with_reducible first | exact HB.out | apply qax | apply qaq | apply qaz) | exact HB.out)) hb); have n1_ := Aside0.mk (hbox); have n2_ := Aside0.mk ((by rw [hg]; exact (qbx (by repeat (first | (with_reducible first | exact HB.out | apply qax | apply qaq | apply qaz) | exact HB.out))) : w.heap.size ≤ gb762)); have n3_ := Aside0.mk ((by rw [hg]; exact (qbx (by repeat (first | (with_reducible first | exact HB.out | apply qax | apply qaq | apply qaz) | exact HB.out))) : w.heap.size ≤ gb762)); clear HB; have HB := n0_; have BK762 := n1_; have GW762 := n2_; have GE762 := n3_; clear n0_ n1_ n2_ n3_; clear hb hbox hg))
  have n0_ := Aside0.mk (qaw BK762.out)
  have n1_ := Aside0.mk (qaz HB.out)
  clear BK762
  clear HB
  have BK762 := n0_
  have HB := n1_
  clear n0_ n1_
  refine qjz (n := 22) (S := fun w' => w'.cell? ⟨gb762, 0, none⟩ = some (.int .i64 a0_0) ∧ w'.cell? ⟨gb762, 1, none⟩ = some (.slice A0_1 l0_1.length c0_1) ∧ w'.cell? ⟨gb762, 2, none⟩ = some (.string a0_2)) (ds := []) #[false, false, false, false, false, false, false, false, false, false, false, false, false, false, false, false, false, false, false, false, false, false] (by kernel_rfl) rfl rfl ⟨(qbq BK762.out 0).trans rfl, (qbq BK762.out 1).trans rfl, (qbq BK762.out 2).trans rfl⟩ (fun hHeld => ?_); refine qfw tumbrelref05_Right.tab1 tumbrelref05_Right.bits1 (fun HT_ HW_ => ?_)
  generalize w15.drew = w16 at BK762 HB hHeld ⊢
  refine qcj (i := 0) (N := some 3) (v := ?_) (a' := ?_) #[true, false, false, false, false, false, false, false, false, false, false, false, false, false, false, false, false, false, false, false, false, false] rfl rfl (qbk HT_.out (by kernel_rfl)) (fun _ _ _ h => h) (Or.inl ⟨by rfl, ?_⟩) ?_ ?_
  rotate_left
  ·intro w'
   go_simp
   with_reducible rfl
  rotate_left
  ·simp only [Act.put, List.setIfInBounds_toArray, List.set_cons_zero, List.set_cons_succ, qbv, qbw]
   rfl
  refine take_ (i := 1) (N := some 4) (v := ?_) (a' := ?_) #[true, true, false, false, false, false, false, false, false, false, false, false, false, false, false, false, false, false, false, false, false, false] rfl rfl (qdk HT_.out HW_.out (by kernel_rfl)) (fun _ _ _ h => h) (Or.inl ⟨by rfl, ?_⟩) hHeld ?_ ?_
  rotate_left
  ·rintro w' ⟨s0, s1, s2⟩
   go_simp
   with_reducible rfl
  rotate_left
  ·simp only [Act.put, List.setIfInBounds_toArray, List.set_cons_zero, List.set_cons_succ, qbv, qbw]
   rfl
  refine one_ (i := 2) (N := some 5) #[true, true, true, false, false, false, false, false, false, false, false, false, false, false, false, false, false, false, false, false, false, false] rfl rfl (qfk HT_.out (by kernel_rfl)) (by decide) (fun K hK => ?_)
  refine qhx Try.func80 (by kernel_rfl) rfl #[.int .i64 a0_0] (by rfl) rfl rfl (by (try simp only [List.map_toArray, List.map_cons, List.map_nil]); first | done | rfl | (simp only [List.length_drop, List.length_take]; rfl)) ?_
  with_reducible refine (tumbrelref05_many.calls a0_0 t763 _ A2.out).mono ?_
  rintro e w17 ⟨rfl, hb⟩
  refine ⟨_, rfl, ?_⟩
  have n0_ := Aside0.mk (qcx (g := gb762) (o := .cells #[.int .i64 a0_0, .slice A0_1 l0_1.length c0_1, .string a0_2] 82 (0, 0)) (by (with_reducible repeat (first | refine qav ?_ _ | refine qaw ?_ | refine qak ?_ _)); exact BK762.out) hb)
  have n1_ := Aside0.mk (qbj (by repeat (first | (with_reducible first | exact HB.out | apply qax | apply qaq | apply qaz | refine qaj ?_ GE762.out) | exact HB.out)) hb)
  clear BK762
  clear HB
  have BK762 := n0_
  have HB := n1_
  clear n0_ n1_
  (try clear hb)
  (try clear hb2)
  (try clear hk)
  (try clear hi)
  refine hK.out _ _ ⟨(qbq BK762.out 0).trans rfl, (qbq BK762.out 1).trans rfl, (qbq BK762.out 2).trans rfl⟩ (fun hHeld => ?_)
  clear hK K
  refine qhz (a' := ?_) ?_ ?_
  rotate_left
  ·show Act.put _ (some 5) _ = _
   simp only [Act.put, List.setIfInBounds_toArray, List.set_cons_zero, List.set_cons_succ, qbv, qbw]
   rfl
  refine qcj (i := 3) (N := some 6) (v := ?_) (a' := ?_) #[true, true, true, true, false, false, false, false, false, false, false, false, false, false, false, false, false, false, false, false, false, false] rfl rfl (qbk HT_.out (by kernel_rfl)) (fun _ _ _ h => h) (Or.inl ⟨by rfl, ?_⟩) ?_ ?_
  rotate_left
  ·intro w'
   go_simp
   with_reducible rfl
  rotate_left
  ·simp only [Act.put, List.setIfInBounds_toArray, List.set_cons_zero, List.set_cons_succ, qbv, qbw]
   rfl
  refine qcj (i := 4) (N := some 7) (v := ?_) (a' := ?_) #[true, true, true, true, true, false, false, false, false, false, false, false, false, false, false, false, false, false, false, false, false, false] rfl rfl (qbk HT_.out (by kernel_rfl)) (fun _ _ _ h => h) (Or.inl ⟨by rfl, ?_⟩) ?_ ?_
  rotate_left
  ·intro w'
   go_simp
   with_reducible rfl
  rotate_left
  ·simp only [Act.put, List.setIfInBounds_toArray, List.set_cons_zero, List.set_cons_succ, qbv, qbw]
   rfl
  refine qcj (i := 5) (N := some 8) (v := undef) (a' := ?_) #[true, true, true, true, true, true, false, false, false, false, false, false, false, false, false, false, false, false, false, false, false, false] rfl rfl (qbk HT_.out (by kernel_rfl)) (fun _ _ _ h => h) (Or.inr ⟨by rfl, rfl⟩) ?_ ?_
  rotate_left
  ·simp only [Act.put, List.setIfInBounds_toArray, List.set_cons_zero, List.set_cons_succ, qbv, qbw]
   rfl
  refine qcj (i := 6) (N := some 9) (v := undef) (a' := ?_) #[true, true, true, true, true, true, true, false, false, false, false, false, false, false, false, false, false, false, false, false, false, false] rfl rfl (qbk HT_.out (by kernel_rfl)) (fun _ _ _ h => h) (Or.inr ⟨by rfl, rfl⟩) ?_ ?_
  rotate_left
  ·simp only [Act.put, List.setIfInBounds_toArray, List.set_cons_zero, List.set_cons_succ, qbv, qbw]
   rfl
  refine qcj (i := 7) (N := some 10) (v := undef) (a' := ?_) #[true, true, true, true, true, true, true, true, false, false, false, false, false, false, false, false, false, false, false, false, false, false] rfl rfl (qbk HT_.out (by kernel_rfl)) (fun _ _ _ h => h) (Or.inr ⟨by rfl, rfl⟩) ?_ ?_
  rotate_left
  ·simp only [Act.put, List.setIfInBounds_toArray, List.set_cons_zero, List.set_cons_succ, qbv, qbw]
   rfl
  refine qcj (i := 8) (N := some 11) (v := undef) (a' := ?_) #[true, true, true, true, true, true, true, true, true, false, false, false, false, false, false, false, false, false, false, false, false, false] rfl rfl (qbk HT_.out (by kernel_rfl)) (fun _ _ _ h => h) (Or.inr ⟨by rfl, rfl⟩) ?_ ?_
  rotate_left
  ·simp only [Act.put, List.setIfInBounds_toArray, List.set_cons_zero, List.set_cons_succ, qbv, qbw]
   rfl
  refine qcj (i := 9) (N := some 12) (v := undef) (a' := ?_) #[true, true, true, true, true, true, true, true, true, true, false, false, false, false, false, false, false, false, false, false, false, false] rfl rfl (qbk HT_.out (by kernel_rfl)) (fun _ _ _ h => h) (Or.inr ⟨by rfl, rfl⟩) ?_ ?_
  rotate_left
  ·simp only [Act.put, List.setIfInBounds_toArray, List.set_cons_zero, List.set_cons_succ, qbv, qbw]
   rfl
  refine qcj (i := 10) (N := some 13) (v := undef) (a' := ?_) #[true, true, true, true, true, true, true, true, true, true, true, false, false, false, false, false, false, false, false, false, false, false] rfl rfl (qbk HT_.out (by kernel_rfl)) (fun _ _ _ h => h) (Or.inr ⟨by rfl, rfl⟩) ?_ ?_
  rotate_left
  ·simp only [Act.put, List.setIfInBounds_toArray, List.set_cons_zero, List.set_cons_succ, qbv, qbw]
   rfl
  refine qcj (i := 11) (N := some 14) (v := undef) (a' := ?_) #[true, true, true, true, true, true, true, true, true, true, true, true, false, false, false, false, false, false, false, false, false, false] rfl rfl (qbk HT_.out (by kernel_rfl)) (fun _ _ _ h => h) (Or.inr ⟨by rfl, rfl⟩) ?_ ?_
  rotate_left
  ·simp only [Act.put, List.setIfInBounds_toArray, List.set_cons_zero, List.set_cons_succ, qbv, qbw]
   rfl
  refine qcj (i := 12) (N := some 15) (v := ?_) (a' := ?_) #[true, true, true, true, true, true, true, true, true, true, true, true, true, false, false, false, false, false, false, false, false, false] rfl rfl (qbk HT_.out (by kernel_rfl)) (fun _ _ _ h => h) (Or.inl ⟨by rfl, ?_⟩) ?_ ?_
  rotate_left
  ·intro w'
   go_simp
   with_reducible rfl
  rotate_left
  ·simp only [Act.put, List.setIfInBounds_toArray, List.set_cons_zero, List.set_cons_succ, qbv, qbw]
   rfl
  refine qcj (i := 13) (N := some 16) (v := ?_) (a' := ?_) #[true, true, true, true, true, true, true, true, true, true, true, true, true, true, false, false, false, false, false, false, false, false] rfl rfl (qbk HT_.out (by kernel_rfl)) (fun _ _ _ h => h) (Or.inl ⟨by rfl, ?_⟩) ?_ ?_
  rotate_left
  ·intro w'
   go_simp
   with_reducible rfl
  rotate_left
  ·simp only [Act.put, List.setIfInBounds_toArray, List.set_cons_zero, List.set_cons_succ, qbv, qbw]
   rfl
  refine qcj (i := 14) (N := some 17) (v := undef) (a' := ?_) #[true, true, true, true, true, true, true, true, true, true, true, true, true, true, true, false, false, false, false, false, false, false] rfl rfl (qbk HT_.out (by kernel_rfl)) (fun _ _ _ h => h) (Or.inr ⟨by rfl, rfl⟩) ?_ ?_
  rotate_left
  ·simp only [Act.put, List.setIfInBounds_toArray, List.set_cons_zero, List.set_cons_succ, qbv, qbw]
   rfl
  refine qcj (i := 15) (N := some 18) (v := undef) (a' := ?_) #[true, true, true, true, true, true, true, true, true, true, true, true, true, true, true, true, false, false, false, false, false, false] rfl rfl (qbk HT_.out (by kernel_rfl)) (fun _ _ _ h => h) (Or.inr ⟨by rfl, rfl⟩) ?_ ?_
  rotate_left
  ·simp only [Act.put, List.setIfInBounds_toArray, List.set_cons_zero, List.set_cons_succ, qbv, qbw]
   rfl
  refine qcj (i := 16) (N := some 19) (v := undef) (a' := ?_) #[true, true, true, true, true, true, true, true, true, true, true, true, true, true, true, true, true, false, false, false, false, false] rfl rfl (qbk HT_.out (by kernel_rfl)) (fun _ _ _ h => h) (Or.inr ⟨by rfl, rfl⟩) ?_ ?_
  rotate_left
  ·simp only [Act.put, List.setIfInBounds_toArray, List.set_cons_zero, List.set_cons_succ, qbv, qbw]
   rfl
  refine qcj (i := 17) (N := some 20) (v := undef) (a' := ?_) #[true, true, true, true, true, true, true, true, true, true, true, true, true, true, true, true, true, true, false, false, false, false] rfl rfl (qbk HT_.out (by kernel_rfl)) (fun _ _ _ h => h) (Or.inr ⟨by rfl, rfl⟩) ?_ ?_
  rotate_left
  ·simp only [Act.put, List.setIfInBounds_toArray, List.set_cons_zero, List.set_cons_succ, qbv, qbw]
   rfl
  refine qcj (i := 18) (N := some 21) (v := undef) (a' := ?_) #[true, true, true, true, true, true, true, true, true, true, true, true, true, true, true, true, true, true, true, false, false, false] rfl rfl (qbk HT_.out (by kernel_rfl)) (fun _ _ _ h => h) (Or.inr ⟨by rfl, rfl⟩) ?_ ?_
  rotate_left
  ·simp only [Act.put, List.setIfInBounds_toArray, List.set_cons_zero, List.set_cons_succ, qbv, qbw]
   rfl
  refine qcj (i := 19) (N := some 22) (v := undef) (a' := ?_) #[true, true, true, true, true, true, true, true, true, true, true, true, true, true, true, true, true, true, true, true, false, false] rfl rfl (qbk HT_.out (by kernel_rfl)) (fun _ _ _ h => h) (Or.inr ⟨by rfl, rfl⟩) ?_ ?_
  rotate_left
  ·simp only [Act.put, List.setIfInBounds_toArray, List.set_cons_zero, List.set_cons_succ, qbv, qbw]
   rfl
  refine qcj (i := 20) (N := some 23) (v := ?_) (a' := ?_) #[true, true, true, true, true, true, true, true, true, true, true, true, true, true, true, true, true, true, true, true, true, false] rfl rfl (qbk HT_.out (by kernel_rfl)) (fun _ _ _ h => h) (Or.inl ⟨by rfl, ?_⟩) ?_ ?_
  rotate_left
  ·intro w'
   go_simp
   with_reducible rfl
  rotate_left
  ·simp only [Act.put, List.setIfInBounds_toArray, List.set_cons_zero, List.set_cons_succ, qbv, qbw]
   rfl
  refine qcj (i := 21) (N := some 2) (v := ?_) (a' := ?_) #[true, true, true, true, true, true, true, true, true, true, true, true, true, true, true, true, true, true, true, true, true, true] rfl rfl (qbk HT_.out (by kernel_rfl)) (fun _ _ _ h => h) (Or.inl ⟨by rfl, ?_⟩) ?_ ?_
  rotate_left
  ·intro w'
   go_simp
   with_reducible rfl
  rotate_left
  ·simp only [Act.put, List.setIfInBounds_toArray, List.set_cons_zero, List.set_cons_succ, qbv, qbw]
   rfl
  refine qlv (qiq HT_.out (by kernel_rfl)) ?_
  try go_wp2
  go_ret
  exact ⟨by first | rfl | (simp [qcq, qcz] <;> rfl) | (simp [*, qcq, qcz] <;> rfl), by repeat (first | (with_reducible first | exact HB.out | apply qax | apply qaq | apply qaz | refine qaj ?_ GE762.out) | exact HB.out)⟩
def tumbrelref05_Read.l0 : Nat → Int → Int → Int → Int → List Int → Int → List Int → ByteArray → Option (Int × List Int × ByteArray × Int)
 | 0, _, _, _, _, _, _, _, _ => none
 | k + 1, x4, x6, x7, x767000, x767001, x770000, x770001, x770002 => if x7 < x4 then (if 0 ≤ x6 then (if x6 ≤ (x767001.length : Int) then ((tumbrelref02_Get.f k (x767001.drop (x6 : Int).toNat)).bind fun bt771 => (if bt771.2.2 = 0 then (if x770001.length < 17592186044416 then (tumbrelref05_Read.l0 k x4 (wrap64 (x6 + bt771.2.1)) (wrap64 (x7 + 1)) x767000 x767001 x770000 (x770001 ++ [bt771.1]) x770002) else (none)) else (some (0, ([] : List Int), (⟨#[]⟩ : ByteArray), bt771.2.2)))) else (none)) else (none)) else ((tumbrelref05_texts.f x770000 (wrap64 ((x767001.length : Int) - x6))).bind fun t777 => (if t777 = true then (if 0 ≤ x6 then (if x6 ≤ (x767001.length : Int) then (some (x770000, x770001, strOfNums (x767001.drop (x6 : Int).toNat), 0)) else (none)) else (none)) else (some (0, ([] : List Int), (⟨#[]⟩ : ByteArray), 2))))
def tumbrelref05_Read.f (k : Nat) (a0_0 : Int) (l0_1 : List Int) : Option (Int × List Int × ByteArray × Int) := (tumbrelref05_many.f (wrap64 (a0_0))).bind fun t768 => (if t768 < 0 then (some (0, ([] : List Int), (⟨#[]⟩ : ByteArray), 2)) else (tumbrelref05_Read.l0 k t768 0 0 a0_0 l0_1 (wrap64 (a0_0)) ([] : List Int) (⟨#[]⟩ : ByteArray)))
set_option maxHeartbeats 8000000 in
set_option maxRecDepth 100000 in
theorem tumbrelref05_Read.calls (k : Nat) (a0_0 : Int) (A0_1 : Option Addr) (c0_1 : Nat) (l0_1 : List Int) (r1 : Int) (r2 : List Int) (r3 : ByteArray) (r4 : Int) (w : World) (hr0_1 : Kd.C (Kd.int .u8) w A0_1 l0_1.length l0_1) (hc0_1 : l0_1.length ≤ c0_1) (h : tumbrelref05_Read.f k a0_0 l0_1 = some (r1, r2, r3, r4)) :
  Calls Try.prog 59 #[.agg #[.int .u8 a0_0, .slice A0_1 l0_1.length c0_1]] w fun e w' => ∃ v1_ : Value, e = .returned (.tuple #[.agg #[.int .i64 r1, v1_, .string r3], .int .i64 r4]) ∧ Kd.R (Kd.int .u64) 22 w' w.heap.size (fun _ => True) v1_ r2 ∧ Below w.heap.size w w' := by
 have hu60 := Try.underlying60
 have hu82 := Try.underlying82
 have HR0_1 := Aside0.mk hr0_1
 have HC0_1 := Aside0.mk hc0_1
 clear hr0_1 hc0_1
 have HB := Aside0.mk (Below.refl w.heap.size w)
 have H : ((tumbrelref05_many.f (wrap64 (a0_0))).bind fun t768 => (if t768 < 0 then (some (0, ([] : List Int), (⟨#[]⟩ : ByteArray), 2)) else (tumbrelref05_Read.l0 k t768 0 0 a0_0 l0_1 (wrap64 (a0_0)) ([] : List Int) (⟨#[]⟩ : ByteArray)))) = some (r1, r2, r3, r4) := h
 clear h
 replace H := Option.bind_eq_some_iff.mp H
 obtain ⟨t768, A20, H⟩ := H
 replace H : (if t768 < 0 then (some (0, ([] : List Int), (⟨#[]⟩ : ByteArray), 2)) else (tumbrelref05_Read.l0 k t768 0 0 a0_0 l0_1 (wrap64 (a0_0)) ([] : List Int) (⟨#[]⟩ : ByteArray))) = some (r1, r2, r3, r4) := H
 have A2 := Aside0.mk A20
 clear A20
 by_cases c3 : t768 < 0
 ·rw [if_pos c3] at H
  have c3b0 : decide (t768 < 0) = true := decide_eq_true c3
  clear c3
  simp only [Option.some.injEq, Prod.mk.injEq] at H
  obtain ⟨rfl, rfl, rfl, rfl⟩ := H
  go_enter Try.func59, Try.ntmps59
  go_wp2_with (first | ((with_reducible refine qcv (N := 1) rfl ?_); refine qcw ?hg (N := 1) ?hd (cs := #[.int .u8 a0_0, .slice A0_1 l0_1.length c0_1]) (t := 60) ?hr ?_; (case hd => rfl); (case hg => rfl); (case hr => first | (go_simp; done) | (go_simp; rfl)); intro gb766 hg w4 hbox hb; have n0_ := Aside0.mk (qbj (by repeat (first | (with_reducible first | exact HB.out | apply qax | apply qaq | apply qaz) | exact HB.out)) hb); have n1_ := Aside0.mk (hbox); have n2_ := Aside0.mk ((by rw [hg]; exact (qbx (by repeat (first | (with_reducible first | exact HB.out | apply qax | apply qaq | apply qaz) | exact HB.out))) : w.heap.size ≤ gb766)); have n3_ := Aside0.mk ((by rw [hg]; exact (qbx (by repeat (first | (with_reducible first | exact HB.out | apply qax | apply qaq | apply qaz) | exact HB.out))) : w.heap.size ≤ gb766)); clear HB; have HB := n0_; have BK766 := n1_; have GW766 := n2_; have GE766 := n3_; clear n0_ n1_ n2_ n3_; clear hb hbox hg) | ((with_reducible refine qcv (N := 2) rfl ?_); refine qcw ?hg (N := 2) ?hd (cs := #[.int .i64 0, .slice none 0 0, .string (⟨#[]⟩ : ByteArray)]) (t := 82) ?hr ?_; (case hd => rfl); (case hg => rfl); (case hr => first | (go_simp; done) | (go_simp; rfl)); intro gb767 hg w5 hbox hb; have n0_ := Aside0.mk (qcx (g := gb766) (o := .cells #[.int .u8 a0_0, .slice A0_1 l0_1.length c0_1] 60 (0, 0)) (by (with_reducible repeat (first | refine qav ?_ _ | refine qaw ?_ | refine qak ?_ _)); exact BK766.out) hb); have n1_ := Aside0.mk (qbj (by repeat (first | (with_reducible first | exact HB.out | apply qax | apply qaq | apply qaz | refine qaj ?_ GE766.out) | exact HB.out)) hb); have n2_ := Aside0.mk (hbox); have n3_ := Aside0.mk ((by rw [hg]; exact (qbx (by repeat (first | (with_reducible first | exact HB.out | apply qax | apply qaq | apply qaz | refine qaj ?_ GE766.out) | exact HB.out))) : w.heap.size ≤ gb767)); have n4_ := Aside0.mk ((by rw [hg]; exact (qbx (by repeat (first | (with_reducible first | exact HB.out | apply qax | apply qaq | apply qaz | refine qaj ?_ GE766.out) | exact HB.out))) : w.heap.size ≤ gb767)); have n5_ := Aside0.mk ((by rw [hg]; exact Nat.ne_of_lt (qez (g := gb766) (o := .cells #[.int .u8 a0_0, .slice A0_1 l0_1.length c0_1] 60 (0, 0)) (by (with_reducible repeat (first | refine qav ?_ _ | refine qaw ?_ | refine qak ?_ _)); exact BK766.out)) : gb766 ≠ gb767)); have n6_ := Aside0.mk ((by rw [hg]; exact Nat.ne_of_gt (qez (g := gb766) (o := .cells #[.int .u8 a0_0, .slice A0_1 l0_1.length c0_1] 60 (0, 0)) (by (with_reducible repeat (first | refine qav ?_ _ | refine qaw ?_ | refine qak ?_ _)); exact BK766.out)) : gb767 ≠ gb766)); clear BK766; clear HB; have BK766 := n0_; have HB := n1_; have BK767 := n2_; have GW767 := n3_; have GE767 := n4_; have NB766_767 := n5_; have NB767_766 := n6_; clear n0_ n1_ n2_ n3_ n4_ n5_ n6_; clear hb hbox hg; have hnb6 := NB766_767.out; have hnc6 := NB767_766.out; have hcz7_0 : w5.cell? ⟨gb766, 0, none⟩ = some (.int .u8 a0_0) := (qbq BK766.out 0).trans rfl; have hcz7_1 : w5.cell? ⟨gb766, 1, none⟩ = some (.slice A0_1 l0_1.length c0_1) := (qbq BK766.out 1).trans rfl; have hfz7_0 := qbz BK766.out 0; have hfz7_1 := qbz BK766.out 1) | ((with_reducible refine qdq (f := 80) rfl ?_); refine qew (some 14) rfl rfl Try.func80 (by kernel_rfl) rfl #[.int .i64 (wrap64 (a0_0))] rfl (by (try simp only [List.map_toArray, List.map_cons, List.map_nil]); first | done | rfl | (simp only [List.length_drop, List.length_take]; rfl)) ?_; (with_reducible refine (tumbrelref05_many.calls (wrap64 (a0_0)) t768 _ A2.out).mono ?_); rintro e w8 ⟨rfl, hb⟩; refine ⟨_, rfl, ?_⟩; have n0_ := Aside0.mk (qcx (g := gb766) (o := .cells #[.int .u8 a0_0, .slice A0_1 l0_1.length c0_1] 60 (0, 0)) (by (with_reducible repeat (first | refine qav ?_ _ | refine qaw ?_ | refine qak ?_ _)); exact BK766.out) hb); have n1_ := Aside0.mk (qcx (g := gb767) (o := .cells #[.int .i64 0, .slice none 0 0, .string (⟨#[]⟩ : ByteArray)] 82 (0, 0)) (by (with_reducible repeat (first | refine qav ?_ _ | refine qaw ?_ | refine qak ?_ _)); exact BK767.out) hb); have n2_ := Aside0.mk (qbj (by repeat (first | (with_reducible first | exact HB.out | apply qax | apply qaq | apply qaz | refine qaj ?_ GE766.out | refine qaj ?_ GE767.out) | exact HB.out)) hb); clear BK766; clear BK767; clear HB; have BK766 := n0_; have BK767 := n1_; have HB := n2_; clear n0_ n1_ n2_; (try clear hb); (try clear hb2); (try clear hk); (try clear hi); have hcz9_0 : w8.cell? ⟨gb767, 0, none⟩ = some (.int .i64 0) := (qbq BK767.out 0).trans rfl; have hcz9_1 : w8.cell? ⟨gb767, 1, none⟩ = some (.slice none 0 0) := (qbq BK767.out 1).trans rfl; have hcz9_2 : w8.cell? ⟨gb767, 2, none⟩ = some (.string (⟨#[]⟩ : ByteArray)) := (qbq BK767.out 2).trans rfl; have hfz9_0 := qbz BK767.out 0; have hfz9_1 := qbz BK767.out 1; have hfz9_2 := qbz BK767.out 2))
  refine bodyPost_ret (qiv rfl _ _ gb767 82 #[.int .i64 0, .slice none 0 0, .string (⟨#[]⟩ : ByteArray)] (0, 0) _ rfl (by (with_reducible repeat (first | refine qav ?_ _ | refine qaw ?_ | refine qak ?_ _)); refine qdx (cs := #[.int .i64 0, .slice none 0 0, .string (⟨#[]⟩ : ByteArray)]) ?_ 2 _ rfl; (with_reducible repeat (first | refine qav ?_ _ | refine qaw ?_ | refine qak ?_ _)); refine qdx (cs := #[.int .i64 0, .slice none 0 0, .string (⟨#[]⟩ : ByteArray)]) ?_ 1 _ rfl; (with_reducible repeat (first | refine qav ?_ _ | refine qaw ?_ | refine qak ?_ _)); refine qdx (cs := #[.int .i64 0, .slice none 0 0, .string (⟨#[]⟩ : ByteArray)]) ?_ 0 _ rfl; (with_reducible repeat (first | refine qav ?_ _ | refine qaw ?_ | refine qak ?_ _)); exact BK767.out) Try.underlying82 rfl (by kernel_rfl)) rfl ?_
  exact ⟨_, by first | rfl | (simp [qcq, qcz] <;> rfl) | (simp [*, qcq, qcz] <;> rfl), by first | exact Kd.R_nil _ _ _ _ _ | exact Kd.N_nil _ _ _ _ _ | exact Kd.V_nil _ _ _ _ _ | exact Kd.Q_nil _ _ _ _ _ | exact Kd.S_nil _ _ _ _ _, by repeat (first | (with_reducible first | exact HB.out | apply qax | apply qaq | apply qaz | refine qaj ?_ GE766.out | refine qaj ?_ GE767.out) | exact HB.out)⟩
 ·rw [if_neg c3] at H
  have c3b0 : decide (t768 < 0) = false := decide_eq_false c3
  clear c3
  have H' := Aside0.mk H
  clear H
  go_enter Try.func59, Try.ntmps59
  go_wp2_with (first | ((with_reducible refine qcv (N := 1) rfl ?_); refine qcw ?hg (N := 1) ?hd (cs := #[.int .u8 a0_0, .slice A0_1 l0_1.length c0_1]) (t := 60) ?hr ?_; (case hd => rfl); (case hg => rfl); (case hr => first | (go_simp; done) | (go_simp; rfl)); intro gb766 hg w10 hbox hb; have n0_ := Aside0.mk (qbj (by repeat (first | (with_reducible first | exact HB.out | apply qax | apply qaq | apply qaz) | exact HB.out)) hb); have n1_ := Aside0.mk (hbox); have n2_ := Aside0.mk ((by rw [hg]; exact (qbx (by repeat (first | (with_reducible first | exact HB.out | apply qax | apply qaq | apply qaz) | exact HB.out))) : w.heap.size ≤ gb766)); have n3_ := Aside0.mk ((by rw [hg]; exact (qbx (by repeat (first | (with_reducible first | exact HB.out | apply qax | apply qaq | apply qaz) | exact HB.out))) : w.heap.size ≤ gb766)); clear HB; have HB := n0_; have BK766 := n1_; have GW766 := n2_; have GE766 := n3_; clear n0_ n1_ n2_ n3_; clear hb hbox hg) | ((with_reducible refine qcv (N := 2) rfl ?_); refine qcw ?hg (N := 2) ?hd (cs := #[.int .i64 0, .slice none 0 0, .string (⟨#[]⟩ : ByteArray)]) (t := 82) ?hr ?_; (case hd => rfl); (case hg => rfl); (case hr => first | (go_simp; done) | (go_simp; rfl)); intro gb767 hg w11 hbox hb; have n0_ := Aside0.mk (qcx (g := gb766) (o := .cells #[.int .u8 a0_0, .slice A0_1 l0_1.length c0_1] 60 (0, 0)) (by (with_reducible repeat (first | refine qav ?_ _ | refine qaw ?_ | refine qak ?_ _)); exact BK766.out) hb); have n1_ := Aside0.mk (qbj (by repeat (first | (with_reducible first | exact HB.out | apply qax | apply qaq | apply qaz | refine qaj ?_ GE766.out) | exact HB.out)) hb); have n2_ := Aside0.mk (hbox); have n3_ := Aside0.mk ((by rw [hg]; exact (qbx (by repeat (first | (with_reducible first | exact HB.out | apply qax | apply qaq | apply qaz | refine qaj ?_ GE766.out) | exact HB.out))) : w.heap.size ≤ gb767)); have n4_ := Aside0.mk ((by rw [hg]; exact (qbx (by repeat (first | (with_reducible first | exact HB.out | apply qax | apply qaq | apply qaz | refine qaj ?_ GE766.out) | exact HB.out))) : w.heap.size ≤ gb767)); have n5_ := Aside0.mk ((by rw [hg]; exact Nat.ne_of_lt (qez (g := gb766) (o := .cells #[.int .u8 a0_0, .slice A0_1 l0_1.length c0_1] 60 (0, 0)) (by (with_reducible repeat (first | refine qav ?_ _ | refine qaw ?_ | refine qak ?_ _)); exact BK766.out)) : gb766 ≠ gb767)); have n6_ := Aside0.mk ((by rw [hg]; exact Nat.ne_of_gt (qez (g := gb766) (o := .cells #[.int .u8 a0_0, .slice A0_1 l0_1.length c0_1] 60 (0, 0)) (by (with_reducible repeat (first | refine qav ?_ _ | refine qaw ?_ | refine qak ?_ _)); exact BK766.out)) : gb767 ≠ gb766)); clear BK766; clear HB; have BK766 := n0_; have HB := n1_; have BK767 := n2_; have GW767 := n3_; have GE767 := n4_; have NB766_767 := n5_; have NB767_766 := n6_; clear n0_ n1_ n2_ n3_ n4_ n5_ n6_; clear hb hbox hg; have hnb12 := NB766_767.out; have hnc12 := NB767_766.out; have hcz13_0 : w11.cell? ⟨gb766, 0, none⟩ = some (.int .u8 a0_0) := (qbq BK766.out 0).trans rfl; have hcz13_1 : w11.cell? ⟨gb766, 1, none⟩ = some (.slice A0_1 l0_1.length c0_1) := (qbq BK766.out 1).trans rfl; have hfz13_0 := qbz BK766.out 0; have hfz13_1 := qbz BK766.out 1) | ((with_reducible refine qdq (f := 80) rfl ?_); refine qew (some 14) rfl rfl Try.func80 (by kernel_rfl) rfl #[.int .i64 (wrap64 (a0_0))] rfl (by (try simp only [List.map_toArray, List.map_cons, List.map_nil]); first | done | rfl | (simp only [List.length_drop, List.length_take]; rfl)) ?_; (with_reducible refine (tumbrelref05_many.calls (wrap64 (a0_0)) t768 _ A2.out).mono ?_); rintro e w14 ⟨rfl, hb⟩; refine ⟨_, rfl, ?_⟩; have n0_ := Aside0.mk (qcx (g := gb766) (o := .cells #[.int .u8 a0_0, .slice A0_1 l0_1.length c0_1] 60 (0, 0)) (by (with_reducible repeat (first | refine qav ?_ _ | refine qaw ?_ | refine qak ?_ _)); exact BK766.out) hb); have n1_ := Aside0.mk (qcx (g := gb767) (o := .cells #[.int .i64 0, .slice none 0 0, .string (⟨#[]⟩ : ByteArray)] 82 (0, 0)) (by (with_reducible repeat (first | refine qav ?_ _ | refine qaw ?_ | refine qak ?_ _)); exact BK767.out) hb); have n2_ := Aside0.mk (qbj (by repeat (first | (with_reducible first | exact HB.out | apply qax | apply qaq | apply qaz | refine qaj ?_ GE766.out | refine qaj ?_ GE767.out) | exact HB.out)) hb); clear BK766; clear BK767; clear HB; have BK766 := n0_; have BK767 := n1_; have HB := n2_; clear n0_ n1_ n2_; (try clear hb); (try clear hb2); (try clear hk); (try clear hi); have hcz15_0 : w14.cell? ⟨gb766, 0, none⟩ = some (.int .u8 a0_0) := (qbq BK766.out 0).trans rfl; have hcz15_1 : w14.cell? ⟨gb766, 1, none⟩ = some (.slice A0_1 l0_1.length c0_1) := (qbq BK766.out 1).trans rfl; have hfz15_0 := qbz BK766.out 0; have hfz15_1 := qbz BK766.out 1) | ((with_reducible refine qcv (N := 5) rfl ?_); refine qcw ?hg (N := 5) ?hd (cs := #[.int .i64 0, .slice none 0 0, .string (⟨#[]⟩ : ByteArray)]) (t := 82) ?hr ?_; (case hd => rfl); (case hg => rfl); (case hr => first | (go_simp; done) | (go_simp; rfl)); intro gb769 hg w16 hbox hb; have n0_ := Aside0.mk (qcx (g := gb766) (o := .cells #[.int .u8 a0_0, .slice A0_1 l0_1.length c0_1] 60 (0, 0)) (by (with_reducible repeat (first | refine qav ?_ _ | refine qaw ?_ | refine qak ?_ _)); exact BK766.out) hb); have n1_ := Aside0.mk (qcx (g := gb767) (o := .cells #[.int .i64 0, .slice none 0 0, .string (⟨#[]⟩ : ByteArray)] 82 (0, 0)) (by (with_reducible repeat (first | refine qav ?_ _ | refine qaw ?_ | refine qak ?_ _)); exact BK767.out) hb); have n2_ := Aside0.mk (qbj (by repeat (first | (with_reducible first | exact HB.out | apply qax | apply qaq | apply qaz | refine qaj ?_ GE766.out | refine qaj ?_ GE767.out) | exact HB.out)) hb); have n3_ := Aside0.mk (hbox); have n4_ := Aside0.mk ((by rw [hg]; exact (qbx (by repeat (first | (with_reducible first | exact HB.out | apply qax | apply qaq | apply qaz | refine qaj ?_ GE766.out | refine qaj ?_ GE767.out) | exact HB.out))) : w.heap.size ≤ gb769)); have n5_ := Aside0.mk ((by rw [hg]; exact (qbx (by repeat (first | (with_reducible first | exact HB.out | apply qax | apply qaq | apply qaz | refine qaj ?_ GE766.out | refine qaj ?_ GE767.out) | exact HB.out))) : w.heap.size ≤ gb769)); have n6_ := Aside0.mk ((by rw [hg]; exact Nat.ne_of_lt (qez (g := gb766) (o := .cells #[.int .u8 a0_0, .slice A0_1 l0_1.length c0_1] 60 (0, 0)) (by (with_reducible repeat (first | refine qav ?_ _ | refine qaw ?_ | refine qak ?_ _)); exact BK766.out)) : gb766 ≠ gb769)); have n7_ := Aside0.mk ((by rw [hg]; exact Nat.ne_of_gt (qez (g := gb766) (o := .cells #[.int .u8 a0_0, .slice A0_1 l0_1.length c0_1] 60 (0, 0)) (by (with_reducible repeat (first | refine qav ?_ _ | refine qaw ?_ | refine qak ?_ _)); exact BK766.out)) : gb769 ≠ gb766)); have n8_ := Aside0.mk ((by rw [hg]; exact Nat.ne_of_lt (qez (g := gb767) (o := .cells #[.int .i64 0, .slice none 0 0, .string (⟨#[]⟩ : ByteArray)] 82 (0, 0)) (by (with_reducible repeat (first | refine qav ?_ _ | refine qaw ?_ | refine qak ?_ _)); exact BK767.out)) : gb767 ≠ gb769)); have n9_ := Aside0.mk ((by rw [hg]; exact Nat.ne_of_gt (qez (g := gb767) (o := .cells #[.int .i64 0, .slice none 0 0, .string (⟨#[]⟩ : ByteArray)] 82 (0, 0)) (by (with_reducible repeat (first | refine qav ?_ _ | refine qaw ?_ | refine qak ?_ _)); exact BK767.out)) : gb769 ≠ gb767)); clear BK766; clear BK767; clear HB; have BK766 := n0_; have BK767 := n1_; have HB := n2_; have BK769 := n3_; have GW769 := n4_; have GE769 := n5_; have NB766_769 := n6_; have NB769_766 := n7_; have NB767_769 := n8_; have NB769_767 := n9_; clear n0_ n1_ n2_ n3_ n4_ n5_ n6_ n7_ n8_ n9_; clear hb hbox hg; have hnb17 := NB769_766.out; have hnc17 := NB766_769.out; have hnb18 := NB769_767.out; have hnc18 := NB767_769.out; have hcz19_0 : w16.cell? ⟨gb769, 0, none⟩ = some (.int .i64 0) := (qbq BK769.out 0).trans rfl; have hcz19_1 : w16.cell? ⟨gb769, 1, none⟩ = some (.slice none 0 0) := (qbq BK769.out 1).trans rfl; have hcz19_2 : w16.cell? ⟨gb769, 2, none⟩ = some (.string (⟨#[]⟩ : ByteArray)) := (qbq BK769.out 2).trans rfl; have hfz19_0 := qbz BK769.out 0; have hfz19_1 := qbz BK769.out 1; have hfz19_2 := qbz BK769.out 2))
  go_loopg [6, 7] k (fun kq v6 v7 w' => ∃ (x6_1 : Int) (x7_1 : Int) (x768000_1 : Int) (x768002_1 : ByteArray) (x770001_1 : List Int) (u770001 : Value), v6 = .int .i64 x6_1 ∧ v7 = .int .i64 x7_1 ∧ Aside0 (tumbrelref05_Read.l0 kq t768 x6_1 x7_1 a0_0 l0_1 (wrap64 (a0_0)) x770001_1 (⟨#[]⟩ : ByteArray) = some (r1, r2, r3, r4)) ∧ Aside0 (kq ≤ k) ∧ Aside0 (Kd.R (Kd.int .u64) 22 w' w.heap.size (fun _ => True) u770001 x770001_1) ∧ Aside0 (w'.heap[gb766]? = some (.cells #[.int .u8 a0_0, (.slice A0_1 l0_1.length c0_1)] 60 (0, 0))) ∧ Aside0 (w'.heap[gb767]? = some (.cells #[.int .i64 x768000_1, (.slice none 0 0), .string x768002_1] 82 (0, 0))) ∧ Aside0 (w'.heap[gb769]? = some (.cells #[.int .i64 (wrap64 (a0_0)), u770001, .string (⟨#[]⟩ : ByteArray)] 82 (0, 0))) ∧ Aside0 (Below w.heap.size w w'))
  case atStart => exact ⟨(0), (0), (0), ((⟨#[]⟩ : ByteArray)), (([] : List Int)), (.slice none 0 0), (by first | rfl | (simp; done) | (simp [*]; done)), (by first | rfl | (simp; done) | (simp [*]; done)), H', ⟨Nat.le_refl _⟩, ⟨by first | exact Kd.R_nil _ _ _ _ _ | exact Kd.N_nil _ _ _ _ _ | exact Kd.V_nil _ _ _ _ _ | exact Kd.Q_nil _ _ _ _ _ | exact Kd.S_nil _ _ _ _ _⟩, ⟨by (with_reducible repeat (first | refine qav ?_ _ | refine qaw ?_ | refine qak ?_ _)); refine qej ?_ NB766_769.out _; (with_reducible repeat (first | refine qav ?_ _ | refine qaw ?_ | refine qak ?_ _)); refine qej ?_ NB766_769.out _; (with_reducible repeat (first | refine qav ?_ _ | refine qaw ?_ | refine qak ?_ _)); refine qej ?_ NB766_769.out _; (with_reducible repeat (first | refine qav ?_ _ | refine qaw ?_ | refine qak ?_ _)); exact BK766.out⟩, ⟨by (with_reducible repeat (first | refine qav ?_ _ | refine qaw ?_ | refine qak ?_ _)); refine qej ?_ NB767_769.out _; (with_reducible repeat (first | refine qav ?_ _ | refine qaw ?_ | refine qak ?_ _)); refine qej ?_ NB767_769.out _; (with_reducible repeat (first | refine qav ?_ _ | refine qaw ?_ | refine qak ?_ _)); refine qej ?_ NB767_769.out _; (with_reducible repeat (first | refine qav ?_ _ | refine qaw ?_ | refine qak ?_ _)); exact BK767.out⟩, ⟨by (with_reducible repeat (first | refine qav ?_ _ | refine qaw ?_ | refine qak ?_ _)); refine qdx (cs := #[.int .i64 (wrap64 (a0_0)), .slice none 0 0, .string (⟨#[]⟩ : ByteArray)]) ?_ 2 _ rfl; (with_reducible repeat (first | refine qav ?_ _ | refine qaw ?_ | refine qak ?_ _)); refine qdx (cs := #[.int .i64 (wrap64 (a0_0)), .slice none 0 0, .string (⟨#[]⟩ : ByteArray)]) ?_ 1 _ rfl; (with_reducible repeat (first | refine qav ?_ _ | refine qaw ?_ | refine qak ?_ _)); refine qdx (cs := #[.int .i64 0, .slice none 0 0, .string (⟨#[]⟩ : ByteArray)]) ?_ 0 _ rfl; (with_reducible repeat (first | refine qav ?_ _ | refine qaw ?_ | refine qak ?_ _)); exact BK769.out⟩, ⟨by repeat (first | (with_reducible first | exact HB.out | apply qax | apply qaq | apply qaz | refine qaj ?_ GE766.out | refine qaj ?_ GE767.out | refine qaj ?_ GE769.out) | exact HB.out)⟩⟩
  case round =>
   clear H'
   try clear c1
   try clear p2
   try clear c3
   try clear c3b0
   try clear c5
   try clear c6
   try clear p6
   try clear c8
   try clear c12
   try clear c17
   try clear c18
   try clear hcz13_0
   try clear hcz13_1
   try clear hcz15_0
   try clear hcz15_1
   try clear hcz19_0
   try clear hcz19_1
   try clear hcz19_2
   try clear hcz7_0
   try clear hcz7_1
   try clear hcz9_0
   try clear hcz9_1
   try clear hcz9_2
   try clear hfz13_0
   try clear hfz13_1
   try clear hfz15_0
   try clear hfz15_1
   try clear hfz19_0
   try clear hfz19_1
   try clear hfz19_2
   try clear hfz7_0
   try clear hfz7_1
   try clear hfz9_0
   try clear hfz9_1
   try clear hfz9_2
   obtain ⟨x6_1, x7_1, x768000_1, x768002_1, x770001_1, u770001, rfl, rfl, HA, HK1, HO_770001, BK766, BK767, BK769, HB⟩ := hrel
   cases gk with
   | zero => exact absurd HA.out (by simp [tumbrelref05_Read.l0])
   | succ k1 =>
    have H := HA.out
    clear HA
    simp only [tumbrelref05_Read.l0] at H
    by_cases c20 : x7_1 < t768
    ·rw [if_pos c20] at H
     have c20b0 : decide (x7_1 < t768) = true := decide_eq_true c20
     clear c20
     by_cases c21 : 0 ≤ x6_1
     ·rw [if_pos c21] at H
      have c21b0 := eq_true c21
      have c21b1 : decide (0 ≤ x6_1) = true := decide_eq_true c21
      clear c21
      by_cases c22 : x6_1 ≤ (l0_1.length : Int)
      ·rw [if_pos c22] at H
       have c22b0 := eq_true c22
       have c22b1 : decide (x6_1 ≤ (l0_1.length : Int)) = true := decide_eq_true c22
       clear c22
       replace H := Option.bind_eq_some_iff.mp H
       obtain ⟨⟨t771, t772, t773⟩, A230, H⟩ := H
       replace H : (if t773 = 0 then (if x770001_1.length < 17592186044416 then (tumbrelref05_Read.l0 k1 t768 (wrap64 (x6_1 + t772)) (wrap64 (x7_1 + 1)) a0_0 l0_1 (wrap64 (a0_0)) (x770001_1 ++ [t771]) (⟨#[]⟩ : ByteArray)) else (none)) else (some (0, ([] : List Int), (⟨#[]⟩ : ByteArray), t773))) = some (r1, r2, r3, r4) := H
       have A23 := Aside0.mk A230
       clear A230
       by_cases c24 : t773 = 0
       ·rw [if_pos c24] at H
        have c24b0 : (t773 == 0) = true := beq_iff_eq.mpr c24
        have c24b1 : (t773 != 0) = false := bne_eq_false_iff_eq.mpr c24
        clear c24
        by_cases c25 : x770001_1.length < 17592186044416
        ·rw [if_pos c25] at H
         have LMc25 := Aside0.mk c25
         clear c25
         obtain ⟨y774, hy774⟩ : ∃ y_ : List Int, y_ = (x770001_1 ++ [t771]) := ⟨_, rfl⟩
         replace H : (tumbrelref05_Read.l0 k1 t768 (wrap64 (x6_1 + t772)) (wrap64 (x7_1 + 1)) a0_0 l0_1 (wrap64 (a0_0)) y774 (⟨#[]⟩ : ByteArray)) = some (r1, r2, r3, r4) := by first | (rw [hy774]; with_reducible exact H) | (have H2_ := (Option.bind_some _ _).symm.trans H; rw [hy774]; with_reducible exact H2_) | (have H2_ := (Option.bind_some _ _).symm.trans H; with_reducible exact H2_) | with_reducible exact H | (rw [hy774]; exact H) | exact H
         have Ny774 := Aside0.mk hy774
         clear hy774
         have H' := Aside0.mk H
         clear H
         have hnb26 := NB766_767.out
         have hnc26 := NB767_766.out
         have hnb27 := NB766_769.out
         have hnc27 := NB769_766.out
         have hcz28_0 : wr.cell? ⟨gb766, 0, none⟩ = some (.int .u8 a0_0) := (qbq BK766.out 0).trans rfl
         have hcz28_1 : wr.cell? ⟨gb766, 1, none⟩ = some (.slice A0_1 l0_1.length c0_1) := (qbq BK766.out 1).trans rfl
         have hfz28_0 := qbz BK766.out 0
         have hfz28_1 := qbz BK766.out 1
         obtain ⟨i029, hi029, _, hsz29, _⟩ := info_parts qgv
         obtain ⟨A29, hcut29, hA29, hC29⟩ := qhw (P := Try.prog) (Value.int .u8) 0 23 5 .i64 Try.underlying23 hi029 hsz29 A0_1 c0_1 l0_1 x6_1 (of_decide_eq_true (by first | (with_reducible assumption) | assumption)) (of_decide_eq_true (by first | (with_reducible assumption) | assumption)) HC0_1.out
         have HR770 := Aside0.mk (Kd.C_of_reads (h1 := fun _ => rfl) (hA29 _ (Kd.reads_of_C HR0_1.out)))
         have HC770 := Aside0.mk hC29
         clear hA29 hC29 hi029 hsz29
         go_wp2_with (first | ((with_reducible refine qdq (f := 24) rfl ?_); refine qew (some 32) rfl rfl Try.func24 (by kernel_rfl) rfl #[.slice A29 (l0_1.drop (x6_1 : Int).toNat).length (c0_1 - x6_1.toNat)] rfl (by (try simp only [List.map_toArray, List.map_cons, List.map_nil]); first | done | (rw [show (l0_1.drop (x6_1 : Int).toNat).length = (l0_1.length - x6_1.toNat) from List.length_drop] <;> rfl) | rfl | (simp only [List.length_drop, List.length_take]; rfl)) ?_; (with_reducible refine (tumbrelref02_Get.calls k1 _ _ (l0_1.drop (x6_1 : Int).toNat) t771 t772 t773 _ ?side1 ?side2 A23.out).mono ?_); (case side1 => repeat (first | exact (Kd.C_below HR770.out HB.out) | (with_reducible refine Kd.C_alloc ?_ _) | (with_reducible refine Kd.C_drewN ?_ _) | (with_reducible refine Kd.C_drew ?_))); (case side2 => exact HC770.out); rintro e w' ⟨rfl, ⟨nd, rfl⟩⟩; refine ⟨_, rfl, ?_⟩; (try (rw [qhv wr]; generalize hq_ : World.drewN wr _ = wr; have n0_ : Aside0 (Kd.R (Kd.int .u64) 22 wr w.heap.size (fun _ => True) u770001 x770001_1) := ⟨by rw [← hq_]; exact (by (with_reducible repeat (first | apply Kd.R_alloc | apply Kd.R_drewN | apply Kd.R_drew)); exact HO_770001.out)⟩; have n1_ : Aside0 (wr.heap[gb766]? = some (.cells #[.int .u8 a0_0, .slice A0_1 l0_1.length c0_1] 60 (0, 0))) := ⟨by rw [← hq_]; exact (by (with_reducible repeat (first | refine qav ?_ _ | refine qaw ?_ | refine qak ?_ _)); exact BK766.out)⟩; have n2_ : Aside0 (wr.heap[gb767]? = some (.cells #[.int .i64 x768000_1, .slice none 0 0, .string x768002_1] 82 (0, 0))) := ⟨by rw [← hq_]; exact (by (with_reducible repeat (first | refine qav ?_ _ | refine qaw ?_ | refine qak ?_ _)); exact BK767.out)⟩; have n3_ : Aside0 (wr.heap[gb769]? = some (.cells #[.int .i64 (wrap64 (a0_0)), u770001, .string (⟨#[]⟩ : ByteArray)] 82 (0, 0))) := ⟨by rw [← hq_]; exact (by (with_reducible repeat (first | refine qav ?_ _ | refine qaw ?_ | refine qak ?_ _)); exact BK769.out)⟩; have n4_ : Aside0 (Below w.heap.size w wr) := ⟨by rw [← hq_]; exact (by repeat (first | (with_reducible first | exact HB.out | apply qax | apply qaq | apply qaz | refine qaj ?_ GE766.out | refine qaj ?_ GE767.out | refine qaj ?_ GE769.out) | exact HB.out))⟩; clear HO_770001 BK766 BK767 BK769 HB hq_; have HO_770001 := n0_; have BK766 := n1_; have BK767 := n2_; have BK769 := n3_; have HB := n4_; clear n0_ n1_ n2_ n3_ n4_)); have hnb30 := NB769_767.out; have hnc30 := NB767_769.out; have hcz31_0 : wr.cell? ⟨gb769, 0, none⟩ = some (.int .i64 (wrap64 (a0_0))) := (qbq BK769.out 0).trans rfl; have hcz31_1 : wr.cell? ⟨gb769, 1, none⟩ = some (u770001) := (qbq BK769.out 1).trans rfl; have hcz31_2 : wr.cell? ⟨gb769, 2, none⟩ = some (.string (⟨#[]⟩ : ByteArray)) := (qbq BK769.out 2).trans rfl; have hfz31_0 := qbz BK769.out 0; have hfz31_1 := qbz BK769.out 1; have hfz31_2 := qbz BK769.out 2) | ((with_reducible refine qev (b := .append) (xs := #[.tmp 41, .tmp 43]) rfl ?_); at_builtin; refine Kd.R_append (Kd.int .u64) (w0 := w) w.heap.size rfl (.tmp 41) (.tmp 43) 32 22 (.int .u64 0) 8 rfl Try.underlying32 info22 rfl (by decide) (by omega) u770001 x770001_1 t771 [.int .u64 t771] (fun _ => True) (fun _ => False) rfl rfl ?aP (fun _ hk => hk.elim) ?aF ?aO ?aB ?aS ?aL ?_; (case aP => exact rfl); (case aB => exact (by repeat (first | (with_reducible first | exact HB.out | apply qax | apply qaq | apply qaz | refine qaj ?_ GE766.out | refine qaj ?_ GE767.out | refine qaj ?_ GE769.out) | exact HB.out))); (case aF => exact (fun _ _ => trivial)); (case aO => exact (by (with_reducible repeat (first | apply Kd.R_alloc | apply Kd.R_drewN | apply Kd.R_drew)); exact HO_770001.out)); (case aS => exact (qbx (by repeat (first | (with_reducible first | exact HB.out | apply qax | apply qaq | apply qaz | refine qaj ?_ GE766.out | refine qaj ?_ GE767.out | refine qaj ?_ GE769.out) | exact HB.out)))); (case aL => have := LMc25.out; omega); intro v775 w32 ho hb hg hat; rw [← Ny774.out] at ho; have n0_ := Aside0.mk (qgq (g := gb766) (o := .cells #[.int .u8 a0_0, .slice A0_1 l0_1.length c0_1] 60 (0, 0)) (by (with_reducible repeat (first | refine qav ?_ _ | refine qaw ?_ | refine qak ?_ _)); exact BK766.out) hg (Kd.R_ne HO_770001.out BK766.out (by decide))); have n1_ := Aside0.mk (qgq (g := gb767) (o := .cells #[.int .i64 x768000_1, .slice none 0 0, .string x768002_1] 82 (0, 0)) (by (with_reducible repeat (first | refine qav ?_ _ | refine qaw ?_ | refine qak ?_ _)); exact BK767.out) hg (Kd.R_ne HO_770001.out BK767.out (by decide))); have n2_ := Aside0.mk (qgq (g := gb769) (o := .cells #[.int .i64 (wrap64 (a0_0)), u770001, .string (⟨#[]⟩ : ByteArray)] 82 (0, 0)) (by (with_reducible repeat (first | refine qav ?_ _ | refine qaw ?_ | refine qak ?_ _)); exact BK769.out) hg (Kd.R_ne HO_770001.out BK769.out (by decide))); have n3_ := Aside0.mk (hb); have n4_ := Aside0.mk (ho); clear BK766; clear BK767; clear BK769; clear HB; clear HO_770001; have BK766 := n0_; have BK767 := n1_; have BK769 := n2_; have HB := n3_; have HO776 := n4_; clear n0_ n1_ n2_ n3_ n4_; clear ho hb hg hat; obtain ⟨Ao33, co33, eo33⟩ := Kd.R_slice HO776.out; subst eo33; have hcz34_0 : w32.cell? ⟨gb769, 0, none⟩ = some (.int .i64 (wrap64 (a0_0))) := (qbq BK769.out 0).trans rfl; have hcz34_1 : w32.cell? ⟨gb769, 1, none⟩ = some (u770001) := (qbq BK769.out 1).trans rfl; have hcz34_2 : w32.cell? ⟨gb769, 2, none⟩ = some (.string (⟨#[]⟩ : ByteArray)) := (qbq BK769.out 2).trans rfl; have hfz34_0 := qbz BK769.out 0; have hfz34_1 := qbz BK769.out 1; have hfz34_2 := qbz BK769.out 2))
         go_roundg k1
         case measure => have := HK1.out; omega
         case rel => exact ⟨(wrap64 (x6_1 + t772)), (wrap64 (x7_1 + 1)), (x768000_1), (x768002_1), (y774), (.slice Ao33 y774.length co33), (by first | rfl | (simp; done) | (simp [*]; done)), (by first | rfl | (simp; done) | (simp [*]; done)), H', ⟨by have := HK1.out; omega⟩, ⟨by (with_reducible repeat (first | apply Kd.R_alloc | apply Kd.R_drewN | apply Kd.R_drew)); exact Kd.R_mono (Kd.R_far (p := ⟨gb769, 1, none⟩) (Kd.R_types HO776.out BK769.out (by decide)) (fun _ hk => hk.2) (.slice Ao33 y774.length co33)) (fun _ hk => trivial)⟩, ⟨by (with_reducible repeat (first | refine qav ?_ _ | refine qaw ?_ | refine qak ?_ _)); refine qej ?_ NB766_769.out _; (with_reducible repeat (first | refine qav ?_ _ | refine qaw ?_ | refine qak ?_ _)); exact BK766.out⟩, ⟨by (with_reducible repeat (first | refine qav ?_ _ | refine qaw ?_ | refine qak ?_ _)); refine qej ?_ NB767_769.out _; (with_reducible repeat (first | refine qav ?_ _ | refine qaw ?_ | refine qak ?_ _)); exact BK767.out⟩, ⟨by (with_reducible repeat (first | refine qav ?_ _ | refine qaw ?_ | refine qak ?_ _)); refine qdx (cs := #[.int .i64 (wrap64 (a0_0)), u770001, .string (⟨#[]⟩ : ByteArray)]) ?_ 1 _ rfl; (with_reducible repeat (first | refine qav ?_ _ | refine qaw ?_ | refine qak ?_ _)); exact BK769.out⟩, ⟨by repeat (first | (with_reducible first | exact HB.out | apply qax | apply qaq | apply qaz | refine qaj ?_ GE766.out | refine qaj ?_ GE767.out | refine qaj ?_ GE769.out) | exact HB.out)⟩⟩
        ·rw [if_neg c25] at H
         exact absurd H (by simp)
       ·rw [if_neg c24] at H
        have c24b0 : (t773 == 0) = false := beq_eq_false_iff_ne.mpr c24
        have c24b1 : (t773 != 0) = true := bne_iff_ne.mpr c24
        simp only [Option.some.injEq, Prod.mk.injEq] at H
        obtain ⟨rfl, rfl, rfl, rfl⟩ := H
        have hnb35 := NB766_767.out
        have hnc35 := NB767_766.out
        have hnb36 := NB766_769.out
        have hnc36 := NB769_766.out
        have hcz37_0 : wr.cell? ⟨gb766, 0, none⟩ = some (.int .u8 a0_0) := (qbq BK766.out 0).trans rfl
        have hcz37_1 : wr.cell? ⟨gb766, 1, none⟩ = some (.slice A0_1 l0_1.length c0_1) := (qbq BK766.out 1).trans rfl
        have hfz37_0 := qbz BK766.out 0
        have hfz37_1 := qbz BK766.out 1
        obtain ⟨i038, hi038, _, hsz38, _⟩ := info_parts qgv
        obtain ⟨A38, hcut38, hA38, hC38⟩ := qhw (P := Try.prog) (Value.int .u8) 0 23 5 .i64 Try.underlying23 hi038 hsz38 A0_1 c0_1 l0_1 x6_1 (of_decide_eq_true (by first | (with_reducible assumption) | assumption)) (of_decide_eq_true (by first | (with_reducible assumption) | assumption)) HC0_1.out
        have HR770 := Aside0.mk (Kd.C_of_reads (h1 := fun _ => rfl) (hA38 _ (Kd.reads_of_C HR0_1.out)))
        have HC770 := Aside0.mk hC38
        clear hA38 hC38 hi038 hsz38
        go_wp2_with (first | ((with_reducible refine qdq (f := 24) rfl ?_); refine qew (some 32) rfl rfl Try.func24 (by kernel_rfl) rfl #[.slice A38 (l0_1.drop (x6_1 : Int).toNat).length (c0_1 - x6_1.toNat)] rfl (by (try simp only [List.map_toArray, List.map_cons, List.map_nil]); first | done | (rw [show (l0_1.drop (x6_1 : Int).toNat).length = (l0_1.length - x6_1.toNat) from List.length_drop] <;> rfl) | rfl | (simp only [List.length_drop, List.length_take]; rfl)) ?_; (with_reducible refine (tumbrelref02_Get.calls k1 _ _ (l0_1.drop (x6_1 : Int).toNat) t771 t772 t773 _ ?side1 ?side2 A23.out).mono ?_); (case side1 => repeat (first | exact (Kd.C_below HR770.out HB.out) | (with_reducible refine Kd.C_alloc ?_ _) | (with_reducible refine Kd.C_drewN ?_ _) | (with_reducible refine Kd.C_drew ?_))); (case side2 => exact HC770.out); rintro e w' ⟨rfl, ⟨nd, rfl⟩⟩; refine ⟨_, rfl, ?_⟩; (try (rw [qhv wr]; generalize hq_ : World.drewN wr _ = wr; have n0_ : Aside0 (Kd.R (Kd.int .u64) 22 wr w.heap.size (fun _ => True) u770001 x770001_1) := ⟨by rw [← hq_]; exact (by (with_reducible repeat (first | apply Kd.R_alloc | apply Kd.R_drewN | apply Kd.R_drew)); exact HO_770001.out)⟩; have n1_ : Aside0 (wr.heap[gb766]? = some (.cells #[.int .u8 a0_0, .slice A0_1 l0_1.length c0_1] 60 (0, 0))) := ⟨by rw [← hq_]; exact (by (with_reducible repeat (first | refine qav ?_ _ | refine qaw ?_ | refine qak ?_ _)); exact BK766.out)⟩; have n2_ : Aside0 (wr.heap[gb767]? = some (.cells #[.int .i64 x768000_1, .slice none 0 0, .string x768002_1] 82 (0, 0))) := ⟨by rw [← hq_]; exact (by (with_reducible repeat (first | refine qav ?_ _ | refine qaw ?_ | refine qak ?_ _)); exact BK767.out)⟩; have n3_ : Aside0 (wr.heap[gb769]? = some (.cells #[.int .i64 (wrap64 (a0_0)), u770001, .string (⟨#[]⟩ : ByteArray)] 82 (0, 0))) := ⟨by rw [← hq_]; exact (by (with_reducible repeat (first | refine qav ?_ _ | refine qaw ?_ | refine qak ?_ _)); exact BK769.out)⟩; have n4_ : Aside0 (Below w.heap.size w wr) := ⟨by rw [← hq_]; exact (by repeat (first | (with_reducible first | exact HB.out | apply qax | apply qaq | apply qaz | refine qaj ?_ GE766.out | refine qaj ?_ GE767.out | refine qaj ?_ GE769.out) | exact HB.out))⟩; clear HO_770001 BK766 BK767 BK769 HB hq_; have HO_770001 := n0_; have BK766 := n1_; have BK767 := n2_; have BK769 := n3_; have HB := n4_; clear n0_ n1_ n2_ n3_ n4_)); have hnb39 := NB767_769.out; have hnc39 := NB769_767.out; have hcz40_0 : wr.cell? ⟨gb767, 0, none⟩ = some (.int .i64 x768000_1) := (qbq BK767.out 0).trans rfl; have hcz40_1 : wr.cell? ⟨gb767, 1, none⟩ = some (.slice none 0 0) := (qbq BK767.out 1).trans rfl; have hcz40_2 : wr.cell? ⟨gb767, 2, none⟩ = some (.string x768002_1) := (qbq BK767.out 2).trans rfl; have hfz40_0 := qbz BK767.out 0; have hfz40_1 := qbz BK767.out 1; have hfz40_2 := qbz BK767.out 2))
        refine bodyPost_ret (qiv rfl _ _ gb767 82 #[.int .i64 0, .slice none 0 0, .string (⟨#[]⟩ : ByteArray)] (0, 0) _ rfl (by (with_reducible repeat (first | refine qav ?_ _ | refine qaw ?_ | refine qak ?_ _)); refine qdx (cs := #[.int .i64 0, .slice none 0 0, .string x768002_1]) ?_ 2 _ rfl; (with_reducible repeat (first | refine qav ?_ _ | refine qaw ?_ | refine qak ?_ _)); refine qdx (cs := #[.int .i64 0, .slice none 0 0, .string x768002_1]) ?_ 1 _ rfl; (with_reducible repeat (first | refine qav ?_ _ | refine qaw ?_ | refine qak ?_ _)); refine qdx (cs := #[.int .i64 x768000_1, .slice none 0 0, .string x768002_1]) ?_ 0 _ rfl; (with_reducible repeat (first | refine qav ?_ _ | refine qaw ?_ | refine qak ?_ _)); exact BK767.out) Try.underlying82 rfl (by kernel_rfl)) rfl ?_
        exact ⟨_, by first | rfl | (simp [qcq, qcz] <;> rfl) | (simp [*, qcq, qcz] <;> rfl), by first | exact Kd.R_nil _ _ _ _ _ | exact Kd.N_nil _ _ _ _ _ | exact Kd.V_nil _ _ _ _ _ | exact Kd.Q_nil _ _ _ _ _ | exact Kd.S_nil _ _ _ _ _, by repeat (first | (with_reducible first | exact HB.out | apply qax | apply qaq | apply qaz | refine qaj ?_ GE766.out | refine qaj ?_ GE767.out | refine qaj ?_ GE769.out) | exact HB.out)⟩
      ·rw [if_neg c22] at H
       exact absurd H (by simp)
     ·rw [if_neg c21] at H
      exact absurd H (by simp)
    ·rw [if_neg c20] at H
     have c20b0 : decide (x7_1 < t768) = false := decide_eq_false c20
     clear c20
     replace H := Option.bind_eq_some_iff.mp H
     obtain ⟨t777, A410, H⟩ := H
     replace H : (if t777 = true then (if 0 ≤ x6_1 then (if x6_1 ≤ (l0_1.length : Int) then (some ((wrap64 (a0_0)), x770001_1, strOfNums (l0_1.drop (x6_1 : Int).toNat), 0)) else (none)) else (none)) else (some (0, ([] : List Int), (⟨#[]⟩ : ByteArray), 2))) = some (r1, r2, r3, r4) := H
     have A41 := Aside0.mk A410
     clear A410
     by_cases c42 : t777 = true
     ·subst c42
      have H1 : (if 0 ≤ x6_1 then (if x6_1 ≤ (l0_1.length : Int) then (some ((wrap64 (a0_0)), x770001_1, strOfNums (l0_1.drop (x6_1 : Int).toNat), 0)) else (none)) else (none)) = some (r1, r2, r3, r4) := by rw [if_pos rfl] at H; exact H
      clear H
      have H := H1
      clear H1
      by_cases c43 : 0 ≤ x6_1
      ·rw [if_pos c43] at H
       have c43b0 := eq_true c43
       have c43b1 : decide (0 ≤ x6_1) = true := decide_eq_true c43
       clear c43
       by_cases c44 : x6_1 ≤ (l0_1.length : Int)
       ·rw [if_pos c44] at H
        have c44b0 := eq_true c44
        have c44b1 : decide (x6_1 ≤ (l0_1.length : Int)) = true := decide_eq_true c44
        clear c44
        simp only [Option.some.injEq, Prod.mk.injEq] at H
        obtain ⟨rfl, rfl, rfl, rfl⟩ := H
        have hnb45 := NB769_766.out
        have hnc45 := NB766_769.out
        have hnb46 := NB769_767.out
        have hnc46 := NB767_769.out
        have hcz47_0 : wr.cell? ⟨gb769, 0, none⟩ = some (.int .i64 (wrap64 (a0_0))) := (qbq BK769.out 0).trans rfl
        have hcz47_1 : wr.cell? ⟨gb769, 1, none⟩ = some (u770001) := (qbq BK769.out 1).trans rfl
        have hcz47_2 : wr.cell? ⟨gb769, 2, none⟩ = some (.string (⟨#[]⟩ : ByteArray)) := (qbq BK769.out 2).trans rfl
        have hfz47_0 := qbz BK769.out 0
        have hfz47_1 := qbz BK769.out 1
        have hfz47_2 := qbz BK769.out 2
        have hnb48 := NB766_767.out
        have hnc48 := NB767_766.out
        have hcz49_0 : wr.cell? ⟨gb766, 0, none⟩ = some (.int .u8 a0_0) := (qbq BK766.out 0).trans rfl
        have hcz49_1 : wr.cell? ⟨gb766, 1, none⟩ = some (.slice A0_1 l0_1.length c0_1) := (qbq BK766.out 1).trans rfl
        have hfz49_0 := qbz BK766.out 0
        have hfz49_1 := qbz BK766.out 1
        go_wp2_with (first | ((with_reducible refine qdq (f := 81) rfl ?_); refine qew (some 56) rfl rfl Try.func81 (by kernel_rfl) rfl #[.int .i64 (wrap64 (a0_0)), .int .i64 (wrap64 ((l0_1.length : Int) - x6_1))] rfl (by (try simp only [List.map_toArray, List.map_cons, List.map_nil]); first | done | rfl | (simp only [List.length_drop, List.length_take]; rfl)) ?_; (with_reducible refine (tumbrelref05_texts.calls (wrap64 (a0_0)) (wrap64 ((l0_1.length : Int) - x6_1)) true _ A41.out).mono ?_); rintro e w' ⟨rfl, ⟨nd, rfl⟩⟩; refine ⟨_, rfl, ?_⟩; (try (rw [qhv wr]; generalize hq_ : World.drewN wr _ = wr; have n0_ : Aside0 (Kd.R (Kd.int .u64) 22 wr w.heap.size (fun _ => True) u770001 x770001_1) := ⟨by rw [← hq_]; exact (by (with_reducible repeat (first | apply Kd.R_alloc | apply Kd.R_drewN | apply Kd.R_drew)); exact HO_770001.out)⟩; have n1_ : Aside0 (wr.heap[gb766]? = some (.cells #[.int .u8 a0_0, .slice A0_1 l0_1.length c0_1] 60 (0, 0))) := ⟨by rw [← hq_]; exact (by (with_reducible repeat (first | refine qav ?_ _ | refine qaw ?_ | refine qak ?_ _)); exact BK766.out)⟩; have n2_ : Aside0 (wr.heap[gb767]? = some (.cells #[.int .i64 x768000_1, .slice none 0 0, .string x768002_1] 82 (0, 0))) := ⟨by rw [← hq_]; exact (by (with_reducible repeat (first | refine qav ?_ _ | refine qaw ?_ | refine qak ?_ _)); exact BK767.out)⟩; have n3_ : Aside0 (wr.heap[gb769]? = some (.cells #[.int .i64 (wrap64 (a0_0)), u770001, .string (⟨#[]⟩ : ByteArray)] 82 (0, 0))) := ⟨by rw [← hq_]; exact (by (with_reducible repeat (first | refine qav ?_ _ | refine qaw ?_ | refine qak ?_ _)); exact BK769.out)⟩; have n4_ : Aside0 (Below w.heap.size w wr) := ⟨by rw [← hq_]; exact (by repeat (first | (with_reducible first | exact HB.out | apply qax | apply qaq | apply qaz | refine qaj ?_ GE766.out | refine qaj ?_ GE767.out | refine qaj ?_ GE769.out) | exact HB.out))⟩; clear HO_770001 BK766 BK767 BK769 HB hq_; have HO_770001 := n0_; have BK766 := n1_; have BK767 := n2_; have BK769 := n3_; have HB := n4_; clear n0_ n1_ n2_ n3_ n4_)); obtain ⟨i050, hi050, _, hsz50, _⟩ := info_parts qgv; obtain ⟨A50, hcut50, hA50, hC50⟩ := qhw (P := Try.prog) (Value.int .u8) 0 23 5 .i64 Try.underlying23 hi050 hsz50 A0_1 c0_1 l0_1 x6_1 (of_decide_eq_true (by first | (with_reducible assumption) | assumption)) (of_decide_eq_true (by first | (with_reducible assumption) | assumption)) HC0_1.out; have HR778 := Aside0.mk (Kd.C_of_reads (h1 := fun _ => rfl) (hA50 _ (Kd.reads_of_C HR0_1.out))); have HC778 := Aside0.mk hC50; clear hA50 hC50 hi050 hsz50; have hcv51 := Kd.C_string (P := Try.prog) (A := A50) (c := (c0_1 - x6_1.toNat)) Try.underlying23 Try.underlying5 Try.underlying9 (Kd.C_below HR778.out HB.out); simp only [List.length_drop] at hcv51; have hcz99_1 : wr.cell? ⟨gb766, 1, none⟩ = some (.slice A0_1 l0_1.length c0_1) := (qbq BK766.out 1).trans rfl; have hcz52_0 : wr.cell? ⟨gb767, 0, none⟩ = some (.int .i64 x768000_1) := (qbq BK767.out 0).trans rfl; have hcz52_1 : wr.cell? ⟨gb767, 1, none⟩ = some (.slice none 0 0) := (qbq BK767.out 1).trans rfl; have hcz52_2 : wr.cell? ⟨gb767, 2, none⟩ = some (.string x768002_1) := (qbq BK767.out 2).trans rfl; have hfz52_0 := qbz BK767.out 0; have hfz52_1 := qbz BK767.out 1; have hfz52_2 := qbz BK767.out 2; obtain ⟨Ao53, co53, eo53⟩ := Kd.R_slice HO_770001.out; subst eo53; have hcy99_0 : wr.cell? ⟨gb769, 0, none⟩ = some (.int .i64 (wrap64 (a0_0))) := (qbq BK769.out 0).trans rfl; have hcy99_1 : wr.cell? ⟨gb769, 1, none⟩ = some (.slice Ao53 x770001_1.length co53) := (qbq BK769.out 1).trans rfl; have hcy99_2 : wr.cell? ⟨gb769, 2, none⟩ = some (.string (⟨#[]⟩ : ByteArray)) := (qbq BK769.out 2).trans rfl; have hfy99_0 := qbz BK769.out 0; have hfy99_1 := qbz BK769.out 1; have hfy99_2 := qbz BK769.out 2))
        refine bodyPost_ret (qiv rfl _ _ gb767 82 #[.int .i64 (wrap64 (a0_0)), .slice Ao53 x770001_1.length co53, .string (strOfNums (l0_1.drop (x6_1 : Int).toNat))] (0, 0) _ rfl (by (with_reducible repeat (first | refine qav ?_ _ | refine qaw ?_ | refine qak ?_ _)); refine qdx (cs := #[.int .i64 (wrap64 (a0_0)), .slice Ao53 x770001_1.length co53, .string x768002_1]) ?_ 2 _ rfl; (with_reducible repeat (first | refine qav ?_ _ | refine qaw ?_ | refine qak ?_ _)); refine qdx (cs := #[.int .i64 (wrap64 (a0_0)), .slice none 0 0, .string x768002_1]) ?_ 1 _ rfl; (with_reducible repeat (first | refine qav ?_ _ | refine qaw ?_ | refine qak ?_ _)); refine qdx (cs := #[.int .i64 x768000_1, .slice none 0 0, .string x768002_1]) ?_ 0 _ rfl; (with_reducible repeat (first | refine qav ?_ _ | refine qaw ?_ | refine qak ?_ _)); refine qej ?_ NB767_769.out _; (with_reducible repeat (first | refine qav ?_ _ | refine qaw ?_ | refine qak ?_ _)); exact BK767.out) Try.underlying82 rfl (by kernel_rfl)) rfl ?_
        exact ⟨_, by first | rfl | (simp [qcq, qcz] <;> rfl) | (simp [*, qcq, qcz] <;> rfl), by (with_reducible repeat (first | apply Kd.R_alloc | apply Kd.R_drewN | apply Kd.R_drew)); exact Kd.R_mono (Kd.R_far (p := ⟨gb767, 2, none⟩) (Kd.R_far (p := ⟨gb767, 1, none⟩) (Kd.R_far (p := ⟨gb767, 0, none⟩) (Kd.R_far (p := ⟨gb769, 2, none⟩) (Kd.R_types (Kd.R_types HO_770001.out BK769.out (by decide)) BK767.out (by decide)) (fun _ hk => hk.1.2) (.string (strOfNums (l0_1.drop (x6_1 : Int).toNat)))) (fun _ hk => hk.2) (.int .i64 (wrap64 (a0_0)))) (fun _ hk => hk.2) (.slice Ao53 x770001_1.length co53)) (fun _ hk => hk.2) (.string (strOfNums (l0_1.drop (x6_1 : Int).toNat)))) (fun _ hk => trivial), by repeat (first | (with_reducible first | exact HB.out | apply qax | apply qaq | apply qaz | refine qaj ?_ GE766.out | refine qaj ?_ GE767.out | refine qaj ?_ GE769.out) | exact HB.out)⟩
       ·rw [if_neg c44] at H
        exact absurd H (by simp)
      ·rw [if_neg c43] at H
       exact absurd H (by simp)
     ·replace c42 := Bool.eq_false_iff.mpr c42
      subst c42
      have H1 : (some (0, ([] : List Int), (⟨#[]⟩ : ByteArray), 2)) = some (r1, r2, r3, r4) := by rw [if_neg (show ¬ (false = true) by decide)] at H; exact H
      clear H
      have H := H1
      clear H1
      simp only [Option.some.injEq, Prod.mk.injEq] at H
      obtain ⟨rfl, rfl, rfl, rfl⟩ := H
      have hnb54 := NB769_766.out
      have hnc54 := NB766_769.out
      have hnb55 := NB769_767.out
      have hnc55 := NB767_769.out
      have hcz56_0 : wr.cell? ⟨gb769, 0, none⟩ = some (.int .i64 (wrap64 (a0_0))) := (qbq BK769.out 0).trans rfl
      have hcz56_1 : wr.cell? ⟨gb769, 1, none⟩ = some (u770001) := (qbq BK769.out 1).trans rfl
      have hcz56_2 : wr.cell? ⟨gb769, 2, none⟩ = some (.string (⟨#[]⟩ : ByteArray)) := (qbq BK769.out 2).trans rfl
      have hfz56_0 := qbz BK769.out 0
      have hfz56_1 := qbz BK769.out 1
      have hfz56_2 := qbz BK769.out 2
      have hnb57 := NB766_767.out
      have hnc57 := NB767_766.out
      have hcz58_0 : wr.cell? ⟨gb766, 0, none⟩ = some (.int .u8 a0_0) := (qbq BK766.out 0).trans rfl
      have hcz58_1 : wr.cell? ⟨gb766, 1, none⟩ = some (.slice A0_1 l0_1.length c0_1) := (qbq BK766.out 1).trans rfl
      have hfz58_0 := qbz BK766.out 0
      have hfz58_1 := qbz BK766.out 1
      go_wp2_with (first | ((with_reducible refine qdq (f := 81) rfl ?_); refine qew (some 56) rfl rfl Try.func81 (by kernel_rfl) rfl #[.int .i64 (wrap64 (a0_0)), .int .i64 (wrap64 ((l0_1.length : Int) - x6_1))] rfl (by (try simp only [List.map_toArray, List.map_cons, List.map_nil]); first | done | rfl | (simp only [List.length_drop, List.length_take]; rfl)) ?_; (with_reducible refine (tumbrelref05_texts.calls (wrap64 (a0_0)) (wrap64 ((l0_1.length : Int) - x6_1)) false _ A41.out).mono ?_); rintro e w' ⟨rfl, ⟨nd, rfl⟩⟩; refine ⟨_, rfl, ?_⟩; (try (rw [qhv wr]; generalize hq_ : World.drewN wr _ = wr; have n0_ : Aside0 (Kd.R (Kd.int .u64) 22 wr w.heap.size (fun _ => True) u770001 x770001_1) := ⟨by rw [← hq_]; exact (by (with_reducible repeat (first | apply Kd.R_alloc | apply Kd.R_drewN | apply Kd.R_drew)); exact HO_770001.out)⟩; have n1_ : Aside0 (wr.heap[gb766]? = some (.cells #[.int .u8 a0_0, .slice A0_1 l0_1.length c0_1] 60 (0, 0))) := ⟨by rw [← hq_]; exact (by (with_reducible repeat (first | refine qav ?_ _ | refine qaw ?_ | refine qak ?_ _)); exact BK766.out)⟩; have n2_ : Aside0 (wr.heap[gb767]? = some (.cells #[.int .i64 x768000_1, .slice none 0 0, .string x768002_1] 82 (0, 0))) := ⟨by rw [← hq_]; exact (by (with_reducible repeat (first | refine qav ?_ _ | refine qaw ?_ | refine qak ?_ _)); exact BK767.out)⟩; have n3_ : Aside0 (wr.heap[gb769]? = some (.cells #[.int .i64 (wrap64 (a0_0)), u770001, .string (⟨#[]⟩ : ByteArray)] 82 (0, 0))) := ⟨by rw [← hq_]; exact (by (with_reducible repeat (first | refine qav ?_ _ | refine qaw ?_ | refine qak ?_ _)); exact BK769.out)⟩; have n4_ : Aside0 (Below w.heap.size w wr) := ⟨by rw [← hq_]; exact (by repeat (first | (with_reducible first | exact HB.out | apply qax | apply qaq | apply qaz | refine qaj ?_ GE766.out | refine qaj ?_ GE767.out | refine qaj ?_ GE769.out) | exact HB.out))⟩; clear HO_770001 BK766 BK767 BK769 HB hq_; have HO_770001 := n0_; have BK766 := n1_; have BK767 := n2_; have BK769 := n3_; have HB := n4_; clear n0_ n1_ n2_ n3_ n4_)); have hcz59_0 : wr.cell? ⟨gb767, 0, none⟩ = some (.int .i64 x768000_1) := (qbq BK767.out 0).trans rfl; have hcz59_1 : wr.cell? ⟨gb767, 1, none⟩ = some (.slice none 0 0) := (qbq BK767.out 1).trans rfl; have hcz59_2 : wr.cell? ⟨gb767, 2, none⟩ = some (.string x768002_1) := (qbq BK767.out 2).trans rfl; have hfz59_0 := qbz BK767.out 0; have hfz59_1 := qbz BK767.out 1; have hfz59_2 := qbz BK767.out 2))
      refine bodyPost_ret (qiv rfl _ _ gb767 82 #[.int .i64 0, .slice none 0 0, .string (⟨#[]⟩ : ByteArray)] (0, 0) _ rfl (by (with_reducible repeat (first | refine qav ?_ _ | refine qaw ?_ | refine qak ?_ _)); refine qdx (cs := #[.int .i64 0, .slice none 0 0, .string x768002_1]) ?_ 2 _ rfl; (with_reducible repeat (first | refine qav ?_ _ | refine qaw ?_ | refine qak ?_ _)); refine qdx (cs := #[.int .i64 0, .slice none 0 0, .string x768002_1]) ?_ 1 _ rfl; (with_reducible repeat (first | refine qav ?_ _ | refine qaw ?_ | refine qak ?_ _)); refine qdx (cs := #[.int .i64 x768000_1, .slice none 0 0, .string x768002_1]) ?_ 0 _ rfl; (with_reducible repeat (first | refine qav ?_ _ | refine qaw ?_ | refine qak ?_ _)); exact BK767.out) Try.underlying82 rfl (by kernel_rfl)) rfl ?_
      exact ⟨_, by first | rfl | (simp [qcq, qcz] <;> rfl) | (simp [*, qcq, qcz] <;> rfl), by first | exact Kd.R_nil _ _ _ _ _ | exact Kd.N_nil _ _ _ _ _ | exact Kd.V_nil _ _ _ _ _ | exact Kd.Q_nil _ _ _ _ _ | exact Kd.S_nil _ _ _ _ _, by repeat (first | (with_reducible first | exact HB.out | apply qax | apply qaq | apply qaz | refine qaj ?_ GE766.out | refine qaj ?_ GE767.out | refine qaj ?_ GE769.out) | exact HB.out)⟩
end Go.Proofs.Ytojepleodijdeaa.B
namespace Go.Proofs.Ytojepleodijdeaa.B
open Go.RowKit Go.Proofs.YtojepleodijdeaaW.PrintWords Go.Proofs.YtojepleodijdeaaW.PrintLast Go.Proofs.YtojepleodijdeaaW.PrintMore
attribute [local go_sem] qgz qgx qhj qhk qfx qfj qgj qgk   -- for this text's walks alone
set_option linter.unusedVariables false
set_option linter.unusedSimpArgs false
def tumbrellaw05_own.l0 : Nat → List (S82) → List (S80) → Int → Int → Option ((List (S82)))
 | 0, _, _, _, _ => none
 | k + 1, x3, x7, x8, x9 => if x9 < x8 then (if 0 ≤ x9 then (if x9 < (x7.length : Int) then (if x3.length < 2932031007402 then (tumbrellaw05_own.l0 k (x3 ++ [(⟨(qck x7 x9).f0, (qck x7 x9).f1, (qck x7 x9).f2⟩ : S82)]) x7 x8 (wrap64 (x9 + 1))) else (none)) else (none)) else (none)) else (some x3)
def tumbrellaw05_own.f (k : Nat) (l0 : List (S80)) : Option ((List (S82))) := tumbrellaw05_own.l0 k (([] : List (S82))) l0 (l0.length : Int) 0
set_option maxHeartbeats 8000000 in
set_option maxRecDepth 100000 in
theorem tumbrellaw05_own.calls (k : Nat) (P0_ : Nat → Prop) (A0 : Option Addr) (c0 : Nat) (l0 : List (S80)) (r : List (S82)) (w : World) (hs0 : Kd.V k80 80 w w.heap.size (fun k_ => P0_ k_) (.slice A0 l0.length c0) l0) (h : tumbrellaw05_own.f k l0 = some r) :
  Calls Try.prog 63 #[.slice A0 l0.length c0] w fun e w' => ∃ v0_ : Value, e = .returned (v0_) ∧ Kd.N k82 82 w' w.heap.size (fun k_ => (P0_ k_ ∨ w.heap.size ≤ k_)) v0_ r ∧ Below w.heap.size w w' := by
 have hu80 := Try.underlying80
 have HO0 := Aside0.mk (show Kd.V k80 80 w w.heap.size (fun k_ => (P0_ k_ ∨ w.heap.size ≤ k_)) (.slice A0 l0.length c0) l0 from Kd.V_mono hs0 (fun k_ hk => .inl hk))
 have HB := Aside0.mk (Below.refl w.heap.size w)
 have H : (tumbrellaw05_own.l0 k (([] : List (S82))) l0 (l0.length : Int) 0) = some r := h
 clear h
 obtain ⟨y786, hy786⟩ : ∃ y_ : List (S82), y_ = (([] : List (S82))) := ⟨_, rfl⟩
 replace H : (tumbrellaw05_own.l0 k y786 l0 (l0.length : Int) 0) = some r := by first | (rw [hy786]; with_reducible exact H) | (have H2_ := (Option.bind_some _ _).symm.trans H; rw [hy786]; with_reducible exact H2_) | (have H2_ := (Option.bind_some _ _).symm.trans H; with_reducible exact H2_) | with_reducible exact H | (rw [hy786]; exact H) | exact H
 have Ny786 := Aside0.mk hy786
 clear hy786
 have H' := Aside0.mk H
 clear H
 go_enter Try.func63, Try.ntmps63
 go_wp2_with (first | ((with_reducible refine qcv (N := 6) rfl ?_); refine Kd.N_lit k82 _ 82 ?hg (N' := 6) ?hd (xs := ([] : List (S82))) (inner := []) (ok := (fun k_ => (P0_ k_ ∨ w.heap.size ≤ k_))) (okp := (fun k_ => (P0_ k_ ∨ w.heap.size ≤ k_))) ?hr ?hp (fun _ hk => hk) ((show ∀ k_, w.heap.size ≤ k_ → (fun k_ => (P0_ k_ ∨ w.heap.size ≤ k_)) k_ from fun k_ hk => (.inr (Nat.le_trans (qbx (by repeat (first | (with_reducible first | exact HB.out | apply qax | apply qaq | apply qaz) | exact HB.out))) hk))) _ (Nat.le_refl _)) (Below.refl _ _) (Nat.le_refl _) (by simp) ?_; (case hd => rfl); (case hg => rfl); (case hr => first | (go_simp; done) | (go_simp; rfl)); (case hp => exact (Reps.none _ _)); intro v787 w2 ho3 hb hg_ hnew_; clear hg_ hnew_; (first | rw [← Ny786.out] at ho3 | (simp only [Int.reduceToNat] at ho3; rw [← Ny786.out] at ho3)); have n0_ := Aside0.mk (Kd.V_elder' (by (with_reducible repeat (first | apply Kd.V_alloc | apply Kd.V_drewN | apply Kd.V_drew)); exact HO0.out) (Kd.N_base ho3) hb); have n1_ := Aside0.mk (Kd.N_lower ho3 (qbx (by repeat (first | (with_reducible first | exact HB.out | apply qax | apply qaq | apply qaz) | exact HB.out)))); have n2_ := Aside0.mk (qbj (by repeat (first | (with_reducible first | exact HB.out | apply qax | apply qaq | apply qaz) | exact HB.out)) hb); clear HO0; clear HB; have HO0 := n0_; have HO788 := n1_; have HB := n2_; clear n0_ n1_ n2_; clear hb ho3))
 go_loopg [3, 9] k (fun kq v3 v9 w' => ∃ (x3_1 : List (S82)) (x9_1 : Int), v9 = .int .i64 x9_1 ∧ Aside0 (tumbrellaw05_own.l0 kq x3_1 l0 (l0.length : Int) x9_1 = some r) ∧ Aside0 (kq ≤ k) ∧ Aside0 (Kd.N k82 82 w' w.heap.size (fun k_ => (P0_ k_ ∨ w.heap.size ≤ k_)) v3 x3_1) ∧ Aside0 (Kd.V k80 80 w' w.heap.size (fun k_ => (P0_ k_ ∨ w.heap.size ≤ k_) ∧ some k_ ≠ (v3 : Value).ownBlock) (.slice A0 l0.length c0) l0) ∧ Aside0 (Below w.heap.size w w'))
 case atStart => exact ⟨(y786), (0), (by first | rfl | (simp; done) | (simp [*]; done)), H', ⟨Nat.le_refl _⟩, ⟨by (with_reducible repeat (first | apply Kd.N_alloc | apply Kd.N_drewN | apply Kd.N_drew)); exact HO788.out⟩, ⟨by (with_reducible repeat (first | apply Kd.V_alloc | apply Kd.V_drewN | apply Kd.V_drew)); exact HO0.out⟩, ⟨by repeat (first | (with_reducible first | exact HB.out | apply qax | apply qaq | apply qaz) | exact HB.out)⟩⟩
 case round =>
  clear H'
  try clear p2
  obtain ⟨x3_1, x9_1, rfl, HA, HK1, HO_3, HO_7, HB⟩ := hrel
  cases gk with
  | zero => exact absurd HA.out (by simp [tumbrellaw05_own.l0])
  | succ k1 =>
   have H := HA.out
   clear HA
   simp only [tumbrellaw05_own.l0] at H
   by_cases c4 : x9_1 < (l0.length : Int)
   ·rw [if_pos c4] at H
    have c4b0 : decide (x9_1 < (l0.length : Int)) = true := decide_eq_true c4
    clear c4
    by_cases c5 : 0 ≤ x9_1
    ·rw [if_pos c5] at H
     have c5b0 : decide (0 ≤ x9_1) = true := decide_eq_true c5
     clear c5
     by_cases c6 : x9_1 < (l0.length : Int)
     ·rw [if_pos c6] at H
      have c6b0 : decide (x9_1 < (l0.length : Int)) = true := decide_eq_true c6
      clear c6
      by_cases c7 : x3_1.length < 2932031007402
      ·rw [if_pos c7] at H
       have LMc7 := Aside0.mk c7
       clear c7
       obtain ⟨y791, hy791⟩ : ∃ y_ : List (S82), y_ = (x3_1 ++ [(⟨(qck l0 x9_1).f0, (qck l0 x9_1).f1, (qck l0 x9_1).f2⟩ : S82)]) := ⟨_, rfl⟩
       replace H : (tumbrellaw05_own.l0 k1 y791 l0 (l0.length : Int) (wrap64 (x9_1 + 1))) = some r := by first | (rw [hy791]; with_reducible exact H) | (have H2_ := (Option.bind_some _ _).symm.trans H; rw [hy791]; with_reducible exact H2_) | (have H2_ := (Option.bind_some _ _).symm.trans H; with_reducible exact H2_) | with_reducible exact H | (rw [hy791]; exact H) | exact H
       have Ny791 := Aside0.mk hy791
       clear hy791
       have H' := Aside0.mk H
       clear H
       have p789 : 0 ≤ (x9_1 : Int) := of_decide_eq_true (by first | (with_reducible assumption) | assumption)
       have q789 : x9_1 < (l0.length : Int) := of_decide_eq_true (by first | (with_reducible assumption) | assumption)
       obtain ⟨ad789, A789_1, c789_1, e789, hx789_0, hx789_1, hx789_2, hl789_1, hi789_1⟩ := zkz (Kd.V_reads' HO_7.out).2.2 x9_1 p789 q789
       cases e789
       obtain ⟨ce789, hce789, hMe789, hcc789⟩ := Kd.V_get HO_7.out z80 x9_1 p789 (by first | exact q789 | exact of_decide_eq_true (by first | (with_reducible assumption) | assumption) | (have e_ := (Kd.V_reads' HO_7.out).1; omega))
       obtain ⟨ua789_1, uc789_1, rfl, ul789_1, ge789_1⟩ := zkq hMe789
       have hv789_1 := hcc789 1 _ rfl
       rw [qik _ _ 1 (by omega)] at hv789_1
       replace hv789_1 := Option.some.inj (hv789_1.symm.trans hx789_1)
       injection hv789_1 with hva_ hvn_ hvc_
       rw [hva_] at ge789_1
       rw [hvc_] at ul789_1
       have HL789_1 := Aside0.mk (show Kd.V (Kd.int .u64) 22 _ w.heap.size _ _ ((qck l0 x9_1).f1) from Kd.V_mk ul789_1 ge789_1)
       clear hva_ hvn_ hvc_ ge789_1 ul789_1
       clear hcc789 hce789
       have HR789_1 := Aside0.mk hi789_1
       have HC789_1 := Aside0.mk hl789_1
       clear hi789_1 hl789_1
       replace p789 := eq_true p789
       replace q789 := eq_true q789
       go_wp2_with (first | ((with_reducible refine qcv (N := 5) rfl ?_); refine qcw ?hg (N := 5) ?hd (cs := #[.int .i64 0, .slice none 0 0, .string (⟨#[]⟩ : ByteArray)]) (t := 80) ?hr ?_; (case hd => rfl); (case hg => rfl); (case hr => first | (go_simp; done) | (go_simp; rfl)); intro gb790 hg w8 hbox hb; have n0_ := Aside0.mk (Kd.N_below (Kd.N_elderB (by (with_reducible repeat (first | apply Kd.N_alloc | apply Kd.N_drewN | apply Kd.N_drew)); exact HO_3.out) gb790 (Nat.le_of_eq hg.symm)) hb); have n1_ := Aside0.mk (Kd.V_below (Kd.V_elderB (by (with_reducible repeat (first | apply Kd.V_alloc | apply Kd.V_drewN | apply Kd.V_drew)); exact HO_7.out) gb790 (Nat.le_of_eq hg.symm)) hb); have n2_ := Aside0.mk (Kd.V_below (Kd.V_elderB (by (with_reducible repeat (first | apply Kd.V_alloc | apply Kd.V_drewN | apply Kd.V_drew)); exact HL789_1.out) gb790 (Nat.le_of_eq hg.symm)) hb); have n3_ := Aside0.mk (Kd.C_below (by repeat (first | (with_reducible exact HR789_1.out) | (with_reducible refine Kd.C_alloc ?_ _) | (with_reducible refine Kd.C_drewN ?_ _) | (with_reducible refine Kd.C_drew ?_) | exact HR789_1.out)) hb); have n4_ := Aside0.mk (qbj (by repeat (first | (with_reducible first | exact HB.out | apply qax | apply qaq | apply qaz) | exact HB.out)) hb); have n5_ := Aside0.mk (hbox); have n6_ := Aside0.mk ((by rw [hg]; exact (qbx (by repeat (first | (with_reducible first | exact HB.out | apply qax | apply qaq | apply qaz) | exact HB.out))) : w.heap.size ≤ gb790)); have n7_ := Aside0.mk ((by rw [hg]; exact (qbx (by repeat (first | (with_reducible first | exact HB.out | apply qax | apply qaq | apply qaz) | exact HB.out))) : w.heap.size ≤ gb790)); clear HO_3; clear HO_7; clear HL789_1; clear HR789_1; clear HB; have HO_3 := n0_; have HO_7 := n1_; have HL789_1 := n2_; have HR789_1 := n3_; have HB := n4_; have BK790 := n5_; have GW790 := n6_; have GE790 := n7_; clear n0_ n1_ n2_ n3_ n4_ n5_ n6_ n7_; clear hb hbox hg; have hcz9_0 : w8.cell? ⟨gb790, 0, none⟩ = some (.int .i64 0) := (qbq BK790.out 0).trans rfl; have hcz9_1 : w8.cell? ⟨gb790, 1, none⟩ = some (.slice none 0 0) := (qbq BK790.out 1).trans rfl; have hcz9_2 : w8.cell? ⟨gb790, 2, none⟩ = some (.string (⟨#[]⟩ : ByteArray)) := (qbq BK790.out 2).trans rfl; have hfz9_0 := qbz BK790.out 0; have hfz9_1 := qbz BK790.out 1; have hfz9_2 := qbz BK790.out 2) | ((with_reducible refine qnx (t := 80) (p := 5) rfl ?_); refine qmq (t := 80) (p := 5) (v := ?vo_w10) (w1 := (((w8.setCell ⟨gb790, 0, none⟩ (.int .i64 ((qck l0 x9_1).f0))).setCell ⟨gb790, 1, none⟩ (.slice A789_1 ((qck l0 x9_1).f1).length c789_1)).setCell ⟨gb790, 2, none⟩ (.string ((qck l0 x9_1).f2)))) ?hg ?ho ?hn ?hr ?_; (case ho => rfl); (case hg => rfl); (case hn => rfl); (case hr => first | (go_simp; done) | (go_simp; rfl)); intro w10 hw; have n0_ : Aside0 (Kd.N k82 82 w10 w.heap.size (fun k_ => (P0_ k_ ∨ w.heap.size ≤ k_) ∧ k_ ≠ gb790) u3 x3_1) := ⟨(by rw [hw]; exact (by (with_reducible repeat (first | apply Kd.N_alloc | apply Kd.N_drewN | apply Kd.N_drew)); exact Kd.N_mono (Kd.N_far (p := ⟨gb790, 2, none⟩) (Kd.N_far (p := ⟨gb790, 1, none⟩) (Kd.N_far (p := ⟨gb790, 0, none⟩) (Kd.N_mono HO_3.out (fun k_ hk => (⟨hk, hk.2⟩ : _ ∧ k_ ≠ gb790))) (fun _ hk => hk.2) (.int .i64 ((qck l0 x9_1).f0))) (fun _ hk => hk.2) (.slice A789_1 ((qck l0 x9_1).f1).length c789_1)) (fun _ hk => hk.2) (.string ((qck l0 x9_1).f2))) (fun _ hk => ⟨hk.1.1, hk.1.2⟩)))⟩; have n1_ : Aside0 (Kd.V k80 80 w10 w.heap.size (fun k_ => (P0_ k_ ∨ w.heap.size ≤ k_) ∧ some k_ ≠ (u3 : Value).ownBlock ∧ k_ ≠ gb790) (.slice (some ad789) l0.length c0) l0) := ⟨(by rw [hw]; exact (by (with_reducible repeat (first | apply Kd.V_alloc | apply Kd.V_drewN | apply Kd.V_drew)); exact Kd.V_mono (Kd.V_far (p := ⟨gb790, 2, none⟩) (Kd.V_far (p := ⟨gb790, 1, none⟩) (Kd.V_far (p := ⟨gb790, 0, none⟩) (Kd.V_mono HO_7.out (fun k_ hk => (⟨hk, hk.2⟩ : _ ∧ k_ ≠ gb790))) (fun _ hk => hk.2) (.int .i64 ((qck l0 x9_1).f0))) (fun _ hk => hk.2) (.slice A789_1 ((qck l0 x9_1).f1).length c789_1)) (fun _ hk => hk.2) (.string ((qck l0 x9_1).f2))) (fun _ hk => ⟨hk.1.1.1, ⟨hk.1.1.2, hk.1.2⟩⟩)))⟩; have n2_ : Aside0 (Kd.V (Kd.int .u64) 22 w10 w.heap.size (fun k_ => (P0_ k_ ∨ w.heap.size ≤ k_) ∧ some k_ ≠ (u3 : Value).ownBlock ∧ k_ ≠ gb790) (.slice A789_1 ((qck l0 x9_1).f1).length c789_1) ((qck l0 x9_1).f1)) := ⟨(by rw [hw]; exact (by (with_reducible repeat (first | apply Kd.V_alloc | apply Kd.V_drewN | apply Kd.V_drew)); exact Kd.V_mono (Kd.V_far (p := ⟨gb790, 2, none⟩) (Kd.V_far (p := ⟨gb790, 1, none⟩) (Kd.V_far (p := ⟨gb790, 0, none⟩) (Kd.V_mono HL789_1.out (fun k_ hk => (⟨hk, hk.2⟩ : _ ∧ k_ ≠ gb790))) (fun _ hk => hk.2) (.int .i64 ((qck l0 x9_1).f0))) (fun _ hk => hk.2) (.slice A789_1 ((qck l0 x9_1).f1).length c789_1)) (fun _ hk => hk.2) (.string ((qck l0 x9_1).f2))) (fun _ hk => ⟨hk.1.1.1, ⟨hk.1.1.2, hk.1.2⟩⟩)))⟩; have n3_ : Aside0 (w10.heap[gb790]? = some (.cells #[.int .i64 ((qck l0 x9_1).f0), .slice A789_1 ((qck l0 x9_1).f1).length c789_1, .string ((qck l0 x9_1).f2)] 80 (0, 0))) := ⟨(by rw [hw]; exact (by (with_reducible repeat (first | refine qav ?_ _ | refine qaw ?_ | refine qak ?_ _)); refine qdx (cs := #[.int .i64 ((qck l0 x9_1).f0), .slice A789_1 ((qck l0 x9_1).f1).length c789_1, .string (⟨#[]⟩ : ByteArray)]) ?_ 2 _ rfl; (with_reducible repeat (first | refine qav ?_ _ | refine qaw ?_ | refine qak ?_ _)); refine qdx (cs := #[.int .i64 ((qck l0 x9_1).f0), .slice none 0 0, .string (⟨#[]⟩ : ByteArray)]) ?_ 1 _ rfl; (with_reducible repeat (first | refine qav ?_ _ | refine qaw ?_ | refine qak ?_ _)); refine qdx (cs := #[.int .i64 0, .slice none 0 0, .string (⟨#[]⟩ : ByteArray)]) ?_ 0 _ rfl; (with_reducible repeat (first | refine qav ?_ _ | refine qaw ?_ | refine qak ?_ _)); exact BK790.out))⟩; have n4_ : Aside0 (Below w.heap.size w w10) := ⟨(by rw [hw]; exact (by repeat (first | (with_reducible first | exact HB.out | apply qax | apply qaq | apply qaz | refine qaj ?_ GE790.out) | exact HB.out)))⟩; clear hw; clear HO_3; clear HO_7; clear HL789_1; clear BK790; clear HB; have HO_3 := n0_; have HO_7 := n1_; have HL789_1 := n2_; have BK790 := n3_; have HB := n4_; clear n0_ n1_ n2_ n3_ n4_; have hcz11_0 : w10.cell? ⟨gb790, 0, none⟩ = some (.int .i64 ((qck l0 x9_1).f0)) := (qbq BK790.out 0).trans rfl; have hcz11_1 : w10.cell? ⟨gb790, 1, none⟩ = some (.slice A789_1 ((qck l0 x9_1).f1).length c789_1) := (qbq BK790.out 1).trans rfl; have hcz11_2 : w10.cell? ⟨gb790, 2, none⟩ = some (.string ((qck l0 x9_1).f2)) := (qbq BK790.out 2).trans rfl; have hfz11_0 := qbz BK790.out 0; have hfz11_1 := qbz BK790.out 1; have hfz11_2 := qbz BK790.out 2) | ((with_reducible refine qev (b := .append) (xs := #[.tmp 13, .tmp 15]) rfl ?_); at_builtin; refine Kd.N_append k82 (w0 := w) w.heap.size rfl (.tmp 13) (.tmp 15) 91 82 (.agg #[(.int .i64 0), (.slice none 0 0), (.string ⟨#[]⟩)]) 48 rfl Try.underlying91 info82 rfl (by decide) (by omega) u3 x3_1 (⟨(qck l0 x9_1).f0, (qck l0 x9_1).f1, (qck l0 x9_1).f2⟩ : S82) [.int .i64 ((qck l0 x9_1).f0), .slice A789_1 ((qck l0 x9_1).f1).length c789_1, .string ((qck l0 x9_1).f2)] (fun k_ => (P0_ k_ ∨ w.heap.size ≤ k_) ∧ k_ ≠ gb790) (fun k_ => ((fun k_ => (P0_ k_ ∨ w.heap.size ≤ k_) ∧ k_ ≠ gb790)) k_ ∧ some k_ ≠ (u3 : Value).ownBlock) rfl rfl ?aP (fun _ hk => hk) ?aF ?aO ?aB ?aS ?aL ?_; (case aP => exact (zkx _ _ (⟨(qck l0 x9_1).f0, (qck l0 x9_1).f1, (qck l0 x9_1).f2⟩ : S82) (Kd.V_reads' (Kd.V_mono (ok' := (fun k_ => ((fun k_ => (P0_ k_ ∨ w.heap.size ≤ k_) ∧ k_ ≠ gb790)) k_ ∧ some k_ ≠ (u3 : Value).ownBlock)) (HL789_1.out) (fun k_ hk => ⟨⟨hk.1, hk.2.2⟩, hk.2.1⟩))).2.1 (Kd.V_F (Kd.V_mono (ok' := (fun k_ => ((fun k_ => (P0_ k_ ∨ w.heap.size ≤ k_) ∧ k_ ≠ gb790)) k_ ∧ some k_ ≠ (u3 : Value).ownBlock)) (HL789_1.out) (fun k_ hk => ⟨⟨hk.1, hk.2.2⟩, hk.2.1⟩))))); (case aB => exact (by repeat (first | (with_reducible first | exact HB.out | apply qax | apply qaq | apply qaz | refine qaj ?_ GE790.out) | exact HB.out))); (case aF => exact (fun k_ hk => ⟨(.inr (Nat.le_trans (qbx (by repeat (first | (with_reducible first | exact HB.out | apply qax | apply qaq | apply qaz | refine qaj ?_ GE790.out) | exact HB.out))) hk)), Kd.freshB (g := gb790) (o := .cells #[.int .i64 ((qck l0 x9_1).f0), .slice A789_1 ((qck l0 x9_1).f1).length c789_1, .string ((qck l0 x9_1).f2)] 80 (0, 0)) (by (with_reducible repeat (first | refine qav ?_ _ | refine qaw ?_ | refine qak ?_ _)); exact BK790.out) k_ hk⟩)); (case aO => exact (by (with_reducible repeat (first | apply Kd.N_alloc | apply Kd.N_drewN | apply Kd.N_drew)); exact HO_3.out)); (case aS => exact (qbx (by repeat (first | (with_reducible first | exact HB.out | apply qax | apply qaq | apply qaz | refine qaj ?_ GE790.out) | exact HB.out)))); (case aL => have := LMc7.out; omega); intro v792 w12 ho hb hg hat; rw [← Ny791.out] at ho; have n0_ := Aside0.mk (Kd.V_afterv (ok := (fun k_ => (P0_ k_ ∨ w.heap.size ≤ k_) ∧ k_ ≠ gb790)) (by (with_reducible repeat (first | apply Kd.V_alloc | apply Kd.V_drewN | apply Kd.V_drew)); exact Kd.V_mono HO_7.out (fun _ hk => ⟨⟨hk.1, hk.2.2⟩, hk.2.1⟩)) hg hat); have n1_ := Aside0.mk (Kd.V_afterv (ok := (fun k_ => (P0_ k_ ∨ w.heap.size ≤ k_) ∧ k_ ≠ gb790)) (by (with_reducible repeat (first | apply Kd.V_alloc | apply Kd.V_drewN | apply Kd.V_drew)); exact Kd.V_mono HL789_1.out (fun _ hk => ⟨⟨hk.1, hk.2.2⟩, hk.2.1⟩)) hg hat); have n2_ := Aside0.mk (qgq (g := gb790) (o := .cells #[.int .i64 ((qck l0 x9_1).f0), .slice A789_1 ((qck l0 x9_1).f1).length c789_1, .string ((qck l0 x9_1).f2)] 80 (0, 0)) (by (with_reducible repeat (first | refine qav ?_ _ | refine qaw ?_ | refine qak ?_ _)); exact BK790.out) hg (Kd.N_ne HO_3.out BK790.out (by decide))); have n3_ := Aside0.mk (hb); have n4_ := Aside0.mk (ho); clear HO_7; clear HL789_1; clear BK790; clear HB; clear HO_3; have HO_7 := n0_; have HL789_1 := n1_; have BK790 := n2_; have HB := n3_; have HO793 := n4_; clear n0_ n1_ n2_ n3_ n4_; clear ho hb hg hat))
       go_roundg k1
       case measure => have := HK1.out; omega
       case rel => exact ⟨(y791), (wrap64 (x9_1 + 1)), (by first | rfl | (simp; done) | (simp [*]; done)), H', ⟨by have := HK1.out; omega⟩, ⟨by (with_reducible repeat (first | apply Kd.N_alloc | apply Kd.N_drewN | apply Kd.N_drew)); exact Kd.N_mono HO793.out (fun _ hk => hk.1)⟩, ⟨by (with_reducible repeat (first | apply Kd.V_alloc | apply Kd.V_drewN | apply Kd.V_drew)); exact Kd.V_mono HO_7.out (fun _ hk => ⟨hk.1.1, hk.2⟩)⟩, ⟨by repeat (first | (with_reducible first | exact HB.out | apply qax | apply qaq | apply qaz | refine qaj ?_ GE790.out) | exact HB.out)⟩⟩
      ·rw [if_neg c7] at H
       exact absurd H (by simp)
     ·rw [if_neg c6] at H
      exact absurd H (by simp)
    ·rw [if_neg c5] at H
     exact absurd H (by simp)
   ·rw [if_neg c4] at H
    have c4b0 : decide (x9_1 < (l0.length : Int)) = false := decide_eq_false c4
    clear c4
    obtain rfl := Option.some.inj H
    go_wp2
    go_ret
    exact ⟨_, by first | rfl | (simp [qcq, qcz] <;> rfl) | (simp [*, qcq, qcz] <;> rfl), by (with_reducible repeat (first | apply Kd.N_alloc | apply Kd.N_drewN | apply Kd.N_drew)); exact HO_3.out, by repeat (first | (with_reducible first | exact HB.out | apply qax | apply qaq | apply qaz) | exact HB.out)⟩
end Go.Proofs.Ytojepleodijdeaa.B
