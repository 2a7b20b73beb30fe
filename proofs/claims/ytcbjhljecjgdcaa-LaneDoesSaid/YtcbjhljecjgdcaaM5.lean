/- Own text: lane.each (an iterator over the ring), First, All: the walks. -/
import Derived.Test.YtcbjhljecjgdcaaM4
import Derived.RangeFuncBox
import Derived.Lib.Builder
import Derived.LaidEqlPtr
import Derived.RangeFuncLeaves
import Derived.Shelf.Abstract
import Derived.WalkKit
import Derived.OwnWalkIn
import Derived.TacticsInMore
import Derived.LoopNIn
import Derived.LoopIn
import Derived.Maps.AppendAt
set_option linter.unusedVariables false
set_option linter.unusedSimpArgs false
namespace Go.Proofs.Ytcbjhljecjgdcaa.L
open Go Go.RowKit Go.MapKept Go.Shelf
open Go.ChangeMaps (setBlock)
attribute [local go_sem] Oper.semAt_some

/-- How many nodes are still to come. -/
def toGo (R : List Nat) (v : Value) : Nat := match v with
  | .pointer (some a) => R.length - R.idxOf a.block
  | _ => 0
theorem toGo_mid {A : List Nat} {x : Nat} {C : List Nat} (h : x ∉ A) : toGo (A ++ x :: C) (nd x) = C.length + 1 := by
  simp only [toGo, nd]
  rw [List.idxOf_append]
  simp [h, List.idxOf_cons]
theorem toGo_none {R : List Nat} {x : Nat} (h : x ∉ R) : toGo R (nd x) = 0 := by
  simp only [toGo, nd]
  rw [List.idxOf_eq_length h]
  omega
theorem toGo_head {w : World} {b m : Nat} {L1 L2 : List (Int × Nat)} (h : Lane w b m (L1 ++ L2)) : toGo ((L1 ++ L2).map Prod.snd) (nd (headB b L2)) = L2.length := by
  have hn := List.nodup_cons.1 h.nodup
  cases L2 with
  | nil => exact toGo_none hn.1
  | cons p L2 =>
    rw [List.map_append, List.map_cons]
    have := hn.2
    rw [List.map_append, List.map_cons] at this
    have h3 := (List.nodup_append.1 this).2.2
    exact (toGo_mid (x := p.2) (fun e => h3 _ e p.2 (by simp) rfl)).trans (by simp)
/-- What a lane says about where it begins. -/
theorem Lane.first {w : World} {b m : Nat} {L : List (Int × Nat)} (h : Lane w b m L) : w.cell? ⟨b, 1, none⟩ = some (nd (headB b L)) := by
  have hr := h.ring
  cases L with
  | nil => exact hr.1.1
  | cons p L => exact hr.1.1
theorem info46 : (Try.prog.info? 46).map (fun i => (i.zero, i.size, i.bytes)) = some (some (.agg #[.pointer none, .pointer none, .int .u64 0]), 3, 24) := by kernel_rfl
theorem ptr_same (w : World) (x : Nat) : (binOp .neq 42 (.pointer (some ⟨x, 0, none⟩)) (.pointer (some ⟨x, 0, none⟩))).run Try.prog w = .ok (.bool false) w := by
  obtain ⟨i, hi, _⟩ := info_parts info46
  exact Go.Lib.run_neq_ptr_same w _ Try.underlying42 hi
theorem ptr_other {w : World} {x y : Nat} (hx : Good w x) (hy : Good w y) (hne : x ≠ y) : (binOp .neq 42 (.pointer (some ⟨x, 0, none⟩)) (.pointer (some ⟨y, 0, none⟩))).run Try.prog w = .ok (.bool true) w := by
  obtain ⟨i, hi, _, hz, _⟩ := info_parts info46
  obtain ⟨cx, tx, hx, _⟩ := hx
  obtain ⟨cy, ty, hy, _⟩ := hy
  have h : ∀ d : Nat, (Op.equalIn (d + 1) 42 (.pointer (some ⟨x, 0, none⟩)) (.pointer (some ⟨y, 0, none⟩))).run Try.prog w = .ok false w := fun d => by
    simp [Op.equalIn, run_underlying Try.underlying42, sizeOf, typeInfo, hi, hz, run_sameAddr_other w (a := ⟨x, 0, none⟩) (b := ⟨y, 0, none⟩) (by simp [hne]) hx hy]
  simp only [binOp]
  simp [Op.equal, Op.maxDepth, h 9999]
/-- What a round keeps: what lay below n₀, and the iterator's own box. -/
def KpB (n₀ Bn : Nat) (W W' : World) : Prop := Below n₀ W W' ∧ W'.heap[Bn]? = W.heap[Bn]?
theorem KpB.refl (n₀ Bn : Nat) (W : World) : KpB n₀ Bn W W := ⟨Below.refl _ _, rfl⟩
theorem KpB.trans {n₀ Bn : Nat} {A B C : World} (h : KpB n₀ Bn A B) (k : KpB n₀ Bn B C) : KpB n₀ Bn A C := ⟨h.1.trans k.1, k.2.trans h.2⟩
theorem KpB.put {n₀ Bn : Nat} {w : World} (hn : n₀ ≤ w.heap.size) (hB : Bn < w.heap.size) (W : World) (l : Nat) (o o' : Obj) (hl : w.heap.size ≤ l) (h : W.heap[l]? = some o) (h1 : o.isCells = false) (h2 : o.isWalk = false) : KpB n₀ Bn W (W.putObj l o') :=
  ⟨belowK_b hn W l o o' hl h h1 h2, World.putObj_heap_other (by omega)⟩
set_option maxRecDepth 100000 in
set_option maxHeartbeats 1000000 in
theorem each1_in (F : Fence) (n : Nat) (h22 : F.fn 22) (hro : F.round = none) (hn : 1 ≤ n) (l Bn n₀ b m : Nat) (L : List (Int × Nat)) (J Jx : List Int → World → Prop)
    (hY : ∀ pre x W, J pre W → pre.length < L.length → YieldAt F (n - 1) Try.prog l #[.int .u64 x] W fun e W' =>
      (e = .returned (.bool true) ∧ J (pre ++ [x]) W' ∧ KpB n₀ Bn W W') ∨ (e = .returned (.bool false) ∧ Jx (pre ++ [x]) W'))
    (W : World) (hBn : W.cell? ⟨Bn, 0, none⟩ = some (nd b)) (hL : Lane W b m L) (hfo : ∀ k, foot b m L k → k < n₀) (h0 : J [] W) :
    CallsIn F n Try.prog 22 #[.func (.yield l) #[] #[], .pointer (some ⟨Bn, 0, none⟩)] W fun e W' => (∃ v, e = .returned v) ∧
      ((∃ ys, ys = L.map Prod.fst ∧ J ys W') ∨ (∃ pre, pre <+: L.map Prod.fst ∧ Jx pre W')) := by
  refine callsIn_of_wp Try.func22 rfl h22 ?_ hro
  simp only [Try.ntmps22, List.size_toArray, List.length_cons, List.length_nil, Nat.reduceAdd, Nat.reduceSub, Array.replicate_succ, Array.replicate_zero, List.push_toArray, List.append_toArray, List.nil_append, List.cons_append]
  have hfirst := hL.first
  unfold nd at hBn hfirst
  gi_wp2
  gi_loopw [3] (fun p wr => ∃ (pre rest : List (Int × Nat)), p = nd (headB b rest) ∧ L = pre ++ rest ∧ KpB n₀ Bn W wr ∧ J (pre.map Prod.fst) wr)
    (fun p wr => toGo (L.map Prod.snd) p)
  case atStart =>
    exact ⟨[], L, rfl, rfl, KpB.refl _ _ _, h0⟩
  case round =>
    obtain ⟨pre, rest, hp, rfl, hbe, hJs⟩ := hrel
    have hBn' : wr.cell? ⟨Bn, 0, none⟩ = some (.pointer (some ⟨b, 0, none⟩)) := (World.cell?_of_block (a := ⟨Bn, 0, none⟩) hbe.2).trans hBn
    cases rest with
    | nil =>
      have hne := ptr_same wr b
      have hp' : u3 = .pointer (some ⟨b, 0, none⟩) := hp
      clear hp
      subst hp'
      gi_wp2
      go_end0
      exact ⟨⟨_, rfl⟩, .inl ⟨pre.map Prod.fst, by simp, hJs⟩⟩
    | cons q rest =>
      obtain ⟨i, x⟩ := q
      obtain ⟨_, hq, _, _⟩ := hL.node
      have hfx : foot b m (pre ++ (i, x) :: rest) x := .inr (by simp)
      have hxn := hfo x hfx
      have hfb : foot b m (pre ++ (i, x) :: rest) b := .inr (by simp)
      have hgo : toGo ((pre ++ (i, x) :: rest).map Prod.snd) (nd x) = rest.length + 1 := toGo_head hL
      have hgo2 : toGo ((pre ++ (i, x) :: rest).map Prod.snd) (nd (headB b rest)) = rest.length := by
        have := toGo_head (L1 := pre ++ [(i, x)]) (L2 := rest) (by simpa using hL)
        simpa using this
      have hxb : x ≠ b := fun e => (List.nodup_cons.1 hL.nodup).1 (by rw [← e]; simp)
      have hne := ptr_other ((hL.good x (by simp)).of_block (hbe.1.block x hxn)) ((hL.good b (by simp)).of_block (hbe.1.block b (hfo b hfb))) hxb
      have hi : wr.cell? ⟨x, 2, none⟩ = some (.int .u64 i) := (hbe.1.cell (p := ⟨x, 2, none⟩) hxn).trans (hL.ids (i, x) (by simp))
      have hlen : (pre.map Prod.fst).length < (pre ++ (i, x) :: rest).length := by simp
      obtain ⟨fn, tmps, assign, body, hy, hR⟩ := hY (pre.map Prod.fst) i wr hJs hlen
      clear hlen
      have HG := Lib.hid hgo
      have HG2 := Lib.hid hgo2
      clear hgo hgo2
      have hp' : u3 = .pointer (some ⟨x, 0, none⟩) := hp
      clear hp
      subst hp'
      gi_wp2
      refine hR.mono ?_
      rintro e W3 (⟨rfl, hJ3, hk3⟩ | ⟨rfl, hJx3⟩)
      · have hq3 : W3.cell? ⟨x, 1, none⟩ = some (.pointer (some ⟨headB b rest, 0, none⟩)) := (hk3.1.cell (p := ⟨x, 1, none⟩) hxn).trans ((hbe.1.cell (p := ⟨x, 1, none⟩) hxn).trans hq)
        gi_wp2
        go_roundw
        case rel => exact ⟨pre ++ [(i, x)], rest, rfl, by simp, hbe.trans hk3, by rw [List.map_append]; exact hJ3⟩
        case measure =>
          show toGo _ (nd (headB b rest)) < toGo _ (nd x)
          rw [HG.out, HG2.out]; omega
      · gi_wp2
        refine bodyPost_ret (results_none rfl _ _ _) rfl ?_
        exact ⟨⟨_, rfl⟩, .inr ⟨pre.map Prod.fst ++ [i], ⟨rest.map Prod.fst, by simp⟩, hJx3⟩⟩
/-- l.each(): the receiver is boxed; the function value captures the box. -/
theorem each_in (F : Fence) (n : Nat) (h21 : F.fn 21) (hro : F.round = none) (p0 : Option Addr) (w : World) :
    CallsIn F n Try.prog 21 #[.pointer p0] w fun e w' => e = .returned (.func (.func 22) #[] #[.pointer (some ⟨w.heap.size, 0, none⟩)]) ∧ w' = w.alloc (.cells #[.pointer p0] 25) := by
  refine callsIn_of_wp Try.func21 rfl h21 ?_ hro
  simp only [Try.ntmps21, List.size_toArray, List.length_cons, List.length_nil, Nat.reduceAdd, Nat.reduceSub, Array.replicate_succ, Array.replicate_zero, List.push_toArray, List.append_toArray, List.nil_append, List.cons_append]
  have hmf : ∀ (fn : Fn) (first cap : Array Value) (w : World), (Instr.makeFunc fn first cap).run Try.prog w = .ok (.func fn first cap) w := fun _ _ _ _ => rfl
  gi_wp2
  go_ret
  exact ⟨rfl, rfl⟩
theorem each_stops (F : Fence) (n : Nat) (h22 : F.fn 22) (hro : F.round = none) (hn : 1 ≤ n) (n₀ Bn b m : Nat) (L : List (Int × Nat)) (w : World) (hBn : Bn < w.heap.size)
    (hc : w.cell? ⟨Bn, 0, none⟩ = some (nd b)) (hL : Lane w b m L) (hfo : ∀ k, foot b m L k → k < n₀) :
    SeqStopsK F n Try.prog 22 #[.pointer (some ⟨Bn, 0, none⟩)] (fun x : Int => #[Value.int .u64 x]) (KpB n₀ Bn) (fun ys => ys = L.map Prod.fst) (fun pre => pre <+: L.map Prod.fst) L.length w := fun l J Jx W hW _ _ hY h0 =>
  each1_in F n h22 hro hn l Bn n₀ b m L J Jx hY W ((hW.cell (p := ⟨Bn, 0, none⟩) hBn).trans hc) (hL.frame fun k hk => hW.block k (hL.lt hk)) hfo h0
theorem boxed_keeps {W W' : World} {row : Option Nat} {B : Nat} {t : TypeId} {v : Value} (h : Boxed W B t v) (hg : W.grownBy W' row) (hr : ∀ r, row = some r → ∃ o : Obj, W.heap[r]? = some o ∧ o.isCells = false) : Boxed W' B t v :=
  h.kept hg (fun e => by
    obtain ⟨o, ho, hc⟩ := hr B e.symm
    rw [show W.heap[B]? = _ from h] at ho
    cases ho
    cases hc)
theorem boxed_other {W : World} {B C : Nat} {t : TypeId} {v u : Value} (h : Boxed W B t v) (hne : B ≠ C) : Boxed (W.setCell ⟨C, 0, none⟩ u) B t v := (Below.heap_setCell _ _ _ _ hne).trans h
theorem boxed_put {W : World} {B : Nat} {t : TypeId} {v : Value} (h : Boxed W B t v) {D : Nat} {o o' : Obj} (hD : W.heap[D]? = some o) (hc : o.isCells = false) : Boxed (W.putObj D o') B t v :=
  boxed_keeps h (grownBy_putObj' W D o') (fun r e => by cases e; exact ⟨_, hD, hc⟩)
set_option maxRecDepth 100000 in
set_option maxHeartbeats 2000000 in
/-- First, within a fence. -/
theorem first_in (F : Fence) (n : Nat) (h14 : F.fn 14) (h21 : F.fn 21) (h22 : F.fn 22) (hro : F.round = none) (hn : 3 ≤ n) (b m : Nat) (L : List (Int × Nat)) (w : World) (hL : Lane w b m L) :
    CallsIn F n Try.prog 14 #[.pointer (some ⟨b, 0, none⟩)] w fun e W' => e = .returned (.tuple #[.int .u64 ((L.map Prod.fst).headD 0), .bool (!L.isEmpty)]) ∧ Below w.heap.size w W' := by
  have h1 : 1 ≤ n := by omega
  refine callsIn_of_wp_marks Try.func14 rfl h14 ?_ hro
  simp only [Try.ntmps14, List.size_toArray, List.length_cons, List.length_nil, Nat.reduceAdd, Nat.reduceSub, Array.replicate_succ, Array.replicate_zero, List.push_toArray, List.append_toArray, List.nil_append, List.cons_append]
  gi_wp2_with (gi_at_call 21; refine (each_in F (n - 1) h21 hro _ _).mono ?_; rintro e w' ⟨rfl, rfl⟩)
  have b0 := Boxed.new w 23 (.int .u64 0)
  have b1 := Boxed.new (w.alloc (.cells #[.int .u64 0] 23)) 4 (.bool false)
  have b2 := Boxed.new ((w.alloc (.cells #[.int .u64 0] 23)).alloc (.cells #[.bool false] 4)) 25 (.pointer (some ⟨b, 0, none⟩))
  simp only [World.size_alloc] at b1 b2
  have hB0 : Below w.heap.size w (((w.alloc (.cells #[.int .u64 0] 23)).alloc (.cells #[.bool false] 4)).alloc (.cells #[.pointer (some ⟨b, 0, none⟩)] 25)) := (((Below.refl _ w).alloc (Nat.le_refl _) _).alloc (by simp) _).alloc (by simp; omega) _
  have hL0 := hL.frame fun k hk => hB0.block k (hL.lt hk)
  refine wpIn_rangeFunc_ownG hro h1 (gf := 22) (lb := #[.pointer (some ⟨w.heap.size + 1 + 1, 0, none⟩)]) rfl h22 (enters_of Try.func22 (by kernel_rfl) rfl)
    (each_stops F (n - 1) h22 hro (by omega) w.heap.size (w.heap.size + 1 + 1) b m L _ (by simp) b2.cell hL0 (fun k hk => hL.lt hk)) KpB.trans (KpB.put (by simp; omega) (by simp)) (Below.refl _ _) (fun _ => rfl)
    (fun pre W => (pre = [] ∧ Boxed W w.heap.size 23 (.int .u64 0) ∧ Boxed W (w.heap.size + 1) 4 (.bool false)) ∧ Below w.heap.size w W)
    (fun c pre W => (c = .ret ∧ ∃ x, pre = [x] ∧ Boxed W w.heap.size 23 (.int .u64 x) ∧ Boxed W (w.heap.size + 1) 4 (.bool true)) ∧ Below w.heap.size w W)
    (OwnFrom.and (Own.from (fun s A B row hs hg hr => ⟨hs.1, boxed_keeps hs.2.1 hg hr, boxed_keeps hs.2.2 hg hr⟩) _) (ownFrom_below (Nat.le_refl _) (by simp; omega)))
    (fun c => OwnFrom.and (Own.from (fun s A B row hs hg hr => ⟨hs.1, hs.2.choose, hs.2.choose_spec.1, boxed_keeps hs.2.choose_spec.2.1 hg hr, boxed_keeps hs.2.choose_spec.2.2 hg hr⟩) _) (ownFrom_below (Nat.le_refl _) (by simp; omega)))
    ⟨⟨rfl, (b0.alloc _).alloc _, b1.alloc _⟩, hB0⟩
    (fun x => { tmps := #[.pointer (some ⟨b, 0, none⟩), undef, .pointer (some ⟨w.heap.size, 0, none⟩), .pointer (some ⟨w.heap.size + 1, 0, none⟩), .int .u64 x, .pointer (some ⟨b, 0, none⟩), .func (.func 22) #[] #[.pointer (some ⟨w.heap.size + 1 + 1, 0, none⟩)], .int .u64 x, undef], defers := [] }) ?assign ?body ?done ?stop
  case assign =>
    intro l x W K hK
    gi_wp2
    exact hK
  case body =>
    rintro l pre x W ⟨⟨rfl, b0, b1⟩, hB⟩ _
    have hc0 := b0.cell
    have hf0 := b0.frozen
    have b1' := boxed_other b1 (C := w.heap.size) (u := .int .u64 x) (by omega)
    have hc1 := b1'.cell
    have hf1 := b1'.frozen
    gi_wp2
    exact ⟨((KeepsOthers.setCell _ _ _).trans (KeepsOthers.setCell _ _ _)).from _, ⟨rfl, x, rfl, boxed_other (b0.set _) (by omega), b1'.set _⟩, (hB.setCell (p := ⟨w.heap.size, 0, none⟩) (by simp) _).setCell (p := ⟨w.heap.size + 1, 0, none⟩) (by simp) _⟩
  case done =>
    rintro D ys W hD rfl ⟨⟨hne, b0, b1⟩, hB⟩ hK
    have hL0 : L = [] := by simpa using hne
    have hc0 := b0.cell
    have hf0 := b0.frozen
    have b1' := boxed_other b1 (C := w.heap.size) (u := .int .u64 0) (by omega)
    have hc1 := b1'.cell
    have hf1 := b1'.frozen
    have HL := Lib.hid hL0
    clear hL0 hne
    gi_wp2
    have hK' := ((KeepsOthers.setCell W ⟨w.heap.size, 0, none⟩ (.int .u64 0)).trans (KeepsOthers.setCell _ ⟨w.heap.size + 1, 0, none⟩ (.bool false))).same D _ hK rfl
    refine ⟨by simp, .inl ⟨_, _, rfl, run_takeDeferred hK', ?_⟩⟩
    have c0 := (boxed_put (boxed_other (b0.set (.int .u64 0)) (C := w.heap.size + 1) (u := .bool false) (by omega)) hK' rfl (o' := .deferred none)).cell
    have c1 := (boxed_put (b1'.set (.bool false)) hK' rfl (o' := .deferred none)).cell
    refine ⟨.tuple #[.int .u64 0, .bool false], ?_, by rw [HL.out]; rfl, ((hB.setCell (p := ⟨w.heap.size, 0, none⟩) (by simp) _).setCell (p := ⟨w.heap.size + 1, 0, none⟩) (by simp) _).trans (belowK_b (w := w) (Nat.le_refl _) _ D _ _ (by simp at hD; omega) hK' rfl rfl)⟩
    simp [results, Try.f14, go_sem, c0, c1]
  case stop =>
    rintro D c pre W hD hpre ⟨⟨rfl, x, rfl, b0, b1⟩, hB⟩ hK
    gi_wp2
    refine ⟨by simp, .inl ⟨_, _, rfl, run_takeDeferred hK, ?_⟩⟩
    have c0 := (boxed_put b0 hK rfl (o' := .deferred none)).cell
    have c1 := (boxed_put b1 hK rfl (o' := .deferred none)).cell
    refine ⟨.tuple #[.int .u64 x, .bool true], ?_, ?_, hB.trans (belowK_b (w := w) (Nat.le_refl _) W D _ _ (by simp at hD; omega) hK rfl rfl)⟩
    · simp [results, Try.f14, go_sem, c0, c1]
    · obtain ⟨t, ht⟩ := hpre
      cases L with
      | nil => simp at ht
      | cons p L => simp at ht; simp [ht.1]
end Go.Proofs.Ytcbjhljecjgdcaa.L
