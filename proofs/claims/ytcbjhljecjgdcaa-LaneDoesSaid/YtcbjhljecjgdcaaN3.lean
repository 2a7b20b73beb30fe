/- Own text: tumbrellaw08.awake: the walk: it answers true. -/
import Derived.Test.YtcbjhljecjgdcaaN2
set_option linter.unusedVariables false
set_option linter.unusedSimpArgs false
namespace Go.Proofs.Ytcbjhljecjgdcaa.L
open Go Go.RowKit Go.MapKept
open Go.ChangeMaps (setBlock)

/-- What holds of a lane that one has made oneself. -/
def Mine (w W : World) (b : Nat) (ids : List Int) : Prop := ∃ F, LaneI W w.heap.size b F ids ∧ Below w.heap.size w W
theorem Mine.put {w W : World} {b : Nat} {ids : List Int} (h : Mine w W b ids) (i : Int) (hi : (Lit.int .u64 i).wf = true) (t : Bool) (ids' : List Int) (ht : (!decide (i ∈ ids)) = t) (hids : putIds i ids = ids') :
    Calls Try.prog 8 #[.pointer (some ⟨b, 0, none⟩), .int .u64 i] W fun e W' => e = .returned (.bool t) ∧ Hid (Mine w W' b ids') := by
  obtain ⟨F, h1, h2⟩ := h
  subst ht hids
  refine (putI W _ b F ids i hi h1 h2.size).mono ?_
  rintro e W' ⟨F', rfl, h3, _, h5⟩
  exact ⟨rfl, F', h3, h2.trans (h5.below h2.size fun k hk hF => by have := (h1.lt hF).1; omega)⟩
theorem Mine.drop {w W : World} {b : Nat} {ids : List Int} (h : Mine w W b ids) (i : Int) (hi : (Lit.int .u64 i).wf = true) (t : Bool) (ids' : List Int) (ht : decide (i ∈ ids) = t) (hids : keep i ids = ids') :
    Calls Try.prog 12 #[.pointer (some ⟨b, 0, none⟩), .int .u64 i] W fun e W' => e = .returned (.bool t) ∧ Hid (Mine w W' b ids') := by
  obtain ⟨F, h1, h2⟩ := h
  subst ht hids
  refine (dropI W _ b F ids i hi h1).mono ?_
  rintro e W' ⟨F', rfl, h3, _, h5⟩
  exact ⟨rfl, F', h3, h2.trans (h5.below h2.size fun k hk hF => by have := (h1.lt hF).1; omega)⟩
/-- .. and of a slice that came of it. -/
def MineV (w W : World) (b : Nat) (ids : List Int) (v : Value) (l : List Int) : Prop := ∃ F B, LaneI W w.heap.size b F ids ∧ Below w.heap.size w W ∧ Own64 W B v l ∧ (∀ k, F k → k < B) ∧ w.heap.size ≤ B
theorem Mine.all {w W : World} {b : Nat} {ids : List Int} (h : Mine w W b ids) (hl : ids.length ≤ 100000) :
    Calls Try.prog 17 #[.pointer (some ⟨b, 0, none⟩)] W fun e W' => ∃ v, e = .returned v ∧ Hid (MineV w W' b ids v ids) := by
  obtain ⟨F, h1, h2⟩ := h
  refine (allI W _ b F ids h1 hl).mono ?_
  rintro e W' ⟨v, rfl, h3, h4⟩
  exact ⟨v, rfl, F, W.heap.size, h1.below h4, h2.trans (h4.mono h2.size), h3, fun k hk => (h1.lt hk).2, h2.size⟩
theorem MineV.take {w W : World} {b : Nat} {ids : List Int} {v : Value} {l : List Int} (h : MineV w W b ids v l) (x : Int) (t : Bool) (ids' : List Int) (hx : ids.headD 0 = x) (ht : (!ids.isEmpty) = t) (hids : ids.tail = ids') :
    Calls Try.prog 10 #[.pointer (some ⟨b, 0, none⟩)] W fun e W' => e = .returned (.tuple #[.int .u64 x, .bool t]) ∧ Hid (MineV w W' b ids' v l) := by
  obtain ⟨F, B, h1, h2, h3, h4, h5⟩ := h
  subst hx ht hids
  refine (takeI W _ b F ids h1).mono ?_
  rintro e W' ⟨F', rfl, h6, h7, h8⟩
  exact ⟨rfl, F', B, h6, h2.trans (h8.below h2.size fun k hk hF => by have := (h1.lt hF).1; omega), h3.only h8 (fun k hk hF => by have := h4 k hF; have := (h3.lt k hk).1; omega), fun k hk => h4 k (h7 k hk), h5⟩
theorem MineV.has {w W : World} {b : Nat} {ids : List Int} {v : Value} {l : List Int} (h : MineV w W b ids v l) (i : Int) (hi : (Lit.int .u64 i).wf = true) (t : Bool) (ht : decide (i ∈ ids) = t) :
    Calls Try.prog 18 #[.pointer (some ⟨b, 0, none⟩), .int .u64 i] W fun e W' => e = .returned (.bool t) ∧ W' = W := by
  obtain ⟨F, B, h1, _⟩ := h
  subst ht
  exact hasI W _ b F ids i hi h1
theorem MineV.len {w W : World} {b : Nat} {ids : List Int} {v : Value} {l : List Int} (h : MineV w W b ids v l) (n : Nat) (hn : ids.length = n) :
    Calls Try.prog 20 #[.pointer (some ⟨b, 0, none⟩)] W fun e W' => e = .returned (.int .i64 n) ∧ W' = W := by
  obtain ⟨F, B, h1, _⟩ := h
  subst hn
  exact lenI W _ b F ids h1
theorem MineV.grows {w W W' : World} {b : Nat} {ids : List Int} {v : Value} {l : List Int} (h : MineV w W b ids v l) (hb : Below W.heap.size W W') : MineV w W' b ids v l := by
  obtain ⟨F, B, h1, h2, h3, h4, h5⟩ := h
  exact ⟨F, B, h1.below hb, h2.trans (hb.mono h2.size), h3.below hb, h4, h5⟩
/-- 'R2.Same' against a literal slice. -/
theorem MineV.same {w W : World} {b : Nat} {ids : List Int} {v : Value} {l : List Int} (h : MineV w W b ids v l) (v2 : Value) (l2 : List Int) (B2 : Nat) (h2 : Own64 W B2 v2 l2) (hl : l.length ≤ 100000) (hl2 : l2.length ≤ 100000) (t : Bool) (ht : decide (l = l2) = t) :
    Calls Try.prog 16 #[v, v2] W fun e W' => e = .returned (.bool t) ∧ Hid (MineV w W' b ids v l) := by
  obtain ⟨F, B, h1, hb, h3, h4, h5⟩ := h
  subst ht
  refine (same_calls W B B2 v v2 l l2 h3 h2 hl hl2).mono ?_
  rintro e W' ⟨rfl, n, rfl⟩
  have hB : Below W.heap.size W (W.drewN n) := ⟨rfl, rfl, rfl, Nat.le_refl _, fun _ _ => rfl⟩
  exact ⟨rfl, MineV.grows ⟨F, B, h1, hb, h3, h4, h5⟩ hB⟩
theorem lit_own (w : World) (l : List Int) (hl : l.length ≤ 100000) : Own64 (w.alloc (.cells (ints l).toArray 23)) w.heap.size (.slice (some ⟨w.heap.size, 0, none⟩) l.length l.length) l := by
  have := World.ownsRow_lit (e := 23) (size := 1) w (ints l).toArray l.length (Nat.le_refl _) (by simp only [maxLen]; omega) (by simp [ints])
  exact this
theorem below_alloc1 (W : World) (o : Obj) : Below W.heap.size W (W.alloc o) := (Below.refl _ W).alloc (Nat.le_refl _) o
set_option maxHeartbeats 2000000 in
theorem awake_calls (w : World) : Calls Try.prog 6 #[] w fun e w' => e = .returned (.bool true) ∧ Below w.heap.size w w' := by
  go_enter Try.func6, Try.ntmps6
  go_wp2_with (first
    | (go_at_call 7; refine (newI _ w.heap.size (Nat.le_refl _)).mono ?_; rintro e w1 ⟨b, F, rfl, h1, _, h2⟩; have H1 : Hid (Mine w w1 b []) := ⟨F, h1, h2.below (Nat.le_refl _) (fun _ _ h => h)⟩; clear h1 h2)
    | (go_at_call 8; with_reducible refine (Mine.put H1.out 3 (by decide) true [3] (by decide) (by decide)).mono ?_; rintro e w2 ⟨rfl, H2⟩; clear H1)
    | (go_at_call 8; with_reducible refine (Mine.put H2.out 1 (by decide) true [3, 1] (by decide) (by decide)).mono ?_; rintro e w3 ⟨rfl, H3⟩; clear H2)
    | (go_at_call 8; with_reducible refine (Mine.put H3.out 3 (by decide) false [3, 1] (by decide) (by decide)).mono ?_; rintro e w4 ⟨rfl, H4⟩; clear H3)
    | (go_at_call 8; with_reducible refine (Mine.put H4.out 2 (by decide) true [3, 1, 2] (by decide) (by decide)).mono ?_; rintro e w5 ⟨rfl, H5⟩; clear H4)
    | (go_at_call 12; with_reducible refine (Mine.drop H5.out 1 (by decide) true [3, 2] (by decide) (by decide)).mono ?_; rintro e w6 ⟨rfl, H6⟩; clear H5)
    | (go_at_call 17; with_reducible refine (Mine.all H6.out (by decide)).mono ?_; rintro e w7 ⟨v, rfl, H7⟩; clear H6)
    | (go_at_call 10; with_reducible refine (MineV.take H7.out 3 true [2] rfl rfl rfl).mono ?_; rintro e w8 ⟨rfl, H8⟩; clear H7)
    | (go_at_call 16; refine (MineV.same (H8.out.grows (below_alloc1 _ _)) _ [3, 2] _ (lit_own _ [3, 2] (by decide)) (by decide) (by decide) true (by decide)).mono ?_; rintro e w9 ⟨rfl, H9⟩; clear H8)
    | (go_at_call 20; with_reducible refine (MineV.len H9.out 1 rfl).mono ?_; rintro e w10 ⟨rfl, rfl⟩)
    | (go_at_call 18; with_reducible refine (MineV.has H9.out 2 (by decide) true (by decide)).mono ?_; rintro e w11 ⟨rfl, rfl⟩)
    | (go_at_call 18; with_reducible refine (MineV.has H9.out 3 (by decide) false (by decide)).mono ?_; rintro e w11 ⟨rfl, rfl⟩))
  go_ret
  obtain ⟨F, B, _, hb, _⟩ := H9.out
  exact ⟨rfl, hb⟩
end Go.Proofs.Ytcbjhljecjgdcaa.L
