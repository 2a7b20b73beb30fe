/- Own text: tumbrellaw08.LaneDropped: the walk. -/
import Derived.Test.YtcbjhljecjgdcaaN4
set_option linter.unusedVariables false
set_option linter.unusedSimpArgs false
namespace Go.Proofs.Ytcbjhljecjgdcaa.L
open Go Go.RowKit Go.MapKept
open Go.ChangeMaps (setBlock)

/-- Two lanes of one's own, apart, and an act's box beside them. -/
def TwoX (w W : World) (a b : Nat) (ia ib : List Int) (X : Nat) (d i : Int) : Prop :=
  ∃ F G, LaneI W w.heap.size a F ia ∧ LaneI W w.heap.size b G ib ∧ (∀ k, F k → ¬ G k) ∧ Below w.heap.size w W ∧ W.heap[X]? = some (.cells #[.int .i64 d, .int .u64 i] 32) ∧ ¬ F X ∧ ¬ G X
def Two (w W : World) (a b : Nat) (ia ib : List Int) : Prop :=
  ∃ F G, LaneI W w.heap.size a F ia ∧ LaneI W w.heap.size b G ib ∧ (∀ k, F k → ¬ G k) ∧ Below w.heap.size w W
theorem TwoX.two {w W : World} {a b : Nat} {ia ib : List Int} {X : Nat} {d i : Int} (h : TwoX w W a b ia ib X d i) : Two w W a b ia ib := by
  obtain ⟨F, G, h1, h2, h3, h4, _⟩ := h
  exact ⟨F, G, h1, h2, h3, h4⟩
theorem TwoX.cell0 {w W : World} {a b : Nat} {ia ib : List Int} {X : Nat} {d i : Int} (h : TwoX w W a b ia ib X d i) : W.cell? ⟨X, 0, none⟩ = some (.int .i64 d) := by
  obtain ⟨F, G, _, _, _, _, h, _⟩ := h
  simp [World.cell?, h]
theorem TwoX.cell1 {w W : World} {a b : Nat} {ia ib : List Int} {X : Nat} {d i : Int} (h : TwoX w W a b ia ib X d i) : W.cell? ⟨X, 1, none⟩ = some (.int .u64 i) := by
  obtain ⟨F, G, _, _, _, _, h, _⟩ := h
  simp [World.cell?, h]
theorem Two.box {w W : World} {a b : Nat} {ia ib : List Int} (h : Two w W a b ia ib) (d i : Int) : TwoX w (W.alloc (.cells #[.int .i64 d, .int .u64 i] 32)) a b ia ib W.heap.size d i := by
  obtain ⟨F, G, h1, h2, h3, h4⟩ := h
  exact ⟨F, G, h1.below (below_alloc1 W _), h2.below (below_alloc1 W _), h3, h4.alloc h4.size _, (heap_alloc W _).1, fun e => by have := (h1.lt e).2; omega, fun e => by have := (h2.lt e).2; omega⟩
theorem lt_of_some {W : World} {X : Nat} {o : Obj} (h : W.heap[X]? = some o) : X < W.heap.size := (Array.getElem?_eq_some_iff.1 h).1
theorem TwoX.putA {w W : World} {a b : Nat} {ia ib : List Int} {X : Nat} {d i : Int} (h : TwoX w W a b ia ib X d i) (x : Int) (hx : (Lit.int .u64 x).wf = true) :
    Calls Try.prog 8 #[.pointer (some ⟨a, 0, none⟩), .int .u64 x] W fun e W' => ∃ t, e = .returned (.bool t) ∧ Hid (TwoX w W' a b (putIds x ia) ib X d i) := by
  obtain ⟨F, G, h1, h2, h3, h4, h5, h6, h7⟩ := h
  refine (putI W _ a F ia x hx h1 h4.size).mono ?_
  rintro e W' ⟨F', rfl, k1, k2, k3⟩
  have hX := lt_of_some h5
  exact ⟨_, rfl, F', G, k1, h2.only k3 (fun k hg hf => h3 k hf hg), fun k hf hg => (k2 k hf).elim (fun hf => h3 k hf hg) (fun e => by have := (h2.lt hg).2; omega), h4.trans (k3.below h4.size fun k hk hF => by have := (h1.lt hF).1; omega), (k3.block X hX h6).trans h5, fun e => (k2 X e).elim h6 (fun e => by omega), h7⟩
theorem TwoX.dropA {w W : World} {a b : Nat} {ia ib : List Int} {X : Nat} {d i : Int} (h : TwoX w W a b ia ib X d i) (x : Int) (hx : (Lit.int .u64 x).wf = true) :
    Calls Try.prog 12 #[.pointer (some ⟨a, 0, none⟩), .int .u64 x] W fun e W' => ∃ t, e = .returned (.bool t) ∧ Hid (TwoX w W' a b (keep x ia) ib X d i) := by
  obtain ⟨F, G, h1, h2, h3, h4, h5, h6, h7⟩ := h
  refine (dropI W _ a F ia x hx h1).mono ?_
  rintro e W' ⟨F', rfl, k1, k2, k3⟩
  have hX := lt_of_some h5
  exact ⟨_, rfl, F', G, k1, h2.only k3 (fun k hg hf => h3 k hf hg), fun k hf hg => h3 k (k2 k hf) hg, h4.trans (k3.below h4.size fun k hk hF => by have := (h1.lt hF).1; omega), (k3.block X hX h6).trans h5, fun e => h6 (k2 X e), h7⟩
theorem TwoX.swap {w W : World} {a b : Nat} {ia ib : List Int} {X : Nat} {d i : Int} (h : TwoX w W a b ia ib X d i) : TwoX w W b a ib ia X d i := by
  obtain ⟨F, G, h1, h2, h3, h4, h5, h6, h7⟩ := h
  exact ⟨G, F, h2, h1, fun k hg hf => h3 k hf hg, h4, h5, h7, h6⟩
theorem TwoX.putB {w W : World} {a b : Nat} {ia ib : List Int} {X : Nat} {d i : Int} (h : TwoX w W a b ia ib X d i) (x : Int) (hx : (Lit.int .u64 x).wf = true) :
    Calls Try.prog 8 #[.pointer (some ⟨b, 0, none⟩), .int .u64 x] W fun e W' => ∃ t, e = .returned (.bool t) ∧ Hid (TwoX w W' a b ia (putIds x ib) X d i) :=
  (h.swap.putA x hx).mono fun e W' ⟨t, h1, h2⟩ => ⟨t, h1, TwoX.swap h2.out⟩
theorem TwoX.dropB {w W : World} {a b : Nat} {ia ib : List Int} {X : Nat} {d i : Int} (h : TwoX w W a b ia ib X d i) (x : Int) (hx : (Lit.int .u64 x).wf = true) :
    Calls Try.prog 12 #[.pointer (some ⟨b, 0, none⟩), .int .u64 x] W fun e W' => ∃ t, e = .returned (.bool t) ∧ Hid (TwoX w W' a b ia (keep x ib) X d i) :=
  (h.swap.dropA x hx).mono fun e W' ⟨t, h1, h2⟩ => ⟨t, h1, TwoX.swap h2.out⟩
/-! the plain law -/
theorem mem_keep {x i : Int} {l : List Int} : x ∈ keep i l ↔ x ∈ l ∧ x ≠ i := by
  unfold keep
  rw [List.mem_filter]
  simp
theorem keep_keep (i j : Int) (l : List Int) : keep i (keep j l) = keep j (keep i l) := by
  unfold keep
  rw [List.filter_filter, List.filter_filter]
  congr 1
  funext x
  rw [Bool.and_comm]
theorem keep_idem (i : Int) (l : List Int) : keep i (keep i l) = keep i l := by
  unfold keep
  rw [List.filter_filter]
  congr 1
  funext x
  rw [Bool.and_self]
theorem keep_put_ne {x i : Int} (h : x ≠ i) (l : List Int) : keep i (putIds x l) = putIds x (keep i l) := by
  unfold putIds
  by_cases hx : x ∈ l
  · rw [if_pos hx, if_pos (mem_keep.2 ⟨hx, h⟩)]
  · rw [if_neg hx, if_neg (fun e => hx (mem_keep.1 e).1)]
    unfold keep
    rw [List.filter_append]
    simp [h]
theorem keep_put_eq (i : Int) (l : List Int) : keep i (putIds i l) = keep i l := by
  unfold putIds
  split
  · rfl
  · unfold keep
    rw [List.filter_append]
    simp
/-- What a lane holds behind the acts (LaneDropped's: 1 is passed over). -/
def actD (ids : List Int) (x : Int × Int) : List Int := if x.1 = 1 then ids else if x.1 = 0 then putIds x.2 ids else keep x.2 ids
def afterD (l : List (Int × Int)) : List Int := l.foldl actD []
theorem afterD_snoc {l : List (Int × Int)} {j : Nat} (h : j < l.length) : afterD (l.take (j + 1)) = actD (afterD (l.take j)) (l.getD j (0, 0)) := by
  rw [List.take_succ_eq_append_getElem h]
  have e2 : l.getD j (0, 0) = l[j] := by rw [List.getD_eq_getElem?_getD, List.getElem?_eq_getElem h]; rfl
  rw [e2]
  unfold afterD
  rw [List.foldl_append]
  rfl
/-- A slice of acts that came in, as it is read. -/
def ActsIs (w : World) (A : Option Addr) (l : List (Int × Int)) : Prop :=
  l = [] ∨ ∃ r o, A = some ⟨r, o, none⟩ ∧ r < w.heap.size ∧ ∀ j, j < l.length → w.cell? ⟨r, o + j * 2, none⟩ = some (.int .i64 (l.getD j (0, 0)).1) ∧ w.cell? ⟨r, o + j * 2 + 1, none⟩ = some (.int .u64 (l.getD j (0, 0)).2)
theorem keep_len2 (i : Int) (l : List Int) : (keep i l).length ≤ l.length := keep_len i l
theorem afterD_len (l : List (Int × Int)) : (afterD l).length ≤ l.length := by
  have : ∀ (l : List (Int × Int)) (ids : List Int), (l.foldl actD ids).length ≤ ids.length + l.length := by
    intro l
    induction l with
    | nil => intro ids; simp
    | cons x l ih =>
      intro ids
      have h1 := ih (actD ids x)
      have h2 : (actD ids x).length ≤ ids.length + 1 := by
        unfold actD
        split
        · omega
        · split
          · exact put_len _ _
          · have := keep_len x.2 ids; omega
      simp only [List.foldl_cons, List.length_cons]
      omega
  have h := this l []
  unfold afterD
  simpa using h
theorem Two.hasA {w W : World} {a b : Nat} {ia ib : List Int} (h : Two w W a b ia ib) (x : Int) (hx : (Lit.int .u64 x).wf = true) :
    Calls Try.prog 18 #[.pointer (some ⟨a, 0, none⟩), .int .u64 x] W fun e W' => e = .returned (.bool (decide (x ∈ ia))) ∧ W' = W := by
  obtain ⟨F, G, h1, h2, h3, h4⟩ := h
  exact hasI W _ a F ia x hx h1
theorem Two.hasB {w W : World} {a b : Nat} {ia ic : List Int} {x : Int} (h : Two w W a b ia (keep x ic)) (hx : (Lit.int .u64 x).wf = true) :
    Calls Try.prog 18 #[.pointer (some ⟨b, 0, none⟩), .int .u64 x] W fun e W' => e = .returned (.bool false) ∧ W' = W := by
  obtain ⟨F, G, h1, h2, h3, h4⟩ := h
  have := hasI W _ b G _ x hx h2
  rw [decide_eq_false (fun e => (mem_keep.1 e).2 rfl)] at this
  exact this
theorem Two.dropA {w W : World} {a b : Nat} {ia ib : List Int} (h : Two w W a b ia ib) (x : Int) (hx : (Lit.int .u64 x).wf = true) :
    Calls Try.prog 12 #[.pointer (some ⟨a, 0, none⟩), .int .u64 x] W fun e W' => e = .returned (.bool (decide (x ∈ ia))) ∧ Hid (Two w W' a b (keep x ia) ib) := by
  obtain ⟨F, G, h1, h2, h3, h4⟩ := h
  refine (dropI W _ a F ia x hx h1).mono ?_
  rintro e W' ⟨F', rfl, k1, k2, k3⟩
  exact ⟨rfl, F', G, k1, h2.only k3 (fun k hg hf => h3 k hf hg), fun k hf hg => h3 k (k2 k hf) hg, h4.trans (k3.below h4.size fun k hk hF => by have := (h1.lt hF).1; omega)⟩
theorem Two.grows {w W W' : World} {a b : Nat} {ia ib : List Int} (h : Two w W a b ia ib) (hb : Below W.heap.size W W') : Two w W' a b ia ib := by
  obtain ⟨F, G, h1, h2, h3, h4⟩ := h
  exact ⟨F, G, h1.below hb, h2.below hb, h3, h4.trans (hb.mono h4.size)⟩
theorem Two.allA {w W : World} {a b : Nat} {ia ib : List Int} (h : Two w W a b ia ib) (hl : ia.length ≤ 100000) :
    Calls Try.prog 17 #[.pointer (some ⟨a, 0, none⟩)] W fun e W' => ∃ v, e = .returned v ∧ Hid (Two w W' a b ia ib ∧ ∃ B, Own64 W' B v ia) := by
  have h0 := h
  obtain ⟨F, G, h1, h2, h3, h4⟩ := h
  refine (allI W _ a F ia h1 hl).mono ?_
  rintro e W' ⟨v, rfl, k1, k2⟩
  exact ⟨v, rfl, h0.grows k2, _, k1⟩
theorem Two.allB {w W : World} {a b : Nat} {ia ib : List Int} {v1 : Value} {l1 : List Int} (h : Two w W a b ia ib ∧ ∃ B, Own64 W B v1 l1) (hl : ib.length ≤ 100000) :
    Calls Try.prog 17 #[.pointer (some ⟨b, 0, none⟩)] W fun e W' => ∃ v, e = .returned v ∧ Hid (Two w W' a b ia ib ∧ (∃ B, Own64 W' B v1 l1) ∧ ∃ B, Own64 W' B v ib) := by
  obtain ⟨h0, B, ho⟩ := h
  have h00 := h0
  obtain ⟨F, G, h1, h2, h3, h4⟩ := h0
  refine (allI W _ b G ib h2 hl).mono ?_
  rintro e W' ⟨v, rfl, k1, k2⟩
  exact ⟨v, rfl, h00.grows k2, ⟨B, ho.below k2⟩, _, k1⟩
theorem Two.same {w W : World} {a b : Nat} {ia ib : List Int} {v1 v2 : Value} {l1 : List Int} (h : Two w W a b ia ib ∧ (∃ B, Own64 W B v1 l1) ∧ ∃ B, Own64 W B v2 l1) (hl : l1.length ≤ 100000) :
    Calls Try.prog 16 #[v1, v2] W fun e W' => e = .returned (.bool true) ∧ Hid (Two w W' a b ia ib) := by
  obtain ⟨h0, ⟨B1, h1⟩, B2, h2⟩ := h
  have := same_calls W B1 B2 v1 v2 l1 l1 h1 h2 hl hl
  rw [decide_eq_true rfl] at this
  refine this.mono ?_
  rintro e W' ⟨rfl, n, rfl⟩
  exact ⟨rfl, h0.grows ⟨rfl, rfl, rfl, Nat.le_refl _, fun _ _ => rfl⟩⟩
set_option maxHeartbeats 4000000 in
theorem laneDropped_many (w : World) (A : Option Addr) (c : Nat) (l : List (Int × Int)) (id : Int) (hl : l.length ≤ maxLen) (h : 200 < l.length) :
    Calls Try.prog 5 #[.slice A l.length c, .int .u64 id] w fun e w' => e = .returned (.bool true) ∧ Below w.heap.size w w' := by
  have hd : decide ((200 : Int) < l.length) = true := decide_eq_true (by omega)
  clear h
  generalize l.length = n at *
  go_enter Try.func5, Try.ntmps5
  go_wp2_with (go_at_call 6; refine (awake_calls _).mono ?_; rintro e w1 ⟨rfl, hb⟩; have HB := Lib.hid hb; clear hb)
  go_ret
  exact ⟨rfl, HB.out⟩
set_option maxHeartbeats 4000000 in
theorem laneDropped_few (w : World) (A : Option Addr) (c : Nat) (l : List (Int × Int)) (id : Int) (hid : (Lit.int .u64 id).wf = true) (hA : ActsIs w A l) (hw : ∀ x ∈ l, (Lit.int .u64 x.2).wf = true) (h : l.length ≤ 200) :
    Calls Try.prog 5 #[.slice A l.length c, .int .u64 id] w fun e w' => e = .returned (.bool true) ∧ Below w.heap.size w w' := by
  have hd : decide ((200 : Int) < l.length) = false := decide_eq_false (by omega)
  obtain ⟨n, hn⟩ : ∃ n, l.length = n := ⟨_, rfl⟩
  rw [hn] at hd h ⊢
  have HN := Lib.hid hn
  have HA := Lib.hid hA
  have HWF := Lib.hid hw
  clear hn hA hw
  go_enter Try.func5, Try.ntmps5
  go_wp2_with (first
    | (go_at_call 6; refine (awake_calls _).mono ?_; rintro e w1 ⟨rfl, hb⟩; have HB := Lib.hid hb; clear hb)
    | (go_at_call 7; refine (newI _ w.heap.size HB.out.size).mono ?_; rintro e w2 ⟨a, F, rfl, h1, h1b, h2⟩; have H1 := Lib.hid (And.intro h1 (HB.out.trans (h2.below HB.out.size (fun _ _ h => h)))); clear h1 h1b h2 HB)
    | (go_at_call 7; refine (newI _ w.heap.size H1.out.2.size).mono ?_; rintro e w3 ⟨b, G, rfl, h1, h1b, h2⟩; have H2 : Hid (Two w w3 a b [] []) := ⟨F, G, H1.out.1.only h2 (fun _ _ h => h), h1, fun k hf hg => by have := (H1.out.1.lt hf).2; have := h1b k hg; omega, H1.out.2.trans (h2.below H1.out.2.size (fun _ _ h => h))⟩; clear h1 h1b h2 H1))
  go_loopw [19] (fun k wr => ∃ j : Nat, j ≤ n ∧ k = .int .i64 j ∧ Hid (Two w wr a b (afterD (l.take j)) (keep id (afterD (l.take j))))) (fun k _ => n - (intOf k).toNat)
  case atStart => exact ⟨0, by omega, rfl, H2.out⟩
  case round =>
    obtain ⟨j, hj, rfl, hr⟩ := hrel
    clear H2
    by_cases hlt : j < n
    · have hlj : j < l.length := by rw [HN.out]; exact hlt
      have hxw : (Lit.int .u64 (l.getD j (0, 0)).2).wf = true := HWF.out _ (by rw [List.getD_eq_getElem?_getD, List.getElem?_eq_getElem hlj]; simp)
      have hu := afterD_snoc hlj
      have hcell : ∃ r o, A = some ⟨r, o, none⟩ ∧ wr.cell? ⟨r, o + j * 2, none⟩ = some (.int .i64 (l.getD j (0, 0)).1) ∧ wr.cell? ⟨r, o + j * 2 + 1, none⟩ = some (.int .u64 (l.getD j (0, 0)).2) := by
        rcases HA.out with e | ⟨r, o, e, hrl, hc⟩
        · rw [e] at hlj; simp at hlj
        · obtain ⟨F, _, _, _, _, hb⟩ := hr.out
          exact ⟨r, o, e, (hb.cell (p := ⟨r, o + j * 2, none⟩) hrl).trans (hc j hlj).1, (hb.cell (p := ⟨r, o + j * 2 + 1, none⟩) hrl).trans (hc j hlj).2⟩
      obtain ⟨r, o, rfl, hc0, hc1⟩ := hcell
      clear hlj
      generalize l.getD j (0, 0) = x at *
      obtain ⟨d, i⟩ := x
      simp only at hc0 hc1 hxw
      by_cases hd1 : d = 1
      · have hu2 : afterD (l.take (j + 1)) = afterD (l.take j) := by rw [hu]; unfold actD; rw [if_pos hd1]
        have HU := Lib.hid hu2
        have t1 : (d == 1) = true := beq_iff_eq.2 hd1
        clear hu hu2 hd1
        go_wp2
        go_roundw
        case rel => exact ⟨j + 1, by omega, by go_num, by rw [HU.out]; obtain ⟨F, G, h1, h2, h3, h4⟩ := hr.out; exact ⟨F, G, h1.below (below_alloc1 wr _), h2.below (below_alloc1 wr _), h3, h4.alloc h4.size _⟩⟩
        case measure => simp [intOf]; omega
      · have t1 : (d == 1) = false := beq_eq_false_iff_ne.2 hd1
        have HX := Lib.hid (hr.out.box d i)
        by_cases hd0 : d = 0
        · have t0 : (d == 0) = true := beq_iff_eq.2 hd0
          have hu2 : afterD (l.take (j + 1)) = putIds i (afterD (l.take j)) := by rw [hu]; unfold actD; rw [if_neg hd1, if_pos hd0]
          by_cases hi : i = id
          · have ti : (i != id) = false := by simp only [bne_eq_false_iff_eq]; exact hi
            have hu3 : keep id (afterD (l.take (j + 1))) = keep id (afterD (l.take j)) := by rw [hu2, hi, keep_put_eq]
            rw [hu2] at hu3
            have HU := Lib.hid hu2
            have HU3 := Lib.hid hu3
            clear hu hu2 hu3 hd1 hd0 hi hr
            go_wp2_with (go_at_call 8; with_reducible refine (TwoX.putA HX.out i hxw).mono ?_; rintro e w4 ⟨t, rfl, H4⟩; have k0 := H4.out.cell0; have k1 := H4.out.cell1; clear HX)
            go_roundw
            case rel => exact ⟨j + 1, by omega, by go_num, by rw [HU.out, HU3.out]; exact H4.out.two⟩
            case measure => simp [intOf]; omega
          · have ti : (i != id) = true := bne_iff_ne.2 hi
            have hu3 : keep id (afterD (l.take (j + 1))) = putIds i (keep id (afterD (l.take j))) := by rw [hu2, keep_put_ne hi]
            rw [hu2] at hu3
            have HU := Lib.hid hu2
            have HU3 := Lib.hid hu3
            clear hu hu2 hu3 hd1 hd0 hi hr
            go_wp2_with (first
              | (go_at_call 8; with_reducible refine (TwoX.putA HX.out i hxw).mono ?_; rintro e w4 ⟨t, rfl, H4⟩; have k0 := H4.out.cell0; have k1 := H4.out.cell1; clear HX)
              | (go_at_call 8; with_reducible refine (TwoX.putB H4.out i hxw).mono ?_; rintro e w5 ⟨t2, rfl, H5⟩; clear H4 k0 k1))
            go_roundw
            case rel => exact ⟨j + 1, by omega, by go_num, by rw [HU.out, HU3.out]; exact H5.out.two⟩
            case measure => simp [intOf]; omega
        · have t0 : (d == 0) = false := beq_eq_false_iff_ne.2 hd0
          have hu2 : afterD (l.take (j + 1)) = keep i (afterD (l.take j)) := by rw [hu]; unfold actD; rw [if_neg hd1, if_neg hd0]
          by_cases hi : i = id
          · have ti : (i != id) = false := by simp only [bne_eq_false_iff_eq]; exact hi
            have hu3 : keep id (afterD (l.take (j + 1))) = keep id (afterD (l.take j)) := by rw [hu2, hi, keep_idem]
            rw [hu2] at hu3
            have HU := Lib.hid hu2
            have HU3 := Lib.hid hu3
            clear hu hu2 hu3 hd1 hd0 hi hr
            go_wp2_with (go_at_call 12; with_reducible refine (TwoX.dropA HX.out i hxw).mono ?_; rintro e w4 ⟨t, rfl, H4⟩; have k0 := H4.out.cell0; have k1 := H4.out.cell1; clear HX)
            go_roundw
            case rel => exact ⟨j + 1, by omega, by go_num, by rw [HU.out, HU3.out]; exact H4.out.two⟩
            case measure => simp [intOf]; omega
          · have ti : (i != id) = true := bne_iff_ne.2 hi
            have hu3 : keep id (afterD (l.take (j + 1))) = keep i (keep id (afterD (l.take j))) := by rw [hu2, keep_keep]
            rw [hu2] at hu3
            have HU := Lib.hid hu2
            have HU3 := Lib.hid hu3
            clear hu hu2 hu3 hd1 hd0 hi hr
            go_wp2_with (first
              | (go_at_call 12; with_reducible refine (TwoX.dropA HX.out i hxw).mono ?_; rintro e w4 ⟨t, rfl, H4⟩; have k0 := H4.out.cell0; have k1 := H4.out.cell1; clear HX)
              | (go_at_call 12; with_reducible refine (TwoX.dropB H4.out i hxw).mono ?_; rintro e w5 ⟨t2, rfl, H5⟩; clear H4 k0 k1))
            go_roundw
            case rel => exact ⟨j + 1, by omega, by go_num, by rw [HU.out, HU3.out]; exact H5.out.two⟩
            case measure => simp [intOf]; omega
    · have ht : l.take j = l := List.take_of_length_le (by rw [HN.out]; omega)
      have hr2 := hr.out
      rw [ht] at hr2
      have H2 := Lib.hid hr2
      have HL : (afterD l).length ≤ 100000 := Nat.le_trans (afterD_len l) (by have := HN.out; omega)
      clear hr ht hr2
      generalize afterD l = ids at *
      have HLK : (keep id ids).length ≤ 100000 := Nat.le_trans (keep_len id ids) HL
      go_wp2_with (first
        | (go_at_call 18; with_reducible refine (Two.hasA H2.out id hid).mono ?_; rintro e w3 ⟨rfl, rfl⟩)
        | (go_at_call 12; with_reducible refine (Two.dropA H2.out id hid).mono ?_; rintro e w4 ⟨rfl, H4⟩; clear H2)
        | (go_at_call 17; with_reducible refine (Two.allA H4.out HLK).mono ?_; rintro e w5 ⟨v1, rfl, H5⟩; clear H4)
        | (go_at_call 17; with_reducible refine (Two.allB H5.out HLK).mono ?_; rintro e w6 ⟨v2, rfl, H6⟩; clear H5)
        | (go_at_call 16; with_reducible refine (Two.same H6.out HLK).mono ?_; rintro e w7 ⟨rfl, H7⟩; clear H6)
        | (go_at_call 18; with_reducible refine (Two.hasB H7.out hid).mono ?_; rintro e w8 ⟨rfl, rfl⟩))
      go_ret
      obtain ⟨F, G, _, _, _, hb⟩ := H7.out
      exact ⟨rfl, hb⟩
end Go.Proofs.Ytcbjhljecjgdcaa.L
