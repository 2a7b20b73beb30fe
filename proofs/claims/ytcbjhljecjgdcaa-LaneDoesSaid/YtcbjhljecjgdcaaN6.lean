/- Own text: tumbrellaw08.LaneDoes: the walk. -/
import Derived.Test.YtcbjhljecjgdcaaN5
import Derived.Deep.RegionWith
import Derived.Deep.CutBlock
import Derived.Deep.DeepCutAuto
set_option linter.unusedVariables false
set_option linter.unusedSimpArgs false
namespace Go.Proofs.Ytcbjhljecjgdcaa.L
open Go Go.RowKit Go.MapKept
open Go.ChangeMaps (setBlock)

/-- A lane and a reference's lane of one's own, apart. -/
def LR (w W : World) (a g : Nat) (ia ib : List Int) : Prop :=
  ∃ F G, LaneI W w.heap.size a F ia ∧ RefI W w.heap.size g G ib ∧ (∀ k, F k → ¬ G k) ∧ Below w.heap.size w W
/-- .. and an act's box beside them. -/
def LRX (w W : World) (a g : Nat) (ia ib : List Int) (X : Nat) (d i : Int) : Prop :=
  ∃ F G, LaneI W w.heap.size a F ia ∧ RefI W w.heap.size g G ib ∧ (∀ k, F k → ¬ G k) ∧ Below w.heap.size w W ∧ W.heap[X]? = some (.cells #[.int .i64 d, .int .u64 i] 32) ∧ ¬ F X ∧ ¬ G X
section
variable {w W : World} {a g : Nat} {ia ib : List Int} {X : Nat} {d i : Int}
theorem LRX.lr (h : LRX w W a g ia ib X d i) : LR w W a g ia ib := by
  obtain ⟨F, G, h1, h2, h3, h4, _⟩ := h
  exact ⟨F, G, h1, h2, h3, h4⟩
theorem LRX.cell0 (h : LRX w W a g ia ib X d i) : W.cell? ⟨X, 0, none⟩ = some (.int .i64 d) := by
  obtain ⟨F, G, _, _, _, _, h, _⟩ := h
  simp [World.cell?, h]
theorem LRX.cell1 (h : LRX w W a g ia ib X d i) : W.cell? ⟨X, 1, none⟩ = some (.int .u64 i) := by
  obtain ⟨F, G, _, _, _, _, h, _⟩ := h
  simp [World.cell?, h]
theorem LR.box (h : LR w W a g ia ib) (d i : Int) : LRX w (W.alloc (.cells #[.int .i64 d, .int .u64 i] 32)) a g ia ib W.heap.size d i := by
  obtain ⟨F, G, h1, h2, h3, h4⟩ := h
  exact ⟨F, G, h1.below (below_alloc1 W _), h2.below (below_alloc1 W _), h3, h4.alloc h4.size _, (heap_alloc W _).1, fun e => by have := (h1.lt e).2; omega, fun e => by have := (h2.lt e).2; omega⟩
theorem LR.grows {W' : World} (h : LR w W a g ia ib) (hb : Below W.heap.size W W') : LR w W' a g ia ib := by
  obtain ⟨F, G, h1, h2, h3, h4⟩ := h
  exact ⟨F, G, h1.below hb, h2.below hb, h3, h4.trans (hb.mono h4.size)⟩
theorem LRX.drew (h : LRX w W a g ia ib X d i) : LRX w W.drew a g ia ib X d i := by
  obtain ⟨F, G, h1, h2, h3, h4, h5, h6, h7⟩ := h
  have hb : Below W.heap.size W W.drew := (Below.refl _ W).drew
  exact ⟨F, G, h1.below hb, h2.below hb, h3, h4.drew, h5, h6, h7⟩
/-- A step of the lane. -/
theorem LRX.stepL {ia' : List Int} {f : FuncId} {args : Array Value} {t : Value} (h : LRX w W a g ia ib X d i)
    (hc : ∀ F, LaneI W w.heap.size a F ia → Calls Try.prog f args W fun e W' => ∃ F', e = .returned t ∧ LaneI W' w.heap.size a F' ia' ∧ (∀ k, F' k → F k ∨ W.heap.size ≤ k) ∧ Only F W W') :
    Calls Try.prog f args W fun e W' => e = .returned t ∧ Hid (LRX w W' a g ia' ib X d i) := by
  obtain ⟨F, G, h1, h2, h3, h4, h5, h6, h7⟩ := h
  refine (hc F h1).mono ?_
  rintro e W' ⟨F', rfl, k1, k2, k3⟩
  have hX := lt_of_some h5
  exact ⟨rfl, F', G, k1, h2.only k3 (fun k hg hf => h3 k hf hg), fun k hf hg => (k2 k hf).elim (fun hf => h3 k hf hg) (fun e => by have := (h2.lt hg).2; omega), h4.trans (k3.below h4.size fun k hk hF => by have := (h1.lt hF).1; omega), (k3.block X hX h6).trans h5, fun e => (k2 X e).elim h6 (fun e => by omega), h7⟩
/-- A step of the reference's. -/
theorem LRX.stepR {ib' : List Int} {f : FuncId} {args : Array Value} {t : Value} (h : LRX w W a g ia ib X d i)
    (hc : ∀ G, RefI W w.heap.size g G ib → w.heap.size ≤ W.heap.size → Calls Try.prog f args W fun e W' => ∃ G', e = .returned t ∧ RefI W' w.heap.size g G' ib' ∧ (∀ k, G' k → G k ∨ W.heap.size ≤ k) ∧ Only G W W') :
    Calls Try.prog f args W fun e W' => e = .returned t ∧ Hid (LRX w W' a g ia ib' X d i) := by
  obtain ⟨F, G, h1, h2, h3, h4, h5, h6, h7⟩ := h
  refine (hc G h2 h4.size).mono ?_
  rintro e W' ⟨G', rfl, k1, k2, k3⟩
  have hX := lt_of_some h5
  exact ⟨rfl, F, G', h1.only k3 h3, k1, fun k hf hg => (k2 k hg).elim (fun hg => h3 k hf hg) (fun e => by have := (h1.lt hf).2; omega), h4.trans (k3.below h4.size fun k hk hG => by have := (h2.lt hG).1; omega), (k3.block X hX h7).trans h5, h6, fun e => (k2 X e).elim h7 (fun e => by omega)⟩
theorem LRX.putL (h : LRX w W a g ia ib X d i) (x : Int) (hx : (Lit.int .u64 x).wf = true) :
    Calls Try.prog 8 #[.pointer (some ⟨a, 0, none⟩), .int .u64 x] W fun e W' => e = .returned (.bool (!decide (x ∈ ia))) ∧ Hid (LRX w W' a g (putIds x ia) ib X d i) := by
  have hs : w.heap.size ≤ W.heap.size := by obtain ⟨F, G, _, _, _, h4, _⟩ := h; exact h4.size
  exact h.stepL fun F h1 => (putI W _ a F ia x hx h1 hs)
theorem LRX.putR (h : LRX w W a g ia ib X d i) (x : Int) (hl : ib.length ≤ 100000) :
    Calls Try.prog 9 #[.pointer (some ⟨g, 0, none⟩), .int .u64 x] W fun e W' => e = .returned (.bool (!decide (x ∈ ib))) ∧ Hid (LRX w W' a g ia (putIds x ib) X d i) :=
  h.stepR fun G h1 hs => rputI W _ g G ib x h1 hl hs
theorem LRX.dropL (h : LRX w W a g ia ib X d i) (x : Int) (hx : (Lit.int .u64 x).wf = true) :
    Calls Try.prog 12 #[.pointer (some ⟨a, 0, none⟩), .int .u64 x] W fun e W' => e = .returned (.bool (decide (x ∈ ia))) ∧ Hid (LRX w W' a g (keep x ia) ib X d i) :=
  h.stepL fun F h1 => (dropI W _ a F ia x hx h1).mono fun e W' ⟨F', k0, k1, k2, k3⟩ => ⟨F', k0, k1, fun k hk => .inl (k2 k hk), k3⟩
theorem LRX.dropR (h : LRX w W a g ia ib X d i) (x : Int) (hl : ib.length ≤ 100000) :
    Calls Try.prog 13 #[.pointer (some ⟨g, 0, none⟩), .int .u64 x] W fun e W' => e = .returned (.bool (decide (x ∈ ib))) ∧ Hid (LRX w W' a g ia (keep x ib) X d i) :=
  h.stepR fun G h1 hs => rdropI W _ g G ib x h1 hl hs
theorem LRX.takeL (h : LRX w W a g ia ib X d i) :
    Calls Try.prog 10 #[.pointer (some ⟨a, 0, none⟩)] W fun e W' => e = .returned (.tuple #[.int .u64 (ia.headD 0), .bool (!ia.isEmpty)]) ∧ Hid (LRX w W' a g ia.tail ib X d i) :=
  h.stepL fun F h1 => (takeI W _ a F ia h1).mono fun e W' ⟨F', k0, k1, k2, k3⟩ => ⟨F', k0, k1, fun k hk => .inl (k2 k hk), k3⟩
theorem LRX.takeR (h : LRX w W a g ia ib X d i) (hu : ib.Nodup) (hl : ib.length ≤ 100000) :
    Calls Try.prog 11 #[.pointer (some ⟨g, 0, none⟩)] W fun e W' => e = .returned (.tuple #[.int .u64 (ib.headD 0), .bool (!ib.isEmpty)]) ∧ Hid (LRX w W' a g ia ib.tail X d i) :=
  h.stepR fun G h1 hs => rtakeI W _ g G ib h1 hu hl hs
theorem LR.nodup (h : LR w W a g ia ib) : ia.Nodup := by
  obtain ⟨F, G, h1, _⟩ := h
  exact h1.nodup
theorem LR.firstL (h : LR w W a g ia ib) :
    Calls Try.prog 14 #[.pointer (some ⟨a, 0, none⟩)] W fun e W' => e = .returned (.tuple #[.int .u64 (ia.headD 0), .bool (!ia.isEmpty)]) ∧ Hid (LR w W' a g ia ib) := by
  have h0 := h
  obtain ⟨F, G, h1, _⟩ := h
  exact (firstI W _ a F ia h1).mono fun e W' hh => ⟨hh.1, h0.grows hh.2⟩
theorem LR.firstR (h : LR w W a g ia ib) :
    Calls Try.prog 15 #[.pointer (some ⟨g, 0, none⟩)] W fun e W' => e = .returned (.tuple #[.int .u64 (ib.headD 0), .bool (!ib.isEmpty)]) ∧ W' = W := by
  obtain ⟨F, G, _, h2, _⟩ := h
  exact rfirstI W _ g G ib h2
theorem LR.hasL (h : LR w W a g ia ib) (x : Int) (hx : (Lit.int .u64 x).wf = true) :
    Calls Try.prog 18 #[.pointer (some ⟨a, 0, none⟩), .int .u64 x] W fun e W' => e = .returned (.bool (decide (x ∈ ia))) ∧ W' = W := by
  obtain ⟨F, G, h1, _⟩ := h
  exact hasI W _ a F ia x hx h1
theorem LR.hasR (h : LR w W a g ia ib) (x : Int) (hl : ib.length ≤ 100000) :
    Calls Try.prog 19 #[.pointer (some ⟨g, 0, none⟩), .int .u64 x] W fun e W' => e = .returned (.bool (decide (x ∈ ib))) ∧ W' = W := by
  obtain ⟨F, G, _, h2, _⟩ := h
  exact rhasI W _ g G ib x h2 hl
theorem LR.lenL (h : LR w W a g ia ib) :
    Calls Try.prog 20 #[.pointer (some ⟨a, 0, none⟩)] W fun e W' => e = .returned (.int .i64 ia.length) ∧ W' = W := by
  obtain ⟨F, G, h1, _⟩ := h
  exact lenI W _ a F ia h1
end
/-- What a lane holds behind the acts (LaneDoes'). -/
def actL (ids : List Int) (x : Int × Int) : List Int := if x.1 = 0 then putIds x.2 ids else if x.1 = 1 then ids.tail else if x.1 = 2 then keep x.2 ids else ids
def afterL (l : List (Int × Int)) : List Int := l.foldl actL []
theorem afterL_snoc {l : List (Int × Int)} {j : Nat} (h : j < l.length) : afterL (l.take (j + 1)) = actL (afterL (l.take j)) (l.getD j (0, 0)) := by
  rw [List.take_succ_eq_append_getElem h]
  have e2 : l.getD j (0, 0) = l[j] := by rw [List.getD_eq_getElem?_getD, List.getElem?_eq_getElem h]; rfl
  rw [e2]
  unfold afterL
  rw [List.foldl_append]
  rfl
theorem afterL_len (l : List (Int × Int)) : (afterL l).length ≤ l.length := by
  have : ∀ (l : List (Int × Int)) (ids : List Int), (l.foldl actL ids).length ≤ ids.length + l.length := by
    intro l
    induction l with
    | nil => intro ids; simp
    | cons x l ih =>
      intro ids
      have h1 := ih (actL ids x)
      have h2 : (actL ids x).length ≤ ids.length + 1 := by
        unfold actL
        split
        · exact put_len _ _
        · split
          · simp; omega
          · split
            · have := keep_len x.2 ids; omega
            · omega
      simp only [List.foldl_cons, List.length_cons]
      omega
  have h := this l []
  unfold afterL
  simpa using h
set_option maxHeartbeats 4000000 in
theorem laneDoes_many (w : World) (A : Option Addr) (c : Nat) (l : List (Int × Int)) (id : Int) (hl : l.length ≤ maxLen) (h : 200 < l.length) :
    Calls Try.prog 3 #[.slice A l.length c, .int .u64 id] w fun e w' => e = .returned (.bool true) ∧ Below w.heap.size w w' := by
  have hd : decide ((200 : Int) < l.length) = true := decide_eq_true (by omega)
  clear h
  generalize l.length = n at *
  go_enter Try.func3, Try.ntmps3
  go_wp2_with (go_at_call 6; refine (awake_calls _).mono ?_; rintro e w1 ⟨rfl, hb⟩; have HB := Lib.hid hb; clear hb)
  go_ret
  exact ⟨rfl, HB.out⟩
theorem ref_box (w : World) : RefI (w.alloc (.cells #[.slice none 0 0] 30)) w.heap.size w.heap.size (rfoot w.heap.size (.slice none 0 0)) [] :=
  ⟨.slice none 0 0, ⟨Boxed.new w 30 _, World.ownsRow_nil _ _ _ _, Nat.le_refl _⟩, fun _ => Iff.rfl⟩
/-- .. the reference's slice named. -/
def LRV (w W : World) (a g : Nat) (ids : List Int) (v : Value) : Prop :=
  ∃ F, LaneI W w.heap.size a F ids ∧ Ref W w.heap.size g v ids ∧ (∀ k, F k → ¬ rfoot g v k) ∧ Below w.heap.size w W
section
variable {w W : World} {a g : Nat} {ids : List Int} {v v1 : Value}
theorem LR.named (h : LR w W a g ids ids) : ∃ A c, LRV w W a g ids (.slice A ids.length c) := by
  obtain ⟨F, G, h1, ⟨v, h2, h3⟩, h4, h5⟩ := h
  obtain ⟨A, c, rfl⟩ := h2.own.sl
  exact ⟨A, c, F, h1, h2, fun k hf hk => h4 k hf ((h3 k).2 hk), h5⟩
theorem LRV.lr (h : LRV w W a g ids v) : LR w W a g ids ids := by
  obtain ⟨F, h1, h2, h3, h4⟩ := h
  exact ⟨F, _, h1, ⟨v, h2, fun _ => Iff.rfl⟩, h3, h4⟩
theorem LRV.grows {W' : World} (h : LRV w W a g ids v) (hb : Below W.heap.size W W') : LRV w W' a g ids v := by
  obtain ⟨F, h1, h2, h3, h4⟩ := h
  exact ⟨F, h1.below hb, h2.frame (fun k hk => hb.block k (h2.lt hk).2), h3, h4.trans (hb.mono h4.size)⟩
theorem LRV.drew (h : LRV w W a g ids v) : LRV w W.drew a g ids v := h.grows (Below.refl _ W).drew
theorem LRV.cell (h : LRV w W a g ids v) : W.cell? ⟨g, 0, none⟩ = some v := by
  obtain ⟨F, _, h2, _⟩ := h
  exact h2.box.cell
theorem LRV.all (h : LRV w W a g ids v) (hl : ids.length ≤ 100000) :
    Calls Try.prog 17 #[.pointer (some ⟨a, 0, none⟩)] W fun e W' => ∃ v1, e = .returned v1 ∧ Hid (LRV w W' a g ids v ∧ ∃ B, Own64 W' B v1 ids) := by
  have h0 := h
  obtain ⟨F, h1, _⟩ := h
  refine (allI W _ a F ids h1 hl).mono ?_
  rintro e W' ⟨v1, rfl, k1, k2⟩
  exact ⟨v1, rfl, h0.grows k2, _, k1⟩
theorem LRV.same (h : LRV w W a g ids v ∧ ∃ B, Own64 W B v1 ids) (hl : ids.length ≤ 100000) :
    Calls Try.prog 16 #[v1, v] W fun e W' => e = .returned (.bool true) ∧ Hid (LRV w W' a g ids v) := by
  obtain ⟨h, B, hv⟩ := h
  have h0 := h
  obtain ⟨F, _, h2, _⟩ := h
  have := same_calls W B _ v1 v ids ids hv h2.own hl hl
  rw [decide_eq_true rfl] at this
  refine this.mono ?_
  rintro e W' ⟨rfl, n, rfl⟩
  exact ⟨rfl, h0.grows ⟨rfl, rfl, rfl, Nat.le_refl _, fun _ _ => rfl⟩⟩
end
end Go.Proofs.Ytcbjhljecjgdcaa.L
