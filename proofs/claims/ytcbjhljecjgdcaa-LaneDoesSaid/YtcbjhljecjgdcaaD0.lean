/- Own text: A REGION THAT DRAWS ITS ORDER, each operation shown ONCE: what each leaves behind is told by its own word 'Pst', which all growth keeps; whatever order is drawn, all have left theirs. -/
import Derived.Test.YtcbjhljecjgdcaaWNEv
import Derived.Test.YtcbjhljecjgdcaaWMore
import Derived.Test.YtcbjhljecjgdcaaWTab
set_option linter.unusedVariables false
set_option linter.unusedSimpArgs false
namespace Go.Proofs.Ytcbjhljecjgdcaa.D
open Go Go.RowKit Go.Proofs.YtcbjhljecjgdcaaW.PrintWords Go.Proofs.YtcbjhljecjgdcaaW.PrintLast
theorem cnt_set : ∀ (l : List Bool) (i : Nat), l[i]? = some false → (l.set i true).count false + 1 = l.count false
  | [], i, h => by simp at h
  | b :: l, 0, h => by
    simp at h
    subst h
    simp
  | b :: l, i + 1, h => by
    have := cnt_set l i (by simpa using h)
    rw [List.set_cons_succ, List.count_cons, List.count_cons]
    omega
section
variable {P : Program} {ops : Array Oper} {Q : Exit → Act → World → Prop} {md : Region.Mode}
theorem all_listed {l : Array Bool} (hs : l.size = ops.size) (h : l.toList.count false = 0) : Region.ready md ops l = [] := by
  rw [List.eq_nil_iff_forall_not_mem]
  intro i hi
  obtain ⟨h1, _⟩ := mem_ready.1 hi
  rw [List.count_eq_zero] at h
  rcases Nat.lt_or_ge i l.size with h' | h'
  · simp [Array.getD, h'] at h1
    exact h (by rw [← h1]; simp)
  · simp [Array.getElem?_eq_none h'] at h1
theorem wpAny_inv (I : Array Bool → Act → World → Prop)
    (hstep : ∀ l a w, l.size = ops.size → I l a w → ∀ i ∈ Region.ready md ops l, wpOp P ops Q i (I (l.setIfInBounds i true)) a w)
    (hend : ∀ l a w, l.size = ops.size → I l a w → Region.ready md ops l = [] → Q .normal a w) :
    ∀ (fuel : Nat) (l : Array Bool) (a : Act) (w : World), l.size = ops.size → l.toList.count false ≤ fuel → I l a w → wpAny P md ops Q fuel l a w
  | 0, l, a, w, hs, hc, hI => ⟨all_listed hs (by omega), hend l a w hs hI (all_listed hs (by omega))⟩
  | fuel + 1, l, a, w, hs, hc, hI => ⟨fun h => hend l a w hs hI h, fun i hi => wpOp_mono (fun a' w' h' => wpAny_inv I hstep hend fuel _ a' w' (by simpa using hs) (by
      obtain ⟨h1, o, ho, _⟩ := mem_ready.1 hi
      have hil : i < ops.size := (Array.getElem?_eq_some_iff.1 ho).1
      have hl : i < l.size := by omega
      have h2 : l.toList[i]? = some false := by
        simp [Array.getD, hl] at h1
        simp [hl, h1]
      have := cnt_set l.toList i h2
      rw [Array.toList_setIfInBounds]
      omega) h') (hstep l a w hs hI i hi)⟩
/-- The numbers of a region's operations fall along its edges. -/
def fallsT (T : List (List Nat × List Nat)) : Bool := (List.range T.length).all fun i => match T[i]? with
  | some r => r.1.all (fun j => Nat.blt j i)
  | none => true
theorem none_ready {T : Bool × List (List Nat × List Nat)} {l : Array Bool} (hT : rtab md ops = T) (hf : fallsT T.2 = true) (hs : l.size = ops.size) (hr : Region.ready md ops l = []) : ∀ i, i < ops.size → l.getD i false = true := by
  subst hT
  intro i
  induction i using Nat.strongRecOn with
  | ind i ih =>
    intro hi
    by_cases h : l.getD i false = true
    · exact h
    exfalso
    have hm : i ∈ Region.ready md ops l := by
      rw [mem_ready]
      refine ⟨?_, ops[i], by simp [hi], ?_⟩
      · have hl : i < l.size := by omega
        simp [Array.getD, hl] at h ⊢
        exact h
      · intro e he hb
        have ho : ops[i]? = some ops[i] := by simp [hi]
        have h3 := rtab_some (md := md) ho
        have h4 := List.all_eq_true.1 hf i (List.mem_range.2 (List.getElem?_eq_some_iff.1 h3).1)
        rw [h3] at h4
        have h5 : e.on ∈ needsOf md ops[i] := by
          unfold needsOf
          rw [List.mem_map]
          exact ⟨e, List.mem_filter.2 ⟨by simpa using he, hb⟩, rfl⟩
        have h6 := List.all_eq_true.1 h4 _ h5
        rw [Nat.blt_eq] at h6
        exact ih _ h6 (by omega)
    rw [hr] at hm
    cases hm
/-- What holds on the way. -/
structure Way (md : Region.Mode) (ops : Array Oper) (dst : Nat → Nat) (n : Nat) (a0 : Act) (w0 : World) (Pst : Nat → Value → World → Prop) (l : Array Bool) (a : Act) (w : World) : Prop where
  defs : a.defers = a0.defers
  size : a.tmps.size = n
  keep : ∀ t, (∀ i, i < ops.size → dst i ≠ t) → a.tmps[t]? = a0.tmps[t]?
  below : Below w0.heap.size w0 w
  post : ∀ i, l.getD i false = true → ∃ v, a.tmps[dst i]? = some v ∧ Pst i v w
/-- What one operation has to show. -/
def Loc (P : Program) (md : Region.Mode) (ops : Array Oper) (Q : Exit → Act → World → Prop) (dst : Nat → Nat) (a0 : Act) (w0 : World) (Pst : Nat → Value → World → Prop) (i : Nat) : Prop :=
  ∀ (o : Oper) (a : Act) (w : World), ops[i]? = some o → Below w0.heap.size w0 w → (∀ t, (∀ i, i < ops.size → dst i ≠ t) → a.tmps[t]? = a0.tmps[t]?) → (∀ j, j ∈ needsOf md o → ∃ v, a.tmps[dst j]? = some v ∧ Pst j v w) →
    Region.wanted o (yielded ops a.tmps) = true ∧ Oper.wp P o a w (fun a' w' => ∃ v, a' = a.put (some (dst i)) v ∧ Below w.heap.size w w' ∧ Pst i v w') Q
theorem draw {T : Bool × List (List Nat × List Nat)} (dst : Nat → Nat) (n : Nat) {id : Nat} (hm : P.follows .mixedOrders = true) (hT : rtab .any ops = T) (hf : fallsT T.2 = true) (a0 : Act) (w0 : World)
    (hn : a0.tmps.size = n) (hlt : ∀ i, i < ops.size → dst i < n) (hinj : ∀ i j, i < ops.size → j < ops.size → dst i = dst j → i = j) (Pst : Nat → Value → World → Prop)
    (hst : ∀ j v w w', Below w.heap.size w w' → Pst j v w → Pst j v w')
    (hloc : ∀ i, i < ops.size → Loc P .any ops Q dst a0 w0.drew Pst i)
    (hQ : ∀ a w, a.defers = a0.defers → a.tmps.size = n → (∀ t, (∀ i, i < ops.size → dst i ≠ t) → a.tmps[t]? = a0.tmps[t]?) → Below w0.drew.heap.size w0.drew w → (∀ j, j < ops.size → ∃ v, a.tmps[dst j]? = some v ∧ Pst j v w) → Q .normal a w) :
    (Code.region id ops true).wp P Q a0 w0 := by
  refine wp_region_any hm (wpAny_inv (Way .any ops dst n a0 w0.drew Pst) ?_ ?_ _ _ _ _ (by simp) (by simp [Array.toList_replicate, List.count_replicate]) ⟨rfl, hn, fun _ _ => rfl, Below.refl _ _, fun i hi => ?_⟩)
  · intro l a w hs hI i hi
    obtain ⟨h1, o, ho, h2⟩ := mem_ready.1 hi
    have hio : i < ops.size := (Array.getElem?_eq_some_iff.1 ho).1
    obtain ⟨hw, hwp⟩ := hloc i hio o a w ho hI.below hI.keep (fun j hj => by
      unfold needsOf at hj
      obtain ⟨e, he, rfl⟩ := List.mem_map.1 hj
      obtain ⟨he1, he2⟩ := List.mem_filter.1 he
      exact hI.post _ (h2 e (by simpa using he1) he2))
    refine wpOp_mono (K := fun a' w' => ∃ v, a' = a.put (some (dst i)) v ∧ Below w.heap.size w w' ∧ Pst i v w') ?_ ?_
    · rintro a' w' ⟨v, rfl, hb, hp⟩
      refine ⟨hI.defs, by simpa [Act.put] using hI.size, fun t ht => ?_, hI.below.trans ⟨hb.os, hb.tape, hb.output, hb.size, fun k hk => hb.block k (Nat.lt_of_lt_of_le hk hI.below.size)⟩, fun j hj => ?_⟩
      · rw [← hI.keep t ht]
        simp [Act.put, Array.getElem?_setIfInBounds, ht i hio]
      · by_cases hij : i = j
        · subst hij
          refine ⟨v, ?_, hp⟩
          have := hlt i hio
          simp [Act.put, Array.getElem?_setIfInBounds, hI.size, this]
        · rw [getD_set_ne false hij] at hj
          obtain ⟨u, hu, hpu⟩ := hI.post j hj
          have hjl : j < ops.size := by
            rcases Nat.lt_or_ge j l.size with h' | h'
            · omega
            · simp [Array.getElem?_eq_none h'] at hj
          refine ⟨u, ?_, hst _ _ _ _ hb hpu⟩
          rw [← hu]
          have : dst i ≠ dst j := fun e => hij (hinj i j hio hjl e)
          simp [Act.put, Array.getElem?_setIfInBounds, this]
    · unfold wpOp
      simp only [ho, hw, if_true]
      exact .inl hwp
  · intro l a w hs hI hr
    exact hQ a w hI.defs hI.size hI.keep hI.below (fun j hj => hI.post j (none_ready hT hf hs hr j hj))
  · simp [Array.getD] at hi
theorem wanted_none {o : Oper} {y : Nat → Option Bool} (h : o.guard = none) : Region.wanted o y = true := by
  unfold Region.wanted
  rw [h]
theorem wanted_some {o og : Oper} {a : Act} {g d : Nat} {b : Bool} (h : o.guard = some (g, b)) (hg : ops[g]? = some og) (hd : og.dst = some d) (hv : a.tmps[d]? = some (.bool b)) : Region.wanted o (yielded ops a.tmps) = true := by
  unfold Region.wanted yielded
  rw [h]
  simp [hg, hd, hv]
theorem ev {a : Act} {t : Nat} {v : Value} (h : a.tmps[t]? = some v) : a.eval (.tmp t) = v := by
  simp [Act.eval, Array.getD_eq_getD_getElem?, h]
section
variable {o : Oper} {a : Act} {w : World} {K : Act → World → Prop} {d : Nat}
theorem value_ (hd : o.dst = some d) {v : Value} (hrun : (execOp a.eval o).run P w = .ok (.value v) w) (h : K (a.put (some d) v) w) : Oper.wp P o a w K Q := by
  unfold Oper.wp
  rw [hrun, Oper.upon_value, hd]
  exact h
theorem move_ {x : Operand} {v : Value} (hop : o.op = .move x) (hx : a.eval x = v) : (execOp a.eval o).run P w = .ok (.value v) w := by
  subst hx
  unfold execOp
  rw [hop]
  rfl
theorem assign_ {x : Operand} {v : Value} (hop : o.op = .assign x) (hx : a.eval x = v) : (execOp a.eval o).run P w = .ok (.value v) w := by
  subst hx
  unfold execOp
  rw [hop]
  rfl
theorem pick_ {c x y : Operand} {v : Value} (hop : o.op = .pick c x y) (hc : a.eval c = .bool true) (hx : a.eval x = v) : (execOp a.eval o).run P w = .ok (.value v) w := by
  subst hx
  unfold execOp
  rw [hop]
  simp only [hc]
  rfl
end
end
end Go.Proofs.Ytcbjhljecjgdcaa.D
