/- Own text: the reference's lane: Put, Drop, Take; lane.Take: the walks. -/
import Derived.Test.YtcbjhljecjgdcaaM8
import Derived.Laws.OwnMore
set_option linter.unusedVariables false
set_option linter.unusedSimpArgs false
namespace Go.Proofs.Ytcbjhljecjgdcaa.L
open Go Go.RowKit Go.MapKept
open Go.ChangeMaps (setBlock)

/-- What is appended: a slice that holds l. -/
def Src (W : World) (v : Value) (l : List Int) : Prop :=
  (v = .slice none 0 0 ∧ l = []) ∨ ∃ r c, v = .slice (some ⟨r, 0, none⟩) l.length c ∧ ∀ j, j < l.length → W.cell? ⟨r, j, none⟩ = some (.int .u64 (l.getD j 0))
theorem Own64.src {w : World} {base : Nat} {v : Value} {l : List Int} (h : Own64 w base v l) : Src w v l := by
  rcases h.form with h | ⟨r, c, h1, _, _, h2⟩
  · exact .inl h
  · exact .inr ⟨r, c, h1, h2⟩
theorem src_one (W : World) (i : Int) : Src (W.alloc (.cells #[.int .u64 i] 23)) (.slice (some ⟨W.heap.size, 0, none⟩) 1 1) [i] := by
  refine .inr ⟨_, 1, rfl, fun j hj => ?_⟩
  have : j = 0 := by simpa using hj
  subst this
  simp
theorem app_ints {W : World} {base : Nat} {v src : Value} {l l2 : List Int} (hown : Own64 W base v l) (hsrc : Src W src l2) (hb : base ≤ W.heap.size) (hlen : l.length + l2.length ≤ 200000) :
    ∃ v' W', (Builtin.append_ #[28, 28] 28 #[v, src]).run Try.prog W = .ok v' W' ∧ Own64 W' base v' (l ++ l2) ∧ W.grownBy W' v.ownBlock := by
  obtain ⟨i0, hi, hz0, hz1, hz2⟩ := info_parts info23
  rcases hsrc with ⟨rfl, rfl⟩ | ⟨r, c, rfl, hc⟩
  · exact ⟨v, W, run_append_owned_none W base 28 28 23 i0 1 Try.underlying28 hi v _ _ hown, by simpa using hown, World.grownBy.refl _ _⟩
  · have hnews : ∀ j u, (ints l2)[j]? = some u → W.cell? ((⟨r, 0, none⟩ : Addr).add j) = some u := by
      intro j u hu
      have hj : j < l2.length := by have := (List.getElem?_eq_some_iff.1 hu).1; simpa [ints] using this
      have := hc j hj
      rw [Addr.add_lit, Nat.zero_add, this, ← hu]
      simp [ints, hj]
    have hone : ∀ u ∈ ints l2, u.oneCell' = true := by
      intro u hu
      obtain ⟨x, _, rfl⟩ := List.mem_map.1 hu
      rfl
    obtain ⟨v', W', h1, h2, h3, _⟩ := run_append_own_at (P := Try.prog) W base 28 28 23 i0 (.int .u64 0) 1 8 Try.underlying28 hi hz0 hz1 hz2 rfl (by decide) v l.length (ints l) hown ⟨r, 0, none⟩ l2.length c (ints l2) (by simp [ints]) hnews hone (by simp only [maxLen]; omega) (by omega) hb
    refine ⟨v', W', h1, ?_, h3⟩
    unfold Own64
    rw [List.length_append]
    simpa [ints] using h2
theorem empty_own (w : World) : Own64 (w.alloc (.cells #[] 23)) w.heap.size (.slice (some ⟨w.heap.size, 0, none⟩) 0 0) [] :=
  World.ownsRow_lit w #[] 0 (Nat.le_refl _) (by decide) (by simp)
theorem Own64.kept {w w' : World} {base : Nat} {v : Value} {l : List Int} (h : Own64 w base v l) {row : Option Nat} (hg : w.grownBy w' row) (hne : v.ownBlock = none ∨ v.ownBlock ≠ row) : Own64 w' base v l := World.ownsRow.kept h hg hne
theorem Only.grown {S : Nat → Prop} {a w w' : World} (h : Only S a w) {row : Option Nat} (hg : w.grownBy w' row) (hS : ∀ k, row = some k → k < a.heap.size → S k) : Only S a w' :=
  ⟨hg.os.trans h.os, hg.tape.trans h.tape, hg.output.trans h.output, Nat.le_trans h.size hg.size, fun k hk hn => (hg.block k (Nat.lt_of_lt_of_le hk h.size) (fun e => hn (hS k e.symm hk))).trans (h.block k hk hn)⟩
theorem wpList_append_run {P : Program} {ops : Array Oper} {rest : List Oper} {o : Oper} {a : Act} {Q : Exit → Act → World → Prop} {w w' : World} {v' v u : Value} (hgd : o.guard = none) (s x : Operand) (t : TypeId)
    (ho : o.op = .call { callee := .builtin .append, args := #[s, x], argTypes := #[t, t] }) (hr : (Builtin.append_ #[t, t] o.type #[v, u]).run P w = .ok v' w') (hs : a.eval s = v) (hx : a.eval x = u)
    (h : wpList P ops Q rest (a.put o.dst v') w') : wpList P ops Q (o :: rest) a w := by
  refine wpList_plain hgd fun K hK => ?_
  unfold Oper.wp execOp
  simp only [ho, resolve, invoke, builtin, Sem.run_bind, Sem.run_pure, Result.andThen_ok, List.map_toArray, List.map_cons, List.map_nil, hs, hx, hr]
  exact hK _ _ h
theorem rput_old (w : World) (base g : Nat) (v : Value) (l : List Int) (i : Int) (h : Ref w base g v l) (hl : l.length ≤ 100000) (hin : i ∈ l) :
    Calls Try.prog 9 #[.pointer (some ⟨g, 0, none⟩), .int .u64 i] w fun e w' => e = .returned (.bool false) ∧ w' = w := by
  have HC := rhas_calls w base g v l i h hl
  rw [decide_eq_true hin] at HC
  clear h hin
  go_enter Try.func9, Try.ntmps9
  go_wp2_with (go_at_call 19; refine HC.mono ?_; rintro e w' ⟨rfl, rfl⟩)
  go_ret
  exact ⟨rfl, rfl⟩
set_option maxHeartbeats 2000000 in
theorem rput_new (w : World) (base g : Nat) (v : Value) (l : List Int) (i : Int) (h : Ref w base g v l) (hl : l.length ≤ 100000) (hin : i ∉ l) :
    Calls Try.prog 9 #[.pointer (some ⟨g, 0, none⟩), .int .u64 i] w fun e w' => ∃ v', e = .returned (.bool true) ∧ Boxed w' g 30 v' ∧ Own64 w' w.heap.size v' (l ++ [i]) ∧ Only (fun k => k = g) w w' := by
  have HC := rhas_calls w base g v l i h hl
  rw [decide_eq_false hin] at HC
  have hgl := h.box.lt
  obtain ⟨W1, hW1⟩ : ∃ W1, w.alloc (.cells #[] 23) = W1 := ⟨_, rfl⟩
  have e1 : Own64 W1 w.heap.size (.slice (some ⟨w.heap.size, 0, none⟩) 0 0) [] := by rw [← hW1]; exact empty_own w
  have s1 : Src W1 v l := by
    refine Own64.src (base := base) (h.own.frame fun k hk => ?_)
    rw [← hW1]
    exact Below.heap_alloc _ _ _ (h.own.lt k hk).2
  have g1 : Boxed W1 g 30 v := by rw [← hW1]; exact h.box.alloc _
  have o1 : Only (fun k => k = g) w W1 := by rw [← hW1]; exact (Only.refl _ w).alloc _
  have z1 : w.heap.size ≤ W1.heap.size := o1.size
  obtain ⟨v2, W2, hr2, e2, gr2⟩ := app_ints e1 s1 z1 (by simp; omega)
  rw [List.nil_append] at e2
  have g2 : Boxed W2 g 30 v := g1.kept gr2 (by simp [Value.ownBlock]; omega)
  have o2 : Only (fun k => k = g) w W2 := o1.grown gr2 (fun k e hk => by simp [Value.ownBlock] at e; omega)
  have z2 : w.heap.size ≤ W2.heap.size := o2.size
  obtain ⟨W3, hW3⟩ : ∃ W3, W2.alloc (.cells #[.int .u64 i] 23) = W3 := ⟨_, rfl⟩
  have e3 : Own64 W3 w.heap.size v2 l := by rw [← hW3]; exact World.ownsRow.alloc e2 _
  have s3 : Src W3 (.slice (some ⟨W2.heap.size, 0, none⟩) 1 1) [i] := by rw [← hW3]; exact src_one W2 i
  have g3 : Boxed W3 g 30 v := by rw [← hW3]; exact g2.alloc _
  have o3 : Only (fun k => k = g) w W3 := by rw [← hW3]; exact o2.alloc _
  obtain ⟨v4, W4, hr4, e4, gr4⟩ := app_ints e3 s3 o3.size (by simp; omega)
  have hv2 : ∀ k, v2.ownBlock = some k → w.heap.size ≤ k := fun k hk => (e2.lt k hk).1
  have g4 : Boxed W4 g 30 v := g3.kept gr4 (fun e => by have := hv2 g e.symm; omega)
  have o4 : Only (fun k => k = g) w W4 := o3.grown gr4 (fun k e hk => by have := hv2 k e; omega)
  have hform : ∃ g' c', v4 = .slice (some ⟨g', 0, none⟩) (l.length + 1) c' := by
    unfold Own64 at e4
    rw [List.length_append] at e4
    exact ownsRow_succ e4
  obtain ⟨g', c', rfl⟩ := hform
  have hc4 := g4.cell
  have hf4 := g4.frozen
  have HF : Hid (Boxed (W4.setCell ⟨g, 0, none⟩ (.slice (some ⟨g', 0, none⟩) (l.length + 1) c')) g 30 (.slice (some ⟨g', 0, none⟩) (l.length + 1) c') ∧ Own64 (W4.setCell ⟨g, 0, none⟩ (.slice (some ⟨g', 0, none⟩) (l.length + 1) c')) w.heap.size (.slice (some ⟨g', 0, none⟩) (l.length + 1) c') (l ++ [i]) ∧ Only (fun k => k = g) w (W4.setCell ⟨g, 0, none⟩ (.slice (some ⟨g', 0, none⟩) (l.length + 1) c'))) := by
    refine ⟨g4.set _, e4.frame (fun k hk => Below.heap_setCell _ _ _ _ (fun e => ?_)), o4.setCell (fun _ => rfl) _⟩
    have := (e4.lt k hk).1
    have : k = g := e
    omega
  have hc1 := g1.cell
  obtain ⟨s, hs⟩ : ∃ s, w.heap.size = s := ⟨_, rfl⟩
  rw [hs] at hr2 HF ⊢
  have HS := Lib.hid hs
  have HW1 := Lib.hid hW1
  have HW3 := Lib.hid hW3
  clear h hin hgl e1 s1 g1 o1 z1 e2 gr2 g2 o2 z2 e3 s3 g3 o3 e4 gr4 hv2 g4 o4 hs hW1 hW3
  go_enter Try.func9, Try.ntmps9
  go_wp2_with (first | (go_at_call 19; refine HC.mono ?_; rintro e w' ⟨rfl, rfl⟩) | rw [HW1.out] | rw [HS.out] | rw [HW3.out] | (at_builtin; refine wpList_append_run rfl _ _ 28 rfl hr2 rfl rfl ?_; clear hr2) | (at_builtin; refine wpList_append_run rfl _ _ 28 rfl hr4 rfl rfl ?_; clear hr4))
  go_ret
  exact ⟨_, rfl, HF.out⟩
end Go.Proofs.Ytcbjhljecjgdcaa.L
