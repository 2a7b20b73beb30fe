/- Own text: the lane's and the reference's calls, told by ids alone. -/
import Derived.Test.YtcbjhljecjgdcaaN1
set_option linter.unusedVariables false
set_option linter.unusedSimpArgs false
namespace Go.Proofs.Ytcbjhljecjgdcaa.L
open Go Go.RowKit Go.MapKept
open Go.ChangeMaps (setBlock)

def wfs (ids : List Int) : Prop := ∀ i ∈ ids, (Lit.int .u64 i).wf = true
/-- A lane at block b, of the blocks F, with these ids. -/
def LaneI (w : World) (base b : Nat) (F : Nat → Prop) (ids : List Int) : Prop :=
  ∃ m L, Lane w b m L ∧ L.map Prod.fst = ids ∧ (∀ k, F k ↔ foot b m L k) ∧ ∀ k, F k → base ≤ k
/-- A reference's lane at block g, of the blocks G. -/
def RefI (w : World) (base g : Nat) (G : Nat → Prop) (l : List Int) : Prop :=
  ∃ v, Ref w base g v l ∧ ∀ k, G k ↔ rfoot g v k
theorem LaneI.lt {w : World} {base b : Nat} {F : Nat → Prop} {ids : List Int} (h : LaneI w base b F ids) {k : Nat} (hk : F k) : base ≤ k ∧ k < w.heap.size := by
  obtain ⟨m, L, h1, _, h3, h4⟩ := h
  exact ⟨h4 k hk, h1.lt ((h3 k).1 hk)⟩
theorem RefI.lt {w : World} {base g : Nat} {G : Nat → Prop} {l : List Int} (h : RefI w base g G l) {k : Nat} (hk : G k) : base ≤ k ∧ k < w.heap.size := by
  obtain ⟨v, h1, h2⟩ := h
  exact h1.lt ((h2 k).1 hk)
theorem LaneI.frame {w w' : World} {base b : Nat} {F : Nat → Prop} {ids : List Int} (h : LaneI w base b F ids) (hf : ∀ k, F k → w'.heap[k]? = w.heap[k]?) : LaneI w' base b F ids := by
  obtain ⟨m, L, h1, h2, h3, h4⟩ := h
  exact ⟨m, L, h1.frame fun k hk => hf k ((h3 k).2 hk), h2, h3, h4⟩
theorem RefI.frame {w w' : World} {base g : Nat} {G : Nat → Prop} {l : List Int} (h : RefI w base g G l) (hf : ∀ k, G k → w'.heap[k]? = w.heap[k]?) : RefI w' base g G l := by
  obtain ⟨v, h1, h2⟩ := h
  exact ⟨v, h1.frame fun k hk => hf k ((h2 k).2 hk), h2⟩
theorem LaneI.only {S : Nat → Prop} {w w' : World} {base b : Nat} {F : Nat → Prop} {ids : List Int} (h : LaneI w base b F ids) (ho : Only S w w') (hd : ∀ k, F k → ¬ S k) : LaneI w' base b F ids :=
  h.frame fun k hk => ho.block k (h.lt hk).2 (hd k hk)
theorem RefI.only {S : Nat → Prop} {w w' : World} {base g : Nat} {G : Nat → Prop} {l : List Int} (h : RefI w base g G l) (ho : Only S w w') (hd : ∀ k, G k → ¬ S k) : RefI w' base g G l :=
  h.frame fun k hk => ho.block k (h.lt hk).2 (hd k hk)
theorem Own64.only {S : Nat → Prop} {w w' : World} {base : Nat} {v : Value} {l : List Int} (h : Own64 w base v l) (ho : Only S w w') (hd : ∀ k, v.ownBlock = some k → ¬ S k) : Own64 w' base v l :=
  h.frame fun k hk => ho.block k (h.lt k hk).2 (hd k hk)
theorem Own64.below {w w' : World} {base : Nat} {v : Value} {l : List Int} (h : Own64 w base v l) (hb : Below w.heap.size w w') : Own64 w' base v l := h.frame fun k hk => hb.block k (h.lt k hk).2
theorem LaneI.below {w w' : World} {base b : Nat} {F : Nat → Prop} {ids : List Int} (h : LaneI w base b F ids) (hb : Below w.heap.size w w') : LaneI w' base b F ids := h.frame fun k hk => hb.block k (h.lt hk).2
theorem RefI.below {w w' : World} {base g : Nat} {G : Nat → Prop} {l : List Int} (h : RefI w base g G l) (hb : Below w.heap.size w w') : RefI w' base g G l := h.frame fun k hk => hb.block k (h.lt hk).2
theorem newI (w : World) (base : Nat) (hb : base ≤ w.heap.size) :
    Calls Try.prog 7 #[] w fun e w' => ∃ b F, e = .returned (.pointer (some ⟨b, 0, none⟩)) ∧ LaneI w' base b F [] ∧ (∀ k, F k → w.heap.size ≤ k) ∧ Only (fun _ => False) w w' :=
  (new_calls w).mono fun e w' ⟨b, m, h1, h2, h3, h4, h5⟩ => by
    have hF : ∀ k, foot b m [] k → w.heap.size ≤ k := fun k hk => by
      rcases hk with rfl | hk
      · exact h5
      · simp at hk; omega
    exact ⟨b, foot b m [], h1, ⟨m, [], h2, rfl, fun _ => Iff.rfl, fun k hk => Nat.le_trans hb (hF k hk)⟩, hF, h3⟩
theorem hasI (w : World) (base b : Nat) (F : Nat → Prop) (ids : List Int) (i : Int) (hi : (Lit.int .u64 i).wf = true) (h : LaneI w base b F ids) :
    Calls Try.prog 18 #[.pointer (some ⟨b, 0, none⟩), .int .u64 i] w fun e w' => e = .returned (.bool (decide (i ∈ ids))) ∧ w' = w := by
  obtain ⟨m, L, h1, rfl, _⟩ := h
  exact has_calls w b m L i hi h1
theorem lenI (w : World) (base b : Nat) (F : Nat → Prop) (ids : List Int) (h : LaneI w base b F ids) :
    Calls Try.prog 20 #[.pointer (some ⟨b, 0, none⟩)] w fun e w' => e = .returned (.int .i64 ids.length) ∧ w' = w := by
  obtain ⟨m, L, h1, rfl, _⟩ := h
  rw [List.length_map]
  exact len_calls w b m L h1
theorem firstI (w : World) (base b : Nat) (F : Nat → Prop) (ids : List Int) (h : LaneI w base b F ids) :
    Calls Try.prog 14 #[.pointer (some ⟨b, 0, none⟩)] w fun e w' => e = .returned (.tuple #[.int .u64 (ids.headD 0), .bool (!ids.isEmpty)]) ∧ Below w.heap.size w w' := by
  obtain ⟨m, L, h1, rfl, _⟩ := h
  rw [isEmpty_map]
  exact first_calls b m L w h1
theorem allI (w : World) (base b : Nat) (F : Nat → Prop) (ids : List Int) (h : LaneI w base b F ids) (hl : ids.length ≤ 100000) :
    Calls Try.prog 17 #[.pointer (some ⟨b, 0, none⟩)] w fun e w' => ∃ v, e = .returned v ∧ Own64 w' w.heap.size v ids ∧ Below w.heap.size w w' := by
  obtain ⟨m, L, h1, rfl, _⟩ := h
  rw [List.length_map] at hl
  unfold Own64 ints
  rw [List.length_map]
  exact all_calls b m L hl w h1
def putIds (i : Int) (ids : List Int) : List Int := if i ∈ ids then ids else ids ++ [i]
theorem putI (w : World) (base b : Nat) (F : Nat → Prop) (ids : List Int) (i : Int) (hi : (Lit.int .u64 i).wf = true) (h : LaneI w base b F ids) (hb : base ≤ w.heap.size) :
    Calls Try.prog 8 #[.pointer (some ⟨b, 0, none⟩), .int .u64 i] w fun e w' => ∃ F', e = .returned (.bool (!decide (i ∈ ids))) ∧ LaneI w' base b F' (putIds i ids) ∧ (∀ k, F' k → F k ∨ w.heap.size ≤ k) ∧ Only F w w' := by
  obtain ⟨m, L, h1, rfl, h3, h4⟩ := h
  by_cases hin : i ∈ L.map Prod.fst
  · refine (put_old w b m L i hi h1 hin).mono ?_
    rintro e w' ⟨rfl, rfl⟩
    unfold putIds
    rw [if_pos hin, decide_eq_true hin]
    exact ⟨F, rfl, ⟨m, L, h1, rfl, h3, h4⟩, fun k hk => .inl hk, Only.refl _ _⟩
  · refine (put_new w b m L i hi h1 hin).mono ?_
    rintro e w' ⟨x, rfl, hx, h5, h6⟩
    unfold putIds
    rw [if_neg hin, decide_eq_false hin]
    have hF : ∀ k, foot b m (L ++ [(i, x)]) k → F k ∨ w.heap.size ≤ k := fun k hk => by
      rcases hk with rfl | hk
      · exact .inl ((h3 _).2 (.inl rfl))
      · rw [List.map_append, ← List.cons_append] at hk
        rcases List.mem_append.1 hk with hk | hk
        · exact .inl ((h3 _).2 (.inr hk))
        · simp at hk; exact .inr (by omega)
    refine ⟨foot b m (L ++ [(i, x)]), rfl, ⟨m, _, h5, by simp, fun _ => Iff.rfl, fun k hk => ?_⟩, hF, h6.mono fun k _ hk => (h3 k).2 hk⟩
    rcases hF k hk with hk | hk
    · exact h4 k hk
    · omega
theorem mem_split {L : List (Int × Nat)} {i : Int} (h : i ∈ L.map Prod.fst) : ∃ L1 x L2, L = L1 ++ (i, x) :: L2 := by
  obtain ⟨⟨j, x⟩, hp, rfl⟩ := List.mem_map.1 h
  obtain ⟨L1, L2, rfl⟩ := List.append_of_mem hp
  exact ⟨L1, x, L2, rfl⟩
theorem keep_none {ids : List Int} {i : Int} (h : i ∉ ids) : keep i ids = ids := by
  unfold keep
  rw [List.filter_eq_self]
  intro x hx
  simp only [bne_iff_ne]
  exact fun e => h (e ▸ hx)
theorem keep_mid {A B : List Int} {i : Int} (h : (A ++ i :: B).Nodup) : keep i (A ++ i :: B) = A ++ B := by
  obtain ⟨_, h2, h3⟩ := List.nodup_append.1 h
  have hA : i ∉ A := fun e => h3 i e i (by simp) rfl
  have hB : i ∉ B := (List.nodup_cons.1 h2).1
  have e1 := keep_none hA
  have e2 := keep_none hB
  unfold keep at *
  rw [List.filter_append, List.filter_cons, e1, e2]
  simp
theorem dropI (w : World) (base b : Nat) (F : Nat → Prop) (ids : List Int) (i : Int) (hi : (Lit.int .u64 i).wf = true) (h : LaneI w base b F ids) :
    Calls Try.prog 12 #[.pointer (some ⟨b, 0, none⟩), .int .u64 i] w fun e w' => ∃ F', e = .returned (.bool (decide (i ∈ ids))) ∧ LaneI w' base b F' (keep i ids) ∧ (∀ k, F' k → F k) ∧ Only F w w' := by
  obtain ⟨m, L, h1, rfl, h3, h4⟩ := h
  by_cases hin : i ∈ L.map Prod.fst
  · rw [decide_eq_true hin]
    obtain ⟨L1, x, L2, rfl⟩ := mem_split hin
    refine (drop_yes w b m L1 L2 i x h1).mono ?_
    rintro e w' ⟨rfl, h5, h6⟩
    have hF : ∀ k, foot b m (L1 ++ L2) k → F k := fun k hk => (h3 k).2 (by
      rcases hk with rfl | hk
      · exact .inl rfl
      · refine .inr ?_
        simp only [List.map_append, List.map_cons, List.mem_cons, List.mem_append] at hk ⊢
        rcases hk with e | e | e <;> simp [e])
    refine ⟨foot b m (L1 ++ L2), rfl, ⟨m, _, h5, ?_, fun _ => Iff.rfl, fun k hk => h4 k (hF k hk)⟩, hF, h6.mono fun k _ hk => (h3 k).2 hk⟩
    have hu := h1.uniq
    simp only [List.map_append, List.map_cons] at hu ⊢
    exact (keep_mid hu).symm
  · rw [decide_eq_false hin, keep_none hin]
    refine (drop_none w b m L i hi h1 hin).mono ?_
    rintro e w' ⟨rfl, rfl⟩
    exact ⟨F, rfl, ⟨m, L, h1, rfl, h3, h4⟩, fun k hk => hk, Only.refl _ _⟩
theorem takeI (w : World) (base b : Nat) (F : Nat → Prop) (ids : List Int) (h : LaneI w base b F ids) :
    Calls Try.prog 10 #[.pointer (some ⟨b, 0, none⟩)] w fun e w' => ∃ F', e = .returned (.tuple #[.int .u64 (ids.headD 0), .bool (!ids.isEmpty)]) ∧ LaneI w' base b F' ids.tail ∧ (∀ k, F' k → F k) ∧ Only F w w' := by
  obtain ⟨m, L, h1, rfl, h3, h4⟩ := h
  rw [isEmpty_map]
  refine (take_calls w b m L h1).mono ?_
  rintro e w' ⟨rfl, h5, h6⟩
  have hF : ∀ k, foot b m L.tail k → F k := fun k hk => (h3 k).2 (by
    rcases hk with rfl | hk
    · exact .inl rfl
    · refine .inr ?_
      rw [List.map_tail] at hk
      rcases List.mem_cons.1 hk with e | e
      · simp [e]
      · exact List.mem_cons_of_mem _ (List.mem_of_mem_tail e))
  exact ⟨foot b m L.tail, rfl, ⟨m, _, h5, by rw [List.map_tail], fun _ => Iff.rfl, fun k hk => h4 k (hF k hk)⟩, hF, h6.mono fun k _ hk => (h3 k).2 hk⟩
theorem rhasI (w : World) (base g : Nat) (G : Nat → Prop) (l : List Int) (i : Int) (h : RefI w base g G l) (hl : l.length ≤ 100000) :
    Calls Try.prog 19 #[.pointer (some ⟨g, 0, none⟩), .int .u64 i] w fun e w' => e = .returned (.bool (decide (i ∈ l))) ∧ w' = w := by
  obtain ⟨v, h1, _⟩ := h
  exact rhas_calls w base g v l i h1 hl
theorem rfirstI (w : World) (base g : Nat) (G : Nat → Prop) (l : List Int) (h : RefI w base g G l) :
    Calls Try.prog 15 #[.pointer (some ⟨g, 0, none⟩)] w fun e w' => e = .returned (.tuple #[.int .u64 (l.headD 0), .bool (!l.isEmpty)]) ∧ w' = w := by
  obtain ⟨v, h1, _⟩ := h
  exact rfirst_calls w base g v l h1
theorem Own64.lower {w : World} {B base : Nat} {v : Value} {l : List Int} (h : Own64 w B v l) (hb : base ≤ B) : Own64 w base v l := by
  refine ⟨h.1, ?_⟩
  rcases h.2 with h2 | ⟨g, cap, cur, h1, h2, rest⟩
  · exact .inl h2
  · exact .inr ⟨g, cap, cur, h1, Nat.le_trans hb h2, rest⟩
theorem rfoot_new {w w' : World} {base g : Nat} {G : Nat → Prop} {v v' : Value} {l : List Int} (hG : ∀ k, G k ↔ rfoot g v k) (h : Own64 w' w.heap.size v' l) : ∀ k, rfoot g v' k → G k ∨ w.heap.size ≤ k := fun k hk => by
  rcases hk with rfl | hk
  · exact .inl ((hG _).2 (.inl rfl))
  · exact .inr (h.lt k hk).1
theorem rputI (w : World) (base g : Nat) (G : Nat → Prop) (l : List Int) (i : Int) (h : RefI w base g G l) (hl : l.length ≤ 100000) (hb : base ≤ w.heap.size) :
    Calls Try.prog 9 #[.pointer (some ⟨g, 0, none⟩), .int .u64 i] w fun e w' => ∃ G', e = .returned (.bool (!decide (i ∈ l))) ∧ RefI w' base g G' (putIds i l) ∧ (∀ k, G' k → G k ∨ w.heap.size ≤ k) ∧ Only G w w' := by
  obtain ⟨v, h1, h2⟩ := h
  unfold putIds
  by_cases hin : i ∈ l
  · rw [if_pos hin, decide_eq_true hin]
    refine (rput_old w base g v l i h1 hl hin).mono ?_
    rintro e w' ⟨rfl, rfl⟩
    exact ⟨G, rfl, ⟨v, h1, h2⟩, fun k hk => .inl hk, Only.refl _ _⟩
  · rw [if_neg hin, decide_eq_false hin]
    refine (rput_new w base g v l i h1 hl hin).mono ?_
    rintro e w' ⟨v', rfl, h3, h4, h5⟩
    exact ⟨rfoot g v', rfl, ⟨v', ⟨h3, h4.lower hb, h1.base⟩, fun _ => Iff.rfl⟩, rfoot_new (base := base) h2 h4, h5.mono fun k _ hk => (h2 k).2 (.inl hk)⟩
theorem rdropI (w : World) (base g : Nat) (G : Nat → Prop) (l : List Int) (i : Int) (h : RefI w base g G l) (hl : l.length ≤ 100000) (hb : base ≤ w.heap.size) :
    Calls Try.prog 13 #[.pointer (some ⟨g, 0, none⟩), .int .u64 i] w fun e w' => ∃ G', e = .returned (.bool (decide (i ∈ l))) ∧ RefI w' base g G' (keep i l) ∧ (∀ k, G' k → G k ∨ w.heap.size ≤ k) ∧ Only G w w' := by
  obtain ⟨v, h1, h2⟩ := h
  refine (rdrop_calls w base g v l i h1 hl).mono ?_
  rintro e w' ⟨v', rfl, h3, h4, h5⟩
  exact ⟨rfoot g v', rfl, ⟨v', ⟨h3, h4.lower hb, h1.base⟩, fun _ => Iff.rfl⟩, rfoot_new (base := base) h2 h4, h5.mono fun k _ hk => (h2 k).2 (.inl hk)⟩
theorem rtakeI (w : World) (base g : Nat) (G : Nat → Prop) (l : List Int) (h : RefI w base g G l) (hu : l.Nodup) (hl : l.length ≤ 100000) (hb : base ≤ w.heap.size) :
    Calls Try.prog 11 #[.pointer (some ⟨g, 0, none⟩)] w fun e w' => ∃ G', e = .returned (.tuple #[.int .u64 (l.headD 0), .bool (!l.isEmpty)]) ∧ RefI w' base g G' l.tail ∧ (∀ k, G' k → G k ∨ w.heap.size ≤ k) ∧ Only G w w' := by
  obtain ⟨v, h1, h2⟩ := h
  refine (rtake_calls w base g v l h1 hl).mono ?_
  rintro e w' ⟨v', rfl, h3, h4, h5⟩
  have ho : Only G w w' := h5.mono fun k _ hk => (h2 k).2 (.inl hk)
  rcases h4 with ⟨rfl, rfl⟩ | h4
  · have hown : Own64 w' base v' [] := h1.own.frame fun k hk => h5.block k (h1.own.lt k hk).2 (fun e => ?_)
    · exact ⟨G, rfl, ⟨v', ⟨h3, hown, h1.base⟩, h2⟩, fun k hk => .inl hk, ho⟩
    · -- a slice's own row is not the box
      subst e
      rcases h1.own.form with ⟨rfl, _⟩ | ⟨r, c, rfl, _⟩
      · simp [Value.ownBlock] at hk
      · exact (h1.box.not_row (by decide) h1.own) hk.symm
  · have e : keep (l.headD 0) l = l.tail := by
      cases l with
      | nil => rfl
      | cons a l => exact keep_mid (A := []) hu
    rw [e] at h4
    exact ⟨rfoot g v', rfl, ⟨v', ⟨h3, h4.lower hb, h1.base⟩, fun _ => Iff.rfl⟩, rfoot_new (base := base) h2 h4, ho⟩
end Go.Proofs.Ytcbjhljecjgdcaa.L
