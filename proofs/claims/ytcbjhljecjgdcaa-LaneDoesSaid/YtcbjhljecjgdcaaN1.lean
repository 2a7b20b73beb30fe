/- Own text: the reference's lane: Drop, Take; lane.Take: the walks. -/
import Derived.Test.YtcbjhljecjgdcaaM9
set_option linter.unusedVariables false
set_option linter.unusedSimpArgs false
namespace Go.Proofs.Ytcbjhljecjgdcaa.L
open Go Go.RowKit Go.MapKept
open Go.ChangeMaps (setBlock)

def keep (i : Int) (l : List Int) : List Int := l.filter (fun x => x != i)
theorem keep_hit {l : List Int} {i : Int} {j : Nat} (h : j < l.length) (e : l.getD j 0 ≠ i) : keep i (l.take (j + 1)) = keep i (l.take j) ++ [l.getD j 0] := by
  rw [List.take_succ_eq_append_getElem h]
  have e2 : l.getD j 0 = l[j] := by rw [List.getD_eq_getElem?_getD, List.getElem?_eq_getElem h]; rfl
  rw [e2] at e ⊢
  unfold keep
  rw [List.filter_append]
  congr 1
  simp [e]
theorem keep_miss {l : List Int} {i : Int} {j : Nat} (h : j < l.length) (e : l.getD j 0 = i) : keep i (l.take (j + 1)) = keep i (l.take j) := by
  rw [List.take_succ_eq_append_getElem h]
  have e2 : l.getD j 0 = l[j] := by rw [List.getD_eq_getElem?_getD, List.getElem?_eq_getElem h]; rfl
  rw [e2] at e
  unfold keep
  rw [List.filter_append]
  simp [e]
theorem keep_len (i : Int) (l : List Int) : (keep i l).length ≤ l.length := List.length_filter_le _ _
theorem store_world {w W : World} {g : Nat} {v vo : Value} {l : List Int} (hg : g < w.heap.size) (hB : Below w.heap.size w W) (hbox : Boxed w g 30 v) (ho : Own64 W w.heap.size vo l) :
    Boxed (W.setCell ⟨g, 0, none⟩ vo) g 30 vo ∧ Own64 (W.setCell ⟨g, 0, none⟩ vo) w.heap.size vo l ∧ Only (fun k => k = g) w (W.setCell ⟨g, 0, none⟩ vo) := by
  have hb2 : Boxed W g 30 v := (hB.block g hg).trans hbox
  refine ⟨hb2.set _, ho.frame (fun k hk => Below.heap_setCell _ _ _ _ (fun e => ?_)), Only.setCell (p := ⟨g, 0, none⟩) (Below.only hB (fun k => k = g)) (fun _ => rfl) vo⟩
  have := (ho.lt k hk).1
  have : k = g := e
  omega
set_option maxHeartbeats 2000000 in
theorem rdrop_calls (w : World) (base g : Nat) (v : Value) (l : List Int) (i : Int) (h : Ref w base g v l) (hl : l.length ≤ 100000) :
    Calls Try.prog 13 #[.pointer (some ⟨g, 0, none⟩), .int .u64 i] w fun e w' => ∃ v', e = .returned (.bool (decide (i ∈ l))) ∧ Boxed w' g 30 v' ∧ Own64 w' w.heap.size v' (keep i l) ∧ Only (fun k => k = g) w w' := by
  have hgl := h.box.lt
  have hbox := Lib.hid h.box
  have HC := rhas_calls (w.alloc (.cells #[] 23)) base g v l i (h.frame fun k hk => Below.heap_alloc _ _ _ (h.lt hk).2) hl
  obtain ⟨R, hR⟩ : ∃ R, decide (i ∈ l) = R := ⟨_, rfl⟩
  rw [hR] at HC ⊢
  clear hR
  have e1 := empty_own w
  have hc0 : (w.alloc (.cells #[] 23)).cell? ⟨g, 0, none⟩ = some v := (h.box.alloc _).cell
  have hB0 : Below w.heap.size w (w.alloc (.cells #[] 23)) := (Below.refl _ w).alloc (Nat.le_refl _) _
  rcases h.own.form with ⟨rfl, rfl⟩ | ⟨r, c, rfl, _, hrl, hc⟩
  · obtain ⟨F1, F2, F3⟩ := store_world hgl hB0 hbox.out e1
    have HF := Lib.hid (And.intro F1 (And.intro F2 F3))
    have hf0 : (w.alloc (.cells #[] 23)).frozen? ⟨g, 0, none⟩ = false := (h.box.alloc _).frozen
    clear h e1 hB0 F1 F2 F3
    obtain ⟨W1, hW1⟩ : ∃ W1, w.alloc (.cells #[] 23) = W1 := ⟨_, rfl⟩
    rw [hW1] at HC hc0 HF hf0
    have HW1 := Lib.hid hW1
    clear hW1
    go_enter Try.func13, Try.ntmps13
    go_wp2_with (first | (go_at_call 19; refine HC.mono ?_; rintro e w' ⟨rfl, rfl⟩) | rw [HW1.out])
    go_loop [5, 7] (fun o k => o = .slice (some ⟨w.heap.size, 0, none⟩) 0 0 ∧ k = .int .i64 0) (fun _ _ => 0)
    case atStart => exact ⟨rfl, rfl⟩
    case round =>
      obtain ⟨rfl, rfl⟩ := hrel
      go_wp2
      go_ret
      exact ⟨rfl, _, HF.out⟩
  · clear h
    have HCC := Lib.hid hc
    clear hc
    obtain ⟨n, hn⟩ : ∃ n, l.length = n := ⟨_, rfl⟩
    obtain ⟨W1, hW1⟩ : ∃ W1, w.alloc (.cells #[] 23) = W1 := ⟨_, rfl⟩
    obtain ⟨s, hs⟩ : ∃ s, w.heap.size = s := ⟨_, rfl⟩
    have hcg : w.cell? ⟨g, 0, none⟩ = some (.slice (some ⟨r, 0, none⟩) l.length c) := hbox.out.cell
    rw [hW1] at HC e1 hc0 hB0
    rw [hn] at hc0 hl hcg
    rw [hs] at e1 hB0 hgl ⊢
    have HN := Lib.hid hn
    have HW1 := Lib.hid hW1
    have HS := Lib.hid hs
    have HCG := Lib.hid hcg
    have E1 := Lib.hid e1
    clear hn hW1 hs hcg e1
    go_enter Try.func13, Try.ntmps13
    go_wp2_with (first | (go_at_call 19; refine HC.mono ?_; rintro e w' ⟨rfl, rfl⟩) | rw [HW1.out] | rw [HS.out])
    go_loopw [5, 7] (fun o k wr => ∃ j : Nat, j ≤ n ∧ k = .int .i64 j ∧ Hid (Own64 wr s o (keep i (l.take j)) ∧ Below s w wr)) (fun o k _ => n - (intOf k).toNat)
    case atStart => exact ⟨0, by omega, rfl, E1.out, hB0⟩
    case round =>
      obtain ⟨j, hj, rfl, hr⟩ := hrel
      have hc1 : wr.cell? ⟨g, 0, none⟩ = some (.slice (some ⟨r, 0, none⟩) n c) := (hr.out.2.cell (p := ⟨g, 0, none⟩) hgl).trans HCG.out
      by_cases hlt : j < n
      · have hlj : j < l.length := by rw [HN.out]; exact hlt
        have hcj : wr.cell? ⟨r, j, none⟩ = some (.int .u64 (l.getD j 0)) := (hr.out.2.cell (p := ⟨r, j, none⟩) (by rw [← HS.out]; exact hrl)).trans (HCC.out j hlj)
        by_cases he : l.getD j 0 = i
        · have hk := keep_miss hlj he
          have HK := Lib.hid hk
          have hb1 : (l.getD j 0 != i) = false := by simp only [bne_eq_false_iff_eq]; exact he
          clear hk he hlj
          generalize l.getD j 0 = x at *
          go_wp2
          go_roundw
          case rel => exact ⟨j + 1, by omega, by go_num, by rw [HK.out]; exact hr.out⟩
          case measure => simp [intOf]; omega
        · have hk := keep_hit hlj he
          have hb1 : (l.getD j 0 != i) = true := bne_iff_ne.2 he
          obtain ⟨W3, hW3⟩ : ∃ W3, wr.alloc (.cells #[.int .u64 (l.getD j 0)] 23) = W3 := ⟨_, rfl⟩
          have hz : s ≤ wr.heap.size := by have := hr.out.2.size; rw [HS.out] at this; exact this
          have e3 : Own64 W3 s u5 (keep i (l.take j)) := by rw [← hW3]; exact World.ownsRow.alloc hr.out.1 _
          have s3 : Src W3 (.slice (some ⟨wr.heap.size, 0, none⟩) 1 1) [l.getD j 0] := by rw [← hW3]; exact src_one wr _
          have b3 : Below s w W3 := by rw [← hW3]; exact hr.out.2.alloc hz _
          have hkl := keep_len i (l.take j)
          have hkl2 : (l.take j).length ≤ 100000 := by rw [List.length_take]; omega
          obtain ⟨v4, W4, hr4, e4, gr4⟩ := app_ints e3 s3 (Nat.le_trans hz (by rw [← hW3]; simp)) (by simp only [List.length_cons, List.length_nil]; omega)
          rw [← hk] at e4
          have b4 : Below s w W4 := b3.grown gr4 (Nat.le_trans hz (by rw [← hW3]; simp)) (fun k ek => (e3.lt k ek).1)
          have H4 := Lib.hid (And.intro e4 b4)
          have HW3 := Lib.hid hW3
          clear hk he hlj hW3 hz e3 s3 b3 hkl hkl2 e4 gr4 b4
          generalize l.getD j 0 = x at *
          go_wp2_with (first | rw [HW3.out] | (at_builtin; refine wpList_append_run rfl _ _ 28 rfl hr4 rfl rfl ?_; clear hr4))
          go_roundw
          case rel => exact ⟨j + 1, by omega, by go_num, H4.out⟩
          case measure => simp [intOf]; omega
      · have hjn : j = n := by omega
        subst hjn
        have hr' := hr.out
        have ht : l.take j = l := List.take_of_length_le (by rw [HN.out]; exact Nat.le_refl _)
        rw [ht, ← HS.out] at hr'
        obtain ⟨F1, F2, F3⟩ := store_world (by rw [HS.out]; exact hgl) hr'.2 hbox.out hr'.1
        rw [HS.out] at F2
        have HF := Lib.hid (And.intro F1 (And.intro F2 F3))
        have hf1 : wr.frozen? ⟨g, 0, none⟩ = false := (hr.out.2.frozen (p := ⟨g, 0, none⟩) hgl).trans hbox.out.frozen
        rcases hr'.1.form with ⟨rfl, _⟩ | ⟨r5, c5, rfl, _⟩
        all_goals
          clear hr' ht F1 F2 F3
          go_wp2
          go_ret
          exact ⟨_, rfl, HF.out⟩
set_option maxHeartbeats 1000000 in
theorem rtake_calls (w : World) (base g : Nat) (v : Value) (l : List Int) (h : Ref w base g v l) (hl : l.length ≤ 100000) :
    Calls Try.prog 11 #[.pointer (some ⟨g, 0, none⟩)] w fun e w' => ∃ v', e = .returned (.tuple #[.int .u64 (l.headD 0), .bool (!l.isEmpty)]) ∧ Boxed w' g 30 v' ∧ (v' = v ∧ l = [] ∨ Own64 w' w.heap.size v' (keep (l.headD 0) l)) ∧ Only (fun k => k = g) w w' := by
  have H1 := rfirst_calls w base g v l h
  have hbox := Lib.hid h.box
  have H2 := rdrop_calls w base g v l (l.headD 0) h hl
  cases l with
  | nil =>
    clear h H2
    have hF : Hid (Boxed w g 30 v ∧ (v = v ∧ ([] : List Int) = [] ∨ Own64 w w.heap.size v (keep (([] : List Int).headD 0) [])) ∧ Only (fun k => k = g) w w) := ⟨hbox.out, .inl ⟨rfl, rfl⟩, Only.refl _ _⟩
    go_enter Try.func11, Try.ntmps11
    go_wp2_with (go_at_call 15; refine H1.mono ?_; rintro e w' ⟨rfl, rfl⟩)
    go_ret2
    exact ⟨v, rfl, hF.out.1, .inl ⟨rfl, trivial⟩, hF.out.2.2⟩
  | cons a l =>
    clear h
    go_enter Try.func11, Try.ntmps11
    go_wp2_with (first | (go_at_call 15; refine H1.mono ?_; rintro e w' ⟨rfl, rfl⟩) | (go_at_call 13; refine H2.mono ?_; rintro e w' ⟨v', rfl, hb, ho, hn⟩; have HF := Lib.hid (And.intro hb (And.intro ho hn)); clear hb ho hn))
    go_ret2
    exact ⟨_, rfl, HF.out.1, .inr HF.out.2.1, HF.out.2.2⟩
theorem isEmpty_map (L : List (Int × Nat)) : (L.map Prod.fst).isEmpty = L.isEmpty := by cases L <;> rfl
set_option maxHeartbeats 1000000 in
/-- lane.Take. -/
theorem take_calls (w : World) (b m : Nat) (L : List (Int × Nat)) (h : Lane w b m L) :
    Calls Try.prog 10 #[.pointer (some ⟨b, 0, none⟩)] w fun e w' => e = .returned (.tuple #[.int .u64 ((L.map Prod.fst).headD 0), .bool (!L.isEmpty)]) ∧ Lane w' b m L.tail ∧ Only (foot b m L) w w' := by
  have H1 := first_calls b m L w h
  cases L with
  | nil =>
    have hF : ∀ w', Below w.heap.size w w' → Lane w' b m [] ∧ Only (foot b m []) w w' := fun w' hb => ⟨h.frame fun k hk => hb.block k (h.lt hk), Below.only hb _⟩
    have HF := Lib.hid hF
    clear h hF
    go_enter Try.func10, Try.ntmps10
    go_wp2_with (go_at_call 14; refine H1.mono ?_; rintro e w' ⟨rfl, hb⟩; have HB := Lib.hid hb; clear hb)
    go_ret2
    exact ⟨rfl, HF.out _ HB.out⟩
  | cons p L =>
    obtain ⟨i, x⟩ := p
    have H2 : ∀ w', Below w.heap.size w w' → Calls Try.prog 12 #[.pointer (some ⟨b, 0, none⟩), .int .u64 i] w' fun e w'' => e = .returned (.bool true) ∧ Lane w'' b m L ∧ Only (foot b m ((i, x) :: L)) w w'' := fun w' hb =>
      (drop_yes w' b m [] L i x (h.frame fun k hk => hb.block k (h.lt hk))).mono fun e w'' hh => ⟨hh.1, hh.2.1, (Below.only hb _).trans hh.2.2⟩
    clear h
    go_enter Try.func10, Try.ntmps10
    go_wp2_with (first | (go_at_call 14; refine H1.mono ?_; rintro e w' ⟨rfl, hb⟩; have HB := Lib.hid hb; clear hb) | (go_at_call 12; refine (H2 _ HB.out).mono ?_; rintro e w'' ⟨rfl, hh⟩; have HF := Lib.hid hh; clear hh))
    go_ret2
    exact ⟨rfl, HF.out⟩
end Go.Proofs.Ytcbjhljecjgdcaa.L
