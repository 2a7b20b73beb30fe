/- Plain: all frames of bytes; Same. -/
import Derived.Test.YtojepleodijdeaaF1
namespace Go.Proofs.Ytojepleodijdeaa.VP
set_option linter.unusedVariables false
set_option linter.unusedSimpArgs false
open Go.RowKit Go.Proofs.Ytojepleodijdeaa.B Go.Proofs.YtojepleodijdeaaW.PrintWords Go.Proofs.YtojepleodijdeaaW.PrintLast Go.Proofs.YtojepleodijdeaaW.PrintMore

theorem map_u8_inj : ∀ {l m : List Int}, isB l → isB m → l.map (fun n => UInt8.ofNat n.toNat) = m.map (fun n => UInt8.ofNat n.toNat) → l = m
  | [], [], _, _, _ => rfl
  | [], _ :: _, _, _, h => by simp at h
  | _ :: _, [], _, _, h => by simp at h
  | x :: l, y :: m, hl, hm, h => by
    simp only [List.map_cons, List.cons.injEq] at h
    have hx := hl x (List.mem_cons_self ..)
    have hy := hm y (List.mem_cons_self ..)
    have e := congrArg UInt8.toNat h.1
    simp only [UInt8.toNat_ofNat'] at e
    rw [map_u8_inj (fun z hz => hl z (List.mem_cons_of_mem _ hz)) (fun z hz => hm z (List.mem_cons_of_mem _ hz)) h.2]
    congr 1
    omega
theorem bytesEqual_f {l m : List Int} (hl : isB l) (hm : isB m) : bytes_Equal.f l m = some (decide (l = m)) := by
  unfold bytes_Equal.f
  rw [ByteArray.toList_eq, ByteArray.toList_eq, strOfNums_data, strOfNums_data]
  by_cases h : l = m
  · subst h; simp
  · rw [decide_eq_false h]
    congr 1
    rw [beq_eq_false_iff_ne]
    exact fun e => h (map_u8_inj hl hm e)
theorem fsame_f {a b : Int} {l m : List Int} (hl : isB l) (hm : isB m) : frame_Same.f a l b m = some (decide (a = b ∧ l = m)) := by
  unfold frame_Same.f
  rw [bytesEqual_f hl hm]
  by_cases h : a = b
  · rw [if_pos h]; simp [h]
  · rw [if_neg h]; simp [h]

theorem fread_used {l : List Int} (hb : isB l) (h : (fread l).2.2.2 = 0) : 11 ≤ (fread l).2.2.1 ∧ (fread l).2.2.1 ≤ l.length ∧ (fread l).2.1.length + 11 = (fread l).2.2.1 ∧ (fread l).2.1.length ≤ 400 ∧ isB (fread l).2.1 := by
  have hn1 := getD_isB (cutL_isB (isB_take hb 7)) 1
  have hn2 := getD_isB (cutL_isB (isB_take hb 7)) 2
  have ht : 0 ≤ two (cutL (l.take 7)).1 := by unfold two; omega
  have hbb := cutL_isB (isB_drop (isB_take hb (11 + two (cutL (l.take 7)).1).toNat) 7)
  unfold fread at *
  split at h
  · simp at h
  split at h
  · simp at h
  split at h
  · simp at h
  split at h
  · simp at h
  split at h
  · simp at h
  rename_i h1 h2 h3 h4 h5
  rw [if_neg h1, if_neg h2, if_neg h3, if_neg h4, if_neg h5]
  have hc := (cutL_true (by simpa using h5)).1
  have hl : (cutL ((l.take (11 + two (cutL (l.take 7)).1).toNat).drop 7)).1.length + 11 = 11 + two (cutL (l.take 7)).1 := by
    rw [hc]
    simp only [List.length_take, List.length_drop]
    omega
  dsimp only
  exact ⟨by omega, by omega, hl, by omega, hbb⟩
theorem fread_bad {l : List Int} (h : (fread l).2.2.2 ≠ 0) : (fread l).2.1 = [] ∧ (fread l).2.2.1 = 0 := by
  unfold fread at *
  split
  · exact ⟨rfl, rfl⟩
  split
  · exact ⟨rfl, rfl⟩
  split
  · exact ⟨rfl, rfl⟩
  split
  · exact ⟨rfl, rfl⟩
  split
  · exact ⟨rfl, rfl⟩
  rename_i h1 h2 h3 h4 h5
  rw [if_neg h1, if_neg h2, if_neg h3, if_neg h4, if_neg h5] at h
  simp at h
theorem fread_kind {l : List Int} (hb : isB l) : 0 ≤ (fread l).1 ∧ (fread l).1 ≤ 255 := by
  have h := getD_isB (cutL_isB (isB_take hb 7)) 0
  unfold fread
  split
  · simp
  split
  · simp
  split
  · simp
  split
  · simp
  split
  · simp
  exact h
/-- a frame stays what it is, whatever is behind -/
theorem fread_append {l : List Int} (hb : isB l) (m : List Int) (h : (fread l).2.2.2 = 0) : fread (l ++ m) = fread l := by
  have hu := fread_used hb h
  have hn1 := getD_isB (cutL_isB (isB_take hb 7)) 1
  have hn2 := getD_isB (cutL_isB (isB_take hb 7)) 2
  have ht : 0 ≤ two (cutL (l.take 7)).1 := by unfold two; omega
  unfold fread at h
  split at h
  · simp at h
  split at h
  · simp at h
  split at h
  · simp at h
  split at h
  · simp at h
  rename_i h1 h2 h3 h4
  clear h
  have e1 : (l ++ m).take 7 = l.take 7 := List.take_append_of_le_length (by omega)
  have e2 : (l ++ m).take (11 + two (cutL (l.take 7)).1).toNat = l.take (11 + two (cutL (l.take 7)).1).toNat := List.take_append_of_le_length (by omega)
  unfold fread
  rw [e1, e2, if_neg h1, if_neg h2, if_neg h3, if_neg h4, if_neg (by rw [List.length_append]; omega), if_neg h2, if_neg h3, if_neg (by rw [List.length_append]; omega)]

/-- all frames of bytes -/
def gall : Nat → List Int → List S56 × Nat × Int
  | 0, _ => ([], 0, 0)
  | d + 1, l =>
    if l = [] then ([], 0, 0)
    else if (fread l).2.2.2 = 0 then (⟨(fread l).1, (fread l).2.1⟩ :: (gall d (l.drop (fread l).2.2.1.toNat)).1, (fread l).2.2.1.toNat + (gall d (l.drop (fread l).2.2.1.toNat)).2.1, (gall d (l.drop (fread l).2.2.1.toNat)).2.2)
    else ([], 0, (fread l).2.2.2)
theorem gall_at : ∀ (d : Nat) (l : List Int), l.length ≤ d → isB l → (gall d l).2.1 ≤ l.length ∧ 11 * (gall d l).1.length ≤ (gall d l).2.1 ∧ ((gall d l).2.2 = 0 ↔ (gall d l).2.1 = l.length) := by
  intro d
  induction d with
  | zero => intro l hd hb; simp [gall]; omega
  | succ d ih =>
    intro l hd hb
    rw [gall]
    by_cases he : l = []
    · subst he; simp
    rw [if_neg he]
    have hpos : 0 < l.length := List.length_pos_iff.2 he
    by_cases h0 : (fread l).2.2.2 = 0
    · have hu := fread_used hb h0
      have := ih (l.drop (fread l).2.2.1.toNat) (by rw [List.length_drop]; omega) (isB_drop hb _)
      rw [List.length_drop] at this
      rw [if_pos h0]
      simp only [List.length_cons]
      omega
    · rw [if_neg h0]
      simp only [List.length_nil]
      omega
theorem gall_isB : ∀ (d : Nat) (l : List Int), isB l → ∀ x ∈ (gall d l).1, isB x.f1 ∧ 0 ≤ x.f0 ∧ x.f0 ≤ 255 := by
  intro d
  induction d with
  | zero => intro l hb x hx; simp [gall] at hx
  | succ d ih =>
    intro l hb x hx
    rw [gall] at hx
    split at hx
    · simp at hx
    split at hx
    · rename_i h0
      rcases List.mem_cons.1 hx with rfl | hx
      · exact ⟨(fread_used hb h0).2.2.2.2, fread_kind hb⟩
      · exact ih _ (isB_drop hb _) x hx
    · simp at hx
/-- of more rounds than are wanted the answer is the same -/
theorem gall_more : ∀ (d e : Nat) (l : List Int), l.length ≤ d → d ≤ e → isB l → gall e l = gall d l := by
  intro d
  induction d with
  | zero =>
    intro e l hd he hb
    have : l = [] := List.length_eq_zero_iff.1 (by omega)
    subst this
    cases e <;> simp [gall]
  | succ d ih =>
    intro e l hd he hb
    obtain ⟨e, rfl⟩ : ∃ m, e = m + 1 := ⟨e - 1, by omega⟩
    rw [gall, gall]
    by_cases hn : l = []
    · rw [if_pos hn, if_pos hn]
    have hpos : 0 < l.length := List.length_pos_iff.2 hn
    rw [if_neg hn, if_neg hn]
    by_cases h0 : (fread l).2.2.2 = 0
    · have hu := fread_used hb h0
      rw [if_pos h0, if_pos h0, ih e (l.drop (fread l).2.2.1.toNat) (by rw [List.length_drop]; omega) (by omega) (isB_drop hb _)]
    · rw [if_neg h0, if_neg h0]
/-- frames of both parts -/
theorem gall_append : ∀ (d : Nat) (a b : List Int), a.length ≤ d → isB a → isB b → (gall d a).2.2 = 0 →
    gall (d + b.length) (a ++ b) = ((gall d a).1 ++ (gall b.length b).1, a.length + (gall b.length b).2.1, (gall b.length b).2.2) := by
  intro d
  induction d with
  | zero =>
    intro a b hd ha hb h
    have : a = [] := List.length_eq_zero_iff.1 (by omega)
    subst this
    simp [gall]
  | succ d ih =>
    intro a b hd ha hb h
    by_cases hn : a = []
    · subst hn
      rw [List.nil_append, gall_more b.length (d + 1 + b.length) b (Nat.le_refl _) (by omega) hb]
      simp [gall]
    · have hpos : 0 < a.length := List.length_pos_iff.2 hn
      rw [gall, if_neg hn] at h ⊢
      by_cases h0 : (fread a).2.2.2 = 0
      · rw [if_pos h0] at h ⊢
        have hu := fread_used ha h0
        have e := fread_append ha b h0
        have hd1 : (a ++ b).drop (fread a).2.2.1.toNat = a.drop (fread a).2.2.1.toNat ++ b := List.drop_append_of_le_length (by omega)
        rw [show d + 1 + b.length = (d + b.length) + 1 by omega, gall, if_neg (by simp [hn]), e, if_pos h0, hd1, ih _ b (by rw [List.length_drop]; omega) (isB_drop ha _) hb h]
        simp only [List.length_drop, List.cons_append]
        refine Prod.ext rfl (Prod.ext ?_ rfl)
        dsimp only
        omega
      · rw [if_neg h0] at h
        exact absurd h h0
theorem fall_loop (b : List Int) (hb : isB b) (hl : b.length ≤ 1000000000) : ∀ (d i : Nat) (out : List S56), b.length - i ≤ d → i ≤ b.length → out.length ≤ i →
    Ev (fun k => frame_All.l0 k b out (i : Int)) (out ++ (gall d (b.drop i)).1, ((i + (gall d (b.drop i)).2.1 : Nat) : Int), (gall d (b.drop i)).2.2) := by
  intro d
  induction d with
  | zero =>
    intro i out hd hi ho
    refine Ev.step (f := fun _ => some (out, (i : Int), 0)) (fun k => ?_) ?_
    · simp only [frame_All.l0]; rw [if_neg (by omega)]
    · simp only [gall, List.append_nil, Nat.add_zero]; exact Ev.now _
  | succ d ih =>
    intro i out hd hi ho
    rw [gall]
    by_cases he : b.drop i = []
    · have : b.length - i = 0 := by rw [← List.length_drop, he]; rfl
      rw [if_pos he]
      refine Ev.step (f := fun _ => some (out, (i : Int), 0)) (fun k => ?_) ?_
      · simp only [frame_All.l0]; rw [if_neg (by omega)]
      · simp only [List.append_nil, Nat.add_zero]; exact Ev.now _
    · rw [if_neg he]
      have hpos : 0 < (b.drop i).length := List.length_pos_iff.2 he
      rw [List.length_drop] at hpos
      have hbd := isB_drop hb i
      refine Ev.step (f := fun k => (frame_Read.f k (b.drop i)).bind fun bt => (if bt.2.2.2 = 0 then (if out.length < 4398046511104 then (frame_All.l0 k b (out ++ [(⟨bt.1, bt.2.1⟩ : S56)]) (wrap64 ((i : Int) + bt.2.2.1))) else (none)) else (some (out, (i : Int), bt.2.2.2)))) (fun k => ?_) ?_
      · simp only [frame_All.l0]
        rw [if_pos (by omega), if_pos (by omega), if_pos (by omega)]
        simp only [Int.toNat_natCast]
      · refine Ev.bind (f := fun k bt => (if bt.2.2.2 = 0 then (if out.length < 4398046511104 then (frame_All.l0 k b (out ++ [(⟨bt.1, bt.2.1⟩ : S56)]) (wrap64 ((i : Int) + bt.2.2.1))) else (none)) else (some (out, (i : Int), bt.2.2.2)))) (read_ev hbd (by rw [List.length_drop]; omega)) ?_
        by_cases h0 : (fread (b.drop i)).2.2.2 = 0
        · have hu := fread_used hbd h0
          rw [List.length_drop] at hu
          rw [if_pos h0]
          have hw : wrap64 ((i : Int) + (fread (b.drop i)).2.2.1) = ((i + (fread (b.drop i)).2.2.1.toNat : Nat) : Int) := by unfold wrap64; omega
          have hq := ih (i + (fread (b.drop i)).2.2.1.toNat) (out ++ [⟨(fread (b.drop i)).1, (fread (b.drop i)).2.1⟩]) (by omega) (by omega) (by rw [List.length_append, List.length_singleton]; omega)
          rw [List.drop_drop]
          refine Ev.congr (f := fun k => frame_All.l0 k b (out ++ [⟨(fread (b.drop i)).1, (fread (b.drop i)).2.1⟩]) ((i + (fread (b.drop i)).2.2.1.toNat : Nat) : Int)) (fun k => ?_) ?_
          · rw [if_pos h0, if_pos (by omega), hw]
          · simpa only [List.append_assoc, List.singleton_append, Nat.add_assoc] using hq
        · rw [if_neg h0]
          refine Ev.congr (f := fun _ => some (out, (i : Int), (fread (b.drop i)).2.2.2)) (fun k => ?_) ?_
          · rw [if_neg h0]
          · simp only [List.append_nil, Nat.add_zero]; exact Ev.now _
theorem fall_ev (b : List Int) (hb : isB b) (hl : b.length ≤ 1000000000) : Ev (fun k => frame_All.f k b) ((gall b.length b).1, ((gall b.length b).2.1 : Int), (gall b.length b).2.2) := by
  have := fall_loop b hb hl b.length 0 [] (by omega) (by omega) (by simp)
  simpa [frame_All.f] using this
end Go.Proofs.Ytojepleodijdeaa.VP
