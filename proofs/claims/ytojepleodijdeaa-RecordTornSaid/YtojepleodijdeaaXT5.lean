/- Own texts and printed ones, those declarations alone that this claim needs, laid into one text by a program of this session. -/
import Derived.Test.YtojepleodijdeaaXT1
import Derived.Test.YtojepleodijdeaaXT2
import Derived.Test.YtojepleodijdeaaXT3
import Derived.Test.YtojepleodijdeaaXT4
import Derived.WalkKit
import Derived.ProofKit
import Derived.OpenShut
import Derived.ChangeOld
import Derived.Deep.Slices
import Derived.ChangeSame
import Derived.Lib.SmallJoins
import Derived.Deep.Strs
namespace Go.Proofs.Ytojepleodijdeaa.VP
set_option linter.unusedVariables false
set_option linter.unusedSimpArgs false
open Go.RowKit Go.Proofs.Ytojepleodijdeaa.B Go.Proofs.YtojepleodijdeaaW.PrintWords Go.Proofs.YtojepleodijdeaaW.PrintLast Go.Proofs.YtojepleodijdeaaW.PrintMore
def rightR (k : Int) (N : List Int) (t : ByteArray) : Prop := isKind k ∧ (N.length : Int) = numE k.toNat ∧ fit k t.size = true
instance (k : Int) (N : List Int) (t : ByteArray) : Decidable (rightR k N t) := by unfold rightR; infer_instance
theorem right_f (k : Int) (N : List Int) (t : ByteArray) : record_Right.f k N t = some (decide (rightR k N t)) := by
  unfold record_Right.f
  rw [known_f, Option.bind_some]
  by_cases h : isKind k
  · have h2 := h
    unfold isKind at h2
    rw [if_pos (by simp [h]), show record_numbers.f = some () from rfl, Option.bind_some, if_pos (by omega), if_pos (by omega)]
    by_cases hn : (N.length : Int) = numE k.toNat
    · rw [if_pos hn, fits_f, Option.bind_some]
      congr 1
      unfold rightR
      simp [h, hn]
    · rw [if_neg hn]; congr 1; symm; apply decide_eq_false; unfold rightR; simp [hn]
  · rw [if_neg (by simp [h])]; congr 1; symm; apply decide_eq_false; unfold rightR; simp [h]
theorem bytesOf_isB (t : ByteArray) : isB (bytesOf t) := by
  intro x hx
  unfold bytesOf at hx
  obtain ⟨b, _, rfl⟩ := List.mem_map.1 hx
  have := b.toNat_lt
  omega
theorem fit_le {k : Int} {n : Nat} (h : fit k n = true) : n ≤ 64 := by
  unfold fit at h
  have := of_decide_eq_true h
  omega
theorem right_len {k : Int} {N : List Int} {t : ByteArray} (h : rightR k N t) : (vall N ++ bytesOf t).length ≤ 400 ∧ N.length ≤ 10 := by
  obtain ⟨h1, h2, h3⟩ := h
  have h4 := numE_at k h1
  have h5 := fit_le h3
  have h6 := vall_len N
  rw [List.length_append, bytesOf_length]
  omega
theorem recbytes_ev {k : Int} {N : List Int} {t : ByteArray} (hu : isU N) (h : rightR k N t) : Ev (fun n => record_Bytes.f n k N t) (fb k (vall N ++ bytesOf t), 0) := by
  obtain ⟨hl, hN⟩ := right_len h
  have hk := h.1
  unfold isKind at hk
  have hl2 := hl
  rw [List.length_append, bytesOf_length] at hl2
  refine Ev.congr (f := fun n => (vint_All.f n N).bind fun t696 => (if t696.length + t.size < 140737488355328 then ((frame_Bytes.f (k % 256) (t696 ++ bytesOf t)).bind fun bt702 => (some (bt702.1, bt702.2))) else (none))) (fun n => ?_) ?_
  · unfold record_Bytes.f
    rw [right_f, Option.bind_some, if_pos (decide_eq_true h)]
  · refine Ev.bind (f := fun n t696 => (if t696.length + t.size < 140737488355328 then ((frame_Bytes.f (k % 256) (t696 ++ bytesOf t)).bind fun bt702 => (some (bt702.1, bt702.2))) else (none))) (all_ev N hu (by omega)) ?_
    refine Ev.congr (f := fun _ => some (fb k (vall N ++ bytesOf t), 0)) (fun n => ?_) (Ev.now _)
    rw [if_pos (by omega), show k % 256 = k by omega, fbytes_f (by omega) (isB_append (vall_isB hu) (bytesOf_isB t)) hl, Option.bind_some]
theorem recbytes_no (n : Nat) {k : Int} {N : List Int} {t : ByteArray} (h : ¬ rightR k N t) : record_Bytes.f n k N t = some ([], 1) := by
  unfold record_Bytes.f
  rw [right_f, Option.bind_some, if_neg (by simp [h])]
theorem gnums_all : ∀ (N acc rest : List Int), isU N → gnums N.length acc (vall N ++ rest) = (acc ++ N, rest, 0) := by
  intro N
  induction N with
  | nil => intro acc rest _; simp [gnums, vall]
  | cons x N ih =>
    intro acc rest hu
    have hx := hu x (List.mem_cons_self ..)
    have hg := get_put (n := x.toNat) (by omega) (vall N ++ rest)
    rw [List.length_cons, gnums, vall, List.append_assoc, hg]
    dsimp only
    rw [if_pos rfl, Int.toNat_natCast, List.drop_left, show ((x.toNat : Nat) : Int) = x by omega, ih (acc ++ [x]) rest (fun y hy => hu y (List.mem_cons_of_mem _ hy))]
    simp
theorem str_back (t : ByteArray) : strOfNums (bytesOf t) = t := by
  apply ByteArray.ext
  apply Array.ext'
  rw [strOfNums_data]
  unfold bytesOf
  rw [List.map_map]
  conv => rhs; rw [← List.map_id t.data.toList]
  apply List.map_congr_left
  intro b _
  simp
theorem rread_back {k : Int} {N : List Int} {t : ByteArray} (hu : isU N) (h : rightR k N t) : rread k (vall N ++ bytesOf t) = (k, N, t, 0) := by
  obtain ⟨h1, h2, h3⟩ := h
  have hn : (numE k.toNat).toNat = N.length := by omega
  unfold rread
  rw [if_pos h1, hn, gnums_all N [] (bytesOf t) hu]
  dsimp only
  rw [if_pos rfl, if_pos (by rw [bytesOf_length]; exact h3), str_back, List.nil_append]
theorem eq64_loop (l : List Int) (hl : l.length ≤ 1000000) : ∀ (d i : Nat), l.length - i = d → Ev (fun k => slices_Equal_uint64_uint64.l0 k l l (l.length : Int) (i : Int)) true := by
  intro d
  induction d with
  | zero =>
    intro i hd
    refine Ev.step (f := fun _ => some true) (fun k => ?_) (Ev.now _)
    simp only [slices_Equal_uint64_uint64.l0]; rw [if_neg (by omega)]
  | succ d ih =>
    intro i hd
    refine Ev.step (f := fun k => slices_Equal_uint64_uint64.l0 k l l (l.length : Int) ((i + 1 : Nat) : Int)) (fun k => ?_) (ih (i + 1) (by omega))
    simp only [slices_Equal_uint64_uint64.l0]
    rw [if_pos (by omega), if_pos (by omega), if_pos (by omega), if_pos (by omega), if_pos trivial, wrap_succ i (by omega)]
theorem recsame_ev (k : Int) (N : List Int) (t : ByteArray) (hl : N.length ≤ 1000000) : Ev (fun n => record_Same.f n k N t k N t) true := by
  have h1 : Ev (fun n => slices_Equal_uint64_uint64.f n N N) true := by
    have := eq64_loop N hl N.length 0 (by omega)
    simpa [slices_Equal_uint64_uint64.f] using this
  refine Ev.congr (f := fun n => (slices_Equal_uint64_uint64.f n N N).bind fun t691 => (if t691 = true then (some (t.toList == t.toList)) else (some false))) (fun n => ?_) ?_
  · unfold record_Same.f; rw [if_pos rfl]
  · refine Ev.bind (f := fun n t691 => (if t691 = true then (some (t.toList == t.toList)) else (some false))) h1 ?_
    refine Ev.congr (f := fun _ => some true) (fun n => ?_) (Ev.now _)
    rw [if_pos rfl]; simp
end Go.Proofs.Ytojepleodijdeaa.VP
namespace Go.Proofs.Ytojepleodijdeaa.Pure
set_option linter.unusedVariables false
set_option linter.unusedSimpArgs false
open Go.RowKit Go.Proofs.Ytojepleodijdeaa.B Go.Proofs.Ytojepleodijdeaa.VP Go.Proofs.YtojepleodijdeaaW.PrintWords Go.Proofs.YtojepleodijdeaaW.PrintLast Go.Proofs.YtojepleodijdeaaW.PrintMore
/-- a record that may be -/
def okR (x : S80) : Prop := rightR x.f0 x.f1 x.f2 ∧ isU x.f1
/-- its body -/
def bodyR (x : S80) : List Int := vall x.f1 ++ bytesOf x.f2
/-- its bytes -/
def byR (x : S80) : List Int := fb x.f0 (bodyR x)
def szR (x : S80) : Nat := (bodyR x).length + 11
theorem byR_len (x : S80) : (byR x).length = szR x := fb_len _ _
theorem okR_facts {x : S80} (h : okR x) : (0 ≤ x.f0 ∧ x.f0 ≤ 255) ∧ isB (bodyR x) ∧ (bodyR x).length ≤ 400 := by
  have := h.1.1
  unfold isKind at this
  exact ⟨by omega, isB_append (vall_isB h.2) (bytesOf_isB _), (right_len h.1).1⟩
/-- the bytes of records -/
def rbs : List S80 → List Int
  | [] => []
  | x :: L => byR x ++ rbs L
/-- where they end -/
def rends : Nat → List S80 → List Int
  | _, [] => []
  | s, x :: L => ((s + szR x : Nat) : Int) :: rends (s + szR x) L
/-- how many end by c -/
def howmany (c : Int) : Nat → Nat → List S80 → Nat
  | w, _, [] => w
  | w, s, x :: L => if ((s + szR x : Nat) : Int) ≤ c then howmany c (w + 1) (s + szR x) L else howmany c w (s + szR x) L
theorem howmany_far (c : Int) : ∀ (L : List S80) (w s : Nat), c < (s : Int) + 11 → howmany c w s L = w := by
  intro L
  induction L with
  | nil => intro w s _; rfl
  | cons x L ih =>
    intro w s h
    have : 11 ≤ szR x := by unfold szR; omega
    rw [howmany, if_neg (by omega)]; exact ih w _ (by omega)
theorem howmany_big (c : Int) : ∀ (L : List S80) (w s : Nat), ((s + (rbs L).length : Nat) : Int) ≤ c → howmany c w s L = w + L.length := by
  intro L
  induction L with
  | nil => intro w s _; rfl
  | cons x L ih =>
    intro w s h
    simp only [rbs, List.length_append, byR_len] at h
    rw [howmany, if_pos (by omega), ih (w + 1) (s + szR x) (by omega), List.length_cons]; omega
def frOf (x : S80) : S56 := ⟨x.f0, bodyR x⟩
theorem rends_len : ∀ (L : List S80) (s : Nat), (rends s L).length = L.length := by
  intro L
  induction L with
  | nil => intro s; rfl
  | cons x L ih => intro s; simp [rends, ih]
/-- the frames of a beginning -/
theorem torn_frames : ∀ (L : List S80), (∀ x ∈ L, okR x) → ∀ (c d : Nat), c ≤ (rbs L).length → c ≤ d →
    ∃ w a e, gall d ((rbs L).take c) = ((L.take w).map frOf, a, e) ∧ ((e = 0 ∧ a = c) ∨ (e = 3 ∧ a < c)) ∧ w ≤ L.length ∧ (∀ s W, howmany ((s + c : Nat) : Int) W s L = W + w) ∧ (∀ s, ((rends s (L.take w)).getLast?.getD (s : Int)) = ((s + a : Nat) : Int)) ∧ (w = 0 → a = 0) := by
  intro L
  induction L with
  | nil =>
    intro _ c d hc hd
    have : c = 0 := by simpa [rbs] using hc
    subst this
    refine ⟨0, 0, 0, ?_, .inl ⟨rfl, rfl⟩, Nat.le_refl _, fun s W => rfl, fun s => by simp [rends], fun _ => rfl⟩
    cases d <;> simp [gall, rbs]
  | cons x L ih =>
    intro hok c d hc hd
    obtain ⟨hk, hB, hxl⟩ := okR_facts (hok x (List.mem_cons_self ..))
    have hfl := byR_len x
    have hsz : szR x = (bodyR x).length + 11 := rfl
    have hcl : (rbs (x :: L)).length = szR x + (rbs L).length := by simp [rbs, hfl]
    by_cases hlt : c < szR x
    · have e1 : (rbs (x :: L)).take c = (byR x).take c := by
        simp only [rbs]; exact List.take_append_of_le_length (by omega)
      rw [e1]
      have hwh : ∀ s W, howmany ((s + c : Nat) : Int) W s (x :: L) = W := by
        intro s W
        rw [howmany, if_neg (by omega)]
        exact howmany_far _ _ _ _ (by omega)
      by_cases h0 : c = 0
      · subst h0
        refine ⟨0, 0, 0, ?_, .inl ⟨rfl, rfl⟩, Nat.zero_le _, hwh, fun s => by simp [rends], fun _ => rfl⟩
        cases d <;> simp [gall]
      · refine ⟨0, 0, 3, ?_, .inr ⟨rfl, by omega⟩, Nat.zero_le _, hwh, fun s => by simp [rends], fun _ => rfl⟩
        obtain ⟨d, rfl⟩ : ∃ m, d = m + 1 := ⟨d - 1, by omega⟩
        have hne : (byR x).take c ≠ [] := by
          intro h
          have := congrArg List.length h
          rw [List.length_take, List.length_nil] at this
          omega
        have hcut : fread ((byR x).take c) = (0, [], 0, 3) := fread_cut hxl c (by omega)
        rw [gall, if_neg hne, hcut]
        simp
    · have e1 : (rbs (x :: L)).take c = byR x ++ (rbs L).take (c - szR x) := by
        simp only [rbs]
        rw [List.take_append, hfl, List.take_of_length_le (by omega)]
      obtain ⟨d, rfl⟩ : ∃ m, d = m + 1 := ⟨d - 1, by omega⟩
      obtain ⟨w, a, e, hg, hae, hw, hwh, hen, hz⟩ := ih (fun y hy => hok y (List.mem_cons_of_mem _ hy)) (c - szR x) d (by omega) (by omega)
      refine ⟨w + 1, szR x + a, e, ?_, ?_, by simp; omega, fun s W => ?_, fun s => ?_, fun h => by omega⟩
      · have hne : byR x ++ (rbs L).take (c - szR x) ≠ [] := by
          intro h
          have := congrArg List.length h
          rw [List.length_append, hfl] at this
          simp [szR] at this
        have hfb : fread (byR x ++ (rbs L).take (c - szR x)) = (x.f0, bodyR x, ((bodyR x).length : Int) + 11, 0) := fread_fb hxl _
        rw [e1, gall, if_neg hne, hfb]
        dsimp only
        rw [if_pos rfl, show (((bodyR x).length : Int) + 11).toNat = (byR x).length by omega, List.drop_left, hg, hfl]
        rfl
      · omega
      · rw [howmany, if_pos (by omega), show s + c = s + szR x + (c - szR x) by omega, hwh (s + szR x) (W + 1)]; omega
      · rw [List.take_succ_cons, rends]
        have := hen (s + szR x)
        have e2 : ∀ (a : Int) (l : List Int), (a :: l).getLast?.getD (s : Int) = l.getLast?.getD a := by
          intro a l
          cases l with
          | nil => simp
          | cons b l => simp [List.getLast?_cons]
        rw [e2, this]; omega
theorem recs_back : ∀ (M : List S80), (∀ x ∈ M, okR x) → ∀ (s : Nat) (out : List S80) (ends : List Int) (e : Int), recs (M.map frOf) (s : Int) out ends e = (out ++ M, ends ++ rends s M, e) := by
  intro M
  induction M with
  | nil => intro _ s out ends e; simp [recs, rends]
  | cons x M ih =>
    intro hok s out ends e
    have hx := hok x (List.mem_cons_self ..)
    have hr : rread x.f0 (bodyR x) = (x.f0, x.f1, x.f2, 0) := rread_back hx.2 hx.1
    rw [List.map_cons, recs]
    show (if (rread x.f0 (bodyR x)).2.2.2 = 0 then recs (M.map frOf) ((s : Int) + ((bodyR x).length : Int) + 11) (out ++ [⟨(rread x.f0 (bodyR x)).1, (rread x.f0 (bodyR x)).2.1, (rread x.f0 (bodyR x)).2.2.1⟩]) (ends ++ [(s : Int) + ((bodyR x).length : Int) + 11]) e else _) = _
    rw [hr, if_pos rfl]
    have hs : (s : Int) + ((bodyR x).length : Int) + 11 = ((s + szR x : Nat) : Int) := by unfold szR; omega
    rw [hs]
    refine (ih (fun y hy => hok y (List.mem_cons_of_mem _ hy)) (s + szR x) (out ++ [x]) (ends ++ [((s + szR x : Nat) : Int)]) e).trans ?_
    rw [rends, List.append_assoc, List.append_assoc]
    rfl
theorem rbs_isB : ∀ (L : List S80), (∀ x ∈ L, okR x) → isB (rbs L) ∧ (rbs L).length ≤ 411 * L.length := by
  intro L
  induction L with
  | nil => intro _; exact ⟨fun x hx => by simp [rbs] at hx, by simp [rbs]⟩
  | cons x L ih =>
    intro hok
    have h := ih (fun y hy => hok y (List.mem_cons_of_mem _ hy))
    obtain ⟨hk, hB, hxl⟩ := okR_facts (hok x (List.mem_cons_self ..))
    have hfl := byR_len x
    simp only [rbs]
    refine ⟨isB_append (fb_isB hk hB hxl) h.1, ?_⟩
    rw [List.length_append, List.length_cons, hfl]
    unfold szR
    omega
theorem rends_le : ∀ (M : List S80) (s : Nat) (i : Nat) (h : i < (rends s M).length), (rends s M)[i] ≤ (rends s M).getLast?.getD (s : Int) ∧ (s : Int) ≤ (rends s M).getLast?.getD (s : Int) := by
  intro M
  induction M with
  | nil => intro s i h; simp [rends] at h
  | cons x M ih =>
    intro s i h
    have e2 : ∀ (a : Int) (l : List Int), (a :: l).getLast?.getD (s : Int) = l.getLast?.getD a := by
      intro a l
      cases l with
      | nil => simp
      | cons b l => simp [List.getLast?_cons]
    have hge : ((s + szR x : Nat) : Int) ≤ (rends (s + szR x) M).getLast?.getD ((s + szR x : Nat) : Int) := by
      cases M with
      | nil => simp [rends]
      | cons y M => exact (ih (s + szR x) 0 (by simp [rends])).2
    simp only [rends, e2]
    refine ⟨?_, by omega⟩
    cases i with
    | zero => simp only [List.getElem_cons_zero]; exact hge
    | succ i =>
      simp only [List.getElem_cons_succ]
      simp only [rends, List.length_cons] at h
      exact (ih (s + szR x) i (by omega)).1
theorem torn_bad (L : List S80) (a1 : Int) (hL : L.length ≤ 6) (hu : ∀ x ∈ L, isU x.f1) : ∀ (d i : Nat) (out : List Int) (W : Nat), L.length - i = d → i ≤ L.length → out.length ≤ 411 * i → W ≤ i → (∃ j, ∃ h : j < L.length, i ≤ j ∧ ¬ rightR L[j].f0 L[j].f1 L[j].f2) →
    Ev (fun k => tumbrellaw05_RecordTorn.l0 k L a1 out (W : Int) L (L.length : Int) (i : Int)) true := by
  intro d
  induction d with
  | zero => intro i out W hd hi _ _ ⟨j, hj, h1, h2⟩; omega
  | succ d ih =>
    intro i out W hd hi ho hW ⟨j, hj, h1, h2⟩
    have hil : i < L.length := by omega
    have hx := rd80_at hil
    by_cases hr : rightR L[i].f0 L[i].f1 L[i].f2
    · have hok : okR L[i] := ⟨hr, hu _ (List.getElem_mem hil)⟩
      obtain ⟨hk, hB, hxl⟩ := okR_facts hok
      have hij : i ≠ j := by intro h; subst h; exact h2 hr
      have hfl := byR_len L[i]
      have hsz : szR L[i] ≤ 411 := by unfold szR; omega
      have hby : Ev (fun k => record_Bytes.f k L[i].f0 L[i].f1 L[i].f2) (byR L[i], 0) := recbytes_ev hok.2 hok.1
      refine Ev.step (f := fun k => (record_Bytes.f k L[i].f0 L[i].f1 L[i].f2).bind fun bt => (if bt.2 = 0 then (if (wrap64 ((out.length : Int) + (bt.1.length : Int))) ≤ a1 then (if out.length + bt.1.length < 140737488355328 then (tumbrellaw05_RecordTorn.l0 k L a1 (out ++ bt.1) (wrap64 ((W : Int) + 1)) L (L.length : Int) (wrap64 ((i : Int) + 1))) else (none)) else (if out.length + bt.1.length < 140737488355328 then (tumbrellaw05_RecordTorn.l0 k L a1 (out ++ bt.1) (W : Int) L (L.length : Int) (wrap64 ((i : Int) + 1))) else (none))) else (some true))) (fun k => ?_) ?_
      · simp only [tumbrellaw05_RecordTorn.l0]
        rw [if_pos (by omega), if_pos (by omega), if_pos (by omega), hx]
      · refine Ev.bind (f := fun k bt => (if bt.2 = 0 then (if (wrap64 ((out.length : Int) + (bt.1.length : Int))) ≤ a1 then (if out.length + bt.1.length < 140737488355328 then (tumbrellaw05_RecordTorn.l0 k L a1 (out ++ bt.1) (wrap64 ((W : Int) + 1)) L (L.length : Int) (wrap64 ((i : Int) + 1))) else (none)) else (if out.length + bt.1.length < 140737488355328 then (tumbrellaw05_RecordTorn.l0 k L a1 (out ++ bt.1) (W : Int) L (L.length : Int) (wrap64 ((i : Int) + 1))) else (none))) else (some true))) hby ?_
        have hlen : (out ++ byR L[i]).length ≤ 411 * (i + 1) := by rw [List.length_append, hfl]; omega
        by_cases hc : (wrap64 ((out.length : Int) + ((byR L[i]).length : Int))) ≤ a1
        · refine Ev.congr (fun k => ?_) (ih (i + 1) (out ++ byR L[i]) (W + 1) (by omega) (by omega) hlen (by omega) ⟨j, hj, by omega, h2⟩)
          rw [if_pos rfl, if_pos hc, if_pos (by dsimp only; omega), wrap_succ i (by omega), wrap_succ W (by omega)]
        · refine Ev.congr (fun k => ?_) (ih (i + 1) (out ++ byR L[i]) W (by omega) (by omega) hlen (by omega) ⟨j, hj, by omega, h2⟩)
          rw [if_pos rfl, if_neg hc, if_pos (by dsimp only; omega), wrap_succ i (by omega)]
    · refine Ev.step (f := fun _ => some true) (fun k => ?_) (Ev.now _)
      simp only [tumbrellaw05_RecordTorn.l0]
      rw [if_pos (by omega), if_pos (by omega), if_pos (by omega), hx, recbytes_no _ hr, Option.bind_some, if_neg (by decide)]
set_option maxHeartbeats 1000000 in
theorem torn_good (L : List S80) (a1 : Int) (hL : L.length ≤ 6) (hok : ∀ x ∈ L, okR x) {r : Bool} : ∀ (d i : Nat) (out : List Int) (W : Nat), L.length - i = d → i ≤ L.length → out.length ≤ 411 * i → W ≤ i →
    Ev (fun k => tumbrellaw05_RecordTorn.l0 k L a1 (out ++ rbs (L.drop i)) ((howmany a1 W out.length (L.drop i) : Nat) : Int) L (L.length : Int) (L.length : Int)) r →
    Ev (fun k => tumbrellaw05_RecordTorn.l0 k L a1 out (W : Int) L (L.length : Int) (i : Int)) r := by
  intro d
  induction d with
  | zero =>
    intro i out W hd hi ho hW h
    rw [List.drop_of_length_le (by omega)] at h
    simp only [rbs, howmany, List.append_nil] at h
    have : i = L.length := by omega
    subst this
    exact h
  | succ d ih =>
    intro i out W hd hi ho hW h
    have hil : i < L.length := by omega
    have hx := rd80_at hil
    have hoki := hok _ (List.getElem_mem hil)
    obtain ⟨hk, hB, hxl⟩ := okR_facts hoki
    have hfl := byR_len L[i]
    have hsz : szR L[i] ≤ 411 := by unfold szR; omega
    have hle3 : out.length + (byR L[i]).length ≤ 10000 := by rw [hfl]; omega
    have hlt3 : out.length + (byR L[i]).length < 140737488355328 := Nat.lt_of_le_of_lt hle3 (by decide)
    have hby : Ev (fun k => record_Bytes.f k L[i].f0 L[i].f1 L[i].f2) (byR L[i], 0) := recbytes_ev hoki.2 hoki.1
    rw [List.drop_eq_getElem_cons hil, rbs, howmany, ← List.append_assoc] at h
    have hlen : (out ++ byR L[i]).length ≤ 411 * (i + 1) := by rw [List.length_append, hfl]; omega
    have hlen2 : (out ++ byR L[i]).length = out.length + szR L[i] := by rw [List.length_append, hfl]
    have hw : wrap64 ((out.length : Int) + ((byR L[i]).length : Int)) = ((out.length + szR L[i] : Nat) : Int) := by rw [hfl]; unfold wrap64; omega
    refine Ev.step (f := fun k => (record_Bytes.f k L[i].f0 L[i].f1 L[i].f2).bind fun bt => (if bt.2 = 0 then (if (wrap64 ((out.length : Int) + (bt.1.length : Int))) ≤ a1 then (if out.length + bt.1.length < 140737488355328 then (tumbrellaw05_RecordTorn.l0 k L a1 (out ++ bt.1) (wrap64 ((W : Int) + 1)) L (L.length : Int) (wrap64 ((i : Int) + 1))) else (none)) else (if out.length + bt.1.length < 140737488355328 then (tumbrellaw05_RecordTorn.l0 k L a1 (out ++ bt.1) (W : Int) L (L.length : Int) (wrap64 ((i : Int) + 1))) else (none))) else (some true))) (fun k => ?_) ?_
    · simp only [tumbrellaw05_RecordTorn.l0]
      rw [if_pos (by omega), if_pos (by omega), if_pos (by omega), hx]
    · refine Ev.bind (f := fun k bt => (if bt.2 = 0 then (if (wrap64 ((out.length : Int) + (bt.1.length : Int))) ≤ a1 then (if out.length + bt.1.length < 140737488355328 then (tumbrellaw05_RecordTorn.l0 k L a1 (out ++ bt.1) (wrap64 ((W : Int) + 1)) L (L.length : Int) (wrap64 ((i : Int) + 1))) else (none)) else (if out.length + bt.1.length < 140737488355328 then (tumbrellaw05_RecordTorn.l0 k L a1 (out ++ bt.1) (W : Int) L (L.length : Int) (wrap64 ((i : Int) + 1))) else (none))) else (some true))) hby ?_
      by_cases hc : ((out.length + szR L[i] : Nat) : Int) ≤ a1
      · rw [if_pos hc] at h
        refine Ev.congr (fun k => ?_) (ih (i + 1) (out ++ byR L[i]) (W + 1) (by omega) (by omega) hlen (by omega) (by rw [hlen2]; exact h))
        dsimp only
        rw [if_pos rfl, hw, if_pos hc, if_pos hlt3, wrap_succ i (by omega), wrap_succ W (by omega)]
      · rw [if_neg hc] at h
        refine Ev.congr (fun k => ?_) (ih (i + 1) (out ++ byR L[i]) W (by omega) (by omega) hlen (by omega) (by rw [hlen2]; exact h))
        dsimp only
        rw [if_pos rfl, hw, if_neg hc, if_pos hlt3, wrap_succ i (by omega)]
theorem torn_end (L : List S80) (hL : L.length ≤ 6) (hok : ∀ x ∈ L, okR x) (w : Nat) (hw : w ≤ L.length) (c a : Nat) (e : Int) (hae : (e = 0 ∧ a = c) ∨ (e = 3 ∧ a < c)) (hen : (rends 0 (L.take w)).getLast?.getD ((0 : Nat) : Int) = (a : Int)) (hz : w = 0 → a = 0) : ∀ (d i : Nat), w - i = d → i ≤ w →
    Ev (fun k => tumbrellaw05_RecordTorn.l1 k L (c : Int) (w : Int) (rends 0 (L.take w)) e (L.take w) ((L.take w).length : Int) (i : Int)) true := by
  have hlw : (L.take w).length = w := by rw [List.length_take]; omega
  have hrl : (rends 0 (L.take w)).length = w := by rw [rends_len, hlw]
  intro d
  induction d with
  | zero =>
    intro i hd hi
    refine Ev.step (f := fun _ => some true) (fun k => ?_) (Ev.now _)
    simp only [tumbrellaw05_RecordTorn.l1]
    rw [if_neg (by omega)]
    by_cases h0 : w = 0
    · have := hz h0
      rw [if_neg (by omega)]
      congr 1
      rcases hae with ⟨rfl, h⟩ | ⟨rfl, h⟩
      · have : (c : Int) = 0 := by omega
        rw [this]; rfl
      · have : ((0 : Int) == (c : Int)) = false := by simp; omega
        rw [this]; rfl
    · have hw1 : wrap64 ((w : Int) - 1) = ((w - 1 : Nat) : Int) := by unfold wrap64; omega
      have hlast : rd (rends 0 (L.take w)) ((w - 1 : Nat) : Int) = (a : Int) := by
        rw [← hen, List.getLast?_eq_getElem?, rd_at (l := rends 0 (L.take w)) (i := w - 1) (by omega)]
        have e3 : (rends 0 (L.take w)).length - 1 = w - 1 := by omega
        rw [e3, List.getElem?_eq_getElem (show w - 1 < (rends 0 (L.take w)).length by omega)]; rfl
      rw [if_pos (by omega), hw1, if_pos (by omega), if_pos (by omega), hlast]
      congr 1
      rcases hae with ⟨rfl, h⟩ | ⟨rfl, h⟩
      · rw [h]; simp
      · have : ((a : Int) == (c : Int)) = false := by simp; omega
        rw [this]; rfl
  | succ d ih =>
    intro i hd hi
    have hi2 : i < w := by omega
    have hM : (L.take w)[i]'(by omega) = L[i]'(by omega) := List.getElem_take ..
    have hN := (right_len (hok _ (List.getElem_mem (show i < L.length by omega))).1).2
    have hle : (rends 0 (L.take w))[i]'(by omega) ≤ (c : Int) := by
      have := (rends_le (L.take w) 0 i (by omega)).1
      rw [hen] at this
      omega
    have hr : rd (rends 0 (L.take w)) (i : Int) = (rends 0 (L.take w))[i]'(by omega) := rd_at (by omega)
    refine Ev.step (f := fun k => (record_Same.f k (L[i]'(by omega)).f0 (L[i]'(by omega)).f1 (L[i]'(by omega)).f2 (L[i]'(by omega)).f0 (L[i]'(by omega)).f1 (L[i]'(by omega)).f2).bind fun t => (if t = true then (tumbrellaw05_RecordTorn.l1 k L (c : Int) (w : Int) (rends 0 (L.take w)) e (L.take w) ((L.take w).length : Int) ((i + 1 : Nat) : Int)) else (some false))) (fun k => ?_) ?_
    · simp only [tumbrellaw05_RecordTorn.l1]
      rw [if_pos (by omega), if_pos (by omega), if_pos (by omega), if_pos (by omega), rd80_at (l := L.take w) (by omega), rd80_at (l := L) (by omega), hM, hr, if_pos (by omega), if_neg (by omega), wrap_succ i (by omega)]
    · refine Ev.bind (f := fun k t => (if t = true then (tumbrellaw05_RecordTorn.l1 k L (c : Int) (w : Int) (rends 0 (L.take w)) e (L.take w) ((L.take w).length : Int) ((i + 1 : Nat) : Int)) else (some false))) (recsame_ev _ _ _ (by omega)) ?_
      exact Ev.congr (fun k => by rw [if_pos rfl]) (ih (i + 1) (by omega) (by omega))
theorem RecordTorn (l0 : List S80) (h0 : ∀ x ∈ l0, (Lit.int .i64 x.f0).wf = true ∧ (∀ n ∈ x.f1, (Lit.int .u64 n).wf = true) ∧ x.f1.length ≤ maxLen) (a1 : Int) (ha1 : (Lit.int .i64 a1).wf = true) :
    ∃ k, tumbrellaw05_RecordTorn.f k l0 a1 = some true := by
  obtain ⟨KA, hA⟩ := awake5_ev
  dsimp only at hA
  have hu : ∀ x ∈ l0, isU x.f1 := fun x hx => isU_of_wf (h0 x hx).2.1
  by_cases hlong : (l0.length : Int) > 6
  · refine ⟨KA, ?_⟩
    unfold tumbrellaw05_RecordTorn.f
    rw [hA _ (Nat.le_refl _), Option.bind_some, if_pos rfl, if_pos hlong]
  have hL : l0.length ≤ 6 := by omega
  have main : Ev (fun k => tumbrellaw05_RecordTorn.l0 k l0 a1 [] ((0 : Nat) : Int) l0 (l0.length : Int) ((0 : Nat) : Int)) true := by
    by_cases hall : ∀ x ∈ l0, rightR x.f0 x.f1 x.f2
    · have hok : ∀ x ∈ l0, okR x := fun x hx => ⟨hall x hx, hu x hx⟩
      refine torn_good l0 a1 hL hok _ 0 [] 0 rfl (Nat.zero_le _) (by simp) (Nat.le_refl _) ?_
      simp only [List.drop_zero, List.nil_append, List.length_nil]
      obtain ⟨hFb, hFl⟩ := rbs_isB l0 hok
      obtain ⟨c, hc, hcl, hcc⟩ : ∃ c : Nat, mn (mx a1 0) ((rbs l0).length : Int) = (c : Int) ∧ c ≤ (rbs l0).length ∧ howmany a1 0 0 l0 = howmany (c : Int) 0 0 l0 := by
        by_cases hneg : a1 < 0
        · refine ⟨0, ?_, Nat.zero_le _, ?_⟩
          · unfold mn mx; rw [if_pos hneg]; split <;> omega
          · rw [howmany_far _ _ _ _ (by omega), howmany_far _ _ _ _ (by omega)]
        · by_cases hbig : a1 ≥ ((rbs l0).length : Int)
          · refine ⟨(rbs l0).length, ?_, Nat.le_refl _, ?_⟩
            · unfold mn mx; rw [if_neg hneg]; split <;> omega
            · rw [howmany_big _ _ _ _ (by omega), howmany_big _ _ _ _ (by omega)]
          · refine ⟨a1.toNat, ?_, by omega, ?_⟩
            · unfold mn mx; rw [if_neg hneg]; split <;> omega
            · rw [show ((a1.toNat : Nat) : Int) = a1 by omega]
      have hlt : ((rbs l0).take c).length = c := by rw [List.length_take]; omega
      obtain ⟨w, a, e, hg, hae, hw, hwh, hen, hz⟩ := torn_frames l0 hok c ((rbs l0).take c).length hcl (by omega)
      have hw3 : howmany a1 0 0 l0 = w := by
        have := hwh 0 0
        rw [Nat.zero_add, Nat.zero_add] at this
        rw [hcc, this]
      rw [hw3]
      obtain ⟨K1, h1⟩ := recall_ev ((rbs l0).take c) (isB_take hFb c) (by omega)
      rw [hg] at h1
      have hrb := recs_back (l0.take w) (fun x hx => hok x (List.mem_of_mem_take hx)) 0 [] [] e
      rw [List.nil_append, List.nil_append] at hrb
      dsimp only at h1
      have hrb' : recs ((l0.take w).map frOf) 0 [] [] e = (l0.take w, rends 0 (l0.take w), e) := hrb
      rw [hrb'] at h1
      have hen0 := hen 0
      rw [Nat.zero_add] at hen0
      obtain ⟨K2, h2⟩ := torn_end l0 hL hok w hw c a e hae hen0 hz w 0 (by omega) (by omega)
      dsimp only at h2
      refine ⟨K1 + K2 + 1 + 1, fun k hk => ?_⟩
      obtain ⟨k, rfl⟩ : ∃ m, k = m + 1 + 1 := ⟨k - 2, by omega⟩
      have hlw : (l0.take w).length = w := by rw [List.length_take]; omega
      have hrl : (rends 0 (l0.take w)).length = w := by rw [rends_len, hlw]
      simp only [tumbrellaw05_RecordTorn.l0]
      rw [if_neg (by omega), hc, if_pos (by omega), if_pos (by omega), Int.toNat_natCast, h1 _ (by omega), Option.bind_some]
      dsimp only
      rw [hlw, hrl, if_pos rfl, if_pos rfl]
      have hj : tumbrellaw05_RecordTorn.j1 (k + 1) l0 (c : Int) (w : Int) (l0.take w) (rends 0 (l0.take w)) e false = some true := by
        rw [tumbrellaw05_RecordTorn.j1, if_neg Bool.false_ne_true]
        exact h2 _ (by omega)
      rcases hae with ⟨rfl, _⟩ | ⟨rfl, _⟩
      · rw [if_pos rfl]; exact hj
      · rw [if_neg (by decide)]; exact hj
    · refine torn_bad l0 a1 hL hu _ 0 [] 0 rfl (Nat.zero_le _) (by simp) (Nat.le_refl _) ?_
      simp only [Classical.not_forall] at hall
      obtain ⟨x, hx, hn⟩ := hall
      obtain ⟨j, hj, rfl⟩ := List.getElem_of_mem hx
      exact ⟨j, hj, Nat.zero_le _, hn⟩
  obtain ⟨K, hK⟩ := main
  dsimp only at hK
  refine ⟨KA + K, ?_⟩
  unfold tumbrellaw05_RecordTorn.f
  rw [hA _ (by omega), Option.bind_some, if_pos rfl, if_neg hlong]
  exact hK _ (by omega)
end Go.Proofs.Ytojepleodijdeaa.Pure
namespace Go.Proofs.Ytojepleodijdeaa.B
open Go Go.ChangeShapes Go.WideShapes Go.ChangeAt Go.RowKit Go.Joins Go.Proofs.YtojepleodijdeaaW.PrintWords Go.Proofs.YtojepleodijdeaaW.PrintLast Go.Proofs.YtojepleodijdeaaW.PrintMore
set_option linter.unusedVariables false
set_option linter.unusedSimpArgs false
variable {H : Type} {enc : TypeId × Value → H} {w : World} {fuel : Nat} {cs : List Value} {x : DataW H × List MemPlace}
theorem cells56 : Try.prog.cellsOf 56 = 2 := by kernel_rfl
end Go.Proofs.Ytojepleodijdeaa.B
namespace Go.Proofs.Ytojepleodijdeaa.B
open Go Go.ChangeShapes Go.WideShapes Go.ChangeAt Go.RowKit Go.Joins Go.Proofs.YtojepleodijdeaaW.PrintWords Go.Proofs.YtojepleodijdeaaW.PrintLast Go.Proofs.YtojepleodijdeaaW.PrintMore
set_option linter.unusedVariables false
set_option linter.unusedSimpArgs false
variable {H : Type} {enc : TypeId × Value → H} {w : World} {fuel : Nat} {cs : List Value} {x : DataW H × List MemPlace}
/-- numbers, opened -/
theorem open_nums (h : DataW.trod enc Try.prog w 0 (fun _ => true) true fuel 32 cs = some x) :
    ∃ (A : Option Addr) (c : Nat) (l : List Int), cs = [.slice A l.length c] ∧ l.length ≤ c ∧ l.length ≤ maxLen ∧ (Kd.int .u64).C w A l.length l ∧ ∀ n ∈ l, (Lit.int .u64 n).wf = true := by
  obtain ⟨a, len, cap, z, hcs, w0⟩ : ∃ (a : Option Addr) (len cap : Nat) (zs : List Int), cs = [.slice a len cap] ∧ ((a = none ∧ len = 0 ∧ cap = 0 ∧ zs = []) ∨
    ∃ x, a = some x ∧ len ≤ cap ∧ cap ≤ maxLen ∧ zs.length = cap ∧ (∀ i, i < zs.length → w.cell? (x.add i) = some (.int .u64 (zs.getD i 0))) ∧ ∀ n ∈ zs, (Lit.int .u64 n).wf = true) := by
    rcases open_ints Try.underlying32 Try.underlying22 (by kernel_rfl) h with ⟨hcs, _⟩ | ⟨x, l, c, zs, hcs, _, hl, hm, hz, _, hcell, hwz⟩
    · exact ⟨none, 0, 0, [], hcs, .inl ⟨rfl, rfl, rfl, rfl⟩⟩
    · exact ⟨some x, l, c, zs, hcs, .inr ⟨_, rfl, hl, hm, by simpa using hz, hcell, hwz⟩⟩
  obtain ⟨l, rfl, hr, hm, hw, hc⟩ := ReadsInt.ofRowC w0
  exact ⟨a, cap, l, hcs, hc, hm, Kd.C_of_reads (d := (0 : Int)) (h1 := fun _ => rfl) hr, hw⟩
theorem cells80 : Try.prog.cellsOf 80 = 3 := by kernel_rfl
set_option maxRecDepth 100000 in
/-- the cells of a record, opened -/
theorem open_rec (h : DataW.trod enc Try.prog w 0 (fun _ => true) true fuel 80 cs = some x) :
    ∃ f : S80, k80.K w f cs ∧ (Lit.int .i64 f.f0).wf = true ∧ (∀ n ∈ f.f1, (Lit.int .u64 n).wf = true) ∧ f.f1.length ≤ maxLen := by
  obtain ⟨y0, y1, y2, n, _, hl, h0, h1, h2⟩ := Go.Deep.trod_struct3 Try.underlying80 h
  rw [cells80] at hl
  match cs, hl with
  | [v0, v1, v2], _ =>
    have c3 : Try.prog.cellsOf 3 = 1 := by kernel_rfl
    have c32 : Try.prog.cellsOf 32 = 1 := by kernel_rfl
    have c9 : Try.prog.cellsOf 9 = 1 := by kernel_rfl
    simp only [c3, c32, c9, List.drop, List.take] at h0 h1 h2
    obtain ⟨a, e0, _, wa⟩ := DataW.trod_int Try.underlying3 h0
    obtain ⟨A, c, l, e1, hc, hm, hC, hw⟩ := open_nums h1
    obtain ⟨t, e2, _, _⟩ := DataW.trod_string Try.underlying9 h2
    injection e0 with e0
    injection e1 with e1
    injection e2 with e2
    subst e0 e1 e2
    exact ⟨⟨a, l, t⟩, k80_mk w ⟨a, l, t⟩ hc hC, wa, hw, hm⟩
/-- a slice of records, opened -/
theorem open_recs (h : DataW.trod enc Try.prog w 0 (fun _ => true) true fuel 95 cs = some x) :
    ∃ (A : Option Addr) (c : Nat) (L : List S80), cs = [.slice A L.length c] ∧ L.length ≤ c ∧ k80.C w A L.length L ∧ ∀ f ∈ L, (Lit.int .i64 f.f0).wf = true ∧ (∀ n ∈ f.f1, (Lit.int .u64 n).wf = true) ∧ f.f1.length ≤ maxLen := by
  rcases Go.Deep.open_slice Try.underlying95 h with ⟨hcs, _⟩ | ⟨a, len, cap, m, n, D, Pl, hcs, _, hl, hm, hmm, _, hel⟩
  · exact ⟨none, 0, [], hcs, Nat.le_refl _, ⟨rfl, by simp, fun hn => absurd hn (by simp)⟩, fun f hf => by simp at hf⟩
  · have hlm : len ≤ m := by simp at hmm; omega
    have hx : ∀ i, ∃ f : S80, i < len → (∃ cs', w.cells? 0 (a.add (i * 3)) 3 = some cs' ∧ k80.K w f cs') ∧ (Lit.int .i64 f.f0).wf = true ∧ (∀ n ∈ f.f1, (Lit.int .u64 n).wf = true) ∧ f.f1.length ≤ maxLen := by
      intro i
      by_cases hi : i < len
      · obtain ⟨cs', h1, h2⟩ := hel i (by omega)
        rw [cells80] at h1
        obtain ⟨f, hf, w1, w2, w3⟩ := open_rec h2
        exact ⟨f, fun _ => ⟨⟨cs', h1, hf⟩, w1, w2, w3⟩⟩
      · exact ⟨z80, fun h => absurd h hi⟩
    obtain ⟨F, hF⟩ := Classical.axiomOfChoice hx
    have hL : ((List.range len).map F).length = len := by simp
    refine ⟨some a, cap, (List.range len).map F, by rw [hL]; exact hcs, by omega, ⟨rfl, by rw [hL]; simp only [maxLen] at hm; omega, fun _ => ⟨a, rfl, ?_⟩⟩, ?_⟩
    · intro j p hj
      rw [List.getElem?_map] at hj
      obtain ⟨i, hi, rfl⟩ := Option.map_eq_some_iff.1 hj
      obtain ⟨hlt, hg⟩ := List.getElem?_eq_some_iff.1 hi
      rw [List.getElem_range] at hg
      subst hg
      rw [List.length_range] at hlt
      obtain ⟨⟨cs', hc, hK⟩, _⟩ := hF j hlt
      refine ⟨cs', k80.K_len hK, hK, fun i u hu => ?_⟩
      have hlen : cs'.length = 3 := k80.K_len hK
      have hs := (World.cells?_some hc).2
      have hi2 : i < 3 := by have := (List.getElem?_eq_some_iff.1 hu).1; omega
      have := hs.2 i hi2
      rw [hu] at this
      rw [← this]
      rw [_root_.Go.Addr.add_add]; rfl
    · intro f hf
      obtain ⟨i, hi, rfl⟩ := List.mem_map.1 hf
      exact (hF i (List.mem_range.1 hi)).2
end Go.Proofs.Ytojepleodijdeaa.B
