/- Proved: of frames one behind the other a beginning tells just those that are whole, and that the next one is too short, if there is something of it, for any row of up to 6 frames. No conditions beyond the statement's. -/
import Derived.Test.YtojepleodijdeaaB16
import Derived.Test.YtojepleodijdeaaF3
namespace Go.Proofs.Ytojepleodijdeaa.Pure
set_option linter.unusedVariables false
set_option linter.unusedSimpArgs false
open Go.RowKit Go.Proofs.Ytojepleodijdeaa.B Go.Proofs.Ytojepleodijdeaa.VP Go.Proofs.YtojepleodijdeaaW.PrintWords Go.Proofs.YtojepleodijdeaaW.PrintLast Go.Proofs.YtojepleodijdeaaW.PrintMore

def okF (x : S56) : Prop := (0 ≤ x.f0 ∧ x.f0 ≤ 255) ∧ isB x.f1
/-- the bytes of frames -/
def fbs : List S56 → List Int
  | [] => []
  | x :: L => fb x.f0 x.f1 ++ fbs L
/-- where they end -/
def fends : Nat → List S56 → List Int
  | _, [] => []
  | s, x :: L => ((s + (x.f1.length + 11) : Nat) : Int) :: fends (s + (x.f1.length + 11)) L
/-- how many end by c, and where the last of them ends -/
def whole (c : Nat) : Nat → Nat → Nat → List S56 → Nat × Nat
  | w, a, _, [] => (w, a)
  | w, a, s, x :: L => if s + (x.f1.length + 11) ≤ c then whole c (w + 1) (s + (x.f1.length + 11)) (s + (x.f1.length + 11)) L else whole c w a (s + (x.f1.length + 11)) L
theorem whole_far (c : Nat) : ∀ (L : List S56) (w a s : Nat), c < s + 11 → whole c w a s L = (w, a) := by
  intro L
  induction L with
  | nil => intro w a s _; rfl
  | cons x L ih => intro w a s h; rw [whole, if_neg (by omega)]; exact ih w a _ (by omega)
theorem fends_len : ∀ (L : List S56) (s : Nat), (fends s L).length = L.length := by
  intro L
  induction L with
  | nil => intro s; rfl
  | cons x L ih => intro s; simp [fends, ih]
theorem torn_all : ∀ (L : List S56), (∀ x ∈ L, okF x) → (∀ x ∈ L, x.f1.length ≤ 400) → ∀ (c d : Nat), c ≤ (fbs L).length → c ≤ d →
    ∃ w a e, gall d ((fbs L).take c) = (L.take w, a, e) ∧ ((e = 0 ∧ a = c) ∨ (e = 3 ∧ a < c)) ∧ w ≤ L.length ∧ ∀ s W A, whole (s + c) W A s L = (W + w, if w = 0 then A else s + a) ∧ (w = 0 → a = 0) := by
  intro L
  induction L with
  | nil =>
    intro _ _ c d hc hd
    have : c = 0 := by simpa [fbs] using hc
    subst this
    refine ⟨0, 0, 0, ?_, .inl ⟨rfl, rfl⟩, Nat.le_refl _, fun s W A => ⟨rfl, fun _ => rfl⟩⟩
    cases d <;> simp [gall, fbs]
  | cons x L ih =>
    intro hok hle c d hc hd
    have hx := hok x (List.mem_cons_self ..)
    have hxl := hle x (List.mem_cons_self ..)
    have hfl := fb_len x.f0 x.f1
    have hcl : (fbs (x :: L)).length = (x.f1.length + 11) + (fbs L).length := by simp [fbs, hfl]
    by_cases hlt : c < x.f1.length + 11
    · have e1 : (fbs (x :: L)).take c = (fb x.f0 x.f1).take c := by
        simp only [fbs]; exact List.take_append_of_le_length (by omega)
      rw [e1]
      have hwh : ∀ s W A, whole (s + c) W A s (x :: L) = (W, A) := by
        intro s W A
        rw [whole, if_neg (by omega)]
        exact whole_far _ _ _ _ _ (by omega)
      by_cases h0 : c = 0
      · subst h0
        refine ⟨0, 0, 0, ?_, .inl ⟨rfl, rfl⟩, Nat.zero_le _, fun s W A => ⟨hwh s W A, fun _ => rfl⟩⟩
        cases d <;> simp [gall]
      · refine ⟨0, 0, 3, ?_, .inr ⟨rfl, by omega⟩, Nat.zero_le _, fun s W A => ⟨hwh s W A, fun _ => rfl⟩⟩
        obtain ⟨d, rfl⟩ : ∃ m, d = m + 1 := ⟨d - 1, by omega⟩
        have hne : (fb x.f0 x.f1).take c ≠ [] := by
          intro h
          have := congrArg List.length h
          rw [List.length_take, List.length_nil] at this
          omega
        rw [gall, if_neg hne, fread_cut hxl c hlt]
        simp
    · have e1 : (fbs (x :: L)).take c = fb x.f0 x.f1 ++ (fbs L).take (c - (x.f1.length + 11)) := by
        simp only [fbs]
        rw [List.take_append, hfl, List.take_of_length_le (by omega)]
      obtain ⟨d, rfl⟩ : ∃ m, d = m + 1 := ⟨d - 1, by omega⟩
      obtain ⟨w, a, e, hg, hae, hw, hwh⟩ := ih (fun y hy => hok y (List.mem_cons_of_mem _ hy)) (fun y hy => hle y (List.mem_cons_of_mem _ hy)) (c - (x.f1.length + 11)) d (by omega) (by omega)
      refine ⟨w + 1, (x.f1.length + 11) + a, e, ?_, ?_, by simp; omega, fun s W A => ⟨?_, fun h => by omega⟩⟩
      · have hne : fb x.f0 x.f1 ++ (fbs L).take (c - (x.f1.length + 11)) ≠ [] := by
          intro h
          have := congrArg List.length h
          rw [List.length_append, hfl] at this
          simp at this
        rw [e1, gall, if_neg hne, fread_fb hxl]
        dsimp only
        rw [if_pos rfl, show ((x.f1.length : Int) + 11).toNat = (fb x.f0 x.f1).length by omega, List.drop_left, hg, hfl]
        rfl
      · omega
      · obtain ⟨h1, h2⟩ := hwh (s + (x.f1.length + 11)) (W + 1) (s + (x.f1.length + 11))
        rw [whole, if_pos (by omega), show s + c = s + (x.f1.length + 11) + (c - (x.f1.length + 11)) by omega, h1]
        refine Prod.ext ?_ ?_
        · dsimp only; omega
        · dsimp only
          have e2 : (if w + 1 = 0 then A else s + (x.f1.length + 11 + a)) = s + (x.f1.length + 11 + a) := if_neg (by omega)
          rw [e2]
          by_cases hz : w = 0
          · rw [if_pos hz, h2 hz]
          · rw [if_neg hz]; omega

theorem torn_bad (L : List S56) (a1 : Int) (hL : L.length ≤ 6) (hok : ∀ x ∈ L, okF x) : ∀ (d i : Nat) (out ends : List Int), L.length - i = d → i ≤ L.length → out.length ≤ 411 * i → ends.length ≤ i → (∃ j, ∃ h : j < L.length, i ≤ j ∧ 400 < L[j].f1.length) →
    Ev (fun k => tumbrellaw04_FrameTorn.l0 k L a1 out ends L (L.length : Int) (i : Int)) true := by
  intro d
  induction d with
  | zero => intro i out ends hd hi _ _ ⟨j, hj, h1, h2⟩; omega
  | succ d ih =>
    intro i out ends hd hi ho he ⟨j, hj, h1, h2⟩
    have hil : i < L.length := by omega
    have hx : rd_T56 L (i : Int) = L[i] := by unfold rd_T56; simp [hil]
    by_cases hbig : 400 < L[i].f1.length
    · refine Ev.step (f := fun _ => some true) (fun k => ?_) (Ev.now _)
      simp only [tumbrellaw04_FrameTorn.l0]
      rw [if_pos (by omega), if_pos (by omega), if_pos (by omega), hx, fbytes_big hbig]
      simp only [Option.bind_some]
      rw [if_neg (by decide)]
    · have hk := hok L[i] (List.getElem_mem hil)
      have hij : i ≠ j := by intro h; subst h; exact hbig h2
      have hfl := fb_len L[i].f0 L[i].f1
      refine Ev.step (f := fun k => tumbrellaw04_FrameTorn.l0 k L a1 (out ++ fb L[i].f0 L[i].f1) (ends ++ [((out ++ fb L[i].f0 L[i].f1).length : Int)]) L (L.length : Int) ((i + 1 : Nat) : Int)) (fun k => ?_) (ih (i + 1) (out ++ fb L[i].f0 L[i].f1) (ends ++ [((out ++ fb L[i].f0 L[i].f1).length : Int)]) (by omega) (by omega) (by rw [List.length_append]; omega) (by rw [List.length_append, List.length_singleton]; omega) ⟨j, hj, by omega, h2⟩)
      simp only [tumbrellaw04_FrameTorn.l0]
      rw [if_pos (by omega), if_pos (by omega), if_pos (by omega), hx, fbytes_f hk.1 hk.2 (by omega)]
      simp only [Option.bind_some, if_true]
      rw [if_pos (by omega), if_pos (by omega), wrap_succ i (by omega)]

theorem torn_good (L : List S56) (a1 : Int) (hL : L.length ≤ 6) (hok : ∀ x ∈ L, okF x) (hle : ∀ x ∈ L, x.f1.length ≤ 400) {r : Bool} : ∀ (d i : Nat) (out ends : List Int), L.length - i = d → i ≤ L.length → out.length ≤ 411 * i → ends.length ≤ i →
    Ev (fun k => tumbrellaw04_FrameTorn.l1 k L (mn (mx a1 0) ((out ++ fbs (L.drop i)).length : Int)) (out ++ fbs (L.drop i)) 0 0 (ends ++ fends out.length (L.drop i)) ((ends ++ fends out.length (L.drop i)).length : Int) 0) r →
    Ev (fun k => tumbrellaw04_FrameTorn.l0 k L a1 out ends L (L.length : Int) (i : Int)) r := by
  intro d
  induction d with
  | zero =>
    intro i out ends hd hi ho he h
    rw [List.drop_of_length_le (by omega)] at h
    simp only [fbs, fends, List.append_nil] at h
    refine Ev.step (fun k => ?_) h
    simp only [tumbrellaw04_FrameTorn.l0]
    rw [if_neg (by omega)]
  | succ d ih =>
    intro i out ends hd hi ho he h
    have hil : i < L.length := by omega
    have hx : rd_T56 L (i : Int) = L[i] := by unfold rd_T56; simp [hil]
    have hk := hok L[i] (List.getElem_mem hil)
    have hb := hle L[i] (List.getElem_mem hil)
    have hfl := fb_len L[i].f0 L[i].f1
    rw [List.drop_eq_getElem_cons hil] at h
    simp only [fbs, fends] at h
    refine Ev.step (f := fun k => tumbrellaw04_FrameTorn.l0 k L a1 (out ++ fb L[i].f0 L[i].f1) (ends ++ [((out ++ fb L[i].f0 L[i].f1).length : Int)]) L (L.length : Int) ((i + 1 : Nat) : Int)) (fun k => ?_) (ih (i + 1) (out ++ fb L[i].f0 L[i].f1) (ends ++ [((out ++ fb L[i].f0 L[i].f1).length : Int)]) (by omega) (by omega) (by rw [List.length_append]; omega) (by rw [List.length_append, List.length_singleton]; omega) ?_)
    · simp only [tumbrellaw04_FrameTorn.l0]
      rw [if_pos (by omega), if_pos (by omega), if_pos (by omega), hx, fbytes_f hk.1 hk.2 (by omega)]
      simp only [Option.bind_some, if_true]
      rw [if_pos (by omega), if_pos (by omega), wrap_succ i (by omega)]
    · have el : (out ++ fb L[i].f0 L[i].f1).length = out.length + (L[i].f1.length + 11) := by rw [List.length_append, hfl]
      rw [el]
      simpa only [List.append_assoc, List.singleton_append] using h

theorem torn_ends (L : List S56) (c : Nat) (F E : List Int) (hE : E.length ≤ 6) (hc : c ≤ 1000000) {r : Bool} : ∀ (L' : List S56) (s i W A : Nat), E.drop i = fends s L' → i + L'.length = E.length → W ≤ i →
    Ev (fun k => tumbrellaw04_FrameTorn.l1 k L (c : Int) F ((whole c W A s L').1 : Int) ((whole c W A s L').2 : Int) E (E.length : Int) (E.length : Int)) r →
    Ev (fun k => tumbrellaw04_FrameTorn.l1 k L (c : Int) F (W : Int) (A : Int) E (E.length : Int) (i : Int)) r := by
  intro L'
  induction L' with
  | nil =>
    intro s i W A h1 h2 hW h
    have : i = E.length := by simpa using h2
    subst this
    exact h
  | cons x L' ih =>
    intro s i W A h1 h2 hW h
    simp only [List.length_cons] at h2
    have hil : i < E.length := by omega
    rw [List.drop_eq_getElem_cons hil, fends] at h1
    injection h1 with h3 h4
    have hr : rd E (i : Int) = ((s + (x.f1.length + 11) : Nat) : Int) := by rw [rd_at hil, h3]
    rw [whole] at h
    by_cases hle : s + (x.f1.length + 11) ≤ c
    · rw [if_pos hle] at h
      refine Ev.step (fun k => ?_) (ih (s + (x.f1.length + 11)) (i + 1) (W + 1) (s + (x.f1.length + 11)) h4 (by omega) (by omega) h)
      simp only [tumbrellaw04_FrameTorn.l1]
      rw [if_pos (by omega), if_pos (by omega), if_pos (by omega), hr, if_pos (by omega), wrap_succ i (by omega), wrap_succ W (by omega)]
    · rw [if_neg hle] at h
      refine Ev.step (fun k => ?_) (ih (s + (x.f1.length + 11)) (i + 1) W A h4 (by omega) (by omega) h)
      simp only [tumbrellaw04_FrameTorn.l1]
      rw [if_pos (by omega), if_pos (by omega), if_pos (by omega), hr, if_neg (by omega), wrap_succ i (by omega)]

theorem torn_same (L M : List S56) (hL : L.length ≤ 6) (hok : ∀ x ∈ L, okF x) (w : Nat) (hM : M = L.take w) : ∀ (d i : Nat), M.length - i = d → Ev (fun k => tumbrellaw04_FrameTorn.l2 k L M (M.length : Int) (i : Int)) true := by
  intro d
  induction d with
  | zero =>
    intro i hd
    refine Ev.step (f := fun _ => some true) (fun k => ?_) (Ev.now _)
    simp only [tumbrellaw04_FrameTorn.l2]; rw [if_neg (by omega)]
  | succ d ih =>
    intro i hd
    have hi : i < M.length := by omega
    have hml : M.length ≤ L.length := by rw [hM, List.length_take]; omega
    have hx : rd_T56 L (i : Int) = L[i] := by unfold rd_T56; simp [show i < L.length by omega]
    have hy : rd_T56 M (i : Int) = L[i] := by
      have e : M[i] = L[i] := by subst hM; simp
      unfold rd_T56; simp [hi, e]
    have hk := hok L[i] (List.getElem_mem (by omega))
    refine Ev.step (f := fun k => tumbrellaw04_FrameTorn.l2 k L M (M.length : Int) ((i + 1 : Nat) : Int)) (fun k => ?_) (ih (i + 1) (by omega))
    simp only [tumbrellaw04_FrameTorn.l2]
    rw [if_pos (by omega), if_pos (by omega), if_pos (by omega), if_pos (by omega), hx, hy, fsame_f hk.2 hk.2]
    simp only [and_self, decide_true, Option.bind_some, if_true]
    rw [wrap_succ i (by omega)]

theorem fbs_isB : ∀ (L : List S56), (∀ x ∈ L, okF x) → (∀ x ∈ L, x.f1.length ≤ 400) → isB (fbs L) ∧ (fbs L).length ≤ 411 * L.length := by
  intro L
  induction L with
  | nil => intro _ _; exact ⟨fun x hx => by simp [fbs] at hx, by simp [fbs]⟩
  | cons x L ih =>
    intro hok hle
    have h := ih (fun y hy => hok y (List.mem_cons_of_mem _ hy)) (fun y hy => hle y (List.mem_cons_of_mem _ hy))
    have hx := hok x (List.mem_cons_self ..)
    have hxl := hle x (List.mem_cons_self ..)
    have hfl := fb_len x.f0 x.f1
    simp only [fbs]
    refine ⟨isB_append (fb_isB hx.1 hx.2 hxl) h.1, ?_⟩
    rw [List.length_append, List.length_cons]
    omega

theorem FrameTorn (l0 : List S56) (h0 : ∀ x ∈ l0, (Lit.int .u8 x.f0).wf = true ∧ ∀ y ∈ x.f1, (Lit.int .u8 y).wf = true) (a1 : Int) (ha1 : (Lit.int .i64 a1).wf = true) :
    ∃ k, tumbrellaw04_FrameTorn.f k l0 a1 = some true := by
  have hA : tumbrellaw04_awake.f = some true := rfl
  have hok : ∀ x ∈ l0, okF x := fun x hx => ⟨isB_of_wf (l := [x.f0]) (fun y hy => by rw [List.mem_singleton.1 hy]; exact (h0 x hx).1) x.f0 (List.mem_singleton.2 rfl), isB_of_wf (h0 x hx).2⟩
  by_cases hlong : (l0.length : Int) > 6
  · refine ⟨0, ?_⟩
    simp only [tumbrellaw04_FrameTorn.f, hA, Option.bind_some, if_true]
    rw [if_pos hlong]
  have hL : l0.length ≤ 6 := by omega
  have main : Ev (fun k => tumbrellaw04_FrameTorn.l0 k l0 a1 [] [] l0 (l0.length : Int) ((0 : Nat) : Int)) true := by
    by_cases hall : ∀ x ∈ l0, x.f1.length ≤ 400
    · refine torn_good l0 a1 hL hok hall _ 0 [] [] rfl (Nat.zero_le _) (by simp) (by simp) ?_
      simp only [List.drop_zero, List.nil_append, List.length_nil]
      obtain ⟨hFb, hFl⟩ := fbs_isB l0 hok hall
      obtain ⟨c, hc, hcl⟩ : ∃ c : Nat, mn (mx a1 0) ((fbs l0).length : Int) = (c : Int) ∧ c ≤ (fbs l0).length := by
        refine ⟨(mn (mx a1 0) ((fbs l0).length : Int)).toNat, ?_, ?_⟩ <;> unfold mn mx <;> split <;> split <;> omega
      rw [hc]
      refine torn_ends l0 c (fbs l0) (fends 0 l0) (by rw [fends_len]; exact hL) (by omega) l0 0 0 0 0 rfl (by rw [fends_len]; omega) (Nat.le_refl _) ?_
      have hlt : ((fbs l0).take c).length = c := by rw [List.length_take]; omega
      obtain ⟨w, a, e, hg, hae, hw, hwh⟩ := torn_all l0 hok hall c ((fbs l0).take c).length hcl (by omega)
      obtain ⟨hw1, hw2⟩ := hwh 0 0 0
      rw [Nat.zero_add, Nat.zero_add, Nat.zero_add] at hw1
      have hw3 : whole c 0 0 0 l0 = (w, a) := by
        rw [hw1]
        refine Prod.ext rfl ?_
        dsimp only
        split
        · rename_i h; rw [hw2 h]
        · rfl
      rw [hw3]
      dsimp only
      obtain ⟨K1, h1⟩ := fall_ev ((fbs l0).take c) (isB_take hFb c) (by omega)
      obtain ⟨K2, h2⟩ := torn_same l0 (l0.take w) hL hok w rfl _ 0 rfl
      dsimp only at h1 h2
      rw [hg] at h1
      refine ⟨K1 + K2 + 1 + 1, fun k hk => ?_⟩
      obtain ⟨k, rfl⟩ : ∃ m, k = m + 1 + 1 := ⟨k - 2, by omega⟩
      have hlw : (l0.take w).length = w := by rw [List.length_take]; omega
      simp only [tumbrellaw04_FrameTorn.l1]
      rw [if_neg (by omega), if_pos (by omega), if_pos (by omega)]
      simp only [Int.toNat_natCast]
      rw [h1 _ (by omega)]
      simp only [Option.bind_some]
      simp only [hlw, if_true]
      rw [hlw] at h2
      rcases hae with ⟨rfl, rfl⟩ | ⟨rfl, hlt2⟩
      · rw [if_neg (by simp), if_neg (by omega)]
        simp only [tumbrellaw04_FrameTorn.j2]
        rw [if_neg (by decide), hlw]
        exact h2 _ (by omega)
      · have hn : ((a : Int) == (c : Int)) = false := by simp; omega
        rw [hn, if_neg (by decide), if_pos (by omega)]
        simp only [tumbrellaw04_FrameTorn.j2]
        rw [if_neg (by decide), hlw]
        exact h2 _ (by omega)
    · refine torn_bad l0 a1 hL hok _ 0 [] [] rfl (Nat.zero_le _) (by simp) (by simp) ?_
      simp only [Classical.not_forall] at hall
      obtain ⟨x, hx, hn⟩ := hall
      obtain ⟨j, hj, rfl⟩ := List.getElem_of_mem hx
      exact ⟨j, hj, Nat.zero_le _, by omega⟩
  obtain ⟨K, hK⟩ := main
  refine ⟨K, ?_⟩
  simp only [tumbrellaw04_FrameTorn.f, hA, Option.bind_some, if_true]
  rw [if_neg hlong]
  exact hK K (Nat.le_refl _)
end Go.Proofs.Ytojepleodijdeaa.Pure
