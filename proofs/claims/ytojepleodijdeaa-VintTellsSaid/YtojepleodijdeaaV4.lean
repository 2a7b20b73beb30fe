/- Plain: the references of layer 2 tell what vint tells. -/
import Derived.Test.YtojepleodijdeaaV3
namespace Go.Proofs.Ytojepleodijdeaa.VP
set_option linter.unusedVariables false
set_option linter.unusedSimpArgs false
open Go.RowKit Go.Proofs.Ytojepleodijdeaa.B Go.Proofs.YtojepleodijdeaaW.PrintWords Go.Proofs.YtojepleodijdeaaW.PrintLast Go.Proofs.YtojepleodijdeaaW.PrintMore

theorem rput_ev' (j : Nat) : ∀ n : Nat, j ≤ 9 → n < 128 ^ (j + 1) → n < 18446744073709551616 → Ev (fun k => tumbrelref02_Put.f k (n : Int)) (vputF j n) := by
  induction j with
  | zero =>
    intro n _ hn _
    refine Ev.step (f := fun _ => some [(n : Int)]) (fun k => ?_) (by simp only [vputF]; exact Ev.now _)
    simp only [tumbrelref02_Put.f]
    rw [if_pos (by omega), show (n : Int) % 256 = n by omega]
  | succ j ih =>
    intro n hj hn h64
    by_cases h : n < 128
    · refine Ev.step (f := fun _ => some [(n : Int)]) (fun k => ?_) (by rw [vputF, if_pos h]; exact Ev.now _)
      simp only [tumbrelref02_Put.f]
      rw [if_pos (by omega), show (n : Int) % 256 = n by omega]
    · have hd : n / 128 < 128 ^ (j + 1) := by rw [Nat.div_lt_iff_lt_mul (by decide)]; rw [Nat.pow_succ] at hn; exact hn
      have hl := vputF_length j (n / 128)
      obtain ⟨K, hK⟩ := ih (n / 128) (by omega) hd (by omega)
      dsimp only at hK
      refine ⟨K + 1, fun k hk => ?_⟩
      obtain ⟨k, rfl⟩ : ∃ m, k = m + 1 := ⟨k - 1, by omega⟩
      have e1 : IntKind.u64.wrap (Int.tdiv (n : Int) 128) = ((n / 128 : Nat) : Int) := by
        rw [Int.tdiv_eq_ediv_of_nonneg (by omega), wraps_u64 _ (by omega) (by omega)]; omega
      have e2 : (IntKind.u64.wrap (128 + Int.tmod (n : Int) 128)) % 256 = ((n % 128 + 128 : Nat) : Int) := by
        rw [Int.tmod_eq_emod_of_nonneg (by omega), wraps_u64 _ (by omega) (by omega)]; omega
      simp only [tumbrelref02_Put.f]
      rw [if_neg (by omega), e1, e2, hK k (by omega)]
      simp only [Option.bind_some, List.length_singleton]
      rw [vputF, if_neg h, if_pos (by omega)]
      rfl
theorem rput_ev {a : Int} (h : 0 ≤ a ∧ a < 18446744073709551616) : Ev (fun k => tumbrelref02_Put.f k a) (vput a.toNat) := by
  have := rput_ev' 9 a.toNat (by omega) (Nat.lt_trans (by omega : a.toNat < 18446744073709551616) (by decide)) (by omega)
  rwa [show ((a.toNat : Nat) : Int) = a by omega] at this

theorem rall_loop (l : List Int) (hu : isU l) (hl : l.length ≤ 1000000000) : ∀ (d i : Nat) (out : List Int), l.length - i = d → out.length ≤ 10 * i →
    Ev (fun k => tumbrelref02_All.l0 k l out (i : Int)) (out ++ vall (l.drop i)) := by
  intro d
  induction d with
  | zero =>
    intro i out hd ho
    refine Ev.step (f := fun _ => some out) (fun k => ?_) ?_
    · simp only [tumbrelref02_All.l0]; rw [if_neg (by omega)]
    · rw [List.drop_of_length_le (by omega)]; simp only [vall, List.append_nil]; exact Ev.now _
  | succ d ih =>
    intro i out hd ho
    have h1 : i < l.length := by omega
    have hx := hu l[i] (List.getElem_mem h1)
    have hv := vput_len l[i].toNat
    obtain ⟨K, hK⟩ := rput_ev hx
    obtain ⟨K2, hK2⟩ := ih (i + 1) (out ++ vput l[i].toNat) (by omega) (by rw [List.length_append]; omega)
    dsimp only at hK hK2
    refine ⟨K + K2 + 1, fun k hk => ?_⟩
    obtain ⟨k, rfl⟩ : ∃ m, k = m + 1 := ⟨k - 1, by omega⟩
    simp only [tumbrelref02_All.l0]
    rw [if_pos (by omega), if_pos (by omega), rd_at h1, hK k (by omega)]
    simp only [Option.bind_some]
    rw [if_pos (by omega), wrap_succ i (by omega), hK2 k (by omega), drop_cons h1, List.append_assoc]
    rfl
theorem rall_ev (l : List Int) (hu : isU l) (hl : l.length ≤ 1000000000) : Ev (fun k => tumbrelref02_All.f k l) (vall l) := by
  have := rall_loop l hu hl l.length 0 [] (by omega) (by simp)
  simpa [tumbrelref02_All.f] using this

/-- what the first i bytes say -/
def val (l : List Int) : Nat → Int
  | 0 => 0
  | i + 1 => val l i + (l.getD i 0 % 128) * 128 ^ i
theorem val_bd (l : List Int) : ∀ i, 0 ≤ val l i ∧ val l i < 128 ^ i := by
  intro i
  induction i with
  | zero => simp [val]
  | succ i ih =>
    have hp := pow_pos128 i
    have h1 : 0 ≤ (l.getD i 0 % 128) * 128 ^ i := Int.mul_nonneg (by omega) (by omega)
    have h2 : (l.getD i 0 % 128) * 128 ^ i ≤ 127 * 128 ^ i := Int.mul_le_mul_of_nonneg_right (by omega) (by omega)
    simp only [val, Int.pow_succ]
    omega
theorem getD_at {l : List Int} {i : Nat} (h : i < l.length) : l.getD i 0 = l[i] := by
  simp [List.getD_eq_getElem?_getD, List.getElem?_eq_getElem h]

theorem rget_back (l : List Int) (hb : isB l) (hl : l.length ≤ 140737488355328) (many : Nat) (hm : many < l.length) (T : Int) (hT : T = val l (many + 1)) (hT64 : T < 18446744073709551616) : ∀ (j : Nat) (n : Int), j ≤ many + 1 → 0 ≤ n → n * 128 ^ j + val l j = T →
    Ev (fun k => tumbrelref02_Get.l1 k l (many : Int) n ((j : Int) - 1)) (T, (many : Int) + 1, 0) := by
  intro j
  induction j with
  | zero =>
    intro n hj hn he
    refine Ev.step (f := fun _ => some (T, (many : Int) + 1, 0)) (fun k => ?_) (Ev.now _)
    simp only [tumbrelref02_Get.l1]
    rw [if_neg (by omega), wrap_succ many (by omega)]
    simp [val] at he
    rw [he]; rfl
  | succ j ih =>
    intro n hj hn he
    have h1 : j < l.length := by omega
    have hc := hb l[j] (List.getElem_mem h1)
    have hp := pow_pos128 j
    have hv := val_bd l j
    simp only [val, getD_at h1] at he
    have he2 : (128 * n + l[j] % 128) * 128 ^ j + val l j = T := by
      rw [← he, Int.pow_succ, Int.add_mul, Int.mul_comm (128 ^ j) 128, ← Int.mul_assoc, Int.mul_comm n 128]
      omega
    have hn' : 0 ≤ 128 * n + l[j] % 128 := by omega
    have hle : 128 * n + l[j] % 128 ≤ T := by
      have h3 : (128 * n + l[j] % 128) * 1 ≤ (128 * n + l[j] % 128) * 128 ^ j := Int.mul_le_mul_of_nonneg_left (by omega) hn'
      omega
    refine Ev.step (f := fun k => tumbrelref02_Get.l1 k l (many : Int) (128 * n + l[j] % 128) ((j : Int) - 1)) (fun k => ?_) (ih _ (by omega) hn' he2)
    simp only [tumbrelref02_Get.l1]
    have ej : (((j + 1 : Nat) : Int) - 1) = (j : Int) := by omega
    rw [ej, if_pos (by omega), if_pos (by omega), if_pos (by omega), rd_at h1, Int.tmod_eq_emod_of_nonneg hc.1]
    rw [wraps_u64 (128 * n) (by omega) (by omega), wraps_u64 (l[j] % 128) (by omega) (by omega), wraps_u64 _ hn' (by omega)]
    rw [show wrap64 ((j : Int) - 1) = (j : Int) - 1 by unfold wrap64; omega]

theorem rget_j2 (l : List Int) (hb : isB l) (hl : l.length ≤ 140737488355328) (i : Nat) (hi : i ≤ 9) (h1 : i < l.length) (hlast : i = 9 → l[i] ≤ 1) :
    Ev (fun k => tumbrelref02_Get.j2 k l (i : Int) false) (val l i + (l[i] % 128) * 128 ^ i, (i : Int) + 1, 0) := by
  have hc := hb l[i] (List.getElem_mem h1)
  have hp := part_lt i hi l[i] hc.1 hlast
  have hv := val_bd l i
  have h9 := pow_le9 i hi
  have hT : val l i + (l[i] % 128) * 128 ^ i = val l (i + 1) := by simp only [val, getD_at h1]
  have := rget_back l hb hl i h1 _ hT (by omega) (i + 1) 0 (by omega) (by omega) (by rw [← hT]; omega)
  refine Ev.step (f := fun k => tumbrelref02_Get.l1 k l (i : Int) 0 (i : Int)) (fun k => ?_) ?_
  · simp only [tumbrelref02_Get.j2]; rw [if_neg (by decide)]
  · rwa [show (((i + 1 : Nat) : Int) - 1) = (i : Int) by omega] at this
theorem rget_j2t (l : List Int) (x : Int) : Ev (fun k => tumbrelref02_Get.j2 k l x true) (0, 0, 2) :=
  Ev.step (f := fun _ => some (0, 0, 2)) (fun k => by simp only [tumbrelref02_Get.j2, if_true]) (Ev.now _)

theorem rget_loop (l : List Int) (hb : isB l) (hl : l.length ≤ 140737488355328) : ∀ (d i : Nat), l.length - i = d → i ≤ 9 → i ≤ l.length →
    Ev (fun k => tumbrelref02_Get.l0 k l (i : Int)) (gget i (val l i) (l.drop i)) := by
  intro d
  induction d with
  | zero =>
    intro i hd hi hil
    rw [List.drop_of_length_le (by omega), gget]
    refine Ev.step (f := fun k => tumbrelref02_Get.j1 k l (i : Int)) (fun k => ?_) (Ev.step (f := fun _ => some (0, 0, 3)) (fun k => ?_) (Ev.now _))
    · simp only [tumbrelref02_Get.l0]; rw [if_neg (by omega)]
    · simp only [tumbrelref02_Get.j1]; rw [if_pos (by omega)]
  | succ d ih =>
    intro i hd hi hil
    have h1 : i < l.length := by omega
    have hc := hb l[i] (List.getElem_mem h1)
    rw [drop_cons h1, gget]
    by_cases h9 : i = 9
    · subst h9
      refine Ev.step (f := fun k => tumbrelref02_Get.j1 k l ((9 : Nat) : Int)) (fun k => ?_) ?_
      · simp only [tumbrelref02_Get.l0]; rw [if_pos (by omega), if_neg (by omega)]
      · have hr : rd l 9 = l[9] := rd_at (i := 9) h1
        by_cases hbig : l[9] > 1
        · rw [if_pos ⟨rfl, hbig⟩]
          refine Ev.step (f := fun k => tumbrelref02_Get.j2 k l ((9 : Nat) : Int) true) (fun k => ?_) (rget_j2t _ _)
          simp only [tumbrelref02_Get.j1]
          rw [if_neg (by omega), if_pos (by omega), if_pos (by omega), hr, if_pos hbig]
        · rw [if_neg (fun h => hbig h.2), if_neg (by omega)]
          by_cases hz : l[9] = 0
          · rw [if_pos ⟨hz, by omega⟩]
            refine Ev.step (f := fun k => tumbrelref02_Get.j2 k l ((9 : Nat) : Int) true) (fun k => ?_) (rget_j2t _ _)
            simp only [tumbrelref02_Get.j1]
            rw [if_neg (by omega), if_pos (by omega), if_pos (by omega), hr, if_neg hbig, if_pos (by omega), if_pos (by omega), if_pos (by omega), rd_at h1, hz]
            rfl
          · rw [if_neg (fun h => hz h.1)]
            refine Ev.step (f := fun k => tumbrelref02_Get.j2 k l ((9 : Nat) : Int) false) (fun k => ?_) (rget_j2 l hb hl 9 (by omega) h1 (fun _ => by omega))
            simp only [tumbrelref02_Get.j1]
            rw [if_neg (by omega), if_pos (by omega), if_pos (by omega), hr, if_neg hbig, if_pos (by omega), if_pos (by omega), if_pos (by omega), rd_at h1, show (l[9] == 0) = false by simpa using hz]
    · rw [if_neg (fun h => h9 h.1)]
      by_cases h128 : l[i] ≥ 128
      · rw [if_pos h128]
        have := ih (i + 1) (by omega) (by omega) (by omega)
        simp only [val, getD_at h1] at this
        refine Ev.step (f := fun k => tumbrelref02_Get.l0 k l ((i + 1 : Nat) : Int)) (fun k => ?_) this
        simp only [tumbrelref02_Get.l0]
        rw [if_pos (by omega), if_pos (by omega), if_pos (by omega), rd_at h1, if_pos h128, wrap_succ i (by omega)]
      · rw [if_neg h128]
        refine Ev.step (f := fun k => tumbrelref02_Get.j1 k l (i : Int)) (fun k => ?_) ?_
        · simp only [tumbrelref02_Get.l0]
          rw [if_pos (by omega), if_pos (by omega), if_pos (by omega), rd_at h1, if_neg h128]
        · by_cases hz : l[i] = 0 ∧ 0 < i
          · rw [if_pos hz]
            refine Ev.step (f := fun k => tumbrelref02_Get.j2 k l (i : Int) true) (fun k => ?_) (rget_j2t _ _)
            simp only [tumbrelref02_Get.j1]
            rw [if_neg (by omega), if_neg (by omega), if_pos (by omega), if_pos (by omega), if_pos (by omega), rd_at h1, hz.1]
            rfl
          · rw [if_neg hz]
            refine Ev.step (f := fun k => tumbrelref02_Get.j2 k l (i : Int) false) (fun k => ?_) (rget_j2 l hb hl i hi h1 (fun h => absurd h h9))
            simp only [tumbrelref02_Get.j1]
            by_cases h0 : 0 < i
            · rw [if_neg (by omega), if_neg (by omega), if_pos (by omega), if_pos (by omega), if_pos (by omega), rd_at h1, show (l[i] == 0) = false by simpa using (fun h => hz ⟨h, h0⟩)]
            · rw [if_neg (by omega), if_neg (by omega), if_neg (by omega)]
theorem rget_ev (l : List Int) (hb : isB l) (hl : l.length ≤ 140737488355328) : Ev (fun k => tumbrelref02_Get.f k l) (gget 0 0 l) := by
  have := rget_loop l hb hl l.length 0 (by omega) (by omega) (by omega)
  simpa [tumbrelref02_Get.f, val] using this

theorem rsplit_loop (b : List Int) (hb : isB b) (hl : b.length ≤ 1000000000) : ∀ (d : Nat) (i : Nat) (out : List Int), b.length - i ≤ d → i ≤ b.length → out.length ≤ i → Ev (fun k => tumbrelref02_Split.l0 k b out (i : Int)) (gsplit d out (b.drop i)) := by
  intro d
  induction d with
  | zero =>
    intro i out hd hi ho
    rw [gsplit]
    refine Ev.step (f := fun _ => some (out, 0)) (fun k => ?_) (Ev.now _)
    simp only [tumbrelref02_Split.l0]; rw [if_neg (by omega)]
  | succ d ih =>
    intro i out hd hi ho
    rw [gsplit]
    by_cases he : b.drop i = []
    · rw [if_pos he]
      have : b.length ≤ i := List.drop_eq_nil_iff.1 he
      refine Ev.step (f := fun _ => some (out, 0)) (fun k => ?_) (Ev.now _)
      simp only [tumbrelref02_Split.l0]; rw [if_neg (by omega)]
    · rw [if_neg he]
      have hlt : i < b.length := by
        rcases Nat.lt_or_ge i b.length with h | h
        · exact h
        · exact absurd (List.drop_eq_nil_iff.2 h) he
      have hb' := isB_drop hb i
      obtain ⟨K, hK⟩ := rget_ev (b.drop i) hb' (by rw [List.length_drop]; omega)
      dsimp only at hK
      by_cases h0 : (gget 0 0 (b.drop i)).2.2 = 0
      · have hu := gget_used hb' h0
        rw [List.length_drop] at hu
        rw [if_pos h0]
        have := ih (i + (gget 0 0 (b.drop i)).2.1.toNat) (out ++ [(gget 0 0 (b.drop i)).1]) (by omega) (by omega) (by rw [List.length_append, List.length_singleton]; omega)
        obtain ⟨K2, hK2⟩ := this
        dsimp only at hK2
        refine ⟨K + K2 + 1, fun k hk => ?_⟩
        obtain ⟨k, rfl⟩ : ∃ m, k = m + 1 := ⟨k - 1, by omega⟩
        simp only [tumbrelref02_Split.l0]
        rw [if_pos (by omega), if_pos (by omega), if_pos (by omega), Int.toNat_natCast, hK k (by omega)]
        simp only [Option.bind_some]
        have ew : wrap64 ((i : Int) + (gget 0 0 (b.drop i)).2.1) = ((i + (gget 0 0 (b.drop i)).2.1.toNat : Nat) : Int) := by
          unfold wrap64; omega
        rw [if_pos h0, if_pos (by omega), ew, hK2 k (by omega), List.drop_drop]
      · rw [if_neg h0]
        refine ⟨K + 1, fun k hk => ?_⟩
        obtain ⟨k, rfl⟩ : ∃ m, k = m + 1 := ⟨k - 1, by omega⟩
        simp only [tumbrelref02_Split.l0]
        rw [if_pos (by omega), if_pos (by omega), if_pos (by omega), Int.toNat_natCast, hK k (by omega)]
        simp only [Option.bind_some]
        rw [if_neg h0]
theorem rsplit_ev (l : List Int) (hb : isB l) (hl : l.length ≤ 1000000000) : Ev (fun k => tumbrelref02_Split.f k l) (gsplit l.length [] l) := by
  have := rsplit_loop l hb hl l.length 0 [] (by omega) (by omega) (by simp)
  simpa [tumbrelref02_Split.f] using this
end Go.Proofs.Ytojepleodijdeaa.VP
