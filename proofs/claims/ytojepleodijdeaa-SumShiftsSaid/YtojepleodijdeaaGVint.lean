/- By hand: vint.lay and vint.Put (an array behind a pointer, cut to a slice): Put gives the bytes of vputF. -/
import Derived.Test.YtojepleodijdeaaB0
namespace Go.Proofs.Ytojepleodijdeaa.B
open Go.RowKit Go.Proofs.YtojepleodijdeaaW.PrintWords Go.Proofs.YtojepleodijdeaaW.PrintLast Go.Proofs.YtojepleodijdeaaW.PrintMore
set_option linter.unusedVariables false
set_option linter.unusedSimpArgs false

def vputF : Nat → Nat → List Int
  | 0, n => [(n : Int)]
  | k + 1, n => if n < 128 then [(n : Int)] else ((n % 128 + 128 : Nat) : Int) :: vputF k (n / 128)
def vint_Put.f (a0 : Int) : Option (List Int) := if 0 ≤ a0 ∧ a0 < 18446744073709551616 then some (vputF 9 a0.toNat) else none

theorem or128_fin : ∀ x : Fin 256, bits .or .u8 (x : Nat) 128 = ((x.1 % 128 + 128 : Nat) : Int) := by decide +kernel
theorem or128 (m : Nat) : bits .or .u8 ((m : Int) % 256) 128 = ((m % 128 + 128 : Nat) : Int) := by
  have h := or128_fin ⟨m % 256, Nat.mod_lt _ (by decide)⟩
  have e : ((m % 256 : Nat) : Int) = (m : Int) % 256 := by omega
  rw [← e]
  rw [show m % 128 = (m % 256) % 128 by omega]
  exact h
theorem vputF_length (k n : Nat) : 1 ≤ (vputF k n).length ∧ (vputF k n).length ≤ k + 1 := by
  induction k generalizing n with
  | zero => simp [vputF]
  | succ k ih =>
    unfold vputF
    split
    · simp
    · have := ih (n / 128)
      simp only [List.length_cons]; omega

/-- the block after k rounds -/
def Laid (w : World) (b k m N : Nat) : Prop :=
  ∃ L : List Int, L.length = 10 ∧ w.heap[b]? = some (.cells (nums .u8 L).toArray 104 (0, 0)) ∧ k ≤ 9 ∧ m * 128 ^ k < 18446744073709551616 ∧ L.take k ++ vputF (9 - k) m = vputF 9 N
theorem Laid.m_lt {w : World} {b k m N : Nat} (h : Laid w b k m N) : m < 18446744073709551616 := by
  obtain ⟨_, _, _, _, h, _⟩ := h
  have : 0 < 128 ^ k := Nat.pow_pos (by decide)
  exact Nat.lt_of_le_of_lt (Nat.le_mul_of_pos_right m this) h
theorem Laid.k_lt {w : World} {b k m N : Nat} (h : Laid w b k m N) (hm : 128 ≤ m) : k ≤ 8 := by
  obtain ⟨_, _, _, h9, h, _⟩ := h
  rcases Nat.lt_or_ge k 9 with hk | hk
  · omega
  · have : k = 9 := by omega
    subst this
    omega
theorem Laid.cell {w : World} {b k m N : Nat} (h : Laid w b k m N) : (∃ v, w.cell? ⟨b, k, none⟩ = some v) ∧ w.frozen? ⟨b, k, none⟩ = false := by
  obtain ⟨L, hL, hb, hk, _, _⟩ := h
  exact ⟨⟨.int .u8 (L.getD k 0), by simp [World.cell?, hb, nums, List.getElem?_eq_getElem (show k < L.length by omega)]⟩, by simp [World.frozen?, hb]⟩
theorem set_nums (L : List Int) (k : Nat) (x : Int) : (nums .u8 L).toArray.setIfInBounds k (.int .u8 x) = (nums .u8 (L.set k x)).toArray := by
  simp [nums, List.map_set]
theorem Laid.step {w : World} {b k m N : Nat} (h : Laid w b k m N) (hm : 128 ≤ m) : Laid (w.setCell ⟨b, k, none⟩ (.int .u8 ((m % 128 + 128 : Nat) : Int))) b (k + 1) (m / 128) N := by
  have hk := h.k_lt hm
  obtain ⟨L, hL, hb, _, hp, hv⟩ := h
  refine ⟨L.set k ((m % 128 + 128 : Nat) : Int), by simpa using hL, ?_, by omega, ?_, ?_⟩
  · rw [blk_set hb, set_nums]
  · refine Nat.lt_of_le_of_lt ?_ hp
    rw [Nat.pow_succ, Nat.mul_comm (128 ^ k), ← Nat.mul_assoc]
    exact Nat.mul_le_mul_right _ (Nat.div_mul_le_self m 128)
  · rw [← hv]
    have e : 9 - k = (9 - (k + 1)) + 1 := by omega
    rw [e]
    conv => rhs; rw [vputF, if_neg (by omega)]
    rw [List.take_succ_eq_append_getElem (by simp; omega), List.take_set_of_le (Nat.le_refl _)]
    simp
theorem Laid.last {w : World} {b k m N : Nat} (h : Laid w b k m N) (hm : m < 128) :
    ∃ L : List Int, L.length = 10 ∧ (w.setCell ⟨b, k, none⟩ (.int .u8 (m : Int))).heap[b]? = some (.cells (nums .u8 L).toArray 104 (0, 0)) ∧ k + 1 = (vputF 9 N).length ∧ L.take (k + 1) = vputF 9 N := by
  obtain ⟨L, hL, hb, hk, hp, hv⟩ := h
  have e : vputF (9 - k) m = [(m : Int)] := by
    cases h9 : 9 - k with
    | zero => rfl
    | succ j => rw [vputF, if_pos hm]
  rw [e] at hv
  refine ⟨L.set k (m : Int), by simpa using hL, by rw [blk_set hb, set_nums], ?_, ?_⟩
  · rw [← hv]; simp; omega
  · rw [← hv, List.take_succ_eq_append_getElem (by simp; omega), List.take_set_of_le (Nat.le_refl _)]
    simp

set_option maxRecDepth 100000 in
theorem lay_calls (N b : Nat) (w : World) (B : Nat) (hB : B ≤ b) (hN : N < 18446744073709551616) (h0 : Laid w b 0 N N) (w0 : World) (hw : Below B w0 w) :
    Calls Try.prog 68 #[.pointer (some ⟨b, 0, none⟩), .int .u64 N] w fun e w' => e = .returned (.int .i64 ((vputF 9 N).length : Int)) ∧ Below B w0 w' ∧
      ∃ L : List Int, L.length = 10 ∧ w'.heap[b]? = some (.cells (nums .u8 L).toArray 104 (0, 0)) ∧ L.take (vputF 9 N).length = vputF 9 N := by
  go_enter Try.func68, Try.ntmps68
  go_wp2
  go_loopw [1, 5] (fun n i wr => ∃ k m : Nat, i = .int .i64 k ∧ n = .int .u64 m ∧ k ≤ 9 ∧ Aside0 (Laid wr b k m N) ∧ Aside0 (Below B w0 wr)) (fun n i _ => (intOf n).toNat)
  case atStart => exact ⟨0, N, rfl, rfl, by omega, ⟨h0⟩, ⟨hw⟩⟩
  case round =>
    obtain ⟨k, m, rfl, rfl, hk, HL, HB⟩ := hrel
    obtain ⟨⟨v, hc⟩, hf⟩ := HL.out.cell
    have hm := HL.out.m_lt
    by_cases h : 128 ≤ m
    · have hk10 : (k : Int) < 10 := by have := HL.out.k_lt h; omega
      go_wp2
      go_roundw
      case rel =>
        refine ⟨k + 1, m / 128, by go_num, by simp, by have := HL.out.k_lt h; omega, ⟨?_⟩, ⟨?_⟩⟩
        · rw [or128]; exact HL.out.step h
        · exact HB.out.setCell (p := ⟨b, k, none⟩) hB _
      case measure => simp [intOf]; omega
    · have hk10 : (k : Int) < 10 := by omega
      go_wp2
      go_ret
      obtain ⟨L, hL, hb, hk1, ht⟩ := HL.out.last (by omega)
      refine ⟨by rw [← hk1]; rfl, HB.out.setCell (p := ⟨b, k, none⟩) hB _, L, hL, hb, by rw [← hk1]; rw [hk1] at ht; rw [hk1]; exact ht⟩

theorem laid_new (w : World) (N : Nat) (hN : N < 18446744073709551616) :
    Laid (w.alloc (.cells #[.int .u8 0, .int .u8 0, .int .u8 0, .int .u8 0, .int .u8 0, .int .u8 0, .int .u8 0, .int .u8 0, .int .u8 0, .int .u8 0] 104)) w.heap.size 0 N N :=
  ⟨List.replicate 10 0, rfl, blk_new w _, by omega, by simpa using hN, by simp⟩
/-- what lies in a block, from its head on, is a row that is read -/
theorem view_block (w : World) (b cap : Nat) (L r : List Int) (ok : Nat → Prop) (hb : w.heap[b]? = some (.cells (nums .u8 L).toArray 104 (0, 0))) (ht : L.take r.length = r) (hok : ok b) (hl : r.length ≤ 9223372036854775807) (hc : r.length ≤ cap) (e base : Nat) :
    Kd.V (Kd.int .u8) e w base ok (.slice (some ⟨b, 0, none⟩) r.length cap) r := by
  refine Kd.V_mk hc (fun W' hW => ?_)
  have hlt : b < w.heap.size := (Array.getElem?_eq_some_iff.1 hb).1
  have hb' := (hW b hok hlt).trans hb
  refine Kd.C_of_reads (d := (0 : Int)) (h1 := fun _ => rfl) ⟨rfl, hl, fun hn => ⟨_, rfl, fun j hj => ?_⟩⟩
  rw [add_plain, blk_cell hb']
  have hlL : r.length ≤ L.length := by
    have := congrArg List.length ht
    rw [List.length_take] at this
    omega
  have e1 : L[j]? = r[j]? := by
    have h2 := congrArg (fun l => l[j]?) ht
    simpa [List.getElem?_take, hj] using h2
  simp only [nums, List.getElem?_toArray, List.getElem?_map, e1, List.getElem?_eq_getElem hj, Option.map_some, List.getD_eq_getElem?_getD, Option.getD_some]

set_option maxRecDepth 100000 in
theorem vint_Put.calls (a0 : Int) (r : List Int) (w : World) (h : vint_Put.f a0 = some r) :
    Calls Try.prog 21 #[.int .u64 a0] w fun e w' => ∃ v0_ : Value, e = .returned v0_ ∧ Kd.V (Kd.int .u8) 5 w' w.heap.size (fun k_ => w.heap.size ≤ k_) v0_ r ∧ Below w.heap.size w w' := by
  unfold vint_Put.f at h
  split at h
  case isFalse => cases h
  rename_i hr
  obtain ⟨N, rfl⟩ := Int.eq_ofNat_of_zero_le hr.1
  have hN : N < 18446744073709551616 := by have := hr.2; omega
  rw [Int.toNat_natCast] at h
  have hlen := vputF_length 9 N
  obtain rfl := Option.some.inj h
  clear h hr
  have hl10 : ((vputF 9 N).length : Int) ≤ 10 := by omega
  have hal : Try.prog.arrayLen 104 = 10 := by kernel_rfl
  go_enter Try.func21, Try.ntmps21
  go_wp2_with (go_at_call 68; refine (lay_calls N w.heap.size _ w.heap.size (Nat.le_refl _) hN (laid_new w N hN) w ((Below.refl _ _).alloc (Nat.le_refl _) _)).mono ?_; rintro e w' ⟨rfl, hb, L, hL, hblk, ht⟩; have HL := Aside0.mk hL; have HK := Aside0.mk hblk; have HT := Aside0.mk ht; have HB := Aside0.mk hb; clear hL hblk ht hb)
  go_ret
  exact ⟨_, rfl, view_block _ _ _ L _ _ HK.out HT.out (Nat.le_refl _) (by omega) (Nat.le_refl _) _ _, HB.out⟩
end Go.Proofs.Ytojepleodijdeaa.B
