/- Plain: the sums of the program and of the reference, as functions of lists; Cut. -/
import Derived.Test.YtojepleodijdeaaB12
import Derived.Test.YtojepleodijdeaaV2
namespace Go.Proofs.Ytojepleodijdeaa.VP
set_option linter.unusedVariables false
set_option linter.unusedSimpArgs false
open Go.RowKit Go.Proofs.Ytojepleodijdeaa.B Go.Proofs.YtojepleodijdeaaW.PrintWords Go.Proofs.YtojepleodijdeaaW.PrintLast Go.Proofs.YtojepleodijdeaaW.PrintMore
open Go.Proofs.Ytojepleodijdeaa.Crc (steps)

theorem w32_of {a : Int} (h : 0 ≤ a ∧ a < 4294967296) : w32 (BitVec.ofNat 32 a.toNat) = a := by
  unfold w32; rw [BitVec.toNat_ofNat]; omega
theorem w32_not (x : BitVec 32) : w32 (~~~ x) = 4294967295 - w32 x := by
  have := x.isLt
  unfold w32; rw [BitVec.toNat_not]; omega
/-- the sum of more bytes -/
def moreL (a : Int) (l : List Int) : Int := w32 (~~~ crcL (~~~ BitVec.ofNat 32 a.toNat) l)
theorem moreL_lt (a : Int) (l : List Int) : 0 ≤ moreL a l ∧ moreL a l < 4294967296 := w32_lt _
theorem ofL_eq (l : List Int) : ofL l = moreL 0 l := rfl
theorem ofL_lt (l : List Int) : 0 ≤ ofL l ∧ ofL l < 4294967296 := w32_lt _
theorem more_f {a : Int} {l : List Int} (h : 0 ≤ a ∧ a < 4294967296) (hb : isB l) : sum_More.f a l = some (moreL a l) := by
  unfold sum_More.f; rw [if_pos ⟨h, hb⟩]; rfl
theorem of_f {l : List Int} (hb : isB l) : sum_Of.f l = some (ofL l) := by
  unfold sum_Of.f; rw [more_f (by decide) hb]; rfl
theorem put_f {l : List Int} (hb : isB l) (hl : l.length ≤ 1000000000) : sum_Put.f l = some (putL l) := by
  unfold sum_Put.f; rw [if_pos ⟨hb, by omega⟩]
theorem fourL_len (a : Int) : (fourL a).length = 4 := rfl
theorem putL_len (l : List Int) : (putL l).length = l.length + 4 := by simp [putL, fourL_len]
theorem fourL_isB {a : Int} : isB (fourL a) := by
  intro x hx
  simp only [fourL, List.mem_cons, List.not_mem_nil, or_false] at hx
  omega
theorem putL_isB {l : List Int} (hb : isB l) : isB (putL l) := isB_append hb fourL_isB
/-- parts, one behind the other -/
theorem moreL_append (l m : List Int) : moreL (ofL l) m = ofL (l ++ m) := by
  have h := ofL_lt l
  have e : BitVec.ofNat 32 (ofL l).toNat = ~~~ crcL (~~~ 0#32) l := by
    apply BitVec.eq_of_toNat_eq
    unfold ofL w32
    rw [BitVec.toNat_ofNat, Int.toNat_natCast]
    exact Nat.mod_eq_of_lt (~~~ crcL (~~~ 0#32) l).isLt
  unfold moreL
  rw [e, BitVec.not_not, ← crcL_append]
  rfl

/-! the reference -/
theorem rmore_loop (l : List Int) (hb : isB l) (hl : l.length ≤ 1000000000) : ∀ (d i : Nat) (s : BitVec 32), l.length - i = d → Ev (fun k => tumbrelref01_More.l0 k l (w32 s) (i : Int)) (w32 (~~~ crcL s (l.drop i))) := by
  intro d
  induction d with
  | zero =>
    intro i s hd
    rw [List.drop_of_length_le (by omega)]
    refine Ev.step (f := fun _ => some (w32 (~~~ s))) (fun k => ?_) (Ev.now _)
    have h := w32_lt s
    simp only [tumbrelref01_More.l0]
    rw [if_neg (by omega), w32_not]
    congr 1
    omega
  | succ d ih =>
    intro i s hd
    have h1 : i < l.length := by omega
    have hc := hb l[i] (List.getElem_mem h1)
    rw [List.drop_eq_getElem_cons h1]
    obtain ⟨K, hK⟩ := rentry_ev (s ^^^ b32 l[i])
    obtain ⟨K2, hK2⟩ := ih (i + 1) (crcByte s l[i]) (by omega)
    dsimp only at hK hK2
    refine ⟨K + K2 + 1, fun k hk => ?_⟩
    obtain ⟨k, rfl⟩ : ∃ m, k = m + 1 := ⟨k - 1, by omega⟩
    simp only [tumbrelref01_More.l0]
    rw [if_pos (by omega), if_pos (by omega), rd_at h1, show l[i] % (4294967296 : Int) = w32 (b32 l[i]) by rw [b32_val hc]; omega, xor32, hK k (by omega)]
    simp only [Option.bind_some]
    rw [wrap_succ i (by omega)]
    exact hK2 k (by omega)
theorem rmore_ev {a : Int} {l : List Int} (h : 0 ≤ a ∧ a < 4294967296) (hb : isB l) (hl : l.length ≤ 1000000000) : Ev (fun k => tumbrelref01_More.f k a l) (moreL a l) := by
  have := rmore_loop l hb hl l.length 0 (~~~ BitVec.ofNat 32 a.toNat) (by omega)
  rw [w32_not, w32_of h] at this
  refine Ev.congr (fun k => ?_) this
  simp only [tumbrelref01_More.f]
  rw [show ((4294967295 : Int) - a) % 4294967296 = 4294967295 - a by omega]
  rfl
theorem rof_ev {l : List Int} (hb : isB l) (hl : l.length ≤ 1000000000) : Ev (fun k => tumbrelref01_Of.f k l) (ofL l) := by
  obtain ⟨K, hK⟩ := rmore_ev (a := 0) (by decide) hb hl
  exact ⟨K, fun k hk => by have := hK k hk; dsimp only at this; simp only [tumbrelref01_Of.f, this, Option.bind_some]; rfl⟩
theorem rfour_ev {a : Int} (h : 0 ≤ a ∧ a < 4294967296) : Ev (fun k => tumbrelref01_Four.f k a) (fourL a) := by
  refine ⟨5, fun k hk => at_rounds (g := fun k => tumbrelref01_Four.f k a) (fun k => tumbrelref01_Four.mono a k) hk ?_⟩
  have d : ∀ x : Int, 0 ≤ x → Int.tdiv x 256 = x / 256 := fun x hx => Int.tdiv_eq_ediv_of_nonneg hx
  have m : ∀ x : Int, 0 ≤ x → Int.tmod x 256 = x % 256 := fun x hx => Int.tmod_eq_emod_of_nonneg hx
  have w : ∀ i : Int, 0 ≤ i → i < 10 → wrap64 (i + 1) = i + 1 := fun i h0 h1 => by unfold wrap64; omega
  simp only [tumbrelref01_Four.f, tumbrelref01_Four.l0]
  rw [if_pos (by decide), if_pos (by decide), w 0 (by decide) (by decide), if_pos (by decide), if_pos (by simp), w (0 + 1) (by decide) (by decide), if_pos (by decide), if_pos (by simp), w (0 + 1 + 1) (by decide) (by decide), if_pos (by decide), if_pos (by simp), w (0 + 1 + 1 + 1) (by decide) (by decide), if_neg (by decide)]
  simp only [List.nil_append, List.cons_append, fourL]
  congr 1
  rw [d a h.1, d _ (by omega), d _ (by omega), m a h.1, m _ (by omega), m _ (by omega), m _ (by omega)]
  simp only [List.cons.injEq, and_true]
  omega
theorem rput_ev1 {l : List Int} (hb : isB l) (hl : l.length ≤ 1000000000) : Ev (fun k => tumbrelref01_Put.f k l) (putL l) := by
  obtain ⟨K1, h1⟩ := rof_ev hb hl
  obtain ⟨K2, h2⟩ := rfour_ev (ofL_lt l)
  dsimp only at h1 h2
  refine ⟨K1 + K2, fun k hk => ?_⟩
  simp only [tumbrelref01_Put.f, Option.bind_some, List.nil_append, List.length_nil]
  rw [if_pos (by omega), h1 k (by omega)]
  simp only [Option.bind_some]
  rw [h2 k (by omega)]
  simp only [Option.bind_some]
  rw [if_pos (by rw [fourL_len]; omega)]
  rfl

/-- without the sum -/
def cutL (l : List Int) : List Int × Bool :=
  if l.length < 4 then ([], false)
  else if l.drop (l.length - 4) = fourL (ofL (l.take (l.length - 4))) then (l.take (l.length - 4), true) else ([], false)
theorem eq_loop (a b : List Int) (hl : a.length = b.length) (h : a.length ≤ 140737488355328) : ∀ (d i : Nat), a.length - i = d → Ev (fun k => slices_Equal_byte_byte.l0 k a b (a.length : Int) (i : Int)) (decide (a.drop i = b.drop i)) := by
  intro d
  induction d with
  | zero =>
    intro i hd
    refine Ev.step (f := fun _ => some true) (fun k => ?_) ?_
    · simp only [slices_Equal_byte_byte.l0]; rw [if_neg (by omega)]
    · rw [List.drop_of_length_le (by omega), List.drop_of_length_le (by omega)]; exact Ev.now _
  | succ d ih =>
    intro i hd
    have h1 : i < a.length := by omega
    have h2 : i < b.length := by omega
    rw [List.drop_eq_getElem_cons h1, List.drop_eq_getElem_cons h2]
    by_cases he : a[i] = b[i]
    · refine Ev.step (f := fun k => slices_Equal_byte_byte.l0 k a b (a.length : Int) ((i + 1 : Nat) : Int)) (fun k => ?_) ?_
      · simp only [slices_Equal_byte_byte.l0]
        rw [if_pos (by omega), if_pos (by omega), if_pos (by omega), if_pos (by omega), rd_at h1, rd_at h2, if_pos he, wrap_succ i (by omega)]
      · rw [dec_cons he]; exact ih (i + 1) (by omega)
    · refine Ev.step (f := fun _ => some false) (fun k => ?_) ?_
      · simp only [slices_Equal_byte_byte.l0]
        rw [if_pos (by omega), if_pos (by omega), if_pos (by omega), if_pos (by omega), rd_at h1, rd_at h2, if_neg he]
      · rw [dec_cons_ne he]; exact Ev.now _
theorem eq_ev (a b : List Int) (h : a.length ≤ 140737488355328) : Ev (fun k => slices_Equal_byte_byte.f k a b) (decide (a = b)) := by
  by_cases hl : a.length = b.length
  · refine Ev.congr (f := fun k => slices_Equal_byte_byte.l0 k a b (a.length : Int) ((0 : Nat) : Int)) (fun k => ?_) ?_
    · simp only [slices_Equal_byte_byte.f]; rw [if_pos (by omega)]; rfl
    · have := eq_loop a b hl h a.length 0 (by omega)
      simpa using this
  · refine Ev.congr (f := fun _ => some false) (fun k => ?_) ?_
    · simp only [slices_Equal_byte_byte.f]; rw [if_neg (by omega)]
    · have : decide (a = b) = false := by simp; intro e; exact hl (by rw [e])
      rw [this]; exact Ev.now _
theorem cut_ev {l : List Int} (hb : isB l) (hl : l.length ≤ 1000000000) : Ev (fun k => sum_Cut.f k l) (cutL l) := by
  unfold cutL
  by_cases h4 : l.length < 4
  · rw [if_pos h4]
    refine Ev.congr (f := fun _ => some (([] : List Int), false)) (fun k => ?_) (Ev.now _)
    simp only [sum_Cut.f]
    rw [if_pos (by unfold wrap64; omega)]
  · rw [if_neg h4]
    have hw : wrap64 ((l.length : Int) - 4) = ((l.length - 4 : Nat) : Int) := by unfold wrap64; omega
    have hbt := isB_take hb (l.length - 4)
    obtain ⟨K, hK⟩ := eq_ev (l.drop (l.length - 4)) (fourL (ofL (l.take (l.length - 4)))) (by rw [List.length_drop]; omega)
    dsimp only at hK
    refine ⟨K, fun k hk => ?_⟩
    simp only [sum_Cut.f, hw]
    rw [if_neg (by omega), if_pos (by omega), if_pos (by omega)]
    simp only [Int.toNat_natCast, of_f hbt, Option.bind_some]
    have hf : sum_four.f (ofL (l.take (l.length - 4))) = some (fourL (ofL (l.take (l.length - 4)))) := rfl
    rw [hf]
    simp only [Option.bind_some]
    rw [hK k hk]
    simp only [Option.bind_some]
    by_cases he : l.drop (l.length - 4) = fourL (ofL (l.take (l.length - 4)))
    · rw [if_pos he, if_pos (decide_eq_true he)]
      have hc : slices_Clone_byte_byte.f (l.take (l.length - 4)) = some (l.take (l.length - 4)) := by
        unfold slices_Clone_byte_byte.f
        rw [if_pos (by rw [List.length_take]; omega)]
      rw [hc]; rfl
    · rw [if_neg he, if_neg (by simpa using he)]
theorem cutL_put {l : List Int} : cutL (putL l) = (l, true) := by
  unfold cutL
  rw [if_neg (by rw [putL_len]; omega)]
  have e : (putL l).length - 4 = l.length := by rw [putL_len]; omega
  rw [e]
  have e1 : (putL l).take l.length = l := by simp [putL]
  have e2 : (putL l).drop l.length = fourL (ofL l) := by simp [putL]
  rw [e1, e2, if_pos rfl]
theorem rcut_ev {l : List Int} (hb : isB l) (hl : l.length ≤ 1000000000) : Ev (fun k => tumbrelref01_Cut.f k l) (cutL l) := by
  unfold cutL
  by_cases h4 : l.length < 4
  · rw [if_pos h4]
    refine Ev.congr (f := fun _ => some (([] : List Int), false)) (fun k => ?_) (Ev.now _)
    simp only [tumbrelref01_Cut.f]
    rw [if_pos (by omega)]
  · rw [if_neg h4]
    have hw : wrap64 ((l.length : Int) - 4) = ((l.length - 4 : Nat) : Int) := by unfold wrap64; omega
    have hbt := isB_take hb (l.length - 4)
    have hlt : (l.take (l.length - 4)).length = l.length - 4 := by rw [List.length_take]; omega
    obtain ⟨K1, h1⟩ := rput_ev1 hbt (by omega)
    obtain ⟨K2, h2⟩ := same_ev (putL (l.take (l.length - 4))) l (by rw [putL_len]; omega)
    dsimp only at h1 h2
    refine ⟨K1 + K2, fun k hk => ?_⟩
    simp only [tumbrelref01_Cut.f, hw]
    rw [if_neg (by omega)]
    simp only [Option.bind_some, List.nil_append, List.length_nil, Int.toNat_natCast]
    rw [if_pos (by omega), if_pos (by omega), if_pos (by omega)]
    rw [h1 k (by omega)]
    simp only [Option.bind_some]
    rw [h2 k (by omega)]
    simp only [Option.bind_some]
    have hiff : putL (l.take (l.length - 4)) = l ↔ l.drop (l.length - 4) = fourL (ofL (l.take (l.length - 4))) := by
      constructor
      · intro h
        have h3 := congrArg (List.drop (l.length - 4)) h
        rw [← h3, putL, List.drop_left' hlt]
      · intro h
        rw [putL, ← h]
        exact List.take_append_drop _ _
    by_cases he : l.drop (l.length - 4) = fourL (ofL (l.take (l.length - 4)))
    · rw [if_pos he, if_pos (decide_eq_true (hiff.2 he))]
    · rw [if_neg he, if_neg (by simp only [decide_eq_true_eq]; exact fun hh => he (hiff.1 hh))]
end Go.Proofs.Ytojepleodijdeaa.VP
