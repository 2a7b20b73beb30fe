/- Proved: one byte more is one step by the table, and sums of bytes of one length differ by nothing but where these do, for any two rows of up to 600 bytes and any byte. No conditions beyond the statement's. -/
import Derived.Test.YtojepleodijdeaaSS
import Derived.Test.YtojepleodijdeaaC2
namespace Go.Proofs.Ytojepleodijdeaa.Pure
set_option linter.unusedVariables false
set_option linter.unusedSimpArgs false
open Go.RowKit Go.Proofs.Ytojepleodijdeaa.B Go.Proofs.Ytojepleodijdeaa.VP Go.Proofs.YtojepleodijdeaaW.PrintWords Go.Proofs.YtojepleodijdeaaW.PrintLast Go.Proofs.YtojepleodijdeaaW.PrintMore
open Go.Proofs.Ytojepleodijdeaa.Crc (steps steps_xor)

theorem ones32 : (4294967295 : Int) = w32 (~~~ 0#32) := by decide
theorem not_bits (x : BitVec 32) : Go.bits .xor .u32 4294967295 (w32 x) = w32 (~~~ x) := by
  rw [ones32, xor32]
  congr 1
theorem ofL_not (l : List Int) : Go.bits .xor .u32 4294967295 (ofL l) = w32 (crcL (~~~ 0#32) l) := by
  unfold ofL
  rw [not_bits, BitVec.not_not]
def x8 (c d : Int) : Int := Go.bits .xor .u8 c d
theorem x8_byte {c d : Int} (hc : 0 ≤ c ∧ c ≤ 255) (hd : 0 ≤ d ∧ d ≤ 255) : (0 ≤ x8 c d ∧ x8 c d ≤ 255) ∧ b32 (x8 c d) = b32 c ^^^ b32 d := by
  obtain ⟨a, rfl⟩ := Int.eq_ofNat_of_zero_le hc.1
  obtain ⟨b, rfl⟩ := Int.eq_ofNat_of_zero_le hd.1
  have e : x8 (a : Int) (b : Int) = ((a ^^^ b : Nat) : Int) := by
    show IntKind.u8.wrap (((BitVec.ofInt 8 (a : Int) ^^^ BitVec.ofInt 8 (b : Int)).toNat : Nat) : Int) = _
    rw [BitVec.ofInt_natCast, BitVec.ofInt_natCast, BitVec.toNat_xor, BitVec.toNat_ofNat, BitVec.toNat_ofNat, Nat.mod_eq_of_lt (by omega), Nat.mod_eq_of_lt (by omega), IntKind.wrap_u8]
    have : a ^^^ b < 2 ^ 8 := Nat.xor_lt_two_pow (by omega) (by omega)
    omega
  have hlt : a ^^^ b < 2 ^ 8 := Nat.xor_lt_two_pow (by omega) (by omega)
  refine ⟨by rw [e]; omega, ?_⟩
  unfold b32
  rw [e, Int.toNat_natCast, Int.toNat_natCast, Int.toNat_natCast]
  apply BitVec.eq_of_toNat_eq
  rw [BitVec.toNat_xor, BitVec.toNat_ofNat, BitVec.toNat_ofNat, BitVec.toNat_ofNat, Nat.mod_eq_of_lt (by omega), Nat.mod_eq_of_lt (by omega), Nat.mod_eq_of_lt (by omega)]
theorem xor6 (a b c x y : BitVec 32) : a ^^^ b ^^^ c ^^^ (x ^^^ y) = (a ^^^ x) ^^^ (b ^^^ y) ^^^ c := by
  apply BitVec.eq_of_getLsbD_eq
  intro i hi
  simp only [BitVec.getLsbD_xor]
  cases a.getLsbD i <;> cases b.getLsbD i <;> cases c.getLsbD i <;> cases x.getLsbD i <;> cases y.getLsbD i <;> rfl
theorem not3 (a b c : BitVec 32) : ~~~ (a ^^^ b ^^^ c) = (~~~ a) ^^^ (~~~ b) ^^^ (~~~ c) := by
  apply BitVec.eq_of_getLsbD_eq
  intro i hi
  simp only [BitVec.getLsbD_xor, BitVec.getLsbD_not, hi, decide_true, Bool.true_and]
  cases a.getLsbD i <;> cases b.getLsbD i <;> cases c.getLsbD i <;> rfl
theorem crc3 : ∀ (l m : List Int), l.length = m.length → isB l → isB m → ∀ a b c, crcL (a ^^^ b ^^^ c) (List.zipWith x8 l m) = crcL a l ^^^ crcL b m ^^^ crcL c (List.replicate l.length 0) := by
  intro l
  induction l with
  | nil =>
    intro m h _ _ a b c
    cases m with
    | nil => rfl
    | cons y m => simp at h
  | cons x l ih =>
    intro m h hl hm a b c
    cases m with
    | nil => simp at h
    | cons y m =>
      have hx := hl x (List.mem_cons_self ..)
      have hy := hm y (List.mem_cons_self ..)
      have hb := x8_byte hx hy
      have step : crcByte (a ^^^ b ^^^ c) (x8 x y) = crcByte a x ^^^ crcByte b y ^^^ crcByte c 0 := by
        unfold crcByte
        rw [hb.2, xor6, steps_xor, steps_xor]
        congr 2
        apply BitVec.eq_of_getLsbD_eq
        intro i hi
        simp [b32]
      rw [List.zipWith_cons_cons, List.length_cons, List.replicate_succ]
      show crcL (crcByte (a ^^^ b ^^^ c) (x8 x y)) (List.zipWith x8 l m) = crcL (crcByte a x) l ^^^ crcL (crcByte b y) m ^^^ crcL (crcByte c 0) (List.replicate l.length 0)
      rw [step]
      exact ih m (by simpa using h) (fun z hz => hl z (List.mem_cons_of_mem _ hz)) (fun z hz => hm z (List.mem_cons_of_mem _ hz)) _ _ _
theorem shifts_lin (l m : List Int) (h : l.length = m.length) (hl : isB l) (hm : isB m) : ofL (List.zipWith x8 l m) = Go.bits .xor .u32 (Go.bits .xor .u32 (ofL l) (ofL m)) (ofL (List.replicate l.length 0)) := by
  have h3 := crc3 l m h hl hm (~~~ 0#32) (~~~ 0#32) (~~~ 0#32)
  have e : (~~~ 0#32) ^^^ (~~~ 0#32) ^^^ (~~~ 0#32) = ~~~ 0#32 := by decide
  rw [e] at h3
  unfold ofL
  rw [xor32, xor32, h3, not3]
theorem shifts_one (l : List Int) (hl : isB l) (x : Int) (hx : 0 ≤ x ∧ x ≤ 255) :
    ofL (l ++ [x]) = Go.bits .xor .u32 4294967295 (Go.bits .xor .u32 ((Go.bits .xor .u32 4294967295 (ofL l)) / 256) (tabE (Go.bits .xor .u8 ((Go.bits .xor .u32 4294967295 (ofL l)) % 256) x).toNat)) := by
  rw [ofL_not]
  generalize hs : crcL (~~~ 0#32) l = s
  obtain ⟨j, hj, hx8⟩ := idx8 s hx
  have e8 : (w32 s) % 256 = IntKind.u8.wrap (w32 s) := by rw [IntKind.wrap_u8]
  have hd8 : (w32 s) / (256 : Int) = w32 (s >>> 8) := by simp only [w32, BitVec.toNat_ushiftRight, Nat.shiftRight_eq_div_pow]; omega
  rw [show Go.bits .xor .u8 ((w32 s) % 256) x = (j : Int) from by first | exact hx8 | (rw [e8]; exact hx8), Int.toNat_natCast, hd8, tabE, xor32, hj.out.2, ← crcByte_table s hx, not_bits]
  unfold ofL
  rw [crcL_append, hs]
  rfl
theorem zip_isB {l m : List Int} (hl : isB l) (hm : isB m) : isB (List.zipWith x8 l m) := by
  intro z hz
  obtain ⟨i, hi, rfl⟩ := List.getElem_of_mem hz
  rw [List.getElem_zipWith]
  exact (x8_byte (hl _ (List.getElem_mem _)) (hm _ (List.getElem_mem _))).1
theorem zeros_isB (n : Nat) : isB (List.replicate n 0) := by
  intro x hx
  rw [List.mem_replicate] at hx
  omega
theorem shifts_loop (l m : List Int) (h : l.length = m.length) (hl : isB l) (hm : isB m) (hn : l.length ≤ 600) (x : Int) (hx : 0 ≤ x ∧ x ≤ 255) : ∀ (d i : Nat) (z : List Int), l.length - i = d → i ≤ l.length → z.length = l.length → (∀ j, j < i → z[j]? = (List.zipWith x8 l m)[j]?) →
    Ev (fun k => tumbrellaw01_SumShifts.l0 k l m x (Go.bits .xor .u32 4294967295 (ofL l)) z (List.replicate l.length 0) (l.length : Int) (i : Int) (tabE (Go.bits .xor .u8 ((Go.bits .xor .u32 4294967295 (ofL l)) % 256) x).toNat)) true := by
  intro d
  have hzl : (List.zipWith x8 l m).length = l.length := by rw [List.length_zipWith]; omega
  induction d with
  | zero =>
    intro i z hd hi hz hj
    have hzz : z = List.zipWith x8 l m := by
      apply List.ext_getElem?
      intro j
      by_cases hjl : j < i
      · exact hj j hjl
      · rw [List.getElem?_eq_none (by omega), List.getElem?_eq_none (by omega)]
    subst hzz
    refine Ev.step (f := fun _ => some true) (fun k => ?_) (Ev.now _)
    simp only [tumbrellaw01_SumShifts.l0]
    have hlx : isB (l ++ [x]) := isB_append hl (fun y hy => by rw [List.mem_singleton.1 hy]; exact hx)
    rw [if_neg (by omega), Option.bind_some, if_pos (by simp; omega), Option.bind_some, Option.bind_some, if_pos (by simp; omega), List.nil_append, of_f hlx, Option.bind_some, if_pos (shifts_one l hl x hx), of_f (zip_isB hl hm), Option.bind_some, of_f hl, Option.bind_some, of_f hm, Option.bind_some, of_f (zeros_isB _), Option.bind_some, ← shifts_lin l m h hl hm]
    simp
  | succ d ih =>
    intro i z hd hi hz hj
    have hil : i < l.length := by omega
    refine Ev.step (fun k => ?_) (ih (i + 1) (z.set i (x8 l[i] (m[i]'(by omega)))) (by omega) (by omega) (by rw [List.length_set]; exact hz) (fun j hjl => ?_))
    · simp only [tumbrellaw01_SumShifts.l0]
      rw [if_pos (by omega), if_pos (by omega), if_pos (by omega), if_pos (by omega), if_pos (by omega), Int.toNat_natCast, rd_at hil, rd_at (show i < m.length by omega), wrap_succ i (by omega)]
      rfl
    · by_cases hji : j = i
      · subst hji
        rw [List.getElem?_set_self (by omega), List.getElem?_eq_getElem (by omega), List.getElem_zipWith]
      · rw [List.getElem?_set_ne (by omega)]
        exact hj j (by omega)
theorem SumShifts (l : List Int) (_ : l.length ≤ maxLen) (hl' : ∀ y ∈ l, (Lit.int .u8 y).wf = true) (m : List Int) (_ : m.length ≤ maxLen) (hm' : ∀ y ∈ m, (Lit.int .u8 y).wf = true) (x : Int) (hx' : (Lit.int .u8 x).wf = true) : ∃ k, tumbrellaw01_SumShifts.f k l m x = some true := by
  have hl := isB_of_wf hl'
  have hm := isB_of_wf hm'
  have hx : 0 ≤ x ∧ x ≤ 255 := isB_of_wf (l := [x]) (fun y hy => by rw [List.mem_singleton.1 hy]; exact hx') x (List.mem_singleton.2 rfl)
  have hA : tumbrellaw01_awake.f = some true := rfl
  have hbig : ∀ k, tumbrellaw01_SumShifts.j0 (k + 1) l m x true = some true := by
    intro k
    rw [tumbrellaw01_SumShifts.j0, if_pos rfl]
  by_cases h6 : (l.length : Int) > 600
  · refine ⟨1, ?_⟩
    unfold tumbrellaw01_SumShifts.f
    rw [hA, Option.bind_some, if_pos rfl, if_pos h6]
    exact hbig 0
  by_cases he : (m.length : Int) = (l.length : Int)
  · obtain ⟨K, hK⟩ := shifts_loop l m (by omega) hl hm (by omega) x hx l.length 0 (List.replicate l.length 0) (by omega) (by omega) (by simp) (fun j hj => by omega)
    dsimp only at hK
    refine ⟨K + 1, ?_⟩
    unfold tumbrellaw01_SumShifts.f
    have hne : ((m.length : Int) != (l.length : Int)) = false := by simp [he]
    rw [hA, Option.bind_some, if_pos rfl, if_neg h6, hne, tumbrellaw01_SumShifts.j0, if_neg Bool.false_ne_true]
    unfold tvF
    rw [of_f hl, Option.bind_some, Option.bind_some, Option.bind_some, if_pos (by omega), if_pos (by omega), Int.toNat_natCast]
    exact hK K (Nat.le_refl _)
  · refine ⟨1, ?_⟩
    unfold tumbrellaw01_SumShifts.f
    have hne : ((m.length : Int) != (l.length : Int)) = true := by simpa using he
    rw [hA, Option.bind_some, if_pos rfl, if_neg h6, hne]
    exact hbig 0
end Go.Proofs.Ytojepleodijdeaa.Pure
