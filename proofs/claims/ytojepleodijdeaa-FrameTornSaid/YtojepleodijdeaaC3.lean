/- Plain: where up to 32 bits, one behind the other, are turned, the sum tells. -/
import Derived.Test.YtojepleodijdeaaC2
import Derived.Test.YtojepleodijdeaaB4
namespace Go.Proofs.Ytojepleodijdeaa.VP
set_option linter.unusedVariables false
set_option linter.unusedSimpArgs false
open Go.RowKit Go.Proofs.Ytojepleodijdeaa.B Go.Proofs.YtojepleodijdeaaW.PrintWords Go.Proofs.YtojepleodijdeaaW.PrintLast Go.Proofs.YtojepleodijdeaaW.PrintMore
open Go.Proofs.Ytojepleodijdeaa.Crc (steps feed word feed_word feed_append feed_xor burst steps_xor steps_eq_zero)

def byteBits (c : Int) : List Bool := (List.range 8).map fun j => c.toNat.testBit j
def bitsOf : List Int → List Bool
  | [] => []
  | c :: l => byteBits c ++ bitsOf l
theorem byteBits_len (c : Int) : (byteBits c).length = 8 := by simp [byteBits]
theorem bitsOf_len (l : List Int) : (bitsOf l).length = 8 * l.length := by
  induction l with
  | nil => rfl
  | cons c l ih => simp only [bitsOf, List.length_append, byteBits_len, ih, List.length_cons]; omega
theorem bitsOf_append (l m : List Int) : bitsOf (l ++ m) = bitsOf l ++ bitsOf m := by
  induction l with
  | nil => rfl
  | cons c l ih => simp [bitsOf, ih]
theorem word_getLsbD (l : List Bool) : ∀ i, i < 32 → (word l).getLsbD i = l.getD i false := by
  induction l with
  | nil => intro i _; simp [word]
  | cons d l ih =>
    intro i hi
    rw [Crc.word_cons, BitVec.getLsbD_xor, BitVec.getLsbD_shiftLeft]
    cases i with
    | zero => cases d <;> simp
    | succ i =>
      have := ih i (by omega)
      have e1 : (if d then 1#32 else 0#32).getLsbD (i + 1) = false := by cases d <;> simp [BitVec.getLsbD_one]
      rw [e1]
      simp [this, hi]
theorem word_byte {c : Int} (h : 0 ≤ c ∧ c ≤ 255) : word (byteBits c) = b32 c := by
  apply BitVec.eq_of_getLsbD_eq
  intro i hi
  rw [word_getLsbD _ i hi]
  by_cases h8 : i < 8
  · rw [b32, BitVec.getLsbD_ofNat]
    simp [byteBits, h8, hi, List.getD_eq_getElem?_getD]
  · rw [b32_high h i (by omega)]
    simp [byteBits, h8, List.getD_eq_getElem?_getD]
theorem feed_bits {l : List Int} (hb : isB l) : ∀ s, feed s (bitsOf l) = crcL s l := by
  induction l with
  | nil => intro s; rfl
  | cons c l ih =>
    intro s
    have hc := hb c (List.mem_cons_self ..)
    rw [bitsOf, feed_append, feed_word (byteBits c) _ (by rw [byteBits_len]; omega), byteBits_len, word_byte hc, ih (fun x hx => hb x (List.mem_cons_of_mem _ hx))]
    rfl
theorem byteBits_inj {c d : Int} (hc : 0 ≤ c ∧ c ≤ 255) (hd : 0 ≤ d ∧ d ≤ 255) (h : byteBits c = byteBits d) : c = d := by
  have : c.toNat = d.toNat := by
    apply Nat.eq_of_testBit_eq
    intro i
    by_cases h8 : i < 8
    · have h2 := congrArg (fun l => l[i]?) h
      simpa [byteBits, h8] using h2
    · have h1 : c.toNat < 2 ^ i := Nat.lt_of_lt_of_le (by omega : c.toNat < 2 ^ 8) (Nat.pow_le_pow_right (by decide) (by omega))
      have h2 : d.toNat < 2 ^ i := Nat.lt_of_lt_of_le (by omega : d.toNat < 2 ^ 8) (Nat.pow_le_pow_right (by decide) (by omega))
      rw [Nat.testBit_lt_two_pow h1, Nat.testBit_lt_two_pow h2]
  omega
theorem bitsOf_inj {l m : List Int} (hl : isB l) (hm : isB m) (he : l.length = m.length) (h : bitsOf l = bitsOf m) : l = m := by
  induction l generalizing m with
  | nil => cases m with
    | nil => rfl
    | cons => simp at he
  | cons c l ih => cases m with
    | nil => simp at he
    | cons d m =>
      simp only [bitsOf] at h
      obtain ⟨h1, h2⟩ := List.append_inj h (by rw [byteBits_len, byteBits_len])
      rw [byteBits_inj (hl c (List.mem_cons_self ..)) (hm d (List.mem_cons_self ..)) h1, ih (fun x hx => hl x (List.mem_cons_of_mem _ hx)) (fun x hx => hm x (List.mem_cons_of_mem _ hx)) (by simpa using he) h2]
theorem bitsOf_get (l : List Int) : ∀ k, k < 8 * l.length → (bitsOf l)[k]? = some ((l.getD (k / 8) 0).toNat.testBit (k % 8)) := by
  induction l with
  | nil => intro k h; simp at h
  | cons c l ih =>
    intro k h
    rw [bitsOf]
    by_cases h8 : k < 8
    · rw [List.getElem?_append_left (by rw [byteBits_len]; exact h8)]
      have e1 : k / 8 = 0 := by omega
      have e2 : k % 8 = k := by omega
      simp [byteBits, h8, e1, e2]
    · rw [List.getElem?_append_right (by rw [byteBits_len]; omega), byteBits_len, ih (k - 8) (by simp only [List.length_cons] at h; omega)]
      have e1 : k / 8 = (k - 8) / 8 + 1 := by omega
      have e2 : k % 8 = (k - 8) % 8 := by omega
      rw [e1, e2]
      simp

/-- four bytes of a sum are its bits -/
theorem word_four (x : BitVec 32) : word (bitsOf (fourL (w32 x))) = x := by
  apply BitVec.eq_of_getLsbD_eq
  intro i hi
  rw [word_getLsbD _ i hi, List.getD_eq_getElem?_getD, bitsOf_get _ i (by rw [fourL_len]; omega), Option.getD_some]
  have hx := w32_lt x
  have key : ∀ j, j < 4 → ∀ t, t < 8 → (((fourL (w32 x)).getD j 0).toNat).testBit t = x.getLsbD (8 * j + t) := by
    intro j hj t ht
    have e : ((fourL (w32 x)).getD j 0).toNat = (x.toNat / 2 ^ (8 * j)) % 2 ^ 8 := by
      have h0 : x.toNat = (w32 x).toNat := by unfold w32; simp
      rw [h0]
      rcases (by omega : j = 0 ∨ j = 1 ∨ j = 2 ∨ j = 3) with rfl | rfl | rfl | rfl <;> simp only [fourL, List.getD_cons_zero, List.getD_cons_succ] <;> omega
    rw [e, Nat.testBit_mod_two_pow, ← Nat.shiftRight_eq_div_pow, Nat.testBit_shiftRight, BitVec.getLsbD]
    simp [ht]
  have := key (i / 8) (by omega) (i % 8) (by omega)
  rw [this]
  congr 1
  omega
/-- what is whole comes to one end -/
def good : BitVec 32 := steps 32 (~~~ 0#32)
theorem crc_four (s x : BitVec 32) : crcL s (fourL (w32 x)) = steps 32 (s ^^^ x) := by
  rw [← feed_bits fourL_isB, feed_word _ _ (by rw [bitsOf_len, fourL_len]; omega), bitsOf_len, fourL_len, word_four]
theorem xor_not (y : BitVec 32) : y ^^^ ~~~ y = ~~~ 0#32 := by
  apply BitVec.eq_of_getLsbD_eq
  intro i hi
  rw [BitVec.getLsbD_xor, BitVec.getLsbD_not, show (~~~ 0#32) = BitVec.allOnes 32 from by decide, BitVec.getLsbD_allOnes]
  simp [hi]
theorem crc_put (l : List Int) : crcL (~~~ 0#32) (putL l) = good := by
  rw [putL, crcL_append, ofL, crc_four]
  exact congrArg (steps 32) (xor_not _)
theorem fourL_inj {a b : Int} (ha : 0 ≤ a ∧ a < 4294967296) (hb : 0 ≤ b ∧ b < 4294967296) (h : fourL a = fourL b) : a = b := by
  simp only [fourL, List.cons.injEq, and_true] at h
  omega
theorem fourL_all {l : List Int} (hb : isB l) (h : l.length = 4) : ∃ x : BitVec 32, l = fourL (w32 x) := by
  match l, h with
  | [a, b, c, d], _ =>
    have h1 := hb a (by simp); have h2 := hb b (by simp); have h3 := hb c (by simp); have h4 := hb d (by simp)
    refine ⟨BitVec.ofNat 32 (a + 256 * b + 65536 * c + 16777216 * d).toNat, ?_⟩
    rw [w32_of (by omega)]
    simp only [fourL, List.cons.injEq, and_true]
    omega
/-- whoever is taken apart is whole -/
theorem cutL_good {q : List Int} (hb : isB q) (h : (cutL q).2 = true) : crcL (~~~ 0#32) q = good := by
  unfold cutL at h
  split at h
  · cases h
  · rename_i h4
    split at h
    · rename_i he
      have e : q = putL (q.take (q.length - 4)) := by
        rw [putL, ← he]; exact (List.take_append_drop _ _).symm
      rw [e, crc_put]
    · cases h
theorem cutL_false {q : List Int} (h : (cutL q).2 = false) : cutL q = ([], false) := by
  unfold cutL at h ⊢
  split
  · rfl
  · rename_i h4
    rw [if_neg h4] at h
    split
    · rename_i he; rw [if_pos he] at h; cases h
    · rfl

/-- which bits are turned -/
def turned (at' : Int) (turn : Nat) (m : Nat) (k : Nat) : Bool := decide (at' ≤ k ∧ (k : Int) < at' + m) && turn.testBit ((k : Int) - at').toNat
def turnBits (at' : Int) (turn : Nat) (m n : Nat) : List Bool := (List.range n).map (turned at' turn m)
/-- a burst is seen -/
theorem burst_seen (at' : Int) (turn n : Nat) (h : feed 0#32 (turnBits at' turn 32 n) = 0#32) : ∀ k, k < n → turned at' turn 32 k = false := by
  have hE : turnBits at' turn 32 n = List.replicate (min at'.toNat n) false ++ ((turnBits at' turn 32 n).drop (min at'.toNat n)).take 32 ++ List.replicate (n - min at'.toNat n - 32) false := by
    apply List.ext_getElem?
    intro i
    by_cases hi : i < n
    · have e0 : (turnBits at' turn 32 n)[i]? = some (turned at' turn 32 i) := by simp [turnBits, hi]
      rw [e0, List.append_assoc]
      by_cases h1 : i < min at'.toNat n
      · rw [List.getElem?_append_left (by simpa using h1)]
        have : turned at' turn 32 i = false := by
          unfold turned
          rw [decide_eq_false (by omega)]; rfl
        simp [this, List.getElem?_replicate, h1]
      · rw [List.getElem?_append_right (by simp; omega)]
        simp only [List.length_replicate]
        by_cases h2 : i - min at'.toNat n < 32
        · have hlen : ((List.drop (min at'.toNat n) (turnBits at' turn 32 n)).take 32).length = min 32 (n - min at'.toNat n) := by simp [turnBits]
          rw [List.getElem?_append_left (by rw [hlen]; omega), List.getElem?_take, if_pos h2, List.getElem?_drop, show min at'.toNat n + (i - min at'.toNat n) = i by omega, e0]
        · have hlen : ((List.drop (min at'.toNat n) (turnBits at' turn 32 n)).take 32).length = min 32 (n - min at'.toNat n) := by simp [turnBits]
          rw [List.getElem?_append_right (by rw [hlen]; omega), hlen, List.getElem?_replicate, if_pos (by omega)]
          have : turned at' turn 32 i = false := by
            unfold turned
            rw [decide_eq_false (by omega)]; rfl
          rw [this]
    · have hlen : ((List.drop (min at'.toNat n) (turnBits at' turn 32 n)).take 32).length = min 32 (n - min at'.toNat n) := by simp [turnBits]
      rw [List.getElem?_eq_none (by simp [turnBits]; omega), List.getElem?_eq_none]
      simp only [List.length_append, List.length_replicate, hlen]
      omega
  rw [hE] at h
  have hb := burst _ _ _ (by simp [turnBits]; omega) h
  intro k hk
  by_cases h1 : k < min at'.toNat n
  · unfold turned; rw [decide_eq_false (by omega)]; rfl
  · by_cases h2 : k - min at'.toNat n < 32
    · refine hb _ ?_
      rw [List.mem_iff_getElem?]
      refine ⟨k - min at'.toNat n, ?_⟩
      rw [List.getElem?_take, if_pos h2, List.getElem?_drop, show min at'.toNat n + (k - min at'.toNat n) = k by omega]
      simp [turnBits, hk]
    · unfold turned; rw [decide_eq_false (by omega)]; rfl
end Go.Proofs.Ytojepleodijdeaa.VP
