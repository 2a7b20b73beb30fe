/- CRC32C by bits: at most 32 turned bits are seen. Plain Lean. -/
namespace Go.Proofs.Ytojepleodijdeaa.Crc
/-- one division by the polynomial -/
def step (s : BitVec 32) : BitVec 32 := if s.getLsbD 0 then (s >>> 1) ^^^ 0x82f63b78#32 else s >>> 1

theorem step_xor (a b : BitVec 32) : step (a ^^^ b) = step a ^^^ step b := by
  unfold step
  rw [BitVec.getLsbD_xor, BitVec.ushiftRight_xor_distrib]
  cases ha : a.getLsbD 0 <;> cases hb : b.getLsbD 0 <;> simp only [Bool.xor_false, Bool.xor_true, Bool.not_true, Bool.not_false, if_true, if_false, Bool.false_eq_true] <;>
    apply BitVec.eq_of_getLsbD_eq <;> intro i hi <;> simp only [BitVec.getLsbD_xor] <;>
    cases (a >>> 1).getLsbD i <;> cases (b >>> 1).getLsbD i <;> cases (0x82f63b78#32).getLsbD i <;> rfl

theorem step_zero : step 0#32 = 0#32 := by decide

theorem step_eq_zero (s : BitVec 32) (h : step s = 0#32) : s = 0#32 := by
  unfold step at h
  split at h
  · exfalso
    have h31 := congrArg (fun x => BitVec.getLsbD x 31) h
    simp at h31
  · rename_i h0
    apply BitVec.eq_of_getLsbD_eq
    intro i hi
    cases i with
    | zero => simpa using h0
    | succ i =>
      have := congrArg (fun x => BitVec.getLsbD x i) h
      simpa [BitVec.getLsbD_ushiftRight, Nat.add_comm] using this

def steps : Nat → BitVec 32 → BitVec 32
  | 0, s => s
  | n + 1, s => steps n (step s)

theorem steps_xor (n : Nat) : ∀ a b, steps n (a ^^^ b) = steps n a ^^^ steps n b := by
  induction n with
  | zero => intro a b; rfl
  | succ n ih => intro a b; simp only [steps, step_xor, ih]
theorem steps_zero (n : Nat) : steps n 0#32 = 0#32 := by
  induction n with
  | zero => rfl
  | succ n ih => simp only [steps, step_zero, ih]
theorem steps_eq_zero (n : Nat) : ∀ s, steps n s = 0#32 → s = 0#32 := by
  induction n with
  | zero => intro s h; exact h
  | succ n ih => intro s h; exact step_eq_zero _ (ih _ h)
theorem steps_add (m n : Nat) : ∀ s, steps (m + n) s = steps n (steps m s) := by
  induction m with
  | zero => intro s; simp [steps]
  | succ m ih => intro s; rw [show m + 1 + n = (m + n) + 1 from by omega]; simp only [steps, ih]

/-- bits, the first one lowest -/
def word : List Bool → BitVec 32
  | [] => 0#32
  | d :: l => (word l <<< 1) ||| (if d then 1#32 else 0#32)

/-- bit by bit -/
def feed (s : BitVec 32) : List Bool → BitVec 32
  | [] => s
  | d :: l => feed (step (s ^^^ (if d then 1#32 else 0#32))) l

theorem feed_append (l m : List Bool) : ∀ s, feed s (l ++ m) = feed (feed s l) m := by
  induction l with
  | nil => intro s; rfl
  | cons d l ih => intro s; simp only [List.cons_append, feed, ih]

theorem step_shl (x : BitVec 32) (h : x.getLsbD 31 = false) : step (x <<< 1) = x := by
  unfold step
  have h0 : (x <<< 1).getLsbD 0 = false := by simp
  rw [h0]
  apply BitVec.eq_of_getLsbD_eq
  intro i hi
  simp only [Bool.false_eq_true, if_false, BitVec.getLsbD_ushiftRight, BitVec.getLsbD_shiftLeft]
  by_cases h31 : i = 31
  · subst h31; simpa using h.symm
  · have : 1 + i < 32 := by omega
    simp [this]

theorem word_high (l : List Bool) : ∀ i, l.length ≤ i → (word l).getLsbD i = false := by
  induction l with
  | nil => intro i _; simp [word]
  | cons d l ih =>
    intro i hi
    simp only [List.length_cons] at hi
    have h1 : i ≠ 0 := by omega
    have := ih (i - 1) (by omega)
    simp only [word, BitVec.getLsbD_or, BitVec.getLsbD_shiftLeft, this]
    cases d <;> simp [h1, BitVec.getLsbD_one]

theorem word_cons (d : Bool) (l : List Bool) : word (d :: l) = (if d then 1#32 else 0#32) ^^^ (word l <<< 1) := by
  apply BitVec.eq_of_getLsbD_eq
  intro i hi
  simp only [word, BitVec.getLsbD_or, BitVec.getLsbD_xor, BitVec.getLsbD_shiftLeft]
  cases d <;> by_cases h : i = 0 <;> simp [h, BitVec.getLsbD_one]

/-- at most 32 bits fed one by one are fed at once -/
theorem feed_word (l : List Bool) : ∀ s, l.length ≤ 32 → feed s l = steps l.length (s ^^^ word l) := by
  induction l with
  | nil => intro s _; simp [feed, steps, word]
  | cons d l ih =>
    intro s hl
    simp only [List.length_cons] at hl
    simp only [feed, List.length_cons, steps]
    rw [ih _ (by omega), word_cons, ← BitVec.xor_assoc, step_xor _ (word l <<< 1), step_shl _ (word_high l 31 (by omega))]

theorem feed_zeros (n : Nat) : ∀ s, feed s (List.replicate n false) = steps n s := by
  induction n with
  | zero => intro s; rfl
  | succ n ih => intro s; simp [List.replicate_succ, feed, steps, ih]

/-- what is fed to two sums is fed to their difference -/
theorem feed_xor (l m : List Bool) : ∀ s t, l.length = m.length → feed (s ^^^ t) (List.zipWith xor l m) = feed s l ^^^ feed t m := by
  induction l generalizing m with
  | nil => intro s t h; cases m with
    | nil => rfl
    | cons => simp at h
  | cons d l ih => intro s t h; cases m with
    | nil => simp at h
    | cons e m =>
      simp only [List.zipWith_cons_cons, feed]
      rw [← ih m _ _ (by simpa using h), ← step_xor]
      congr 2
      have : (if (d ^^ e) then 1#32 else 0#32) = (if d then 1#32 else 0#32) ^^^ (if e then 1#32 else 0#32) := by cases d <;> cases e <;> decide
      rw [this]
      apply BitVec.eq_of_getLsbD_eq; intro i hi
      simp only [BitVec.getLsbD_xor]
      cases s.getLsbD i <;> cases t.getLsbD i <;> cases (if d then 1#32 else 0#32).getLsbD i <;> cases (if e then 1#32 else 0#32).getLsbD i <;> rfl

theorem word_zero_iff (l : List Bool) (h : l.length ≤ 32) : word l = 0#32 → ∀ b ∈ l, b = false := by
  induction l with
  | nil => intro _ b hb; cases hb
  | cons d l ih =>
    intro hw b hb
    simp only [List.length_cons] at h
    rw [word_cons] at hw
    have hd : d = false := by
      have := congrArg (fun x => BitVec.getLsbD x 0) hw
      cases d <;> simp at this ⊢
    subst hd
    have hl : word l = 0#32 := by
      have h2 : step (word l <<< 1) = 0#32 := by
        have : word l <<< 1 = 0#32 := by simpa using hw
        rw [this]; exact step_zero
      rwa [step_shl _ (word_high l 31 (by omega))] at h2
    rcases List.mem_cons.1 hb with rfl | hb
    · rfl
    · exact ih (by omega) hl b hb

/-- **a burst**: zeros, at most 32 bits, zeros: the sum of zero stays zero just if all are zero -/
theorem burst (a c : Nat) (l : List Bool) (h : l.length ≤ 32) (h0 : feed 0#32 (List.replicate a false ++ l ++ List.replicate c false) = 0#32) : ∀ b ∈ l, b = false := by
  rw [feed_append, feed_append, feed_zeros, feed_zeros, steps_zero, feed_word l _ h] at h0
  have h1 := steps_eq_zero _ _ (steps_eq_zero _ _ h0)
  exact word_zero_iff l h (by simpa using h1)
end Go.Proofs.Ytojepleodijdeaa.Crc
