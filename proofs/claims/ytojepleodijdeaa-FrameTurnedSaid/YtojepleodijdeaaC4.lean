/- Plain: the reference's Turn turns just these bits. -/
import Derived.Test.YtojepleodijdeaaC3
namespace Go.Proofs.Ytojepleodijdeaa.VP
set_option linter.unusedVariables false
set_option linter.unusedSimpArgs false
open Go.RowKit Go.Proofs.Ytojepleodijdeaa.B Go.Proofs.YtojepleodijdeaaW.PrintWords Go.Proofs.YtojepleodijdeaaW.PrintLast Go.Proofs.YtojepleodijdeaaW.PrintMore
open Go.Proofs.Ytojepleodijdeaa.Crc (steps feed word feed_word feed_append feed_xor burst steps_xor steps_eq_zero)

def bitAt (l : List Int) (k : Nat) : Bool := (l.getD (k / 8) 0).toNat.testBit (k % 8)
/-- which bits are turned from the i-th round on -/
def tfrom (at' : Int) (T i k : Nat) : Bool := decide (at' + i ≤ k ∧ (k : Int) < at' + 32) && T.testBit ((k : Int) - at').toNat
theorem tfrom_zero (at' : Int) (T k : Nat) : tfrom at' T 0 k = turned at' T 32 k := by
  unfold tfrom turned; simp
theorem tfrom_end (at' : Int) (T k : Nat) : tfrom at' T 32 k = false := by
  unfold tfrom; rw [decide_eq_false (by omega)]; rfl
theorem tfrom_step (at' : Int) (T i k : Nat) (hi : i < 32) : tfrom at' T i k = (tfrom at' T (i + 1) k ^^ (decide ((k : Int) = at' + i) && T.testBit i)) := by
  unfold tfrom
  by_cases h : (k : Int) = at' + i
  · rw [decide_eq_true h, decide_eq_false (p := at' + ((i + 1 : Nat) : Int) ≤ k ∧ _) (by omega), decide_eq_true (by omega), show ((k : Int) - at').toNat = i by omega]
    simp
  · rw [decide_eq_false h]
    by_cases h2 : at' + (i : Int) ≤ k ∧ (k : Int) < at' + 32
    · rw [decide_eq_true h2, decide_eq_true (by omega)]; simp
    · rw [decide_eq_false h2, decide_eq_false (by omega)]; simp
theorem xor8 {c : Int} (hc : 0 ≤ c ∧ c ≤ 255) {v : Nat} (hv : v < 256) : bits .xor .u8 c (v : Int) = ((c.toNat ^^^ v : Nat) : Int) ∧ c.toNat ^^^ v < 256 := by
  have hlt : c.toNat ^^^ v < 256 := Nat.xor_lt_two_pow (n := 8) (by omega) hv
  refine ⟨?_, hlt⟩
  have e2 : c = ((c.toNat : Nat) : Int) := by omega
  conv => lhs; rw [e2]
  show IntKind.u8.wrap (((BitVec.ofInt 8 (c.toNat : Int) ^^^ BitVec.ofInt 8 (v : Int)).toNat : Nat) : Int) = _
  rw [BitVec.ofInt_natCast, BitVec.ofInt_natCast, BitVec.toNat_xor, BitVec.toNat_ofNat, BitVec.toNat_ofNat, Nat.mod_eq_of_lt (by omega), Nat.mod_eq_of_lt (by omega), IntKind.wrap_u8]
  omega
theorem two_pow_lt (t : Nat) (h : t < 8) : 2 ^ t < 256 := Nat.lt_of_lt_of_le (Nat.pow_lt_pow_right (by decide) h) (by decide)
/-- one bit turned -/
theorem bitAt_flip (out : List Int) (hb : isB out) (k : Nat) (hk : k < 8 * out.length) :
    let v : Int := ((((out.getD (k / 8) 0).toNat ^^^ 2 ^ (k % 8) : Nat)) : Int)
    isB (out.set (k / 8) v) ∧ ∀ j, j < 8 * out.length → bitAt (out.set (k / 8) v) j = (bitAt out j ^^ decide (j = k)) := by
  intro v
  have hq : k / 8 < out.length := by omega
  have hc := hb out[k / 8] (List.getElem_mem hq)
  have hg : out.getD (k / 8) 0 = out[k / 8] := by simp [List.getD_eq_getElem?_getD, List.getElem?_eq_getElem hq]
  have hx := xor8 hc (two_pow_lt (k % 8) (by omega))
  constructor
  · intro x hx'
    rcases List.mem_or_eq_of_mem_set hx' with h | h
    · exact hb x h
    · subst h; simp only [v, hg]; omega
  · intro j hj
    unfold bitAt
    by_cases hjq : j / 8 = k / 8
    · rw [hjq]
      have e1 : (out.set (k / 8) v).getD (k / 8) 0 = v := by simp [List.getD_eq_getElem?_getD, hq]
      rw [e1]
      simp only [v, Int.toNat_natCast, Nat.testBit_xor, Nat.testBit_two_pow]
      congr 1
      apply decide_eq_decide.2
      omega
    · have e1 : (out.set (k / 8) v).getD (j / 8) 0 = out.getD (j / 8) 0 := by
        simp only [List.getD_eq_getElem?_getD]
        rw [List.getElem?_set_ne (Ne.symm hjq)]
      rw [e1, decide_eq_false (by omega)]
      simp

theorem turn_inner (at' x2 : Int) (out : List Int) (i : Int) (k : Nat) (hl : out.length ≤ 1000000000) (hk : k < 8 * out.length) (hb : isB out) (R : List Int)
    (hn : Ev (fun n => tumbrelref01_Turn.l0 n at' ((Int.tdiv x2 2) % 4294967296) (out.set (k / 8) ((((out.getD (k / 8) 0).toNat ^^^ 2 ^ (k % 8) : Nat)) : Int)) (wrap64 (i + 1))) R) :
    ∀ (d j : Nat), j + d = k % 8 → Ev (fun n => tumbrelref01_Turn.l1 n at' x2 out i (k : Int) (((2 ^ j : Nat)) : Int) (j : Int)) R := by
  have hq : k / 8 < out.length := by omega
  have hc := hb out[k / 8] (List.getElem_mem hq)
  have hg : out.getD (k / 8) 0 = out[k / 8] := by simp [List.getD_eq_getElem?_getD, List.getElem?_eq_getElem hq]
  have hm : Int.tmod (k : Int) 8 = ((k % 8 : Nat) : Int) := by rw [Int.tmod_eq_emod_of_nonneg (by omega)]; omega
  have hd8 : wrap64 (Int.tdiv (k : Int) 8) = ((k / 8 : Nat) : Int) := by rw [Int.tdiv_eq_ediv_of_nonneg (by omega)]; unfold wrap64; omega
  intro d
  induction d with
  | zero =>
    intro j hj
    refine Ev.step (fun n => ?_) hn
    simp only [tumbrelref01_Turn.l1]
    have h2 := two_pow_lt (k % 8) (by omega)
    rw [hm, if_neg (by omega), hd8, if_pos (by omega), if_pos (by omega), Int.toNat_natCast, rd_at hq, show j = k % 8 by omega, (xor8 hc h2).1, hg]
  | succ d ih =>
    intro j hj
    have h2 := two_pow_lt (j + 1) (by omega)
    have e : (2 * (((2 ^ j : Nat)) : Int)) % 256 = (((2 ^ (j + 1) : Nat)) : Int) := by rw [Nat.pow_succ] at h2 ⊢; omega
    refine Ev.step (f := fun n => tumbrelref01_Turn.l1 n at' x2 out i (k : Int) (((2 ^ (j + 1) : Nat)) : Int) ((j + 1 : Nat) : Int)) (fun n => ?_) (ih (j + 1) (by omega))
    simp only [tumbrelref01_Turn.l1]
    rw [hm, if_pos (by omega), e, wrap_succ j (by omega)]

theorem wk_in {a : Int} {i : Nat} (h0 : 0 ≤ a + i) (h1 : a + i ≤ 9000000000) : wrap64 (a + i) = a + i := by unfold wrap64; omega
theorem wk_out {a : Int} {i n : Nat} (ha : -9223372036854775808 ≤ a ∧ a ≤ 9223372036854775807) (hi : i < 32) (hn : n ≤ 1000000000) (hge : wrap64 (a + i) ≥ 0) (hlt : wrap64 (a + i) < 8 * (n : Int)) : 0 ≤ a + i ∧ a + i < 8 * (n : Int) := by
  unfold wrap64 at hge hlt; omega
theorem wrap_8 {n : Nat} (hn : n ≤ 1000000000) : wrap64 (8 * (n : Int)) = 8 * (n : Int) := by unfold wrap64; omega
theorem half_q {q : Nat} (h : q < 4294967296) : (Int.tdiv (q : Int) 2) % 4294967296 = ((q / 2 : Nat) : Int) := by
  rw [Int.tdiv_eq_ediv_of_nonneg (by omega)]; omega
theorem odd_q {q : Nat} : (Int.tmod (q : Int) 2 = 1) ↔ q % 2 = 1 := by
  rw [Int.tmod_eq_emod_of_nonneg (by omega)]; omega
theorem turn_loop (at' : Int) (hat : -9223372036854775808 ≤ at' ∧ at' ≤ 9223372036854775807) (T : Nat) (hT : T < 4294967296) (n : Nat) (hn : n ≤ 1000000000) : ∀ (d i : Nat) (out : List Int), i + d = 32 → isB out → out.length = n →
    ∃ R, Ev (fun k => tumbrelref01_Turn.l0 k at' (((T / 2 ^ i : Nat)) : Int) out (i : Int)) R ∧ R.length = n ∧ isB R ∧ ∀ k, k < 8 * n → bitAt R k = (bitAt out k ^^ tfrom at' T i k) := by
  intro d
  induction d with
  | zero =>
    intro i out hi hb hl
    have : i = 32 := by omega
    subst this
    refine ⟨out, Ev.step (f := fun _ => some out) (fun k => ?_) (Ev.now _), hl, hb, fun k _ => by rw [tfrom_end]; simp⟩
    simp only [tumbrelref01_Turn.l0]
    rw [if_neg (by omega)]
  | succ d ih =>
    intro i out hi hb hl
    have hq4 : T / 2 ^ i < 4294967296 := Nat.lt_of_le_of_lt (Nat.div_le_self _ _) hT
    have hq2 : T / 2 ^ (i + 1) = T / 2 ^ i / 2 := by rw [Nat.pow_succ, ← Nat.div_div_eq_div_mul]
    have e2 : (Int.tdiv (((T / 2 ^ i : Nat)) : Int) 2) % 4294967296 = (((T / 2 ^ (i + 1) : Nat)) : Int) := by rw [hq2]; exact half_q hq4
    have e1 : (Int.tmod (((T / 2 ^ i : Nat)) : Int) 2 = 1) ↔ T.testBit i = true := by
      rw [Nat.testBit_eq_decide_div_mod_eq, decide_eq_true_eq]; exact odd_q
    have ew : wrap64 ((i : Int) + 1) = ((i + 1 : Nat) : Int) := wrap_succ i (by omega)
    have e8 : wrap64 (8 * (out.length : Int)) = 8 * (out.length : Int) := wrap_8 (by omega)
    generalize hQ : T / 2 ^ i = q at e1 e2
    generalize hQ2 : T / 2 ^ (i + 1) = q2 at e2 ih
    clear hQ hq2 hq4
    by_cases hin : T.testBit i = true ∧ 0 ≤ at' + (i : Int) ∧ at' + (i : Int) < 8 * (n : Int)
    · obtain ⟨hbit, h0, h1⟩ := hin
      obtain ⟨k, hk⟩ : ∃ k : Nat, at' + i = (k : Int) := Int.eq_ofNat_of_zero_le h0
      have hkl : k < 8 * out.length := by omega
      have hf := bitAt_flip out hb k hkl
      obtain ⟨R, hR, hRl, hRb, hRk⟩ := ih (i + 1) _ (by omega) hf.1 (by rw [List.length_set]; exact hl)
      simp only [hQ2] at hR
      have hwk : wrap64 (at' + i) = (k : Int) := by rw [← hk]; exact wk_in h0 (by omega)
      refine ⟨R, ?_, hRl, hRb, fun j hj => ?_⟩
      · have hin2 := turn_inner at' (q : Int) out (i : Int) k (by omega) hkl hb R (by rw [e2, ew]; exact hR) (k % 8) 0 (by omega)
        refine Ev.step (f := fun n => tumbrelref01_Turn.j1 n at' (q : Int) out (i : Int) (k : Int) true) (fun n => ?_) (Ev.step (fun n => ?_) hin2)
        · simp only [tumbrelref01_Turn.l0]
          rw [if_pos (by omega), if_pos (e1.2 hbit), hwk, if_pos (by omega), e8, decide_eq_true (by omega)]
        · simp only [tumbrelref01_Turn.j1, if_true]; rfl
      · rw [hRk j hj, hf.2 j (by omega), tfrom_step at' T i j (by omega), hbit, show decide ((j : Int) = at' + i) = decide (j = k) from decide_eq_decide.2 (by omega)]
        simp only [Bool.and_true]
        cases bitAt out j <;> cases tfrom at' T (i + 1) j <;> cases decide (j = k) <;> rfl
    · obtain ⟨R, hR, hRl, hRb, hRk⟩ := ih (i + 1) out (by omega) hb hl
      simp only [hQ2] at hR
      refine ⟨R, ?_, hRl, hRb, fun j hj => ?_⟩
      · refine Ev.step (f := fun n => tumbrelref01_Turn.j1 n at' (q : Int) out (i : Int) (wrap64 (at' + i)) false) (fun n => ?_) (Ev.step (fun n => ?_) hR)
        · simp only [tumbrelref01_Turn.l0]
          rw [if_pos (by omega)]
          by_cases hbit : T.testBit i = true
          · rw [if_pos (e1.2 hbit)]
            by_cases hge : wrap64 (at' + i) ≥ 0
            · rw [if_pos hge, e8, decide_eq_false]
              intro hlt
              rw [hl] at hlt
              exact hin ⟨hbit, wk_out hat (by omega) hn hge hlt⟩
            · rw [if_neg hge]
          · rw [if_neg (fun h => hbit (e1.1 h))]
        · simp only [tumbrelref01_Turn.j1]
          rw [if_neg (by decide), e2, ew]
      · rw [hRk j hj, tfrom_step at' T i j (by omega)]
        have : (decide ((j : Int) = at' + i) && T.testBit i) = false := by
          by_cases h1 : (j : Int) = at' + i
          · by_cases hbit : T.testBit i = true
            · exact absurd ⟨hbit, by omega, by omega⟩ hin
            · simp [hbit]
          · simp [h1]
        rw [this]; simp

/-- bytes of which bits are turned -/
theorem turn_ev {p : List Int} (hb : isB p) (hl : p.length ≤ 1000000000) {at' tn : Int} (hat : -9223372036854775808 ≤ at' ∧ at' ≤ 9223372036854775807) (ht : 0 ≤ tn ∧ tn < 4294967296) :
    ∃ R, Ev (fun k => tumbrelref01_Turn.f k p at' tn) R ∧ R.length = p.length ∧ isB R ∧ bitsOf R = List.zipWith xor (bitsOf p) (turnBits at' tn.toNat 32 (8 * p.length)) := by
  obtain ⟨R, hR, hRl, hRb, hRk⟩ := turn_loop at' hat tn.toNat (by omega) p.length hl 32 0 p (by omega) hb rfl
  refine ⟨R, ?_, hRl, hRb, ?_⟩
  · refine Ev.congr (fun k => ?_) hR
    simp only [tumbrelref01_Turn.f, Option.bind_some, List.nil_append, List.length_nil]
    rw [if_pos (by omega)]
    simp only [Nat.pow_zero, Nat.div_one]
    rw [show ((tn.toNat : Nat) : Int) = tn by omega]
    rfl
  · apply List.ext_getElem?
    intro k
    by_cases hk : k < 8 * p.length
    · have h1 := bitsOf_get R k (by omega)
      have h2 := bitsOf_get p k hk
      have h3 := hRk k hk
      unfold bitAt at h3
      rw [tfrom_zero] at h3
      rw [h1, List.getElem?_zipWith, h2]
      simp only [turnBits, List.getElem?_map, List.getElem?_range hk, Option.map_some]
      rw [h3]
    · rw [List.getElem?_eq_none (by rw [bitsOf_len]; omega), List.getElem?_eq_none]
      rw [List.length_zipWith, bitsOf_len]
      omega

/-- **up to 32 bits are seen** -/
theorem turned_seen {p R : List Int} (hp : isB p) (hR : isB R) (hl : R.length = p.length) {at' : Int} {T : Nat} (hbits : bitsOf R = List.zipWith xor (bitsOf p) (turnBits at' T 32 (8 * p.length))) (hg : crcL (~~~ 0#32) p = good) (hg2 : crcL (~~~ 0#32) R = good) : R = p := by
  have hlen : (bitsOf p).length = (turnBits at' T 32 (8 * p.length)).length := by rw [bitsOf_len]; simp [turnBits]
  have h1 := feed_xor (bitsOf p) (turnBits at' T 32 (8 * p.length)) (~~~ 0#32) 0#32 hlen
  rw [← hbits, BitVec.xor_zero, feed_bits hR, feed_bits hp, hg, hg2] at h1
  have h0 : feed 0#32 (turnBits at' T 32 (8 * p.length)) = 0#32 := by
    have h2 := congrArg (fun z => good ^^^ z) h1
    simp only [← BitVec.xor_assoc, BitVec.xor_self, BitVec.zero_xor] at h2
    exact h2.symm
  have hz := burst_seen at' T (8 * p.length) h0
  refine bitsOf_inj hR hp hl ?_
  rw [hbits]
  apply List.ext_getElem?
  intro k
  by_cases hk : k < 8 * p.length
  · rw [List.getElem?_zipWith, bitsOf_get p k hk]
    simp only [turnBits, List.getElem?_map, List.getElem?_range hk, Option.map_some, hz k hk, Bool.xor_false]
  · rw [List.getElem?_eq_none (by rw [List.length_zipWith, bitsOf_len]; omega), List.getElem?_eq_none (by rw [bitsOf_len]; omega)]
end Go.Proofs.Ytojepleodijdeaa.VP
