/- Proved: where up to 32 bits of a frame's bytes, one behind the other, are turned, at least one of them, it is none, for any frame whose body has up to 1200 bytes. No conditions beyond the statement's. -/
import Derived.Test.YtojepleodijdeaaB17
import Derived.Test.YtojepleodijdeaaC4
import Derived.Test.YtojepleodijdeaaF3
namespace Go.Proofs.Ytojepleodijdeaa.Pure
set_option linter.unusedVariables false
set_option linter.unusedSimpArgs false
open Go.RowKit Go.Proofs.Ytojepleodijdeaa.B Go.Proofs.Ytojepleodijdeaa.VP Go.Proofs.YtojepleodijdeaaW.PrintWords Go.Proofs.YtojepleodijdeaaW.PrintLast Go.Proofs.YtojepleodijdeaaW.PrintMore

theorem turnBits_add (at' : Int) (T a b : Nat) : turnBits at' T 32 (a + b) = turnBits at' T 32 a ++ turnBits (at' - a) T 32 b := by
  unfold turnBits
  rw [List.range_add, List.map_append, List.map_map]
  congr 1
  apply List.map_congr_left
  intro k _
  simp only [Function.comp, turned]
  rw [show ((a + k : Nat) : Int) - at' = (k : Int) - (at' - a) by omega]
  congr 1
  apply decide_eq_decide.2
  omega
theorem turnBits_len (at' : Int) (T n : Nat) : (turnBits at' T 32 n).length = n := by simp [turnBits]
/-- each of two parts is turned -/
theorem turned_parts {P Q R : List Int} {at' : Int} {T : Nat} (hl : R.length = (P ++ Q).length) (h : bitsOf R = List.zipWith xor (bitsOf (P ++ Q)) (turnBits at' T 32 (8 * (P ++ Q).length))) :
    bitsOf (R.take P.length) = List.zipWith xor (bitsOf P) (turnBits at' T 32 (8 * P.length)) ∧ bitsOf (R.drop P.length) = List.zipWith xor (bitsOf Q) (turnBits (at' - (8 * P.length : Nat)) T 32 (8 * Q.length)) := by
  rw [List.length_append] at hl
  rw [bitsOf_append, List.length_append, Nat.mul_add, turnBits_add, List.zipWith_append (by rw [bitsOf_len, turnBits_len])] at h
  have e : bitsOf R = bitsOf (R.take P.length) ++ bitsOf (R.drop P.length) := by rw [← bitsOf_append, List.take_append_drop]
  rw [e] at h
  refine List.append_inj h ?_
  rw [bitsOf_len, List.length_zipWith, bitsOf_len, turnBits_len, List.length_take]
  omega
theorem wf_i64' {a : Int} (h : (Lit.int .i64 a).wf = true) : -9223372036854775808 ≤ a ∧ a ≤ 9223372036854775807 := by
  simp [Lit.wf, IntKind.min, IntKind.max, IntKind.signed, IntKind.bits] at h
  omega
theorem wf_u32' {a : Int} (h : (Lit.int .u32 a).wf = true) : 0 ≤ a ∧ a < 4294967296 := by
  simp [Lit.wf, IntKind.min, IntKind.max, IntKind.signed, IntKind.bits] at h
  omega
/-- a frame that is turned is none -/
theorem fread_turned {a : Int} (ha : 0 ≤ a ∧ a ≤ 255) {body : List Int} (hb : isB body) (hn : body.length ≤ 400) {R : List Int} (hRb : isB R) (hl : R.length = (fb a body).length) {at' : Int} {T : Nat}
    (h : bitsOf R = List.zipWith xor (bitsOf (fb a body)) (turnBits at' T 32 (8 * (fb a body).length))) (hne : fb a body ≠ R) (more : List Int) : fread (R ++ more) = (0, [], 0, 8) := by
  have hfl := fb_len a body
  obtain ⟨h1, h2⟩ := turned_parts (P := putL (fhead a body.length)) (Q := putL body) hl h
  rw [head_len] at h1 h2
  have e7 : (R ++ more).take 7 = R.take 7 := List.take_append_of_le_length (by omega)
  unfold fread
  rw [e7, if_neg (by rw [List.length_append]; omega)]
  by_cases hc : (cutL (R.take 7)).2 = false
  · rw [if_pos hc]
  · rw [if_neg hc]
    have s1 : R.take 7 = putL (fhead a body.length) := turned_seen (putL_isB (fhead_isB ha hn)) (isB_take hRb 7) (by rw [List.length_take, head_len]; omega) (by rw [h1, head_len]) (crc_put _) (cutL_good (isB_take hRb 7) (by simpa using hc))
    rw [s1, cutL_put]
    dsimp only
    rw [two_head, if_neg (by omega), if_neg (by rw [List.length_append]; omega)]
    have e8 : ((R ++ more).take (11 + (body.length : Int)).toNat).drop 7 = R.drop 7 := by
      rw [show (11 + (body.length : Int)).toNat = R.length by omega, List.take_left]
    rw [e8]
    by_cases hd : (cutL (R.drop 7)).2 = false
    · rw [if_pos hd]
    · exfalso
      have s2 : R.drop 7 = putL body := turned_seen (putL_isB hb) (isB_drop hRb 7) (by rw [List.length_drop, putL_len]; omega) h2 (crc_put _) (cutL_good (isB_drop hRb 7) (by simpa using hd))
      apply hne
      unfold fb
      rw [← s1, ← s2, List.take_append_drop]

theorem FrameTurned (x0 : Int) (hx0 : (Lit.int .u8 x0).wf = true) (x1 : List Int) (_ : x1.length ≤ maxLen) (hx1 : ∀ x ∈ x1, (Lit.int .u8 x).wf = true) (l1 : List Int) (_ : l1.length ≤ maxLen) (hl1 : ∀ x ∈ l1, (Lit.int .u8 x).wf = true) (a2 : Int) (ha2 : (Lit.int .i64 a2).wf = true) (a3 : Int) (ha3 : (Lit.int .u32 a3).wf = true) :
    ∃ k, tumbrellaw04_FrameTurned.f k x0 x1 l1 a2 a3 = some true := by
  have hb0 : 0 ≤ x0 ∧ x0 ≤ 255 := isB_of_wf (l := [x0]) (fun x hx => by rw [List.mem_singleton.1 hx]; exact hx0) x0 (List.mem_singleton.2 rfl)
  have hb1 := isB_of_wf hx1
  have hbm := isB_of_wf hl1
  have hA : tumbrellaw04_awake.f = some true := rfl
  have hlongs : ∀ k x, x = true → tumbrellaw04_FrameTurned.j0 (k + 1) l1 a2 a3 x x0 x1 = some true := by
    intro k x hx; subst hx; simp only [tumbrellaw04_FrameTurned.j0, if_true]
  by_cases hlong : (x1.length : Int) > 1200
  · refine ⟨0 + 1, ?_⟩
    simp only [tumbrellaw04_FrameTurned.f, hA, Option.bind_some, if_true]
    rw [if_pos hlong]
    exact hlongs _ _ rfl
  by_cases hlong1 : (l1.length : Int) > 1200
  · refine ⟨0 + 1, ?_⟩
    simp only [tumbrellaw04_FrameTurned.f, hA, Option.bind_some, if_true]
    rw [if_neg hlong]
    exact hlongs _ _ (decide_eq_true hlong1)
  by_cases h4 : 400 < x1.length
  · refine ⟨0 + 1, ?_⟩
    simp only [tumbrellaw04_FrameTurned.f, hA, Option.bind_some, if_true]
    rw [if_neg hlong, decide_eq_false hlong1]
    simp only [tumbrellaw04_FrameTurned.j0]
    rw [if_neg (by decide), fbytes_big h4]
    simp only [Option.bind_some]
    rw [if_neg (by decide)]
  have hn : x1.length ≤ 400 := by omega
  have hf := fbytes_f hb0 hb1 hn
  have hfl := fb_len x0 x1
  have hfB := fb_isB hb0 hb1 hn
  obtain ⟨R, ⟨K1, h1⟩, hRl, hRb, hbits⟩ := turn_ev hfB (by omega) (wf_i64' ha2) (wf_u32' ha3)
  obtain ⟨K2, h2⟩ := read_ev (l := R ++ l1) (isB_append hRb hbm) (by rw [List.length_append]; omega)
  obtain ⟨K3, h3⟩ := same_ev (fb x0 x1) R (by omega)
  dsimp only at h1 h2 h3
  refine ⟨K1 + K2 + K3 + 1, ?_⟩
  simp only [tumbrellaw04_FrameTurned.f, hA, Option.bind_some, if_true]
  rw [if_neg hlong, decide_eq_false hlong1]
  simp only [tumbrellaw04_FrameTurned.j0]
  rw [if_neg (by decide), hf]
  simp only [Option.bind_some, if_true]
  rw [h1 _ (by omega)]
  simp only [Option.bind_some, List.nil_append, List.length_nil]
  rw [if_pos (by omega), if_pos (by omega), h2 _ (by omega), Option.bind_some, h3 _ (by omega), Option.bind_some]
  by_cases he : fb x0 x1 = R
  · rw [decide_eq_true he, ← he, fread_fb hn]
    simp only [if_true]
    rw [fsame_f hb1 hb1]
    simp
  · rw [decide_eq_false he, fread_turned hb0 hb1 hn hRb hRl hbits he l1]
    rfl
end Go.Proofs.Ytojepleodijdeaa.Pure
