/- Plain: a frame's bytes, and what is read of them. -/
import Derived.Test.YtojepleodijdeaaF2
namespace Go.Proofs.Ytojepleodijdeaa.VP
set_option linter.unusedVariables false
set_option linter.unusedSimpArgs false
open Go.RowKit Go.Proofs.Ytojepleodijdeaa.B Go.Proofs.YtojepleodijdeaaW.PrintWords Go.Proofs.YtojepleodijdeaaW.PrintLast Go.Proofs.YtojepleodijdeaaW.PrintMore

/-- a frame's head -/
def fhead (a : Int) (n : Nat) : List Int := [a, (n : Int) % 256, (n : Int) / 256]
/-- a frame's bytes -/
def fb (a : Int) (body : List Int) : List Int := putL (fhead a body.length) ++ putL body
theorem and255 {a : Int} (h0 : 0 ≤ a) (h1 : a ≤ 1000000000) : bits .and .i64 a 255 = a % 256 := by
  have hw : ∀ n : Int, 0 ≤ n → n < 2 ^ 63 → IntKind.i64.wrap n = n := fun n h0 h1 => by rw [IntKind.wrap_i64]; omega
  exact bits_mask .i64 63 (by decide) hw 8 (by decide) a h0 (by omega)
theorem low_f {a : Int} (h0 : 0 ≤ a) (h1 : a ≤ 1000000000) : frame_low_int.f a = some (a % 256, a / 256) := by
  unfold frame_low_int.f
  rw [and255 h0 h1]
  congr 2
  omega
theorem fhead_isB {a : Int} (ha : 0 ≤ a ∧ a ≤ 255) {n : Nat} (hn : n ≤ 400) : isB (fhead a n) := by
  intro x hx
  simp only [fhead, List.mem_cons, List.not_mem_nil, or_false] at hx
  omega
theorem fb_len (a : Int) (body : List Int) : (fb a body).length = body.length + 11 := by
  unfold fb
  rw [List.length_append, putL_len, putL_len]
  simp [fhead]
  omega
theorem fb_isB {a : Int} (ha : 0 ≤ a ∧ a ≤ 255) {body : List Int} (hb : isB body) (hn : body.length ≤ 400) : isB (fb a body) := isB_append (putL_isB (fhead_isB ha hn)) (putL_isB hb)
theorem fbytes_f {a : Int} (ha : 0 ≤ a ∧ a ≤ 255) {body : List Int} (hb : isB body) (hn : body.length ≤ 400) : frame_Bytes.f a body = some (fb a body, 0) := by
  have hh := fhead_isB ha hn
  unfold frame_Bytes.f
  rw [if_neg (by omega), low_f (by omega) (by omega)]
  simp only [Option.bind_some]
  rw [low_f (by omega) (by omega)]
  simp only [Option.bind_some]
  have e : ([a, (body.length : Int) % 256, (body.length : Int) / 256 % 256] : List Int) = fhead a body.length := by
    unfold fhead
    rw [show (body.length : Int) / 256 % 256 = (body.length : Int) / 256 by omega]
  rw [e, put_f hh (by simp [fhead]), Option.bind_some, put_f hb (by omega), Option.bind_some, if_pos (by rw [putL_len, putL_len]; simp [fhead]; omega)]
  rfl
theorem fbytes_big {a : Int} {body : List Int} (hn : 400 < body.length) : frame_Bytes.f a body = some ([], 4) := by
  unfold frame_Bytes.f
  rw [if_pos (by omega)]
theorem head_len (a : Int) (n : Nat) : (putL (fhead a n)).length = 7 := by rw [putL_len]; rfl
theorem take7 (a : Int) (n : Nat) (m : List Int) : (putL (fhead a n) ++ m).take 7 = putL (fhead a n) := by
  rw [← head_len a n, List.take_left]
theorem two_head (a : Int) (n : Nat) : two (fhead a n) = n := by
  unfold two fhead
  simp
  omega
theorem fread_fb {a : Int} {body : List Int} (hn : body.length ≤ 400) (more : List Int) : fread (fb a body ++ more) = (a, body, (body.length : Int) + 11, 0) := by
  have e7 : (fb a body ++ more).take 7 = putL (fhead a body.length) := by unfold fb; rw [List.append_assoc, take7]
  have el : (fb a body ++ more).length = body.length + 11 + more.length := by rw [List.length_append, fb_len]
  unfold fread
  rw [e7, cutL_put]
  dsimp only
  rw [two_head]
  have ed : ((fb a body ++ more).take (11 + (body.length : Int)).toNat).drop 7 = putL body := by
    rw [show (11 + (body.length : Int)).toNat = (fb a body).length by rw [fb_len]; omega, List.take_left]
    unfold fb
    rw [← head_len a body.length, List.drop_left]
  rw [ed, cutL_put, if_neg (by omega), if_neg (by simp), if_neg (by omega), if_neg (by omega), if_neg (by simp)]
  refine Prod.ext rfl (Prod.ext rfl (Prod.ext ?_ rfl))
  dsimp only
  omega
theorem fread_cut {a : Int} {body : List Int} (hn : body.length ≤ 400) (cut : Nat) (hc : cut < body.length + 11) : fread ((fb a body).take cut) = (0, [], 0, 3) := by
  have el : ((fb a body).take cut).length = cut := by rw [List.length_take, fb_len]; omega
  unfold fread
  by_cases h7 : cut < 7
  · rw [if_pos (by omega)]
  have e7 : ((fb a body).take cut).take 7 = putL (fhead a body.length) := by
    rw [List.take_take, Nat.min_eq_left (by omega)]
    unfold fb; rw [take7]
  rw [if_neg (by omega), e7, cutL_put]
  dsimp only
  rw [two_head, if_neg (by simp), if_neg (by omega), if_pos (by omega)]
end Go.Proofs.Ytojepleodijdeaa.VP
