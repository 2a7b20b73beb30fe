/- Plain: frames. -/
import Derived.Test.YtojepleodijdeaaB13
import Derived.Test.YtojepleodijdeaaC3
namespace Go.Proofs.Ytojepleodijdeaa.VP
set_option linter.unusedVariables false
set_option linter.unusedSimpArgs false
open Go.RowKit Go.Proofs.Ytojepleodijdeaa.B Go.Proofs.YtojepleodijdeaaW.PrintWords Go.Proofs.YtojepleodijdeaaW.PrintLast Go.Proofs.YtojepleodijdeaaW.PrintMore

/-- the number of two bytes -/
def two (h : List Int) : Int := h.getD 1 0 + 256 * h.getD 2 0
/-- the frame that bytes begin with -/
def fread (l : List Int) : Int × List Int × Int × Int :=
  if l.length < 7 then (0, [], 0, 3)
  else if (cutL (l.take 7)).2 = false then (0, [], 0, 8)
  else if two (cutL (l.take 7)).1 > 400 then (0, [], 0, 2)
  else if (l.length : Int) < 11 + two (cutL (l.take 7)).1 then (0, [], 0, 3)
  else if (cutL ((l.take (11 + two (cutL (l.take 7)).1).toNat).drop 7)).2 = false then (0, [], 0, 8)
  else ((cutL (l.take 7)).1.getD 0 0, (cutL ((l.take (11 + two (cutL (l.take 7)).1).toNat).drop 7)).1, 11 + two (cutL (l.take 7)).1, 0)
theorem cutL_true {l : List Int} (h : (cutL l).2 = true) : cutL l = (l.take (l.length - 4), true) ∧ 4 ≤ l.length := by
  unfold cutL at *
  split at h <;> rename_i h4
  · cases h
  rw [if_neg h4]
  split at h <;> rename_i h5
  · rw [if_pos h5]; exact ⟨rfl, by omega⟩
  · cases h
theorem cutL_isB {l : List Int} (hb : isB l) : isB (cutL l).1 := by
  cases h : (cutL l).2
  · rw [cutL_false h]; intro x hx; cases hx
  · rw [(cutL_true h).1]; exact isB_take hb _
theorem getD_isB {l : List Int} (hb : isB l) (i : Nat) : 0 ≤ l.getD i 0 ∧ l.getD i 0 ≤ 255 := by
  by_cases h : i < l.length
  · have : l.getD i 0 = l[i] := by simp [h]
    rw [this]; exact hb _ (List.getElem_mem h)
  · have : l.getD i 0 = 0 := by simp [List.getD_eq_getElem?_getD, List.getElem?_eq_none (by omega : l.length ≤ i)]
    rw [this]; omega
theorem or_two {a b : Int} (ha : 0 ≤ a ∧ a ≤ 255) (hb : 0 ≤ b ∧ b ≤ 255) : bits .or .i64 a (b * 256) = a + 256 * b := by
  have hc : bits .or .i64 a (b * 256) = bits .or .i64 (b * 256) a := by simp only [bits]; rw [BitVec.or_comm]
  have hw : ∀ n : Int, 0 ≤ n → n < 2 ^ 63 → IntKind.i64.wrap n = n := fun n h0 h1 => by
    rw [IntKind.wrap_i64]; omega
  rw [hc, bits_join .i64 63 (by decide) hw 8 _ a (by omega) (by omega) (by omega) (by omega) (by omega) (by omega)]
  omega
theorem read_ev {l : List Int} (hb : isB l) (hl : l.length ≤ 1000000000) : Ev (fun k => frame_Read.f k l) (fread l) := by
  obtain ⟨K1, h1⟩ := cut_ev (isB_take hb 7) (by rw [List.length_take]; omega)
  dsimp only at h1
  have hn1 := getD_isB (cutL_isB (isB_take hb 7)) 1
  have hn2 := getD_isB (cutL_isB (isB_take hb 7)) 2
  obtain ⟨K2, h2⟩ := cut_ev (isB_drop (isB_take hb (11 + two (cutL (l.take 7)).1).toNat) 7) (by rw [List.length_drop, List.length_take]; omega)
  dsimp only at h2
  refine ⟨K1 + K2, fun k hk => ?_⟩
  unfold fread
  simp only [frame_Read.f]
  by_cases h7 : l.length < 7
  · rw [if_pos (by omega), if_pos h7]
  rw [if_neg (by omega), if_neg h7, if_pos (by omega), h1 k (by omega)]
  simp only [Option.bind_some]
  by_cases hc : (cutL (l.take 7)).2 = false
  · rw [if_pos hc, if_neg (by rw [hc]; decide)]
  have hc' : (cutL (l.take 7)).2 = true := by simpa using hc
  rw [if_neg hc, if_pos hc']
  have h3 : (cutL (l.take 7)).1.length = 3 := by rw [(cutL_true hc').1]; simp; omega
  rw [if_pos (by omega), if_pos (by omega)]
  have hr : ∀ i : Nat, rd (cutL (l.take 7)).1 (i : Int) = (cutL (l.take 7)).1.getD i 0 := fun i => rfl
  have e1 : rd (cutL (l.take 7)).1 1 = (cutL (l.take 7)).1.getD 1 0 := hr 1
  have e2 : rd (cutL (l.take 7)).1 2 = (cutL (l.take 7)).1.getD 2 0 := hr 2
  have w1 : ∀ x : Int, 0 ≤ x ∧ x ≤ 1000000000 → wrap64 x = x := fun x hx => by unfold wrap64; omega
  rw [e1, e2, w1 _ (by omega), w1 ((cutL (l.take 7)).1.getD 2 0) (by omega), w1 _ (by omega), or_two hn1 hn2]
  change (if two (cutL (l.take 7)).1 > 400 then _ else _) = _
  have ht : 0 ≤ two (cutL (l.take 7)).1 := by unfold two; omega
  by_cases h400 : two (cutL (l.take 7)).1 > 400
  · rw [if_pos h400, if_pos h400]
  rw [if_neg h400, if_neg h400]
  have e3 : (cutL (l.take 7)).1.getD 1 0 + 256 * (cutL (l.take 7)).1.getD 2 0 = two (cutL (l.take 7)).1 := rfl
  rw [e3, w1 (7 + _) (by omega), w1 _ (by omega), show 7 + two (cutL (l.take 7)).1 + 4 = 11 + two (cutL (l.take 7)).1 by omega]
  by_cases hs : (l.length : Int) < 11 + two (cutL (l.take 7)).1
  · rw [if_pos hs, if_pos hs]
  rw [if_neg hs, if_neg hs, if_pos (by omega), if_pos (by omega), h2 k (by omega)]
  simp only [Option.bind_some]
  by_cases hd : (cutL ((l.take (11 + two (cutL (l.take 7)).1).toNat).drop 7)).2 = false
  · rw [if_pos hd, if_neg (by rw [hd]; decide)]
  · rw [if_neg hd, if_pos (by simpa using hd), if_pos (by omega)]
    rfl
end Go.Proofs.Ytojepleodijdeaa.VP
