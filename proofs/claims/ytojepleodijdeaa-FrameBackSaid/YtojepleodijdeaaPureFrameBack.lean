/- Proved: a frame comes back from its bytes, whatever is behind; a beginning of them is too short, for any frame whose body has up to 1200 bytes. No conditions beyond the statement's. -/
import Derived.Test.YtojepleodijdeaaB15
import Derived.Test.YtojepleodijdeaaF3
namespace Go.Proofs.Ytojepleodijdeaa.Pure
set_option linter.unusedVariables false
set_option linter.unusedSimpArgs false
open Go.RowKit Go.Proofs.Ytojepleodijdeaa.B Go.Proofs.Ytojepleodijdeaa.VP Go.Proofs.YtojepleodijdeaaW.PrintWords Go.Proofs.YtojepleodijdeaaW.PrintLast Go.Proofs.YtojepleodijdeaaW.PrintMore
theorem FrameBack (x0 : Int) (hx0 : (Lit.int .u8 x0).wf = true) (x1 : List Int) (_ : x1.length ≤ maxLen) (hx1 : ∀ x ∈ x1, (Lit.int .u8 x).wf = true) (l1 : List Int) (_ : l1.length ≤ maxLen) (hl1 : ∀ x ∈ l1, (Lit.int .u8 x).wf = true) (a2 : Int) (ha2 : (Lit.int .i64 a2).wf = true) :
    ∃ k, tumbrellaw04_FrameBack.f k x0 x1 l1 a2 = some true := by
  have hb0 : 0 ≤ x0 ∧ x0 ≤ 255 := isB_of_wf (l := [x0]) (fun x hx => by rw [List.mem_singleton.1 hx]; exact hx0) x0 (List.mem_singleton.2 rfl)
  have hb1 := isB_of_wf hx1
  have hbm := isB_of_wf hl1
  have hA : tumbrellaw04_awake.f = some true := rfl
  have hlongs : ∀ k x, x = true → tumbrellaw04_FrameBack.j0 (k + 1) l1 a2 x x0 x1 = some true := by
    intro k x hx; subst hx; simp only [tumbrellaw04_FrameBack.j0, if_true]
  by_cases hlong : (x1.length : Int) > 1200
  · refine ⟨0 + 1, ?_⟩
    simp only [tumbrellaw04_FrameBack.f, hA, Option.bind_some, if_true]
    rw [if_pos hlong]
    exact hlongs _ _ rfl
  by_cases hlong1 : (l1.length : Int) > 1200
  · refine ⟨0 + 1, ?_⟩
    simp only [tumbrellaw04_FrameBack.f, hA, Option.bind_some, if_true]
    rw [if_neg hlong]
    exact hlongs _ _ (decide_eq_true hlong1)
  by_cases h4 : (x1.length : Int) > 400
  · refine ⟨0 + 1, ?_⟩
    simp only [tumbrellaw04_FrameBack.f, hA, Option.bind_some, if_true]
    rw [if_neg hlong, decide_eq_false hlong1]
    simp only [tumbrellaw04_FrameBack.j0]
    rw [if_neg (by decide), fbytes_big (by omega)]
    simp only [Option.bind_some]
    rw [if_pos h4]
    rfl
  have hn : x1.length ≤ 400 := by omega
  have hf := fbytes_f hb0 hb1 hn
  have hfl := fb_len x0 x1
  have hfB := fb_isB hb0 hb1 hn
  obtain ⟨K1, h1⟩ := read_ev (l := fb x0 x1 ++ l1) (isB_append hfB hbm) (by rw [List.length_append]; omega)
  obtain ⟨K2, h2⟩ := read_ev (l := (fb x0 x1).take a2.toNat) (isB_take hfB _) (by rw [List.length_take]; omega)
  dsimp only at h1 h2
  rw [fread_fb hn] at h1
  refine ⟨K1 + K2 + 1 + 1, ?_⟩
  simp only [tumbrellaw04_FrameBack.f, hA, Option.bind_some, if_true]
  rw [if_neg hlong, decide_eq_false hlong1]
  simp only [tumbrellaw04_FrameBack.j0]
  rw [if_neg (by decide), hf]
  simp only [Option.bind_some, List.nil_append, List.length_nil]
  rw [if_neg h4, if_pos (by omega), if_pos (by omega), h1 _ (by omega)]
  simp only [Option.bind_some, if_true]
  rw [if_pos (by omega), if_pos (by unfold wrap64; omega), fsame_f hb1 hb1]
  simp only [and_self, decide_true, Option.bind_some, Bool.not_true, tumbrellaw04_FrameBack.j1]
  rw [if_neg (by decide)]
  by_cases hc : a2 < 0
  · rw [if_pos hc]
  rw [if_neg hc]
  by_cases hd : a2 ≥ (x1.length : Int) + 11
  · rw [if_pos hd]
  rw [if_neg hd, if_pos (by omega), if_pos (by omega), h2 _ (by omega), fread_cut hn _ (by omega)]
  rfl
end Go.Proofs.Ytojepleodijdeaa.Pure
