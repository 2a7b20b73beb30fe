/- Plain: the program's life is the reference's, act by act. -/
import Derived.Test.YtbhkboikholmhaaB4
import Derived.Test.YtbhkboikholmhaaB7
namespace Go.Proofs.Ytbhkboikholmhaa.LP
set_option linter.unusedVariables false
set_option linter.unusedSimpArgs false
open Go.RowKit Go.Proofs.Ytbhkboikholmhaa.B Go.Proofs.YtbhkboikholmhaaW.PrintWords Go.Proofs.YtbhkboikholmhaaW.PrintLast Go.Proofs.YtbhkboikholmhaaW.PrintMore

def U (x : Int) : Prop := 0 ≤ x ∧ x < 18446744073709551616
theorem U_of_wf {a : Int} (h : (Lit.int .u64 a).wf = true) : U a := by
  simp [Lit.wf, IntKind.min, IntKind.max, IntKind.signed, IntKind.bits] at h
  unfold U
  omega
theorem sum_ok {a b : Int} (ha : U a) (hb : U b) (h : a + b < 18446744073709551616) : life_sum.f a b = some (a + b, 0) := by
  unfold life_sum.f; unfold U at ha hb
  rw [if_pos (by omega), if_pos h]
theorem sum_no {a b : Int} (ha : U a) (hb : U b) (h : ¬ a + b < 18446744073709551616) : life_sum.f a b = some (0, 10) := by
  unfold life_sum.f; unfold U at ha hb
  rw [if_pos (by omega), if_neg h]
theorem over_f {a b : Int} (ha : U a) (hb : U b) : tumbrelref09_over.f a b = some (decide (¬ a + b < 18446744073709551616)) := by
  unfold tumbrelref09_over.f; unfold U at ha hb
  congr 1
  rw [show IntKind.u64.wrap (18446744073709551615 - a) = 18446744073709551615 - a by rw [IntKind.wrap_u64]; omega]
  apply decide_eq_decide.mpr
  omega
theorem wrap_ok {a b : Int} (ha : U a) (hb : U b) (h : a + b < 18446744073709551616) : IntKind.u64.wrap (a + b) = a + b := by
  unfold U at ha hb
  rw [IntKind.wrap_u64]; omega
theorem lease_eq (s c d t : Int) {now n : Int} (tok : Int) (ha : U now) (hb : U n) : life_Life_Lease.f s c d t now n tok = tumbrelref09_Lease.f s c d t now n tok := by
  unfold life_Life_Lease.f tumbrelref09_Lease.f life_leased.f
  by_cases e1 : s = 1
  · rw [if_pos e1, if_pos e1]
    by_cases e2 : n = 0
    · rw [if_pos e2, if_pos e2]; rfl
    · rw [if_neg e2, if_neg e2, over_f ha hb]
      by_cases e3 : now + n < 18446744073709551616
      · rw [sum_ok ha hb e3]
        simp [e3, wrap_ok ha hb e3]
      · rw [sum_no ha hb e3]
        simp [e3]
  · rw [if_neg e1, if_neg e1]
theorem ack_eq (s c d t tok : Int) : life_Life_Ack.f s c d t tok = tumbrelref09_Ack.f s c d t tok := by
  unfold life_Life_Ack.f tumbrelref09_Ack.f life_Life_holds.f
  by_cases e1 : s = 3 <;> by_cases e2 : t = tok <;> simp [e1, e2]
theorem ended_ends (s c d t m : Int) : life_Life_ended.f s c d t m = tumbrelref09_ends.f s c d t m := rfl
theorem ends_some (s c d t m : Int) : ∃ r1 r2 r3 r4, tumbrelref09_ends.f s c d t m = some (r1, r2, r3, r4) := by
  unfold tumbrelref09_ends.f
  split <;> exact ⟨_, _, _, _, rfl⟩
theorem nack_eq (s c d t tok : Int) {now n : Int} (m : Int) (ha : U now) (hb : U n) : life_Life_Nack.f s c d t tok now n m = tumbrelref09_Nack.f 2 s c d t tok now n m := by
  have hj : tumbrelref09_Nack.j0 2 now n m true s c d t = some (0, 0, 0, 0, 9) := by
    simp only [tumbrelref09_Nack.j0, if_true]
  unfold life_Life_Nack.f tumbrelref09_Nack.f life_Life_holds.f
  by_cases e1 : s = 3
  · rw [if_pos e1]
    by_cases e2 : t = tok
    · have hn : (t != tok) = false := by simp [e2]
      rw [hn, Option.bind_some, if_pos (by simp [e1, e2])]
      simp only [tumbrelref09_Nack.j0, tumbrelref09_Nack.j1, if_true]
      rw [if_neg (show ¬ (false = true) from Bool.false_ne_true)]
      obtain ⟨r1, r2, r3, r4, hr⟩ := ends_some s c d t m
      by_cases e3 : c ≥ m
      · rw [if_pos e3, if_pos e3, ended_ends]
      · rw [if_neg e3, if_neg e3]
        unfold life_later.f
        by_cases e4 : n = 0
        · subst e4
          rw [if_pos rfl, if_pos (by decide)]
          unfold tumbrelref09_ends.f
          rw [if_neg e3]; rfl
        · rw [if_neg e4, if_neg (by simpa using e4), over_f ha hb]
          by_cases e5 : now + n < 18446744073709551616
          · rw [sum_ok ha hb e5]
            simp [e5, wrap_ok ha hb e5]
          · rw [sum_no ha hb e5]
            simp [e5]
    · have hn : (t != tok) = true := by simp [e2]
      rw [hn, hj, Option.bind_some, if_neg (by simp [e2])]
  · rw [if_neg e1, hj, Option.bind_some, if_neg (by simp [e1])]
theorem extend_eq (s c d t tok : Int) {now n : Int} (ha : U now) (hb : U n) : life_Life_Extend.f s c d t tok now n = tumbrelref09_Extend.f 2 s c d t tok now n := by
  have hj : tumbrelref09_Extend.j0 2 tok now n true s c d t = some (0, 0, 0, 0, 9) := by
    simp only [tumbrelref09_Extend.j0, if_true]
  unfold life_Life_Extend.f tumbrelref09_Extend.f life_Life_holds.f
  by_cases e1 : s = 3
  · rw [if_pos e1]
    by_cases e2 : t = tok
    · have hn : (t != tok) = false := by simp [e2]
      rw [hn, Option.bind_some, if_pos (by simp [e1, e2])]
      simp only [tumbrelref09_Extend.j0]
      rw [if_neg (show ¬ (false = true) from Bool.false_ne_true)]
      unfold life_leased.f
      by_cases e4 : n = 0
      · rw [if_pos e4, if_pos e4]; rfl
      · rw [if_neg e4, if_neg e4, over_f ha hb]
        by_cases e5 : now + n < 18446744073709551616
        · rw [sum_ok ha hb e5]
          simp [e5, wrap_ok ha hb e5, e2]
        · rw [sum_no ha hb e5]
          simp [e5]
    · have hn : (t != tok) = true := by simp [e2]
      rw [hn, hj, Option.bind_some, if_neg (by simp [e2])]
  · rw [if_neg e1, hj, Option.bind_some, if_neg (by simp [e1])]
theorem pass_eq (s c d t now m : Int) : life_Life_Pass.f s c d t now m = tumbrelref09_Pass.f 2 s c d t now m := by
  unfold life_Life_Pass.f tumbrelref09_Pass.f
  simp only [tumbrelref09_Pass.j0]
  by_cases e1 : d > now
  · rw [if_pos e1]
    have e2 : ¬ d ≤ now := by omega
    rw [decide_eq_false e2]
    simp only [if_neg e2, Bool.false_eq_true, if_false]
    repeat' split
    all_goals rfl
  · rw [if_neg e1]
    have e2 : d ≤ now := by omega
    rw [decide_eq_true e2]
    by_cases e3 : s = 2
    · rw [if_pos e3, if_pos e3, if_pos rfl]
    · rw [if_neg e3, if_neg e3, if_neg (show ¬ (false = true) from Bool.false_ne_true)]
      by_cases e4 : s = 3
      · rw [if_pos e4, if_pos e4, if_pos e2]
        unfold tumbrelref09_ends.f
        split <;> rfl
      · rw [if_neg e4, if_neg e4]
theorem reset_eq (s c d t m : Int) : life_Life_Reset.f s c d t m = tumbrelref09_Reset.f s c d t m := rfl
theorem do_own (s c d t k tok : Int) {now n : Int} (m : Int) (ha : U now) (hb : U n) : tumbrellaw09_do.f s c d t k tok now n m = tumbrellaw09_own.f 2 s c d t k tok now n m := by
  unfold tumbrellaw09_do.f tumbrellaw09_own.f
  rw [lease_eq s c d t tok ha hb, ack_eq, nack_eq s c d t tok m ha hb, extend_eq s c d t tok ha hb, pass_eq, reset_eq]
  rfl
theorem lease_some (s c d t : Int) {now n : Int} (tok : Int) (ha : U now) (hb : U n) : ∃ r, tumbrelref09_Lease.f s c d t now n tok = some r := by
  unfold tumbrelref09_Lease.f
  rw [over_f ha hb]
  repeat' split
  all_goals first | exact ⟨_, rfl⟩ | (rw [Option.bind_some]; split <;> exact ⟨_, rfl⟩)
theorem do_some (s c d t k tok : Int) {now n : Int} (m : Int) (ha : U now) (hb : U n) : ∃ r1 r2 r3 r4 r5, tumbrellaw09_do.f s c d t k tok now n m = some (r1, r2, r3, r4, r5) := by
  have h : ∃ r, tumbrellaw09_do.f s c d t k tok now n m = some r := by
    have hl : ∃ r, life_Life_Lease.f s c d t now n tok = some r := by
      rw [lease_eq s c d t tok ha hb]; exact lease_some s c d t tok ha hb
    have hla : ∀ c, ∃ r, life_later.f s c d t now n = some r := by
      intro c
      unfold life_later.f
      split
      · exact ⟨_, rfl⟩
      · by_cases e5 : now + n < 18446744073709551616
        · rw [sum_ok ha hb e5, Option.bind_some, if_pos rfl]; exact ⟨_, rfl⟩
        · rw [sum_no ha hb e5, Option.bind_some, if_neg (by decide)]; exact ⟨_, rfl⟩
    have hle : ∃ r, life_leased.f s c d t now n = some r := by
      unfold life_leased.f
      split
      · exact ⟨_, rfl⟩
      · by_cases e5 : now + n < 18446744073709551616
        · rw [sum_ok ha hb e5, Option.bind_some, if_pos rfl]; exact ⟨_, rfl⟩
        · rw [sum_no ha hb e5, Option.bind_some, if_neg (by decide)]; exact ⟨_, rfl⟩
    have ha' : ∃ r, life_Life_Ack.f s c d t tok = some r := by
      unfold life_Life_Ack.f life_Life_holds.f
      rw [Option.bind_some]; split <;> exact ⟨_, rfl⟩
    have hen : ∃ r, life_Life_ended.f s c d t m = some r := by
      unfold life_Life_ended.f; split <;> exact ⟨_, rfl⟩
    have hn : ∃ r, life_Life_Nack.f s c d t tok now n m = some r := by
      unfold life_Life_Nack.f life_Life_holds.f
      obtain ⟨r1, h1⟩ := hen
      obtain ⟨r2, h2⟩ := hla c
      rw [Option.bind_some, h1, h2, Option.bind_some, Option.bind_some]
      repeat' split
      all_goals exact ⟨_, rfl⟩
    have hx : ∃ r, life_Life_Extend.f s c d t tok now n = some r := by
      unfold life_Life_Extend.f life_Life_holds.f
      obtain ⟨r1, h1⟩ := hle
      rw [Option.bind_some, h1, Option.bind_some]
      repeat' split
      all_goals exact ⟨_, rfl⟩
    have hp : ∃ r, life_Life_Pass.f s c d t now m = some r := by
      unfold life_Life_Pass.f
      repeat' split
      all_goals exact ⟨_, rfl⟩
    have hq : ∃ r, life_Life_Requeue.f s c d t = some r := by
      unfold life_Life_Requeue.f
      split <;> exact ⟨_, rfl⟩
    have hu : ∃ r, life_Life_Purge.f s c d t = some r := by
      unfold life_Life_Purge.f
      split <;> exact ⟨_, rfl⟩
    have hr : ∃ r, life_Life_Reset.f s c d t m = some r := by
      unfold life_Life_Reset.f
      obtain ⟨r1, h1⟩ := hen
      rw [h1, Option.bind_some]
      split <;> exact ⟨_, rfl⟩
    obtain ⟨x1, e1⟩ := hl; obtain ⟨x2, e2⟩ := ha'; obtain ⟨x3, e3⟩ := hn; obtain ⟨x4, e4⟩ := hx; obtain ⟨x5, e5⟩ := hp; obtain ⟨x6, e6⟩ := hq; obtain ⟨x7, e7⟩ := hu; obtain ⟨x8, e8⟩ := hr
    unfold tumbrellaw09_do.f
    rw [e1, e2, e3, e4, e5, e6, e7, e8]
    repeat' split
    all_goals exact ⟨_, rfl⟩
  obtain ⟨⟨r1, r2, r3, r4, r5⟩, h⟩ := h
  exact ⟨_, _, _, _, _, h⟩
theorem born_eq {now n : Int} (ha : U now) (hb : U n) : life_Born.f now n = tumbrelref09_Born.f now n := by
  unfold life_Born.f life_later.f tumbrelref09_Born.f
  by_cases e4 : n = 0
  · rw [if_pos e4, if_pos e4]; rfl
  · rw [if_neg e4, if_neg e4, over_f ha hb]
    by_cases e5 : now + n < 18446744073709551616
    · rw [sum_ok ha hb e5]
      simp [e5, wrap_ok ha hb e5]
    · rw [sum_no ha hb e5]
      simp [e5]
theorem born_some {now n : Int} (ha : U now) (hb : U n) : ∃ r1 r2 r3 r4 r5, life_Born.f now n = some (r1, r2, r3, r4, r5) := by
  rw [born_eq ha hb]
  unfold tumbrelref09_Born.f
  rw [over_f ha hb, Option.bind_some]
  repeat' split
  all_goals exact ⟨_, _, _, _, _, rfl⟩
end Go.Proofs.Ytbhkboikholmhaa.LP
