/- Proved: who is gone stays; who is dead comes back by Requeue alone, and goes by Purge alone; who is delayed comes by time alone: for any up to 300 acts and any number most. No conditions beyond the statement's. -/
import Derived.Test.YtbhkboikholmhaaL2
import Derived.Test.YtbhkboikholmhaaCE
namespace Go.Proofs.Ytbhkboikholmhaa.Pure
set_option linter.unusedVariables false
set_option linter.unusedSimpArgs false
open Go.RowKit Go.Proofs.Ytbhkboikholmhaa.B Go.Proofs.Ytbhkboikholmhaa.LP Go.Proofs.YtbhkboikholmhaaW.PrintWords Go.Proofs.YtbhkboikholmhaaW.PrintLast Go.Proofs.YtbhkboikholmhaaW.PrintMore

theorem seeE_j0_true (k : Nat) (h : 1 ≤ k) (s c d t r1 r2 r3 r4 x0 x1 x2 x3 : Int) : seeE.j0 k true s c d t r1 r2 r3 r4 x0 x1 x2 x3 = some true := by
  obtain ⟨k, rfl⟩ : ∃ m, k = m + 1 := ⟨k - 1, by omega⟩
  rw [seeE.j0, if_pos rfl]
theorem ends_step (s c d t k tok now n m r1 r2 r3 r4 r5 : Int) (h : Step s c d t k tok now n m r1 r2 r3 r4 r5) (K : Nat) (hK : 2 ≤ K) : seeE.f K s c d t r1 r2 r3 r4 k tok now n r5 = some true := by
  unfold seeE.f
  by_cases h5 : r5 = 0
  · rw [if_pos h5]
    by_cases heq : (r1 == s && (r2 == c && (r3 == d && (r4 == t)))) = true
    · rw [heq]; exact seeE_j0_true K (by omega) _ _ _ _ _ _ _ _ _ _ _ _
    · rw [Bool.eq_false_iff.mpr heq]
      obtain ⟨K, rfl⟩ : ∃ m, K = m + 1 := ⟨K - 1, by omega⟩
      rw [seeE.j0, if_neg (by decide)]
      cases h with
      | err e he _ => exact absurd h5 he
      | lease h1 h2 => subst h2; simp
      | ack h1 h2 h3 => subst h2; simp
      | dead h1 h2 h3 => subst h2; simp
      | back h1 h2 h3 => subst h2; simp
      | later h1 h2 h3 h4 => subst h2; simp
      | extend h1 h2 h3 => subst h2; simp
      | comes h1 h2 h3 => subst h1; subst h2; simp [h3]
      | same h1 => exact absurd (by simp) heq
      | requeue h1 h2 => subst h1; subst h2; simp
      | purge h1 h2 => subst h1; subst h2; simp
  · rw [if_neg h5]; exact seeE_j0_true K (by omega) _ _ _ _ _ _ _ _ _ _ _ _
theorem LifeEnds (l : List S30) (hw : ∀ x ∈ l, wf30 x) (m : Int) (_ : (Lit.int .i64 m).wf = true) : ∃ k, (l.length : Int) > 300 ∨ m < 1 ∨ tumbrellaw09_lived.f seeE.f k l m = some true := by
  by_cases h1 : (l.length : Int) > 300
  · exact ⟨0, .inl h1⟩
  refine ⟨l.length + 3, .inr (.inr ?_)⟩
  exact lived_f seeE.f m l (by omega) hw (fun _ _ _ _ => True) trivial (fun s c d t x _ r1 r2 r3 r4 r5 hs => ⟨fun k hk => ends_step _ _ _ _ _ _ _ _ _ _ _ _ _ _ hs k hk, fun _ => trivial⟩)
end Go.Proofs.Ytbhkboikholmhaa.Pure
