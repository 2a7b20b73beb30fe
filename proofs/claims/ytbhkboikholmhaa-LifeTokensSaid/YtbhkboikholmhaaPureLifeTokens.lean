/- Proved: a token counts for one lease: an Ack, a Nack and an Extend are heard just if the life is leased, by that token; behind an Ack, or a Nack, no token is heard till it is leased again: for any up to 300 acts and any number most. No conditions beyond the statement's. -/
import Derived.Test.YtbhkboikholmhaaL2
import Derived.Test.YtbhkboikholmhaaCT
namespace Go.Proofs.Ytbhkboikholmhaa.Pure
set_option linter.unusedVariables false
set_option linter.unusedSimpArgs false
open Go.RowKit Go.Proofs.Ytbhkboikholmhaa.B Go.Proofs.Ytbhkboikholmhaa.LP Go.Proofs.YtbhkboikholmhaaW.PrintWords Go.Proofs.YtbhkboikholmhaaW.PrintLast Go.Proofs.YtbhkboikholmhaaW.PrintMore

theorem ack_no (s c d t tok : Int) (h : s ≠ 3) : life_Life_Ack.f s c d t tok = some (0, 0, 0, 0, 9) := by
  unfold life_Life_Ack.f life_Life_holds.f
  rw [Option.bind_some, if_neg (by simp [h])]
theorem seeT_j1 (k : Nat) (hk : 1 ≤ k) (e : Int) (held : Bool) (r1 r2 r3 r4 x0 x1 x2 x3 : Int) (h : (e = 9) ↔ held = false) (h3 : e = 0 → x0 = 3 → r1 = 3 ∧ r4 = x1) (h12 : e = 0 → x0 ≠ 3 → r1 ≠ 3) : seeT.j1 k e held r1 r2 r3 r4 x0 x1 x2 x3 = some true := by
  obtain ⟨k, rfl⟩ : ∃ m, k = m + 1 := ⟨k - 1, by omega⟩
  rw [seeT.j1]
  have hne : ¬ ((e == 9) == held) = true := by
    cases held <;> simp_all
  rw [if_neg hne]
  by_cases e0 : e = 0
  · rw [if_pos e0]
    by_cases x3' : x0 = 3
    · obtain ⟨a, b⟩ := h3 e0 x3'
      rw [if_pos x3', if_pos a]; simp [b]
    · rw [if_neg x3', ack_no _ _ _ _ _ (h12 e0 x3')]; rfl
  · rw [if_neg e0]
theorem tokens_step (s c d t k tok now n m r1 r2 r3 r4 r5 : Int) (h : Step s c d t k tok now n m r1 r2 r3 r4 r5) (K : Nat) (hK : 2 ≤ K) : seeT.f K s c d t r1 r2 r3 r4 k tok now n r5 = some true := by
  obtain ⟨K, rfl⟩ : ∃ m, K = m + 1 := ⟨K - 1, by omega⟩
  unfold seeT.f
  by_cases h1 : k < 1
  · rw [if_pos h1, seeT.j0, if_pos rfl]
  rw [if_neg h1]
  by_cases h2 : k > 3
  · rw [decide_eq_true h2, seeT.j0, if_pos rfl]
  rw [decide_eq_false h2, seeT.j0, if_neg (by decide)]
  have key : ∀ held : Bool, (held = true ↔ s = 3 ∧ t = tok) → seeT.j1 K r5 held r1 r2 r3 r4 k tok now n = some true := by
    intro held hh
    refine seeT_j1 K (by omega) r5 held r1 r2 r3 r4 k tok now n ?_ ?_ ?_
    · rw [← Bool.not_eq_true, hh]
      cases h with
      | err e he h9 => rw [h9]; exact ⟨fun x => x.2.2, fun x => ⟨by omega, by omega, x⟩⟩
      | lease a b => omega
      | ack a b cc => simp [b, cc]
      | dead a b cc => rcases a with ⟨_, a⟩ | a | a
                       · simp [a, b]
                       · omega
                       · unfold Else at a; omega
      | back a b cc => rcases a with ⟨_, a⟩ | a | a
                       · simp [a, b]
                       · omega
                       · unfold Else at a; omega
      | later a b cc dd => simp [b, cc]
      | extend a b cc => simp [b, cc]
      | comes a b cc => omega
      | same a => rcases a with a | a
                  · omega
                  · unfold Else at a; omega
      | requeue a b => omega
      | purge a b => omega
    · intro e0 k3
      cases h with
      | err e he h9 => exact absurd e0 he
      | lease a b => omega
      | ack a b cc => omega
      | dead a b cc => rcases a with ⟨a, _⟩ | a | a
                       · omega
                       · omega
                       · unfold Else at a; omega
      | back a b cc => rcases a with ⟨a, _⟩ | a | a
                       · omega
                       · omega
                       · unfold Else at a; omega
      | later a b cc dd => omega
      | extend a b cc => exact ⟨rfl, cc⟩
      | comes a b cc => omega
      | same a => rcases a with a | a
                  · omega
                  · unfold Else at a; omega
      | requeue a b => omega
      | purge a b => omega
    · intro e0 k3
      cases h with
      | err e he h9 => exact absurd e0 he
      | lease a b => omega
      | ack a b cc => omega
      | dead a b cc => omega
      | back a b cc => omega
      | later a b cc dd => omega
      | extend a b cc => exact absurd a k3
      | comes a b cc => omega
      | same a => rcases a with a | a
                  · omega
                  · unfold Else at a; omega
      | requeue a b => omega
      | purge a b => omega
  by_cases hs : s = 3
  · rw [if_pos hs]; exact key _ (by simp [hs])
  · rw [if_neg hs]; exact key false (by simp [hs])
theorem LifeTokens (l : List S30) (hw : ∀ x ∈ l, wf30 x) (m : Int) (_ : (Lit.int .i64 m).wf = true) : ∃ k, (l.length : Int) > 300 ∨ m < 1 ∨ tumbrellaw09_lived.f seeT.f k l m = some true := by
  by_cases h1 : (l.length : Int) > 300
  · exact ⟨0, .inl h1⟩
  refine ⟨l.length + 3, .inr (.inr ?_)⟩
  exact lived_f seeT.f m l (by omega) hw (fun _ _ _ _ => True) trivial (fun s c d t x _ r1 r2 r3 r4 r5 hs => ⟨fun k hk => tokens_step _ _ _ _ _ _ _ _ _ _ _ _ _ _ hs k hk, fun _ => trivial⟩)
end Go.Proofs.Ytbhkboikholmhaa.Pure
