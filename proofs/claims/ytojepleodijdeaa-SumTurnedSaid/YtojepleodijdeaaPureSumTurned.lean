/- Proved: where up to 32 bits, one behind the other, of bytes with their sum are turned, at least one of them, sum.Cut gives nothing; for any row of up to 600 bytes and any place. No conditions beyond the statement's. -/
import Derived.Test.YtojepleodijdeaaB14
import Derived.Test.YtojepleodijdeaaC4
namespace Go.Proofs.Ytojepleodijdeaa.Pure
set_option linter.unusedVariables false
set_option linter.unusedSimpArgs false
open Go.RowKit Go.Proofs.Ytojepleodijdeaa.B Go.Proofs.Ytojepleodijdeaa.VP Go.Proofs.YtojepleodijdeaaW.PrintWords Go.Proofs.YtojepleodijdeaaW.PrintLast Go.Proofs.YtojepleodijdeaaW.PrintMore

theorem wf_i64 {a : Int} (h : (Lit.int .i64 a).wf = true) : -9223372036854775808 ≤ a ∧ a ≤ 9223372036854775807 := by
  simp [Lit.wf, IntKind.min, IntKind.max, IntKind.signed, IntKind.bits] at h
  omega
theorem wf_u32 {a : Int} (h : (Lit.int .u32 a).wf = true) : 0 ≤ a ∧ a < 4294967296 := by
  simp [Lit.wf, IntKind.min, IntKind.max, IntKind.signed, IntKind.bits] at h
  omega

theorem SumTurned : tumbrellaw01_SumTurned.Pure := by
  intro l0 a1 a2 _ _ hb0' ha1 ha2
  have hb0 := isB_of_wf hb0'
  have r1 := wf_i64 ha1
  have r2 := wf_u32 ha2
  have hA : tumbrellaw01_awake.f = some true := rfl
  by_cases hlong : (l0.length : Int) > 600
  · refine ⟨0, ?_⟩
    simp only [tumbrellaw01_SumTurned.f, hA, Option.bind_some, if_true]
    rw [if_pos hlong]
  have hp := put_f hb0 (by omega)
  have hpl := putL_len l0
  have hpb := putL_isB hb0
  obtain ⟨R, ⟨K1, h1⟩, hRl, hRb, hbits⟩ := turn_ev hpb (by omega) r1 r2
  obtain ⟨K2, h2⟩ := cut_ev hRb (by omega)
  obtain ⟨K3, h3⟩ := same_ev (putL l0) R (by omega)
  obtain ⟨K4, h4⟩ := same_ev l0 l0 (by omega)
  dsimp only at h1 h2 h3 h4
  refine ⟨K1 + K2 + K3 + K4, ?_⟩
  simp only [tumbrellaw01_SumTurned.f, hA, Option.bind_some, if_true]
  rw [if_neg hlong, hp]
  simp only [Option.bind_some]
  rw [h1 _ (by omega)]
  simp only [Option.bind_some]
  rw [h2 _ (by omega)]
  simp only [Option.bind_some]
  rw [h3 _ (by omega)]
  simp only [Option.bind_some]
  by_cases he : putL l0 = R
  · rw [decide_eq_true he, ← he, cutL_put]
    simp only [if_true]
    rw [h4 _ (by omega)]
    simp
  · rw [decide_eq_false he, if_neg (by decide)]
    have hf : (cutL R).2 = false := by
      cases hc : (cutL R).2 with
      | false => rfl
      | true => exact absurd (turned_seen hpb hRb hRl hbits (crc_put l0) (cutL_good hRb hc)).symm he
    rw [cutL_false hf]
    rfl
end Go.Proofs.Ytojepleodijdeaa.Pure
