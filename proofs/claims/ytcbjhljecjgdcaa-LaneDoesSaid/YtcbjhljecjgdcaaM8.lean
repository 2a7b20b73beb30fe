/- Own text: tumbrelref02.Same; the reference's lane: Put, Drop, Take: the walks. -/
import Derived.Test.YtcbjhljecjgdcaaM7
set_option linter.unusedVariables false
set_option linter.unusedSimpArgs false
namespace Go.Proofs.Ytcbjhljecjgdcaa.L
open Go Go.RowKit Go.MapKept
open Go.ChangeMaps (setBlock)

theorem take_eq_next {a b : List Int} {j : Nat} (h : a.take j = b.take j) (ha : j < a.length) (hb : j < b.length) (e : a.getD j 0 = b.getD j 0) : a.take (j + 1) = b.take (j + 1) := by
  rw [List.take_succ_eq_append_getElem ha, List.take_succ_eq_append_getElem hb, h]
  congr 1
  simpa [List.getD_eq_getElem?_getD, List.getElem?_eq_getElem ha, List.getElem?_eq_getElem hb] using e
set_option maxHeartbeats 2000000 in
theorem same_calls (w : World) (b1 b2 : Nat) (v1 v2 : Value) (l1 l2 : List Int) (h1 : Own64 w b1 v1 l1) (h2 : Own64 w b2 v2 l2) (hl1 : l1.length ≤ 100000) (hl2 : l2.length ≤ 100000) :
    Calls Try.prog 16 #[v1, v2] w fun e w' => e = .returned (.bool (decide (l1 = l2))) ∧ ∃ n, w' = w.drewN n := by
  obtain ⟨R, hR⟩ : ∃ R, decide (l1 = l2) = R := ⟨_, rfl⟩
  rw [hR]
  have HR := Lib.hid hR
  clear hR
  by_cases hlen : l1.length = l2.length
  · rcases h1.form with ⟨rfl, rfl⟩ | ⟨r1, c1, rfl, _, _, hc1⟩
    · have e2 : l2 = [] := List.eq_nil_of_length_eq_zero (by simpa using hlen.symm)
      subst e2
      rcases h2.form with ⟨rfl, _⟩ | ⟨r2, c2, rfl, _, _, hc2⟩
      all_goals
        clear h1 h2 hlen
        go_enter Try.func16, Try.ntmps16
        go_wp2
        go_loop [5] (fun k => k = .int .i64 0) (fun _ => 0)
        case atStart => rfl
        case round =>
          obtain rfl := hrel
          go_wp2
          go_ret
          exact ⟨by rw [← HR.out]; rfl, 0, rfl⟩
    · rcases h2.form with ⟨rfl, rfl⟩ | ⟨r2, c2, rfl, _, _, hc2⟩
      · clear h1 h2
        have e1 : l1 = [] := List.eq_nil_of_length_eq_zero (by simpa using hlen)
        subst e1
        clear hlen
        go_enter Try.func16, Try.ntmps16
        go_wp2
        go_loop [5] (fun k => k = .int .i64 0) (fun _ => 0)
        case atStart => rfl
        case round =>
          obtain rfl := hrel
          go_wp2
          go_ret
          exact ⟨by rw [← HR.out]; rfl, 0, rfl⟩
      · clear h1 h2
        have hc1' : ∀ n j, j < l1.length → (w.drewN n).cell? ⟨r1, j, none⟩ = some (.int .u64 (l1.getD j 0)) := fun n j hj => hc1 j hj
        have hc2' : ∀ n j, j < l2.length → (w.drewN n).cell? ⟨r2, j, none⟩ = some (.int .u64 (l2.getD j 0)) := fun n j hj => hc2 j hj
        have HC1 := Lib.hid hc1'
        have HC2 := Lib.hid hc2'
        have HL := Lib.hid hlen
        clear hc1 hc2 hc1' hc2'
        obtain ⟨n2, hn2⟩ : ∃ n, l2.length = n := ⟨_, rfl⟩
        rw [hn2] at hlen ⊢
        rw [hlen]
        have HN2 := Lib.hid hn2
        clear hn2
        rw [hlen] at hl1
        have HL1 := Lib.hid hlen
        clear hlen hl2
        go_enter Try.func16, Try.ntmps16
        go_wp2
        go_loopw [5] (fun k wr => ∃ j n : Nat, j ≤ n2 ∧ k = .int .i64 j ∧ l1.take j = l2.take j ∧ Hid (wr = w.drewN n)) (fun k _ => n2 - (intOf k).toNat)
        case atStart => exact ⟨0, 0, by omega, rfl, by simp, rfl⟩
        case round =>
          obtain ⟨j, n, hj, rfl, ht, hwr⟩ := hrel
          have HT := Lib.hid ht
          clear ht
          by_cases hlt : j < n2
          · have hcj1 : wr.cell? ⟨r1, j, none⟩ = some (.int .u64 (l1.getD j 0)) := by rw [hwr.out]; exact HC1.out n j (by rw [HL1.out]; exact hlt)
            have hcj2 : wr.cell? ⟨r2, j, none⟩ = some (.int .u64 (l2.getD j 0)) := by rw [hwr.out]; exact HC2.out n j (by rw [HN2.out]; exact hlt)
            by_cases he : l1.getD j 0 = l2.getD j 0
            · have ht2 := take_eq_next HT.out (by rw [HL1.out]; exact hlt) (by rw [HN2.out]; exact hlt) he
              have HT2 := Lib.hid ht2
              have hb1 : (l1.getD j 0 != l2.getD j 0) = false := by simp only [bne_eq_false_iff_eq]; exact he
              clear ht2 he
              generalize l1.getD j 0 = x at *
              generalize l2.getD j 0 = y at *
              go_wp2
              go_region
              all_goals go_wp2
              go_roundw
              case rel => exact ⟨j + 1, n + 1, by omega, by go_num, HT2.out, by rw [hwr.out]; rfl⟩
              case measure => simp [intOf]; omega
            · have hne : l1 ≠ l2 := fun e => he (by rw [e])
              have HNE := Lib.hid hne
              have hb1 : (l1.getD j 0 != l2.getD j 0) = true := bne_iff_ne.2 he
              clear hne he
              generalize l1.getD j 0 = x at *
              generalize l2.getD j 0 = y at *
              go_wp2
              go_region
              all_goals go_wp2
              go_ret
              exact ⟨by rw [← HR.out, decide_eq_false HNE.out]; rfl, n + 1, by rw [hwr.out]; rfl⟩
          · have heq : l1 = l2 := by
              have := HT.out
              rwa [List.take_of_length_le (by rw [HL1.out]; omega), List.take_of_length_le (by rw [HN2.out]; omega)] at this
            have HE := Lib.hid heq
            clear heq
            go_wp2
            go_ret
            exact ⟨by rw [← HR.out, decide_eq_true HE.out]; rfl, n, hwr.out⟩
  · have hne : l1 ≠ l2 := fun e => hlen (by rw [e])
    have HNE := Lib.hid hne
    have hb : ((l1.length : Int) != l2.length) = true := bne_iff_ne.2 (by omega)
    clear hne hlen
    rcases h1.form with ⟨rfl, e1⟩ | ⟨r1, c1, rfl, _, _, hc1⟩ <;> rcases h2.form with ⟨rfl, e2⟩ | ⟨r2, c2, rfl, _, _, hc2⟩
    · rw [e1, e2] at hb; exact absurd hb (by decide)
    · rw [e1] at hb
      replace hb : ((0 : Int) != l2.length) = true := hb
      clear h1 h2 hc2 e1
      generalize l2.length = n2 at *
      go_enter Try.func16, Try.ntmps16
      go_wp2
      go_ret
      exact ⟨by rw [← HR.out, decide_eq_false HNE.out]; rfl, 0, rfl⟩
    · rw [e2] at hb
      replace hb : ((l1.length : Int) != 0) = true := hb
      clear h1 h2 hc1 e2
      generalize l1.length = n1 at *
      go_enter Try.func16, Try.ntmps16
      go_wp2
      go_ret
      exact ⟨by rw [← HR.out, decide_eq_false HNE.out]; rfl, 0, rfl⟩
    · clear h1 h2 hc1 hc2
      generalize l1.length = n1 at *
      generalize l2.length = n2 at *
      go_enter Try.func16, Try.ntmps16
      go_wp2
      go_ret
      exact ⟨by rw [← HR.out, decide_eq_false HNE.out]; rfl, 0, rfl⟩
end Go.Proofs.Ytcbjhljecjgdcaa.L
