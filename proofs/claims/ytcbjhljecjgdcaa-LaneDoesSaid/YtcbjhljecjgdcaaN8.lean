/- Own text: tumbrellaw08.LaneDoes: the walk. -/
import Derived.Test.YtcbjhljecjgdcaaN9
set_option linter.unusedVariables false
set_option linter.unusedSimpArgs false
namespace Go.Proofs.Ytcbjhljecjgdcaa.L
open Go Go.RowKit Go.MapKept
open Go.ChangeMaps (setBlock)

set_option maxRecDepth 100000 in
set_option maxHeartbeats 8000000 in
theorem laneDoes_few (w : World) (A : Option Addr) (c : Nat) (l : List (Int × Int)) (id : Int) (hid : (Lit.int .u64 id).wf = true) (hA : ActsIs w A l) (hw : ∀ x ∈ l, (Lit.int .u64 x.2).wf = true) (h : l.length ≤ 200) :
    Calls Try.prog 3 #[.slice A l.length c, .int .u64 id] w fun e w' => e = .returned (.bool true) ∧ Below w.heap.size w w' := by
  have hd : decide ((200 : Int) < l.length) = false := decide_eq_false (by omega)
  obtain ⟨n, hn⟩ : ∃ n, l.length = n := ⟨_, rfl⟩
  rw [hn] at hd h ⊢
  have HN := Lib.hid hn
  have HA := Lib.hid hA
  have HWF := Lib.hid hw
  clear hn hA hw
  go_enter Try.func3, Try.ntmps3
  go_wp2_with (first
    | (go_at_call 6; refine (awake_calls _).mono ?_; rintro e w1 ⟨rfl, hb⟩; have HB := Lib.hid hb; clear hb)
    | (go_at_call 7; refine (newI _ w.heap.size HB.out.size).mono ?_; rintro e w2 ⟨a, F, rfl, h1, h1b, h2⟩; have H1 := Lib.hid (And.intro h1 (HB.out.trans (h2.below HB.out.size (fun _ _ h => h)))); clear h1 h1b h2 HB))
  have H2 : Hid (LR w (w2.alloc (.cells #[.slice none 0 0] 30)) a w2.heap.size [] []) :=
    ⟨F, _, H1.out.1.below (below_alloc1 _ _), by
      obtain ⟨v, r1, r2⟩ := ref_box w2
      exact ⟨v, ⟨r1.box, r1.own.lower H1.out.2.size, H1.out.2.size⟩, r2⟩, fun k hf hg => by
      have := (H1.out.1.lt hf).2
      rcases hg with rfl | hg
      · omega
      · simp [Value.ownBlock] at hg, H1.out.2.alloc H1.out.2.size _⟩
  clear H1
  obtain ⟨W0, hW0⟩ : ∃ W0, w2.alloc (.cells #[.slice none 0 0] 30) = W0 := ⟨_, rfl⟩
  obtain ⟨g, hg⟩ : ∃ g, w2.heap.size = g := ⟨_, rfl⟩
  rw [hW0, hg] at H2 ⊢
  clear hW0 hg
  go_loopw [28] (fun k wr => ∃ j : Nat, j ≤ n ∧ k = .int .i64 j ∧ Hid (LR w wr a g (afterL (l.take j)) (afterL (l.take j)))) (fun k _ => n - (intOf k).toNat)
  case atStart => exact ⟨0, by omega, rfl, H2.out⟩
  case round =>
    obtain ⟨j, hj, rfl, hr⟩ := hrel
    clear H2
    by_cases hlt : j < n
    · have hlj : j < l.length := by rw [HN.out]; exact hlt
      have hxw : (Lit.int .u64 (l.getD j (0, 0)).2).wf = true := HWF.out _ (by rw [List.getD_eq_getElem?_getD, List.getElem?_eq_getElem hlj]; simp)
      have hu := afterL_snoc hlj
      have hcell : ∃ r o, A = some ⟨r, o, none⟩ ∧ wr.cell? ⟨r, o + j * 2, none⟩ = some (.int .i64 (l.getD j (0, 0)).1) ∧ wr.cell? ⟨r, o + j * 2 + 1, none⟩ = some (.int .u64 (l.getD j (0, 0)).2) := by
        rcases HA.out with e | ⟨r, o, e, hrl, hc⟩
        · rw [e] at hlj; simp at hlj
        · obtain ⟨F, _, _, _, _, hb⟩ := hr.out
          exact ⟨r, o, e, (hb.cell (p := ⟨r, o + j * 2, none⟩) hrl).trans (hc j hlj).1, (hb.cell (p := ⟨r, o + j * 2 + 1, none⟩) hrl).trans (hc j hlj).2⟩
      obtain ⟨r, o, rfl, hc0, hc1⟩ := hcell
      have hl1 : (afterL (l.take j)).length ≤ 100000 := Nat.le_trans (afterL_len _) (by rw [List.length_take]; omega)
      clear hlj
      generalize l.getD j (0, 0) = x at *
      obtain ⟨d, i⟩ := x
      simp only at hc0 hc1 hxw
      have HX := Lib.hid (hr.out.box d i)
      have hnd := hr.out.nodup
      have HND := Lib.hid hnd
      clear hnd hr
      obtain ⟨ids, hids⟩ : ∃ ids, afterL (l.take j) = ids := ⟨_, rfl⟩
      rw [hids] at hu hl1 HX HND
      have hl2 : (afterL (l.take (j + 1))).length ≤ 100000 := Nat.le_trans (afterL_len _) (by rw [List.length_take]; omega)
      obtain ⟨ids2, hids2⟩ : ∃ ids2, afterL (l.take (j + 1)) = ids2 := ⟨_, rfl⟩
      rw [hids2] at hu hl2
      have HI2 := Lib.hid hids2
      have HU := Lib.hid hu
      clear hids hids2 hu
      go_upto_block 2 with (fail)
      obtain ⟨W1, hW1⟩ : ∃ W1, wr.alloc (.cells #[.int .i64 d, .int .u64 i] 32) = W1 := ⟨_, rfl⟩
      obtain ⟨X, hX⟩ : ∃ X, wr.heap.size = X := ⟨_, rfl⟩
      rw [hW1, hX] at HX ⊢
      have k0 := HX.out.cell0
      have k1 := HX.out.cell1
      clear hW1 hX hc0 hc1
      go_cut [9] (fun s9 wx => s9 = .bool true ∧ Hid (LR w wx a g ids2 ids2))
      case first =>
        by_cases hd0 : d = 0
        · have t0 : (d == 0) = true := beq_iff_eq.2 hd0
          have hu2 : ids2 = putIds i ids := by rw [HU.out]; unfold actL; rw [if_pos hd0]
          have HU2 := Lib.hid hu2
          clear hu2 hd0
          go_wp2
          go_region_with (first
            | (go_at_call 8; with_reducible refine (LRX.putL (LRX.drew HX.out) i hxw).mono ?_; rintro e w4 ⟨rfl, H4⟩; have k40 := H4.out.cell0; have k41 := H4.out.cell1; clear HX k0 k1)
            | (go_at_call 9; with_reducible refine (LRX.putR H4.out i hl1).mono ?_; rintro e w5 ⟨rfl, H5⟩; have k50 := H5.out.cell0; have k51 := H5.out.cell1; clear H4 k40 k41))
          all_goals (go_wp2_with fail; go_meet; exact ⟨rfl, by rw [HU2.out]; exact H5.out.lr⟩)
        · have t0 : (d == 0) = false := beq_eq_false_iff_ne.2 hd0
          by_cases hd1 : d = 1
          · have t1 : (d == 1) = true := beq_iff_eq.2 hd1
            have hu2 : ids2 = ids.tail := by rw [HU.out]; unfold actL; rw [if_neg hd0, if_pos hd1]
            have HU2 := Lib.hid hu2
            clear hu2 hd0 hd1
            go_wp2_with (first
              | (go_at_call 10; with_reducible refine (LRX.takeL HX.out).mono ?_; rintro e w4 ⟨rfl, H4⟩; have k40 := H4.out.cell0; have k41 := H4.out.cell1; clear HX k0 k1)
              | (go_at_call 11; with_reducible refine (LRX.takeR H4.out HND.out hl1).mono ?_; rintro e w5 ⟨rfl, H5⟩; have k50 := H5.out.cell0; have k51 := H5.out.cell1; clear H4 k40 k41))
            all_goals (go_meet; exact ⟨rfl, by rw [HU2.out]; exact H5.out.lr⟩)
          · have t1 : (d == 1) = false := beq_eq_false_iff_ne.2 hd1
            by_cases hd2 : d = 2
            · have t2 : (d == 2) = true := beq_iff_eq.2 hd2
              have hu2 : ids2 = keep i ids := by rw [HU.out]; unfold actL; rw [if_neg hd0, if_neg hd1, if_pos hd2]
              have HU2 := Lib.hid hu2
              clear hu2 hd0 hd1 hd2
              go_wp2
              go_region_with (first
                | (go_at_call 12; with_reducible refine (LRX.dropL (LRX.drew HX.out) i hxw).mono ?_; rintro e w4 ⟨rfl, H4⟩; have k40 := H4.out.cell0; have k41 := H4.out.cell1; clear HX k0 k1)
                | (go_at_call 13; with_reducible refine (LRX.dropR H4.out i hl1).mono ?_; rintro e w5 ⟨rfl, H5⟩; have k50 := H5.out.cell0; have k51 := H5.out.cell1; clear H4 k40 k41))
              all_goals (go_wp2_with fail; go_meet; exact ⟨rfl, by rw [HU2.out]; exact H5.out.lr⟩)
            · have t2 : (d == 2) = false := beq_eq_false_iff_ne.2 hd2
              have hu2 : ids2 = ids := by rw [HU.out]; unfold actL; rw [if_neg hd0, if_neg hd1, if_neg hd2]
              have HU2 := Lib.hid hu2
              clear hu2 hd0 hd1 hd2
              go_wp2
              all_goals (go_meet; exact ⟨rfl, by rw [HU2.out]; exact HX.out.lr⟩)
      case rest =>
        obtain ⟨rfl, H3⟩ := hcut
        clear HX HND hl1 k0 k1
        have C1 := LR.firstL H3.out
        obtain ⟨x0, hx0⟩ : ∃ x0, ids2.headD 0 = x0 := ⟨_, rfl⟩
        obtain ⟨b0, hb0⟩ : ∃ b0, (!ids2.isEmpty) = b0 := ⟨_, rfl⟩
        rw [hx0, hb0] at C1
        have HX0 := Lib.hid hx0
        have HB0 := Lib.hid hb0
        clear hx0 hb0 H3
        go_wp2_with (first
          | (go_at_call 14; with_reducible refine C1.mono ?_; rintro e w4 ⟨rfl, H4⟩; clear C1; have C2 := LR.firstR H4.out; rw [HX0.out, HB0.out] at C2)
          | (go_at_call 15; with_reducible refine C2.mono ?_; rintro e w5 ⟨rfl, rfl⟩; clear C2))
        obtain ⟨A5, c5, h5⟩ := H4.out.named
        rename_i hK_

        refine region21 (w := w) (c := { a := a, g := g, m := ids2.length, c := c5, A := A5, ids := ids2, x0 := x0, id := id, b0 := b0, q := decide (id ∈ ids2) }) rfl ?hOk ?hQ
        case hOk => exact { b9 := rfl, b14 := rfl, b16 := rfl, b15 := rfl, b17 := rfl, b5 := rfl, b6 := rfl, b1 := rfl, lrv := h5.drew, hm := rfl, hl := hl2, hq := rfl, hid := hid }
        case hQ =>
          rintro a' w' h1 h2 h3 h4 h6 hb
          obtain ⟨z86, z87, z88, z89, z90, z91, z92, z93, z94, z95, z96, z97, z98, z99, z100, z101, z102, z103, z104, z105, z106, z107, z108, z109, z110, z111, z112, z113, z114, z115, z116, z117, z118, z119, z120, z121, z122, z123, z124, z125, z127, rfl⟩ := explode _ a' _ rfl rfl h1 h2 h3 h6
          have H6 : Hid (LR w w' a g ids2 ids2) := (h5.drew.grows hb).lr
          clear h1 h2 h3 h4 h6 hb h5
          refine hK_ _ _ ?_
          simp only [List.take_succ_cons, List.take_zero, List.cons_append, List.nil_append]
          go_wp2
          go_roundw
          case rel => exact ⟨j + 1, by omega, by go_num, by rw [HI2.out]; exact H6.out⟩
          case measure => simp [intOf]; omega
    · have ht : l.take j = l := List.take_of_length_le (by rw [HN.out]; omega)
      have hr2 := hr.out
      rw [ht] at hr2
      have H2 := Lib.hid hr2
      clear hr ht hr2
      go_wp2
      go_ret
      obtain ⟨F, G, _, _, _, hb⟩ := H2.out
      exact ⟨rfl, hb⟩
end Go.Proofs.Ytcbjhljecjgdcaa.L
