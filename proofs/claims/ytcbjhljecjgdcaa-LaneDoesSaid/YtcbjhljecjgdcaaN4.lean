/- Own text: tumbrellaw08.LaneRow: the walk. -/
import Derived.Test.YtcbjhljecjgdcaaN3
set_option linter.unusedVariables false
set_option linter.unusedSimpArgs false
namespace Go.Proofs.Ytcbjhljecjgdcaa.L
open Go Go.RowKit Go.MapKept
open Go.ChangeMaps (setBlock)

theorem LaneI.nodup {w : World} {base b : Nat} {F : Nat → Prop} {ids : List Int} (h : LaneI w base b F ids) : ids.Nodup := by
  obtain ⟨m, L, h1, rfl, _⟩ := h
  exact h1.uniq
theorem LaneI.wf {w : World} {base b : Nat} {F : Nat → Prop} {ids : List Int} (h : LaneI w base b F ids) : ∀ i ∈ ids, (Lit.int .u64 i).wf = true := by
  obtain ⟨m, L, h1, rfl, _⟩ := h
  obtain ⟨es, c, _, _, h3⟩ := h1.ents
  intro i hi
  obtain ⟨p, hp, rfl⟩ := List.mem_map.1 hi
  exact h3 p hp
/-- One element more: where the new slice lies, too. -/
theorem app_one {W : World} {base : Nat} {v : Value} {l : List Int} (hown : Own64 W base v l) (x : Int) (hb : base ≤ W.heap.size) (hlen : l.length ≤ 100000) :
    ∃ v' W', (Builtin.append_ #[28, 28] 28 #[v, .slice (some ⟨W.heap.size, 0, none⟩) 1 1]).run Try.prog (W.alloc (.cells #[.int .u64 x] 23)) = .ok v' W' ∧ Own64 W' base v' (l ++ [x]) ∧ (W.alloc (.cells #[.int .u64 x] 23)).grownBy W' v.ownBlock ∧ (v'.ownBlock = v.ownBlock ∨ v'.ownBlock = some (W.heap.size + 1)) := by
  obtain ⟨i0, hi, hz0, hz1, hz2⟩ := info_parts info23
  obtain ⟨v', W', h1, h2, h3, _, h4⟩ := run_append_own_at (P := Try.prog) (W.alloc (.cells #[.int .u64 x] 23)) base 28 28 23 i0 (.int .u64 0) 1 8 Try.underlying28 hi hz0 hz1 hz2 rfl (by decide) v l.length (ints l) (World.ownsRow.alloc hown _) ⟨W.heap.size, 0, none⟩ 1 1 [.int .u64 x] rfl (cell_one_new _ _ _) (by simp [Value.oneCell']) (by simp only [maxLen]; omega) (by omega) (by simp; omega)
  refine ⟨v', W', h1, ?_, h3, by simpa using h4⟩
  unfold Own64
  rw [List.length_append]
  simpa [ints] using h2
/-- A lane of one's own, and a slice of one's own beside it. -/
def RowSt (w W : World) (b : Nat) (v : Value) (ids l : List Int) : Prop :=
  ∃ F, LaneI W w.heap.size b F ids ∧ Own64 W w.heap.size v l ∧ (∀ k, v.ownBlock = some k → ¬ F k) ∧ Below w.heap.size w W
theorem RowSt.put {w W : World} {b : Nat} {v : Value} {ids l : List Int} (h : RowSt w W b v ids l) (i : Int) (hi : (Lit.int .u64 i).wf = true) (t : Bool) (ids' : List Int) (ht : (!decide (i ∈ ids)) = t) (hids : putIds i ids = ids') :
    Calls Try.prog 8 #[.pointer (some ⟨b, 0, none⟩), .int .u64 i] W fun e W' => e = .returned (.bool t) ∧ Hid (RowSt w W' b v ids' l) := by
  obtain ⟨F, h1, h2, h3, h4⟩ := h
  subst ht hids
  refine (putI W _ b F ids i hi h1 h4.size).mono ?_
  rintro e W' ⟨F', rfl, h5, h6, h7⟩
  refine ⟨rfl, F', h5, h2.only h7 h3, fun k hk hF => ?_, h4.trans (h7.below h4.size fun k hk hF => by have := (h1.lt hF).1; omega)⟩
  rcases h6 k hF with hF | hF
  · exact h3 k hk hF
  · have := (h2.lt k hk).2; omega
theorem RowSt.take {w W : World} {b : Nat} {v : Value} {ids l : List Int} (h : RowSt w W b v ids l) (x : Int) (t : Bool) (ids' : List Int) (hx : ids.headD 0 = x) (ht : (!ids.isEmpty) = t) (hids : ids.tail = ids') :
    Calls Try.prog 10 #[.pointer (some ⟨b, 0, none⟩)] W fun e W' => e = .returned (.tuple #[.int .u64 x, .bool t]) ∧ Hid (RowSt w W' b v ids' l) := by
  obtain ⟨F, h1, h2, h3, h4⟩ := h
  subst hx ht hids
  refine (takeI W _ b F ids h1).mono ?_
  rintro e W' ⟨F', rfl, h5, h6, h7⟩
  exact ⟨rfl, F', h5, h2.only h7 h3, fun k hk hF => h3 k hk (h6 k hF), h4.trans (h7.below h4.size fun k hk hF => by have := (h1.lt hF).1; omega)⟩
theorem RowSt.has {w W : World} {b : Nat} {v : Value} {ids l : List Int} (h : RowSt w W b v ids l) (i : Int) (hi : (Lit.int .u64 i).wf = true) (t : Bool) (ht : decide (i ∈ ids) = t) :
    Calls Try.prog 18 #[.pointer (some ⟨b, 0, none⟩), .int .u64 i] W fun e W' => e = .returned (.bool t) ∧ W' = W := by
  obtain ⟨F, h1, _⟩ := h
  subst ht
  exact hasI W _ b F ids i hi h1
theorem RowSt.len {w W : World} {b : Nat} {v : Value} {ids l : List Int} (h : RowSt w W b v ids l) (n : Nat) (hn : ids.length = n) :
    Calls Try.prog 20 #[.pointer (some ⟨b, 0, none⟩)] W fun e W' => e = .returned (.int .i64 n) ∧ W' = W := by
  obtain ⟨F, h1, _⟩ := h
  subst hn
  exact lenI W _ b F ids h1
theorem RowSt.grows {w W W' : World} {b : Nat} {v : Value} {ids l : List Int} (h : RowSt w W b v ids l) (hb : Below W.heap.size W W') : RowSt w W' b v ids l := by
  obtain ⟨F, h1, h2, h3, h4⟩ := h
  exact ⟨F, h1.below hb, h2.below hb, h3, h4.trans (hb.mono h4.size)⟩
theorem RowSt.all {w W : World} {b : Nat} {v : Value} {ids l : List Int} (h : RowSt w W b v ids l) (hl : ids.length ≤ 100000) :
    Calls Try.prog 17 #[.pointer (some ⟨b, 0, none⟩)] W fun e W' => ∃ v2, e = .returned v2 ∧ Hid (RowSt w W' b v ids l ∧ Own64 W' W.heap.size v2 ids) := by
  have h0 := h
  obtain ⟨F, h1, _⟩ := h
  refine (allI W _ b F ids h1 hl).mono ?_
  rintro e W' ⟨v2, rfl, h3, h4⟩
  exact ⟨v2, rfl, h0.grows h4, h3⟩
theorem RowSt.same {w W : World} {b : Nat} {v : Value} {ids l : List Int} (h : RowSt w W b v ids l) {B : Nat} {v2 : Value} {l2 : List Int} (h2 : Own64 W B v2 l2) (hl : l.length ≤ 100000) (hl2 : l2.length ≤ 100000) (t : Bool) (ht : decide (l2 = l) = t) :
    Calls Try.prog 16 #[v2, v] W fun e W' => e = .returned (.bool t) ∧ Hid (RowSt w W' b v ids l) := by
  have h0 := h
  obtain ⟨F, _, h3, _⟩ := h
  subst ht
  refine (same_calls W B _ v2 v l2 l h2 h3 hl2 hl).mono ?_
  rintro e W' ⟨rfl, n, rfl⟩
  exact ⟨rfl, h0.grows ⟨rfl, rfl, rfl, Nat.le_refl _, fun _ _ => rfl⟩⟩
theorem RowSt.append {w W : World} {b : Nat} {v : Value} {ids l : List Int} (h : RowSt w W b v ids l) (x : Int) (hl : l.length ≤ 100000) {ops : Array Oper} {rest : List Oper} {o : Oper} {a : Act} {Q : Exit → Act → World → Prop} (hgd : o.guard = none) (s y : Operand)
    (ho : o.op = .call { callee := .builtin .append, args := #[s, y], argTypes := #[28, 28] }) (hty : o.type = 28) (hs : a.eval s = v) (hx : a.eval y = .slice (some ⟨W.heap.size, 0, none⟩) 1 1)
    (hk : ∀ v' W', Hid (RowSt w W' b v' ids (l ++ [x])) → wpList Try.prog ops Q rest (a.put o.dst v') W') : wpList Try.prog ops Q (o :: rest) a (W.alloc (.cells #[.int .u64 x] 23)) := by
  obtain ⟨F, h1, h2, h3, h4⟩ := h
  obtain ⟨v', W', hr, h5, h6, h7⟩ := app_one h2 x h4.size hl
  refine wpList_append_run hgd s y 28 ho (by rw [hty]; exact hr) hs hx (hk v' W' ⟨F, (h1.below (below_alloc1 W (.cells #[.int .u64 x] 23))).frame (fun k hk => ?_), h5, fun k hk hF => ?_, ?_⟩)
  · exact h6.block k (by have := (h1.lt hk).2; simp; omega) (fun e => h3 k e.symm hk)
  · rcases h7 with h7 | h7
    · exact h3 k (h7 ▸ hk) hF
    · rw [h7] at hk
      have := (h1.lt hF).2
      injection hk with hk
      omega
  · exact (h4.alloc h4.size _).grown h6 (by simp; have := h4.size; omega) (fun k e => (h2.lt k e).1)
theorem Own64.sl {w : World} {base : Nat} {v : Value} {l : List Int} (h : Own64 w base v l) : ∃ A c, v = .slice A l.length c := by
  rcases h.form with ⟨rfl, rfl⟩ | ⟨r, c, rfl, _⟩
  · exact ⟨none, 0, rfl⟩
  · exact ⟨_, c, rfl⟩
/-- What has come of the first ids. -/
def uniq (l : List Int) : List Int := l.foldl (fun ids i => putIds i ids) []
theorem uniq_snoc {l : List Int} {j : Nat} (h : j < l.length) : uniq (l.take (j + 1)) = putIds (l.getD j 0) (uniq (l.take j)) := by
  rw [List.take_succ_eq_append_getElem h]
  have e2 : l.getD j 0 = l[j] := by rw [List.getD_eq_getElem?_getD, List.getElem?_eq_getElem h]; rfl
  rw [e2]
  unfold uniq
  rw [List.foldl_append]
  rfl
theorem mem_put (i : Int) (ids : List Int) : i ∈ putIds i ids := by
  unfold putIds
  split
  · assumption
  · simp
theorem put_len (i : Int) (ids : List Int) : (putIds i ids).length ≤ ids.length + 1 := by
  unfold putIds
  split <;> simp
theorem uniq_len (l : List Int) : (uniq l).length ≤ l.length := by
  have : ∀ (l ids : List Int), (l.foldl (fun ids i => putIds i ids) ids).length ≤ ids.length + l.length := by
    intro l
    induction l with
    | nil => intro ids; simp
    | cons i l ih =>
      intro ids
      have h1 := ih (putIds i ids)
      have h2 := put_len i ids
      simp only [List.foldl_cons, List.length_cons]
      omega
  have h := this l []
  unfold uniq
  simpa using h
/-- A slice that came in, as it is read. -/
def ArgIs (w : World) (A : Option Addr) (l : List Int) : Prop :=
  l = [] ∨ ∃ r o, A = some ⟨r, o, none⟩ ∧ r < w.heap.size ∧ ∀ j, j < l.length → w.cell? ⟨r, o + j, none⟩ = some (.int .u64 (l.getD j 0))
set_option maxHeartbeats 4000000 in
theorem laneRow_many (w : World) (A : Option Addr) (c : Nat) (l : List Int) (hl : l.length ≤ maxLen) (h : 200 < l.length) :
    Calls Try.prog 4 #[.slice A l.length c] w fun e w' => e = .returned (.bool true) ∧ Below w.heap.size w w' := by
  have hd : decide ((200 : Int) < l.length) = true := decide_eq_true (by omega)
  clear h
  generalize l.length = n at *
  go_enter Try.func4, Try.ntmps4
  go_wp2_with (go_at_call 6; refine (awake_calls _).mono ?_; rintro e w1 ⟨rfl, hb⟩; have HB := Lib.hid hb; clear hb)
  go_ret
  exact ⟨rfl, HB.out⟩
set_option maxHeartbeats 4000000 in
theorem laneRow_few (w : World) (A : Option Addr) (c : Nat) (l : List Int) (hA : ArgIs w A l) (hw : wfs l) (h : l.length ≤ 200) :
    Calls Try.prog 4 #[.slice A l.length c] w fun e w' => e = .returned (.bool true) ∧ Below w.heap.size w w' := by
  have hd : decide ((200 : Int) < l.length) = false := decide_eq_false (by omega)
  obtain ⟨n, hn⟩ : ∃ n, l.length = n := ⟨_, rfl⟩
  rw [hn] at hd h ⊢
  have HN := Lib.hid hn
  have HA := Lib.hid hA
  have HWF := Lib.hid hw
  clear hn hA hw
  go_enter Try.func4, Try.ntmps4
  go_wp2_with (first
    | (go_at_call 6; refine (awake_calls _).mono ?_; rintro e w1 ⟨rfl, hb⟩; have HB := Lib.hid hb; clear hb)
    | (go_at_call 7; refine (newI _ w.heap.size HB.out.size).mono ?_; rintro e w2 ⟨b, F, rfl, h1, _, h2⟩; have H1 : Hid (RowSt w w2 b (.slice none 0 0) [] []) := ⟨F, h1, World.ownsRow_nil _ _ _ _, fun k hk => by simp [Value.ownBlock] at hk, HB.out.trans (h2.below HB.out.size (fun _ _ h => h))⟩; clear h1 h2))
  go_loopw [4, 21] (fun v k wr => ∃ j : Nat, j ≤ n ∧ k = .int .i64 j ∧ Hid (RowSt w wr b v (uniq (l.take j)) (uniq (l.take j)))) (fun _ k _ => n - (intOf k).toNat)
  case atStart => exact ⟨0, by omega, rfl, H1.out⟩
  case round =>
    obtain ⟨j, hj, rfl, hr⟩ := hrel
    clear H1
    by_cases hlt : j < n
    · have hlj : j < l.length := by rw [HN.out]; exact hlt
      have hxw : (Lit.int .u64 (l.getD j 0)).wf = true := HWF.out _ (by rw [List.getD_eq_getElem?_getD, List.getElem?_eq_getElem hlj]; simp)
      have hu := uniq_snoc hlj
      have hul := uniq_len (l.take j)
      have hul2 : (uniq (l.take j)).length ≤ 100000 := by rw [List.length_take] at hul; omega
      have hmem := mem_put (l.getD j 0) (uniq (l.take j))
      have hcell : ∃ r o, A = some ⟨r, o, none⟩ ∧ wr.cell? ⟨r, o + j, none⟩ = some (.int .u64 (l.getD j 0)) := by
        rcases HA.out with e | ⟨r, o, e, hrl, hc⟩
        · rw [e] at hlj; simp at hlj
        · obtain ⟨F, _, _, _, hb⟩ := hr.out
          exact ⟨r, o, e, (hb.cell (p := ⟨r, o + j, none⟩) hrl).trans (hc j hlj)⟩
      obtain ⟨r, o, rfl, hcj⟩ := hcell
      by_cases hin : l.getD j 0 ∈ uniq (l.take j)
      · have hp : putIds (l.getD j 0) (uniq (l.take j)) = uniq (l.take j) := by unfold putIds; rw [if_pos hin]
        rw [hp] at hu hmem
        have HU := Lib.hid hu
        have HIN := Lib.hid hin
        have HP := Lib.hid hp
        clear hu hin hp hlj hul hmem
        generalize l.getD j 0 = x at *
        go_wp2_with (first
          | (go_at_call 8; with_reducible refine (RowSt.put hr.out x hxw false (uniq (l.take j)) (by simp [HIN.out]) HP.out).mono ?_; rintro e w3 ⟨rfl, hr3⟩; clear hr)
          | (go_at_call 18; with_reducible refine (RowSt.has hr3.out x hxw true (by simp [HIN.out])).mono ?_; rintro e w4 ⟨rfl, rfl⟩))
        go_roundw
        case rel => exact ⟨j + 1, by omega, by go_num, by rw [HU.out]; exact hr3.out⟩
        case measure => simp [intOf]; omega
      · have hp : putIds (l.getD j 0) (uniq (l.take j)) = uniq (l.take j) ++ [l.getD j 0] := by unfold putIds; rw [if_neg hin]
        rw [hp] at hu hmem
        have HU := Lib.hid hu
        have HIN := Lib.hid hin
        have HP := Lib.hid hp
        have HM := Lib.hid hmem
        clear hu hin hp hlj hul hmem
        generalize l.getD j 0 = x at *
        go_wp2_with (first
          | (go_at_call 8; with_reducible refine (RowSt.put hr.out x hxw true (uniq (l.take j) ++ [x]) (by simp [HIN.out]) HP.out).mono ?_; rintro e w3 ⟨rfl, hr3⟩; clear hr)
          | (at_builtin; refine RowSt.append hr3.out x hul2 rfl _ _ rfl rfl rfl rfl ?_; intro v5 w5 hr5; clear hr3)
          | (go_at_call 18; with_reducible refine (RowSt.has hr5.out x hxw true (by simp only [HM.out, decide_true])).mono ?_; rintro e w4 ⟨rfl, rfl⟩))
        go_roundw
        case rel => exact ⟨j + 1, by omega, by go_num, by rw [HU.out]; exact hr5.out⟩
        case measure => simp [intOf]; omega
    · have ht : l.take j = l := List.take_of_length_le (by rw [HN.out]; omega)
      have hr2 := hr.out
      rw [ht] at hr2
      have hul := uniq_len l
      have hul2 : (uniq l).length ≤ 100000 := by have := HN.out; omega
      obtain ⟨F, k1, k2, k3, k4⟩ := hr2
      have hnd := k1.nodup
      have hwf := k1.wf
      obtain ⟨A2, c2, hv⟩ := k2.sl
      subst hv
      have H2 : Hid (RowSt w wr b (.slice A2 (uniq l).length c2) (uniq l) (uniq l)) := ⟨F, k1, k2, k3, k4⟩
      clear hr ht hul k1 k2 k3 k4
      generalize uniq l = ids at *
      obtain ⟨m, hm⟩ : ∃ m, ids.length = m := ⟨_, rfl⟩
      rw [hm] at H2 hul2 ⊢
      have HM := Lib.hid hm
      have HND := Lib.hid hnd
      have HWF2 := Lib.hid hwf
      clear hm hnd hwf
      go_wp2_with (first
        | (go_at_call 17; with_reducible refine (RowSt.all H2.out (by rw [HM.out]; exact hul2)).mono ?_; rintro e w3 ⟨v2, rfl, hr3⟩; clear H2)
        | (go_at_call 16; with_reducible refine (RowSt.same hr3.out.1 hr3.out.2 (by rw [HM.out]; exact hul2) (by rw [HM.out]; exact hul2) true (by simp)).mono ?_; rintro e w4 ⟨rfl, hr4⟩; clear hr3)
        | (go_at_call 20; with_reducible refine (RowSt.len hr4.out _ HM.out).mono ?_; rintro e w5 ⟨rfl, rfl⟩))
      go_loopw [51] (fun k wr => ∃ j : Nat, j ≤ m ∧ k = .int .i64 j ∧ Hid (RowSt w wr b (.slice A2 m c2) (ids.drop j) ids)) (fun k _ => m - (intOf k).toNat)
      case atStart => exact ⟨0, by omega, rfl, hr4.out⟩
      case round =>
        obtain ⟨j, hj, rfl, hr⟩ := hrel
        clear hr4
        by_cases hlt : j < m
        · have hlj : j < ids.length := by rw [HM.out]; exact hlt
          have hd : ids.drop j = ids.getD j 0 :: ids.drop (j + 1) := by
            rw [List.drop_eq_getElem_cons hlj, List.getD_eq_getElem?_getD, List.getElem?_eq_getElem hlj]; rfl
          have hmem : ids.getD j 0 ∈ ids := by rw [List.getD_eq_getElem?_getD, List.getElem?_eq_getElem hlj]; simp
          have hxw := HWF2.out _ hmem
          have hnm : ids.getD j 0 ∉ ids.drop (j + 1) := by
            have := (HND.out).sublist (List.drop_sublist j ids)
            rw [hd] at this
            exact (List.nodup_cons.1 this).1
          have hcell : ∃ r o, A2 = some ⟨r, o, none⟩ ∧ wr.cell? ⟨r, o + j, none⟩ = some (.int .u64 (ids.getD j 0)) := by
            obtain ⟨F, _, k2, _⟩ := hr.out
            rcases k2.form with ⟨_, e⟩ | ⟨r, c', e, _, _, hc⟩
            · rw [e] at hlj; simp at hlj
            · injection e with e1 e2 e3
              exact ⟨r, 0, e1, by rw [Nat.zero_add]; exact hc j hlj⟩
          obtain ⟨r, o, hA2, hcj⟩ := hcell
          subst hA2
          have HD1 := Lib.hid (show (ids.drop j).headD 0 = ids.getD j 0 by rw [hd]; rfl)
          have HD2 := Lib.hid (show (!(ids.drop j).isEmpty) = true by rw [hd]; rfl)
          have HD3 := Lib.hid (show (ids.drop j).tail = ids.drop (j + 1) by rw [hd]; rfl)
          have HNM := Lib.hid hnm
          clear hd hnm hlj hmem
          generalize ids.getD j 0 = x at *
          go_wp2_with (first
            | (go_at_call 10; with_reducible refine (RowSt.take hr.out x true (ids.drop (j + 1)) HD1.out HD2.out HD3.out).mono ?_; rintro e w6 ⟨rfl, hr6⟩; clear hr)
            | (go_at_call 18; with_reducible refine (RowSt.has hr6.out x hxw false (by simp only [HNM.out, decide_false])).mono ?_; rintro e w7 ⟨rfl, rfl⟩))
          go_roundw
          case rel => exact ⟨j + 1, by omega, by go_num, hr6.out⟩
          case measure => simp [intOf]; omega
        · have hd : ids.drop j = [] := List.drop_eq_nil_of_le (by rw [HM.out]; omega)
          have hr2 := hr.out
          rw [hd] at hr2
          have H5 := Lib.hid hr2
          clear hd hr2 hr
          go_wp2_with (first
            | (go_at_call 10; with_reducible refine (RowSt.take H5.out 0 false [] rfl rfl rfl).mono ?_; rintro e w6 ⟨rfl, hr6⟩; clear H5)
            | (go_at_call 20; with_reducible refine (RowSt.len hr6.out 0 rfl).mono ?_; rintro e w7 ⟨rfl, rfl⟩))
          go_ret
          obtain ⟨F, _, _, _, hb⟩ := hr6.out
          exact ⟨rfl, hb⟩
end Go.Proofs.Ytcbjhljecjgdcaa.L
