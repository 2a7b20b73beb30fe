/- Own texts and printed ones, those declarations alone that this claim needs, laid into one text by a program of this session. -/
import Derived.Test.YtojepleodijdeaaXF1
import Derived.Test.YtojepleodijdeaaXF2
import Derived.Test.YtojepleodijdeaaXF3
import Derived.ArgAppend
import Derived.Maps.AppendAt
import Derived.WalkKit
import Derived.ProofKit
import Derived.OpenShut
import Derived.ChangeOld
import Derived.Deep.Slices
import Derived.ChangeSame
import Derived.Lib.SmallJoins
namespace Go.Proofs.Ytojepleodijdeaa.B
open Go Go.RowKit Go.Proofs.YtojepleodijdeaaW.PrintWords Go.Proofs.YtojepleodijdeaaW.PrintLast Go.Proofs.YtojepleodijdeaaW.PrintMore
set_option linter.unusedVariables false
set_option linter.unusedSimpArgs false
theorem own_append2 {P : Program} (w : World) (base : Nat) (t ty e : TypeId) (i : TypeInfo) (z : Value) (size bytes : Nat) (ht : P.underlying t = some (.slice e)) (hi : P.info? e = some i) (hz : i.zero = some z)
    (hsize : i.size = size) (hby : i.bytes = bytes) (hzs : z.cells.size = size) (hsz : 0 < size)
    (v : Value) (n : Nat) (xs : List Value) (hn : 0 < n) (hown : w.ownsRow base e size v n xs)
    (a : Addr) (m c : Nat) (news : List Value) (hl : news.length = m * size) (hnews : ∀ j u, news[j]? = some u → w.cell? (a.add j) = some u) (h1 : ∀ u ∈ news, u.oneCell' = true)
    (h63 : n + m ≤ maxLen) (hbytes : (n + m) * bytes ≤ 140737488355328) (hbase : base ≤ w.heap.size) :
    ∃ v' w', (Builtin.append_ #[t, t] ty #[v, .slice (some a) m c]).run P w = .ok v' w' ∧ w'.ownsRow base e size v' (n + m) (xs ++ news) ∧ w'.ownsRow base e size v n xs ∧ w.grownBy w' v.ownBlock := by
  obtain ⟨v1, w1, hr, ho, hg, _, hat⟩ := run_append_own_at (P := P) w base t ty e i z size bytes ht hi hz hsize hby hzs hsz v n xs hown a m c news hl hnews h1 h63 hbytes hbase
  obtain ⟨hxl, ⟨_, h0⟩ | ⟨g, cap, cur, hv, hb, hg0, hncap, hcap, hcs, htk⟩⟩ := hown
  · omega
  subst hv
  by_cases hroom : n + m ≤ cap
  · have hrm := run_append_room_cells (P := P) w t ty e i ht hi g 0 n cap a m c news (by rw [hsize]; exact hl) hnews h1 hroom ?_ ?_
    · rw [hrm] at hr
      injection hr with e1 e2
      subst e1
      refine ⟨_, w1, hrm.trans (by rw [e2]), ho, ?_, hg⟩
      obtain ⟨_, ⟨_, h0⟩ | ⟨g1, cap1, cur1, hv1, hb1, hg1, hncap1, hcap1, hcs1, htk1⟩⟩ := ho
      · omega
      injection hv1 with ea eb ec
      injection ea with ea
      injection ea with ea
      subst ea
      subst ec
      refine ⟨hxl, .inr ⟨g, cap, cur1, rfl, hb, hg1, hncap, hcap, hcs1, ?_⟩⟩
      have : (cur1.toList.take ((n + m) * size)).take (n * size) = cur1.toList.take (n * size) := by
        rw [List.take_take, Nat.min_eq_left (Nat.mul_le_mul_right _ (by omega))]
      rw [← this, htk1, ← hxl]
      exact List.take_left
    · intro j hj
      subst hsize
      have h2 : n * i.size + news.length ≤ cap * i.size := by rw [hl, ← Nat.add_mul]; exact Nat.mul_le_mul_right _ hroom
      have : n * i.size + j < cur.size := by omega
      simp [World.cell?, hg0, this]
    · intro j hj
      simp [World.frozen?, hg0]
  · subst hsize
    have hrm := run_append_arg_grows (P := P) w t ty e i z i.size bytes ht hi hz rfl hby hzs hsz ⟨g, 0, none⟩ n cap xs hxl ?_ a m c news hl hnews (by omega) h63 hbytes
    · obtain ⟨v2, w2, hr2, ho2, hg2⟩ := hrm
      rw [hr2] at hr
      injection hr with e1 e2
      subst e1 e2
      refine ⟨_, _, hr2, ho, ?_, hg⟩
      have hlt : g < w.heap.size := by
        rcases Nat.lt_or_ge g w.heap.size with hlt | hge
        · exact hlt
        · rw [Array.getElem?_eq_none hge] at hg0; cases hg0
      exact ⟨hxl, .inr ⟨g, cap, cur, rfl, hb, (hg2.block g hlt (by simp)).trans hg0, hncap, hcap, hcs, htk⟩⟩
    · intro j u hj
      subst htk
      have hjl := (List.getElem?_eq_some_iff.1 hj).1
      rw [List.getElem?_take] at hj
      split at hj
      · rw [Addr.add_lit]
        simp only [World.cell?, hg0]
        simpa using hj
      · cases hj
section
variable {P : Program} {ops : Array Oper} {rest : List Oper} {o : Oper} {a : Act} {Q : Exit → Act → World → Prop}
theorem append2_num {w0 W : World} (base : Nat) (hgd : o.guard = none) (s x : Operand) (t e : TypeId) (k : IntKind) (bytes : Nat)
    (ho : o.op = .call { callee := .builtin .append, args := #[s, x], argTypes := #[t, t] })
    (ht : P.underlying t = some (.slice e)) (hinfo : (P.info? e).map (fun i => (i.zero, i.size, i.bytes)) = some (some (.int k 0), 1, bytes)) (hb0 : 0 < bytes)
    (v : Value) (xs : List Int) (p : Int) (hxs : 0 < xs.length) (hs : a.eval s = v) (hx : a.eval x = .slice (some ⟨W.heap.size, 0, none⟩) 1 1)
    (HO : Kd.R (Kd.int k) e W base (fun _ => True) v xs) (HB : Below base w0 W) (hbase : base ≤ W.heap.size) (hl : (xs.length + 1) * bytes ≤ 140737488355328)
    (h : ∀ v1 w1, Kd.R (Kd.int k) e w1 base (fun _ => True) v1 (xs ++ [p]) → Kd.R (Kd.int k) e w1 base (fun _ => True) v xs → Below base w0 w1 → W.grownBy w1 v.ownBlock → wpList P ops Q rest (a.put o.dst v1) w1) :
    wpList P ops Q (o :: rest) a (W.alloc (.cells #[.int k p] e)) := by
  obtain ⟨i0, hi, hzz⟩ := Option.map_eq_some_iff.1 hinfo
  simp only [Prod.mk.injEq] at hzz
  obtain ⟨hz0, hz1, hz2⟩ := hzz
  have hlen : xs.length + 1 ≤ 140737488355328 := Nat.le_trans (Nat.le_mul_of_pos_right _ hb0) hl
  obtain ⟨h0, inner, hown, hr⟩ := HO
  obtain ⟨v1, w1, hrun, hown1, hown2, hg⟩ := own_append2 (P := P) (W.alloc (.cells #[.int k p] e)) base t o.type e i0 (.int k 0) 1 bytes ht hi hz0 hz1 hz2 rfl (by decide) v xs.length inner hxs (hown.alloc _) ⟨W.heap.size, 0, none⟩ 1 1 [.int k p] rfl
    (by simpa using World.news_of_block (cs := #[.int k p]) (t := e) (fr := (0, 0)) (heap_alloc_new W (.cells #[.int k p] e))) (by simp [Value.oneCell']) (by simp only [maxLen]; omega) hl (by simp; omega)
  refine wpList_plain hgd fun K hK => ?_
  unfold Oper.wp
  subst hs
  simp [execOp, ho, resolve, invoke, builtin, hx, hrun, Result.andThen]
  refine hK _ _ (h v1 w1 ?_ ?_ ((HB.alloc hbase _).grown hg (by simp; omega) (own_base hown)) (World.grownBy.trans (World.grownBy_alloc W _ _) hg))
  · have hr2 : Reps ((Kd.int k).M w1 base (fun j => True ∧ some j ≠ v1.ownBlock)) 1 xs inner := hr
    have hp : (Kd.int k).M w1 base (fun j => True ∧ some j ≠ v1.ownBlock) p [.int k p] := rfl
    refine ⟨fun _ _ => trivial, inner ++ [.int k p], ?_, hr2.snoc hp rfl⟩
    rw [List.length_append]
    exact hown1
  · exact ⟨fun _ _ => trivial, inner, hown2, hr⟩
end
end Go.Proofs.Ytojepleodijdeaa.B
namespace Go.Proofs.Ytojepleodijdeaa.B
open Go.RowKit Go.Proofs.YtojepleodijdeaaW.PrintWords Go.Proofs.YtojepleodijdeaaW.PrintLast Go.Proofs.YtojepleodijdeaaW.PrintMore
set_option linter.unusedVariables false
set_option linter.unusedSimpArgs false
def tumbrellaw04_awake.f : Option Bool := some true
def aw4 : List Int := putL [1, 1, 0] ++ putL [2]
theorem aw4_b : frame_Bytes.f 1 [2] = some (aw4, 0) := by decide +kernel
theorem aw4_r : frame_Read.f 20 (aw4 ++ [9]) = some (1, [2], 12, 0) := by decide +kernel
theorem aw4_s : frame_Read.f 20 [1] = some (0, [], 0, 3) := by decide +kernel
theorem aw4_a : frame_All.f 20 (aw4 ++ [9]) = some ([⟨1, [2]⟩], 12, 3) := by kernel_rfl
theorem aw4_l : aw4.length = 12 := by decide +kernel
theorem aw4_e : frame_Same.f 1 [2] 1 [2] = some true := by decide +kernel
set_option maxRecDepth 100000 in
set_option maxHeartbeats 4000000 in
theorem tumbrellaw04_awake.calls (r : Bool) (w : World) (h : tumbrellaw04_awake.f = some r) :
    Calls Try.prog 44 #[] w fun e w' => e = .returned (.bool r) ∧ Below w.heap.size w w' := by
  obtain rfl := Option.some.inj h
  clear h
  have hu56 := Try.underlying56
  go_enter Try.func44, Try.ntmps44
  go_wp2_with fail
  refine (frame_Bytes.calls 1 _ 1 [2] aw4 0 _ (lit_C w 5 [2] (by decide)) (by decide) aw4_b).mono ?_
  rintro e w1 ⟨v1, rfl, ho1, hb1⟩
  have HO1 := Aside0.mk (Kd.R_lower ho1 (Nat.le_trans (Nat.le_refl _) (by simp : w.heap.size ≤ _)))
  have HB1 := Aside0.mk (below_step (below_alloc (Below.refl w.heap.size w) _) hb1)
  clear ho1 hb1
  have hl4 : aw4.length = 12 := aw4_l
  go_wp2_with (first | (at_builtin; refine append2_num (w0 := w) w.heap.size rfl (.tmp 19) (.tmp 20) 23 5 .u8 1 rfl Try.underlying23 info5 (by omega) v1 aw4 9 (by decide +kernel) rfl rfl ?aO ?aB ?aS (by rw [hl4]; decide) ?_; (case aO => exact HO1.out); (case aB => exact HB1.out); (case aS => exact below_size HB1.out); intro v2 w2 ho2 ho1 hb2 hg2; have hvk : ∀ k, v1.ownBlock = some k → k < w2.heap.size := Kd.R_lt ho1; have HO2 := Aside0.mk ho2; have HO1' := Aside0.mk ho1; have HB2 := Aside0.mk hb2; clear ho1 ho2 hb2 HO1 HB1; obtain ⟨A2, c2, e2⟩ := Kd.R_slice HO2.out; subst e2))
  have c47 := frame_Read.calls 20 A2 c2 (aw4 ++ [9]) 1 [2] 12 0 w2 (Kd.R_reads' HO2.out).2.2 (Kd.R_reads' HO2.out).2.1 aw4_r
  have h13 : (aw4 ++ [9]).length = 13 := by rw [List.length_append, hl4]; rfl
  rw [h13] at c47
  refine c47.mono ?_
  clear c47
  rintro e w3 ⟨v3, rfl, ho3, hb3⟩
  have ho3' : (Kd.int .u8).R 5 w3 w.heap.size (fun k => w2.heap.size ≤ k) v3 [2] := Kd.R_lower (base := w2.heap.size) (by
    obtain ⟨h0, inner, hown, hr⟩ := ho3
    exact ⟨fun k hk => own_base hown k hk, inner, hown, hr⟩) (below_size HB2.out)
  have HO3 := Aside0.mk ho3'
  have hw3 : w2.heap.size ≤ w3.heap.size := below_size hb3
  clear ho3'
  have HO4 := Aside0.mk (Kd.R_below HO1'.out hb3)
  have HB3 := Aside0.mk (below_step HB2.out hb3)
  clear ho3 hb3 HO2 HO1' HB2
  obtain ⟨A3, c3, e3⟩ := Kd.R_slice HO3.out
  subst e3
  go_wp2_with fail
  have BK3 := Aside0.mk (blk_new w3 (Obj.cells #[Value.int IntKind.u8 1, Value.slice A3 1 c3] 56))
  have HB3' := Aside0.mk (below_alloc HB3.out (Obj.cells #[Value.int IntKind.u8 1, Value.slice A3 1 c3] 56))
  have HO5 := Aside0.mk (Kd.R_alloc HO4.out (Obj.cells #[Value.int IntKind.u8 1, Value.slice A3 1 c3] 56))
  have HO6 := Aside0.mk (Kd.R_alloc HO3.out (Obj.cells #[Value.int IntKind.u8 1, Value.slice A3 1 c3] 56))
  clear HO4 HO3 HB3
  generalize hw4 : w3.alloc (Obj.cells #[Value.int IntKind.u8 1, Value.slice A3 1 c3] 56) = w4 at *
  have hs4 : w3.heap.size + 1 = w4.heap.size := by subst hw4; simp
  have hlt4 : w3.heap.size < w4.heap.size := by omega
  rw [hs4]
  have c47 := frame_Read.calls 20 _ 1 [1] 0 [] 0 3 _ (lit_C w4 5 [1] (by decide)) (by decide) aw4_s
  refine c47.mono ?_
  clear c47
  rintro e w5 ⟨v5, rfl, ho5, hb5⟩
  obtain ⟨A5, c5, e5⟩ := Kd.R_slice ho5
  subst e5
  have HB45 := Aside0.mk (below_step (below_alloc (Below.refl w4.heap.size w4) (.cells (nums .u8 [1]).toArray 5 (0, 0))) hb5)
  have BK5 := Aside0.mk (blk_below BK3.out HB45.out)
  have HO7 := Aside0.mk (Kd.R_below HO5.out HB45.out)
  have HO8 := Aside0.mk (Kd.R_below HO6.out HB45.out)
  have HB5 := Aside0.mk (below_step HB3'.out HB45.out)
  clear ho5 hb5 HO5 HO6 HB45 HB3' BK3
  have BK6 := Aside0.mk (fun o => blk_alloc BK5.out o)
  have HO9 := Aside0.mk (fun o => Kd.R_alloc HO7.out o)
  have HO10 := Aside0.mk (fun o => Kd.R_alloc HO8.out o)
  have HB6 := Aside0.mk (fun o => below_alloc HB5.out o)
  clear BK5 HO7 HO8
  go_wp2_with (first | (at_builtin; refine append2_num (w0 := w) (W := w5.alloc (Obj.cells #[Value.int IntKind.u8 0, Value.slice A5 ([] : List Int).length c5] 56)) w.heap.size rfl (.tmp 33) (.tmp 34) 23 5 .u8 1 rfl Try.underlying23 info5 (by omega) v1 aw4 9 (by decide +kernel) rfl (by simp; rfl) ?aO ?aB ?aS (by rw [hl4]; decide) ?_; (case aO => exact HO9.out _); (case aB => exact HB6.out _); (case aS => exact below_size (HB6.out _)); intro v7 w7 ho7 ho1 hb7 hg7; have BK7 := Aside0.mk (blk_grown (BK6.out _) hg7 (fun e => by have := hvk _ e.symm; omega)); have HO13 := Aside0.mk (Kd.R_grown (HO10.out _) hg7 (fun k hk e => by have := hvk _ e.symm; omega)); have HO11 := Aside0.mk ho7; have HO12 := Aside0.mk ho1; have HB7 := Aside0.mk hb7; clear ho1 ho7 hb7; obtain ⟨A7, c7, e7⟩ := Kd.R_slice HO11.out; subst e7))
  have h13' : (aw4 ++ [9]).length = 13 := by rw [List.length_append, hl4]; rfl
  have c49 := frame_All.calls 20 A7 c7 (aw4 ++ [9]) [⟨1, [2]⟩] 12 3 w7 (Kd.R_reads' HO11.out).2.2 (Kd.R_reads' HO11.out).2.1 aw4_a
  rw [h13'] at c49
  refine c49.mono ?_
  clear c49
  rintro e w8 ⟨v8, rfl, ho8, hb8⟩
  obtain ⟨A8, c8, e8⟩ := Kd.S_slice ho8
  subst e8
  have BK8 := Aside0.mk (blk_below BK7.out hb8)
  have HO14 := Aside0.mk (Kd.R_below HO13.out hb8)
  have HO15 := Aside0.mk (Kd.R_below HO12.out hb8)
  have HB8 := Aside0.mk (below_step HB7.out hb8)
  clear ho8 hb8 HO11 HO12 HO13 HB7 BK7 BK6 HO9 HO10 HB6
  obtain ⟨A1, c1, e1⟩ := Kd.R_slice HO15.out
  subst e1
  have hlt : ([2] : List Int).length = 1 := rfl
  have hlt2 : ([⟨1, [2]⟩] : List S56).length = 1 := rfl
  have hbk := blk_cell BK8.out
  go_wp2_with fail
  have c53 := fun W (h : (Kd.int .u8).C W A3 ([2] : List Int).length [2]) => frame_Same.calls 1 A3 c3 [2] 1 A3 c3 [2] true W h (Kd.R_reads' HO14.out).2.1 h (Kd.R_reads' HO14.out).2.1 aw4_e
  refine (c53 _ (Kd.R_reads' HO14.out).2.2).mono ?_
  rintro e w9 ⟨rfl, hb9⟩
  have HB9 := Aside0.mk (below_step HB8.out hb9)
  clear hb9 c53
  go_wp2_with fail
  go_ret
  exact ⟨rfl, HB9.out⟩
end Go.Proofs.Ytojepleodijdeaa.B
namespace Go.Proofs.Ytojepleodijdeaa.B
open Go.RowKit Go.Proofs.YtojepleodijdeaaW.PrintWords Go.Proofs.YtojepleodijdeaaW.PrintLast Go.Proofs.YtojepleodijdeaaW.PrintMore
attribute [local go_sem] max2_int min2_int max_two min_two max_three min_three max_four min_four   -- for this text's walks alone
set_option linter.unusedVariables false
set_option linter.unusedSimpArgs false
def tumbrellaw04_FrameTells.j0 : Nat → List Int → Bool → Int → List Int → Int → List Int → Option (Bool)
  | 0, _, _, _, _, _, _ => none
  | k + 1, x2, x39, x254000, x254001, x255000, x255001 => if x39 = true then (some true) else ((frame_Bytes.f x254000 x254001).bind fun bt256 => ((tumbrelref04_Bytes.f k x254000 x254001).bind fun bt260 => ((frame_Read.f k x2).bind fun bt264 => ((tumbrelref04_Read.f k x2).bind fun bt271 => ((frame_All.f k x2).bind fun bt278 => ((tumbrelref04_All.f k x2).bind fun bt283 => ((tumbrelref01_Same.f k bt256.1 bt260.1).bind fun t288 => (if t288 = true then (if bt256.2 = bt260.2 then ((tumbrellaw04_own.f k (([(⟨bt264.1, bt264.2.1⟩ : S56)] : List (S56)))).bind fun t292 => ((tumbrelref04_Same.f k t292 (([(⟨bt271.1, bt271.2.1⟩ : S60)] : List (S60)))).bind fun t298 => (if t298 = true then (if bt264.2.2.1 = bt271.2.2.1 then (if bt264.2.2.2 = bt271.2.2.2 then ((tumbrellaw04_own.f k bt278.1).bind fun t299 => ((tumbrelref04_Same.f k t299 bt283.1).bind fun t302 => (if t302 = true then (if bt278.2.1 = bt283.2.1 then (if bt278.2.2 = bt283.2.2 then ((frame_Same.f x254000 x254001 x255000 x255001).bind fun t303 => ((tumbrellaw04_own.f k (([(⟨x254000, x254001⟩ : S56)] : List (S56)))).bind fun t307 => ((tumbrellaw04_own.f k (([(⟨x255000, x255001⟩ : S56)] : List (S56)))).bind fun t313 => ((tumbrelref04_Same.f k t307 t313).bind fun t316 => (some (t303 == t316)))))) else (some false)) else (some false)) else (some false)))) else (some false)) else (some false)) else (some false)))) else (some false)) else (some false)))))))))
def tumbrellaw04_FrameTells.f (k : Nat) (a0_0 : Int) (l0_1 : List Int) (a1_0 : Int) (l1_1 : List Int) (l2 : List Int) : Option (Bool) := (tumbrellaw04_awake.f).bind fun t255 => (if t255 = true then (if (l0_1.length : Int) > 1200 then (tumbrellaw04_FrameTells.j0 k l2 true a0_0 l0_1 a1_0 l1_1) else (if (l1_1.length : Int) > 1200 then (tumbrellaw04_FrameTells.j0 k l2 true a0_0 l0_1 a1_0 l1_1) else (tumbrellaw04_FrameTells.j0 k l2 (decide ((l2.length : Int) > 1200)) a0_0 l0_1 a1_0 l1_1))) else (some false))
set_option maxHeartbeats 8000000 in
set_option maxRecDepth 100000 in
theorem tumbrellaw04_FrameTells.calls (k : Nat) (a0_0 : Int) (P0_1_ : Nat → Prop) (A0_1 : Option Addr) (c0_1 : Nat) (l0_1 : List Int) (a1_0 : Int) (P1_1_ : Nat → Prop) (A1_1 : Option Addr) (c1_1 : Nat) (l1_1 : List Int) (A2 : Option Addr) (c2 : Nat) (l2 : List Int) (r : Bool) (w : World) (hs0_1 : Kd.V (Kd.int .u8) 5 w w.heap.size (fun k_ => P0_1_ k_) (.slice A0_1 l0_1.length c0_1) l0_1) (hs1_1 : Kd.V (Kd.int .u8) 5 w w.heap.size (fun k_ => P1_1_ k_) (.slice A1_1 l1_1.length c1_1) l1_1) (hr2 : Kd.C (Kd.int .u8) w A2 l2.length l2) (hc2 : l2.length ≤ c2) (h : tumbrellaw04_FrameTells.f k a0_0 l0_1 a1_0 l1_1 l2 = some r) (hr_ : r = true) :
    Calls Try.prog 11 #[.agg #[.int .u8 a0_0, .slice A0_1 l0_1.length c0_1], .agg #[.int .u8 a1_0, .slice A1_1 l1_1.length c1_1], .slice A2 l2.length c2] w fun e w' => e = .returned (.bool r) ∧ Below w.heap.size w w' := by
  have hu56 := Try.underlying56
  have hu60 := Try.underlying60
  have HO0_1 := Aside0.mk (show Kd.V (Kd.int .u8) 5 w w.heap.size (fun k_ => ((P0_1_ k_ ∨ P1_1_ k_) ∨ w.heap.size ≤ k_)) (.slice A0_1 l0_1.length c0_1) l0_1 from Kd.V_mono hs0_1 (fun k_ hk => .inl (.inl hk)))
  have HO1_1 := Aside0.mk (show Kd.V (Kd.int .u8) 5 w w.heap.size (fun k_ => ((P0_1_ k_ ∨ P1_1_ k_) ∨ w.heap.size ≤ k_)) (.slice A1_1 l1_1.length c1_1) l1_1 from Kd.V_mono hs1_1 (fun k_ hk => .inl (.inr hk)))
  have HR2 := Aside0.mk hr2
  have HC2 := Aside0.mk hc2
  clear hr2 hc2
  have HB := Aside0.mk (Below.refl w.heap.size w)
  have H : ((tumbrellaw04_awake.f).bind fun t255 => (if t255 = true then (if (l0_1.length : Int) > 1200 then (tumbrellaw04_FrameTells.j0 k l2 true a0_0 l0_1 a1_0 l1_1) else (if (l1_1.length : Int) > 1200 then (tumbrellaw04_FrameTells.j0 k l2 true a0_0 l0_1 a1_0 l1_1) else (tumbrellaw04_FrameTells.j0 k l2 (decide ((l2.length : Int) > 1200)) a0_0 l0_1 a1_0 l1_1))) else (some false))) = some r := h
  clear h
  replace H := Option.bind_eq_some_iff.mp H
  obtain ⟨t255, A40, H⟩ := H
  replace H : (if t255 = true then (if (l0_1.length : Int) > 1200 then (tumbrellaw04_FrameTells.j0 k l2 true a0_0 l0_1 a1_0 l1_1) else (if (l1_1.length : Int) > 1200 then (tumbrellaw04_FrameTells.j0 k l2 true a0_0 l0_1 a1_0 l1_1) else (tumbrellaw04_FrameTells.j0 k l2 (decide ((l2.length : Int) > 1200)) a0_0 l0_1 a1_0 l1_1))) else (some false)) = some r := H
  have A4 := Aside0.mk A40
  clear A40
  by_cases c5 : t255 = true
  · subst c5
    have H1 : (if (l0_1.length : Int) > 1200 then (tumbrellaw04_FrameTells.j0 k l2 true a0_0 l0_1 a1_0 l1_1) else (if (l1_1.length : Int) > 1200 then (tumbrellaw04_FrameTells.j0 k l2 true a0_0 l0_1 a1_0 l1_1) else (tumbrellaw04_FrameTells.j0 k l2 (decide ((l2.length : Int) > 1200)) a0_0 l0_1 a1_0 l1_1))) = some r := by rw [if_pos rfl] at H; exact H
    clear H
    have H := H1
    clear H1
    have HC6 := Aside0.mk H
    clear H
    go_enter Try.func11, Try.ntmps11
    go_upto_region 3 with (first | ((with_reducible refine gate_dst (N := 3) rfl ?_); (try (refine gate_guard (by rfl) ?_; dsimp only)); refine box_event ?hg (N := 3) ?hd (cs := #[.int .u8 a0_0, .slice A0_1 l0_1.length c0_1]) (t := 56) ?hr ?_; (case hd => rfl); (case hg => rfl); (case hr => first | (go_simp; done) | (go_simp; rfl)); intro gb253 hg w7 hbox hb; have n0_ := Aside0.mk (Kd.V_below (Kd.V_elderB (by (with_reducible repeat (first | apply Kd.V_alloc | apply Kd.V_drewN | apply Kd.V_drew)); exact HO0_1.out) gb253 (Nat.le_of_eq hg.symm)) hb); have n1_ := Aside0.mk (Kd.V_below (Kd.V_elderB (by (with_reducible repeat (first | apply Kd.V_alloc | apply Kd.V_drewN | apply Kd.V_drew)); exact HO1_1.out) gb253 (Nat.le_of_eq hg.symm)) hb); have n2_ := Aside0.mk (below_step (by repeat (first | (with_reducible first | exact HB.out | apply below_alloc | apply pw_below_drewN | apply below_drew1) | exact HB.out)) hb); have n3_ := Aside0.mk (hbox); have n4_ := Aside0.mk ((by rw [hg]; exact (below_size (by repeat (first | (with_reducible first | exact HB.out | apply below_alloc | apply pw_below_drewN | apply below_drew1) | exact HB.out))) : w.heap.size ≤ gb253)); have n5_ := Aside0.mk ((by rw [hg]; exact (below_size (by repeat (first | (with_reducible first | exact HB.out | apply below_alloc | apply pw_below_drewN | apply below_drew1) | exact HB.out))) : w.heap.size ≤ gb253)); clear HO0_1; clear HO1_1; clear HB; have HO0_1 := n0_; have HO1_1 := n1_; have HB := n2_; have BK253 := n3_; have GW253 := n4_; have GE253 := n5_; clear n0_ n1_ n2_ n3_ n4_ n5_; clear hb hbox hg) | ((with_reducible refine gate_dst (N := 4) rfl ?_); (try (refine gate_guard (by rfl) ?_; dsimp only)); refine box_event ?hg (N := 4) ?hd (cs := #[.int .u8 a1_0, .slice A1_1 l1_1.length c1_1]) (t := 56) ?hr ?_; (case hd => rfl); (case hg => rfl); (case hr => first | (go_simp; done) | (go_simp; rfl)); intro gb254 hg w8 hbox hb; have n0_ := Aside0.mk (Kd.V_below (Kd.V_elderB (by (with_reducible repeat (first | apply Kd.V_alloc | apply Kd.V_drewN | apply Kd.V_drew)); exact HO0_1.out) gb254 (Nat.le_of_eq hg.symm)) hb); have n1_ := Aside0.mk (Kd.V_below (Kd.V_elderB (by (with_reducible repeat (first | apply Kd.V_alloc | apply Kd.V_drewN | apply Kd.V_drew)); exact HO1_1.out) gb254 (Nat.le_of_eq hg.symm)) hb); have n2_ := Aside0.mk (blk_below (g := gb253) (o := .cells #[.int .u8 a0_0, .slice A0_1 l0_1.length c0_1] 56 (0, 0)) (by (with_reducible repeat (first | refine blk_drewN ?_ _ | refine blk_drew ?_ | refine blk_alloc ?_ _)); exact BK253.out) hb); have n3_ := Aside0.mk (below_step (by repeat (first | (with_reducible first | exact HB.out | apply below_alloc | apply pw_below_drewN | apply below_drew1 | refine below_set ?_ GE253.out) | exact HB.out)) hb); have n4_ := Aside0.mk (hbox); have n5_ := Aside0.mk ((by rw [hg]; exact (below_size (by repeat (first | (with_reducible first | exact HB.out | apply below_alloc | apply pw_below_drewN | apply below_drew1 | refine below_set ?_ GE253.out) | exact HB.out))) : w.heap.size ≤ gb254)); have n6_ := Aside0.mk ((by rw [hg]; exact (below_size (by repeat (first | (with_reducible first | exact HB.out | apply below_alloc | apply pw_below_drewN | apply below_drew1 | refine below_set ?_ GE253.out) | exact HB.out))) : w.heap.size ≤ gb254)); have n7_ := Aside0.mk ((by rw [hg]; exact Nat.ne_of_lt (blk_lt (g := gb253) (o := .cells #[.int .u8 a0_0, .slice A0_1 l0_1.length c0_1] 56 (0, 0)) (by (with_reducible repeat (first | refine blk_drewN ?_ _ | refine blk_drew ?_ | refine blk_alloc ?_ _)); exact BK253.out)) : gb253 ≠ gb254)); have n8_ := Aside0.mk ((by rw [hg]; exact Nat.ne_of_gt (blk_lt (g := gb253) (o := .cells #[.int .u8 a0_0, .slice A0_1 l0_1.length c0_1] 56 (0, 0)) (by (with_reducible repeat (first | refine blk_drewN ?_ _ | refine blk_drew ?_ | refine blk_alloc ?_ _)); exact BK253.out)) : gb254 ≠ gb253)); clear HO0_1; clear HO1_1; clear BK253; clear HB; have HO0_1 := n0_; have HO1_1 := n1_; have BK253 := n2_; have HB := n3_; have BK254 := n4_; have GW254 := n5_; have GE254 := n6_; have NB253_254 := n7_; have NB254_253 := n8_; clear n0_ n1_ n2_ n3_ n4_ n5_ n6_ n7_ n8_; clear hb hbox hg) | ((with_reducible refine gate_callee (f := 44) rfl ?_); refine goesL_ (some 23) rfl rfl Try.func44 (by kernel_rfl) rfl #[] rfl (by (try simp only [List.map_toArray, List.map_cons, List.map_nil]); first | done | rfl | (simp only [List.length_drop, List.length_take]; rfl)) ?_; (with_reducible refine (tumbrellaw04_awake.calls  true _ A4.out).mono ?_); rintro e w9 ⟨rfl, hb⟩; refine ⟨_, rfl, ?_⟩; have n0_ := Aside0.mk (Kd.V_below (by (with_reducible repeat (first | apply Kd.V_alloc | apply Kd.V_drewN | apply Kd.V_drew)); exact HO0_1.out) hb); have n1_ := Aside0.mk (Kd.V_below (by (with_reducible repeat (first | apply Kd.V_alloc | apply Kd.V_drewN | apply Kd.V_drew)); exact HO1_1.out) hb); have n2_ := Aside0.mk (blk_below (g := gb253) (o := .cells #[.int .u8 a0_0, .slice A0_1 l0_1.length c0_1] 56 (0, 0)) (by (with_reducible repeat (first | refine blk_drewN ?_ _ | refine blk_drew ?_ | refine blk_alloc ?_ _)); exact BK253.out) hb); have n3_ := Aside0.mk (blk_below (g := gb254) (o := .cells #[.int .u8 a1_0, .slice A1_1 l1_1.length c1_1] 56 (0, 0)) (by (with_reducible repeat (first | refine blk_drewN ?_ _ | refine blk_drew ?_ | refine blk_alloc ?_ _)); exact BK254.out) hb); have n4_ := Aside0.mk (below_step (by repeat (first | (with_reducible first | exact HB.out | apply below_alloc | apply pw_below_drewN | apply below_drew1 | refine below_set ?_ GE253.out | refine below_set ?_ GE254.out) | exact HB.out)) hb); clear HO0_1; clear HO1_1; clear BK253; clear BK254; clear HB; have HO0_1 := n0_; have HO1_1 := n1_; have BK253 := n2_; have BK254 := n3_; have HB := n4_; clear n0_ n1_ n2_ n3_ n4_; (try clear hb); (try clear hb2); (try clear hk); (try clear hi)))
    (try simp only [Act.put, List.setIfInBounds_toArray, List.set_cons_zero, List.set_cons_succ])
    go_cut [39] (fun v39 wc => ∃ (kq : Nat) (x39_5 : Bool), v39 = .bool x39_5 ∧ Aside0 (tumbrellaw04_FrameTells.j0 kq l2 x39_5 a0_0 l0_1 a1_0 l1_1 = some r) ∧ Aside0 (kq ≤ k) ∧ Aside0 (Kd.V (Kd.int .u8) 5 wc w.heap.size (fun k_ => ((P0_1_ k_ ∨ P1_1_ k_) ∨ w.heap.size ≤ k_) ∧ k_ ≠ gb253 ∧ k_ ≠ gb254) (.slice A0_1 l0_1.length c0_1) l0_1) ∧ Aside0 (Kd.V (Kd.int .u8) 5 wc w.heap.size (fun k_ => ((P0_1_ k_ ∨ P1_1_ k_) ∨ w.heap.size ≤ k_) ∧ k_ ≠ gb253 ∧ k_ ≠ gb254) (.slice A1_1 l1_1.length c1_1) l1_1) ∧ Aside0 (wc.heap[gb253]? = some (.cells #[.int .u8 a0_0, (.slice A0_1 l0_1.length c0_1)] 56 (0, 0))) ∧ Aside0 (wc.heap[gb254]? = some (.cells #[.int .u8 a1_0, (.slice A1_1 l1_1.length c1_1)] 56 (0, 0))) ∧ Aside0 (Below w.heap.size w wc))
    case first =>
      have H := HC6.out
      clear HC6
      by_cases c10 : (l0_1.length : Int) > 1200
      · rw [if_pos c10] at H
        have c10b0 : decide (1200 < (l0_1.length : Int)) = true := decide_eq_true c10
        have c10b1 : decide (1200 < l0_1.length) = true := decide_eq_true (by omega)
        clear c10
        (first | rw [c10b0] | (simp only [i64_w, i32_w]; rw [c10b0]) | skip)
        have H' := Aside0.mk H
        clear H
        have hnb11 := NB253_254.out
        have hnc11 := NB254_253.out
        have hcz12_0 : w9.cell? ⟨gb253, 0, none⟩ = some (.int .u8 a0_0) := (blk_cell BK253.out 0).trans rfl
        have hcz12_1 : w9.cell? ⟨gb253, 1, none⟩ = some (.slice A0_1 l0_1.length c0_1) := (blk_cell BK253.out 1).trans rfl
        have hfz12_0 := blk_frozen BK253.out 0
        have hfz12_1 := blk_frozen BK253.out 1
        go_wp2
        go_meet
        case rel => exact ⟨_, (true), (by first | rfl | (simp; done) | (simp [*]; done)), H', ⟨by first | omega | exact Nat.le_refl _⟩, ⟨by (with_reducible repeat (first | apply Kd.V_alloc | apply Kd.V_drewN | apply Kd.V_drew)); exact Kd.V_mono HO0_1.out (fun _ hk => ⟨hk.1.1, ⟨hk.1.2, hk.2⟩⟩)⟩, ⟨by (with_reducible repeat (first | apply Kd.V_alloc | apply Kd.V_drewN | apply Kd.V_drew)); exact Kd.V_mono HO1_1.out (fun _ hk => ⟨hk.1.1, ⟨hk.1.2, hk.2⟩⟩)⟩, ⟨by (with_reducible repeat (first | refine blk_drewN ?_ _ | refine blk_drew ?_ | refine blk_alloc ?_ _)); exact BK253.out⟩, ⟨by (with_reducible repeat (first | refine blk_drewN ?_ _ | refine blk_drew ?_ | refine blk_alloc ?_ _)); exact BK254.out⟩, ⟨by repeat (first | (with_reducible first | exact HB.out | apply below_alloc | apply pw_below_drewN | apply below_drew1 | refine below_set ?_ GE253.out | refine below_set ?_ GE254.out) | exact HB.out)⟩⟩
      · rw [if_neg c10] at H
        have c10b0 : decide (1200 < (l0_1.length : Int)) = false := decide_eq_false c10
        have c10b1 : decide (1200 < l0_1.length) = false := decide_eq_false (by omega)
        clear c10
        (first | rw [c10b0] | (simp only [i64_w, i32_w]; rw [c10b0]) | skip)
        by_cases c13 : (l1_1.length : Int) > 1200
        · rw [if_pos c13] at H
          have c13b0 : decide (1200 < (l1_1.length : Int)) = true := decide_eq_true c13
          have c13b1 : decide (1200 < l1_1.length) = true := decide_eq_true (by omega)
          clear c13
          have H' := Aside0.mk H
          clear H
          have hnb14 := NB253_254.out
          have hnc14 := NB254_253.out
          have hcz15_0 : w9.cell? ⟨gb253, 0, none⟩ = some (.int .u8 a0_0) := (blk_cell BK253.out 0).trans rfl
          have hcz15_1 : w9.cell? ⟨gb253, 1, none⟩ = some (.slice A0_1 l0_1.length c0_1) := (blk_cell BK253.out 1).trans rfl
          have hfz15_0 := blk_frozen BK253.out 0
          have hfz15_1 := blk_frozen BK253.out 1
          have hcz16_0 : w9.cell? ⟨gb254, 0, none⟩ = some (.int .u8 a1_0) := (blk_cell BK254.out 0).trans rfl
          have hcz16_1 : w9.cell? ⟨gb254, 1, none⟩ = some (.slice A1_1 l1_1.length c1_1) := (blk_cell BK254.out 1).trans rfl
          have hfz16_0 := blk_frozen BK254.out 0
          have hfz16_1 := blk_frozen BK254.out 1
          go_wp2
          go_meet
          case rel => exact ⟨_, (true), (by first | rfl | (simp; done) | (simp [*]; done)), H', ⟨by first | omega | exact Nat.le_refl _⟩, ⟨by (with_reducible repeat (first | apply Kd.V_alloc | apply Kd.V_drewN | apply Kd.V_drew)); exact Kd.V_mono HO0_1.out (fun _ hk => ⟨hk.1.1, ⟨hk.1.2, hk.2⟩⟩)⟩, ⟨by (with_reducible repeat (first | apply Kd.V_alloc | apply Kd.V_drewN | apply Kd.V_drew)); exact Kd.V_mono HO1_1.out (fun _ hk => ⟨hk.1.1, ⟨hk.1.2, hk.2⟩⟩)⟩, ⟨by (with_reducible repeat (first | refine blk_drewN ?_ _ | refine blk_drew ?_ | refine blk_alloc ?_ _)); exact BK253.out⟩, ⟨by (with_reducible repeat (first | refine blk_drewN ?_ _ | refine blk_drew ?_ | refine blk_alloc ?_ _)); exact BK254.out⟩, ⟨by repeat (first | (with_reducible first | exact HB.out | apply below_alloc | apply pw_below_drewN | apply below_drew1 | refine below_set ?_ GE253.out | refine below_set ?_ GE254.out) | exact HB.out)⟩⟩
        · rw [if_neg c13] at H
          have c13b0 : decide (1200 < (l1_1.length : Int)) = false := decide_eq_false c13
          have c13b1 : decide (1200 < l1_1.length) = false := decide_eq_false (by omega)
          clear c13
          have H' := Aside0.mk H
          clear H
          have hnb17 := NB253_254.out
          have hnc17 := NB254_253.out
          have hcz18_0 : w9.cell? ⟨gb253, 0, none⟩ = some (.int .u8 a0_0) := (blk_cell BK253.out 0).trans rfl
          have hcz18_1 : w9.cell? ⟨gb253, 1, none⟩ = some (.slice A0_1 l0_1.length c0_1) := (blk_cell BK253.out 1).trans rfl
          have hfz18_0 := blk_frozen BK253.out 0
          have hfz18_1 := blk_frozen BK253.out 1
          have hcz19_0 : w9.cell? ⟨gb254, 0, none⟩ = some (.int .u8 a1_0) := (blk_cell BK254.out 0).trans rfl
          have hcz19_1 : w9.cell? ⟨gb254, 1, none⟩ = some (.slice A1_1 l1_1.length c1_1) := (blk_cell BK254.out 1).trans rfl
          have hfz19_0 := blk_frozen BK254.out 0
          have hfz19_1 := blk_frozen BK254.out 1
          go_wp2
          go_meet
          case rel => exact ⟨_, (decide ((l2.length : Int) > 1200)), (by first | rfl | (simp; done) | (simp [*]; done)), H', ⟨by first | omega | exact Nat.le_refl _⟩, ⟨by (with_reducible repeat (first | apply Kd.V_alloc | apply Kd.V_drewN | apply Kd.V_drew)); exact Kd.V_mono HO0_1.out (fun _ hk => ⟨hk.1.1, ⟨hk.1.2, hk.2⟩⟩)⟩, ⟨by (with_reducible repeat (first | apply Kd.V_alloc | apply Kd.V_drewN | apply Kd.V_drew)); exact Kd.V_mono HO1_1.out (fun _ hk => ⟨hk.1.1, ⟨hk.1.2, hk.2⟩⟩)⟩, ⟨by (with_reducible repeat (first | refine blk_drewN ?_ _ | refine blk_drew ?_ | refine blk_alloc ?_ _)); exact BK253.out⟩, ⟨by (with_reducible repeat (first | refine blk_drewN ?_ _ | refine blk_drew ?_ | refine blk_alloc ?_ _)); exact BK254.out⟩, ⟨by repeat (first | (with_reducible first | exact HB.out | apply below_alloc | apply pw_below_drewN | apply below_drew1 | refine below_set ?_ GE253.out | refine below_set ?_ GE254.out) | exact HB.out)⟩⟩
    case rest =>
      clear HC6
      try clear c1
      try clear c2
      try clear p2
      try clear c4
      try clear c5
      try clear c10
      try clear c10b0
      try clear c10b1
      try clear c11
      try clear c13
      try clear c13b0
      try clear c13b1
      try clear c14
      try clear c17
      try clear hcz12_0
      try clear hcz12_1
      try clear hcz15_0
      try clear hcz15_1
      try clear hcz16_0
      try clear hcz16_1
      try clear hcz18_0
      try clear hcz18_1
      try clear hcz19_0
      try clear hcz19_1
      try clear hfz12_0
      try clear hfz12_1
      try clear hfz15_0
      try clear hfz15_1
      try clear hfz16_0
      try clear hfz16_1
      try clear hfz18_0
      try clear hfz18_1
      try clear hfz19_0
      try clear hfz19_1
      obtain ⟨kq, x39_5, rfl, HA, HJ5, HO_254001, HO_255001, BK253, BK254, HB⟩ := hcut
      cases kq with
      | zero => exact absurd HA.out (by simp [tumbrellaw04_FrameTells.j0])
      | succ kj5 =>
        have H := HA.out
        clear HA
        simp only [tumbrellaw04_FrameTells.j0] at H
        by_cases c20 : x39_5 = true
        · subst c20
          have H1 : (some true) = some r := by rw [if_pos rfl] at H; exact H
          clear H
          have H := H1
          clear H1
          obtain rfl := Option.some.inj H
          go_wp2
          go_ret
          exact ⟨by first | rfl | (simp [errW_none, errW_some] <;> rfl) | (simp [*, errW_none, errW_some] <;> rfl), by repeat (first | (with_reducible first | exact HB.out | apply below_alloc | apply pw_below_drewN | apply below_drew1 | refine below_set ?_ GE253.out | refine below_set ?_ GE254.out) | exact HB.out)⟩
        · replace c20 := Bool.eq_false_iff.mpr c20
          subst c20
          have H1 : ((frame_Bytes.f a0_0 l0_1).bind fun bt256 => ((tumbrelref04_Bytes.f kj5 a0_0 l0_1).bind fun bt260 => ((frame_Read.f kj5 l2).bind fun bt264 => ((tumbrelref04_Read.f kj5 l2).bind fun bt271 => ((frame_All.f kj5 l2).bind fun bt278 => ((tumbrelref04_All.f kj5 l2).bind fun bt283 => ((tumbrelref01_Same.f kj5 bt256.1 bt260.1).bind fun t288 => (if t288 = true then (if bt256.2 = bt260.2 then ((tumbrellaw04_own.f kj5 (([(⟨bt264.1, bt264.2.1⟩ : S56)] : List (S56)))).bind fun t292 => ((tumbrelref04_Same.f kj5 t292 (([(⟨bt271.1, bt271.2.1⟩ : S60)] : List (S60)))).bind fun t298 => (if t298 = true then (if bt264.2.2.1 = bt271.2.2.1 then (if bt264.2.2.2 = bt271.2.2.2 then ((tumbrellaw04_own.f kj5 bt278.1).bind fun t299 => ((tumbrelref04_Same.f kj5 t299 bt283.1).bind fun t302 => (if t302 = true then (if bt278.2.1 = bt283.2.1 then (if bt278.2.2 = bt283.2.2 then ((frame_Same.f a0_0 l0_1 a1_0 l1_1).bind fun t303 => ((tumbrellaw04_own.f kj5 (([(⟨a0_0, l0_1⟩ : S56)] : List (S56)))).bind fun t307 => ((tumbrellaw04_own.f kj5 (([(⟨a1_0, l1_1⟩ : S56)] : List (S56)))).bind fun t313 => ((tumbrelref04_Same.f kj5 t307 t313).bind fun t316 => (some (t303 == t316)))))) else (some false)) else (some false)) else (some false)))) else (some false)) else (some false)) else (some false)))) else (some false)) else (some false))))))))) = some r := by rw [if_neg (show ¬ (false = true) by decide)] at H; exact H
          clear H
          have H := H1
          clear H1
          replace H := Option.bind_eq_some_iff.mp H
          obtain ⟨⟨t256, t259⟩, A210, H⟩ := H
          replace H : ((tumbrelref04_Bytes.f kj5 a0_0 l0_1).bind fun bt260 => ((frame_Read.f kj5 l2).bind fun bt264 => ((tumbrelref04_Read.f kj5 l2).bind fun bt271 => ((frame_All.f kj5 l2).bind fun bt278 => ((tumbrelref04_All.f kj5 l2).bind fun bt283 => ((tumbrelref01_Same.f kj5 t256 bt260.1).bind fun t288 => (if t288 = true then (if t259 = bt260.2 then ((tumbrellaw04_own.f kj5 (([(⟨bt264.1, bt264.2.1⟩ : S56)] : List (S56)))).bind fun t292 => ((tumbrelref04_Same.f kj5 t292 (([(⟨bt271.1, bt271.2.1⟩ : S60)] : List (S60)))).bind fun t298 => (if t298 = true then (if bt264.2.2.1 = bt271.2.2.1 then (if bt264.2.2.2 = bt271.2.2.2 then ((tumbrellaw04_own.f kj5 bt278.1).bind fun t299 => ((tumbrelref04_Same.f kj5 t299 bt283.1).bind fun t302 => (if t302 = true then (if bt278.2.1 = bt283.2.1 then (if bt278.2.2 = bt283.2.2 then ((frame_Same.f a0_0 l0_1 a1_0 l1_1).bind fun t303 => ((tumbrellaw04_own.f kj5 (([(⟨a0_0, l0_1⟩ : S56)] : List (S56)))).bind fun t307 => ((tumbrellaw04_own.f kj5 (([(⟨a1_0, l1_1⟩ : S56)] : List (S56)))).bind fun t313 => ((tumbrelref04_Same.f kj5 t307 t313).bind fun t316 => (some (t303 == t316)))))) else (some false)) else (some false)) else (some false)))) else (some false)) else (some false)) else (some false)))) else (some false)) else (some false)))))))) = some r := H
          have A21 := Aside0.mk A210
          clear A210
          replace H := Option.bind_eq_some_iff.mp H
          obtain ⟨⟨t260, t263⟩, A220, H⟩ := H
          replace H : ((frame_Read.f kj5 l2).bind fun bt264 => ((tumbrelref04_Read.f kj5 l2).bind fun bt271 => ((frame_All.f kj5 l2).bind fun bt278 => ((tumbrelref04_All.f kj5 l2).bind fun bt283 => ((tumbrelref01_Same.f kj5 t256 t260).bind fun t288 => (if t288 = true then (if t259 = t263 then ((tumbrellaw04_own.f kj5 (([(⟨bt264.1, bt264.2.1⟩ : S56)] : List (S56)))).bind fun t292 => ((tumbrelref04_Same.f kj5 t292 (([(⟨bt271.1, bt271.2.1⟩ : S60)] : List (S60)))).bind fun t298 => (if t298 = true then (if bt264.2.2.1 = bt271.2.2.1 then (if bt264.2.2.2 = bt271.2.2.2 then ((tumbrellaw04_own.f kj5 bt278.1).bind fun t299 => ((tumbrelref04_Same.f kj5 t299 bt283.1).bind fun t302 => (if t302 = true then (if bt278.2.1 = bt283.2.1 then (if bt278.2.2 = bt283.2.2 then ((frame_Same.f a0_0 l0_1 a1_0 l1_1).bind fun t303 => ((tumbrellaw04_own.f kj5 (([(⟨a0_0, l0_1⟩ : S56)] : List (S56)))).bind fun t307 => ((tumbrellaw04_own.f kj5 (([(⟨a1_0, l1_1⟩ : S56)] : List (S56)))).bind fun t313 => ((tumbrelref04_Same.f kj5 t307 t313).bind fun t316 => (some (t303 == t316)))))) else (some false)) else (some false)) else (some false)))) else (some false)) else (some false)) else (some false)))) else (some false)) else (some false))))))) = some r := H
          have A22 := Aside0.mk A220
          clear A220
          replace H := Option.bind_eq_some_iff.mp H
          obtain ⟨⟨t264, t265, t268, t269⟩, A230, H⟩ := H
          replace H : ((tumbrelref04_Read.f kj5 l2).bind fun bt271 => ((frame_All.f kj5 l2).bind fun bt278 => ((tumbrelref04_All.f kj5 l2).bind fun bt283 => ((tumbrelref01_Same.f kj5 t256 t260).bind fun t288 => (if t288 = true then (if t259 = t263 then ((tumbrellaw04_own.f kj5 (([(⟨t264, t265⟩ : S56)] : List (S56)))).bind fun t292 => ((tumbrelref04_Same.f kj5 t292 (([(⟨bt271.1, bt271.2.1⟩ : S60)] : List (S60)))).bind fun t298 => (if t298 = true then (if t268 = bt271.2.2.1 then (if t269 = bt271.2.2.2 then ((tumbrellaw04_own.f kj5 bt278.1).bind fun t299 => ((tumbrelref04_Same.f kj5 t299 bt283.1).bind fun t302 => (if t302 = true then (if bt278.2.1 = bt283.2.1 then (if bt278.2.2 = bt283.2.2 then ((frame_Same.f a0_0 l0_1 a1_0 l1_1).bind fun t303 => ((tumbrellaw04_own.f kj5 (([(⟨a0_0, l0_1⟩ : S56)] : List (S56)))).bind fun t307 => ((tumbrellaw04_own.f kj5 (([(⟨a1_0, l1_1⟩ : S56)] : List (S56)))).bind fun t313 => ((tumbrelref04_Same.f kj5 t307 t313).bind fun t316 => (some (t303 == t316)))))) else (some false)) else (some false)) else (some false)))) else (some false)) else (some false)) else (some false)))) else (some false)) else (some false)))))) = some r := H
          have A23 := Aside0.mk A230
          clear A230
          replace H := Option.bind_eq_some_iff.mp H
          obtain ⟨⟨t271, t272, t275, t276⟩, A240, H⟩ := H
          replace H : ((frame_All.f kj5 l2).bind fun bt278 => ((tumbrelref04_All.f kj5 l2).bind fun bt283 => ((tumbrelref01_Same.f kj5 t256 t260).bind fun t288 => (if t288 = true then (if t259 = t263 then ((tumbrellaw04_own.f kj5 (([(⟨t264, t265⟩ : S56)] : List (S56)))).bind fun t292 => ((tumbrelref04_Same.f kj5 t292 (([(⟨t271, t272⟩ : S60)] : List (S60)))).bind fun t298 => (if t298 = true then (if t268 = t275 then (if t269 = t276 then ((tumbrellaw04_own.f kj5 bt278.1).bind fun t299 => ((tumbrelref04_Same.f kj5 t299 bt283.1).bind fun t302 => (if t302 = true then (if bt278.2.1 = bt283.2.1 then (if bt278.2.2 = bt283.2.2 then ((frame_Same.f a0_0 l0_1 a1_0 l1_1).bind fun t303 => ((tumbrellaw04_own.f kj5 (([(⟨a0_0, l0_1⟩ : S56)] : List (S56)))).bind fun t307 => ((tumbrellaw04_own.f kj5 (([(⟨a1_0, l1_1⟩ : S56)] : List (S56)))).bind fun t313 => ((tumbrelref04_Same.f kj5 t307 t313).bind fun t316 => (some (t303 == t316)))))) else (some false)) else (some false)) else (some false)))) else (some false)) else (some false)) else (some false)))) else (some false)) else (some false))))) = some r := H
          have A24 := Aside0.mk A240
          clear A240
          replace H := Option.bind_eq_some_iff.mp H
          obtain ⟨⟨t278, t279, t280⟩, A250, H⟩ := H
          replace H : ((tumbrelref04_All.f kj5 l2).bind fun bt283 => ((tumbrelref01_Same.f kj5 t256 t260).bind fun t288 => (if t288 = true then (if t259 = t263 then ((tumbrellaw04_own.f kj5 (([(⟨t264, t265⟩ : S56)] : List (S56)))).bind fun t292 => ((tumbrelref04_Same.f kj5 t292 (([(⟨t271, t272⟩ : S60)] : List (S60)))).bind fun t298 => (if t298 = true then (if t268 = t275 then (if t269 = t276 then ((tumbrellaw04_own.f kj5 t278).bind fun t299 => ((tumbrelref04_Same.f kj5 t299 bt283.1).bind fun t302 => (if t302 = true then (if t279 = bt283.2.1 then (if t280 = bt283.2.2 then ((frame_Same.f a0_0 l0_1 a1_0 l1_1).bind fun t303 => ((tumbrellaw04_own.f kj5 (([(⟨a0_0, l0_1⟩ : S56)] : List (S56)))).bind fun t307 => ((tumbrellaw04_own.f kj5 (([(⟨a1_0, l1_1⟩ : S56)] : List (S56)))).bind fun t313 => ((tumbrelref04_Same.f kj5 t307 t313).bind fun t316 => (some (t303 == t316)))))) else (some false)) else (some false)) else (some false)))) else (some false)) else (some false)) else (some false)))) else (some false)) else (some false)))) = some r := H
          have A25 := Aside0.mk A250
          clear A250
          replace H := Option.bind_eq_some_iff.mp H
          obtain ⟨⟨t283, t284, t285⟩, A260, H⟩ := H
          replace H : ((tumbrelref01_Same.f kj5 t256 t260).bind fun t288 => (if t288 = true then (if t259 = t263 then ((tumbrellaw04_own.f kj5 (([(⟨t264, t265⟩ : S56)] : List (S56)))).bind fun t292 => ((tumbrelref04_Same.f kj5 t292 (([(⟨t271, t272⟩ : S60)] : List (S60)))).bind fun t298 => (if t298 = true then (if t268 = t275 then (if t269 = t276 then ((tumbrellaw04_own.f kj5 t278).bind fun t299 => ((tumbrelref04_Same.f kj5 t299 t283).bind fun t302 => (if t302 = true then (if t279 = t284 then (if t280 = t285 then ((frame_Same.f a0_0 l0_1 a1_0 l1_1).bind fun t303 => ((tumbrellaw04_own.f kj5 (([(⟨a0_0, l0_1⟩ : S56)] : List (S56)))).bind fun t307 => ((tumbrellaw04_own.f kj5 (([(⟨a1_0, l1_1⟩ : S56)] : List (S56)))).bind fun t313 => ((tumbrelref04_Same.f kj5 t307 t313).bind fun t316 => (some (t303 == t316)))))) else (some false)) else (some false)) else (some false)))) else (some false)) else (some false)) else (some false)))) else (some false)) else (some false))) = some r := H
          have A26 := Aside0.mk A260
          clear A260
          replace H := Option.bind_eq_some_iff.mp H
          obtain ⟨t288, A270, H⟩ := H
          replace H : (if t288 = true then (if t259 = t263 then ((tumbrellaw04_own.f kj5 (([(⟨t264, t265⟩ : S56)] : List (S56)))).bind fun t292 => ((tumbrelref04_Same.f kj5 t292 (([(⟨t271, t272⟩ : S60)] : List (S60)))).bind fun t298 => (if t298 = true then (if t268 = t275 then (if t269 = t276 then ((tumbrellaw04_own.f kj5 t278).bind fun t299 => ((tumbrelref04_Same.f kj5 t299 t283).bind fun t302 => (if t302 = true then (if t279 = t284 then (if t280 = t285 then ((frame_Same.f a0_0 l0_1 a1_0 l1_1).bind fun t303 => ((tumbrellaw04_own.f kj5 (([(⟨a0_0, l0_1⟩ : S56)] : List (S56)))).bind fun t307 => ((tumbrellaw04_own.f kj5 (([(⟨a1_0, l1_1⟩ : S56)] : List (S56)))).bind fun t313 => ((tumbrelref04_Same.f kj5 t307 t313).bind fun t316 => (some (t303 == t316)))))) else (some false)) else (some false)) else (some false)))) else (some false)) else (some false)) else (some false)))) else (some false)) else (some false)) = some r := H
          have A27 := Aside0.mk A270
          clear A270
          by_cases c28 : t288 = true
          · subst c28
            have H1 : (if t259 = t263 then ((tumbrellaw04_own.f kj5 (([(⟨t264, t265⟩ : S56)] : List (S56)))).bind fun t292 => ((tumbrelref04_Same.f kj5 t292 (([(⟨t271, t272⟩ : S60)] : List (S60)))).bind fun t298 => (if t298 = true then (if t268 = t275 then (if t269 = t276 then ((tumbrellaw04_own.f kj5 t278).bind fun t299 => ((tumbrelref04_Same.f kj5 t299 t283).bind fun t302 => (if t302 = true then (if t279 = t284 then (if t280 = t285 then ((frame_Same.f a0_0 l0_1 a1_0 l1_1).bind fun t303 => ((tumbrellaw04_own.f kj5 (([(⟨a0_0, l0_1⟩ : S56)] : List (S56)))).bind fun t307 => ((tumbrellaw04_own.f kj5 (([(⟨a1_0, l1_1⟩ : S56)] : List (S56)))).bind fun t313 => ((tumbrelref04_Same.f kj5 t307 t313).bind fun t316 => (some (t303 == t316)))))) else (some false)) else (some false)) else (some false)))) else (some false)) else (some false)) else (some false)))) else (some false)) = some r := by rw [if_pos rfl] at H; exact H
            clear H
            have H := H1
            clear H1
            by_cases c29 : t259 = t263
            · rw [if_pos c29] at H
              have c29b0 : (t259 == t263) = true := beq_iff_eq.mpr c29
              have c29b1 : (t259 != t263) = false := bne_eq_false_iff_eq.mpr c29
              clear c29
              obtain ⟨y289, hy289⟩ : ∃ y_ : List (S56), y_ = (([(⟨t264, t265⟩ : S56)] : List (S56))) := ⟨_, rfl⟩
              replace H : ((tumbrellaw04_own.f kj5 y289).bind fun t292 => ((tumbrelref04_Same.f kj5 t292 (([(⟨t271, t272⟩ : S60)] : List (S60)))).bind fun t298 => (if t298 = true then (if t268 = t275 then (if t269 = t276 then ((tumbrellaw04_own.f kj5 t278).bind fun t299 => ((tumbrelref04_Same.f kj5 t299 t283).bind fun t302 => (if t302 = true then (if t279 = t284 then (if t280 = t285 then ((frame_Same.f a0_0 l0_1 a1_0 l1_1).bind fun t303 => ((tumbrellaw04_own.f kj5 (([(⟨a0_0, l0_1⟩ : S56)] : List (S56)))).bind fun t307 => ((tumbrellaw04_own.f kj5 (([(⟨a1_0, l1_1⟩ : S56)] : List (S56)))).bind fun t313 => ((tumbrelref04_Same.f kj5 t307 t313).bind fun t316 => (some (t303 == t316)))))) else (some false)) else (some false)) else (some false)))) else (some false)) else (some false)) else (some false)))) = some r := by first | (rw [hy289]; with_reducible exact H) | (have H2_ := (Option.bind_some _ _).symm.trans H; rw [hy289]; with_reducible exact H2_) | (have H2_ := (Option.bind_some _ _).symm.trans H; with_reducible exact H2_) | with_reducible exact H | (rw [hy289]; exact H) | exact H
              have Ny289 := Aside0.mk hy289
              clear hy289
              replace H := Option.bind_eq_some_iff.mp H
              obtain ⟨t292, A300, H⟩ := H
              replace H : ((tumbrelref04_Same.f kj5 t292 (([(⟨t271, t272⟩ : S60)] : List (S60)))).bind fun t298 => (if t298 = true then (if t268 = t275 then (if t269 = t276 then ((tumbrellaw04_own.f kj5 t278).bind fun t299 => ((tumbrelref04_Same.f kj5 t299 t283).bind fun t302 => (if t302 = true then (if t279 = t284 then (if t280 = t285 then ((frame_Same.f a0_0 l0_1 a1_0 l1_1).bind fun t303 => ((tumbrellaw04_own.f kj5 (([(⟨a0_0, l0_1⟩ : S56)] : List (S56)))).bind fun t307 => ((tumbrellaw04_own.f kj5 (([(⟨a1_0, l1_1⟩ : S56)] : List (S56)))).bind fun t313 => ((tumbrelref04_Same.f kj5 t307 t313).bind fun t316 => (some (t303 == t316)))))) else (some false)) else (some false)) else (some false)))) else (some false)) else (some false)) else (some false))) = some r := H
              have A30 := Aside0.mk A300
              clear A300
              obtain ⟨y295, hy295⟩ : ∃ y_ : List (S60), y_ = (([(⟨t271, t272⟩ : S60)] : List (S60))) := ⟨_, rfl⟩
              replace H : ((tumbrelref04_Same.f kj5 t292 y295).bind fun t298 => (if t298 = true then (if t268 = t275 then (if t269 = t276 then ((tumbrellaw04_own.f kj5 t278).bind fun t299 => ((tumbrelref04_Same.f kj5 t299 t283).bind fun t302 => (if t302 = true then (if t279 = t284 then (if t280 = t285 then ((frame_Same.f a0_0 l0_1 a1_0 l1_1).bind fun t303 => ((tumbrellaw04_own.f kj5 (([(⟨a0_0, l0_1⟩ : S56)] : List (S56)))).bind fun t307 => ((tumbrellaw04_own.f kj5 (([(⟨a1_0, l1_1⟩ : S56)] : List (S56)))).bind fun t313 => ((tumbrelref04_Same.f kj5 t307 t313).bind fun t316 => (some (t303 == t316)))))) else (some false)) else (some false)) else (some false)))) else (some false)) else (some false)) else (some false))) = some r := by first | (rw [hy295]; with_reducible exact H) | (have H2_ := (Option.bind_some _ _).symm.trans H; rw [hy295]; with_reducible exact H2_) | (have H2_ := (Option.bind_some _ _).symm.trans H; with_reducible exact H2_) | with_reducible exact H | (rw [hy295]; exact H) | exact H
              have Ny295 := Aside0.mk hy295
              clear hy295
              replace H := Option.bind_eq_some_iff.mp H
              obtain ⟨t298, A310, H⟩ := H
              replace H : (if t298 = true then (if t268 = t275 then (if t269 = t276 then ((tumbrellaw04_own.f kj5 t278).bind fun t299 => ((tumbrelref04_Same.f kj5 t299 t283).bind fun t302 => (if t302 = true then (if t279 = t284 then (if t280 = t285 then ((frame_Same.f a0_0 l0_1 a1_0 l1_1).bind fun t303 => ((tumbrellaw04_own.f kj5 (([(⟨a0_0, l0_1⟩ : S56)] : List (S56)))).bind fun t307 => ((tumbrellaw04_own.f kj5 (([(⟨a1_0, l1_1⟩ : S56)] : List (S56)))).bind fun t313 => ((tumbrelref04_Same.f kj5 t307 t313).bind fun t316 => (some (t303 == t316)))))) else (some false)) else (some false)) else (some false)))) else (some false)) else (some false)) else (some false)) = some r := H
              have A31 := Aside0.mk A310
              clear A310
              by_cases c32 : t298 = true
              · subst c32
                have H1 : (if t268 = t275 then (if t269 = t276 then ((tumbrellaw04_own.f kj5 t278).bind fun t299 => ((tumbrelref04_Same.f kj5 t299 t283).bind fun t302 => (if t302 = true then (if t279 = t284 then (if t280 = t285 then ((frame_Same.f a0_0 l0_1 a1_0 l1_1).bind fun t303 => ((tumbrellaw04_own.f kj5 (([(⟨a0_0, l0_1⟩ : S56)] : List (S56)))).bind fun t307 => ((tumbrellaw04_own.f kj5 (([(⟨a1_0, l1_1⟩ : S56)] : List (S56)))).bind fun t313 => ((tumbrelref04_Same.f kj5 t307 t313).bind fun t316 => (some (t303 == t316)))))) else (some false)) else (some false)) else (some false)))) else (some false)) else (some false)) = some r := by rw [if_pos rfl] at H; exact H
                clear H
                have H := H1
                clear H1
                by_cases c33 : t268 = t275
                · rw [if_pos c33] at H
                  have c33b0 : (t268 == t275) = true := beq_iff_eq.mpr c33
                  have c33b1 : (t268 != t275) = false := bne_eq_false_iff_eq.mpr c33
                  clear c33
                  by_cases c34 : t269 = t276
                  · rw [if_pos c34] at H
                    have c34b0 : (t269 == t276) = true := beq_iff_eq.mpr c34
                    have c34b1 : (t269 != t276) = false := bne_eq_false_iff_eq.mpr c34
                    clear c34
                    replace H := Option.bind_eq_some_iff.mp H
                    obtain ⟨t299, A350, H⟩ := H
                    replace H : ((tumbrelref04_Same.f kj5 t299 t283).bind fun t302 => (if t302 = true then (if t279 = t284 then (if t280 = t285 then ((frame_Same.f a0_0 l0_1 a1_0 l1_1).bind fun t303 => ((tumbrellaw04_own.f kj5 (([(⟨a0_0, l0_1⟩ : S56)] : List (S56)))).bind fun t307 => ((tumbrellaw04_own.f kj5 (([(⟨a1_0, l1_1⟩ : S56)] : List (S56)))).bind fun t313 => ((tumbrelref04_Same.f kj5 t307 t313).bind fun t316 => (some (t303 == t316)))))) else (some false)) else (some false)) else (some false))) = some r := H
                    have A35 := Aside0.mk A350
                    clear A350
                    replace H := Option.bind_eq_some_iff.mp H
                    obtain ⟨t302, A360, H⟩ := H
                    replace H : (if t302 = true then (if t279 = t284 then (if t280 = t285 then ((frame_Same.f a0_0 l0_1 a1_0 l1_1).bind fun t303 => ((tumbrellaw04_own.f kj5 (([(⟨a0_0, l0_1⟩ : S56)] : List (S56)))).bind fun t307 => ((tumbrellaw04_own.f kj5 (([(⟨a1_0, l1_1⟩ : S56)] : List (S56)))).bind fun t313 => ((tumbrelref04_Same.f kj5 t307 t313).bind fun t316 => (some (t303 == t316)))))) else (some false)) else (some false)) else (some false)) = some r := H
                    have A36 := Aside0.mk A360
                    clear A360
                    by_cases c37 : t302 = true
                    · subst c37
                      have H1 : (if t279 = t284 then (if t280 = t285 then ((frame_Same.f a0_0 l0_1 a1_0 l1_1).bind fun t303 => ((tumbrellaw04_own.f kj5 (([(⟨a0_0, l0_1⟩ : S56)] : List (S56)))).bind fun t307 => ((tumbrellaw04_own.f kj5 (([(⟨a1_0, l1_1⟩ : S56)] : List (S56)))).bind fun t313 => ((tumbrelref04_Same.f kj5 t307 t313).bind fun t316 => (some (t303 == t316)))))) else (some false)) else (some false)) = some r := by rw [if_pos rfl] at H; exact H
                      clear H
                      have H := H1
                      clear H1
                      by_cases c38 : t279 = t284
                      · rw [if_pos c38] at H
                        have c38b0 : (t279 == t284) = true := beq_iff_eq.mpr c38
                        have c38b1 : (t279 != t284) = false := bne_eq_false_iff_eq.mpr c38
                        clear c38
                        by_cases c39 : t280 = t285
                        · rw [if_pos c39] at H
                          have c39b0 : (t280 == t285) = true := beq_iff_eq.mpr c39
                          have c39b1 : (t280 != t285) = false := bne_eq_false_iff_eq.mpr c39
                          clear c39
                          replace H := Option.bind_eq_some_iff.mp H
                          obtain ⟨t303, A400, H⟩ := H
                          replace H : ((tumbrellaw04_own.f kj5 (([(⟨a0_0, l0_1⟩ : S56)] : List (S56)))).bind fun t307 => ((tumbrellaw04_own.f kj5 (([(⟨a1_0, l1_1⟩ : S56)] : List (S56)))).bind fun t313 => ((tumbrelref04_Same.f kj5 t307 t313).bind fun t316 => (some (t303 == t316))))) = some r := H
                          have A40 := Aside0.mk A400
                          clear A400
                          obtain ⟨y304, hy304⟩ : ∃ y_ : List (S56), y_ = (([(⟨a0_0, l0_1⟩ : S56)] : List (S56))) := ⟨_, rfl⟩
                          replace H : ((tumbrellaw04_own.f kj5 y304).bind fun t307 => ((tumbrellaw04_own.f kj5 (([(⟨a1_0, l1_1⟩ : S56)] : List (S56)))).bind fun t313 => ((tumbrelref04_Same.f kj5 t307 t313).bind fun t316 => (some (t303 == t316))))) = some r := by first | (rw [hy304]; with_reducible exact H) | (have H2_ := (Option.bind_some _ _).symm.trans H; rw [hy304]; with_reducible exact H2_) | (have H2_ := (Option.bind_some _ _).symm.trans H; with_reducible exact H2_) | with_reducible exact H | (rw [hy304]; exact H) | exact H
                          have Ny304 := Aside0.mk hy304
                          clear hy304
                          replace H := Option.bind_eq_some_iff.mp H
                          obtain ⟨t307, A410, H⟩ := H
                          replace H : ((tumbrellaw04_own.f kj5 (([(⟨a1_0, l1_1⟩ : S56)] : List (S56)))).bind fun t313 => ((tumbrelref04_Same.f kj5 t307 t313).bind fun t316 => (some (t303 == t316)))) = some r := H
                          have A41 := Aside0.mk A410
                          clear A410
                          obtain ⟨y310, hy310⟩ : ∃ y_ : List (S56), y_ = (([(⟨a1_0, l1_1⟩ : S56)] : List (S56))) := ⟨_, rfl⟩
                          replace H : ((tumbrellaw04_own.f kj5 y310).bind fun t313 => ((tumbrelref04_Same.f kj5 t307 t313).bind fun t316 => (some (t303 == t316)))) = some r := by first | (rw [hy310]; with_reducible exact H) | (have H2_ := (Option.bind_some _ _).symm.trans H; rw [hy310]; with_reducible exact H2_) | (have H2_ := (Option.bind_some _ _).symm.trans H; with_reducible exact H2_) | with_reducible exact H | (rw [hy310]; exact H) | exact H
                          have Ny310 := Aside0.mk hy310
                          clear hy310
                          replace H := Option.bind_eq_some_iff.mp H
                          obtain ⟨t313, A420, H⟩ := H
                          replace H : ((tumbrelref04_Same.f kj5 t307 t313).bind fun t316 => (some (t303 == t316))) = some r := H
                          have A42 := Aside0.mk A420
                          clear A420
                          replace H := Option.bind_eq_some_iff.mp H
                          obtain ⟨t316, A430, H⟩ := H
                          replace H : (some (t303 == t316)) = some r := H
                          have A43 := Aside0.mk A430
                          clear A430
                          obtain rfl := Option.some.inj H
                          have hnb44 := NB253_254.out
                          have hnc44 := NB254_253.out
                          have hcz45_0 : wc.cell? ⟨gb253, 0, none⟩ = some (.int .u8 a0_0) := (blk_cell BK253.out 0).trans rfl
                          have hcz45_1 : wc.cell? ⟨gb253, 1, none⟩ = some (.slice A0_1 l0_1.length c0_1) := (blk_cell BK253.out 1).trans rfl
                          have hfz45_0 := blk_frozen BK253.out 0
                          have hfz45_1 := blk_frozen BK253.out 1
                          try go_wp2_with (first | ((with_reducible refine gate_callee (f := 45) rfl ?_); refine goesL_ (some 42) rfl rfl Try.func45 (by kernel_rfl) rfl #[.agg #[.int .u8 a0_0, .slice A0_1 l0_1.length c0_1]] rfl (by (try simp only [List.map_toArray, List.map_cons, List.map_nil]); first | done | rfl | (simp only [List.length_drop, List.length_take]; rfl)) ?_; (with_reducible refine (frame_Bytes.calls a0_0 _ _ l0_1 t256 t259 _ ?side1 ?side2 A21.out).mono ?_); (case side1 => repeat (first | exact (Kd.V_reads' HO_254001.out).2.2 | (with_reducible refine Kd.C_alloc ?_ _) | (with_reducible refine Kd.C_drewN ?_ _) | (with_reducible refine Kd.C_drew ?_))); (case side2 => exact (Kd.V_reads' HO_254001.out).2.1); rintro e w46 ⟨v257, rfl, ho0, hb⟩; refine ⟨_, rfl, ?_⟩; have n0_ := Aside0.mk (Kd.V_elder' (by (with_reducible repeat (first | apply Kd.V_alloc | apply Kd.V_drewN | apply Kd.V_drew)); exact HO_254001.out) (Kd.R_base ho0) hb); have n1_ := Aside0.mk (Kd.V_elder' (by (with_reducible repeat (first | apply Kd.V_alloc | apply Kd.V_drewN | apply Kd.V_drew)); exact HO_255001.out) (Kd.R_base ho0) hb); have n2_ := Aside0.mk (Kd.R_lower (Kd.R_newM (M := fun k_ => (w.heap.size ≤ k_)) ho0 (below_size (by repeat (first | (with_reducible first | exact HB.out | apply below_alloc | apply pw_below_drewN | apply below_drew1 | refine below_set ?_ GE253.out | refine below_set ?_ GE254.out) | exact HB.out))) (fun k_ h_ => h_)) (below_size (by repeat (first | (with_reducible first | exact HB.out | apply below_alloc | apply pw_below_drewN | apply below_drew1 | refine below_set ?_ GE253.out | refine below_set ?_ GE254.out) | exact HB.out)))); have n3_ := Aside0.mk (blk_below (g := gb253) (o := .cells #[.int .u8 a0_0, .slice A0_1 l0_1.length c0_1] 56 (0, 0)) (by (with_reducible repeat (first | refine blk_drewN ?_ _ | refine blk_drew ?_ | refine blk_alloc ?_ _)); exact BK253.out) hb); have n4_ := Aside0.mk (blk_below (g := gb254) (o := .cells #[.int .u8 a1_0, .slice A1_1 l1_1.length c1_1] 56 (0, 0)) (by (with_reducible repeat (first | refine blk_drewN ?_ _ | refine blk_drew ?_ | refine blk_alloc ?_ _)); exact BK254.out) hb); have n5_ := Aside0.mk (below_step (by repeat (first | (with_reducible first | exact HB.out | apply below_alloc | apply pw_below_drewN | apply below_drew1 | refine below_set ?_ GE253.out | refine below_set ?_ GE254.out) | exact HB.out)) hb); clear HO_254001; clear HO_255001; clear BK253; clear BK254; clear HB; have HO_254001 := n0_; have HO_255001 := n1_; have HO258 := n2_; have BK253 := n3_; have BK254 := n4_; have HB := n5_; clear n0_ n1_ n2_ n3_ n4_ n5_; (try clear hb); (try clear hb2); (try clear hk); (try clear hi); (try clear ho0); have hcz47_0 : w46.cell? ⟨gb253, 0, none⟩ = some (.int .u8 a0_0) := (blk_cell BK253.out 0).trans rfl; have hcz47_1 : w46.cell? ⟨gb253, 1, none⟩ = some (.slice A0_1 l0_1.length c0_1) := (blk_cell BK253.out 1).trans rfl; have hfz47_0 := blk_frozen BK253.out 0; have hfz47_1 := blk_frozen BK253.out 1) | ((with_reducible refine gate_callee (f := 46) rfl ?_); refine goesL_ (some 47) rfl rfl Try.func46 (by kernel_rfl) rfl #[.agg #[.int .u8 a0_0, .slice A0_1 l0_1.length c0_1]] rfl (by (try simp only [List.map_toArray, List.map_cons, List.map_nil]); first | done | rfl | (simp only [List.length_drop, List.length_take]; rfl)) ?_; (with_reducible refine (tumbrelref04_Bytes.calls kj5 a0_0 _ _ l0_1 t260 t263 _ ?side1 ?side2 A22.out).mono ?_); (case side1 => repeat (first | exact (Kd.V_reads' HO_254001.out).2.2 | (with_reducible refine Kd.C_alloc ?_ _) | (with_reducible refine Kd.C_drewN ?_ _) | (with_reducible refine Kd.C_drew ?_))); (case side2 => exact (Kd.V_reads' HO_254001.out).2.1); rintro e w48 ⟨v261, rfl, ho0, hb⟩; refine ⟨_, rfl, ?_⟩; have n0_ := Aside0.mk (Kd.V_elder' (by (with_reducible repeat (first | apply Kd.V_alloc | apply Kd.V_drewN | apply Kd.V_drew)); exact HO_254001.out) (Kd.R_base ho0) hb); have n1_ := Aside0.mk (Kd.V_elder' (by (with_reducible repeat (first | apply Kd.V_alloc | apply Kd.V_drewN | apply Kd.V_drew)); exact HO_255001.out) (Kd.R_base ho0) hb); have n2_ := Aside0.mk (Kd.R_elder' (by (with_reducible repeat (first | apply Kd.R_alloc | apply Kd.R_drewN | apply Kd.R_drew)); exact HO258.out) (Kd.R_base ho0) hb); have n3_ := Aside0.mk (Kd.R_lower (Kd.R_new' (Kd.R_newM (M := fun k_ => (w.heap.size ≤ k_)) ho0 (below_size (by repeat (first | (with_reducible first | exact HB.out | apply below_alloc | apply pw_below_drewN | apply below_drew1 | refine below_set ?_ GE253.out | refine below_set ?_ GE254.out) | exact HB.out))) (fun k_ h_ => h_)) (Kd.R_lt (by (with_reducible repeat (first | apply Kd.R_alloc | apply Kd.R_drewN | apply Kd.R_drew)); exact HO258.out))) (below_size (by repeat (first | (with_reducible first | exact HB.out | apply below_alloc | apply pw_below_drewN | apply below_drew1 | refine below_set ?_ GE253.out | refine below_set ?_ GE254.out) | exact HB.out)))); have n4_ := Aside0.mk (blk_below (g := gb253) (o := .cells #[.int .u8 a0_0, .slice A0_1 l0_1.length c0_1] 56 (0, 0)) (by (with_reducible repeat (first | refine blk_drewN ?_ _ | refine blk_drew ?_ | refine blk_alloc ?_ _)); exact BK253.out) hb); have n5_ := Aside0.mk (blk_below (g := gb254) (o := .cells #[.int .u8 a1_0, .slice A1_1 l1_1.length c1_1] 56 (0, 0)) (by (with_reducible repeat (first | refine blk_drewN ?_ _ | refine blk_drew ?_ | refine blk_alloc ?_ _)); exact BK254.out) hb); have n6_ := Aside0.mk (below_step (by repeat (first | (with_reducible first | exact HB.out | apply below_alloc | apply pw_below_drewN | apply below_drew1 | refine below_set ?_ GE253.out | refine below_set ?_ GE254.out) | exact HB.out)) hb); clear HO_254001; clear HO_255001; clear HO258; clear BK253; clear BK254; clear HB; have HO_254001 := n0_; have HO_255001 := n1_; have HO258 := n2_; have HO262 := n3_; have BK253 := n4_; have BK254 := n5_; have HB := n6_; clear n0_ n1_ n2_ n3_ n4_ n5_ n6_; (try clear hb); (try clear hb2); (try clear hk); (try clear hi); (try clear ho0)) | ((with_reducible refine gate_callee (f := 47) rfl ?_); refine goesL_ (some 52) rfl rfl Try.func47 (by kernel_rfl) rfl #[.slice A2 l2.length c2] rfl (by (try simp only [List.map_toArray, List.map_cons, List.map_nil]); first | done | rfl | (simp only [List.length_drop, List.length_take]; rfl)) ?_; (with_reducible refine (frame_Read.calls kj5 _ _ l2 t264 t265 t268 t269 _ ?side1 ?side2 A23.out).mono ?_); (case side1 => repeat (first | exact (Kd.C_below HR2.out HB.out) | (with_reducible refine Kd.C_alloc ?_ _) | (with_reducible refine Kd.C_drewN ?_ _) | (with_reducible refine Kd.C_drew ?_))); (case side2 => exact HC2.out); rintro e w49 ⟨v266, rfl, ho0, hb⟩; refine ⟨_, rfl, ?_⟩; have n0_ := Aside0.mk (Kd.V_elder' (by (with_reducible repeat (first | apply Kd.V_alloc | apply Kd.V_drewN | apply Kd.V_drew)); exact HO_254001.out) (Kd.R_base ho0) hb); have n1_ := Aside0.mk (Kd.V_elder' (by (with_reducible repeat (first | apply Kd.V_alloc | apply Kd.V_drewN | apply Kd.V_drew)); exact HO_255001.out) (Kd.R_base ho0) hb); have n2_ := Aside0.mk (Kd.R_elder' (by (with_reducible repeat (first | apply Kd.R_alloc | apply Kd.R_drewN | apply Kd.R_drew)); exact HO258.out) (Kd.R_base ho0) hb); have n3_ := Aside0.mk (Kd.R_elder' (by (with_reducible repeat (first | apply Kd.R_alloc | apply Kd.R_drewN | apply Kd.R_drew)); exact HO262.out) (Kd.R_base ho0) hb); have n4_ := Aside0.mk (Kd.R_lower (Kd.R_new' (Kd.R_new' (Kd.R_newM (M := fun k_ => (w.heap.size ≤ k_)) ho0 (below_size (by repeat (first | (with_reducible first | exact HB.out | apply below_alloc | apply pw_below_drewN | apply below_drew1 | refine below_set ?_ GE253.out | refine below_set ?_ GE254.out) | exact HB.out))) (fun k_ h_ => h_)) (Kd.R_lt (by (with_reducible repeat (first | apply Kd.R_alloc | apply Kd.R_drewN | apply Kd.R_drew)); exact HO258.out))) (Kd.R_lt (by (with_reducible repeat (first | apply Kd.R_alloc | apply Kd.R_drewN | apply Kd.R_drew)); exact HO262.out))) (below_size (by repeat (first | (with_reducible first | exact HB.out | apply below_alloc | apply pw_below_drewN | apply below_drew1 | refine below_set ?_ GE253.out | refine below_set ?_ GE254.out) | exact HB.out)))); have n5_ := Aside0.mk (blk_below (g := gb253) (o := .cells #[.int .u8 a0_0, .slice A0_1 l0_1.length c0_1] 56 (0, 0)) (by (with_reducible repeat (first | refine blk_drewN ?_ _ | refine blk_drew ?_ | refine blk_alloc ?_ _)); exact BK253.out) hb); have n6_ := Aside0.mk (blk_below (g := gb254) (o := .cells #[.int .u8 a1_0, .slice A1_1 l1_1.length c1_1] 56 (0, 0)) (by (with_reducible repeat (first | refine blk_drewN ?_ _ | refine blk_drew ?_ | refine blk_alloc ?_ _)); exact BK254.out) hb); have n7_ := Aside0.mk (below_step (by repeat (first | (with_reducible first | exact HB.out | apply below_alloc | apply pw_below_drewN | apply below_drew1 | refine below_set ?_ GE253.out | refine below_set ?_ GE254.out) | exact HB.out)) hb); clear HO_254001; clear HO_255001; clear HO258; clear HO262; clear BK253; clear BK254; clear HB; have HO_254001 := n0_; have HO_255001 := n1_; have HO258 := n2_; have HO262 := n3_; have HO267 := n4_; have BK253 := n5_; have BK254 := n6_; have HB := n7_; clear n0_ n1_ n2_ n3_ n4_ n5_ n6_ n7_; (try clear hb); (try clear hb2); (try clear hk); (try clear hi); (try clear ho0)) | ((with_reducible refine gate_dst (N := 11) rfl ?_); (try (refine gate_guard (by rfl) ?_; dsimp only)); refine box_event ?hg (N := 11) ?hd (cs := #[.int .u8 0, .slice none 0 0]) (t := 56) ?hr ?_; (case hd => rfl); (case hg => rfl); (case hr => first | (go_simp; done) | (go_simp; rfl)); intro gb270 hg w50 hbox hb; have n0_ := Aside0.mk (Kd.V_below (Kd.V_elderB (by (with_reducible repeat (first | apply Kd.V_alloc | apply Kd.V_drewN | apply Kd.V_drew)); exact HO_254001.out) gb270 (Nat.le_of_eq hg.symm)) hb); have n1_ := Aside0.mk (Kd.V_below (Kd.V_elderB (by (with_reducible repeat (first | apply Kd.V_alloc | apply Kd.V_drewN | apply Kd.V_drew)); exact HO_255001.out) gb270 (Nat.le_of_eq hg.symm)) hb); have n2_ := Aside0.mk (Kd.R_below (by (with_reducible repeat (first | apply Kd.R_alloc | apply Kd.R_drewN | apply Kd.R_drew)); exact HO258.out) hb); have n3_ := Aside0.mk (Kd.R_below (by (with_reducible repeat (first | apply Kd.R_alloc | apply Kd.R_drewN | apply Kd.R_drew)); exact HO262.out) hb); have n4_ := Aside0.mk (Kd.R_below (by (with_reducible repeat (first | apply Kd.R_alloc | apply Kd.R_drewN | apply Kd.R_drew)); exact HO267.out) hb); have n5_ := Aside0.mk (blk_below (g := gb253) (o := .cells #[.int .u8 a0_0, .slice A0_1 l0_1.length c0_1] 56 (0, 0)) (by (with_reducible repeat (first | refine blk_drewN ?_ _ | refine blk_drew ?_ | refine blk_alloc ?_ _)); exact BK253.out) hb); have n6_ := Aside0.mk (blk_below (g := gb254) (o := .cells #[.int .u8 a1_0, .slice A1_1 l1_1.length c1_1] 56 (0, 0)) (by (with_reducible repeat (first | refine blk_drewN ?_ _ | refine blk_drew ?_ | refine blk_alloc ?_ _)); exact BK254.out) hb); have n7_ := Aside0.mk (below_step (by repeat (first | (with_reducible first | exact HB.out | apply below_alloc | apply pw_below_drewN | apply below_drew1 | refine below_set ?_ GE253.out | refine below_set ?_ GE254.out) | exact HB.out)) hb); have n8_ := Aside0.mk (hbox); have n9_ := Aside0.mk ((by rw [hg]; exact (below_size (by repeat (first | (with_reducible first | exact HB.out | apply below_alloc | apply pw_below_drewN | apply below_drew1 | refine below_set ?_ GE253.out | refine below_set ?_ GE254.out) | exact HB.out))) : w.heap.size ≤ gb270)); have n10_ := Aside0.mk ((by rw [hg]; exact (below_size (by repeat (first | (with_reducible first | exact HB.out | apply below_alloc | apply pw_below_drewN | apply below_drew1 | refine below_set ?_ GE253.out | refine below_set ?_ GE254.out) | exact HB.out))) : w.heap.size ≤ gb270)); have n11_ := Aside0.mk ((by rw [hg]; exact Nat.ne_of_lt (blk_lt (g := gb253) (o := .cells #[.int .u8 a0_0, .slice A0_1 l0_1.length c0_1] 56 (0, 0)) (by (with_reducible repeat (first | refine blk_drewN ?_ _ | refine blk_drew ?_ | refine blk_alloc ?_ _)); exact BK253.out)) : gb253 ≠ gb270)); have n12_ := Aside0.mk ((by rw [hg]; exact Nat.ne_of_gt (blk_lt (g := gb253) (o := .cells #[.int .u8 a0_0, .slice A0_1 l0_1.length c0_1] 56 (0, 0)) (by (with_reducible repeat (first | refine blk_drewN ?_ _ | refine blk_drew ?_ | refine blk_alloc ?_ _)); exact BK253.out)) : gb270 ≠ gb253)); have n13_ := Aside0.mk ((by rw [hg]; exact Nat.ne_of_lt (blk_lt (g := gb254) (o := .cells #[.int .u8 a1_0, .slice A1_1 l1_1.length c1_1] 56 (0, 0)) (by (with_reducible repeat (first | refine blk_drewN ?_ _ | refine blk_drew ?_ | refine blk_alloc ?_ _)); exact BK254.out)) : gb254 ≠ gb270)); have n14_ := Aside0.mk ((by rw [hg]; exact Nat.ne_of_gt (blk_lt (g := gb254) (o := .cells #[.int .u8 a1_0, .slice A1_1 l1_1.length c1_1] 56 (0, 0)) (by (with_reducible repeat (first | refine blk_drewN ?_ _ | refine blk_drew ?_ | refine blk_alloc ?_ _)); exact BK254.out)) : gb270 ≠ gb254)); clear HO_254001; clear HO_255001; clear HO258; clear HO262; clear HO267; clear BK253; clear BK254; clear HB; have HO_254001 := n0_; have HO_255001 := n1_; have HO258 := n2_; have HO262 := n3_; have HO267 := n4_; have BK253 := n5_; have BK254 := n6_; have HB := n7_; have BK270 := n8_; have GW270 := n9_; have GE270 := n10_; have NB253_270 := n11_; have NB270_253 := n12_; have NB254_270 := n13_; have NB270_254 := n14_; clear n0_ n1_ n2_ n3_ n4_ n5_ n6_ n7_ n8_ n9_ n10_ n11_ n12_ n13_ n14_; clear hb hbox hg; have hnb51 := NB270_253.out; have hnc51 := NB253_270.out; have hnb52 := NB270_254.out; have hnc52 := NB254_270.out; have hcz53_0 : w50.cell? ⟨gb270, 0, none⟩ = some (.int .u8 0) := (blk_cell BK270.out 0).trans rfl; have hcz53_1 : w50.cell? ⟨gb270, 1, none⟩ = some (.slice none 0 0) := (blk_cell BK270.out 1).trans rfl; have hfz53_0 := blk_frozen BK270.out 0; have hfz53_1 := blk_frozen BK270.out 1; obtain ⟨Ao54, co54, eo54⟩ := Kd.R_slice HO267.out; subst eo54) | ((with_reducible refine gate_callee (f := 48) rfl ?_); refine goesL_ (some 58) rfl rfl Try.func48 (by kernel_rfl) rfl #[.slice A2 l2.length c2] rfl (by (try simp only [List.map_toArray, List.map_cons, List.map_nil]); first | done | rfl | (simp only [List.length_drop, List.length_take]; rfl)) ?_; (with_reducible refine (tumbrelref04_Read.calls kj5 _ _ l2 t271 t272 t275 t276 _ ?side1 ?side2 A24.out).mono ?_); (case side1 => exact Kd.C_below HR2.out (by repeat (first | (with_reducible first | exact HB.out | apply below_alloc | apply pw_below_drewN | apply below_drew1 | refine below_set ?_ GE253.out | refine below_set ?_ GE254.out | refine below_set ?_ GE270.out) | exact HB.out))); (case side2 => exact HC2.out); rintro e w55 ⟨v273, rfl, ho0, hb⟩; refine ⟨_, rfl, ?_⟩; have n0_ := Aside0.mk (Kd.V_elder' (by (with_reducible repeat (first | apply Kd.V_alloc | apply Kd.V_drewN | apply Kd.V_drew)); exact (Kd.V_mono (Kd.V_far (p := ⟨gb270, 1, none⟩) (Kd.V_far (p := ⟨gb270, 0, none⟩) (Kd.V_mono HO_254001.out (fun k_ hk => (⟨hk, hk.2⟩ : _ ∧ k_ ≠ gb270))) (fun _ hk => hk.2) (.int .u8 t264)) (fun _ hk => hk.2) (.slice Ao54 t265.length co54)) (fun _ h_ => h_.1))) (Kd.R_base ho0) hb); have n1_ := Aside0.mk (Kd.V_elder' (by (with_reducible repeat (first | apply Kd.V_alloc | apply Kd.V_drewN | apply Kd.V_drew)); exact (Kd.V_mono (Kd.V_far (p := ⟨gb270, 1, none⟩) (Kd.V_far (p := ⟨gb270, 0, none⟩) (Kd.V_mono HO_255001.out (fun k_ hk => (⟨hk, hk.2⟩ : _ ∧ k_ ≠ gb270))) (fun _ hk => hk.2) (.int .u8 t264)) (fun _ hk => hk.2) (.slice Ao54 t265.length co54)) (fun _ h_ => h_.1))) (Kd.R_base ho0) hb); have n2_ := Aside0.mk (Kd.R_elder' (by (with_reducible repeat (first | apply Kd.R_alloc | apply Kd.R_drewN | apply Kd.R_drew)); exact (Kd.R_mono (Kd.R_far (p := ⟨gb270, 1, none⟩) (Kd.R_far (p := ⟨gb270, 0, none⟩) (Kd.R_types HO258.out BK270.out (by decide)) (fun _ hk => hk.2) (.int .u8 t264)) (fun _ hk => hk.2) (.slice Ao54 t265.length co54)) (fun _ h_ => h_.1))) (Kd.R_base ho0) hb); have n3_ := Aside0.mk (Kd.R_elder' (by (with_reducible repeat (first | apply Kd.R_alloc | apply Kd.R_drewN | apply Kd.R_drew)); exact (Kd.R_mono (Kd.R_far (p := ⟨gb270, 1, none⟩) (Kd.R_far (p := ⟨gb270, 0, none⟩) (Kd.R_types HO262.out BK270.out (by decide)) (fun _ hk => hk.2) (.int .u8 t264)) (fun _ hk => hk.2) (.slice Ao54 t265.length co54)) (fun _ h_ => h_.1))) (Kd.R_base ho0) hb); have n4_ := Aside0.mk (Kd.R_elder' (by (with_reducible repeat (first | apply Kd.R_alloc | apply Kd.R_drewN | apply Kd.R_drew)); exact (Kd.R_mono (Kd.R_far (p := ⟨gb270, 1, none⟩) (Kd.R_far (p := ⟨gb270, 0, none⟩) (Kd.R_types HO267.out BK270.out (by decide)) (fun _ hk => hk.2) (.int .u8 t264)) (fun _ hk => hk.2) (.slice Ao54 t265.length co54)) (fun _ h_ => h_.1))) (Kd.R_base ho0) hb); have n5_ := Aside0.mk (Kd.R_lower (Kd.R_new' (Kd.R_new' (Kd.R_new' (Kd.R_newM (M := fun k_ => (w.heap.size ≤ k_)) ho0 (below_size (by repeat (first | (with_reducible first | exact HB.out | apply below_alloc | apply pw_below_drewN | apply below_drew1 | refine below_set ?_ GE253.out | refine below_set ?_ GE254.out | refine below_set ?_ GE270.out) | exact HB.out))) (fun k_ h_ => h_)) (Kd.R_lt (by (with_reducible repeat (first | apply Kd.R_alloc | apply Kd.R_drewN | apply Kd.R_drew)); exact (Kd.R_mono (Kd.R_far (p := ⟨gb270, 1, none⟩) (Kd.R_far (p := ⟨gb270, 0, none⟩) (Kd.R_types HO258.out BK270.out (by decide)) (fun _ hk => hk.2) (.int .u8 t264)) (fun _ hk => hk.2) (.slice Ao54 t265.length co54)) (fun _ h_ => h_.1))))) (Kd.R_lt (by (with_reducible repeat (first | apply Kd.R_alloc | apply Kd.R_drewN | apply Kd.R_drew)); exact (Kd.R_mono (Kd.R_far (p := ⟨gb270, 1, none⟩) (Kd.R_far (p := ⟨gb270, 0, none⟩) (Kd.R_types HO262.out BK270.out (by decide)) (fun _ hk => hk.2) (.int .u8 t264)) (fun _ hk => hk.2) (.slice Ao54 t265.length co54)) (fun _ h_ => h_.1))))) (Kd.R_lt (by (with_reducible repeat (first | apply Kd.R_alloc | apply Kd.R_drewN | apply Kd.R_drew)); exact (Kd.R_mono (Kd.R_far (p := ⟨gb270, 1, none⟩) (Kd.R_far (p := ⟨gb270, 0, none⟩) (Kd.R_types HO267.out BK270.out (by decide)) (fun _ hk => hk.2) (.int .u8 t264)) (fun _ hk => hk.2) (.slice Ao54 t265.length co54)) (fun _ h_ => h_.1))))) (below_size (by repeat (first | (with_reducible first | exact HB.out | apply below_alloc | apply pw_below_drewN | apply below_drew1 | refine below_set ?_ GE253.out | refine below_set ?_ GE254.out | refine below_set ?_ GE270.out) | exact HB.out)))); have n6_ := Aside0.mk (blk_below (g := gb253) (o := .cells #[.int .u8 a0_0, .slice A0_1 l0_1.length c0_1] 56 (0, 0)) (by (with_reducible repeat (first | refine blk_drewN ?_ _ | refine blk_drew ?_ | refine blk_alloc ?_ _)); refine blk_far ?_ NB253_270.out _; (with_reducible repeat (first | refine blk_drewN ?_ _ | refine blk_drew ?_ | refine blk_alloc ?_ _)); refine blk_far ?_ NB253_270.out _; (with_reducible repeat (first | refine blk_drewN ?_ _ | refine blk_drew ?_ | refine blk_alloc ?_ _)); exact BK253.out) hb); have n7_ := Aside0.mk (blk_below (g := gb254) (o := .cells #[.int .u8 a1_0, .slice A1_1 l1_1.length c1_1] 56 (0, 0)) (by (with_reducible repeat (first | refine blk_drewN ?_ _ | refine blk_drew ?_ | refine blk_alloc ?_ _)); refine blk_far ?_ NB254_270.out _; (with_reducible repeat (first | refine blk_drewN ?_ _ | refine blk_drew ?_ | refine blk_alloc ?_ _)); refine blk_far ?_ NB254_270.out _; (with_reducible repeat (first | refine blk_drewN ?_ _ | refine blk_drew ?_ | refine blk_alloc ?_ _)); exact BK254.out) hb); have n8_ := Aside0.mk (blk_below (g := gb270) (o := .cells #[.int .u8 t264, .slice Ao54 t265.length co54] 56 (0, 0)) (by (with_reducible repeat (first | refine blk_drewN ?_ _ | refine blk_drew ?_ | refine blk_alloc ?_ _)); refine blk_put (cs := #[.int .u8 t264, .slice none 0 0]) ?_ 1 _ rfl; (with_reducible repeat (first | refine blk_drewN ?_ _ | refine blk_drew ?_ | refine blk_alloc ?_ _)); refine blk_put (cs := #[.int .u8 0, .slice none 0 0]) ?_ 0 _ rfl; (with_reducible repeat (first | refine blk_drewN ?_ _ | refine blk_drew ?_ | refine blk_alloc ?_ _)); exact BK270.out) hb); have n9_ := Aside0.mk (below_step (by repeat (first | (with_reducible first | exact HB.out | apply below_alloc | apply pw_below_drewN | apply below_drew1 | refine below_set ?_ GE253.out | refine below_set ?_ GE254.out | refine below_set ?_ GE270.out) | exact HB.out)) hb); clear HO_254001; clear HO_255001; clear HO258; clear HO262; clear HO267; clear BK253; clear BK254; clear BK270; clear HB; have HO_254001 := n0_; have HO_255001 := n1_; have HO258 := n2_; have HO262 := n3_; have HO267 := n4_; have HO274 := n5_; have BK253 := n6_; have BK254 := n7_; have BK270 := n8_; have HB := n9_; clear n0_ n1_ n2_ n3_ n4_ n5_ n6_ n7_ n8_ n9_; (try clear hb); (try clear hb2); (try clear hk); (try clear hi); (try clear ho0)) | ((with_reducible refine gate_dst (N := 14) rfl ?_); (try (refine gate_guard (by rfl) ?_; dsimp only)); refine box_event ?hg (N := 14) ?hd (cs := #[.int .u8 0, .slice none 0 0]) (t := 60) ?hr ?_; (case hd => rfl); (case hg => rfl); (case hr => first | (go_simp; done) | (go_simp; rfl)); intro gb277 hg w56 hbox hb; have n0_ := Aside0.mk (Kd.V_below (Kd.V_elderB (by (with_reducible repeat (first | apply Kd.V_alloc | apply Kd.V_drewN | apply Kd.V_drew)); exact HO_254001.out) gb277 (Nat.le_of_eq hg.symm)) hb); have n1_ := Aside0.mk (Kd.V_below (Kd.V_elderB (by (with_reducible repeat (first | apply Kd.V_alloc | apply Kd.V_drewN | apply Kd.V_drew)); exact HO_255001.out) gb277 (Nat.le_of_eq hg.symm)) hb); have n2_ := Aside0.mk (Kd.R_below (by (with_reducible repeat (first | apply Kd.R_alloc | apply Kd.R_drewN | apply Kd.R_drew)); exact HO258.out) hb); have n3_ := Aside0.mk (Kd.R_below (by (with_reducible repeat (first | apply Kd.R_alloc | apply Kd.R_drewN | apply Kd.R_drew)); exact HO262.out) hb); have n4_ := Aside0.mk (Kd.R_below (by (with_reducible repeat (first | apply Kd.R_alloc | apply Kd.R_drewN | apply Kd.R_drew)); exact HO267.out) hb); have n5_ := Aside0.mk (Kd.R_below (by (with_reducible repeat (first | apply Kd.R_alloc | apply Kd.R_drewN | apply Kd.R_drew)); exact HO274.out) hb); have n6_ := Aside0.mk (blk_below (g := gb253) (o := .cells #[.int .u8 a0_0, .slice A0_1 l0_1.length c0_1] 56 (0, 0)) (by (with_reducible repeat (first | refine blk_drewN ?_ _ | refine blk_drew ?_ | refine blk_alloc ?_ _)); exact BK253.out) hb); have n7_ := Aside0.mk (blk_below (g := gb254) (o := .cells #[.int .u8 a1_0, .slice A1_1 l1_1.length c1_1] 56 (0, 0)) (by (with_reducible repeat (first | refine blk_drewN ?_ _ | refine blk_drew ?_ | refine blk_alloc ?_ _)); exact BK254.out) hb); have n8_ := Aside0.mk (blk_below (g := gb270) (o := .cells #[.int .u8 t264, .slice Ao54 t265.length co54] 56 (0, 0)) (by (with_reducible repeat (first | refine blk_drewN ?_ _ | refine blk_drew ?_ | refine blk_alloc ?_ _)); exact BK270.out) hb); have n9_ := Aside0.mk (below_step (by repeat (first | (with_reducible first | exact HB.out | apply below_alloc | apply pw_below_drewN | apply below_drew1 | refine below_set ?_ GE253.out | refine below_set ?_ GE254.out | refine below_set ?_ GE270.out) | exact HB.out)) hb); have n10_ := Aside0.mk (hbox); have n11_ := Aside0.mk ((by rw [hg]; exact (below_size (by repeat (first | (with_reducible first | exact HB.out | apply below_alloc | apply pw_below_drewN | apply below_drew1 | refine below_set ?_ GE253.out | refine below_set ?_ GE254.out | refine below_set ?_ GE270.out) | exact HB.out))) : w.heap.size ≤ gb277)); have n12_ := Aside0.mk ((by rw [hg]; exact (below_size (by repeat (first | (with_reducible first | exact HB.out | apply below_alloc | apply pw_below_drewN | apply below_drew1 | refine below_set ?_ GE253.out | refine below_set ?_ GE254.out | refine below_set ?_ GE270.out) | exact HB.out))) : w.heap.size ≤ gb277)); have n13_ := Aside0.mk ((by rw [hg]; exact Nat.ne_of_lt (blk_lt (g := gb253) (o := .cells #[.int .u8 a0_0, .slice A0_1 l0_1.length c0_1] 56 (0, 0)) (by (with_reducible repeat (first | refine blk_drewN ?_ _ | refine blk_drew ?_ | refine blk_alloc ?_ _)); exact BK253.out)) : gb253 ≠ gb277)); have n14_ := Aside0.mk ((by rw [hg]; exact Nat.ne_of_gt (blk_lt (g := gb253) (o := .cells #[.int .u8 a0_0, .slice A0_1 l0_1.length c0_1] 56 (0, 0)) (by (with_reducible repeat (first | refine blk_drewN ?_ _ | refine blk_drew ?_ | refine blk_alloc ?_ _)); exact BK253.out)) : gb277 ≠ gb253)); have n15_ := Aside0.mk ((by rw [hg]; exact Nat.ne_of_lt (blk_lt (g := gb254) (o := .cells #[.int .u8 a1_0, .slice A1_1 l1_1.length c1_1] 56 (0, 0)) (by (with_reducible repeat (first | refine blk_drewN ?_ _ | refine blk_drew ?_ | refine blk_alloc ?_ _)); exact BK254.out)) : gb254 ≠ gb277)); have n16_ := Aside0.mk ((by rw [hg]; exact Nat.ne_of_gt (blk_lt (g := gb254) (o := .cells #[.int .u8 a1_0, .slice A1_1 l1_1.length c1_1] 56 (0, 0)) (by (with_reducible repeat (first | refine blk_drewN ?_ _ | refine blk_drew ?_ | refine blk_alloc ?_ _)); exact BK254.out)) : gb277 ≠ gb254)); have n17_ := Aside0.mk ((by rw [hg]; exact Nat.ne_of_lt (blk_lt (g := gb270) (o := .cells #[.int .u8 t264, .slice Ao54 t265.length co54] 56 (0, 0)) (by (with_reducible repeat (first | refine blk_drewN ?_ _ | refine blk_drew ?_ | refine blk_alloc ?_ _)); exact BK270.out)) : gb270 ≠ gb277)); have n18_ := Aside0.mk ((by rw [hg]; exact Nat.ne_of_gt (blk_lt (g := gb270) (o := .cells #[.int .u8 t264, .slice Ao54 t265.length co54] 56 (0, 0)) (by (with_reducible repeat (first | refine blk_drewN ?_ _ | refine blk_drew ?_ | refine blk_alloc ?_ _)); exact BK270.out)) : gb277 ≠ gb270)); clear HO_254001; clear HO_255001; clear HO258; clear HO262; clear HO267; clear HO274; clear BK253; clear BK254; clear BK270; clear HB; have HO_254001 := n0_; have HO_255001 := n1_; have HO258 := n2_; have HO262 := n3_; have HO267 := n4_; have HO274 := n5_; have BK253 := n6_; have BK254 := n7_; have BK270 := n8_; have HB := n9_; have BK277 := n10_; have GW277 := n11_; have GE277 := n12_; have NB253_277 := n13_; have NB277_253 := n14_; have NB254_277 := n15_; have NB277_254 := n16_; have NB270_277 := n17_; have NB277_270 := n18_; clear n0_ n1_ n2_ n3_ n4_ n5_ n6_ n7_ n8_ n9_ n10_ n11_ n12_ n13_ n14_ n15_ n16_ n17_ n18_; clear hb hbox hg; have hnb57 := NB277_253.out; have hnc57 := NB253_277.out; have hnb58 := NB277_254.out; have hnc58 := NB254_277.out; have hnb59 := NB277_270.out; have hnc59 := NB270_277.out; have hcz60_0 : w56.cell? ⟨gb277, 0, none⟩ = some (.int .u8 0) := (blk_cell BK277.out 0).trans rfl; have hcz60_1 : w56.cell? ⟨gb277, 1, none⟩ = some (.slice none 0 0) := (blk_cell BK277.out 1).trans rfl; have hfz60_0 := blk_frozen BK277.out 0; have hfz60_1 := blk_frozen BK277.out 1; obtain ⟨Ao61, co61, eo61⟩ := Kd.R_slice HO274.out; subst eo61) | ((with_reducible refine gate_callee (f := 49) rfl ?_); refine goesL_ (some 64) rfl rfl Try.func49 (by kernel_rfl) rfl #[.slice A2 l2.length c2] rfl (by (try simp only [List.map_toArray, List.map_cons, List.map_nil]); first | done | rfl | (simp only [List.length_drop, List.length_take]; rfl)) ?_; (with_reducible refine (frame_All.calls kj5 _ _ l2 t278 t279 t280 _ ?side1 ?side2 A25.out).mono ?_); (case side1 => exact Kd.C_below HR2.out (by repeat (first | (with_reducible first | exact HB.out | apply below_alloc | apply pw_below_drewN | apply below_drew1 | refine below_set ?_ GE253.out | refine below_set ?_ GE254.out | refine below_set ?_ GE270.out | refine below_set ?_ GE277.out) | exact HB.out))); (case side2 => exact HC2.out); rintro e w62 ⟨v281, rfl, ho0, hb⟩; refine ⟨_, rfl, ?_⟩; have n0_ := Aside0.mk (Kd.V_elder' (by (with_reducible repeat (first | apply Kd.V_alloc | apply Kd.V_drewN | apply Kd.V_drew)); exact (Kd.V_mono (Kd.V_far (p := ⟨gb277, 1, none⟩) (Kd.V_far (p := ⟨gb277, 0, none⟩) (Kd.V_mono HO_254001.out (fun k_ hk => (⟨hk, hk.2⟩ : _ ∧ k_ ≠ gb277))) (fun _ hk => hk.2) (.int .u8 t271)) (fun _ hk => hk.2) (.slice Ao61 t272.length co61)) (fun _ h_ => h_.1))) (Kd.N_base (by first | exact ho0 | exact Kd.S_N ho0)) hb); have n1_ := Aside0.mk (Kd.V_elder' (by (with_reducible repeat (first | apply Kd.V_alloc | apply Kd.V_drewN | apply Kd.V_drew)); exact (Kd.V_mono (Kd.V_far (p := ⟨gb277, 1, none⟩) (Kd.V_far (p := ⟨gb277, 0, none⟩) (Kd.V_mono HO_255001.out (fun k_ hk => (⟨hk, hk.2⟩ : _ ∧ k_ ≠ gb277))) (fun _ hk => hk.2) (.int .u8 t271)) (fun _ hk => hk.2) (.slice Ao61 t272.length co61)) (fun _ h_ => h_.1))) (Kd.N_base (by first | exact ho0 | exact Kd.S_N ho0)) hb); have n2_ := Aside0.mk (Kd.R_below (by (with_reducible repeat (first | apply Kd.R_alloc | apply Kd.R_drewN | apply Kd.R_drew)); exact (Kd.R_mono (Kd.R_far (p := ⟨gb277, 1, none⟩) (Kd.R_far (p := ⟨gb277, 0, none⟩) (Kd.R_types HO258.out BK277.out (by decide)) (fun _ hk => hk.2) (.int .u8 t271)) (fun _ hk => hk.2) (.slice Ao61 t272.length co61)) (fun _ h_ => h_.1))) hb); have n3_ := Aside0.mk (Kd.R_below (by (with_reducible repeat (first | apply Kd.R_alloc | apply Kd.R_drewN | apply Kd.R_drew)); exact (Kd.R_mono (Kd.R_far (p := ⟨gb277, 1, none⟩) (Kd.R_far (p := ⟨gb277, 0, none⟩) (Kd.R_types HO262.out BK277.out (by decide)) (fun _ hk => hk.2) (.int .u8 t271)) (fun _ hk => hk.2) (.slice Ao61 t272.length co61)) (fun _ h_ => h_.1))) hb); have n4_ := Aside0.mk (Kd.R_below (by (with_reducible repeat (first | apply Kd.R_alloc | apply Kd.R_drewN | apply Kd.R_drew)); exact (Kd.R_mono (Kd.R_far (p := ⟨gb277, 1, none⟩) (Kd.R_far (p := ⟨gb277, 0, none⟩) (Kd.R_types HO267.out BK277.out (by decide)) (fun _ hk => hk.2) (.int .u8 t271)) (fun _ hk => hk.2) (.slice Ao61 t272.length co61)) (fun _ h_ => h_.1))) hb); have n5_ := Aside0.mk (Kd.R_below (by (with_reducible repeat (first | apply Kd.R_alloc | apply Kd.R_drewN | apply Kd.R_drew)); exact (Kd.R_mono (Kd.R_far (p := ⟨gb277, 1, none⟩) (Kd.R_far (p := ⟨gb277, 0, none⟩) (Kd.R_types HO274.out BK277.out (by decide)) (fun _ hk => hk.2) (.int .u8 t271)) (fun _ hk => hk.2) (.slice Ao61 t272.length co61)) (fun _ h_ => h_.1))) hb); have n6_ := Aside0.mk (Kd.N_lower (Kd.N_mono (ok' := fun k_ => ((P0_1_ k_ ∨ P1_1_ k_) ∨ w.heap.size ≤ k_) ∧ some k_ ≠ (v257 : Value).ownBlock ∧ some k_ ≠ (v261 : Value).ownBlock ∧ some k_ ≠ (.slice Ao54 t265.length co54 : Value).ownBlock ∧ some k_ ≠ (.slice Ao61 t272.length co61 : Value).ownBlock ∧ k_ ≠ gb253 ∧ k_ ≠ gb254 ∧ k_ ≠ gb270 ∧ k_ ≠ gb277) (Kd.S_N (Kd.S_bound ho0)) (fun k_ hk_ => ⟨(.inr (Nat.le_trans (below_size (by repeat (first | (with_reducible first | exact HB.out | apply below_alloc | apply pw_below_drewN | apply below_drew1 | refine below_set ?_ GE253.out | refine below_set ?_ GE254.out | refine below_set ?_ GE270.out | refine below_set ?_ GE277.out) | exact HB.out))) hk_.2.1)), (Kd.fresh' (Kd.R_lt (by (with_reducible repeat (first | apply Kd.R_alloc | apply Kd.R_drewN | apply Kd.R_drew)); exact (Kd.R_mono (Kd.R_far (p := ⟨gb277, 1, none⟩) (Kd.R_far (p := ⟨gb277, 0, none⟩) (Kd.R_types HO258.out BK277.out (by decide)) (fun _ hk => hk.2) (.int .u8 t271)) (fun _ hk => hk.2) (.slice Ao61 t272.length co61)) (fun _ h_ => h_.1)))) k_ hk_.2.1), (Kd.fresh' (Kd.R_lt (by (with_reducible repeat (first | apply Kd.R_alloc | apply Kd.R_drewN | apply Kd.R_drew)); exact (Kd.R_mono (Kd.R_far (p := ⟨gb277, 1, none⟩) (Kd.R_far (p := ⟨gb277, 0, none⟩) (Kd.R_types HO262.out BK277.out (by decide)) (fun _ hk => hk.2) (.int .u8 t271)) (fun _ hk => hk.2) (.slice Ao61 t272.length co61)) (fun _ h_ => h_.1)))) k_ hk_.2.1), (Kd.fresh' (Kd.R_lt (by (with_reducible repeat (first | apply Kd.R_alloc | apply Kd.R_drewN | apply Kd.R_drew)); exact (Kd.R_mono (Kd.R_far (p := ⟨gb277, 1, none⟩) (Kd.R_far (p := ⟨gb277, 0, none⟩) (Kd.R_types HO267.out BK277.out (by decide)) (fun _ hk => hk.2) (.int .u8 t271)) (fun _ hk => hk.2) (.slice Ao61 t272.length co61)) (fun _ h_ => h_.1)))) k_ hk_.2.1), (Kd.fresh' (Kd.R_lt (by (with_reducible repeat (first | apply Kd.R_alloc | apply Kd.R_drewN | apply Kd.R_drew)); exact (Kd.R_mono (Kd.R_far (p := ⟨gb277, 1, none⟩) (Kd.R_far (p := ⟨gb277, 0, none⟩) (Kd.R_types HO274.out BK277.out (by decide)) (fun _ hk => hk.2) (.int .u8 t271)) (fun _ hk => hk.2) (.slice Ao61 t272.length co61)) (fun _ h_ => h_.1)))) k_ hk_.2.1), (Kd.freshB (g := gb253) (o := .cells #[.int .u8 a0_0, .slice A0_1 l0_1.length c0_1] 56 (0, 0)) (by (with_reducible repeat (first | refine blk_drewN ?_ _ | refine blk_drew ?_ | refine blk_alloc ?_ _)); refine blk_far ?_ NB253_277.out _; (with_reducible repeat (first | refine blk_drewN ?_ _ | refine blk_drew ?_ | refine blk_alloc ?_ _)); refine blk_far ?_ NB253_277.out _; (with_reducible repeat (first | refine blk_drewN ?_ _ | refine blk_drew ?_ | refine blk_alloc ?_ _)); exact BK253.out) k_ hk_.2.1), (Kd.freshB (g := gb254) (o := .cells #[.int .u8 a1_0, .slice A1_1 l1_1.length c1_1] 56 (0, 0)) (by (with_reducible repeat (first | refine blk_drewN ?_ _ | refine blk_drew ?_ | refine blk_alloc ?_ _)); refine blk_far ?_ NB254_277.out _; (with_reducible repeat (first | refine blk_drewN ?_ _ | refine blk_drew ?_ | refine blk_alloc ?_ _)); refine blk_far ?_ NB254_277.out _; (with_reducible repeat (first | refine blk_drewN ?_ _ | refine blk_drew ?_ | refine blk_alloc ?_ _)); exact BK254.out) k_ hk_.2.1), (Kd.freshB (g := gb270) (o := .cells #[.int .u8 t264, .slice Ao54 t265.length co54] 56 (0, 0)) (by (with_reducible repeat (first | refine blk_drewN ?_ _ | refine blk_drew ?_ | refine blk_alloc ?_ _)); refine blk_far ?_ NB270_277.out _; (with_reducible repeat (first | refine blk_drewN ?_ _ | refine blk_drew ?_ | refine blk_alloc ?_ _)); refine blk_far ?_ NB270_277.out _; (with_reducible repeat (first | refine blk_drewN ?_ _ | refine blk_drew ?_ | refine blk_alloc ?_ _)); exact BK270.out) k_ hk_.2.1), (Kd.freshB (g := gb277) (o := .cells #[.int .u8 t271, .slice Ao61 t272.length co61] 60 (0, 0)) (by (with_reducible repeat (first | refine blk_drewN ?_ _ | refine blk_drew ?_ | refine blk_alloc ?_ _)); refine blk_put (cs := #[.int .u8 t271, .slice none 0 0]) ?_ 1 _ rfl; (with_reducible repeat (first | refine blk_drewN ?_ _ | refine blk_drew ?_ | refine blk_alloc ?_ _)); refine blk_put (cs := #[.int .u8 0, .slice none 0 0]) ?_ 0 _ rfl; (with_reducible repeat (first | refine blk_drewN ?_ _ | refine blk_drew ?_ | refine blk_alloc ?_ _)); exact BK277.out) k_ hk_.2.1)⟩)) (below_size (by repeat (first | (with_reducible first | exact HB.out | apply below_alloc | apply pw_below_drewN | apply below_drew1 | refine below_set ?_ GE253.out | refine below_set ?_ GE254.out | refine below_set ?_ GE270.out | refine below_set ?_ GE277.out) | exact HB.out)))); have n7_ := Aside0.mk (blk_below (g := gb253) (o := .cells #[.int .u8 a0_0, .slice A0_1 l0_1.length c0_1] 56 (0, 0)) (by (with_reducible repeat (first | refine blk_drewN ?_ _ | refine blk_drew ?_ | refine blk_alloc ?_ _)); refine blk_far ?_ NB253_277.out _; (with_reducible repeat (first | refine blk_drewN ?_ _ | refine blk_drew ?_ | refine blk_alloc ?_ _)); refine blk_far ?_ NB253_277.out _; (with_reducible repeat (first | refine blk_drewN ?_ _ | refine blk_drew ?_ | refine blk_alloc ?_ _)); exact BK253.out) hb); have n8_ := Aside0.mk (blk_below (g := gb254) (o := .cells #[.int .u8 a1_0, .slice A1_1 l1_1.length c1_1] 56 (0, 0)) (by (with_reducible repeat (first | refine blk_drewN ?_ _ | refine blk_drew ?_ | refine blk_alloc ?_ _)); refine blk_far ?_ NB254_277.out _; (with_reducible repeat (first | refine blk_drewN ?_ _ | refine blk_drew ?_ | refine blk_alloc ?_ _)); refine blk_far ?_ NB254_277.out _; (with_reducible repeat (first | refine blk_drewN ?_ _ | refine blk_drew ?_ | refine blk_alloc ?_ _)); exact BK254.out) hb); have n9_ := Aside0.mk (blk_below (g := gb270) (o := .cells #[.int .u8 t264, .slice Ao54 t265.length co54] 56 (0, 0)) (by (with_reducible repeat (first | refine blk_drewN ?_ _ | refine blk_drew ?_ | refine blk_alloc ?_ _)); refine blk_far ?_ NB270_277.out _; (with_reducible repeat (first | refine blk_drewN ?_ _ | refine blk_drew ?_ | refine blk_alloc ?_ _)); refine blk_far ?_ NB270_277.out _; (with_reducible repeat (first | refine blk_drewN ?_ _ | refine blk_drew ?_ | refine blk_alloc ?_ _)); exact BK270.out) hb); have n10_ := Aside0.mk (blk_below (g := gb277) (o := .cells #[.int .u8 t271, .slice Ao61 t272.length co61] 60 (0, 0)) (by (with_reducible repeat (first | refine blk_drewN ?_ _ | refine blk_drew ?_ | refine blk_alloc ?_ _)); refine blk_put (cs := #[.int .u8 t271, .slice none 0 0]) ?_ 1 _ rfl; (with_reducible repeat (first | refine blk_drewN ?_ _ | refine blk_drew ?_ | refine blk_alloc ?_ _)); refine blk_put (cs := #[.int .u8 0, .slice none 0 0]) ?_ 0 _ rfl; (with_reducible repeat (first | refine blk_drewN ?_ _ | refine blk_drew ?_ | refine blk_alloc ?_ _)); exact BK277.out) hb); have n11_ := Aside0.mk (below_step (by repeat (first | (with_reducible first | exact HB.out | apply below_alloc | apply pw_below_drewN | apply below_drew1 | refine below_set ?_ GE253.out | refine below_set ?_ GE254.out | refine below_set ?_ GE270.out | refine below_set ?_ GE277.out) | exact HB.out)) hb); clear HO_254001; clear HO_255001; clear HO258; clear HO262; clear HO267; clear HO274; clear BK253; clear BK254; clear BK270; clear BK277; clear HB; have HO_254001 := n0_; have HO_255001 := n1_; have HO258 := n2_; have HO262 := n3_; have HO267 := n4_; have HO274 := n5_; have HO282 := n6_; have BK253 := n7_; have BK254 := n8_; have BK270 := n9_; have BK277 := n10_; have HB := n11_; clear n0_ n1_ n2_ n3_ n4_ n5_ n6_ n7_ n8_ n9_ n10_ n11_; (try clear hb); (try clear hb2); (try clear hk); (try clear hi); (try clear ho0)) | ((with_reducible refine gate_callee (f := 50) rfl ?_); refine goesL_ (some 70) rfl rfl Try.func50 (by kernel_rfl) rfl #[.slice A2 l2.length c2] rfl (by (try simp only [List.map_toArray, List.map_cons, List.map_nil]); first | done | rfl | (simp only [List.length_drop, List.length_take]; rfl)) ?_; (with_reducible refine (tumbrelref04_All.calls kj5 _ _ l2 t283 t284 t285 _ ?side1 ?side2 A26.out).mono ?_); (case side1 => repeat (first | exact (Kd.C_below HR2.out HB.out) | (with_reducible refine Kd.C_alloc ?_ _) | (with_reducible refine Kd.C_drewN ?_ _) | (with_reducible refine Kd.C_drew ?_))); (case side2 => exact HC2.out); rintro e w63 ⟨v286, rfl, ho0, hb⟩; refine ⟨_, rfl, ?_⟩; have n0_ := Aside0.mk (Kd.V_elder' (by (with_reducible repeat (first | apply Kd.V_alloc | apply Kd.V_drewN | apply Kd.V_drew)); exact HO_254001.out) (Kd.N_base (by first | exact ho0 | exact Kd.S_N ho0)) hb); have n1_ := Aside0.mk (Kd.V_elder' (by (with_reducible repeat (first | apply Kd.V_alloc | apply Kd.V_drewN | apply Kd.V_drew)); exact HO_255001.out) (Kd.N_base (by first | exact ho0 | exact Kd.S_N ho0)) hb); have n2_ := Aside0.mk (Kd.R_below (by (with_reducible repeat (first | apply Kd.R_alloc | apply Kd.R_drewN | apply Kd.R_drew)); exact HO258.out) hb); have n3_ := Aside0.mk (Kd.R_below (by (with_reducible repeat (first | apply Kd.R_alloc | apply Kd.R_drewN | apply Kd.R_drew)); exact HO262.out) hb); have n4_ := Aside0.mk (Kd.R_below (by (with_reducible repeat (first | apply Kd.R_alloc | apply Kd.R_drewN | apply Kd.R_drew)); exact HO267.out) hb); have n5_ := Aside0.mk (Kd.R_below (by (with_reducible repeat (first | apply Kd.R_alloc | apply Kd.R_drewN | apply Kd.R_drew)); exact HO274.out) hb); have n6_ := Aside0.mk (Kd.N_elder' (by (with_reducible repeat (first | apply Kd.N_alloc | apply Kd.N_drewN | apply Kd.N_drew)); exact HO282.out) (Kd.N_base (by first | exact ho0 | exact Kd.S_N ho0)) hb); have n7_ := Aside0.mk (Kd.N_lower (Kd.N_mono (ok' := fun k_ => ((P0_1_ k_ ∨ P1_1_ k_) ∨ w.heap.size ≤ k_) ∧ some k_ ≠ (v257 : Value).ownBlock ∧ some k_ ≠ (v261 : Value).ownBlock ∧ some k_ ≠ (.slice Ao54 t265.length co54 : Value).ownBlock ∧ some k_ ≠ (.slice Ao61 t272.length co61 : Value).ownBlock ∧ some k_ ≠ (v281 : Value).ownBlock ∧ k_ ≠ gb253 ∧ k_ ≠ gb254 ∧ k_ ≠ gb270 ∧ k_ ≠ gb277) (Kd.S_N (Kd.S_bound ho0)) (fun k_ hk_ => ⟨(.inr (Nat.le_trans (below_size (by repeat (first | (with_reducible first | exact HB.out | apply below_alloc | apply pw_below_drewN | apply below_drew1 | refine below_set ?_ GE253.out | refine below_set ?_ GE254.out | refine below_set ?_ GE270.out | refine below_set ?_ GE277.out) | exact HB.out))) hk_.2.1)), (Kd.fresh' (Kd.R_lt (by (with_reducible repeat (first | apply Kd.R_alloc | apply Kd.R_drewN | apply Kd.R_drew)); exact HO258.out)) k_ hk_.2.1), (Kd.fresh' (Kd.R_lt (by (with_reducible repeat (first | apply Kd.R_alloc | apply Kd.R_drewN | apply Kd.R_drew)); exact HO262.out)) k_ hk_.2.1), (Kd.fresh' (Kd.R_lt (by (with_reducible repeat (first | apply Kd.R_alloc | apply Kd.R_drewN | apply Kd.R_drew)); exact HO267.out)) k_ hk_.2.1), (Kd.fresh' (Kd.R_lt (by (with_reducible repeat (first | apply Kd.R_alloc | apply Kd.R_drewN | apply Kd.R_drew)); exact HO274.out)) k_ hk_.2.1), (Kd.fresh' (Kd.N_lt (by (with_reducible repeat (first | apply Kd.N_alloc | apply Kd.N_drewN | apply Kd.N_drew)); exact HO282.out)) k_ hk_.2.1), (Kd.freshB (g := gb253) (o := .cells #[.int .u8 a0_0, .slice A0_1 l0_1.length c0_1] 56 (0, 0)) (by (with_reducible repeat (first | refine blk_drewN ?_ _ | refine blk_drew ?_ | refine blk_alloc ?_ _)); exact BK253.out) k_ hk_.2.1), (Kd.freshB (g := gb254) (o := .cells #[.int .u8 a1_0, .slice A1_1 l1_1.length c1_1] 56 (0, 0)) (by (with_reducible repeat (first | refine blk_drewN ?_ _ | refine blk_drew ?_ | refine blk_alloc ?_ _)); exact BK254.out) k_ hk_.2.1), (Kd.freshB (g := gb270) (o := .cells #[.int .u8 t264, .slice Ao54 t265.length co54] 56 (0, 0)) (by (with_reducible repeat (first | refine blk_drewN ?_ _ | refine blk_drew ?_ | refine blk_alloc ?_ _)); exact BK270.out) k_ hk_.2.1), (Kd.freshB (g := gb277) (o := .cells #[.int .u8 t271, .slice Ao61 t272.length co61] 60 (0, 0)) (by (with_reducible repeat (first | refine blk_drewN ?_ _ | refine blk_drew ?_ | refine blk_alloc ?_ _)); exact BK277.out) k_ hk_.2.1)⟩)) (below_size (by repeat (first | (with_reducible first | exact HB.out | apply below_alloc | apply pw_below_drewN | apply below_drew1 | refine below_set ?_ GE253.out | refine below_set ?_ GE254.out | refine below_set ?_ GE270.out | refine below_set ?_ GE277.out) | exact HB.out)))); have n8_ := Aside0.mk (blk_below (g := gb253) (o := .cells #[.int .u8 a0_0, .slice A0_1 l0_1.length c0_1] 56 (0, 0)) (by (with_reducible repeat (first | refine blk_drewN ?_ _ | refine blk_drew ?_ | refine blk_alloc ?_ _)); exact BK253.out) hb); have n9_ := Aside0.mk (blk_below (g := gb254) (o := .cells #[.int .u8 a1_0, .slice A1_1 l1_1.length c1_1] 56 (0, 0)) (by (with_reducible repeat (first | refine blk_drewN ?_ _ | refine blk_drew ?_ | refine blk_alloc ?_ _)); exact BK254.out) hb); have n10_ := Aside0.mk (blk_below (g := gb270) (o := .cells #[.int .u8 t264, .slice Ao54 t265.length co54] 56 (0, 0)) (by (with_reducible repeat (first | refine blk_drewN ?_ _ | refine blk_drew ?_ | refine blk_alloc ?_ _)); exact BK270.out) hb); have n11_ := Aside0.mk (blk_below (g := gb277) (o := .cells #[.int .u8 t271, .slice Ao61 t272.length co61] 60 (0, 0)) (by (with_reducible repeat (first | refine blk_drewN ?_ _ | refine blk_drew ?_ | refine blk_alloc ?_ _)); exact BK277.out) hb); have n12_ := Aside0.mk (below_step (by repeat (first | (with_reducible first | exact HB.out | apply below_alloc | apply pw_below_drewN | apply below_drew1 | refine below_set ?_ GE253.out | refine below_set ?_ GE254.out | refine below_set ?_ GE270.out | refine below_set ?_ GE277.out) | exact HB.out)) hb); clear HO_254001; clear HO_255001; clear HO258; clear HO262; clear HO267; clear HO274; clear HO282; clear BK253; clear BK254; clear BK270; clear BK277; clear HB; have HO_254001 := n0_; have HO_255001 := n1_; have HO258 := n2_; have HO262 := n3_; have HO267 := n4_; have HO274 := n5_; have HO282 := n6_; have HO287 := n7_; have BK253 := n8_; have BK254 := n9_; have BK270 := n10_; have BK277 := n11_; have HB := n12_; clear n0_ n1_ n2_ n3_ n4_ n5_ n6_ n7_ n8_ n9_ n10_ n11_ n12_; (try clear hb); (try clear hb2); (try clear hk); (try clear hi); (try clear ho0); obtain ⟨Ao64, co64, eo64⟩ := Kd.R_slice HO258.out; subst eo64; obtain ⟨Ao65, co65, eo65⟩ := Kd.R_slice HO262.out; subst eo65; obtain ⟨Ao66, co66, eo66⟩ := Kd.N_slice HO282.out; subst eo66; obtain ⟨Ao67, co67, eo67⟩ := Kd.N_slice HO287.out; subst eo67))
                          have n0_ := Aside0.mk (Kd.V_drew HO_254001.out)
                          have n1_ := Aside0.mk (Kd.V_drew HO_255001.out)
                          have n2_ := Aside0.mk (Kd.R_drew HO258.out)
                          have n3_ := Aside0.mk (Kd.R_drew HO262.out)
                          have n4_ := Aside0.mk (Kd.R_drew HO267.out)
                          have n5_ := Aside0.mk (Kd.R_drew HO274.out)
                          have n6_ := Aside0.mk (Kd.N_drew HO282.out)
                          have n7_ := Aside0.mk (Kd.N_drew HO287.out)
                          have n8_ := Aside0.mk (blk_drew BK253.out)
                          have n9_ := Aside0.mk (blk_drew BK254.out)
                          have n10_ := Aside0.mk (blk_drew BK270.out)
                          have n11_ := Aside0.mk (blk_drew BK277.out)
                          have n12_ := Aside0.mk (below_drew1 HB.out)
                          clear HO_254001
                          clear HO_255001
                          clear HO258
                          clear HO262
                          clear HO267
                          clear HO274
                          clear HO282
                          clear HO287
                          clear BK253
                          clear BK254
                          clear BK270
                          clear BK277
                          clear HB
                          have HO_254001 := n0_
                          have HO_255001 := n1_
                          have HO258 := n2_
                          have HO262 := n3_
                          have HO267 := n4_
                          have HO274 := n5_
                          have HO282 := n6_
                          have HO287 := n7_
                          have BK253 := n8_
                          have BK254 := n9_
                          have BK270 := n10_
                          have BK277 := n11_
                          have HB := n12_
                          clear n0_ n1_ n2_ n3_ n4_ n5_ n6_ n7_ n8_ n9_ n10_ n11_ n12_
                          rename_i hK_
                          refine D.region11 (c := { kj := kj5, g270 := gb270, g277 := gb277, g253 := gb253, g254 := gb254, co64 := co64, co65 := co65, co54 := co54, co61 := co61, co66 := co66, co67 := co67, c0 := c0_1, c1 := c1_1, Ao64 := Ao64, Ao65 := Ao65, Ao54 := Ao54, Ao61 := Ao61, Ao66 := Ao66, Ao67 := Ao67, A0 := A0_1, A1 := A1_1, t256 := t256, t260 := t260, t265 := t265, t272 := t272, l0 := l0_1, l1 := l1_1, t259 := t259, t263 := t263, t264 := t264, t268 := t268, t269 := t269, t271 := t271, t275 := t275, t276 := t276, t279 := t279, t280 := t280, t284 := t284, t285 := t285, a0 := a0_0, a1 := a1_0, t278 := t278, t283 := t283, t292 := t292, t299 := t299, t307 := t307, t313 := t313, t303 := t303, t316 := t316 }) (w := w63) rfl ?hOk ?hQ
                          case hOk =>
                            exact { b3 := rfl, b4 := rfl, b7 := rfl, b8 := rfl, b9 := rfl, b10 := rfl, b11 := rfl, b12 := rfl, b13 := rfl, b14 := rfl, b15 := rfl, b16 := rfl, b17 := rfl, b18 := rfl, b19 := rfl, b20 := rfl, b21 := rfl, b22 := rfl, g270 := BK270.out, g277 := BK277.out, g253 := BK253.out, g254 := BK254.out, vp := Kd.V_mono (Kd.R_V (base' := 0) HO258.out) (fun _ _ => trivial), vq := Kd.V_mono (Kd.R_V (base' := 0) HO262.out) (fun _ _ => trivial), vu := Kd.V_mono (Kd.R_V (base' := 0) HO267.out) (fun _ _ => trivial), vv := Kd.V_mono (Kd.R_V (base' := 0) HO274.out) (fun _ _ => trivial), vx := Kd.V_mono (Kd.V_lower HO_254001.out (Nat.zero_le _)) (fun _ _ => trivial), vy := Kd.V_mono (Kd.V_lower HO_255001.out (Nat.zero_le _)) (fun _ _ => trivial), vl := Kd.V_mono (Kd.N_V (base' := 0) HO282.out) (fun _ _ => trivial), vk := Kd.V_mono (Kd.N_V (base' := 0) HO287.out) (fun _ _ => trivial), A27 := A27.out, A30 := by rw [← Ny289.out]; exact A30.out, A31 := by rw [← Ny295.out]; exact A31.out, A35 := A35.out, A36 := A36.out, A40 := A40.out, A41 := by rw [← Ny304.out]; exact A41.out, A42 := by rw [← Ny310.out]; exact A42.out, A43 := A43.out, e6 := eq_of_beq c29b0, e19 := eq_of_beq c33b0, e24 := eq_of_beq c34b0, e35 := eq_of_beq c38b0, e40 := eq_of_beq c39b0, e53 := eq_of_beq hr_ }
                          case hQ =>
                            rintro ⟨ts_, ds_⟩ w' hd_ h6_ hb_
                            refine hK_ _ _ (wp_ret ?_)
                            have hd1_ : ds_ = [] := hd_
                            subst hd1_
                            refine bodyPost_ret (results_tmp (t := 6) rfl _ _ _) rfl ⟨?_, below_step HB.out hb_⟩
                            rw [hr_]
                            have h7_ : ts_.getD 6 undef = .bool true := by rw [Array.getD_eq_getD_getElem?, show ts_[6]? = _ from h6_]; rfl
                            rw [h7_]
                        · rw [if_neg c39] at H
                          have c39b0 : (t280 == t285) = false := beq_eq_false_iff_ne.mpr c39
                          have c39b1 : (t280 != t285) = true := bne_iff_ne.mpr c39
                          exact absurd (hr_.symm.trans (Option.some.inj H).symm) (by decide)
                      · rw [if_neg c38] at H
                        have c38b0 : (t279 == t284) = false := beq_eq_false_iff_ne.mpr c38
                        have c38b1 : (t279 != t284) = true := bne_iff_ne.mpr c38
                        exact absurd (hr_.symm.trans (Option.some.inj H).symm) (by decide)
                    · replace c37 := Bool.eq_false_iff.mpr c37
                      subst c37
                      have H1 : (some false) = some r := by rw [if_neg (show ¬ (false = true) by decide)] at H; exact H
                      clear H
                      have H := H1
                      clear H1
                      exact absurd (hr_.symm.trans (Option.some.inj H).symm) (by decide)
                  · rw [if_neg c34] at H
                    have c34b0 : (t269 == t276) = false := beq_eq_false_iff_ne.mpr c34
                    have c34b1 : (t269 != t276) = true := bne_iff_ne.mpr c34
                    exact absurd (hr_.symm.trans (Option.some.inj H).symm) (by decide)
                · rw [if_neg c33] at H
                  have c33b0 : (t268 == t275) = false := beq_eq_false_iff_ne.mpr c33
                  have c33b1 : (t268 != t275) = true := bne_iff_ne.mpr c33
                  exact absurd (hr_.symm.trans (Option.some.inj H).symm) (by decide)
              · replace c32 := Bool.eq_false_iff.mpr c32
                subst c32
                have H1 : (some false) = some r := by rw [if_neg (show ¬ (false = true) by decide)] at H; exact H
                clear H
                have H := H1
                clear H1
                exact absurd (hr_.symm.trans (Option.some.inj H).symm) (by decide)
            · rw [if_neg c29] at H
              have c29b0 : (t259 == t263) = false := beq_eq_false_iff_ne.mpr c29
              have c29b1 : (t259 != t263) = true := bne_iff_ne.mpr c29
              exact absurd (hr_.symm.trans (Option.some.inj H).symm) (by decide)
          · replace c28 := Bool.eq_false_iff.mpr c28
            subst c28
            have H1 : (some false) = some r := by rw [if_neg (show ¬ (false = true) by decide)] at H; exact H
            clear H
            have H := H1
            clear H1
            exact absurd (hr_.symm.trans (Option.some.inj H).symm) (by decide)
  · replace c5 := Bool.eq_false_iff.mpr c5
    subst c5
    have H1 : (some false) = some r := by rw [if_neg (show ¬ (false = true) by decide)] at H; exact H
    clear H
    have H := H1
    clear H1
    exact absurd (hr_.symm.trans (Option.some.inj H).symm) (by decide)
end Go.Proofs.Ytojepleodijdeaa.B
namespace Go.Proofs.Ytojepleodijdeaa.VP
set_option linter.unusedVariables false
set_option linter.unusedSimpArgs false
open Go.RowKit Go.Proofs.Ytojepleodijdeaa.B Go.Proofs.YtojepleodijdeaaW.PrintWords Go.Proofs.YtojepleodijdeaaW.PrintLast Go.Proofs.YtojepleodijdeaaW.PrintMore
open Go.Proofs.Ytojepleodijdeaa.Crc (steps feed word feed_word feed_append feed_xor burst steps_xor steps_eq_zero)
theorem cutL_false {q : List Int} (h : (cutL q).2 = false) : cutL q = ([], false) := by
  unfold cutL at h ⊢
  split
  · rfl
  · rename_i h4
    rw [if_neg h4] at h
    split
    · rename_i he; rw [if_pos he] at h; cases h
    · rfl
end Go.Proofs.Ytojepleodijdeaa.VP
namespace Go.Proofs.Ytojepleodijdeaa.VP
set_option linter.unusedVariables false
set_option linter.unusedSimpArgs false
open Go.RowKit Go.Proofs.Ytojepleodijdeaa.B Go.Proofs.YtojepleodijdeaaW.PrintWords Go.Proofs.YtojepleodijdeaaW.PrintLast Go.Proofs.YtojepleodijdeaaW.PrintMore
/-- the number of two bytes -/
def two (h : List Int) : Int := h.getD 1 0 + 256 * h.getD 2 0
/-- the frame that bytes begin with -/
def fread (l : List Int) : Int × List Int × Int × Int :=
  if l.length < 7 then (0, [], 0, 3)
  else if (cutL (l.take 7)).2 = false then (0, [], 0, 8)
  else if two (cutL (l.take 7)).1 > 400 then (0, [], 0, 2)
  else if (l.length : Int) < 11 + two (cutL (l.take 7)).1 then (0, [], 0, 3)
  else if (cutL ((l.take (11 + two (cutL (l.take 7)).1).toNat).drop 7)).2 = false then (0, [], 0, 8)
  else ((cutL (l.take 7)).1.getD 0 0, (cutL ((l.take (11 + two (cutL (l.take 7)).1).toNat).drop 7)).1, 11 + two (cutL (l.take 7)).1, 0)
theorem cutL_true {l : List Int} (h : (cutL l).2 = true) : cutL l = (l.take (l.length - 4), true) ∧ 4 ≤ l.length := by
  unfold cutL at *
  split at h <;> rename_i h4
  · cases h
  rw [if_neg h4]
  split at h <;> rename_i h5
  · rw [if_pos h5]; exact ⟨rfl, by omega⟩
  · cases h
theorem cutL_isB {l : List Int} (hb : isB l) : isB (cutL l).1 := by
  cases h : (cutL l).2
  · rw [cutL_false h]; intro x hx; cases hx
  · rw [(cutL_true h).1]; exact isB_take hb _
theorem getD_isB {l : List Int} (hb : isB l) (i : Nat) : 0 ≤ l.getD i 0 ∧ l.getD i 0 ≤ 255 := by
  by_cases h : i < l.length
  · have : l.getD i 0 = l[i] := by simp [h]
    rw [this]; exact hb _ (List.getElem_mem h)
  · have : l.getD i 0 = 0 := by simp [List.getD_eq_getElem?_getD, List.getElem?_eq_none (by omega : l.length ≤ i)]
    rw [this]; omega
theorem or_two {a b : Int} (ha : 0 ≤ a ∧ a ≤ 255) (hb : 0 ≤ b ∧ b ≤ 255) : bits .or .i64 a (b * 256) = a + 256 * b := by
  have hc : bits .or .i64 a (b * 256) = bits .or .i64 (b * 256) a := by simp only [bits]; rw [BitVec.or_comm]
  have hw : ∀ n : Int, 0 ≤ n → n < 2 ^ 63 → IntKind.i64.wrap n = n := fun n h0 h1 => by
    rw [IntKind.wrap_i64]; omega
  rw [hc, bits_join .i64 63 (by decide) hw 8 _ a (by omega) (by omega) (by omega) (by omega) (by omega) (by omega)]
  omega
theorem read_ev {l : List Int} (hb : isB l) (hl : l.length ≤ 1000000000) : Ev (fun k => frame_Read.f k l) (fread l) := by
  obtain ⟨K1, h1⟩ := cut_ev (isB_take hb 7) (by rw [List.length_take]; omega)
  dsimp only at h1
  have hn1 := getD_isB (cutL_isB (isB_take hb 7)) 1
  have hn2 := getD_isB (cutL_isB (isB_take hb 7)) 2
  obtain ⟨K2, h2⟩ := cut_ev (isB_drop (isB_take hb (11 + two (cutL (l.take 7)).1).toNat) 7) (by rw [List.length_drop, List.length_take]; omega)
  dsimp only at h2
  refine ⟨K1 + K2, fun k hk => ?_⟩
  unfold fread
  simp only [frame_Read.f]
  by_cases h7 : l.length < 7
  · rw [if_pos (by omega), if_pos h7]
  rw [if_neg (by omega), if_neg h7, if_pos (by omega), h1 k (by omega)]
  simp only [Option.bind_some]
  by_cases hc : (cutL (l.take 7)).2 = false
  · rw [if_pos hc, if_neg (by rw [hc]; decide)]
  have hc' : (cutL (l.take 7)).2 = true := by simpa using hc
  rw [if_neg hc, if_pos hc']
  have h3 : (cutL (l.take 7)).1.length = 3 := by rw [(cutL_true hc').1]; simp; omega
  rw [if_pos (by omega), if_pos (by omega)]
  have hr : ∀ i : Nat, rd (cutL (l.take 7)).1 (i : Int) = (cutL (l.take 7)).1.getD i 0 := fun i => rfl
  have e1 : rd (cutL (l.take 7)).1 1 = (cutL (l.take 7)).1.getD 1 0 := hr 1
  have e2 : rd (cutL (l.take 7)).1 2 = (cutL (l.take 7)).1.getD 2 0 := hr 2
  have w1 : ∀ x : Int, 0 ≤ x ∧ x ≤ 1000000000 → wrap64 x = x := fun x hx => by unfold wrap64; omega
  rw [e1, e2, w1 _ (by omega), w1 ((cutL (l.take 7)).1.getD 2 0) (by omega), w1 _ (by omega), or_two hn1 hn2]
  change (if two (cutL (l.take 7)).1 > 400 then _ else _) = _
  have ht : 0 ≤ two (cutL (l.take 7)).1 := by unfold two; omega
  by_cases h400 : two (cutL (l.take 7)).1 > 400
  · rw [if_pos h400, if_pos h400]
  rw [if_neg h400, if_neg h400]
  have e3 : (cutL (l.take 7)).1.getD 1 0 + 256 * (cutL (l.take 7)).1.getD 2 0 = two (cutL (l.take 7)).1 := rfl
  rw [e3, w1 (7 + _) (by omega), w1 _ (by omega), show 7 + two (cutL (l.take 7)).1 + 4 = 11 + two (cutL (l.take 7)).1 by omega]
  by_cases hs : (l.length : Int) < 11 + two (cutL (l.take 7)).1
  · rw [if_pos hs, if_pos hs]
  rw [if_neg hs, if_neg hs, if_pos (by omega), if_pos (by omega), h2 k (by omega)]
  simp only [Option.bind_some]
  by_cases hd : (cutL ((l.take (11 + two (cutL (l.take 7)).1).toNat).drop 7)).2 = false
  · rw [if_pos hd, if_neg (by rw [hd]; decide)]
  · rw [if_neg hd, if_pos (by simpa using hd), if_pos (by omega)]
    rfl
end Go.Proofs.Ytojepleodijdeaa.VP
namespace Go.Proofs.Ytojepleodijdeaa.VP
set_option linter.unusedVariables false
set_option linter.unusedSimpArgs false
open Go.RowKit Go.Proofs.Ytojepleodijdeaa.B Go.Proofs.YtojepleodijdeaaW.PrintWords Go.Proofs.YtojepleodijdeaaW.PrintLast Go.Proofs.YtojepleodijdeaaW.PrintMore
theorem map_u8_inj : ∀ {l m : List Int}, isB l → isB m → l.map (fun n => UInt8.ofNat n.toNat) = m.map (fun n => UInt8.ofNat n.toNat) → l = m
  | [], [], _, _, _ => rfl
  | [], _ :: _, _, _, h => by simp at h
  | _ :: _, [], _, _, h => by simp at h
  | x :: l, y :: m, hl, hm, h => by
    simp only [List.map_cons, List.cons.injEq] at h
    have hx := hl x (List.mem_cons_self ..)
    have hy := hm y (List.mem_cons_self ..)
    have e := congrArg UInt8.toNat h.1
    simp only [UInt8.toNat_ofNat'] at e
    rw [map_u8_inj (fun z hz => hl z (List.mem_cons_of_mem _ hz)) (fun z hz => hm z (List.mem_cons_of_mem _ hz)) h.2]
    congr 1
    omega
theorem bytesEqual_f {l m : List Int} (hl : isB l) (hm : isB m) : bytes_Equal.f l m = some (decide (l = m)) := by
  unfold bytes_Equal.f
  rw [ByteArray.toList_eq, ByteArray.toList_eq, strOfNums_data, strOfNums_data]
  by_cases h : l = m
  · subst h; simp
  · rw [decide_eq_false h]
    congr 1
    rw [beq_eq_false_iff_ne]
    exact fun e => h (map_u8_inj hl hm e)
theorem fsame_f {a b : Int} {l m : List Int} (hl : isB l) (hm : isB m) : frame_Same.f a l b m = some (decide (a = b ∧ l = m)) := by
  unfold frame_Same.f
  rw [bytesEqual_f hl hm]
  by_cases h : a = b
  · rw [if_pos h]; simp [h]
  · rw [if_neg h]; simp [h]
theorem fread_used {l : List Int} (hb : isB l) (h : (fread l).2.2.2 = 0) : 11 ≤ (fread l).2.2.1 ∧ (fread l).2.2.1 ≤ l.length ∧ (fread l).2.1.length + 11 = (fread l).2.2.1 ∧ (fread l).2.1.length ≤ 400 ∧ isB (fread l).2.1 := by
  have hn1 := getD_isB (cutL_isB (isB_take hb 7)) 1
  have hn2 := getD_isB (cutL_isB (isB_take hb 7)) 2
  have ht : 0 ≤ two (cutL (l.take 7)).1 := by unfold two; omega
  have hbb := cutL_isB (isB_drop (isB_take hb (11 + two (cutL (l.take 7)).1).toNat) 7)
  unfold fread at *
  split at h
  · simp at h
  split at h
  · simp at h
  split at h
  · simp at h
  split at h
  · simp at h
  split at h
  · simp at h
  rename_i h1 h2 h3 h4 h5
  rw [if_neg h1, if_neg h2, if_neg h3, if_neg h4, if_neg h5]
  have hc := (cutL_true (by simpa using h5)).1
  have hl : (cutL ((l.take (11 + two (cutL (l.take 7)).1).toNat).drop 7)).1.length + 11 = 11 + two (cutL (l.take 7)).1 := by
    rw [hc]
    simp only [List.length_take, List.length_drop]
    omega
  dsimp only
  exact ⟨by omega, by omega, hl, by omega, hbb⟩
theorem fread_bad {l : List Int} (h : (fread l).2.2.2 ≠ 0) : (fread l).2.1 = [] ∧ (fread l).2.2.1 = 0 := by
  unfold fread at *
  split
  · exact ⟨rfl, rfl⟩
  split
  · exact ⟨rfl, rfl⟩
  split
  · exact ⟨rfl, rfl⟩
  split
  · exact ⟨rfl, rfl⟩
  split
  · exact ⟨rfl, rfl⟩
  rename_i h1 h2 h3 h4 h5
  rw [if_neg h1, if_neg h2, if_neg h3, if_neg h4, if_neg h5] at h
  simp at h
/-- all frames of bytes -/
def gall : Nat → List Int → List S56 × Nat × Int
  | 0, _ => ([], 0, 0)
  | d + 1, l =>
    if l = [] then ([], 0, 0)
    else if (fread l).2.2.2 = 0 then (⟨(fread l).1, (fread l).2.1⟩ :: (gall d (l.drop (fread l).2.2.1.toNat)).1, (fread l).2.2.1.toNat + (gall d (l.drop (fread l).2.2.1.toNat)).2.1, (gall d (l.drop (fread l).2.2.1.toNat)).2.2)
    else ([], 0, (fread l).2.2.2)
theorem gall_at : ∀ (d : Nat) (l : List Int), l.length ≤ d → isB l → (gall d l).2.1 ≤ l.length ∧ 11 * (gall d l).1.length ≤ (gall d l).2.1 ∧ ((gall d l).2.2 = 0 ↔ (gall d l).2.1 = l.length) := by
  intro d
  induction d with
  | zero => intro l hd hb; simp [gall]; omega
  | succ d ih =>
    intro l hd hb
    rw [gall]
    by_cases he : l = []
    · subst he; simp
    rw [if_neg he]
    have hpos : 0 < l.length := List.length_pos_iff.2 he
    by_cases h0 : (fread l).2.2.2 = 0
    · have hu := fread_used hb h0
      have := ih (l.drop (fread l).2.2.1.toNat) (by rw [List.length_drop]; omega) (isB_drop hb _)
      rw [List.length_drop] at this
      rw [if_pos h0]
      simp only [List.length_cons]
      omega
    · rw [if_neg h0]
      simp only [List.length_nil]
      omega
theorem fall_loop (b : List Int) (hb : isB b) (hl : b.length ≤ 1000000000) : ∀ (d i : Nat) (out : List S56), b.length - i ≤ d → i ≤ b.length → out.length ≤ i →
    Ev (fun k => frame_All.l0 k b out (i : Int)) (out ++ (gall d (b.drop i)).1, ((i + (gall d (b.drop i)).2.1 : Nat) : Int), (gall d (b.drop i)).2.2) := by
  intro d
  induction d with
  | zero =>
    intro i out hd hi ho
    refine Ev.step (f := fun _ => some (out, (i : Int), 0)) (fun k => ?_) ?_
    · simp only [frame_All.l0]; rw [if_neg (by omega)]
    · simp only [gall, List.append_nil, Nat.add_zero]; exact Ev.now _
  | succ d ih =>
    intro i out hd hi ho
    rw [gall]
    by_cases he : b.drop i = []
    · have : b.length - i = 0 := by rw [← List.length_drop, he]; rfl
      rw [if_pos he]
      refine Ev.step (f := fun _ => some (out, (i : Int), 0)) (fun k => ?_) ?_
      · simp only [frame_All.l0]; rw [if_neg (by omega)]
      · simp only [List.append_nil, Nat.add_zero]; exact Ev.now _
    · rw [if_neg he]
      have hpos : 0 < (b.drop i).length := List.length_pos_iff.2 he
      rw [List.length_drop] at hpos
      have hbd := isB_drop hb i
      refine Ev.step (f := fun k => (frame_Read.f k (b.drop i)).bind fun bt => (if bt.2.2.2 = 0 then (if out.length < 4398046511104 then (frame_All.l0 k b (out ++ [(⟨bt.1, bt.2.1⟩ : S56)]) (wrap64 ((i : Int) + bt.2.2.1))) else (none)) else (some (out, (i : Int), bt.2.2.2)))) (fun k => ?_) ?_
      · simp only [frame_All.l0]
        rw [if_pos (by omega), if_pos (by omega), if_pos (by omega)]
        simp only [Int.toNat_natCast]
      · refine Ev.bind (f := fun k bt => (if bt.2.2.2 = 0 then (if out.length < 4398046511104 then (frame_All.l0 k b (out ++ [(⟨bt.1, bt.2.1⟩ : S56)]) (wrap64 ((i : Int) + bt.2.2.1))) else (none)) else (some (out, (i : Int), bt.2.2.2)))) (read_ev hbd (by rw [List.length_drop]; omega)) ?_
        by_cases h0 : (fread (b.drop i)).2.2.2 = 0
        · have hu := fread_used hbd h0
          rw [List.length_drop] at hu
          rw [if_pos h0]
          have hw : wrap64 ((i : Int) + (fread (b.drop i)).2.2.1) = ((i + (fread (b.drop i)).2.2.1.toNat : Nat) : Int) := by unfold wrap64; omega
          have hq := ih (i + (fread (b.drop i)).2.2.1.toNat) (out ++ [⟨(fread (b.drop i)).1, (fread (b.drop i)).2.1⟩]) (by omega) (by omega) (by rw [List.length_append, List.length_singleton]; omega)
          rw [List.drop_drop]
          refine Ev.congr (f := fun k => frame_All.l0 k b (out ++ [⟨(fread (b.drop i)).1, (fread (b.drop i)).2.1⟩]) ((i + (fread (b.drop i)).2.2.1.toNat : Nat) : Int)) (fun k => ?_) ?_
          · rw [if_pos h0, if_pos (by omega), hw]
          · simpa only [List.append_assoc, List.singleton_append, Nat.add_assoc] using hq
        · rw [if_neg h0]
          refine Ev.congr (f := fun _ => some (out, (i : Int), (fread (b.drop i)).2.2.2)) (fun k => ?_) ?_
          · rw [if_neg h0]
          · simp only [List.append_nil, Nat.add_zero]; exact Ev.now _
theorem fall_ev (b : List Int) (hb : isB b) (hl : b.length ≤ 1000000000) : Ev (fun k => frame_All.f k b) ((gall b.length b).1, ((gall b.length b).2.1 : Int), (gall b.length b).2.2) := by
  have := fall_loop b hb hl b.length 0 [] (by omega) (by omega) (by simp)
  simpa [frame_All.f] using this
end Go.Proofs.Ytojepleodijdeaa.VP
namespace Go.Proofs.Ytojepleodijdeaa.VP
set_option linter.unusedVariables false
set_option linter.unusedSimpArgs false
open Go.RowKit Go.Proofs.Ytojepleodijdeaa.B Go.Proofs.YtojepleodijdeaaW.PrintWords Go.Proofs.YtojepleodijdeaaW.PrintLast Go.Proofs.YtojepleodijdeaaW.PrintMore
/-- a frame's head -/
def fhead (a : Int) (n : Nat) : List Int := [a, (n : Int) % 256, (n : Int) / 256]
/-- a frame's bytes -/
def fb (a : Int) (body : List Int) : List Int := putL (fhead a body.length) ++ putL body
theorem and255 {a : Int} (h0 : 0 ≤ a) (h1 : a ≤ 1000000000) : bits .and .i64 a 255 = a % 256 := by
  have hw : ∀ n : Int, 0 ≤ n → n < 2 ^ 63 → IntKind.i64.wrap n = n := fun n h0 h1 => by rw [IntKind.wrap_i64]; omega
  exact bits_mask .i64 63 (by decide) hw 8 (by decide) a h0 (by omega)
theorem low_f {a : Int} (h0 : 0 ≤ a) (h1 : a ≤ 1000000000) : frame_low_int.f a = some (a % 256, a / 256) := by
  unfold frame_low_int.f
  rw [and255 h0 h1]
  congr 2
  omega
theorem fhead_isB {a : Int} (ha : 0 ≤ a ∧ a ≤ 255) {n : Nat} (hn : n ≤ 400) : isB (fhead a n) := by
  intro x hx
  simp only [fhead, List.mem_cons, List.not_mem_nil, or_false] at hx
  omega
theorem fb_len (a : Int) (body : List Int) : (fb a body).length = body.length + 11 := by
  unfold fb
  rw [List.length_append, putL_len, putL_len]
  simp [fhead]
  omega
theorem fbytes_f {a : Int} (ha : 0 ≤ a ∧ a ≤ 255) {body : List Int} (hb : isB body) (hn : body.length ≤ 400) : frame_Bytes.f a body = some (fb a body, 0) := by
  have hh := fhead_isB ha hn
  unfold frame_Bytes.f
  rw [if_neg (by omega), low_f (by omega) (by omega)]
  simp only [Option.bind_some]
  rw [low_f (by omega) (by omega)]
  simp only [Option.bind_some]
  have e : ([a, (body.length : Int) % 256, (body.length : Int) / 256 % 256] : List Int) = fhead a body.length := by
    unfold fhead
    rw [show (body.length : Int) / 256 % 256 = (body.length : Int) / 256 by omega]
  rw [e, put_f hh (by simp [fhead]), Option.bind_some, put_f hb (by omega), Option.bind_some, if_pos (by rw [putL_len, putL_len]; simp [fhead]; omega)]
  rfl
theorem fbytes_big {a : Int} {body : List Int} (hn : 400 < body.length) : frame_Bytes.f a body = some ([], 4) := by
  unfold frame_Bytes.f
  rw [if_pos (by omega)]
end Go.Proofs.Ytojepleodijdeaa.VP
namespace Go.Proofs.Ytojepleodijdeaa.VP
set_option linter.unusedVariables false
set_option linter.unusedSimpArgs false
open Go.RowKit Go.Proofs.Ytojepleodijdeaa.B Go.Proofs.YtojepleodijdeaaW.PrintWords Go.Proofs.YtojepleodijdeaaW.PrintLast Go.Proofs.YtojepleodijdeaaW.PrintMore
theorem rread4_ev {l : List Int} (hb : isB l) (hl : l.length ≤ 1000000000) : Ev (fun k => tumbrelref04_Read.f k l) (fread l) := by
  obtain ⟨K1, h1⟩ := rcut_ev (isB_take hb 7) (by rw [List.length_take]; omega)
  dsimp only at h1
  have hn1 := getD_isB (cutL_isB (isB_take hb 7)) 1
  have hn2 := getD_isB (cutL_isB (isB_take hb 7)) 2
  obtain ⟨K2, h2⟩ := rcut_ev (isB_drop (isB_take hb (11 + two (cutL (l.take 7)).1).toNat) 7) (by rw [List.length_drop, List.length_take]; omega)
  dsimp only at h2
  refine ⟨K1 + K2, fun k hk => ?_⟩
  unfold fread
  simp only [tumbrelref04_Read.f]
  by_cases h7 : l.length < 7
  · rw [if_pos (by omega), if_pos h7]
  rw [if_neg (by omega), if_neg h7, if_pos (by omega), h1 k (by omega)]
  simp only [Option.bind_some]
  by_cases hc : (cutL (l.take 7)).2 = false
  · rw [if_pos hc, if_neg (by rw [hc]; decide)]
  have hc' : (cutL (l.take 7)).2 = true := by simpa using hc
  rw [if_neg hc, if_pos hc']
  have h3 : (cutL (l.take 7)).1.length = 3 := by rw [(cutL_true hc').1]; simp; omega
  rw [if_pos (by omega), if_pos (by omega)]
  have hr : ∀ i : Nat, rd (cutL (l.take 7)).1 (i : Int) = (cutL (l.take 7)).1.getD i 0 := fun i => rfl
  have e1 : rd (cutL (l.take 7)).1 1 = (cutL (l.take 7)).1.getD 1 0 := hr 1
  have e2 : rd (cutL (l.take 7)).1 2 = (cutL (l.take 7)).1.getD 2 0 := hr 2
  have w1 : ∀ x : Int, 0 ≤ x ∧ x ≤ 1000000000 → wrap64 x = x := fun x hx => by unfold wrap64; omega
  have e3 : (cutL (l.take 7)).1.getD 1 0 + 256 * (cutL (l.take 7)).1.getD 2 0 = two (cutL (l.take 7)).1 := rfl
  have ht : 0 ≤ two (cutL (l.take 7)).1 ∧ two (cutL (l.take 7)).1 ≤ 100000 := by unfold two; omega
  rw [e1, e2, w1 ((cutL (l.take 7)).1.getD 1 0) (by omega), w1 ((cutL (l.take 7)).1.getD 2 0) (by omega), w1 (256 * _) (by omega), e3, w1 (two _) (by omega)]
  by_cases h400 : two (cutL (l.take 7)).1 > 400
  · rw [if_pos h400, if_pos h400]
  rw [if_neg h400, if_neg h400, w1 (_ + 11) (by omega), show two (cutL (l.take 7)).1 + 11 = 11 + two (cutL (l.take 7)).1 by omega]
  by_cases hs : (l.length : Int) < 11 + two (cutL (l.take 7)).1
  · rw [if_pos hs, if_pos hs]
  rw [if_neg hs, if_neg hs, if_pos (by omega), if_pos (by omega), h2 k (by omega)]
  simp only [Option.bind_some]
  by_cases hd : (cutL ((l.take (11 + two (cutL (l.take 7)).1).toNat).drop 7)).2 = false
  · rw [if_pos hd, if_neg (by rw [hd]; decide)]
  · rw [if_neg hd, if_pos (by simpa using hd), if_pos (by omega)]
    rfl
def to60 (f : S56) : S60 := ⟨f.f0, f.f1⟩
theorem rfall_loop (b : List Int) (hb : isB b) (hl : b.length ≤ 1000000000) : ∀ (d i : Nat) (out : List S60), b.length - i ≤ d → i ≤ b.length → out.length ≤ i →
    Ev (fun k => tumbrelref04_All.l0 k b out (i : Int)) (out ++ (gall d (b.drop i)).1.map to60, ((i + (gall d (b.drop i)).2.1 : Nat) : Int), (gall d (b.drop i)).2.2) := by
  intro d
  induction d with
  | zero =>
    intro i out hd hi ho
    refine Ev.step (f := fun _ => some (out, (i : Int), 0)) (fun k => ?_) ?_
    · simp only [tumbrelref04_All.l0]; rw [if_neg (by omega)]
    · simp only [gall, List.map_nil, List.append_nil, Nat.add_zero]; exact Ev.now _
  | succ d ih =>
    intro i out hd hi ho
    rw [gall]
    by_cases he : b.drop i = []
    · have : b.length - i = 0 := by rw [← List.length_drop, he]; rfl
      rw [if_pos he]
      refine Ev.step (f := fun _ => some (out, (i : Int), 0)) (fun k => ?_) ?_
      · simp only [tumbrelref04_All.l0]; rw [if_neg (by omega)]
      · simp only [List.map_nil, List.append_nil, Nat.add_zero]; exact Ev.now _
    · rw [if_neg he]
      have hpos : 0 < (b.drop i).length := List.length_pos_iff.2 he
      rw [List.length_drop] at hpos
      have hbd := isB_drop hb i
      refine Ev.step (f := fun k => (tumbrelref04_Read.f k (b.drop i)).bind fun bt => (if bt.2.2.2 = 0 then (if out.length < 4398046511104 then (tumbrelref04_All.l0 k b (out ++ [(⟨bt.1, bt.2.1⟩ : S60)]) (wrap64 ((i : Int) + bt.2.2.1))) else (none)) else (some (out, (i : Int), bt.2.2.2)))) (fun k => ?_) ?_
      · simp only [tumbrelref04_All.l0]
        rw [if_pos (by omega), if_pos (by omega), if_pos (by omega)]
        simp only [Int.toNat_natCast]
      · refine Ev.bind (f := fun k bt => (if bt.2.2.2 = 0 then (if out.length < 4398046511104 then (tumbrelref04_All.l0 k b (out ++ [(⟨bt.1, bt.2.1⟩ : S60)]) (wrap64 ((i : Int) + bt.2.2.1))) else (none)) else (some (out, (i : Int), bt.2.2.2)))) (rread4_ev hbd (by rw [List.length_drop]; omega)) ?_
        by_cases h0 : (fread (b.drop i)).2.2.2 = 0
        · have hu := fread_used hbd h0
          rw [List.length_drop] at hu
          rw [if_pos h0]
          have hw : wrap64 ((i : Int) + (fread (b.drop i)).2.2.1) = ((i + (fread (b.drop i)).2.2.1.toNat : Nat) : Int) := by unfold wrap64; omega
          have hq := ih (i + (fread (b.drop i)).2.2.1.toNat) (out ++ [⟨(fread (b.drop i)).1, (fread (b.drop i)).2.1⟩]) (by omega) (by omega) (by rw [List.length_append, List.length_singleton]; omega)
          rw [List.drop_drop]
          refine Ev.congr (f := fun k => tumbrelref04_All.l0 k b (out ++ [⟨(fread (b.drop i)).1, (fread (b.drop i)).2.1⟩]) ((i + (fread (b.drop i)).2.2.1.toNat : Nat) : Int)) (fun k => ?_) ?_
          · rw [if_pos h0, if_pos (by omega), hw]
          · simpa only [List.append_assoc, List.singleton_append, Nat.add_assoc, List.map_cons, to60] using hq
        · rw [if_neg h0]
          refine Ev.congr (f := fun _ => some (out, (i : Int), (fread (b.drop i)).2.2.2)) (fun k => ?_) ?_
          · rw [if_neg h0]
          · simp only [List.map_nil, List.append_nil, Nat.add_zero]; exact Ev.now _
theorem rfall_ev (b : List Int) (hb : isB b) (hl : b.length ≤ 1000000000) : Ev (fun k => tumbrelref04_All.f k b) ((gall b.length b).1.map to60, ((gall b.length b).2.1 : Int), (gall b.length b).2.2) := by
  have := rfall_loop b hb hl b.length 0 [] (by omega) (by omega) (by simp)
  simpa [tumbrelref04_All.f] using this
end Go.Proofs.Ytojepleodijdeaa.VP
namespace Go.Proofs.Ytojepleodijdeaa.VP
set_option linter.unusedVariables false
set_option linter.unusedSimpArgs false
open Go.RowKit Go.Proofs.Ytojepleodijdeaa.B Go.Proofs.YtojepleodijdeaaW.PrintWords Go.Proofs.YtojepleodijdeaaW.PrintLast Go.Proofs.YtojepleodijdeaaW.PrintMore
theorem rbytes4_ev {a : Int} (ha : 0 ≤ a ∧ a ≤ 255) {body : List Int} (hb : isB body) (hn : body.length ≤ 1000000) : Ev (fun k => tumbrelref04_Bytes.f k a body) (if body.length ≤ 400 then (fb a body, 0) else ([], 4)) := by
  by_cases h : body.length ≤ 400
  · rw [if_pos h]
    have hh := fhead_isB ha h
    have e : ([a, (body.length : Int) % 256, (wrap64 ((body.length : Int) / 256)) % 256] : List Int) = fhead a body.length := by
      unfold fhead
      rw [show (wrap64 ((body.length : Int) / 256)) % 256 = (body.length : Int) / 256 by unfold wrap64; omega]
    refine Ev.congr (f := fun k => (tumbrelref01_Put.f k (fhead a body.length)).bind fun t459 => ((tumbrelref01_Put.f k body).bind fun t462 => (if t459.length + t462.length < 140737488355328 then (some ((t459 ++ t462), (0 : Int))) else (none)))) (fun k => ?_) ?_
    · simp only [tumbrelref04_Bytes.f]
      rw [if_neg (by omega), e]
    · refine Ev.bind (f := fun k t459 => ((tumbrelref01_Put.f k body).bind fun t462 => (if t459.length + t462.length < 140737488355328 then (some ((t459 ++ t462), (0 : Int))) else (none)))) (rput_ev1 hh (by simp [fhead])) ?_
      refine Ev.bind (f := fun k t462 => (if (putL (fhead a body.length)).length + t462.length < 140737488355328 then (some ((putL (fhead a body.length) ++ t462), (0 : Int))) else (none))) (rput_ev1 hb (by omega)) ?_
      refine Ev.congr (f := fun _ => some (fb a body, (0 : Int))) (fun k => ?_) (Ev.now _)
      rw [if_pos (by rw [putL_len, putL_len]; simp [fhead]; omega)]
      rfl
  · rw [if_neg h]
    refine Ev.congr (f := fun _ => some (([] : List Int), (4 : Int))) (fun k => ?_) (Ev.now _)
    simp only [tumbrelref04_Bytes.f]
    rw [if_pos (by omega)]
theorem rd56_at' {l : List S56} {i : Nat} (h : i < l.length) : rd_T56 l (i : Int) = l[i] := by
  unfold rd_T56; simp [h]
theorem rd60_at' {l : List S60} {i : Nat} (h : i < l.length) : rd_T60 l (i : Int) = l[i] := by
  unfold rd_T60; simp [h]
theorem own4_loop (l : List S56) (hl : l.length ≤ 1000000) : ∀ (d i : Nat) (out : List S60), l.length - i = d → i ≤ l.length → out.length ≤ i →
    Ev (fun k => tumbrellaw04_own.l0 k out l (l.length : Int) (i : Int)) (out ++ (l.drop i).map to60) := by
  intro d
  induction d with
  | zero =>
    intro i out hd hi ho
    refine Ev.step (f := fun _ => some out) (fun k => ?_) ?_
    · simp only [tumbrellaw04_own.l0]; rw [if_neg (by omega)]
    · rw [List.drop_eq_nil_of_le (by omega), List.map_nil, List.append_nil]; exact Ev.now _
  | succ d ih =>
    intro i out hd hi ho
    have hlt : i < l.length := by omega
    rw [List.drop_eq_getElem_cons hlt, List.map_cons, List.append_cons]
    refine Ev.step (f := fun k => tumbrellaw04_own.l0 k (out ++ [to60 l[i]]) l (l.length : Int) ((i + 1 : Nat) : Int)) (fun k => ?_) ?_
    · simp only [tumbrellaw04_own.l0]
      rw [if_pos (by omega), if_pos (by omega), if_pos (by omega), if_pos (by omega), rd56_at' hlt, wrap_succ i (by omega)]
      rfl
    · exact ih (i + 1) _ (by omega) (by omega) (by rw [List.length_append, List.length_singleton]; omega)
theorem own4_ev (l : List S56) (hl : l.length ≤ 1000000) : Ev (fun k => tumbrellaw04_own.f k l) (l.map to60) := by
  have := own4_loop l hl l.length 0 [] (by omega) (by omega) (by simp)
  simpa [tumbrellaw04_own.f] using this
theorem same4_loop (l : List S60) (hl : l.length ≤ 1000000) (hn : ∀ x ∈ l, x.f1.length ≤ 1000000) : ∀ (d i : Nat), l.length - i = d → Ev (fun k => tumbrelref04_Same.l0 k l l (i : Int)) true := by
  intro d
  induction d with
  | zero =>
    intro i hd
    refine Ev.step (f := fun _ => some true) (fun k => ?_) (Ev.now _)
    simp only [tumbrelref04_Same.l0]; rw [if_neg (by omega)]
  | succ d ih =>
    intro i hd
    have hlt : i < l.length := by omega
    have := hn _ (List.getElem_mem hlt)
    refine Ev.step (f := fun k => (tumbrelref01_Same.f k (l[i]).f1 (l[i]).f1).bind fun t => (if t = true then (tumbrelref04_Same.l0 k l l ((i + 1 : Nat) : Int)) else (some false))) (fun k => ?_) ?_
    · simp only [tumbrelref04_Same.l0]
      rw [if_pos (by omega), if_pos (by omega), if_pos (by omega), rd60_at' hlt, if_pos trivial, wrap_succ i (by omega)]
    · refine Ev.bind (f := fun k t => (if t = true then (tumbrelref04_Same.l0 k l l ((i + 1 : Nat) : Int)) else (some false))) (same_ev (l[i]).f1 (l[i]).f1 (by omega)) ?_
      refine Ev.congr (fun k => ?_) (ih (i + 1) (by omega))
      rw [if_pos (by simp)]
theorem same4_ev (l : List S60) (hl : l.length ≤ 1000000) (hn : ∀ x ∈ l, x.f1.length ≤ 1000000) : Ev (fun k => tumbrelref04_Same.f k l l) true := by
  have := same4_loop l hl hn l.length 0 (by omega)
  simpa [tumbrelref04_Same.f] using this
theorem gall_short : ∀ (d : Nat) (l : List Int), isB l → ∀ x ∈ (gall d l).1, x.f1.length ≤ 1000000 := by
  intro d
  induction d with
  | zero => intro l _ x hx; simp [gall] at hx
  | succ d ih =>
    intro l hb x hx
    rw [gall] at hx
    by_cases hn : l = []
    · rw [if_pos hn] at hx; simp at hx
    rw [if_neg hn] at hx
    by_cases h0 : (fread l).2.2.2 = 0
    · rw [if_pos h0] at hx
      rcases List.mem_cons.1 hx with rfl | hx
      · have := fread_used hb h0
        show (fread l).2.1.length ≤ 1000000
        omega
      · exact ih _ (isB_drop hb _) x hx
    · rw [if_neg h0] at hx; simp at hx
/-- two frames, compared -/
theorem same4_two (x y : S60) (hn : x.f1.length ≤ 1000000) : Ev (fun k => tumbrelref04_Same.f k [x] [y]) (decide (x.f0 = y.f0 ∧ x.f1 = y.f1)) := by
  by_cases h0 : x.f0 = y.f0
  · refine Ev.congr (f := fun k => tumbrelref04_Same.l0 k [x] [y] 0) (fun k => by simp [tumbrelref04_Same.f]) ?_
    refine Ev.step (f := fun k => (tumbrelref01_Same.f k x.f1 y.f1).bind fun t => (if t = true then (tumbrelref04_Same.l0 k [x] [y] 1) else (some false))) (fun k => ?_) ?_
    · simp only [tumbrelref04_Same.l0]
      have e1 : rd_T60 [x] 0 = x := rfl
      have e2 : rd_T60 [y] 0 = y := rfl
      rw [if_pos (by simp), if_pos (by omega), if_pos (by simp), e1, e2, if_pos h0, show wrap64 (0 + 1) = 1 by unfold wrap64; omega]
    · refine Ev.bind (f := fun k t => (if t = true then (tumbrelref04_Same.l0 k [x] [y] 1) else (some false))) (same_ev x.f1 y.f1 (by omega)) ?_
      by_cases h1 : x.f1 = y.f1
      · refine Ev.step (f := fun _ => some true) (fun k => ?_) ?_
        · rw [if_pos (by simp [h1])]; simp only [tumbrelref04_Same.l0]; rw [if_neg (by simp)]
        · simp only [h0, h1, and_self, decide_true]; exact Ev.now _
      · refine Ev.congr (f := fun _ => some false) (fun k => ?_) ?_
        · rw [if_neg (by simp [h1])]
        · simp only [h1, and_false, decide_false]; exact Ev.now _
  · refine Ev.congr (f := fun k => tumbrelref04_Same.l0 k [x] [y] 0) (fun k => by simp [tumbrelref04_Same.f]) ?_
    refine Ev.step (f := fun k => some false) (fun k => ?_) ?_
    · simp only [tumbrelref04_Same.l0]
      have e1 : rd_T60 [x] 0 = x := rfl
      have e2 : rd_T60 [y] 0 = y := rfl
      rw [if_pos (by simp), if_pos (by omega), if_pos (by simp), e1, e2, if_neg h0]
    · simp only [h0, false_and, decide_false]; exact Ev.now _
end Go.Proofs.Ytojepleodijdeaa.VP
namespace Go.Proofs.Ytojepleodijdeaa.Pure
set_option linter.unusedVariables false
set_option linter.unusedSimpArgs false
open Go.RowKit Go.Proofs.Ytojepleodijdeaa.B Go.Proofs.Ytojepleodijdeaa.VP Go.Proofs.YtojepleodijdeaaW.PrintWords Go.Proofs.YtojepleodijdeaaW.PrintLast Go.Proofs.YtojepleodijdeaaW.PrintMore
theorem FrameTells (a : Int) (ha' : (Lit.int .u8 a).wf = true) (l : List Int) (_ : l.length ≤ maxLen) (hl' : ∀ x ∈ l, (Lit.int .u8 x).wf = true) (b : Int) (hb' : (Lit.int .u8 b).wf = true) (m : List Int) (_ : m.length ≤ maxLen) (hm' : ∀ x ∈ m, (Lit.int .u8 x).wf = true)
    (s : List Int) (_ : s.length ≤ maxLen) (hs' : ∀ x ∈ s, (Lit.int .u8 x).wf = true) : ∃ k, tumbrellaw04_FrameTells.f k a l b m s = some true := by
  have ha : 0 ≤ a ∧ a ≤ 255 := isB_of_wf (l := [a]) (fun x hx => by rw [List.mem_singleton.1 hx]; exact ha') a (List.mem_singleton.2 rfl)
  have hl := isB_of_wf hl'
  have hm := isB_of_wf hm'
  have hs := isB_of_wf hs'
  have hA : tumbrellaw04_awake.f = some true := rfl
  have hlongs : ∀ k x, x = true → tumbrellaw04_FrameTells.j0 (k + 1) s x a l b m = some true := by
    intro k x hx; subst hx; simp only [tumbrellaw04_FrameTells.j0, if_true]
  by_cases g0 : (l.length : Int) > 1200
  · refine ⟨0 + 1, ?_⟩
    simp only [tumbrellaw04_FrameTells.f, hA, Option.bind_some, if_true]
    rw [if_pos g0]
    exact hlongs _ _ rfl
  by_cases g1 : (m.length : Int) > 1200
  · refine ⟨0 + 1, ?_⟩
    simp only [tumbrellaw04_FrameTells.f, hA, Option.bind_some, if_true]
    rw [if_neg g0, if_pos g1]
    exact hlongs _ _ rfl
  by_cases g2 : (s.length : Int) > 1200
  · refine ⟨0 + 1, ?_⟩
    simp only [tumbrellaw04_FrameTells.f, hA, Option.bind_some, if_true]
    rw [if_neg g0, if_neg g1]
    exact hlongs _ _ (decide_eq_true g2)
  have hbytes : frame_Bytes.f a l = some (if l.length ≤ 400 then (fb a l, 0) else ([], 4)) := by
    by_cases h : l.length ≤ 400
    · rw [if_pos h]; exact fbytes_f ha hl h
    · rw [if_neg h]; exact fbytes_big (by omega)
  have hplen : (if l.length ≤ 400 then (fb a l, (0 : Int)) else ([], 4)).1.length ≤ 1000000 := by
    split
    · rw [fb_len]; omega
    · simp
  obtain ⟨K1, h1⟩ := rbytes4_ev ha hl (by omega)
  obtain ⟨K2, h2⟩ := read_ev hs (by omega)
  obtain ⟨K3, h3⟩ := rread4_ev hs (by omega)
  obtain ⟨K4, h4⟩ := fall_ev s hs (by omega)
  obtain ⟨K5, h5⟩ := rfall_ev s hs (by omega)
  obtain ⟨K6, h6⟩ := same_ev (if l.length ≤ 400 then (fb a l, (0 : Int)) else ([], 4)).1 (if l.length ≤ 400 then (fb a l, (0 : Int)) else ([], 4)).1 (by omega)
  obtain ⟨K7, h7⟩ := own4_ev [⟨(fread s).1, (fread s).2.1⟩] (by simp)
  have hfl : (fread s).2.1.length ≤ 1000000 := by
    by_cases h : (fread s).2.2.2 = 0
    · have := fread_used hs h; omega
    · rw [(fread_bad h).1]; simp
  obtain ⟨K8, h8⟩ := same4_ev [⟨(fread s).1, (fread s).2.1⟩] (by simp) (fun x hx => by rw [List.mem_singleton.1 hx]; exact hfl)
  have g := gall_at s.length s (Nat.le_refl _) hs
  have hfew : (gall s.length s).1.length ≤ 1000000 := by omega
  obtain ⟨K9, h9⟩ := own4_ev (gall s.length s).1 hfew
  obtain ⟨K10, h10⟩ := same4_ev ((gall s.length s).1.map to60) (by rw [List.length_map]; exact hfew) (fun x hx => by
    obtain ⟨y, hy, rfl⟩ := List.mem_map.1 hx
    exact gall_short s.length s hs y hy)
  obtain ⟨K11, h11⟩ := own4_ev [⟨a, l⟩] (by simp)
  obtain ⟨K12, h12⟩ := own4_ev [⟨b, m⟩] (by simp)
  obtain ⟨K13, h13⟩ := same4_two ⟨a, l⟩ ⟨b, m⟩ (by simp; omega)
  refine ⟨(K1 + K2 + K3 + K4 + K5 + K6 + K7 + K8 + K9 + K10 + K11 + K12 + K13) + 1, ?_⟩
  dsimp only at h1 h2 h3 h4 h5 h6 h7 h8 h9 h10 h11 h12 h13
  simp only [tumbrellaw04_FrameTells.f, hA, Option.bind_some, if_true]
  rw [if_neg g0, if_neg g1, decide_eq_false g2]
  simp only [tumbrellaw04_FrameTells.j0]
  rw [if_neg (by decide), hbytes, Option.bind_some, h1 _ (by omega), Option.bind_some, h2 _ (by omega), Option.bind_some, h3 _ (by omega), Option.bind_some, h4 _ (by omega), Option.bind_some, h5 _ (by omega), Option.bind_some, h6 _ (by omega), Option.bind_some]
  simp only [decide_true, if_true]
  rw [h7 _ (by omega), Option.bind_some]
  simp only [List.map_cons, List.map_nil, to60]
  rw [h8 _ (by omega), Option.bind_some, if_pos rfl, h9 _ (by omega), Option.bind_some, h10 _ (by omega), Option.bind_some, if_pos rfl, fsame_f hl hm, Option.bind_some, h11 _ (by omega), Option.bind_some, h12 _ (by omega), Option.bind_some]
  simp only [List.map_cons, List.map_nil, to60]
  rw [h13 _ (by omega), Option.bind_some]
  simp
end Go.Proofs.Ytojepleodijdeaa.Pure
namespace Go.Proofs.Ytojepleodijdeaa.B
open Go Go.ChangeShapes Go.WideShapes Go.ChangeAt Go.RowKit Go.Joins Go.Proofs.YtojepleodijdeaaW.PrintWords Go.Proofs.YtojepleodijdeaaW.PrintLast Go.Proofs.YtojepleodijdeaaW.PrintMore
set_option linter.unusedVariables false
set_option linter.unusedSimpArgs false
variable {H : Type} {enc : TypeId × Value → H} {w : World} {fuel : Nat} {cs : List Value} {x : DataW H × List MemPlace}
theorem cells56 : Try.prog.cellsOf 56 = 2 := by kernel_rfl
end Go.Proofs.Ytojepleodijdeaa.B
namespace Go.Proofs.Ytojepleodijdeaa.B
open Go Go.RowKit Go.Proofs.YtojepleodijdeaaW.PrintWords Go.Proofs.YtojepleodijdeaaW.PrintLast Go.Proofs.YtojepleodijdeaaW.PrintMore
theorem bytes_V {W : World} {A : Option Addr} {c : Nat} {l : List Int} {e base : Nat} (hr : ReadsInt W .u8 A l.length l) (hc : l.length ≤ c) : Kd.V (Kd.int .u8) e W base (fun _ => True) (.slice A l.length c) l := by
  refine Kd.V_mk hc (fun W' hW => Kd.C_of_reads (d := (0 : Int)) (h1 := fun _ => rfl) ⟨hr.1, hr.2.1, fun hn => ?_⟩)
  obtain ⟨ad, rfl, hcell⟩ := hr.2.2 hn
  refine ⟨ad, rfl, fun j hj => ?_⟩
  have h5 := hcell j hj
  have hb := hW _ trivial (World.block_lt_of_cell? W _ h5)
  rw [← h5]
  simp [World.cell?, hb]
end Go.Proofs.Ytojepleodijdeaa.B
