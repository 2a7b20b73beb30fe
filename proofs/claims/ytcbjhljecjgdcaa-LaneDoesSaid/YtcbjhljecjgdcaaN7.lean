/- Own text, printed by a program of this session (lr21.py): LaneDoes' region 21, each of its operations once. -/
import Derived.Test.YtcbjhljecjgdcaaD0
import Derived.Test.YtcbjhljecjgdcaaN6
set_option linter.unusedVariables false
set_option linter.unusedSimpArgs false
set_option maxRecDepth 100000
namespace Go.Proofs.Ytcbjhljecjgdcaa.L
open Go Go.RowKit Go.Proofs.Ytcbjhljecjgdcaa.D Go.Proofs.YtcbjhljecjgdcaaW.PrintWords Go.Proofs.YtcbjhljecjgdcaaW.PrintLast
/-- The letters of the statement. -/
structure Cx where
  (a g m c : Nat)
  (A : Option Addr)
  (ids : List Int)
  (x0 id : Int)
  (b0 q : Bool)
/-- What is known ahead of it. -/
structure Ok (w : World) (c : Cx) (a0 : Act) (W : World) : Prop where
  b1 : a0.tmps[1]? = some (.int .u64 c.id)
  b5 : a0.tmps[5]? = some (.pointer (some ⟨c.a, 0, none⟩))
  b6 : a0.tmps[6]? = some (.pointer (some ⟨c.g, 0, none⟩))
  b9 : a0.tmps[9]? = some (.bool true)
  b14 : a0.tmps[14]? = some (.int .u64 c.x0)
  b15 : a0.tmps[15]? = some (.bool c.b0)
  b16 : a0.tmps[16]? = some (.int .u64 c.x0)
  b17 : a0.tmps[17]? = some (.bool c.b0)
  lrv : LRV w W c.a c.g c.ids (.slice c.A c.m c.c)
  hm : c.ids.length = c.m
  hl : c.ids.length ≤ 100000
  hq : decide (c.id ∈ c.ids) = c.q
  hid : (Lit.int .u64 c.id).wf = true
/-- What each operation leaves. -/
def Pst (c : Cx) (i : Nat) (v : Value) (w : World) : Prop := match i with
  | 0 => v = .bool true
  | 1 => v = .bool false
  | 2 => v = .bool false
  | 3 => v = .int .u64 c.x0
  | 4 => v = .int .u64 c.x0
  | 5 => v = .bool false
  | 6 => v = .bool false
  | 7 => v = .bool false
  | 8 => v = .bool c.b0
  | 9 => v = .bool c.b0
  | 10 => v = .bool false
  | 11 => v = .bool false
  | 12 => v = .bool false
  | 13 => v = .pointer (some ⟨c.a, 0, none⟩)
  | 14 => ∃ B, Own64 w B v c.ids
  | 15 => v = .pointer (some ⟨c.g, 0, none⟩)
  | 16 => v = .pointer (some ⟨c.g, 0, none⟩)
  | 17 => v = .pointer (some ⟨c.g, 0, none⟩)
  | 18 => v = .slice c.A c.m c.c
  | 19 => v = .bool true
  | 20 => v = .bool false
  | 21 => v = .bool false
  | 22 => v = .bool false
  | 23 => v = .pointer (some ⟨c.a, 0, none⟩)
  | 24 => v = .int .u64 c.id
  | 25 => v = .bool c.q
  | 26 => v = .pointer (some ⟨c.g, 0, none⟩)
  | 27 => v = .int .u64 c.id
  | 28 => v = .bool c.q
  | 29 => v = .bool false
  | 30 => v = .bool false
  | 31 => v = .bool false
  | 32 => v = .pointer (some ⟨c.a, 0, none⟩)
  | 33 => v = .int .i64 c.m
  | 34 => v = .pointer (some ⟨c.g, 0, none⟩)
  | 35 => v = .pointer (some ⟨c.g, 0, none⟩)
  | 36 => v = .pointer (some ⟨c.g, 0, none⟩)
  | 37 => v = .slice c.A c.m c.c
  | 38 => v = .int .i64 c.m
  | 39 => v = .bool false
  | 40 => v = .bool false
  | _ => True
def dst (i : Nat) : Nat := 86 + i
theorem dst_ne {t : Nat} (h : t < 86) : ∀ n i, i < n → dst i ≠ t := fun n i _ => by unfold dst; omega
section
variable {Q : Exit → Act → World → Prop} {w : World} {c : Cx} {a0 : Act} {W : World}
theorem loc0 (h : Ok w c a0 W) : D.Loc Try.prog .any (opsOf Try.f3 21) Q dst a0 W (Pst c) 0 := by
  intro o a w1 ho hb hk hn
  have e := Option.some.inj (ho.symm.trans (rfl : (opsOf Try.f3 21)[0]? = some _))
  have hop : o.op = Op.move (Operand.tmp 9) := by subst e; rfl
  have hd : o.dst = some (dst 0) := by subst e; rfl
  have hgd : o.guard = none := by subst e; rfl
  have q9 : a.eval (.tmp 9) = .bool true := ev ((hk 9 (dst_ne (by decide) _)).trans h.b9)
  exact ⟨(wanted_none hgd), value_ hd (move_ hop q9) ⟨_, rfl, Below.refl _ _, rfl⟩⟩
theorem loc1 (h : Ok w c a0 W) : D.Loc Try.prog .any (opsOf Try.f3 21) Q dst a0 W (Pst c) 1 := by
  intro o a w1 ho hb hk hn
  have e := Option.some.inj (ho.symm.trans (rfl : (opsOf Try.f3 21)[1]? = some _))
  have hop : o.op = Op.unOp UnOp.not 4 (Operand.tmp 86) := by subst e; rfl
  have hd : o.dst = some (dst 1) := by subst e; rfl
  have hgd : o.guard = none := by subst e; rfl
  obtain ⟨v0, h0, p0⟩ := hn 0 (by subst e; decide)
  obtain rfl : v0 = .bool true := p0
  have q86 : a.eval (.tmp 86) = .bool true := ev h0
  refine ⟨(wanted_none hgd), value_ (v := .bool false) hd ?_ ⟨_, rfl, Below.refl _ _, rfl⟩⟩
  unfold execOp
  rw [hop]
  clear hn hk ho e hop hb hgd hd h
  simp only [q86]
  first | rfl | (go_simp; done) | (go_simp; rfl)
theorem loc2 (h : Ok w c a0 W) : D.Loc Try.prog .any (opsOf Try.f3 21) Q dst a0 W (Pst c) 2 := by
  intro o a w1 ho hb hk hn
  have e := Option.some.inj (ho.symm.trans (rfl : (opsOf Try.f3 21)[2]? = some _))
  have hop : o.op = Op.move (Operand.tmp 87) := by subst e; rfl
  have hd : o.dst = some (dst 2) := by subst e; rfl
  have hgd : o.guard = none := by subst e; rfl
  obtain ⟨v1, h1, p1⟩ := hn 1 (by subst e; decide)
  obtain rfl : v1 = .bool false := p1
  have q87 : a.eval (.tmp 87) = .bool false := ev h1
  exact ⟨(wanted_none hgd), value_ hd (move_ hop q87) ⟨_, rfl, Below.refl _ _, rfl⟩⟩
theorem loc3 (h : Ok w c a0 W) : D.Loc Try.prog .any (opsOf Try.f3 21) Q dst a0 W (Pst c) 3 := by
  intro o a w1 ho hb hk hn
  have e := Option.some.inj (ho.symm.trans (rfl : (opsOf Try.f3 21)[3]? = some _))
  have hop : o.op = Op.move (Operand.tmp 14) := by subst e; rfl
  have hd : o.dst = some (dst 3) := by subst e; rfl
  have hgd : o.guard = some (2, false) := by subst e; rfl
  obtain ⟨v2, h2, p2⟩ := hn 2 (by subst e; decide)
  obtain rfl : v2 = .bool false := p2
  have q14 : a.eval (.tmp 14) = .int .u64 c.x0 := ev ((hk 14 (dst_ne (by decide) _)).trans h.b14)
  exact ⟨(wanted_some hgd rfl rfl h2), value_ hd (move_ hop q14) ⟨_, rfl, Below.refl _ _, rfl⟩⟩
theorem loc4 (h : Ok w c a0 W) : D.Loc Try.prog .any (opsOf Try.f3 21) Q dst a0 W (Pst c) 4 := by
  intro o a w1 ho hb hk hn
  have e := Option.some.inj (ho.symm.trans (rfl : (opsOf Try.f3 21)[4]? = some _))
  have hop : o.op = Op.move (Operand.tmp 16) := by subst e; rfl
  have hd : o.dst = some (dst 4) := by subst e; rfl
  have hgd : o.guard = some (2, false) := by subst e; rfl
  obtain ⟨v2, h2, p2⟩ := hn 2 (by subst e; decide)
  obtain rfl : v2 = .bool false := p2
  have q16 : a.eval (.tmp 16) = .int .u64 c.x0 := ev ((hk 16 (dst_ne (by decide) _)).trans h.b16)
  exact ⟨(wanted_some hgd rfl rfl h2), value_ hd (move_ hop q16) ⟨_, rfl, Below.refl _ _, rfl⟩⟩
theorem loc5 (h : Ok w c a0 W) : D.Loc Try.prog .any (opsOf Try.f3 21) Q dst a0 W (Pst c) 5 := by
  intro o a w1 ho hb hk hn
  have e := Option.some.inj (ho.symm.trans (rfl : (opsOf Try.f3 21)[5]? = some _))
  have hop : o.op = Op.binOp BinOp.neq 23 (Operand.tmp 89) (Operand.tmp 90) 23 := by subst e; rfl
  have hd : o.dst = some (dst 5) := by subst e; rfl
  have hgd : o.guard = some (2, false) := by subst e; rfl
  obtain ⟨v2, h2, p2⟩ := hn 2 (by subst e; decide)
  obtain rfl : v2 = .bool false := p2
  obtain ⟨v3, h3, p3⟩ := hn 3 (by subst e; decide)
  obtain rfl : v3 = .int .u64 c.x0 := p3
  obtain ⟨v4, h4, p4⟩ := hn 4 (by subst e; decide)
  obtain rfl : v4 = .int .u64 c.x0 := p4
  have q89 : a.eval (.tmp 89) = .int .u64 c.x0 := ev h3
  have q90 : a.eval (.tmp 90) = .int .u64 c.x0 := ev h4
  refine ⟨(wanted_some hgd rfl rfl h2), value_ (v := .bool false) hd ?_ ⟨_, rfl, Below.refl _ _, rfl⟩⟩
  unfold execOp
  rw [hop]
  clear hn hk ho e hop hb hgd hd h
  simp only [q89, q90]
  first | rfl | (go_simp; done) | (go_simp; rfl)
theorem loc6 (h : Ok w c a0 W) : D.Loc Try.prog .any (opsOf Try.f3 21) Q dst a0 W (Pst c) 6 := by
  intro o a w1 ho hb hk hn
  have e := Option.some.inj (ho.symm.trans (rfl : (opsOf Try.f3 21)[6]? = some _))
  have hop : o.op = Op.pick (Operand.tmp 88) (Operand.const (Value.bool true)) (Operand.tmp 91) := by subst e; rfl
  have hd : o.dst = some (dst 6) := by subst e; rfl
  have hgd : o.guard = none := by subst e; rfl
  obtain ⟨v2, h2, p2⟩ := hn 2 (by subst e; decide)
  obtain rfl : v2 = .bool false := p2
  obtain ⟨v5, h5, p5⟩ := hn 5 (by subst e; decide)
  obtain rfl : v5 = .bool false := p5
  have q88 : a.eval (.tmp 88) = .bool false := ev h2
  have q91 : a.eval (.tmp 91) = .bool false := ev h5
  refine ⟨(wanted_none hgd), value_ (v := .bool false) hd ?_ ⟨_, rfl, Below.refl _ _, rfl⟩⟩
  unfold execOp
  rw [hop]
  clear hn hk ho e hop hb hgd hd h
  simp only [q88, q91]
  first | rfl | (go_simp; done) | (go_simp; rfl)
theorem loc7 (h : Ok w c a0 W) : D.Loc Try.prog .any (opsOf Try.f3 21) Q dst a0 W (Pst c) 7 := by
  intro o a w1 ho hb hk hn
  have e := Option.some.inj (ho.symm.trans (rfl : (opsOf Try.f3 21)[7]? = some _))
  have hop : o.op = Op.move (Operand.tmp 92) := by subst e; rfl
  have hd : o.dst = some (dst 7) := by subst e; rfl
  have hgd : o.guard = none := by subst e; rfl
  obtain ⟨v6, h6, p6⟩ := hn 6 (by subst e; decide)
  obtain rfl : v6 = .bool false := p6
  have q92 : a.eval (.tmp 92) = .bool false := ev h6
  exact ⟨(wanted_none hgd), value_ hd (move_ hop q92) ⟨_, rfl, Below.refl _ _, rfl⟩⟩
theorem loc8 (h : Ok w c a0 W) : D.Loc Try.prog .any (opsOf Try.f3 21) Q dst a0 W (Pst c) 8 := by
  intro o a w1 ho hb hk hn
  have e := Option.some.inj (ho.symm.trans (rfl : (opsOf Try.f3 21)[8]? = some _))
  have hop : o.op = Op.move (Operand.tmp 15) := by subst e; rfl
  have hd : o.dst = some (dst 8) := by subst e; rfl
  have hgd : o.guard = some (7, false) := by subst e; rfl
  obtain ⟨v7, h7, p7⟩ := hn 7 (by subst e; decide)
  obtain rfl : v7 = .bool false := p7
  have q15 : a.eval (.tmp 15) = .bool c.b0 := ev ((hk 15 (dst_ne (by decide) _)).trans h.b15)
  exact ⟨(wanted_some hgd rfl rfl h7), value_ hd (move_ hop q15) ⟨_, rfl, Below.refl _ _, rfl⟩⟩
theorem loc9 (h : Ok w c a0 W) : D.Loc Try.prog .any (opsOf Try.f3 21) Q dst a0 W (Pst c) 9 := by
  intro o a w1 ho hb hk hn
  have e := Option.some.inj (ho.symm.trans (rfl : (opsOf Try.f3 21)[9]? = some _))
  have hop : o.op = Op.move (Operand.tmp 17) := by subst e; rfl
  have hd : o.dst = some (dst 9) := by subst e; rfl
  have hgd : o.guard = some (7, false) := by subst e; rfl
  obtain ⟨v7, h7, p7⟩ := hn 7 (by subst e; decide)
  obtain rfl : v7 = .bool false := p7
  have q17 : a.eval (.tmp 17) = .bool c.b0 := ev ((hk 17 (dst_ne (by decide) _)).trans h.b17)
  exact ⟨(wanted_some hgd rfl rfl h7), value_ hd (move_ hop q17) ⟨_, rfl, Below.refl _ _, rfl⟩⟩
theorem loc10 (h : Ok w c a0 W) : D.Loc Try.prog .any (opsOf Try.f3 21) Q dst a0 W (Pst c) 10 := by
  intro o a w1 ho hb hk hn
  have e := Option.some.inj (ho.symm.trans (rfl : (opsOf Try.f3 21)[10]? = some _))
  have hop : o.op = Op.binOp BinOp.neq 4 (Operand.tmp 94) (Operand.tmp 95) 4 := by subst e; rfl
  have hd : o.dst = some (dst 10) := by subst e; rfl
  have hgd : o.guard = some (7, false) := by subst e; rfl
  obtain ⟨v7, h7, p7⟩ := hn 7 (by subst e; decide)
  obtain rfl : v7 = .bool false := p7
  obtain ⟨v8, h8, p8⟩ := hn 8 (by subst e; decide)
  obtain rfl : v8 = .bool c.b0 := p8
  obtain ⟨v9, h9, p9⟩ := hn 9 (by subst e; decide)
  obtain rfl : v9 = .bool c.b0 := p9
  have q94 : a.eval (.tmp 94) = .bool c.b0 := ev h8
  have q95 : a.eval (.tmp 95) = .bool c.b0 := ev h9
  refine ⟨(wanted_some hgd rfl rfl h7), value_ (v := .bool false) hd ?_ ⟨_, rfl, Below.refl _ _, rfl⟩⟩
  unfold execOp
  rw [hop]
  clear hn hk ho e hop hb hgd hd h
  simp only [q94, q95]
  first | rfl | (go_simp; done) | (go_simp; rfl)
theorem loc11 (h : Ok w c a0 W) : D.Loc Try.prog .any (opsOf Try.f3 21) Q dst a0 W (Pst c) 11 := by
  intro o a w1 ho hb hk hn
  have e := Option.some.inj (ho.symm.trans (rfl : (opsOf Try.f3 21)[11]? = some _))
  have hop : o.op = Op.pick (Operand.tmp 93) (Operand.const (Value.bool true)) (Operand.tmp 96) := by subst e; rfl
  have hd : o.dst = some (dst 11) := by subst e; rfl
  have hgd : o.guard = none := by subst e; rfl
  obtain ⟨v7, h7, p7⟩ := hn 7 (by subst e; decide)
  obtain rfl : v7 = .bool false := p7
  obtain ⟨v10, h10, p10⟩ := hn 10 (by subst e; decide)
  obtain rfl : v10 = .bool false := p10
  have q93 : a.eval (.tmp 93) = .bool false := ev h7
  have q96 : a.eval (.tmp 96) = .bool false := ev h10
  refine ⟨(wanted_none hgd), value_ (v := .bool false) hd ?_ ⟨_, rfl, Below.refl _ _, rfl⟩⟩
  unfold execOp
  rw [hop]
  clear hn hk ho e hop hb hgd hd h
  simp only [q93, q96]
  first | rfl | (go_simp; done) | (go_simp; rfl)
theorem loc12 (h : Ok w c a0 W) : D.Loc Try.prog .any (opsOf Try.f3 21) Q dst a0 W (Pst c) 12 := by
  intro o a w1 ho hb hk hn
  have e := Option.some.inj (ho.symm.trans (rfl : (opsOf Try.f3 21)[12]? = some _))
  have hop : o.op = Op.move (Operand.tmp 97) := by subst e; rfl
  have hd : o.dst = some (dst 12) := by subst e; rfl
  have hgd : o.guard = none := by subst e; rfl
  obtain ⟨v11, h11, p11⟩ := hn 11 (by subst e; decide)
  obtain rfl : v11 = .bool false := p11
  have q97 : a.eval (.tmp 97) = .bool false := ev h11
  exact ⟨(wanted_none hgd), value_ hd (move_ hop q97) ⟨_, rfl, Below.refl _ _, rfl⟩⟩
theorem loc13 (h : Ok w c a0 W) : D.Loc Try.prog .any (opsOf Try.f3 21) Q dst a0 W (Pst c) 13 := by
  intro o a w1 ho hb hk hn
  have e := Option.some.inj (ho.symm.trans (rfl : (opsOf Try.f3 21)[13]? = some _))
  have hop : o.op = Op.move (Operand.tmp 5) := by subst e; rfl
  have hd : o.dst = some (dst 13) := by subst e; rfl
  have hgd : o.guard = some (12, false) := by subst e; rfl
  obtain ⟨v12, h12, p12⟩ := hn 12 (by subst e; decide)
  obtain rfl : v12 = .bool false := p12
  have q5 : a.eval (.tmp 5) = .pointer (some ⟨c.a, 0, none⟩) := ev ((hk 5 (dst_ne (by decide) _)).trans h.b5)
  exact ⟨(wanted_some hgd rfl rfl h12), value_ hd (move_ hop q5) ⟨_, rfl, Below.refl _ _, rfl⟩⟩
theorem loc14 (h : Ok w c a0 W) : D.Loc Try.prog .any (opsOf Try.f3 21) Q dst a0 W (Pst c) 14 := by
  intro o a w1 ho hb hk hn
  have e := Option.some.inj (ho.symm.trans (rfl : (opsOf Try.f3 21)[14]? = some _))
  have hop : o.op = Op.call { callee := Callee.value (Operand.func 17), args := #[Operand.tmp 99], argTypes := #[25] } := by subst e; rfl
  have hd : o.dst = some (dst 14) := by subst e; rfl
  have hgd : o.guard = some (12, false) := by subst e; rfl
  obtain ⟨v12, h12, p12⟩ := hn 12 (by subst e; decide)
  obtain rfl : v12 = .bool false := p12
  obtain ⟨v13, h13, p13⟩ := hn 13 (by subst e; decide)
  obtain rfl : v13 = .pointer (some ⟨c.a, 0, none⟩) := p13
  have q99 : a.eval (.tmp 99) = .pointer (some ⟨c.a, 0, none⟩) := ev h13
  have hw : Region.wanted o (yielded (opsOf Try.f3 21) a.tmps) = true := (wanted_some hgd rfl rfl h12)
  have hs := goes_ (P := Try.prog) (Q := Q) (a := a) (w := w1) (K := fun a' w' => ∃ v, a' = a.put (some (dst 14)) v ∧ Below w1.heap.size w1 w' ∧ Pst c 14 v w') Try.func17 (by kernel_rfl) rfl (#[.pointer (some ⟨c.a, 0, none⟩)] : Array Value) hw hd hop ?ha ?hc
  · rw [if_pos hw] at hs
    exact ⟨hw, hs⟩
  case ha => simp only [List.map_toArray, List.map_cons, List.map_nil, q99]
  case hc =>
    have hL : LRV w w1 c.a c.g c.ids (.slice c.A c.m c.c) := h.lrv.grows hb
    obtain ⟨F, k1, _⟩ := hL
    refine (allI w1 _ c.a F c.ids k1 h.hl).mono ?_
    rintro e w' ⟨v, rfl, k2, k3⟩
    exact ⟨_, rfl, _, rfl, k3, _, k2⟩
theorem loc15 (h : Ok w c a0 W) : D.Loc Try.prog .any (opsOf Try.f3 21) Q dst a0 W (Pst c) 15 := by
  intro o a w1 ho hb hk hn
  have e := Option.some.inj (ho.symm.trans (rfl : (opsOf Try.f3 21)[15]? = some _))
  have hop : o.op = Op.move (Operand.tmp 6) := by subst e; rfl
  have hd : o.dst = some (dst 15) := by subst e; rfl
  have hgd : o.guard = some (12, false) := by subst e; rfl
  obtain ⟨v12, h12, p12⟩ := hn 12 (by subst e; decide)
  obtain rfl : v12 = .bool false := p12
  have q6 : a.eval (.tmp 6) = .pointer (some ⟨c.g, 0, none⟩) := ev ((hk 6 (dst_ne (by decide) _)).trans h.b6)
  exact ⟨(wanted_some hgd rfl rfl h12), value_ hd (move_ hop q6) ⟨_, rfl, Below.refl _ _, rfl⟩⟩
theorem loc16 (h : Ok w c a0 W) : D.Loc Try.prog .any (opsOf Try.f3 21) Q dst a0 W (Pst c) 16 := by
  intro o a w1 ho hb hk hn
  have e := Option.some.inj (ho.symm.trans (rfl : (opsOf Try.f3 21)[16]? = some _))
  have hop : o.op = Op.nilCheck (Operand.tmp 101) := by subst e; rfl
  have hd : o.dst = some (dst 16) := by subst e; rfl
  have hgd : o.guard = some (12, false) := by subst e; rfl
  obtain ⟨v12, h12, p12⟩ := hn 12 (by subst e; decide)
  obtain rfl : v12 = .bool false := p12
  obtain ⟨v15, h15, p15⟩ := hn 15 (by subst e; decide)
  obtain rfl : v15 = .pointer (some ⟨c.g, 0, none⟩) := p15
  have q101 : a.eval (.tmp 101) = .pointer (some ⟨c.g, 0, none⟩) := ev h15
  refine ⟨(wanted_some hgd rfl rfl h12), value_ (v := .pointer (some ⟨c.g, 0, none⟩)) hd ?_ ⟨_, rfl, Below.refl _ _, rfl⟩⟩
  unfold execOp
  rw [hop]
  clear hn hk ho e hop hb hgd hd h
  simp only [q101]
  first | rfl | (go_simp; done) | (go_simp; rfl)
theorem loc17 (h : Ok w c a0 W) : D.Loc Try.prog .any (opsOf Try.f3 21) Q dst a0 W (Pst c) 17 := by
  intro o a w1 ho hb hk hn
  have e := Option.some.inj (ho.symm.trans (rfl : (opsOf Try.f3 21)[17]? = some _))
  have hop : o.op = Op.fieldAddr 30 (Operand.tmp 102) 0 := by subst e; rfl
  have hd : o.dst = some (dst 17) := by subst e; rfl
  have hgd : o.guard = some (12, false) := by subst e; rfl
  obtain ⟨v12, h12, p12⟩ := hn 12 (by subst e; decide)
  obtain rfl : v12 = .bool false := p12
  obtain ⟨v16, h16, p16⟩ := hn 16 (by subst e; decide)
  obtain rfl : v16 = .pointer (some ⟨c.g, 0, none⟩) := p16
  have q102 : a.eval (.tmp 102) = .pointer (some ⟨c.g, 0, none⟩) := ev h16
  refine ⟨(wanted_some hgd rfl rfl h12), value_ (v := .pointer (some ⟨c.g, 0, none⟩)) hd ?_ ⟨_, rfl, Below.refl _ _, rfl⟩⟩
  unfold execOp
  rw [hop]
  clear hn hk ho e hop hb hgd hd h
  simp only [q102]
  first | rfl | (go_simp; done) | (go_simp; rfl)
theorem loc18 (h : Ok w c a0 W) : D.Loc Try.prog .any (opsOf Try.f3 21) Q dst a0 W (Pst c) 18 := by
  intro o a w1 ho hb hk hn
  have e := Option.some.inj (ho.symm.trans (rfl : (opsOf Try.f3 21)[18]? = some _))
  have hop : o.op = Op.load 28 (Operand.tmp 103) := by subst e; rfl
  have hd : o.dst = some (dst 18) := by subst e; rfl
  have hgd : o.guard = some (12, false) := by subst e; rfl
  obtain ⟨v12, h12, p12⟩ := hn 12 (by subst e; decide)
  obtain rfl : v12 = .bool false := p12
  obtain ⟨v17, h17, p17⟩ := hn 17 (by subst e; decide)
  obtain rfl : v17 = .pointer (some ⟨c.g, 0, none⟩) := p17
  have q103 : a.eval (.tmp 103) = .pointer (some ⟨c.g, 0, none⟩) := ev h17
  have hL : LRV w w1 c.a c.g c.ids (.slice c.A c.m c.c) := h.lrv.grows hb
  have hcell := hL.cell
  have hu := Try.underlying28
  refine ⟨(wanted_some hgd rfl rfl h12), value_ (v := .slice c.A c.m c.c) hd ?_ ⟨_, rfl, Below.refl _ _, rfl⟩⟩
  unfold execOp
  rw [hop]
  clear hn hk ho e hop hb hgd hd h
  simp only [q103]
  first | rfl | (go_simp; done) | (go_simp; rfl)
theorem loc19 (h : Ok w c a0 W) : D.Loc Try.prog .any (opsOf Try.f3 21) Q dst a0 W (Pst c) 19 := by
  intro o a w1 ho hb hk hn
  have e := Option.some.inj (ho.symm.trans (rfl : (opsOf Try.f3 21)[19]? = some _))
  have hop : o.op = Op.call { callee := Callee.value (Operand.func 16), args := #[Operand.tmp 100, Operand.tmp 104], argTypes := #[28, 28] } := by subst e; rfl
  have hd : o.dst = some (dst 19) := by subst e; rfl
  have hgd : o.guard = some (12, false) := by subst e; rfl
  obtain ⟨v12, h12, p12⟩ := hn 12 (by subst e; decide)
  obtain rfl : v12 = .bool false := p12
  obtain ⟨v14, h14, p14⟩ := hn 14 (by subst e; decide)
  obtain ⟨B14, p14⟩ : ∃ B, Own64 w1 B v14 c.ids := p14
  obtain ⟨v18, h18, p18⟩ := hn 18 (by subst e; decide)
  obtain rfl : v18 = .slice c.A c.m c.c := p18
  have q100 : a.eval (.tmp 100) = v14 := ev h14
  have q104 : a.eval (.tmp 104) = .slice c.A c.m c.c := ev h18
  have hw : Region.wanted o (yielded (opsOf Try.f3 21) a.tmps) = true := (wanted_some hgd rfl rfl h12)
  have hs := goes_ (P := Try.prog) (Q := Q) (a := a) (w := w1) (K := fun a' w' => ∃ v, a' = a.put (some (dst 19)) v ∧ Below w1.heap.size w1 w' ∧ Pst c 19 v w') Try.func16 (by kernel_rfl) rfl (#[v14, .slice c.A c.m c.c] : Array Value) hw hd hop ?ha ?hc
  · rw [if_pos hw] at hs
    exact ⟨hw, hs⟩
  case ha => simp only [List.map_toArray, List.map_cons, List.map_nil, q100, q104]
  case hc =>
    have hL : LRV w w1 c.a c.g c.ids (.slice c.A c.m c.c) := h.lrv.grows hb
    obtain ⟨F, _, k2, _⟩ := hL
    have hc := same_calls w1 B14 _ v14 (.slice c.A c.m c.c) c.ids c.ids p14 k2.own h.hl h.hl
    rw [decide_eq_true rfl] at hc
    refine hc.mono ?_
    rintro e w' ⟨rfl, n, rfl⟩
    exact ⟨_, rfl, _, rfl, ⟨rfl, rfl, rfl, Nat.le_refl _, fun _ _ => rfl⟩, rfl⟩
theorem loc20 (h : Ok w c a0 W) : D.Loc Try.prog .any (opsOf Try.f3 21) Q dst a0 W (Pst c) 20 := by
  intro o a w1 ho hb hk hn
  have e := Option.some.inj (ho.symm.trans (rfl : (opsOf Try.f3 21)[20]? = some _))
  have hop : o.op = Op.unOp UnOp.not 4 (Operand.tmp 105) := by subst e; rfl
  have hd : o.dst = some (dst 20) := by subst e; rfl
  have hgd : o.guard = some (12, false) := by subst e; rfl
  obtain ⟨v12, h12, p12⟩ := hn 12 (by subst e; decide)
  obtain rfl : v12 = .bool false := p12
  obtain ⟨v19, h19, p19⟩ := hn 19 (by subst e; decide)
  obtain rfl : v19 = .bool true := p19
  have q105 : a.eval (.tmp 105) = .bool true := ev h19
  refine ⟨(wanted_some hgd rfl rfl h12), value_ (v := .bool false) hd ?_ ⟨_, rfl, Below.refl _ _, rfl⟩⟩
  unfold execOp
  rw [hop]
  clear hn hk ho e hop hb hgd hd h
  simp only [q105]
  first | rfl | (go_simp; done) | (go_simp; rfl)
theorem loc21 (h : Ok w c a0 W) : D.Loc Try.prog .any (opsOf Try.f3 21) Q dst a0 W (Pst c) 21 := by
  intro o a w1 ho hb hk hn
  have e := Option.some.inj (ho.symm.trans (rfl : (opsOf Try.f3 21)[21]? = some _))
  have hop : o.op = Op.pick (Operand.tmp 98) (Operand.const (Value.bool true)) (Operand.tmp 106) := by subst e; rfl
  have hd : o.dst = some (dst 21) := by subst e; rfl
  have hgd : o.guard = none := by subst e; rfl
  obtain ⟨v12, h12, p12⟩ := hn 12 (by subst e; decide)
  obtain rfl : v12 = .bool false := p12
  obtain ⟨v20, h20, p20⟩ := hn 20 (by subst e; decide)
  obtain rfl : v20 = .bool false := p20
  have q98 : a.eval (.tmp 98) = .bool false := ev h12
  have q106 : a.eval (.tmp 106) = .bool false := ev h20
  refine ⟨(wanted_none hgd), value_ (v := .bool false) hd ?_ ⟨_, rfl, Below.refl _ _, rfl⟩⟩
  unfold execOp
  rw [hop]
  clear hn hk ho e hop hb hgd hd h
  simp only [q98, q106]
  first | rfl | (go_simp; done) | (go_simp; rfl)
theorem loc22 (h : Ok w c a0 W) : D.Loc Try.prog .any (opsOf Try.f3 21) Q dst a0 W (Pst c) 22 := by
  intro o a w1 ho hb hk hn
  have e := Option.some.inj (ho.symm.trans (rfl : (opsOf Try.f3 21)[22]? = some _))
  have hop : o.op = Op.move (Operand.tmp 107) := by subst e; rfl
  have hd : o.dst = some (dst 22) := by subst e; rfl
  have hgd : o.guard = none := by subst e; rfl
  obtain ⟨v21, h21, p21⟩ := hn 21 (by subst e; decide)
  obtain rfl : v21 = .bool false := p21
  have q107 : a.eval (.tmp 107) = .bool false := ev h21
  exact ⟨(wanted_none hgd), value_ hd (move_ hop q107) ⟨_, rfl, Below.refl _ _, rfl⟩⟩
theorem loc23 (h : Ok w c a0 W) : D.Loc Try.prog .any (opsOf Try.f3 21) Q dst a0 W (Pst c) 23 := by
  intro o a w1 ho hb hk hn
  have e := Option.some.inj (ho.symm.trans (rfl : (opsOf Try.f3 21)[23]? = some _))
  have hop : o.op = Op.move (Operand.tmp 5) := by subst e; rfl
  have hd : o.dst = some (dst 23) := by subst e; rfl
  have hgd : o.guard = some (22, false) := by subst e; rfl
  obtain ⟨v22, h22, p22⟩ := hn 22 (by subst e; decide)
  obtain rfl : v22 = .bool false := p22
  have q5 : a.eval (.tmp 5) = .pointer (some ⟨c.a, 0, none⟩) := ev ((hk 5 (dst_ne (by decide) _)).trans h.b5)
  exact ⟨(wanted_some hgd rfl rfl h22), value_ hd (move_ hop q5) ⟨_, rfl, Below.refl _ _, rfl⟩⟩
theorem loc24 (h : Ok w c a0 W) : D.Loc Try.prog .any (opsOf Try.f3 21) Q dst a0 W (Pst c) 24 := by
  intro o a w1 ho hb hk hn
  have e := Option.some.inj (ho.symm.trans (rfl : (opsOf Try.f3 21)[24]? = some _))
  have hop : o.op = Op.move (Operand.tmp 1) := by subst e; rfl
  have hd : o.dst = some (dst 24) := by subst e; rfl
  have hgd : o.guard = some (22, false) := by subst e; rfl
  obtain ⟨v22, h22, p22⟩ := hn 22 (by subst e; decide)
  obtain rfl : v22 = .bool false := p22
  have q1 : a.eval (.tmp 1) = .int .u64 c.id := ev ((hk 1 (dst_ne (by decide) _)).trans h.b1)
  exact ⟨(wanted_some hgd rfl rfl h22), value_ hd (move_ hop q1) ⟨_, rfl, Below.refl _ _, rfl⟩⟩
theorem loc25 (h : Ok w c a0 W) : D.Loc Try.prog .any (opsOf Try.f3 21) Q dst a0 W (Pst c) 25 := by
  intro o a w1 ho hb hk hn
  have e := Option.some.inj (ho.symm.trans (rfl : (opsOf Try.f3 21)[25]? = some _))
  have hop : o.op = Op.call { callee := Callee.value (Operand.func 18), args := #[Operand.tmp 109, Operand.tmp 110], argTypes := #[25, 23] } := by subst e; rfl
  have hd : o.dst = some (dst 25) := by subst e; rfl
  have hgd : o.guard = some (22, false) := by subst e; rfl
  obtain ⟨v22, h22, p22⟩ := hn 22 (by subst e; decide)
  obtain rfl : v22 = .bool false := p22
  obtain ⟨v23, h23, p23⟩ := hn 23 (by subst e; decide)
  obtain rfl : v23 = .pointer (some ⟨c.a, 0, none⟩) := p23
  obtain ⟨v24, h24, p24⟩ := hn 24 (by subst e; decide)
  obtain rfl : v24 = .int .u64 c.id := p24
  have q109 : a.eval (.tmp 109) = .pointer (some ⟨c.a, 0, none⟩) := ev h23
  have q110 : a.eval (.tmp 110) = .int .u64 c.id := ev h24
  have hw : Region.wanted o (yielded (opsOf Try.f3 21) a.tmps) = true := (wanted_some hgd rfl rfl h22)
  have hs := goes_ (P := Try.prog) (Q := Q) (a := a) (w := w1) (K := fun a' w' => ∃ v, a' = a.put (some (dst 25)) v ∧ Below w1.heap.size w1 w' ∧ Pst c 25 v w') Try.func18 (by kernel_rfl) rfl (#[.pointer (some ⟨c.a, 0, none⟩), .int .u64 c.id] : Array Value) hw hd hop ?ha ?hc
  · rw [if_pos hw] at hs
    exact ⟨hw, hs⟩
  case ha => simp only [List.map_toArray, List.map_cons, List.map_nil, q109, q110]
  case hc =>
    have hL : LRV w w1 c.a c.g c.ids (.slice c.A c.m c.c) := h.lrv.grows hb
    refine (LR.hasL hL.lr c.id h.hid).mono ?_
    rintro e w' ⟨rfl, rfl⟩
    exact ⟨_, rfl, _, rfl, Below.refl _ _, by rw [h.hq]; rfl⟩
theorem loc26 (h : Ok w c a0 W) : D.Loc Try.prog .any (opsOf Try.f3 21) Q dst a0 W (Pst c) 26 := by
  intro o a w1 ho hb hk hn
  have e := Option.some.inj (ho.symm.trans (rfl : (opsOf Try.f3 21)[26]? = some _))
  have hop : o.op = Op.move (Operand.tmp 6) := by subst e; rfl
  have hd : o.dst = some (dst 26) := by subst e; rfl
  have hgd : o.guard = some (22, false) := by subst e; rfl
  obtain ⟨v22, h22, p22⟩ := hn 22 (by subst e; decide)
  obtain rfl : v22 = .bool false := p22
  have q6 : a.eval (.tmp 6) = .pointer (some ⟨c.g, 0, none⟩) := ev ((hk 6 (dst_ne (by decide) _)).trans h.b6)
  exact ⟨(wanted_some hgd rfl rfl h22), value_ hd (move_ hop q6) ⟨_, rfl, Below.refl _ _, rfl⟩⟩
theorem loc27 (h : Ok w c a0 W) : D.Loc Try.prog .any (opsOf Try.f3 21) Q dst a0 W (Pst c) 27 := by
  intro o a w1 ho hb hk hn
  have e := Option.some.inj (ho.symm.trans (rfl : (opsOf Try.f3 21)[27]? = some _))
  have hop : o.op = Op.move (Operand.tmp 1) := by subst e; rfl
  have hd : o.dst = some (dst 27) := by subst e; rfl
  have hgd : o.guard = some (22, false) := by subst e; rfl
  obtain ⟨v22, h22, p22⟩ := hn 22 (by subst e; decide)
  obtain rfl : v22 = .bool false := p22
  have q1 : a.eval (.tmp 1) = .int .u64 c.id := ev ((hk 1 (dst_ne (by decide) _)).trans h.b1)
  exact ⟨(wanted_some hgd rfl rfl h22), value_ hd (move_ hop q1) ⟨_, rfl, Below.refl _ _, rfl⟩⟩
theorem loc28 (h : Ok w c a0 W) : D.Loc Try.prog .any (opsOf Try.f3 21) Q dst a0 W (Pst c) 28 := by
  intro o a w1 ho hb hk hn
  have e := Option.some.inj (ho.symm.trans (rfl : (opsOf Try.f3 21)[28]? = some _))
  have hop : o.op = Op.call { callee := Callee.value (Operand.func 19), args := #[Operand.tmp 112, Operand.tmp 113], argTypes := #[27, 23] } := by subst e; rfl
  have hd : o.dst = some (dst 28) := by subst e; rfl
  have hgd : o.guard = some (22, false) := by subst e; rfl
  obtain ⟨v22, h22, p22⟩ := hn 22 (by subst e; decide)
  obtain rfl : v22 = .bool false := p22
  obtain ⟨v26, h26, p26⟩ := hn 26 (by subst e; decide)
  obtain rfl : v26 = .pointer (some ⟨c.g, 0, none⟩) := p26
  obtain ⟨v27, h27, p27⟩ := hn 27 (by subst e; decide)
  obtain rfl : v27 = .int .u64 c.id := p27
  have q112 : a.eval (.tmp 112) = .pointer (some ⟨c.g, 0, none⟩) := ev h26
  have q113 : a.eval (.tmp 113) = .int .u64 c.id := ev h27
  have hw : Region.wanted o (yielded (opsOf Try.f3 21) a.tmps) = true := (wanted_some hgd rfl rfl h22)
  have hs := goes_ (P := Try.prog) (Q := Q) (a := a) (w := w1) (K := fun a' w' => ∃ v, a' = a.put (some (dst 28)) v ∧ Below w1.heap.size w1 w' ∧ Pst c 28 v w') Try.func19 (by kernel_rfl) rfl (#[.pointer (some ⟨c.g, 0, none⟩), .int .u64 c.id] : Array Value) hw hd hop ?ha ?hc
  · rw [if_pos hw] at hs
    exact ⟨hw, hs⟩
  case ha => simp only [List.map_toArray, List.map_cons, List.map_nil, q112, q113]
  case hc =>
    have hL : LRV w w1 c.a c.g c.ids (.slice c.A c.m c.c) := h.lrv.grows hb
    refine (LR.hasR hL.lr c.id h.hl).mono ?_
    rintro e w' ⟨rfl, rfl⟩
    exact ⟨_, rfl, _, rfl, Below.refl _ _, by rw [h.hq]; rfl⟩
theorem loc29 (h : Ok w c a0 W) : D.Loc Try.prog .any (opsOf Try.f3 21) Q dst a0 W (Pst c) 29 := by
  intro o a w1 ho hb hk hn
  have e := Option.some.inj (ho.symm.trans (rfl : (opsOf Try.f3 21)[29]? = some _))
  have hop : o.op = Op.binOp BinOp.neq 4 (Operand.tmp 111) (Operand.tmp 114) 4 := by subst e; rfl
  have hd : o.dst = some (dst 29) := by subst e; rfl
  have hgd : o.guard = some (22, false) := by subst e; rfl
  obtain ⟨v22, h22, p22⟩ := hn 22 (by subst e; decide)
  obtain rfl : v22 = .bool false := p22
  obtain ⟨v25, h25, p25⟩ := hn 25 (by subst e; decide)
  obtain rfl : v25 = .bool c.q := p25
  obtain ⟨v28, h28, p28⟩ := hn 28 (by subst e; decide)
  obtain rfl : v28 = .bool c.q := p28
  have q111 : a.eval (.tmp 111) = .bool c.q := ev h25
  have q114 : a.eval (.tmp 114) = .bool c.q := ev h28
  refine ⟨(wanted_some hgd rfl rfl h22), value_ (v := .bool false) hd ?_ ⟨_, rfl, Below.refl _ _, rfl⟩⟩
  unfold execOp
  rw [hop]
  clear hn hk ho e hop hb hgd hd h
  simp only [q111, q114]
  first | rfl | (go_simp; done) | (go_simp; rfl)
theorem loc30 (h : Ok w c a0 W) : D.Loc Try.prog .any (opsOf Try.f3 21) Q dst a0 W (Pst c) 30 := by
  intro o a w1 ho hb hk hn
  have e := Option.some.inj (ho.symm.trans (rfl : (opsOf Try.f3 21)[30]? = some _))
  have hop : o.op = Op.pick (Operand.tmp 108) (Operand.const (Value.bool true)) (Operand.tmp 115) := by subst e; rfl
  have hd : o.dst = some (dst 30) := by subst e; rfl
  have hgd : o.guard = none := by subst e; rfl
  obtain ⟨v22, h22, p22⟩ := hn 22 (by subst e; decide)
  obtain rfl : v22 = .bool false := p22
  obtain ⟨v29, h29, p29⟩ := hn 29 (by subst e; decide)
  obtain rfl : v29 = .bool false := p29
  have q108 : a.eval (.tmp 108) = .bool false := ev h22
  have q115 : a.eval (.tmp 115) = .bool false := ev h29
  refine ⟨(wanted_none hgd), value_ (v := .bool false) hd ?_ ⟨_, rfl, Below.refl _ _, rfl⟩⟩
  unfold execOp
  rw [hop]
  clear hn hk ho e hop hb hgd hd h
  simp only [q108, q115]
  first | rfl | (go_simp; done) | (go_simp; rfl)
theorem loc31 (h : Ok w c a0 W) : D.Loc Try.prog .any (opsOf Try.f3 21) Q dst a0 W (Pst c) 31 := by
  intro o a w1 ho hb hk hn
  have e := Option.some.inj (ho.symm.trans (rfl : (opsOf Try.f3 21)[31]? = some _))
  have hop : o.op = Op.move (Operand.tmp 116) := by subst e; rfl
  have hd : o.dst = some (dst 31) := by subst e; rfl
  have hgd : o.guard = none := by subst e; rfl
  obtain ⟨v30, h30, p30⟩ := hn 30 (by subst e; decide)
  obtain rfl : v30 = .bool false := p30
  have q116 : a.eval (.tmp 116) = .bool false := ev h30
  exact ⟨(wanted_none hgd), value_ hd (move_ hop q116) ⟨_, rfl, Below.refl _ _, rfl⟩⟩
theorem loc32 (h : Ok w c a0 W) : D.Loc Try.prog .any (opsOf Try.f3 21) Q dst a0 W (Pst c) 32 := by
  intro o a w1 ho hb hk hn
  have e := Option.some.inj (ho.symm.trans (rfl : (opsOf Try.f3 21)[32]? = some _))
  have hop : o.op = Op.move (Operand.tmp 5) := by subst e; rfl
  have hd : o.dst = some (dst 32) := by subst e; rfl
  have hgd : o.guard = some (31, false) := by subst e; rfl
  obtain ⟨v31, h31, p31⟩ := hn 31 (by subst e; decide)
  obtain rfl : v31 = .bool false := p31
  have q5 : a.eval (.tmp 5) = .pointer (some ⟨c.a, 0, none⟩) := ev ((hk 5 (dst_ne (by decide) _)).trans h.b5)
  exact ⟨(wanted_some hgd rfl rfl h31), value_ hd (move_ hop q5) ⟨_, rfl, Below.refl _ _, rfl⟩⟩
theorem loc33 (h : Ok w c a0 W) : D.Loc Try.prog .any (opsOf Try.f3 21) Q dst a0 W (Pst c) 33 := by
  intro o a w1 ho hb hk hn
  have e := Option.some.inj (ho.symm.trans (rfl : (opsOf Try.f3 21)[33]? = some _))
  have hop : o.op = Op.call { callee := Callee.value (Operand.func 20), args := #[Operand.tmp 118], argTypes := #[25] } := by subst e; rfl
  have hd : o.dst = some (dst 33) := by subst e; rfl
  have hgd : o.guard = some (31, false) := by subst e; rfl
  obtain ⟨v31, h31, p31⟩ := hn 31 (by subst e; decide)
  obtain rfl : v31 = .bool false := p31
  obtain ⟨v32, h32, p32⟩ := hn 32 (by subst e; decide)
  obtain rfl : v32 = .pointer (some ⟨c.a, 0, none⟩) := p32
  have q118 : a.eval (.tmp 118) = .pointer (some ⟨c.a, 0, none⟩) := ev h32
  have hw : Region.wanted o (yielded (opsOf Try.f3 21) a.tmps) = true := (wanted_some hgd rfl rfl h31)
  have hs := goes_ (P := Try.prog) (Q := Q) (a := a) (w := w1) (K := fun a' w' => ∃ v, a' = a.put (some (dst 33)) v ∧ Below w1.heap.size w1 w' ∧ Pst c 33 v w') Try.func20 (by kernel_rfl) rfl (#[.pointer (some ⟨c.a, 0, none⟩)] : Array Value) hw hd hop ?ha ?hc
  · rw [if_pos hw] at hs
    exact ⟨hw, hs⟩
  case ha => simp only [List.map_toArray, List.map_cons, List.map_nil, q118]
  case hc =>
    have hL : LRV w w1 c.a c.g c.ids (.slice c.A c.m c.c) := h.lrv.grows hb
    refine (LR.lenL hL.lr).mono ?_
    rintro e w' ⟨rfl, rfl⟩
    exact ⟨_, rfl, _, rfl, Below.refl _ _, by rw [h.hm]; rfl⟩
theorem loc34 (h : Ok w c a0 W) : D.Loc Try.prog .any (opsOf Try.f3 21) Q dst a0 W (Pst c) 34 := by
  intro o a w1 ho hb hk hn
  have e := Option.some.inj (ho.symm.trans (rfl : (opsOf Try.f3 21)[34]? = some _))
  have hop : o.op = Op.move (Operand.tmp 6) := by subst e; rfl
  have hd : o.dst = some (dst 34) := by subst e; rfl
  have hgd : o.guard = some (31, false) := by subst e; rfl
  obtain ⟨v31, h31, p31⟩ := hn 31 (by subst e; decide)
  obtain rfl : v31 = .bool false := p31
  have q6 : a.eval (.tmp 6) = .pointer (some ⟨c.g, 0, none⟩) := ev ((hk 6 (dst_ne (by decide) _)).trans h.b6)
  exact ⟨(wanted_some hgd rfl rfl h31), value_ hd (move_ hop q6) ⟨_, rfl, Below.refl _ _, rfl⟩⟩
theorem loc35 (h : Ok w c a0 W) : D.Loc Try.prog .any (opsOf Try.f3 21) Q dst a0 W (Pst c) 35 := by
  intro o a w1 ho hb hk hn
  have e := Option.some.inj (ho.symm.trans (rfl : (opsOf Try.f3 21)[35]? = some _))
  have hop : o.op = Op.nilCheck (Operand.tmp 120) := by subst e; rfl
  have hd : o.dst = some (dst 35) := by subst e; rfl
  have hgd : o.guard = some (31, false) := by subst e; rfl
  obtain ⟨v31, h31, p31⟩ := hn 31 (by subst e; decide)
  obtain rfl : v31 = .bool false := p31
  obtain ⟨v34, h34, p34⟩ := hn 34 (by subst e; decide)
  obtain rfl : v34 = .pointer (some ⟨c.g, 0, none⟩) := p34
  have q120 : a.eval (.tmp 120) = .pointer (some ⟨c.g, 0, none⟩) := ev h34
  refine ⟨(wanted_some hgd rfl rfl h31), value_ (v := .pointer (some ⟨c.g, 0, none⟩)) hd ?_ ⟨_, rfl, Below.refl _ _, rfl⟩⟩
  unfold execOp
  rw [hop]
  clear hn hk ho e hop hb hgd hd h
  simp only [q120]
  first | rfl | (go_simp; done) | (go_simp; rfl)
theorem loc36 (h : Ok w c a0 W) : D.Loc Try.prog .any (opsOf Try.f3 21) Q dst a0 W (Pst c) 36 := by
  intro o a w1 ho hb hk hn
  have e := Option.some.inj (ho.symm.trans (rfl : (opsOf Try.f3 21)[36]? = some _))
  have hop : o.op = Op.fieldAddr 30 (Operand.tmp 121) 0 := by subst e; rfl
  have hd : o.dst = some (dst 36) := by subst e; rfl
  have hgd : o.guard = some (31, false) := by subst e; rfl
  obtain ⟨v31, h31, p31⟩ := hn 31 (by subst e; decide)
  obtain rfl : v31 = .bool false := p31
  obtain ⟨v35, h35, p35⟩ := hn 35 (by subst e; decide)
  obtain rfl : v35 = .pointer (some ⟨c.g, 0, none⟩) := p35
  have q121 : a.eval (.tmp 121) = .pointer (some ⟨c.g, 0, none⟩) := ev h35
  refine ⟨(wanted_some hgd rfl rfl h31), value_ (v := .pointer (some ⟨c.g, 0, none⟩)) hd ?_ ⟨_, rfl, Below.refl _ _, rfl⟩⟩
  unfold execOp
  rw [hop]
  clear hn hk ho e hop hb hgd hd h
  simp only [q121]
  first | rfl | (go_simp; done) | (go_simp; rfl)
theorem loc37 (h : Ok w c a0 W) : D.Loc Try.prog .any (opsOf Try.f3 21) Q dst a0 W (Pst c) 37 := by
  intro o a w1 ho hb hk hn
  have e := Option.some.inj (ho.symm.trans (rfl : (opsOf Try.f3 21)[37]? = some _))
  have hop : o.op = Op.load 28 (Operand.tmp 122) := by subst e; rfl
  have hd : o.dst = some (dst 37) := by subst e; rfl
  have hgd : o.guard = some (31, false) := by subst e; rfl
  obtain ⟨v31, h31, p31⟩ := hn 31 (by subst e; decide)
  obtain rfl : v31 = .bool false := p31
  obtain ⟨v36, h36, p36⟩ := hn 36 (by subst e; decide)
  obtain rfl : v36 = .pointer (some ⟨c.g, 0, none⟩) := p36
  have q122 : a.eval (.tmp 122) = .pointer (some ⟨c.g, 0, none⟩) := ev h36
  have hL : LRV w w1 c.a c.g c.ids (.slice c.A c.m c.c) := h.lrv.grows hb
  have hcell := hL.cell
  have hu := Try.underlying28
  refine ⟨(wanted_some hgd rfl rfl h31), value_ (v := .slice c.A c.m c.c) hd ?_ ⟨_, rfl, Below.refl _ _, rfl⟩⟩
  unfold execOp
  rw [hop]
  clear hn hk ho e hop hb hgd hd h
  simp only [q122]
  first | rfl | (go_simp; done) | (go_simp; rfl)
theorem loc38 (h : Ok w c a0 W) : D.Loc Try.prog .any (opsOf Try.f3 21) Q dst a0 W (Pst c) 38 := by
  intro o a w1 ho hb hk hn
  have e := Option.some.inj (ho.symm.trans (rfl : (opsOf Try.f3 21)[38]? = some _))
  have hop : o.op = Op.call { callee := Callee.builtin Builtin.len, args := #[Operand.tmp 123], argTypes := #[28] } := by subst e; rfl
  have hd : o.dst = some (dst 38) := by subst e; rfl
  have hgd : o.guard = some (31, false) := by subst e; rfl
  obtain ⟨v31, h31, p31⟩ := hn 31 (by subst e; decide)
  obtain rfl : v31 = .bool false := p31
  obtain ⟨v37, h37, p37⟩ := hn 37 (by subst e; decide)
  obtain rfl : v37 = .slice c.A c.m c.c := p37
  have q123 : a.eval (.tmp 123) = .slice c.A c.m c.c := ev h37
  refine ⟨(wanted_some hgd rfl rfl h31), value_ (v := .int .i64 c.m) hd ?_ ⟨_, rfl, Below.refl _ _, rfl⟩⟩
  unfold execOp
  rw [hop]
  clear hn hk ho e hop hb hgd hd h
  simp only [resolve, invoke, builtin, Sem.run_bind, Sem.run_pure, Result.andThen_ok, List.map_toArray, List.map_cons, List.map_nil, q123]
  first | rfl | (go_simp; done) | (go_simp; rfl)
theorem loc39 (h : Ok w c a0 W) : D.Loc Try.prog .any (opsOf Try.f3 21) Q dst a0 W (Pst c) 39 := by
  intro o a w1 ho hb hk hn
  have e := Option.some.inj (ho.symm.trans (rfl : (opsOf Try.f3 21)[39]? = some _))
  have hop : o.op = Op.binOp BinOp.neq 3 (Operand.tmp 119) (Operand.tmp 124) 3 := by subst e; rfl
  have hd : o.dst = some (dst 39) := by subst e; rfl
  have hgd : o.guard = some (31, false) := by subst e; rfl
  obtain ⟨v31, h31, p31⟩ := hn 31 (by subst e; decide)
  obtain rfl : v31 = .bool false := p31
  obtain ⟨v33, h33, p33⟩ := hn 33 (by subst e; decide)
  obtain rfl : v33 = .int .i64 c.m := p33
  obtain ⟨v38, h38, p38⟩ := hn 38 (by subst e; decide)
  obtain rfl : v38 = .int .i64 c.m := p38
  have q119 : a.eval (.tmp 119) = .int .i64 c.m := ev h33
  have q124 : a.eval (.tmp 124) = .int .i64 c.m := ev h38
  refine ⟨(wanted_some hgd rfl rfl h31), value_ (v := .bool false) hd ?_ ⟨_, rfl, Below.refl _ _, rfl⟩⟩
  unfold execOp
  rw [hop]
  clear hn hk ho e hop hb hgd hd h
  simp only [q119, q124]
  first | rfl | (go_simp; done) | (go_simp; rfl)
theorem loc40 (h : Ok w c a0 W) : D.Loc Try.prog .any (opsOf Try.f3 21) Q dst a0 W (Pst c) 40 := by
  intro o a w1 ho hb hk hn
  have e := Option.some.inj (ho.symm.trans (rfl : (opsOf Try.f3 21)[40]? = some _))
  have hop : o.op = Op.pick (Operand.tmp 117) (Operand.const (Value.bool true)) (Operand.tmp 125) := by subst e; rfl
  have hd : o.dst = some (dst 40) := by subst e; rfl
  have hgd : o.guard = none := by subst e; rfl
  obtain ⟨v31, h31, p31⟩ := hn 31 (by subst e; decide)
  obtain rfl : v31 = .bool false := p31
  obtain ⟨v39, h39, p39⟩ := hn 39 (by subst e; decide)
  obtain rfl : v39 = .bool false := p39
  have q117 : a.eval (.tmp 117) = .bool false := ev h31
  have q125 : a.eval (.tmp 125) = .bool false := ev h39
  refine ⟨(wanted_none hgd), value_ (v := .bool false) hd ?_ ⟨_, rfl, Below.refl _ _, rfl⟩⟩
  unfold execOp
  rw [hop]
  clear hn hk ho e hop hb hgd hd h
  simp only [q117, q125]
  first | rfl | (go_simp; done) | (go_simp; rfl)
end
theorem Pst_grows (c : Cx) (j : Nat) (v : Value) (w w' : World) (hb : Below w.heap.size w w') (h : Pst c j v w) : Pst c j v w' := by
  unfold Pst at *
  split at h <;> first | exact h | (obtain ⟨B, hB⟩ := h; exact ⟨B, hB.below hb⟩)
theorem locs {Q : Exit → Act → World → Prop} {w : World} {c : Cx} {a0 : Act} {W : World} (h : Ok w c a0 W) : ∀ i, i < (opsOf Try.f3 21).size → D.Loc Try.prog .any (opsOf Try.f3 21) Q dst a0 W (Pst c) i := by
  intro i hi
  have hs : (opsOf Try.f3 21).size = 41 := by kernel_rfl
  rw [hs] at hi
  match i, hi with
  | 0, _ => exact loc0 h
  | 1, _ => exact loc1 h
  | 2, _ => exact loc2 h
  | 3, _ => exact loc3 h
  | 4, _ => exact loc4 h
  | 5, _ => exact loc5 h
  | 6, _ => exact loc6 h
  | 7, _ => exact loc7 h
  | 8, _ => exact loc8 h
  | 9, _ => exact loc9 h
  | 10, _ => exact loc10 h
  | 11, _ => exact loc11 h
  | 12, _ => exact loc12 h
  | 13, _ => exact loc13 h
  | 14, _ => exact loc14 h
  | 15, _ => exact loc15 h
  | 16, _ => exact loc16 h
  | 17, _ => exact loc17 h
  | 18, _ => exact loc18 h
  | 19, _ => exact loc19 h
  | 20, _ => exact loc20 h
  | 21, _ => exact loc21 h
  | 22, _ => exact loc22 h
  | 23, _ => exact loc23 h
  | 24, _ => exact loc24 h
  | 25, _ => exact loc25 h
  | 26, _ => exact loc26 h
  | 27, _ => exact loc27 h
  | 28, _ => exact loc28 h
  | 29, _ => exact loc29 h
  | 30, _ => exact loc30 h
  | 31, _ => exact loc31 h
  | 32, _ => exact loc32 h
  | 33, _ => exact loc33 h
  | 34, _ => exact loc34 h
  | 35, _ => exact loc35 h
  | 36, _ => exact loc36 h
  | 37, _ => exact loc37 h
  | 38, _ => exact loc38 h
  | 39, _ => exact loc39 h
  | 40, _ => exact loc40 h
  | n + 41, hi => omega
theorem region21 {Q : Exit → Act → World → Prop} {w : World} {c : Cx} {a0 : Act} {W : World} (hn : a0.tmps.size = 128) (h : Ok w c a0 W.drew)
    (hQ : ∀ a w', a.defers = a0.defers → a.tmps.size = 128 → (∀ t, t < 86 → a.tmps[t]? = a0.tmps[t]?) → a.tmps[127]? = a0.tmps[127]? → a.tmps[126]? = some (.bool false) → Below W.drew.heap.size W.drew w' → Q .normal a w') : (Code.region 21 (opsOf Try.f3 21) true).wp Try.prog Q a0 W := by
  have hs : (opsOf Try.f3 21).size = 41 := by kernel_rfl
  refine draw dst 128 (by kernel_rfl) rfl (by kernel_rfl) a0 W hn (fun i hi => by rw [hs] at hi; unfold dst; omega) (fun i j hi hj => by unfold dst; omega) (Pst c) (Pst_grows c) (locs h) ?_
  intro a w' h1 h2 h3 hb hp
  obtain ⟨v, hv, hpv⟩ := hp 40 (by rw [hs]; decide)
  obtain rfl : v = .bool false := hpv
  exact hQ a w' h1 h2 (fun t ht => h3 t (dst_ne ht _)) (h3 127 (fun i hi => by rw [hs] at hi; unfold dst; omega)) hv hb
end Go.Proofs.Ytcbjhljecjgdcaa.L
