/- append onto a row that the call owns, the old value still of use behind it. -/
import Derived.Test.YtojepleodijdeaaB0
import Derived.ArgAppend
import Derived.Maps.AppendAt
namespace Go.Proofs.Ytojepleodijdeaa.B
open Go Go.RowKit Go.Proofs.YtojepleodijdeaaW.PrintWords Go.Proofs.YtojepleodijdeaaW.PrintLast Go.Proofs.YtojepleodijdeaaW.PrintMore
set_option linter.unusedVariables false
set_option linter.unusedSimpArgs false

theorem own_append2 {P : Program} (w : World) (base : Nat) (t ty e : TypeId) (i : TypeInfo) (z : Value) (size bytes : Nat) (ht : P.underlying t = some (.slice e)) (hi : P.info? e = some i) (hz : i.zero = some z)
    (hsize : i.size = size) (hby : i.bytes = bytes) (hzs : z.cells.size = size) (hsz : 0 < size)
    (v : Value) (n : Nat) (xs : List Value) (hn : 0 < n) (hown : w.ownsRow base e size v n xs)
    (a : Addr) (m c : Nat) (news : List Value) (hl : news.length = m * size) (hnews : ∀ j u, news[j]? = some u → w.cell? (a.add j) = some u) (h1 : ∀ u ∈ news, u.oneCell' = true)
    (h63 : n + m ≤ maxLen) (hbytes : (n + m) * bytes ≤ 140737488355328) (hbase : base ≤ w.heap.size) :
    ∃ v' w', (Builtin.append_ #[t, t] ty #[v, .slice (some a) m c]).run P w = .ok v' w' ∧ w'.ownsRow base e size v' (n + m) (xs ++ news) ∧ w'.ownsRow base e size v n xs ∧ w.grownBy w' v.ownBlock := by
  obtain ⟨v1, w1, hr, ho, hg, _, hat⟩ := run_append_own_at (P := P) w base t ty e i z size bytes ht hi hz hsize hby hzs hsz v n xs hown a m c news hl hnews h1 h63 hbytes hbase
  obtain ⟨hxl, ⟨_, h0⟩ | ⟨g, cap, cur, hv, hb, hg0, hncap, hcap, hcs, htk⟩⟩ := hown
  · omega
  subst hv
  by_cases hroom : n + m ≤ cap
  · have hrm := run_append_room_cells (P := P) w t ty e i ht hi g 0 n cap a m c news (by rw [hsize]; exact hl) hnews h1 hroom ?_ ?_
    · rw [hrm] at hr
      injection hr with e1 e2
      subst e1
      refine ⟨_, w1, hrm.trans (by rw [e2]), ho, ?_, hg⟩
      obtain ⟨_, ⟨_, h0⟩ | ⟨g1, cap1, cur1, hv1, hb1, hg1, hncap1, hcap1, hcs1, htk1⟩⟩ := ho
      · omega
      injection hv1 with ea eb ec
      injection ea with ea
      injection ea with ea
      subst ea
      subst ec
      refine ⟨hxl, .inr ⟨g, cap, cur1, rfl, hb, hg1, hncap, hcap, hcs1, ?_⟩⟩
      have : (cur1.toList.take ((n + m) * size)).take (n * size) = cur1.toList.take (n * size) := by
        rw [List.take_take, Nat.min_eq_left (Nat.mul_le_mul_right _ (by omega))]
      rw [← this, htk1, ← hxl]
      exact List.take_left
    · intro j hj
      subst hsize
      have h2 : n * i.size + news.length ≤ cap * i.size := by rw [hl, ← Nat.add_mul]; exact Nat.mul_le_mul_right _ hroom
      have : n * i.size + j < cur.size := by omega
      simp [World.cell?, hg0, this]
    · intro j hj
      simp [World.frozen?, hg0]
  · subst hsize
    have hrm := run_append_arg_grows (P := P) w t ty e i z i.size bytes ht hi hz rfl hby hzs hsz ⟨g, 0, none⟩ n cap xs hxl ?_ a m c news hl hnews (by omega) h63 hbytes
    · obtain ⟨v2, w2, hr2, ho2, hg2⟩ := hrm
      rw [hr2] at hr
      injection hr with e1 e2
      subst e1 e2
      refine ⟨_, _, hr2, ho, ?_, hg⟩
      have hlt : g < w.heap.size := by
        rcases Nat.lt_or_ge g w.heap.size with hlt | hge
        · exact hlt
        · rw [Array.getElem?_eq_none hge] at hg0; cases hg0
      exact ⟨hxl, .inr ⟨g, cap, cur, rfl, hb, (hg2.block g hlt (by simp)).trans hg0, hncap, hcap, hcs, htk⟩⟩
    · intro j u hj
      subst htk
      have hjl := (List.getElem?_eq_some_iff.1 hj).1
      rw [List.getElem?_take] at hj
      split at hj
      · rw [Addr.add_lit]
        simp only [World.cell?, hg0]
        simpa using hj
      · cases hj

section
variable {P : Program} {ops : Array Oper} {rest : List Oper} {o : Oper} {a : Act} {Q : Exit → Act → World → Prop}
theorem append2_num {w0 W : World} (base : Nat) (hgd : o.guard = none) (s x : Operand) (t e : TypeId) (k : IntKind) (bytes : Nat)
    (ho : o.op = .call { callee := .builtin .append, args := #[s, x], argTypes := #[t, t] })
    (ht : P.underlying t = some (.slice e)) (hinfo : (P.info? e).map (fun i => (i.zero, i.size, i.bytes)) = some (some (.int k 0), 1, bytes)) (hb0 : 0 < bytes)
    (v : Value) (xs : List Int) (p : Int) (hxs : 0 < xs.length) (hs : a.eval s = v) (hx : a.eval x = .slice (some ⟨W.heap.size, 0, none⟩) 1 1)
    (HO : Kd.R (Kd.int k) e W base (fun _ => True) v xs) (HB : Below base w0 W) (hbase : base ≤ W.heap.size) (hl : (xs.length + 1) * bytes ≤ 140737488355328)
    (h : ∀ v1 w1, Kd.R (Kd.int k) e w1 base (fun _ => True) v1 (xs ++ [p]) → Kd.R (Kd.int k) e w1 base (fun _ => True) v xs → Below base w0 w1 → W.grownBy w1 v.ownBlock → wpList P ops Q rest (a.put o.dst v1) w1) :
    wpList P ops Q (o :: rest) a (W.alloc (.cells #[.int k p] e)) := by
  obtain ⟨i0, hi, hzz⟩ := Option.map_eq_some_iff.1 hinfo
  simp only [Prod.mk.injEq] at hzz
  obtain ⟨hz0, hz1, hz2⟩ := hzz
  have hlen : xs.length + 1 ≤ 140737488355328 := Nat.le_trans (Nat.le_mul_of_pos_right _ hb0) hl
  obtain ⟨h0, inner, hown, hr⟩ := HO
  obtain ⟨v1, w1, hrun, hown1, hown2, hg⟩ := own_append2 (P := P) (W.alloc (.cells #[.int k p] e)) base t o.type e i0 (.int k 0) 1 bytes ht hi hz0 hz1 hz2 rfl (by decide) v xs.length inner hxs (hown.alloc _) ⟨W.heap.size, 0, none⟩ 1 1 [.int k p] rfl
    (by simpa using World.news_of_block (cs := #[.int k p]) (t := e) (fr := (0, 0)) (heap_alloc_new W (.cells #[.int k p] e))) (by simp [Value.oneCell']) (by simp only [maxLen]; omega) hl (by simp; omega)
  refine wpList_plain hgd fun K hK => ?_
  unfold Oper.wp
  subst hs
  simp [execOp, ho, resolve, invoke, builtin, hx, hrun, Result.andThen]
  refine hK _ _ (h v1 w1 ?_ ?_ ((HB.alloc hbase _).grown hg (by simp; omega) (own_base hown)) (World.grownBy.trans (World.grownBy_alloc W _ _) hg))
  · have hr2 : Reps ((Kd.int k).M w1 base (fun j => True ∧ some j ≠ v1.ownBlock)) 1 xs inner := hr
    have hp : (Kd.int k).M w1 base (fun j => True ∧ some j ≠ v1.ownBlock) p [.int k p] := rfl
    refine ⟨fun _ _ => trivial, inner ++ [.int k p], ?_, hr2.snoc hp rfl⟩
    rw [List.length_append]
    exact hown1
  · exact ⟨fun _ _ => trivial, inner, hown2, hr⟩
end
end Go.Proofs.Ytojepleodijdeaa.B
