/- Own text: lane.All; First and All as plain calls; Take. -/
import Derived.Test.YtcbjhljecjgdcaaM5
set_option linter.unusedVariables false
set_option linter.unusedSimpArgs false
namespace Go.Proofs.Ytcbjhljecjgdcaa.L
open Go Go.RowKit Go.MapKept Go.Shelf
open Go.ChangeMaps (setBlock)
attribute [local go_sem] Oper.semAt_some

theorem info23 : (Try.prog.info? 23).map (fun i => (i.zero, i.size, i.bytes)) = some (some (.int .u64 0), 1, 8) := by kernel_rfl
set_option maxRecDepth 100000 in
set_option maxHeartbeats 2000000 in
theorem all_in (F : Fence) (n : Nat) (h17 : F.fn 17) (h21 : F.fn 21) (h22 : F.fn 22) (hro : F.round = none) (hn : 3 ≤ n) (b m : Nat) (L : List (Int × Nat)) (hlen : L.length ≤ 100000) (w : World) (hL : Lane w b m L) :
    CallsIn F n Try.prog 17 #[.pointer (some ⟨b, 0, none⟩)] w fun e W' => ∃ v, e = .returned v ∧ W'.ownsRow w.heap.size 23 1 v L.length ((L.map Prod.fst).map (Value.int .u64)) ∧ Below w.heap.size w W' := by
  have h1 : 1 ≤ n := by omega
  obtain ⟨i0, hi, hz0, hz1, hz2⟩ := info_parts info23
  refine callsIn_of_wp_marks Try.func17 rfl h17 ?_ hro
  simp only [Try.ntmps17, List.size_toArray, List.length_cons, List.length_nil, Nat.reduceAdd, Nat.reduceSub, Array.replicate_succ, Array.replicate_zero, List.push_toArray, List.append_toArray, List.nil_append, List.cons_append]
  gi_wp2_with (gi_at_call 21; refine (each_in F (n - 1) h21 hro _ _).mono ?_; rintro e w' ⟨rfl, rfl⟩)
  have bO := Boxed.new w 28 (.slice none 0 0)
  have bN := Boxed.new (w.alloc (.cells #[.slice none 0 0] 28)) 25 (.pointer (some ⟨b, 0, none⟩))
  rw [World.size_alloc] at bN
  have hB0 : Below w.heap.size w ((w.alloc (.cells #[.slice none 0 0] 28)).alloc (.cells #[.pointer (some ⟨b, 0, none⟩)] 25)) := ((Below.refl _ w).alloc (Nat.le_refl _) _).alloc (by simp) _
  have hL0 := hL.frame fun k hk => hB0.block k (hL.lt hk)
  refine wpIn_rangeFunc_ownG hro h1 (gf := 22) (lb := #[.pointer (some ⟨w.heap.size + 1, 0, none⟩)]) rfl h22 (enters_of Try.func22 (by kernel_rfl) rfl)
    (each_stops F (n - 1) h22 hro (by omega) w.heap.size (w.heap.size + 1) b m L _ (by simp) bN.cell hL0 (fun k hk => hL.lt hk)) KpB.trans (KpB.put (by simp; omega) (by simp)) (Below.refl _ _) (fun _ => rfl)
    (fun pre W => ((∃ v, Boxed W w.heap.size 28 v ∧ W.ownsRow w.heap.size 23 1 v pre.length (pre.map (Value.int .u64)) ∧ True) ∧ Boxed W (w.heap.size + 1) 25 (.pointer (some ⟨b, 0, none⟩))) ∧ Below w.heap.size w W)
    (fun _ _ _ => False)
    (OwnFrom.and (Own.from (fun s A B row hs hg hr => ⟨holdsRow_own w.heap.size w.heap.size 28 23 1 (fun pre : List Int => pre.length) (fun pre => pre.map (Value.int .u64)) (fun pre v => True) s A B row hs.1 hg hr, boxed_keeps hs.2 hg hr⟩) _) (ownFrom_below (Nat.le_refl _) (by simp; omega)))
    (fun _ _ _ _ _ hs _ _ => hs)
    ⟨⟨⟨_, bO.alloc _, World.ownsRow_nil _ _ _ _, trivial⟩, bN⟩, hB0⟩
    (fun x => { tmps := #[.pointer (some ⟨b, 0, none⟩), undef, .slice none 0 0, .pointer (some ⟨w.heap.size, 0, none⟩), .int .u64 x, .pointer (some ⟨b, 0, none⟩), .func (.func 22) #[] #[.pointer (some ⟨w.heap.size + 1, 0, none⟩)], .int .u64 x, undef, undef, undef, undef, undef], defers := [] }) ?assign ?body ?done ?stop
  case assign =>
    intro l x W K hK
    gi_wp2
    exact hK
  case body =>
    rintro l pre x W ⟨⟨⟨v, hv, hrow, _⟩, hN⟩, hB⟩ hlt
    have hc := hv.cell
    gi_wp2_with (gi_at_builtin; refine wpListIn_append_own _ rfl _ _ 28 rfl w.heap.size 23 i0 (.int .u64 0) 1 8 Try.underlying28 hi hz0 hz1 hz2 rfl (by decide) _ _ _ rfl (hrow.alloc _) ⟨W.heap.size, 0, none⟩ 1 1 [.int .u64 x] rfl rfl (cell_one_new _ _ _) (by simp [Value.oneCell']) (by simp only [maxLen]; omega) (by omega) (by have := hB.size; simp; omega) ?_; intro v' w1 hown' hgrow _; obtain ⟨g', cap', rfl⟩ := ownsRow_succ hown'; obtain ⟨hv1, hv2, hr2, hk2, hb2⟩ := hv.appended (by decide) hrow hB.size (Nat.le_refl _) hown' hgrow; have hc1 := hv1.cell; have hf1 := hv1.frozen)
    have hg1 : (W.alloc (.cells #[.int .u64 x] 23)).grownBy w1 v.ownBlock := hgrow
    have hN2 : Boxed (w1.setCell ⟨w.heap.size, 0, none⟩ (.slice (some ⟨g', 0, none⟩) (pre.length + 1) cap')) (w.heap.size + 1) 25 (.pointer (some ⟨b, 0, none⟩)) :=
      boxed_other ((hN.alloc _).kept hg1 (hN.not_row (by decide) hrow)) (by omega)
    exact ⟨hk2.from _, ⟨hb2, hN2.trans (Eq.symm hN)⟩, ⟨⟨_, hv2, by simpa using hr2, trivial⟩, hN2⟩, hB.trans hb2⟩
  case done =>
    rintro D ys W hD rfl ⟨⟨⟨v, hv, hrow, _⟩, hN⟩, hB⟩ hK
    have hc := hv.cell
    gi_wp2
    refine ⟨by simp, .inl ⟨_, _, rfl, run_takeDeferred hK, ?_⟩⟩
    exact ⟨_, results_tmp rfl _ _ _, v, rfl, by simpa using ownsRow_putObj hrow _ hK rfl, hB.trans (belowK_b (w := w) (Nat.le_refl _) W D _ _ (by simp at hD; omega) hK rfl rfl)⟩
  case stop =>
    rintro D c pre W _ _ h _
    exact h.elim
theorem first_calls (b m : Nat) (L : List (Int × Nat)) (w : World) (hL : Lane w b m L) :
    Calls Try.prog 14 #[.pointer (some ⟨b, 0, none⟩)] w fun e W' => e = .returned (.tuple #[.int .u64 ((L.map Prod.fst).headD 0), .bool (!L.isEmpty)]) ∧ Below w.heap.size w W' :=
  callsIn_wide.1 (first_in Fence.wide 3 trivial trivial trivial rfl (by omega) b m L w hL)
theorem all_calls (b m : Nat) (L : List (Int × Nat)) (hlen : L.length ≤ 100000) (w : World) (hL : Lane w b m L) :
    Calls Try.prog 17 #[.pointer (some ⟨b, 0, none⟩)] w fun e W' => ∃ v, e = .returned v ∧ W'.ownsRow w.heap.size 23 1 v L.length ((L.map Prod.fst).map (Value.int .u64)) ∧ Below w.heap.size w W' :=
  callsIn_wide.1 (all_in Fence.wide 3 trivial trivial trivial rfl (by omega) b m L hlen w hL)
end Go.Proofs.Ytcbjhljecjgdcaa.L
