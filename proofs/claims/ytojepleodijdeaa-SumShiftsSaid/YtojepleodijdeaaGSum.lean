/- By hand: sum.Table, sum.More (a table by value), sum.Put (slices.Concat, slices.Grow), slices.Clone. -/
import Derived.Test.YtojepleodijdeaaB3
import Derived.Test.YtojepleodijdeaaC1
import Derived.Lib.LazyBuf
import Derived.Lib.AppendZeros
namespace Go.Proofs.Ytojepleodijdeaa.B
open Go.RowKit Go.Proofs.YtojepleodijdeaaW.PrintWords Go.Proofs.YtojepleodijdeaaW.PrintLast Go.Proofs.YtojepleodijdeaaW.PrintMore
open Go.Proofs.Ytojepleodijdeaa.VP (w32 b32 crcByte crcL entry_at xor32 w32_lt)
open Go.Proofs.Ytojepleodijdeaa.Crc (steps)
set_option linter.unusedVariables false
set_option linter.unusedSimpArgs false

/-- the table's i-th number -/
def tabE (i : Nat) : Int := w32 (steps 8 (BitVec.ofNat 32 i))
def tabN (k : Nat) : List Value := ((List.range k).map fun i => Value.int .u32 (tabE i)) ++ List.replicate (256 - k) (.int .u32 0)
theorem tabN_length (k : Nat) (h : k ≤ 256) : (tabN k).length = 256 := by simp [tabN]; omega
theorem tabN_zero : Try.zeroCells47 = (tabN 0).toArray := by kernel_rfl
theorem tabN_set (k : Nat) (h : k < 256) : (tabN k).toArray.setIfInBounds k (.int .u32 (tabE k)) = (tabN (k + 1)).toArray := by
  rw [List.setIfInBounds_toArray]
  refine congrArg List.toArray (List.ext_getElem ?_ ?_)
  · simp [tabN]; omega
  · intro i h1 h2
    rw [List.getElem_set]
    simp only [tabN, List.getElem_append, List.length_map, List.length_range, List.getElem_map, List.getElem_range, List.getElem_replicate]
    split
    · subst_vars; simp
    · rename_i hne
      split <;> split <;> first | rfl | omega
theorem tabN_one (k : Nat) : (tabN k).toArray.all (·.oneCell') = true := by
  rw [Array.all_eq_true_iff_forall_mem]
  intro x hx
  simp only [List.mem_toArray, tabN, List.mem_append, List.mem_map, List.mem_replicate] at hx
  rcases hx with ⟨i, _, rfl⟩ | ⟨_, rfl⟩ <;> rfl
theorem tabN_at (k i : Nat) (hk : k ≤ 256) (hi : i < 256) : ∃ v, (tabN k).toArray[i]? = some v := by
  have : i < (tabN k).length := by rw [tabN_length k hk]; exact hi
  exact ⟨(tabN k)[i], by simp [List.getElem?_eq_getElem this]⟩
theorem tab_at (i : Nat) (hi : i < 256) : (tabN 256).toArray[i]? = some (.int .u32 (tabE i)) := by
  simp [tabN, List.getElem?_append, hi]
theorem info47 : (Try.prog.info? 47).map (·.size) = some 256 := by kernel_rfl
theorem entry_nat (k : Nat) (h : k < 256) : sum_entry.f 9 (k : Int) = some (tabE k) := by
  have := entry_at (BitVec.ofNat 32 k)
  rwa [show w32 (BitVec.ofNat 32 k) = (k : Int) by unfold w32; rw [BitVec.toNat_ofNat]; omega] at this

theorem below_setRow {B : Nat} {w W : World} (h : Below B w W) {g : Nat} (hg : B ≤ g) (cs : Array Value) : Below B w (W.setRow g cs) :=
  ⟨h.os, h.tape, h.output, by simp; exact h.size, fun i hi => (setRow_other W g i cs (by omega)).trans (h.block i hi)⟩
set_option maxRecDepth 100000 in
set_option maxHeartbeats 1000000 in
theorem table_calls (w : World) : Calls Try.prog 41 #[] w fun e w' => e = .returned (.agg (tabN 256).toArray) ∧ Below w.heap.size w w' := by
  go_enter Try.func41, Try.ntmps41
  go_wp2
  rw [tabN_zero]
  go_loopw [3] (fun i wr => ∃ k : Nat, i = .int .i64 k ∧ k ≤ 256 ∧ Aside0 (wr.heap[w.heap.size]? = some (.cells (tabN 0).toArray 47 (0, 0))) ∧ Aside0 (wr.heap[w.heap.size + 1]? = some (.cells (tabN k).toArray 47 (0, 0))) ∧ Aside0 (Below w.heap.size w wr)) (fun i _ => 256 - (intOf i).toNat)
  case atStart => exact ⟨0, rfl, by omega, ⟨heap_alloc2_old w _ _⟩, ⟨heap_alloc2_new w _ _⟩, ⟨(((Below.refl _ _).alloc (Nat.le_refl _) _).alloc (by simp) _)⟩⟩
  case round =>
    obtain ⟨k, rfl, hk, H0, H1, HB⟩ := hrel
    by_cases hlt : k < 256
    · have hk1 : (k : Int) < 256 := by omega
      have hE := Aside0.mk (entry_nat k hlt)
      obtain ⟨v, hv⟩ := tabN_at k k hk hlt
      have hc : wr.cell? ⟨w.heap.size + 1, k, none⟩ = some v := (blk_cell H1.out k).trans hv
      have hf := blk_frozen H1.out k
      have hw : IntKind.u32.wrap (k : Int) = (k : Int) := by rw [IntKind.wrap_u32]; omega
      go_wp2_with (go_at_call 74; refine (sum_entry.calls 9 (k : Int) (tabE k) _ hE.out).mono ?_; rintro e w' ⟨rfl, hd⟩; obtain ⟨nd, hd2⟩ := hd.out; subst hd2)
      go_roundw
      case rel =>
        refine ⟨k + 1, by go_num, by omega, ⟨?_⟩, ⟨?_⟩, ⟨?_⟩⟩
        · rw [heap_setCell_other _ _ _ _ (by simp)]; exact H0.out
        · rw [← tabN_set k hlt]; exact blk_set (w := wr.drewN nd) H1.out k _
        · exact (pw_below_drewN HB.out nd).setCell (p := ⟨w.heap.size + 1, k, none⟩) (by simp) _
      case measure => simp [intOf]; omega
    · have hk2 : k = 256 := by omega
      subst hk2
      have hs : (tabN 256).toArray.size = 256 := by simp [tabN_length]
      have HI : Aside0 ((Try.prog.info? 47).map (·.size) = some (tabN 256).toArray.size) := ⟨by rw [hs]; exact info47⟩
      have HZ : Aside0 ((tabN 0).toArray.size = (tabN 256).toArray.size) := ⟨by rw [hs]; simp [tabN_length]⟩
      clear hs
      go_wp2_with (first | (refine wpList_load_row rfl 47 _ rfl (w.heap.size + 1) rfl 47 _ (0, 0) _ H1.out Try.underlying47 rfl HI.out ?_) | (refine wpList_store_row rfl 47 _ _ rfl w.heap.size _ rfl rfl 47 _ H0.out HI.out HZ.out (tabN_one 256) ?_))
      exact bodyPost_ret (results_cell_row rfl _ _ w.heap.size 47 _ (0, 0) _ rfl (setRow_heap _ _ _ _ _ _ H0.out) Try.underlying47 rfl HI.out) rfl ⟨rfl, below_setRow HB.out (Nat.le_refl _) _⟩

theorem not32 {a : Int} (h : 0 ≤ a ∧ a < 4294967296) : bits BinOp.xor IntKind.u32 IntKind.u32.max a = w32 (~~~ BitVec.ofNat 32 a.toNat) := by
  have e1 : IntKind.u32.max = w32 (BitVec.allOnes 32) := by decide
  have e2 : a = w32 (BitVec.ofNat 32 a.toNat) := by unfold w32; rw [BitVec.toNat_ofNat]; omega
  conv => lhs; rw [e1, e2]
  rw [xor32]
  have e3 : BitVec.allOnes 32 ^^^ BitVec.ofNat 32 a.toNat = ~~~ BitVec.ofNat 32 a.toNat := by
    exact BitVec.allOnes_xor
  rw [e3]
theorem VP_rd {l : List Int} {i : Nat} (h : i < l.length) : rd l (i : Int) = l[i] := by
  simp [rd, List.getD_eq_getElem?_getD, List.getElem?_eq_getElem h]
theorem ofInt8 (z : BitVec 8) : BitVec.ofInt 8 (z.toNat : Int) = z := by
  apply BitVec.eq_of_toNat_eq
  rw [BitVec.ofInt_natCast, BitVec.toNat_ofNat]
  exact Nat.mod_eq_of_lt z.isLt
theorem idx8 (s : BitVec 32) {c : Int} (h : 0 ≤ c ∧ c ≤ 255) : ∃ j : Nat, Aside0 (j < 256 ∧ BitVec.ofNat 32 j = (s ^^^ b32 c) &&& 255#32) ∧ bits .xor .u8 (w32 s % 256) c = (j : Int) := by
  refine ⟨((BitVec.ofNat 8 s.toNat) ^^^ (BitVec.ofNat 8 c.toNat)).toNat, ⟨?_, ?_⟩, ?_⟩
  · exact ((BitVec.ofNat 8 s.toNat) ^^^ (BitVec.ofNat 8 c.toNat)).isLt
  · apply BitVec.eq_of_getLsbD_eq
    intro i hi
    have h255 : (255#32).getLsbD i = decide (i < 8) := by
      have : (255#32) = BitVec.ofNat 32 (2 ^ 8 - 1) := rfl
      rw [this, BitVec.getLsbD_ofNat, Nat.testBit_two_pow_sub_one]
      simp [hi]
    rw [BitVec.getLsbD_and, h255, BitVec.getLsbD_xor, BitVec.getLsbD_ofNat, b32, BitVec.getLsbD_ofNat]
    rw [BitVec.toNat_xor, Nat.testBit_xor, BitVec.toNat_ofNat, BitVec.toNat_ofNat, Nat.testBit_mod_two_pow, Nat.testBit_mod_two_pow]
    by_cases h8 : i < 8
    · simp [h8, hi, BitVec.getLsbD]
    · simp [h8]
  · have e1 : w32 s % 256 = ((BitVec.ofNat 8 s.toNat).toNat : Int) := by unfold w32; rw [BitVec.toNat_ofNat]; omega
    have e2 : c = ((BitVec.ofNat 8 c.toNat).toNat : Int) := by rw [BitVec.toNat_ofNat]; omega
    conv => lhs; rw [e1, e2]
    show IntKind.u8.wrap (((BitVec.ofInt 8 _ ^^^ BitVec.ofInt 8 _).toNat : Nat) : Int) = _
    rw [ofInt8, ofInt8, IntKind.wrap_u8]
    have := ((BitVec.ofNat 8 s.toNat) ^^^ (BitVec.ofNat 8 c.toNat)).isLt
    omega
def sum_More.f (a0 : Int) (l1 : List Int) : Option Int :=
  if (0 ≤ a0 ∧ a0 < 4294967296) ∧ (∀ x ∈ l1, 0 ≤ x ∧ x ≤ 255) then some (w32 (~~~ crcL (~~~ BitVec.ofNat 32 a0.toNat) l1)) else none
set_option maxRecDepth 100000 in
set_option maxHeartbeats 1000000 in
theorem sum_More.calls (a0 : Int) (A1 : Option Addr) (c1 : Nat) (l1 : List Int) (r : Int) (w : World) (hr1 : Kd.C (Kd.int .u8) w A1 l1.length l1) (hc1 : l1.length ≤ c1) (h : sum_More.f a0 l1 = some r) :
    Calls Try.prog 37 #[.int .u32 a0, .slice A1 l1.length c1] w fun e w' => e = .returned (.int .u32 r) ∧ Below w.heap.size w w' := by
  unfold sum_More.f at h
  split at h
  case isFalse => cases h
  rename_i hg
  obtain ⟨ha, hb⟩ := hg
  obtain rfl := Option.some.inj h
  clear h
  have HR := Aside0.mk hr1
  have hle := hr1.2.1
  have HC := Aside0.mk hc1
  clear hr1 hc1
  go_enter Try.func37, Try.ntmps37
  have hs : (tabN 256).toArray.size = 256 := by simp [tabN_length]
  have HI : Aside0 ((Try.prog.info? 47).map (·.size) = some (tabN 256).toArray.size) := ⟨by rw [hs]; exact info47⟩
  have HZ : Aside0 (Try.zeroCells47.size = (tabN 256).toArray.size) := ⟨by rw [hs, tabN_zero]; simp [tabN_length]⟩
  clear hs
  go_wp2_with (first | (go_at_call 41; refine (table_calls _).mono ?_; rintro e w1 ⟨rfl, hb1⟩; have HB1 := Aside0.mk hb1; clear hb1) | (refine wpList_store_row rfl 47 _ _ rfl w1.heap.size _ rfl rfl 47 _ (blk_new w1 _) HI.out HZ.out (tabN_one 256) ?_))
  have HT : Aside0 (((w1.alloc (Obj.cells Try.zeroCells47 47)).setRow w1.heap.size (tabN 256).toArray).heap[w1.heap.size]? = some (.cells (tabN 256).toArray 47 (0, 0))) := ⟨setRow_heap _ _ _ _ _ _ (blk_new w1 _)⟩
  have HB := Aside0.mk (below_setRow (HB1.out.alloc HB1.out.size (Obj.cells Try.zeroCells47 47)) HB1.out.size (tabN 256).toArray)
  generalize ((w1.alloc (Obj.cells Try.zeroCells47 47)).setRow w1.heap.size (tabN 256).toArray) = W at HT HB
  generalize w1.heap.size = g at HT
  have HN : Aside0 (bits BinOp.xor IntKind.u32 IntKind.u32.max a0 = w32 (~~~ BitVec.ofNat 32 a0.toNat)) := ⟨not32 ha⟩
  rw [HN.out]
  have HR2 := Aside0.mk (Kd.C_below HR.out HB.out)
  clear HR HI HZ HB1 HN hle
  go_loop [0, 13] (fun s i => ∃ k : Nat, i = .int .i64 k ∧ k ≤ l1.length ∧ s = .int .u32 (w32 (crcL (~~~ BitVec.ofNat 32 a0.toNat) (l1.take k)))) (fun _ i => l1.length - (intOf i).toNat)
  case atStart => exact ⟨0, rfl, by omega, rfl⟩
  case round =>
    obtain ⟨k, rfl, hk, rfl⟩ := hrel
    have hl9 : l1.length ≤ 9223372036854775807 := HR2.out.2.1
    by_cases hlt : k < l1.length
    · obtain ⟨ad, e, hx⟩ := Kd.at_int HR2.out (k : Int) (by omega) (by omega)
      subst e
      have hrd : rd l1 (k : Int) = l1[k] := VP_rd hlt
      rw [hrd, Int.toNat_natCast] at hx
      have hbk := hb l1[k] (List.getElem_mem hlt)
      have hcrc : Aside0 (crcL (~~~ BitVec.ofNat 32 a0.toNat) (l1.take (k + 1)) = crcByte (crcL (~~~ BitVec.ofNat 32 a0.toNat) (l1.take k)) l1[k]) := ⟨by rw [List.take_succ_eq_append_getElem hlt, Go.Proofs.Ytojepleodijdeaa.VP.crcL_append]; rfl⟩
      generalize crcL (~~~ BitVec.ofNat 32 a0.toNat) (l1.take k) = s at hcrc
      generalize l1[k] = c at hx hbk hcrc
      obtain ⟨j, hj, hx8⟩ := idx8 s hbk
      have hj2 : (j : Int) < 256 := by have := hj.out.1; omega
      have hcell : W.cell? ⟨g, j, none⟩ = some (.int .u32 (tabE j)) := (blk_cell HT.out j).trans (tab_at j hj.out.1)
      go_wp2
      have hd8 : (w32 s) / (256 : Int) = w32 (s >>> 8) := by simp only [w32, BitVec.toNat_ushiftRight, Nat.shiftRight_eq_div_pow]; omega
      have hE : bits BinOp.xor IntKind.u32 ((w32 s) / (256 : Int)) (tabE j) = w32 (crcByte s c) := by
        rw [hd8, tabE, xor32, hj.out.2, ← Go.Proofs.Ytojepleodijdeaa.VP.crcByte_table s hbk]
      go_round
      case rel => exact ⟨k + 1, by go_num, by omega, by rw [hcrc.out, hE]⟩
      case measure => simp [intOf]; omega
    · have hk2 : k = l1.length := by omega
      go_wp2
      go_ret
      refine ⟨?_, HB.out⟩
      have hx := w32_lt (crcL (~~~ BitVec.ofNat 32 a0.toNat) l1)
      have hn := not32 hx
      have e2 : BitVec.ofNat 32 (w32 (crcL (~~~ BitVec.ofNat 32 a0.toNat) l1)).toNat = crcL (~~~ BitVec.ofNat 32 a0.toNat) l1 := by
        apply BitVec.eq_of_toNat_eq; unfold w32; simp
      rw [e2] at hn
      rw [← hn]; rfl

/-! slices.Clone -/
def slices_Clone_byte_byte.f (l0 : List Int) : Option (List Int) := if l0.length < 140737488355328 then some l0 else none
set_option maxRecDepth 100000 in
theorem slices_Clone_byte_byte.calls (A0 : Option Addr) (c0 : Nat) (l0 : List Int) (r : List Int) (w : World) (hr0 : Kd.C (Kd.int .u8) w A0 l0.length l0) (hc0 : l0.length ≤ c0) (h : slices_Clone_byte_byte.f l0 = some r) :
    Calls Try.prog 71 #[.slice A0 l0.length c0] w fun e w' => ∃ v0_ : Value, e = .returned v0_ ∧ Kd.R (Kd.int .u8) 5 w' w.heap.size (fun _ => True) v0_ r ∧ Below w.heap.size w w' := by
  unfold slices_Clone_byte_byte.f at h
  split at h
  case isFalse => cases h
  rename_i hlen
  obtain rfl := Option.some.inj h
  clear h
  have HR := Aside0.mk hr0
  have HC := Aside0.mk hc0
  have HL := Aside0.mk hlen
  clear hr0 hc0 hlen
  have hnil := Go.run_eql_slice_nil (P := Try.prog) w 23 5 A0 l0.length c0 Try.underlying23
  cases A0 with
  | none =>
    obtain rfl : l0 = [] := by
      rcases Nat.eq_zero_or_pos l0.length with h | h
      · exact List.eq_nil_of_length_eq_zero h
      · obtain ⟨ad, e, _⟩ := HR.out.2.2 h; cases e
    simp only [Option.isNone_none, List.length_nil] at hnil
    go_enter Try.func71, Try.ntmps71
    go_wp2
    go_ret
    exact ⟨_, rfl, Kd.R_nil _ _ _ _ _, Below.refl _ _⟩
  | some ad =>
    simp only [Option.isNone_some] at hnil
    go_enter Try.func71, Try.ntmps71
    go_wp2_with (first | ((with_reducible refine gate_dst (N := 5) rfl ?_); refine Kd.R_lit (Kd.int .u8) _ 5 ?hg (N := 5) ?hd (xs := ([] : List Int)) (inner := []) (ok := fun _ => True) (okp := fun _ => True) ?hr ?hp (fun _ hk => hk) trivial (Below.refl _ _) (Nat.le_refl _) (by simp) ?_; (case hd => rfl); (case hg => rfl); (case hr => first | (go_simp; done) | (go_simp; rfl)); (case hp => exact (Reps.none _ _)); intro v1 w1 ho1 hb1 hg_ hnew_; clear hg_ hnew_; have HO1 := Aside0.mk ho1; have HB1 := Aside0.mk hb1; clear ho1 hb1) | ((with_reducible refine gate_builtin (b := .append) (xs := #[.tmp 5, .tmp 6]) rfl ?_); at_builtin; refine Kd.R_append_rows (Kd.int .u8) (w0 := w) w.heap.size rfl (.tmp 5) (.tmp 6) 23 5 (.int .u8 0) 1 rfl Try.underlying23 info5 rfl (by decide) (by omega) v1 [] l0 _ _ _ (fun _ => True) (fun _ => False) rfl rfl ?aO ?aR (fun _ _ h => h) (fun _ h => h.elim) ?aF ?aB ?aS ?aL ?_; (case aR => exact Kd.C_below HR.out HB1.out); (case aB => exact HB1.out); (case aF => exact (fun _ _ => trivial)); (case aO => exact HO1.out); (case aS => exact HB1.out.size); (case aL => have := HL.out; simp only [List.length_nil]; omega); intro v2 w2 ho hb hg hat; have HO2 := Aside0.mk ho; have HB2 := Aside0.mk hb; clear ho hb hg hat))
    go_ret
    refine ⟨_, rfl, ?_, HB2.out⟩
    have := HO2.out
    rwa [List.nil_append] at this

/-! slices.Grow at nil -/
set_option maxRecDepth 100000 in
theorem grow_nil (n : Nat) (h0 : 0 < n) (hn : n ≤ 140737488355328) (w : World) :
    Calls Try.prog 83 #[.slice none 0 0, .int .i64 n] w fun e w' => ∃ v0_ : Value, e = .returned v0_ ∧ Kd.R (Kd.int .u8) 5 w' w.heap.size (fun _ => True) v0_ [] ∧ Below w.heap.size w w' := by
  have h0' : (0 : Int) < n := by omega
  have hn' : (n : Int) ≤ 140737488355328 := by omega
  obtain ⟨i0, hi, hz0, hz1, hz2⟩ := info_parts info5
  go_enter Try.func83, Try.ntmps83
  go_wp2_with (at_builtin; refine Lib.wpList_append_run _ rfl (.tmp 20) (.tmp 21) 23 3 rfl _ _ rfl rfl _ _ (Lib.run_append_nil_zeros w 23 3 _ 5 i0 (.int .u8 0) .i64 .i64 Try.underlying23 Try.underlying3 hi hz0 n h0 (by omega) (by omega) (by rw [hz2]; omega)) ?_)
  go_ret
  refine ⟨_, rfl, ?_, (below_drew (Below.refl _ _)).alloc (Nat.le_refl _) _⟩
  have hge := grownCap_ge w n 0 5
  have hle := grownCap_le_maxLen w n 0 5 (by unfold maxLen; omega)
  refine Kd.R_of_own ⟨rfl, .inr ⟨w.heap.size, _, _, rfl, Nat.le_refl _, blk_new w.drew _, Nat.zero_le _, hle, ?_, ?_⟩⟩ (fun _ _ => trivial)
  · simp [Builtin.zeroCells, Value.cells]; omega
  · rfl

/-! slices.Concat of two -/
def CRel2 (w wr : World) (xs ys : List Int) (v i : Value) : Prop := ∃ L, Kd.R (Kd.int .u8) 5 wr w.heap.size (fun _ => True) v L ∧ ((i = .int .i64 0 ∧ L = []) ∨ (i = .int .i64 1 ∧ L = xs) ∨ (i = .int .i64 2 ∧ L = xs ++ ys))
def CRel (a b : Nat) (n i : Value) : Prop := (i = .int .i64 0 ∧ n = .int .i64 0) ∨ (i = .int .i64 1 ∧ n = .int .i64 a) ∨ (i = .int .i64 2 ∧ n = .int .i64 ((a : Int) + b))

set_option maxRecDepth 100000 in
set_option maxHeartbeats 1000000 in
theorem concat_two (p : Nat) (A1 A2 : Option Addr) (c1 c2 : Nat) (xs ys : List Int) (w : World) (hp : w.heap[p]? = some (.cells #[.slice A1 xs.length c1, .slice A2 ys.length c2] 23 (0, 0)))
    (h1 : Kd.C (Kd.int .u8) w A1 xs.length xs) (h2 : Kd.C (Kd.int .u8) w A2 ys.length ys) (hpos : 0 < xs.length + ys.length) (hlen : xs.length + ys.length < 140737488355328) :
    Calls Try.prog 72 #[.slice (some ⟨p, 0, none⟩) 2 2] w fun e w' => ∃ v0_ : Value, e = .returned v0_ ∧ Kd.R (Kd.int .u8) 5 w' w.heap.size (fun _ => True) v0_ (xs ++ ys) ∧ Below w.heap.size w w' := by
  have HP := Aside0.mk hp
  have H1 := Aside0.mk h1
  have H2 := Aside0.mk h2
  have hx : (xs.length : Int) < 140737488355328 := by omega
  have hy : (ys.length : Int) < 140737488355328 := by omega
  have hxy : (xs.length : Int) + ys.length < 140737488355328 := by omega
  have hk0 : w.cell? ⟨p, 0, none⟩ = some (.slice A1 xs.length c1) := (blk_cell hp 0).trans rfl
  have hk1 : w.cell? ⟨p, 1, none⟩ = some (.slice A2 ys.length c2) := (blk_cell hp 1).trans rfl
  have hn1 : decide ((xs.length : Int) < 0) = false := decide_eq_false (by omega)
  have hn2 : decide ((xs.length : Int) + ys.length < 0) = false := decide_eq_false (by omega)
  have HL := Aside0.mk hlen
  have HPos := Aside0.mk hpos
  clear hp h1 h2 hpos hlen
  go_enter Try.func72, Try.ntmps72
  go_wp2
  go_loop [3, 11] (fun n i => CRel xs.length ys.length n i) (fun _ i => 2 - (intOf i).toNat)
  case atStart => exact .inl ⟨rfl, rfl⟩
  case round =>
    rcases hrel with ⟨rfl, rfl⟩ | ⟨rfl, rfl⟩ | ⟨rfl, rfl⟩
    · go_wp2
      go_round
      case rel => exact .inr (.inl ⟨rfl, rfl⟩)
      case measure => simp [intOf]
    · go_wp2
      go_round
      case rel => exact .inr (.inr ⟨rfl, rfl⟩)
      case measure => simp [intOf]
    · go_wp2_with (go_at_call 83; rw [← Int.natCast_add]; refine (grow_nil (xs.length + ys.length) HPos.out (Nat.le_of_lt HL.out) _).mono ?_; rintro e w1 ⟨v1, rfl, ho1, hb1⟩; have HO1 := Aside0.mk ho1; have HB1 := Aside0.mk hb1; clear ho1 hb1)
      go_loopw [6, 27] (fun v i wr => Aside0 (CRel2 w wr xs ys v i) ∧ Aside0 (Below w.heap.size w wr)) (fun _ i _ => 2 - (intOf i).toNat)
      case atStart => exact ⟨⟨_, HO1.out, .inl ⟨rfl, rfl⟩⟩, HB1⟩
      case round =>
        obtain ⟨⟨L, hO, hL⟩, HB⟩ := hrel
        have HO := Aside0.mk hO
        clear hO
        have hk0 : wr.cell? ⟨p, 0, none⟩ = some (.slice A1 xs.length c1) := (blk_cell (blk_below HP.out HB.out) 0).trans rfl
        have hk1 : wr.cell? ⟨p, 1, none⟩ = some (.slice A2 ys.length c2) := (blk_cell (blk_below HP.out HB.out) 1).trans rfl
        rcases hL with ⟨rfl, rfl⟩ | ⟨rfl, rfl⟩ | ⟨rfl, rfl⟩
        · go_wp2_with (first | ((with_reducible refine gate_builtin (b := .append) (xs := #[.tmp 31, .tmp 32]) rfl ?_); at_builtin; refine Kd.R_append_rows (Kd.int .u8) (w0 := w) w.heap.size rfl (.tmp 31) (.tmp 32) 23 5 (.int .u8 0) 1 rfl Try.underlying23 info5 rfl (by decide) (by omega) _ [] xs _ _ _ (fun _ => True) (fun _ => False) rfl rfl ?aO ?aR (fun _ _ h => h) (fun _ h => h.elim) ?aF ?aB ?aS ?aL ?_; (case aR => exact Kd.C_below H1.out HB.out); (case aB => exact HB.out); (case aF => exact (fun _ _ => trivial)); (case aO => exact HO.out); (case aS => exact HB.out.size); (case aL => have := HL.out; simp only [List.length_nil]; omega); intro v2 w2 ho hb hg hat; have HO2 := Aside0.mk ho; have HB2 := Aside0.mk hb; clear ho hb hg hat))
          go_roundw
          case rel => exact ⟨⟨_, by have h3 := HO2.out; rwa [List.nil_append] at h3, .inr (.inl ⟨rfl, rfl⟩)⟩, HB2⟩
          case measure => simp [intOf]
        · go_wp2_with (first | ((with_reducible refine gate_builtin (b := .append) (xs := #[.tmp 31, .tmp 32]) rfl ?_); at_builtin; refine Kd.R_append_rows (Kd.int .u8) (w0 := w) w.heap.size rfl (.tmp 31) (.tmp 32) 23 5 (.int .u8 0) 1 rfl Try.underlying23 info5 rfl (by decide) (by omega) _ L ys _ _ _ (fun _ => True) (fun _ => False) rfl rfl ?aO ?aR (fun _ _ h => h) (fun _ h => h.elim) ?aF ?aB ?aS ?aL ?_; (case aR => exact Kd.C_below H2.out HB.out); (case aB => exact HB.out); (case aF => exact (fun _ _ => trivial)); (case aO => exact HO.out); (case aS => exact HB.out.size); (case aL => have := HL.out; omega); intro v2 w2 ho hb hg hat; have HO2 := Aside0.mk ho; have HB2 := Aside0.mk hb; clear ho hb hg hat))
          go_roundw
          case rel => exact ⟨⟨_, HO2.out, .inr (.inr ⟨rfl, rfl⟩)⟩, HB2⟩
          case measure => simp [intOf]
        · go_wp2
          go_ret
          exact ⟨_, rfl, HO.out, HB.out⟩

/-! sum.Put -/
def fourL (a : Int) : List Int := [a % 256, (a / 256) % 256, (a / 65536) % 256, (a / 16777216) % 256]
def ofL (l : List Int) : Int := w32 (~~~ crcL (~~~ 0#32) l)
def putL (l : List Int) : List Int := l ++ fourL (ofL l)
def sum_Put.f (l0 : List Int) : Option (List Int) := if (∀ x ∈ l0, 0 ≤ x ∧ x ≤ 255) ∧ l0.length < 140737488355320 then some (putL l0) else none
theorem more_zero {l : List Int} (h : ∀ x ∈ l, 0 ≤ x ∧ x ≤ 255) : sum_More.f 0 l = some (ofL l) := by
  unfold sum_More.f; rw [if_pos ⟨by decide, h⟩]; rfl
set_option maxRecDepth 100000 in
theorem of_calls (A0 : Option Addr) (c0 : Nat) (l0 : List Int) (w : World) (hb : ∀ x ∈ l0, 0 ≤ x ∧ x ≤ 255) (hr0 : Kd.C (Kd.int .u8) w A0 l0.length l0) (hc0 : l0.length ≤ c0) :
    Calls Try.prog 35 #[.slice A0 l0.length c0] w fun e w' => e = .returned (.int .u32 (ofL l0)) ∧ Below w.heap.size w w' := by
  have HM := Aside0.mk (more_zero hb)
  have HR := Aside0.mk hr0
  have HC := Aside0.mk hc0
  clear hr0 hc0
  go_enter Try.func35, Try.ntmps35
  go_wp2_with (go_at_call 37; refine (sum_More.calls 0 _ _ l0 (ofL l0) _ HR.out HC.out HM.out).mono ?_; rintro e w1 ⟨rfl, hb1⟩; have HB1 := Aside0.mk hb1; clear hb1)
  go_ret
  exact ⟨rfl, HB1.out⟩
set_option maxRecDepth 100000 in
set_option maxHeartbeats 1000000 in
theorem sum_Put.calls (A0 : Option Addr) (c0 : Nat) (l0 : List Int) (r : List Int) (w : World) (hr0 : Kd.C (Kd.int .u8) w A0 l0.length l0) (hc0 : l0.length ≤ c0) (h : sum_Put.f l0 = some r) :
    Calls Try.prog 39 #[.slice A0 l0.length c0] w fun e w' => ∃ v0_ : Value, e = .returned v0_ ∧ Kd.R (Kd.int .u8) 5 w' w.heap.size (fun _ => True) v0_ r ∧ Below w.heap.size w w' := by
  unfold sum_Put.f at h
  split at h
  case isFalse => cases h
  rename_i hg
  obtain rfl := Option.some.inj h
  clear h
  have HR := Aside0.mk hr0
  have HC := Aside0.mk hc0
  have HG := Aside0.mk hg
  clear hr0 hc0 hg
  go_enter Try.func39, Try.ntmps39
  go_wp2_with (first | (go_at_call 35; refine (of_calls _ _ l0 _ HG.out.1 HR.out HC.out).mono ?_; rintro e w1 ⟨rfl, hb1⟩; have HB1 := Aside0.mk hb1; clear hb1) | (go_at_call 70; refine (sum_four.calls (ofL l0) (fourL (ofL l0)) _ rfl).mono ?_; rintro e w2 ⟨v2, rfl, ho2, hb2⟩; have HO2 := Aside0.mk ho2; have HB2 := Aside0.mk hb2; clear ho2 hb2; obtain ⟨A2, c2, e2⟩ := Kd.R_slice HO2.out; subst e2) | (go_at_call 72; have HB3 := Aside0.mk (below_alloc (below_step HB1.out HB2.out) (.cells #[.slice A0 l0.length c0, .slice A2 (fourL (ofL l0)).length c2] 23 (0, 0))); refine (concat_two w2.heap.size A0 A2 c0 c2 l0 (fourL (ofL l0)) _ (blk_new w2 _) (Kd.C_below HR.out HB3.out) (Kd.C_alloc (Kd.R_reads' HO2.out).2.2 _) (by simp [fourL]) (by have := HG.out.2; simp only [fourL, List.length_cons, List.length_nil]; omega)).mono ?_; rintro e w4 ⟨v4, rfl, ho4, hb4⟩; have HO4 := Aside0.mk ho4; have HB4 := Aside0.mk hb4; clear ho4 hb4))
  go_ret
  exact ⟨_, rfl, Kd.R_lower HO4.out HB3.out.size, below_step HB3.out HB4.out⟩
end Go.Proofs.Ytojepleodijdeaa.B
