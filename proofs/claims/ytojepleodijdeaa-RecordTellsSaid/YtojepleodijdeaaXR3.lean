/- Own texts and printed ones, those declarations alone that this claim needs, laid into one text by a program of this session. -/
import Derived.Test.YtojepleodijdeaaXR1
import Derived.Test.YtojepleodijdeaaXR2
import Derived.Lib.LazyBuf
import Derived.Lib.AppendZeros
namespace Go.Proofs.Ytojepleodijdeaa.B
open Go.RowKit Go.Proofs.YtojepleodijdeaaW.PrintWords Go.Proofs.YtojepleodijdeaaW.PrintLast Go.Proofs.YtojepleodijdeaaW.PrintMore
attribute [local go_sem] qgz qgx qhj qhk qfx qfj qgj qgk   -- for this text's walks alone
set_option linter.unusedVariables false
set_option linter.unusedSimpArgs false
def tumbrelref05_Same.l0 : Nat → List (S82) → List (S82) → Int → Option (Bool)
 | 0, _, _, _ => none
 | k + 1, x0, x1, x5 => if x5 < (x0.length : Int) then (if 0 ≤ x5 then (if x5 < (x1.length : Int) then (if ((qdz x0 x5).f0) = ((qdz x1 x5).f0) then (if ((qdz x0 x5).f2).toList = ((qdz x1 x5).f2).toList then ((tumbrelref02_Same.f k ((qdz x0 x5).f1) ((qdz x1 x5).f1)).bind fun t785 => (if t785 = true then (tumbrelref05_Same.l0 k x0 x1 (wrap64 (x5 + 1))) else (some false))) else (some false)) else (some false)) else (none)) else (none)) else (some true)
def tumbrelref05_Same.f (k : Nat) (l0 : List (S82)) (l1 : List (S82)) : Option (Bool) := if (l0.length : Int) = (l1.length : Int) then (tumbrelref05_Same.l0 k l0 l1 0) else (some false)
def tumbrelref05_Same.T6 : Bool × List (List Nat × List Nat) := (true, [([], []), ([], []), ([0, 1], [0, 1]), ([2], [2]), ([3], [3]), ([], []), ([], []), ([5, 6], [5, 6]), ([7], [7]), ([8], [8]), ([4, 9], [4, 9]), ([10], [10]), ([11], [11]), ([11], [11]), ([12, 13, 11], [11, 12, 13]), ([14, 11], [11, 14]), ([15, 11], [11, 15]), ([11], [11]), ([11], [11]), ([17, 18, 11], [11, 17, 18]), ([19, 11], [11, 19]), ([20, 11], [11, 20]), ([16, 21, 11], [11, 16, 21]), ([11, 22], [11, 22]), ([23, 11], [23]), ([24], [24]), ([24], [24]), ([25, 26, 24], [24, 25, 26]), ([27, 24], [24, 27]), ([28, 24], [24, 28]), ([24], [24]), ([24], [24]), ([30, 31, 24], [24, 30, 31]), ([32, 24], [24, 32]), ([33, 24], [24, 33]), ([29, 34, 24, 24], [24, 29, 34]), ([35, 24], [24, 35]), ([24, 36], [24, 36])])
def tumbrelref05_Same.B6 : List Nat := [0, 0, 3, 7, 15, 0, 0, 96, 224, 480, 1023, 2047, 4095, 4095, 16383, 32767, 65535, 4095, 4095, 397311, 921599, 1970175, 4194303, 8388607, 16777215, 33554431, 33554431, 134217727, 268435455, 536870911, 33554431, 33554431, 3254779903, 7549747199, 16139681791, 34359738367, 68719476735, 137438953471]
theorem tumbrelref05_Same.tab6 : rtab .any (qdv Try.f62 6) = tumbrelref05_Same.T6 := by kernel_rfl
theorem tumbrelref05_Same.bits6 : qjv tumbrelref05_Same.T6.2 tumbrelref05_Same.B6 = true := by kernel_rfl
set_option maxHeartbeats 8000000 in
set_option maxRecDepth 100000 in
theorem tumbrelref05_Same.calls (k : Nat) (A0 : Option Addr) (c0 : Nat) (l0 : List (S82)) (A1 : Option Addr) (c1 : Nat) (l1 : List (S82)) (r : Bool) (w : World) (hr0 : Kd.C k82 w A0 l0.length l0) (hc0 : l0.length ≤ c0) (hr1 : Kd.C k82 w A1 l1.length l1) (hc1 : l1.length ≤ c1) (h : tumbrelref05_Same.f k l0 l1 = some r) :
  Calls Try.prog 62 #[.slice A0 l0.length c0, .slice A1 l1.length c1] w fun e w' => e = .returned (.bool r) ∧ Below w.heap.size w w' := by
 have HR0 := Aside0.mk hr0
 have HC0 := Aside0.mk hc0
 clear hr0 hc0
 have HR1 := Aside0.mk hr1
 have HC1 := Aside0.mk hc1
 clear hr1 hc1
 have HB := Aside0.mk (Below.refl w.heap.size w)
 have H : (if (l0.length : Int) = (l1.length : Int) then (tumbrelref05_Same.l0 k l0 l1 0) else (some false)) = some r := h
 clear h
 by_cases c3 : (l0.length : Int) = (l1.length : Int)
 ·rw [if_pos c3] at H
  have c3b0 : ((l0.length : Int) == (l1.length : Int)) = true := beq_iff_eq.mpr c3
  have c3b1 : ((l0.length : Int) != (l1.length : Int)) = false := bne_eq_false_iff_eq.mpr c3
  have c3b2 : (l0.length == l1.length) = true := by first | simpa using c3 | (simp at c3 ⊢; omega)
  clear c3
  have H' := Aside0.mk H
  clear H
  go_enter Try.func62, Try.ntmps62
  go_wp2
  go_loopg [5] k (fun kq v5 w' => ∃ (x5_1 : Int), v5 = .int .i64 x5_1 ∧ Aside0 (tumbrelref05_Same.l0 kq l0 l1 x5_1 = some r) ∧ Aside0 (kq ≤ k) ∧ Aside0 (Below w.heap.size w w'))
  case atStart => exact ⟨(0), (by first | rfl | (simp; done) | (simp [*]; done)), H', ⟨Nat.le_refl _⟩, ⟨by repeat (first | (with_reducible first | exact HB.out | apply qax | apply qaq | apply qaz) | exact HB.out)⟩⟩
  case round =>
   clear H'
   try clear c1
   try clear p2
   try clear c3
   try clear c3b0
   try clear c3b1
   try clear c3b2
   obtain ⟨x5_1, rfl, HA, HK1, HB⟩ := hrel
   cases gk with
   | zero => exact absurd HA.out (by simp [tumbrelref05_Same.l0])
   | succ k1 =>
    have H := HA.out
    clear HA
    simp only [tumbrelref05_Same.l0] at H
    by_cases c4 : x5_1 < (l0.length : Int)
    ·rw [if_pos c4] at H
     have c4b0 : decide (x5_1 < (l0.length : Int)) = true := decide_eq_true c4
     clear c4
     by_cases c5 : 0 ≤ x5_1
     ·rw [if_pos c5] at H
      have c5b0 : decide (0 ≤ x5_1) = true := decide_eq_true c5
      clear c5
      by_cases c6 : x5_1 < (l1.length : Int)
      ·rw [if_pos c6] at H
       have c6b0 : decide (x5_1 < (l1.length : Int)) = true := decide_eq_true c6
       clear c6
       by_cases c7 : ((qdz l0 x5_1).f0) = ((qdz l1 x5_1).f0)
       ·rw [if_pos c7] at H
        have c7b0 : (((qdz l0 x5_1).f0) == ((qdz l1 x5_1).f0)) = true := beq_iff_eq.mpr c7
        have c7b1 : (((qdz l0 x5_1).f0) != ((qdz l1 x5_1).f0)) = false := bne_eq_false_iff_eq.mpr c7
        clear c7
        by_cases c8 : ((qdz l0 x5_1).f2).toList = ((qdz l1 x5_1).f2).toList
        ·rw [if_pos c8] at H
         have c8b0 : (((qdz l0 x5_1).f2).toList == ((qdz l1 x5_1).f2).toList) = true := beq_iff_eq.mpr c8
         have c8b1 : (((qdz l0 x5_1).f2).toList != ((qdz l1 x5_1).f2).toList) = false := bne_eq_false_iff_eq.mpr c8
         clear c8
         replace H := Option.bind_eq_some_iff.mp H
         obtain ⟨t785, A90, H⟩ := H
         replace H : (if t785 = true then (tumbrelref05_Same.l0 k1 l0 l1 (wrap64 (x5_1 + 1))) else (some false)) = some r := H
         have A9 := Aside0.mk A90
         clear A90
         by_cases c10 : t785 = true
         ·subst c10
          have H1 : (tumbrelref05_Same.l0 k1 l0 l1 (wrap64 (x5_1 + 1))) = some r := by rw [if_pos rfl] at H; exact H
          clear H
          have H := H1
          clear H1
          have H' := Aside0.mk H
          clear H
          try go_wp2
          have n0_ := Aside0.mk (qaz HB.out)
          clear HB
          have HB := n0_
          clear n0_
          have p779 : 0 ≤ (x5_1 : Int) := of_decide_eq_true (by first | (with_reducible assumption) | assumption)
          have q779 : x5_1 < (l0.length : Int) := of_decide_eq_true (by first | (with_reducible assumption) | assumption)
          obtain ⟨ad779, A779_1, c779_1, e779, hx779_0, hx779_1, hx779_2, hl779_1, hi779_1⟩ := qjj HR0.out x5_1 p779 q779
          have hw779_2 := hx779_2
          have hw779_1 := hx779_1
          have hw779_0 := hx779_0
          cases e779
          replace hx779_0 := (HB.out.cell (World.block_lt_of_cell? w _ hx779_0)).trans hx779_0
          replace hx779_1 := (HB.out.cell (World.block_lt_of_cell? w _ hx779_1)).trans hx779_1
          replace hx779_2 := (HB.out.cell (World.block_lt_of_cell? w _ hx779_2)).trans hx779_2
          have HR779_1 := Aside0.mk hi779_1
          have HC779_1 := Aside0.mk hl779_1
          clear hi779_1 hl779_1
          replace p779 := eq_true p779
          replace q779 := eq_true q779
          have p780 : 0 ≤ (x5_1 : Int) := of_decide_eq_true (by first | (with_reducible assumption) | assumption)
          have q780 : x5_1 < (l1.length : Int) := of_decide_eq_true (by first | (with_reducible assumption) | assumption)
          obtain ⟨ad780, A780_1, c780_1, e780, hx780_0, hx780_1, hx780_2, hl780_1, hi780_1⟩ := qjj HR1.out x5_1 p780 q780
          have hw780_2 := hx780_2
          have hw780_1 := hx780_1
          have hw780_0 := hx780_0
          cases e780
          replace hx780_0 := (HB.out.cell (World.block_lt_of_cell? w _ hx780_0)).trans hx780_0
          replace hx780_1 := (HB.out.cell (World.block_lt_of_cell? w _ hx780_1)).trans hx780_1
          replace hx780_2 := (HB.out.cell (World.block_lt_of_cell? w _ hx780_2)).trans hx780_2
          have HR780_1 := Aside0.mk hi780_1
          have HC780_1 := Aside0.mk hl780_1
          clear hi780_1 hl780_1
          replace p780 := eq_true p780
          replace q780 := eq_true q780
          have p781 : 0 ≤ (x5_1 : Int) := of_decide_eq_true (by first | (with_reducible assumption) | assumption)
          have q781 : x5_1 < (l0.length : Int) := of_decide_eq_true (by first | (with_reducible assumption) | assumption)
          obtain ⟨ad781, A781_1, c781_1, e781, hx781_0, hx781_1, hx781_2, hl781_1, hi781_1⟩ := qjj HR0.out x5_1 p781 q781
          have hw781_2 := hx781_2
          have hw781_1 := hx781_1
          have hw781_0 := hx781_0
          obtain rfl : ad779 = ad781 := (by injection e781)
          replace hx781_0 := (HB.out.cell (World.block_lt_of_cell? w _ hx781_0)).trans hx781_0
          replace hx781_1 := (HB.out.cell (World.block_lt_of_cell? w _ hx781_1)).trans hx781_1
          replace hx781_2 := (HB.out.cell (World.block_lt_of_cell? w _ hx781_2)).trans hx781_2
          have HR781_1 := Aside0.mk hi781_1
          have HC781_1 := Aside0.mk hl781_1
          clear hi781_1 hl781_1
          replace p781 := eq_true p781
          replace q781 := eq_true q781
          have ea_ := Option.some.inj (hx779_1.symm.trans hx781_1)
          injection ea_ with ea_ en_ ec_
          subst ea_
          subst ec_
          clear en_
          have p782 : 0 ≤ (x5_1 : Int) := of_decide_eq_true (by first | (with_reducible assumption) | assumption)
          have q782 : x5_1 < (l1.length : Int) := of_decide_eq_true (by first | (with_reducible assumption) | assumption)
          obtain ⟨ad782, A782_1, c782_1, e782, hx782_0, hx782_1, hx782_2, hl782_1, hi782_1⟩ := qjj HR1.out x5_1 p782 q782
          have hw782_2 := hx782_2
          have hw782_1 := hx782_1
          have hw782_0 := hx782_0
          obtain rfl : ad780 = ad782 := (by injection e782)
          replace hx782_0 := (HB.out.cell (World.block_lt_of_cell? w _ hx782_0)).trans hx782_0
          replace hx782_1 := (HB.out.cell (World.block_lt_of_cell? w _ hx782_1)).trans hx782_1
          replace hx782_2 := (HB.out.cell (World.block_lt_of_cell? w _ hx782_2)).trans hx782_2
          have HR782_1 := Aside0.mk hi782_1
          have HC782_1 := Aside0.mk hl782_1
          clear hi782_1 hl782_1
          replace p782 := eq_true p782
          replace q782 := eq_true q782
          have ea_ := Option.some.inj (hx780_1.symm.trans hx782_1)
          injection ea_ with ea_ en_ ec_
          subst ea_
          subst ec_
          clear en_
          have p783 : 0 ≤ (x5_1 : Int) := of_decide_eq_true (by first | (with_reducible assumption) | assumption)
          have q783 : x5_1 < (l0.length : Int) := of_decide_eq_true (by first | (with_reducible assumption) | assumption)
          obtain ⟨ad783, A783_1, c783_1, e783, hx783_0, hx783_1, hx783_2, hl783_1, hi783_1⟩ := qjj HR0.out x5_1 p783 q783
          have hw783_2 := hx783_2
          have hw783_1 := hx783_1
          have hw783_0 := hx783_0
          obtain rfl : ad779 = ad783 := (by injection e783)
          replace hx783_0 := (HB.out.cell (World.block_lt_of_cell? w _ hx783_0)).trans hx783_0
          replace hx783_1 := (HB.out.cell (World.block_lt_of_cell? w _ hx783_1)).trans hx783_1
          replace hx783_2 := (HB.out.cell (World.block_lt_of_cell? w _ hx783_2)).trans hx783_2
          have HR783_1 := Aside0.mk hi783_1
          have HC783_1 := Aside0.mk hl783_1
          clear hi783_1 hl783_1
          replace p783 := eq_true p783
          replace q783 := eq_true q783
          have ea_ := Option.some.inj (hx779_1.symm.trans hx783_1)
          injection ea_ with ea_ en_ ec_
          subst ea_
          subst ec_
          clear en_
          have p784 : 0 ≤ (x5_1 : Int) := of_decide_eq_true (by first | (with_reducible assumption) | assumption)
          have q784 : x5_1 < (l1.length : Int) := of_decide_eq_true (by first | (with_reducible assumption) | assumption)
          obtain ⟨ad784, A784_1, c784_1, e784, hx784_0, hx784_1, hx784_2, hl784_1, hi784_1⟩ := qjj HR1.out x5_1 p784 q784
          have hw784_2 := hx784_2
          have hw784_1 := hx784_1
          have hw784_0 := hx784_0
          obtain rfl : ad780 = ad784 := (by injection e784)
          replace hx784_0 := (HB.out.cell (World.block_lt_of_cell? w _ hx784_0)).trans hx784_0
          replace hx784_1 := (HB.out.cell (World.block_lt_of_cell? w _ hx784_1)).trans hx784_1
          replace hx784_2 := (HB.out.cell (World.block_lt_of_cell? w _ hx784_2)).trans hx784_2
          have HR784_1 := Aside0.mk hi784_1
          have HC784_1 := Aside0.mk hl784_1
          clear hi784_1 hl784_1
          replace p784 := eq_true p784
          replace q784 := eq_true q784
          have ea_ := Option.some.inj (hx780_1.symm.trans hx784_1)
          injection ea_ with ea_ en_ ec_
          subst ea_
          subst ec_
          clear en_
          refine qjz (n := 38) (S := fun w' => w'.cell? (ad779.add ((x5_1).toNat * 3)) = some (.int .i64 ((qdz l0 x5_1).f0)) ∧ w'.cell? ⟨(ad779.add ((x5_1).toNat * 3)).block, (ad779.add ((x5_1).toNat * 3)).off + 1, none⟩ = some (.slice A779_1 ((qdz l0 x5_1).f1).length c779_1) ∧ w'.cell? ⟨(ad779.add ((x5_1).toNat * 3)).block, (ad779.add ((x5_1).toNat * 3)).off + 2, none⟩ = some (.string ((qdz l0 x5_1).f2)) ∧ w'.cell? (ad780.add ((x5_1).toNat * 3)) = some (.int .i64 ((qdz l1 x5_1).f0)) ∧ w'.cell? ⟨(ad780.add ((x5_1).toNat * 3)).block, (ad780.add ((x5_1).toNat * 3)).off + 1, none⟩ = some (.slice A780_1 ((qdz l1 x5_1).f1).length c780_1) ∧ w'.cell? ⟨(ad780.add ((x5_1).toNat * 3)).block, (ad780.add ((x5_1).toNat * 3)).off + 2, none⟩ = some (.string ((qdz l1 x5_1).f2)) ∧ w'.cell? (ad779.add ((x5_1).toNat * 3)) = some (.int .i64 ((qdz l0 x5_1).f0)) ∧ w'.cell? ⟨(ad779.add ((x5_1).toNat * 3)).block, (ad779.add ((x5_1).toNat * 3)).off + 1, none⟩ = some (.slice A779_1 ((qdz l0 x5_1).f1).length c779_1) ∧ w'.cell? ⟨(ad779.add ((x5_1).toNat * 3)).block, (ad779.add ((x5_1).toNat * 3)).off + 2, none⟩ = some (.string ((qdz l0 x5_1).f2)) ∧ w'.cell? (ad780.add ((x5_1).toNat * 3)) = some (.int .i64 ((qdz l1 x5_1).f0)) ∧ w'.cell? ⟨(ad780.add ((x5_1).toNat * 3)).block, (ad780.add ((x5_1).toNat * 3)).off + 1, none⟩ = some (.slice A780_1 ((qdz l1 x5_1).f1).length c780_1) ∧ w'.cell? ⟨(ad780.add ((x5_1).toNat * 3)).block, (ad780.add ((x5_1).toNat * 3)).off + 2, none⟩ = some (.string ((qdz l1 x5_1).f2)) ∧ w'.cell? (ad779.add ((x5_1).toNat * 3)) = some (.int .i64 ((qdz l0 x5_1).f0)) ∧ w'.cell? ⟨(ad779.add ((x5_1).toNat * 3)).block, (ad779.add ((x5_1).toNat * 3)).off + 1, none⟩ = some (.slice A779_1 ((qdz l0 x5_1).f1).length c779_1) ∧ w'.cell? ⟨(ad779.add ((x5_1).toNat * 3)).block, (ad779.add ((x5_1).toNat * 3)).off + 2, none⟩ = some (.string ((qdz l0 x5_1).f2)) ∧ w'.cell? (ad780.add ((x5_1).toNat * 3)) = some (.int .i64 ((qdz l1 x5_1).f0)) ∧ w'.cell? ⟨(ad780.add ((x5_1).toNat * 3)).block, (ad780.add ((x5_1).toNat * 3)).off + 1, none⟩ = some (.slice A780_1 ((qdz l1 x5_1).f1).length c780_1) ∧ w'.cell? ⟨(ad780.add ((x5_1).toNat * 3)).block, (ad780.add ((x5_1).toNat * 3)).off + 2, none⟩ = some (.string ((qdz l1 x5_1).f2))) (ds := []) #[false, false, false, false, false, false, false, false, false, false, false, false, false, false, false, false, false, false, false, false, false, false, false, false, false, false, false, false, false, false, false, false, false, false, false, false, false, false] (by kernel_rfl) rfl rfl ⟨((HB.out.cell (World.block_lt_of_cell? w _ hw779_0)).trans hw779_0), ((HB.out.cell (World.block_lt_of_cell? w _ hw779_1)).trans hw779_1), ((HB.out.cell (World.block_lt_of_cell? w _ hw779_2)).trans hw779_2), ((HB.out.cell (World.block_lt_of_cell? w _ hw780_0)).trans hw780_0), ((HB.out.cell (World.block_lt_of_cell? w _ hw780_1)).trans hw780_1), ((HB.out.cell (World.block_lt_of_cell? w _ hw780_2)).trans hw780_2), ((HB.out.cell (World.block_lt_of_cell? w _ hw781_0)).trans hw781_0), ((HB.out.cell (World.block_lt_of_cell? w _ hw781_1)).trans hw781_1), ((HB.out.cell (World.block_lt_of_cell? w _ hw781_2)).trans hw781_2), ((HB.out.cell (World.block_lt_of_cell? w _ hw782_0)).trans hw782_0), ((HB.out.cell (World.block_lt_of_cell? w _ hw782_1)).trans hw782_1), ((HB.out.cell (World.block_lt_of_cell? w _ hw782_2)).trans hw782_2), ((HB.out.cell (World.block_lt_of_cell? w _ hw783_0)).trans hw783_0), ((HB.out.cell (World.block_lt_of_cell? w _ hw783_1)).trans hw783_1), ((HB.out.cell (World.block_lt_of_cell? w _ hw783_2)).trans hw783_2), ((HB.out.cell (World.block_lt_of_cell? w _ hw784_0)).trans hw784_0), ((HB.out.cell (World.block_lt_of_cell? w _ hw784_1)).trans hw784_1), ((HB.out.cell (World.block_lt_of_cell? w _ hw784_2)).trans hw784_2)⟩ (fun hHeld => ?_); refine qfw tumbrelref05_Same.tab6 tumbrelref05_Same.bits6 (fun HT_ HW_ => ?_)
          generalize wr.drew = w11 at HB HR779_1 HR780_1 HR781_1 HR782_1 HR783_1 HR784_1 hx779_0 hx779_1 hx779_2 hx780_0 hx780_1 hx780_2 hx781_0 hx781_1 hx781_2 hx782_0 hx782_1 hx782_2 hx783_0 hx783_1 hx783_2 hx784_0 hx784_1 hx784_2 hHeld ⊢
          refine qcj (i := 0) (N := some 17) (v := ?_) (a' := ?_) #[true, false, false, false, false, false, false, false, false, false, false, false, false, false, false, false, false, false, false, false, false, false, false, false, false, false, false, false, false, false, false, false, false, false, false, false, false, false] rfl rfl (qbk HT_.out (by kernel_rfl)) (fun _ _ _ h => h) (Or.inl ⟨by rfl, ?_⟩) ?_ ?_
          rotate_left
          ·intro w'
           go_simp
           with_reducible rfl
          rotate_left
          ·simp only [Act.put, List.setIfInBounds_toArray, List.set_cons_zero, List.set_cons_succ, qbv, qbw]
           rfl
          refine qcj (i := 1) (N := some 18) (v := ?_) (a' := ?_) #[true, true, false, false, false, false, false, false, false, false, false, false, false, false, false, false, false, false, false, false, false, false, false, false, false, false, false, false, false, false, false, false, false, false, false, false, false, false] rfl rfl (qbk HT_.out (by kernel_rfl)) (fun _ _ _ h => h) (Or.inl ⟨by rfl, ?_⟩) ?_ ?_
          rotate_left
          ·intro w'
           go_simp
           with_reducible rfl
          rotate_left
          ·simp only [Act.put, List.setIfInBounds_toArray, List.set_cons_zero, List.set_cons_succ, qbv, qbw]
           rfl
          refine qcj (i := 2) (N := some 19) (v := ?_) (a' := ?_) #[true, true, true, false, false, false, false, false, false, false, false, false, false, false, false, false, false, false, false, false, false, false, false, false, false, false, false, false, false, false, false, false, false, false, false, false, false, false] rfl rfl (qbk HT_.out (by kernel_rfl)) (fun _ _ _ h => h) (Or.inl ⟨by rfl, ?_⟩) ?_ ?_
          rotate_left
          ·intro w'
           go_simp
           with_reducible rfl
          rotate_left
          ·simp only [Act.put, List.setIfInBounds_toArray, List.set_cons_zero, List.set_cons_succ, qbv, qbw]
           rfl
          refine qcj (i := 3) (N := some 20) (v := ?_) (a' := ?_) #[true, true, true, true, false, false, false, false, false, false, false, false, false, false, false, false, false, false, false, false, false, false, false, false, false, false, false, false, false, false, false, false, false, false, false, false, false, false] rfl rfl (qbk HT_.out (by kernel_rfl)) (fun _ _ _ h => h) (Or.inl ⟨by rfl, ?_⟩) ?_ ?_
          rotate_left
          ·intro w'
           go_simp
           with_reducible rfl
          rotate_left
          ·simp only [Act.put, List.setIfInBounds_toArray, List.set_cons_zero, List.set_cons_succ, qbv, qbw]
           rfl
          refine qcj (i := 5) (N := some 22) (v := ?_) (a' := ?_) #[true, true, true, true, false, true, false, false, false, false, false, false, false, false, false, false, false, false, false, false, false, false, false, false, false, false, false, false, false, false, false, false, false, false, false, false, false, false] rfl rfl (qbk HT_.out (by kernel_rfl)) (fun _ _ _ h => h) (Or.inl ⟨by rfl, ?_⟩) ?_ ?_
          rotate_left
          ·intro w'
           go_simp
           with_reducible rfl
          rotate_left
          ·simp only [Act.put, List.setIfInBounds_toArray, List.set_cons_zero, List.set_cons_succ, qbv, qbw]
           rfl
          refine qcj (i := 6) (N := some 23) (v := ?_) (a' := ?_) #[true, true, true, true, false, true, true, false, false, false, false, false, false, false, false, false, false, false, false, false, false, false, false, false, false, false, false, false, false, false, false, false, false, false, false, false, false, false] rfl rfl (qbk HT_.out (by kernel_rfl)) (fun _ _ _ h => h) (Or.inl ⟨by rfl, ?_⟩) ?_ ?_
          rotate_left
          ·intro w'
           go_simp
           with_reducible rfl
          rotate_left
          ·simp only [Act.put, List.setIfInBounds_toArray, List.set_cons_zero, List.set_cons_succ, qbv, qbw]
           rfl
          refine qcj (i := 7) (N := some 24) (v := ?_) (a' := ?_) #[true, true, true, true, false, true, true, true, false, false, false, false, false, false, false, false, false, false, false, false, false, false, false, false, false, false, false, false, false, false, false, false, false, false, false, false, false, false] rfl rfl (qbk HT_.out (by kernel_rfl)) (fun _ _ _ h => h) (Or.inl ⟨by rfl, ?_⟩) ?_ ?_
          rotate_left
          ·intro w'
           go_simp
           with_reducible rfl
          rotate_left
          ·simp only [Act.put, List.setIfInBounds_toArray, List.set_cons_zero, List.set_cons_succ, qbv, qbw]
           rfl
          refine qcj (i := 8) (N := some 25) (v := ?_) (a' := ?_) #[true, true, true, true, false, true, true, true, true, false, false, false, false, false, false, false, false, false, false, false, false, false, false, false, false, false, false, false, false, false, false, false, false, false, false, false, false, false] rfl rfl (qbk HT_.out (by kernel_rfl)) (fun _ _ _ h => h) (Or.inl ⟨by rfl, ?_⟩) ?_ ?_
          rotate_left
          ·intro w'
           go_simp
           with_reducible rfl
          rotate_left
          ·simp only [Act.put, List.setIfInBounds_toArray, List.set_cons_zero, List.set_cons_succ, qbv, qbw]
           rfl
          refine take_ (i := 4) (N := some 21) (v := ?_) (a' := ?_) #[true, true, true, true, true, true, true, true, true, false, false, false, false, false, false, false, false, false, false, false, false, false, false, false, false, false, false, false, false, false, false, false, false, false, false, false, false, false] rfl rfl (qdk HT_.out HW_.out (by kernel_rfl)) (fun _ _ _ h => h) (Or.inl ⟨by rfl, ?_⟩) hHeld ?_ ?_
          rotate_left
          ·rintro w' ⟨s0, s1, s2, s3, s4, s5, s6, s7, s8, s9, s10, s11, s12, s13, s14, s15, s16, s17⟩
           go_simp
           with_reducible rfl
          rotate_left
          ·simp only [Act.put, List.setIfInBounds_toArray, List.set_cons_zero, List.set_cons_succ, qbv, qbw]
           rfl
          refine take_ (i := 9) (N := some 26) (v := ?_) (a' := ?_) #[true, true, true, true, true, true, true, true, true, true, false, false, false, false, false, false, false, false, false, false, false, false, false, false, false, false, false, false, false, false, false, false, false, false, false, false, false, false] rfl rfl (qdk HT_.out HW_.out (by kernel_rfl)) (fun _ _ _ h => h) (Or.inl ⟨by rfl, ?_⟩) hHeld ?_ ?_
          rotate_left
          ·rintro w' ⟨s0, s1, s2, s3, s4, s5, s6, s7, s8, s9, s10, s11, s12, s13, s14, s15, s16, s17⟩
           go_simp
           with_reducible rfl
          rotate_left
          ·simp only [Act.put, List.setIfInBounds_toArray, List.set_cons_zero, List.set_cons_succ, qbv, qbw]
           rfl
          refine qcj (i := 10) (N := some 27) (v := ?_) (a' := ?_) #[true, true, true, true, true, true, true, true, true, true, true, false, false, false, false, false, false, false, false, false, false, false, false, false, false, false, false, false, false, false, false, false, false, false, false, false, false, false] rfl rfl (qbk HT_.out (by kernel_rfl)) (fun _ _ _ h => h) (Or.inl ⟨by rfl, ?_⟩) ?_ ?_
          rotate_left
          ·intro w'
           go_simp
           with_reducible rfl
          rotate_left
          ·simp only [Act.put, List.setIfInBounds_toArray, List.set_cons_zero, List.set_cons_succ, qbv, qbw]
           rfl
          refine qcj (i := 11) (N := some 28) (v := ?_) (a' := ?_) #[true, true, true, true, true, true, true, true, true, true, true, true, false, false, false, false, false, false, false, false, false, false, false, false, false, false, false, false, false, false, false, false, false, false, false, false, false, false] rfl rfl (qbk HT_.out (by kernel_rfl)) (fun _ _ _ h => h) (Or.inl ⟨by rfl, ?_⟩) ?_ ?_
          rotate_left
          ·intro w'
           go_simp
           with_reducible rfl
          rotate_left
          ·simp only [Act.put, List.setIfInBounds_toArray, List.set_cons_zero, List.set_cons_succ, qbv, qbw]
           rfl
          refine qcj (i := 12) (N := some 29) (v := ?_) (a' := ?_) #[true, true, true, true, true, true, true, true, true, true, true, true, true, false, false, false, false, false, false, false, false, false, false, false, false, false, false, false, false, false, false, false, false, false, false, false, false, false] rfl rfl (qbk HT_.out (by kernel_rfl)) (fun _ _ _ h => h) (Or.inl ⟨by rfl, ?_⟩) ?_ ?_
          rotate_left
          ·intro w'
           go_simp
           with_reducible rfl
          rotate_left
          ·simp only [Act.put, List.setIfInBounds_toArray, List.set_cons_zero, List.set_cons_succ, qbv, qbw]
           rfl
          refine qcj (i := 13) (N := some 30) (v := ?_) (a' := ?_) #[true, true, true, true, true, true, true, true, true, true, true, true, true, true, false, false, false, false, false, false, false, false, false, false, false, false, false, false, false, false, false, false, false, false, false, false, false, false] rfl rfl (qbk HT_.out (by kernel_rfl)) (fun _ _ _ h => h) (Or.inl ⟨by rfl, ?_⟩) ?_ ?_
          rotate_left
          ·intro w'
           go_simp
           with_reducible rfl
          rotate_left
          ·simp only [Act.put, List.setIfInBounds_toArray, List.set_cons_zero, List.set_cons_succ, qbv, qbw]
           rfl
          refine qcj (i := 14) (N := some 31) (v := ?_) (a' := ?_) #[true, true, true, true, true, true, true, true, true, true, true, true, true, true, true, false, false, false, false, false, false, false, false, false, false, false, false, false, false, false, false, false, false, false, false, false, false, false] rfl rfl (qbk HT_.out (by kernel_rfl)) (fun _ _ _ h => h) (Or.inl ⟨by rfl, ?_⟩) ?_ ?_
          rotate_left
          ·intro w'
           go_simp
           with_reducible rfl
          rotate_left
          ·simp only [Act.put, List.setIfInBounds_toArray, List.set_cons_zero, List.set_cons_succ, qbv, qbw]
           rfl
          refine qcj (i := 15) (N := some 32) (v := ?_) (a' := ?_) #[true, true, true, true, true, true, true, true, true, true, true, true, true, true, true, true, false, false, false, false, false, false, false, false, false, false, false, false, false, false, false, false, false, false, false, false, false, false] rfl rfl (qbk HT_.out (by kernel_rfl)) (fun _ _ _ h => h) (Or.inl ⟨by rfl, ?_⟩) ?_ ?_
          rotate_left
          ·intro w'
           go_simp
           with_reducible rfl
          rotate_left
          ·simp only [Act.put, List.setIfInBounds_toArray, List.set_cons_zero, List.set_cons_succ, qbv, qbw]
           rfl
          refine qcj (i := 17) (N := some 34) (v := ?_) (a' := ?_) #[true, true, true, true, true, true, true, true, true, true, true, true, true, true, true, true, false, true, false, false, false, false, false, false, false, false, false, false, false, false, false, false, false, false, false, false, false, false] rfl rfl (qbk HT_.out (by kernel_rfl)) (fun _ _ _ h => h) (Or.inl ⟨by rfl, ?_⟩) ?_ ?_
          rotate_left
          ·intro w'
           go_simp
           with_reducible rfl
          rotate_left
          ·simp only [Act.put, List.setIfInBounds_toArray, List.set_cons_zero, List.set_cons_succ, qbv, qbw]
           rfl
          refine qcj (i := 18) (N := some 35) (v := ?_) (a' := ?_) #[true, true, true, true, true, true, true, true, true, true, true, true, true, true, true, true, false, true, true, false, false, false, false, false, false, false, false, false, false, false, false, false, false, false, false, false, false, false] rfl rfl (qbk HT_.out (by kernel_rfl)) (fun _ _ _ h => h) (Or.inl ⟨by rfl, ?_⟩) ?_ ?_
          rotate_left
          ·intro w'
           go_simp
           with_reducible rfl
          rotate_left
          ·simp only [Act.put, List.setIfInBounds_toArray, List.set_cons_zero, List.set_cons_succ, qbv, qbw]
           rfl
          refine qcj (i := 19) (N := some 36) (v := ?_) (a' := ?_) #[true, true, true, true, true, true, true, true, true, true, true, true, true, true, true, true, false, true, true, true, false, false, false, false, false, false, false, false, false, false, false, false, false, false, false, false, false, false] rfl rfl (qbk HT_.out (by kernel_rfl)) (fun _ _ _ h => h) (Or.inl ⟨by rfl, ?_⟩) ?_ ?_
          rotate_left
          ·intro w'
           go_simp
           with_reducible rfl
          rotate_left
          ·simp only [Act.put, List.setIfInBounds_toArray, List.set_cons_zero, List.set_cons_succ, qbv, qbw]
           rfl
          refine qcj (i := 20) (N := some 37) (v := ?_) (a' := ?_) #[true, true, true, true, true, true, true, true, true, true, true, true, true, true, true, true, false, true, true, true, true, false, false, false, false, false, false, false, false, false, false, false, false, false, false, false, false, false] rfl rfl (qbk HT_.out (by kernel_rfl)) (fun _ _ _ h => h) (Or.inl ⟨by rfl, ?_⟩) ?_ ?_
          rotate_left
          ·intro w'
           go_simp
           with_reducible rfl
          rotate_left
          ·simp only [Act.put, List.setIfInBounds_toArray, List.set_cons_zero, List.set_cons_succ, qbv, qbw]
           rfl
          refine take_ (i := 16) (N := some 33) (v := ?_) (a' := ?_) #[true, true, true, true, true, true, true, true, true, true, true, true, true, true, true, true, true, true, true, true, true, false, false, false, false, false, false, false, false, false, false, false, false, false, false, false, false, false] rfl rfl (qdk HT_.out HW_.out (by kernel_rfl)) (fun _ _ _ h => h) (Or.inl ⟨by rfl, ?_⟩) hHeld ?_ ?_
          rotate_left
          ·rintro w' ⟨s0, s1, s2, s3, s4, s5, s6, s7, s8, s9, s10, s11, s12, s13, s14, s15, s16, s17⟩
           go_simp
           with_reducible rfl
          rotate_left
          ·simp only [Act.put, List.setIfInBounds_toArray, List.set_cons_zero, List.set_cons_succ, qbv, qbw]
           rfl
          refine take_ (i := 21) (N := some 38) (v := ?_) (a' := ?_) #[true, true, true, true, true, true, true, true, true, true, true, true, true, true, true, true, true, true, true, true, true, true, false, false, false, false, false, false, false, false, false, false, false, false, false, false, false, false] rfl rfl (qdk HT_.out HW_.out (by kernel_rfl)) (fun _ _ _ h => h) (Or.inl ⟨by rfl, ?_⟩) hHeld ?_ ?_
          rotate_left
          ·rintro w' ⟨s0, s1, s2, s3, s4, s5, s6, s7, s8, s9, s10, s11, s12, s13, s14, s15, s16, s17⟩
           go_simp
           with_reducible rfl
          rotate_left
          ·simp only [Act.put, List.setIfInBounds_toArray, List.set_cons_zero, List.set_cons_succ, qbv, qbw]
           rfl
          refine qcj (i := 22) (N := some 39) (v := ?_) (a' := ?_) #[true, true, true, true, true, true, true, true, true, true, true, true, true, true, true, true, true, true, true, true, true, true, true, false, false, false, false, false, false, false, false, false, false, false, false, false, false, false] rfl rfl (qbk HT_.out (by kernel_rfl)) (fun _ _ _ h => h) (Or.inl ⟨by rfl, ?_⟩) ?_ ?_
          rotate_left
          ·intro w'
           go_simp
           with_reducible rfl
          rotate_left
          ·simp only [Act.put, List.setIfInBounds_toArray, List.set_cons_zero, List.set_cons_succ, qbv, qbw]
           rfl
          refine qcj (i := 23) (N := some 40) (v := ?_) (a' := ?_) #[true, true, true, true, true, true, true, true, true, true, true, true, true, true, true, true, true, true, true, true, true, true, true, true, false, false, false, false, false, false, false, false, false, false, false, false, false, false] rfl rfl (qbk HT_.out (by kernel_rfl)) (fun _ _ _ h => h) (Or.inl ⟨by rfl, ?_⟩) ?_ ?_
          rotate_left
          ·intro w'
           go_simp
           with_reducible rfl
          rotate_left
          ·simp only [Act.put, List.setIfInBounds_toArray, List.set_cons_zero, List.set_cons_succ, qbv, qbw]
           rfl
          refine qcj (i := 24) (N := some 41) (v := ?_) (a' := ?_) #[true, true, true, true, true, true, true, true, true, true, true, true, true, true, true, true, true, true, true, true, true, true, true, true, true, false, false, false, false, false, false, false, false, false, false, false, false, false] rfl rfl (qbk HT_.out (by kernel_rfl)) (fun _ _ _ h => h) (Or.inl ⟨by rfl, ?_⟩) ?_ ?_
          rotate_left
          ·intro w'
           go_simp
           with_reducible rfl
          rotate_left
          ·simp only [Act.put, List.setIfInBounds_toArray, List.set_cons_zero, List.set_cons_succ, qbv, qbw]
           rfl
          refine qcj (i := 25) (N := some 42) (v := ?_) (a' := ?_) #[true, true, true, true, true, true, true, true, true, true, true, true, true, true, true, true, true, true, true, true, true, true, true, true, true, true, false, false, false, false, false, false, false, false, false, false, false, false] rfl rfl (qbk HT_.out (by kernel_rfl)) (fun _ _ _ h => h) (Or.inl ⟨by rfl, ?_⟩) ?_ ?_
          rotate_left
          ·intro w'
           go_simp
           with_reducible rfl
          rotate_left
          ·simp only [Act.put, List.setIfInBounds_toArray, List.set_cons_zero, List.set_cons_succ, qbv, qbw]
           rfl
          refine qcj (i := 26) (N := some 43) (v := ?_) (a' := ?_) #[true, true, true, true, true, true, true, true, true, true, true, true, true, true, true, true, true, true, true, true, true, true, true, true, true, true, true, false, false, false, false, false, false, false, false, false, false, false] rfl rfl (qbk HT_.out (by kernel_rfl)) (fun _ _ _ h => h) (Or.inl ⟨by rfl, ?_⟩) ?_ ?_
          rotate_left
          ·intro w'
           go_simp
           with_reducible rfl
          rotate_left
          ·simp only [Act.put, List.setIfInBounds_toArray, List.set_cons_zero, List.set_cons_succ, qbv, qbw]
           rfl
          refine qcj (i := 27) (N := some 44) (v := ?_) (a' := ?_) #[true, true, true, true, true, true, true, true, true, true, true, true, true, true, true, true, true, true, true, true, true, true, true, true, true, true, true, true, false, false, false, false, false, false, false, false, false, false] rfl rfl (qbk HT_.out (by kernel_rfl)) (fun _ _ _ h => h) (Or.inl ⟨by rfl, ?_⟩) ?_ ?_
          rotate_left
          ·intro w'
           go_simp
           with_reducible rfl
          rotate_left
          ·simp only [Act.put, List.setIfInBounds_toArray, List.set_cons_zero, List.set_cons_succ, qbv, qbw]
           rfl
          refine qcj (i := 28) (N := some 45) (v := ?_) (a' := ?_) #[true, true, true, true, true, true, true, true, true, true, true, true, true, true, true, true, true, true, true, true, true, true, true, true, true, true, true, true, true, false, false, false, false, false, false, false, false, false] rfl rfl (qbk HT_.out (by kernel_rfl)) (fun _ _ _ h => h) (Or.inl ⟨by rfl, ?_⟩) ?_ ?_
          rotate_left
          ·intro w'
           go_simp
           with_reducible rfl
          rotate_left
          ·simp only [Act.put, List.setIfInBounds_toArray, List.set_cons_zero, List.set_cons_succ, qbv, qbw]
           rfl
          refine qcj (i := 30) (N := some 47) (v := ?_) (a' := ?_) #[true, true, true, true, true, true, true, true, true, true, true, true, true, true, true, true, true, true, true, true, true, true, true, true, true, true, true, true, true, false, true, false, false, false, false, false, false, false] rfl rfl (qbk HT_.out (by kernel_rfl)) (fun _ _ _ h => h) (Or.inl ⟨by rfl, ?_⟩) ?_ ?_
          rotate_left
          ·intro w'
           go_simp
           with_reducible rfl
          rotate_left
          ·simp only [Act.put, List.setIfInBounds_toArray, List.set_cons_zero, List.set_cons_succ, qbv, qbw]
           rfl
          refine qcj (i := 31) (N := some 48) (v := ?_) (a' := ?_) #[true, true, true, true, true, true, true, true, true, true, true, true, true, true, true, true, true, true, true, true, true, true, true, true, true, true, true, true, true, false, true, true, false, false, false, false, false, false] rfl rfl (qbk HT_.out (by kernel_rfl)) (fun _ _ _ h => h) (Or.inl ⟨by rfl, ?_⟩) ?_ ?_
          rotate_left
          ·intro w'
           go_simp
           with_reducible rfl
          rotate_left
          ·simp only [Act.put, List.setIfInBounds_toArray, List.set_cons_zero, List.set_cons_succ, qbv, qbw]
           rfl
          refine qcj (i := 32) (N := some 49) (v := ?_) (a' := ?_) #[true, true, true, true, true, true, true, true, true, true, true, true, true, true, true, true, true, true, true, true, true, true, true, true, true, true, true, true, true, false, true, true, true, false, false, false, false, false] rfl rfl (qbk HT_.out (by kernel_rfl)) (fun _ _ _ h => h) (Or.inl ⟨by rfl, ?_⟩) ?_ ?_
          rotate_left
          ·intro w'
           go_simp
           with_reducible rfl
          rotate_left
          ·simp only [Act.put, List.setIfInBounds_toArray, List.set_cons_zero, List.set_cons_succ, qbv, qbw]
           rfl
          refine qcj (i := 33) (N := some 50) (v := ?_) (a' := ?_) #[true, true, true, true, true, true, true, true, true, true, true, true, true, true, true, true, true, true, true, true, true, true, true, true, true, true, true, true, true, false, true, true, true, true, false, false, false, false] rfl rfl (qbk HT_.out (by kernel_rfl)) (fun _ _ _ h => h) (Or.inl ⟨by rfl, ?_⟩) ?_ ?_
          rotate_left
          ·intro w'
           go_simp
           with_reducible rfl
          rotate_left
          ·simp only [Act.put, List.setIfInBounds_toArray, List.set_cons_zero, List.set_cons_succ, qbv, qbw]
           rfl
          refine take_ (i := 29) (N := some 46) (v := ?_) (a' := ?_) #[true, true, true, true, true, true, true, true, true, true, true, true, true, true, true, true, true, true, true, true, true, true, true, true, true, true, true, true, true, true, true, true, true, true, false, false, false, false] rfl rfl (qdk HT_.out HW_.out (by kernel_rfl)) (fun _ _ _ h => h) (Or.inl ⟨by rfl, ?_⟩) hHeld ?_ ?_
          rotate_left
          ·rintro w' ⟨s0, s1, s2, s3, s4, s5, s6, s7, s8, s9, s10, s11, s12, s13, s14, s15, s16, s17⟩
           go_simp
           with_reducible rfl
          rotate_left
          ·simp only [Act.put, List.setIfInBounds_toArray, List.set_cons_zero, List.set_cons_succ, qbv, qbw]
           rfl
          refine take_ (i := 34) (N := some 51) (v := ?_) (a' := ?_) #[true, true, true, true, true, true, true, true, true, true, true, true, true, true, true, true, true, true, true, true, true, true, true, true, true, true, true, true, true, true, true, true, true, true, true, false, false, false] rfl rfl (qdk HT_.out HW_.out (by kernel_rfl)) (fun _ _ _ h => h) (Or.inl ⟨by rfl, ?_⟩) hHeld ?_ ?_
          rotate_left
          ·rintro w' ⟨s0, s1, s2, s3, s4, s5, s6, s7, s8, s9, s10, s11, s12, s13, s14, s15, s16, s17⟩
           go_simp
           with_reducible rfl
          rotate_left
          ·simp only [Act.put, List.setIfInBounds_toArray, List.set_cons_zero, List.set_cons_succ, qbv, qbw]
           rfl
          refine one_ (i := 35) (N := some 52) #[true, true, true, true, true, true, true, true, true, true, true, true, true, true, true, true, true, true, true, true, true, true, true, true, true, true, true, true, true, true, true, true, true, true, true, true, false, false] rfl rfl (qfk HT_.out (by kernel_rfl)) (by decide) (fun K hK => ?_)
          refine qhx Try.func29 (by kernel_rfl) rfl #[.slice A779_1 ((qdz l0 x5_1).f1).length c779_1, .slice A780_1 ((qdz l1 x5_1).f1).length c780_1] (by rfl) rfl rfl (by (try simp only [List.map_toArray, List.map_cons, List.map_nil]); first | done | rfl | (simp only [List.length_drop, List.length_take]; rfl)) ?_
          with_reducible refine (tumbrelref02_Same.calls k1 _ _ ((qdz l0 x5_1).f1) _ _ ((qdz l1 x5_1).f1) true _ ?side1 ?side2 ?side3 ?side4 A9.out).mono ?_
          (case side1 => repeat (first | exact (Kd.C_below HR783_1.out HB.out) | (with_reducible refine Kd.C_alloc ?_ _) | (with_reducible refine Kd.C_drewN ?_ _) | (with_reducible refine Kd.C_drew ?_)))
          (case side2 => exact HC783_1.out)
          (case side3 => repeat (first | exact (Kd.C_below HR784_1.out HB.out) | (with_reducible refine Kd.C_alloc ?_ _) | (with_reducible refine Kd.C_drewN ?_ _) | (with_reducible refine Kd.C_drew ?_)))
          (case side4 => exact HC784_1.out)
          rintro e w' ⟨rfl, ⟨nd, rfl⟩⟩
          refine ⟨_, rfl, ?_⟩
          refine hK.out _ _ ⟨((HB.out.cell (World.block_lt_of_cell? w _ hw779_0)).trans hw779_0), ((HB.out.cell (World.block_lt_of_cell? w _ hw779_1)).trans hw779_1), ((HB.out.cell (World.block_lt_of_cell? w _ hw779_2)).trans hw779_2), ((HB.out.cell (World.block_lt_of_cell? w _ hw780_0)).trans hw780_0), ((HB.out.cell (World.block_lt_of_cell? w _ hw780_1)).trans hw780_1), ((HB.out.cell (World.block_lt_of_cell? w _ hw780_2)).trans hw780_2), ((HB.out.cell (World.block_lt_of_cell? w _ hw781_0)).trans hw781_0), ((HB.out.cell (World.block_lt_of_cell? w _ hw781_1)).trans hw781_1), ((HB.out.cell (World.block_lt_of_cell? w _ hw781_2)).trans hw781_2), ((HB.out.cell (World.block_lt_of_cell? w _ hw782_0)).trans hw782_0), ((HB.out.cell (World.block_lt_of_cell? w _ hw782_1)).trans hw782_1), ((HB.out.cell (World.block_lt_of_cell? w _ hw782_2)).trans hw782_2), ((HB.out.cell (World.block_lt_of_cell? w _ hw783_0)).trans hw783_0), ((HB.out.cell (World.block_lt_of_cell? w _ hw783_1)).trans hw783_1), ((HB.out.cell (World.block_lt_of_cell? w _ hw783_2)).trans hw783_2), ((HB.out.cell (World.block_lt_of_cell? w _ hw784_0)).trans hw784_0), ((HB.out.cell (World.block_lt_of_cell? w _ hw784_1)).trans hw784_1), ((HB.out.cell (World.block_lt_of_cell? w _ hw784_2)).trans hw784_2)⟩ (fun hHeld => ?_)
          clear hK K
          refine qhz (a' := ?_) ?_ ?_
          rotate_left
          ·show Act.put _ (some 52) _ = _
           simp only [Act.put, List.setIfInBounds_toArray, List.set_cons_zero, List.set_cons_succ, qbv, qbw]
           rfl
          refine qcj (i := 36) (N := some 53) (v := ?_) (a' := ?_) #[true, true, true, true, true, true, true, true, true, true, true, true, true, true, true, true, true, true, true, true, true, true, true, true, true, true, true, true, true, true, true, true, true, true, true, true, true, false] rfl rfl (qbk HT_.out (by kernel_rfl)) (fun _ _ _ h => h) (Or.inl ⟨by rfl, ?_⟩) ?_ ?_
          rotate_left
          ·intro w'
           go_simp
           with_reducible rfl
          rotate_left
          ·simp only [Act.put, List.setIfInBounds_toArray, List.set_cons_zero, List.set_cons_succ, qbv, qbw]
           rfl
          refine qcj (i := 37) (N := some 54) (v := ?_) (a' := ?_) #[true, true, true, true, true, true, true, true, true, true, true, true, true, true, true, true, true, true, true, true, true, true, true, true, true, true, true, true, true, true, true, true, true, true, true, true, true, true] rfl rfl (qbk HT_.out (by kernel_rfl)) (fun _ _ _ h => h) (Or.inl ⟨by rfl, ?_⟩) ?_ ?_
          rotate_left
          ·intro w'
           go_simp
           with_reducible rfl
          rotate_left
          ·simp only [Act.put, List.setIfInBounds_toArray, List.set_cons_zero, List.set_cons_succ, qbv, qbw]
           rfl
          refine qlv (qiq HT_.out (by kernel_rfl)) ?_
          try go_wp2
          go_roundg k1
          case measure => have := HK1.out; omega
          case rel => exact ⟨(wrap64 (x5_1 + 1)), (by first | rfl | (simp; done) | (simp [*]; done)), H', ⟨by have := HK1.out; omega⟩, ⟨by repeat (first | (with_reducible first | exact HB.out | apply qax | apply qaq | apply qaz) | exact HB.out)⟩⟩
         ·replace c10 := Bool.eq_false_iff.mpr c10
          subst c10
          have H1 : (some false) = some r := by rw [if_neg (show ¬ (false = true) by decide)] at H; exact H
          clear H
          have H := H1
          clear H1
          obtain rfl := Option.some.inj H
          try go_wp2
          have n0_ := Aside0.mk (qaz HB.out)
          clear HB
          have HB := n0_
          clear n0_
          have p779 : 0 ≤ (x5_1 : Int) := of_decide_eq_true (by first | (with_reducible assumption) | assumption)
          have q779 : x5_1 < (l0.length : Int) := of_decide_eq_true (by first | (with_reducible assumption) | assumption)
          obtain ⟨ad779, A779_1, c779_1, e779, hx779_0, hx779_1, hx779_2, hl779_1, hi779_1⟩ := qjj HR0.out x5_1 p779 q779
          have hw779_2 := hx779_2
          have hw779_1 := hx779_1
          have hw779_0 := hx779_0
          cases e779
          replace hx779_0 := (HB.out.cell (World.block_lt_of_cell? w _ hx779_0)).trans hx779_0
          replace hx779_1 := (HB.out.cell (World.block_lt_of_cell? w _ hx779_1)).trans hx779_1
          replace hx779_2 := (HB.out.cell (World.block_lt_of_cell? w _ hx779_2)).trans hx779_2
          have HR779_1 := Aside0.mk hi779_1
          have HC779_1 := Aside0.mk hl779_1
          clear hi779_1 hl779_1
          replace p779 := eq_true p779
          replace q779 := eq_true q779
          have p780 : 0 ≤ (x5_1 : Int) := of_decide_eq_true (by first | (with_reducible assumption) | assumption)
          have q780 : x5_1 < (l1.length : Int) := of_decide_eq_true (by first | (with_reducible assumption) | assumption)
          obtain ⟨ad780, A780_1, c780_1, e780, hx780_0, hx780_1, hx780_2, hl780_1, hi780_1⟩ := qjj HR1.out x5_1 p780 q780
          have hw780_2 := hx780_2
          have hw780_1 := hx780_1
          have hw780_0 := hx780_0
          cases e780
          replace hx780_0 := (HB.out.cell (World.block_lt_of_cell? w _ hx780_0)).trans hx780_0
          replace hx780_1 := (HB.out.cell (World.block_lt_of_cell? w _ hx780_1)).trans hx780_1
          replace hx780_2 := (HB.out.cell (World.block_lt_of_cell? w _ hx780_2)).trans hx780_2
          have HR780_1 := Aside0.mk hi780_1
          have HC780_1 := Aside0.mk hl780_1
          clear hi780_1 hl780_1
          replace p780 := eq_true p780
          replace q780 := eq_true q780
          have p781 : 0 ≤ (x5_1 : Int) := of_decide_eq_true (by first | (with_reducible assumption) | assumption)
          have q781 : x5_1 < (l0.length : Int) := of_decide_eq_true (by first | (with_reducible assumption) | assumption)
          obtain ⟨ad781, A781_1, c781_1, e781, hx781_0, hx781_1, hx781_2, hl781_1, hi781_1⟩ := qjj HR0.out x5_1 p781 q781
          have hw781_2 := hx781_2
          have hw781_1 := hx781_1
          have hw781_0 := hx781_0
          obtain rfl : ad779 = ad781 := (by injection e781)
          replace hx781_0 := (HB.out.cell (World.block_lt_of_cell? w _ hx781_0)).trans hx781_0
          replace hx781_1 := (HB.out.cell (World.block_lt_of_cell? w _ hx781_1)).trans hx781_1
          replace hx781_2 := (HB.out.cell (World.block_lt_of_cell? w _ hx781_2)).trans hx781_2
          have HR781_1 := Aside0.mk hi781_1
          have HC781_1 := Aside0.mk hl781_1
          clear hi781_1 hl781_1
          replace p781 := eq_true p781
          replace q781 := eq_true q781
          have ea_ := Option.some.inj (hx779_1.symm.trans hx781_1)
          injection ea_ with ea_ en_ ec_
          subst ea_
          subst ec_
          clear en_
          have p782 : 0 ≤ (x5_1 : Int) := of_decide_eq_true (by first | (with_reducible assumption) | assumption)
          have q782 : x5_1 < (l1.length : Int) := of_decide_eq_true (by first | (with_reducible assumption) | assumption)
          obtain ⟨ad782, A782_1, c782_1, e782, hx782_0, hx782_1, hx782_2, hl782_1, hi782_1⟩ := qjj HR1.out x5_1 p782 q782
          have hw782_2 := hx782_2
          have hw782_1 := hx782_1
          have hw782_0 := hx782_0
          obtain rfl : ad780 = ad782 := (by injection e782)
          replace hx782_0 := (HB.out.cell (World.block_lt_of_cell? w _ hx782_0)).trans hx782_0
          replace hx782_1 := (HB.out.cell (World.block_lt_of_cell? w _ hx782_1)).trans hx782_1
          replace hx782_2 := (HB.out.cell (World.block_lt_of_cell? w _ hx782_2)).trans hx782_2
          have HR782_1 := Aside0.mk hi782_1
          have HC782_1 := Aside0.mk hl782_1
          clear hi782_1 hl782_1
          replace p782 := eq_true p782
          replace q782 := eq_true q782
          have ea_ := Option.some.inj (hx780_1.symm.trans hx782_1)
          injection ea_ with ea_ en_ ec_
          subst ea_
          subst ec_
          clear en_
          have p783 : 0 ≤ (x5_1 : Int) := of_decide_eq_true (by first | (with_reducible assumption) | assumption)
          have q783 : x5_1 < (l0.length : Int) := of_decide_eq_true (by first | (with_reducible assumption) | assumption)
          obtain ⟨ad783, A783_1, c783_1, e783, hx783_0, hx783_1, hx783_2, hl783_1, hi783_1⟩ := qjj HR0.out x5_1 p783 q783
          have hw783_2 := hx783_2
          have hw783_1 := hx783_1
          have hw783_0 := hx783_0
          obtain rfl : ad779 = ad783 := (by injection e783)
          replace hx783_0 := (HB.out.cell (World.block_lt_of_cell? w _ hx783_0)).trans hx783_0
          replace hx783_1 := (HB.out.cell (World.block_lt_of_cell? w _ hx783_1)).trans hx783_1
          replace hx783_2 := (HB.out.cell (World.block_lt_of_cell? w _ hx783_2)).trans hx783_2
          have HR783_1 := Aside0.mk hi783_1
          have HC783_1 := Aside0.mk hl783_1
          clear hi783_1 hl783_1
          replace p783 := eq_true p783
          replace q783 := eq_true q783
          have ea_ := Option.some.inj (hx779_1.symm.trans hx783_1)
          injection ea_ with ea_ en_ ec_
          subst ea_
          subst ec_
          clear en_
          have p784 : 0 ≤ (x5_1 : Int) := of_decide_eq_true (by first | (with_reducible assumption) | assumption)
          have q784 : x5_1 < (l1.length : Int) := of_decide_eq_true (by first | (with_reducible assumption) | assumption)
          obtain ⟨ad784, A784_1, c784_1, e784, hx784_0, hx784_1, hx784_2, hl784_1, hi784_1⟩ := qjj HR1.out x5_1 p784 q784
          have hw784_2 := hx784_2
          have hw784_1 := hx784_1
          have hw784_0 := hx784_0
          obtain rfl : ad780 = ad784 := (by injection e784)
          replace hx784_0 := (HB.out.cell (World.block_lt_of_cell? w _ hx784_0)).trans hx784_0
          replace hx784_1 := (HB.out.cell (World.block_lt_of_cell? w _ hx784_1)).trans hx784_1
          replace hx784_2 := (HB.out.cell (World.block_lt_of_cell? w _ hx784_2)).trans hx784_2
          have HR784_1 := Aside0.mk hi784_1
          have HC784_1 := Aside0.mk hl784_1
          clear hi784_1 hl784_1
          replace p784 := eq_true p784
          replace q784 := eq_true q784
          have ea_ := Option.some.inj (hx780_1.symm.trans hx784_1)
          injection ea_ with ea_ en_ ec_
          subst ea_
          subst ec_
          clear en_
          refine qjz (n := 38) (S := fun w' => w'.cell? (ad779.add ((x5_1).toNat * 3)) = some (.int .i64 ((qdz l0 x5_1).f0)) ∧ w'.cell? ⟨(ad779.add ((x5_1).toNat * 3)).block, (ad779.add ((x5_1).toNat * 3)).off + 1, none⟩ = some (.slice A779_1 ((qdz l0 x5_1).f1).length c779_1) ∧ w'.cell? ⟨(ad779.add ((x5_1).toNat * 3)).block, (ad779.add ((x5_1).toNat * 3)).off + 2, none⟩ = some (.string ((qdz l0 x5_1).f2)) ∧ w'.cell? (ad780.add ((x5_1).toNat * 3)) = some (.int .i64 ((qdz l1 x5_1).f0)) ∧ w'.cell? ⟨(ad780.add ((x5_1).toNat * 3)).block, (ad780.add ((x5_1).toNat * 3)).off + 1, none⟩ = some (.slice A780_1 ((qdz l1 x5_1).f1).length c780_1) ∧ w'.cell? ⟨(ad780.add ((x5_1).toNat * 3)).block, (ad780.add ((x5_1).toNat * 3)).off + 2, none⟩ = some (.string ((qdz l1 x5_1).f2)) ∧ w'.cell? (ad779.add ((x5_1).toNat * 3)) = some (.int .i64 ((qdz l0 x5_1).f0)) ∧ w'.cell? ⟨(ad779.add ((x5_1).toNat * 3)).block, (ad779.add ((x5_1).toNat * 3)).off + 1, none⟩ = some (.slice A779_1 ((qdz l0 x5_1).f1).length c779_1) ∧ w'.cell? ⟨(ad779.add ((x5_1).toNat * 3)).block, (ad779.add ((x5_1).toNat * 3)).off + 2, none⟩ = some (.string ((qdz l0 x5_1).f2)) ∧ w'.cell? (ad780.add ((x5_1).toNat * 3)) = some (.int .i64 ((qdz l1 x5_1).f0)) ∧ w'.cell? ⟨(ad780.add ((x5_1).toNat * 3)).block, (ad780.add ((x5_1).toNat * 3)).off + 1, none⟩ = some (.slice A780_1 ((qdz l1 x5_1).f1).length c780_1) ∧ w'.cell? ⟨(ad780.add ((x5_1).toNat * 3)).block, (ad780.add ((x5_1).toNat * 3)).off + 2, none⟩ = some (.string ((qdz l1 x5_1).f2)) ∧ w'.cell? (ad779.add ((x5_1).toNat * 3)) = some (.int .i64 ((qdz l0 x5_1).f0)) ∧ w'.cell? ⟨(ad779.add ((x5_1).toNat * 3)).block, (ad779.add ((x5_1).toNat * 3)).off + 1, none⟩ = some (.slice A779_1 ((qdz l0 x5_1).f1).length c779_1) ∧ w'.cell? ⟨(ad779.add ((x5_1).toNat * 3)).block, (ad779.add ((x5_1).toNat * 3)).off + 2, none⟩ = some (.string ((qdz l0 x5_1).f2)) ∧ w'.cell? (ad780.add ((x5_1).toNat * 3)) = some (.int .i64 ((qdz l1 x5_1).f0)) ∧ w'.cell? ⟨(ad780.add ((x5_1).toNat * 3)).block, (ad780.add ((x5_1).toNat * 3)).off + 1, none⟩ = some (.slice A780_1 ((qdz l1 x5_1).f1).length c780_1) ∧ w'.cell? ⟨(ad780.add ((x5_1).toNat * 3)).block, (ad780.add ((x5_1).toNat * 3)).off + 2, none⟩ = some (.string ((qdz l1 x5_1).f2))) (ds := []) #[false, false, false, false, false, false, false, false, false, false, false, false, false, false, false, false, false, false, false, false, false, false, false, false, false, false, false, false, false, false, false, false, false, false, false, false, false, false] (by kernel_rfl) rfl rfl ⟨((HB.out.cell (World.block_lt_of_cell? w _ hw779_0)).trans hw779_0), ((HB.out.cell (World.block_lt_of_cell? w _ hw779_1)).trans hw779_1), ((HB.out.cell (World.block_lt_of_cell? w _ hw779_2)).trans hw779_2), ((HB.out.cell (World.block_lt_of_cell? w _ hw780_0)).trans hw780_0), ((HB.out.cell (World.block_lt_of_cell? w _ hw780_1)).trans hw780_1), ((HB.out.cell (World.block_lt_of_cell? w _ hw780_2)).trans hw780_2), ((HB.out.cell (World.block_lt_of_cell? w _ hw781_0)).trans hw781_0), ((HB.out.cell (World.block_lt_of_cell? w _ hw781_1)).trans hw781_1), ((HB.out.cell (World.block_lt_of_cell? w _ hw781_2)).trans hw781_2), ((HB.out.cell (World.block_lt_of_cell? w _ hw782_0)).trans hw782_0), ((HB.out.cell (World.block_lt_of_cell? w _ hw782_1)).trans hw782_1), ((HB.out.cell (World.block_lt_of_cell? w _ hw782_2)).trans hw782_2), ((HB.out.cell (World.block_lt_of_cell? w _ hw783_0)).trans hw783_0), ((HB.out.cell (World.block_lt_of_cell? w _ hw783_1)).trans hw783_1), ((HB.out.cell (World.block_lt_of_cell? w _ hw783_2)).trans hw783_2), ((HB.out.cell (World.block_lt_of_cell? w _ hw784_0)).trans hw784_0), ((HB.out.cell (World.block_lt_of_cell? w _ hw784_1)).trans hw784_1), ((HB.out.cell (World.block_lt_of_cell? w _ hw784_2)).trans hw784_2)⟩ (fun hHeld => ?_); refine qfw tumbrelref05_Same.tab6 tumbrelref05_Same.bits6 (fun HT_ HW_ => ?_)
          generalize wr.drew = w12 at HB HR779_1 HR780_1 HR781_1 HR782_1 HR783_1 HR784_1 hx779_0 hx779_1 hx779_2 hx780_0 hx780_1 hx780_2 hx781_0 hx781_1 hx781_2 hx782_0 hx782_1 hx782_2 hx783_0 hx783_1 hx783_2 hx784_0 hx784_1 hx784_2 hHeld ⊢
          refine qcj (i := 0) (N := some 17) (v := ?_) (a' := ?_) #[true, false, false, false, false, false, false, false, false, false, false, false, false, false, false, false, false, false, false, false, false, false, false, false, false, false, false, false, false, false, false, false, false, false, false, false, false, false] rfl rfl (qbk HT_.out (by kernel_rfl)) (fun _ _ _ h => h) (Or.inl ⟨by rfl, ?_⟩) ?_ ?_
          rotate_left
          ·intro w'
           go_simp
           with_reducible rfl
          rotate_left
          ·simp only [Act.put, List.setIfInBounds_toArray, List.set_cons_zero, List.set_cons_succ, qbv, qbw]
           rfl
          refine qcj (i := 1) (N := some 18) (v := ?_) (a' := ?_) #[true, true, false, false, false, false, false, false, false, false, false, false, false, false, false, false, false, false, false, false, false, false, false, false, false, false, false, false, false, false, false, false, false, false, false, false, false, false] rfl rfl (qbk HT_.out (by kernel_rfl)) (fun _ _ _ h => h) (Or.inl ⟨by rfl, ?_⟩) ?_ ?_
          rotate_left
          ·intro w'
           go_simp
           with_reducible rfl
          rotate_left
          ·simp only [Act.put, List.setIfInBounds_toArray, List.set_cons_zero, List.set_cons_succ, qbv, qbw]
           rfl
          refine qcj (i := 2) (N := some 19) (v := ?_) (a' := ?_) #[true, true, true, false, false, false, false, false, false, false, false, false, false, false, false, false, false, false, false, false, false, false, false, false, false, false, false, false, false, false, false, false, false, false, false, false, false, false] rfl rfl (qbk HT_.out (by kernel_rfl)) (fun _ _ _ h => h) (Or.inl ⟨by rfl, ?_⟩) ?_ ?_
          rotate_left
          ·intro w'
           go_simp
           with_reducible rfl
          rotate_left
          ·simp only [Act.put, List.setIfInBounds_toArray, List.set_cons_zero, List.set_cons_succ, qbv, qbw]
           rfl
          refine qcj (i := 3) (N := some 20) (v := ?_) (a' := ?_) #[true, true, true, true, false, false, false, false, false, false, false, false, false, false, false, false, false, false, false, false, false, false, false, false, false, false, false, false, false, false, false, false, false, false, false, false, false, false] rfl rfl (qbk HT_.out (by kernel_rfl)) (fun _ _ _ h => h) (Or.inl ⟨by rfl, ?_⟩) ?_ ?_
          rotate_left
          ·intro w'
           go_simp
           with_reducible rfl
          rotate_left
          ·simp only [Act.put, List.setIfInBounds_toArray, List.set_cons_zero, List.set_cons_succ, qbv, qbw]
           rfl
          refine qcj (i := 5) (N := some 22) (v := ?_) (a' := ?_) #[true, true, true, true, false, true, false, false, false, false, false, false, false, false, false, false, false, false, false, false, false, false, false, false, false, false, false, false, false, false, false, false, false, false, false, false, false, false] rfl rfl (qbk HT_.out (by kernel_rfl)) (fun _ _ _ h => h) (Or.inl ⟨by rfl, ?_⟩) ?_ ?_
          rotate_left
          ·intro w'
           go_simp
           with_reducible rfl
          rotate_left
          ·simp only [Act.put, List.setIfInBounds_toArray, List.set_cons_zero, List.set_cons_succ, qbv, qbw]
           rfl
          refine qcj (i := 6) (N := some 23) (v := ?_) (a' := ?_) #[true, true, true, true, false, true, true, false, false, false, false, false, false, false, false, false, false, false, false, false, false, false, false, false, false, false, false, false, false, false, false, false, false, false, false, false, false, false] rfl rfl (qbk HT_.out (by kernel_rfl)) (fun _ _ _ h => h) (Or.inl ⟨by rfl, ?_⟩) ?_ ?_
          rotate_left
          ·intro w'
           go_simp
           with_reducible rfl
          rotate_left
          ·simp only [Act.put, List.setIfInBounds_toArray, List.set_cons_zero, List.set_cons_succ, qbv, qbw]
           rfl
          refine qcj (i := 7) (N := some 24) (v := ?_) (a' := ?_) #[true, true, true, true, false, true, true, true, false, false, false, false, false, false, false, false, false, false, false, false, false, false, false, false, false, false, false, false, false, false, false, false, false, false, false, false, false, false] rfl rfl (qbk HT_.out (by kernel_rfl)) (fun _ _ _ h => h) (Or.inl ⟨by rfl, ?_⟩) ?_ ?_
          rotate_left
          ·intro w'
           go_simp
           with_reducible rfl
          rotate_left
          ·simp only [Act.put, List.setIfInBounds_toArray, List.set_cons_zero, List.set_cons_succ, qbv, qbw]
           rfl
          refine qcj (i := 8) (N := some 25) (v := ?_) (a' := ?_) #[true, true, true, true, false, true, true, true, true, false, false, false, false, false, false, false, false, false, false, false, false, false, false, false, false, false, false, false, false, false, false, false, false, false, false, false, false, false] rfl rfl (qbk HT_.out (by kernel_rfl)) (fun _ _ _ h => h) (Or.inl ⟨by rfl, ?_⟩) ?_ ?_
          rotate_left
          ·intro w'
           go_simp
           with_reducible rfl
          rotate_left
          ·simp only [Act.put, List.setIfInBounds_toArray, List.set_cons_zero, List.set_cons_succ, qbv, qbw]
           rfl
          refine take_ (i := 4) (N := some 21) (v := ?_) (a' := ?_) #[true, true, true, true, true, true, true, true, true, false, false, false, false, false, false, false, false, false, false, false, false, false, false, false, false, false, false, false, false, false, false, false, false, false, false, false, false, false] rfl rfl (qdk HT_.out HW_.out (by kernel_rfl)) (fun _ _ _ h => h) (Or.inl ⟨by rfl, ?_⟩) hHeld ?_ ?_
          rotate_left
          ·rintro w' ⟨s0, s1, s2, s3, s4, s5, s6, s7, s8, s9, s10, s11, s12, s13, s14, s15, s16, s17⟩
           go_simp
           with_reducible rfl
          rotate_left
          ·simp only [Act.put, List.setIfInBounds_toArray, List.set_cons_zero, List.set_cons_succ, qbv, qbw]
           rfl
          refine take_ (i := 9) (N := some 26) (v := ?_) (a' := ?_) #[true, true, true, true, true, true, true, true, true, true, false, false, false, false, false, false, false, false, false, false, false, false, false, false, false, false, false, false, false, false, false, false, false, false, false, false, false, false] rfl rfl (qdk HT_.out HW_.out (by kernel_rfl)) (fun _ _ _ h => h) (Or.inl ⟨by rfl, ?_⟩) hHeld ?_ ?_
          rotate_left
          ·rintro w' ⟨s0, s1, s2, s3, s4, s5, s6, s7, s8, s9, s10, s11, s12, s13, s14, s15, s16, s17⟩
           go_simp
           with_reducible rfl
          rotate_left
          ·simp only [Act.put, List.setIfInBounds_toArray, List.set_cons_zero, List.set_cons_succ, qbv, qbw]
           rfl
          refine qcj (i := 10) (N := some 27) (v := ?_) (a' := ?_) #[true, true, true, true, true, true, true, true, true, true, true, false, false, false, false, false, false, false, false, false, false, false, false, false, false, false, false, false, false, false, false, false, false, false, false, false, false, false] rfl rfl (qbk HT_.out (by kernel_rfl)) (fun _ _ _ h => h) (Or.inl ⟨by rfl, ?_⟩) ?_ ?_
          rotate_left
          ·intro w'
           go_simp
           with_reducible rfl
          rotate_left
          ·simp only [Act.put, List.setIfInBounds_toArray, List.set_cons_zero, List.set_cons_succ, qbv, qbw]
           rfl
          refine qcj (i := 11) (N := some 28) (v := ?_) (a' := ?_) #[true, true, true, true, true, true, true, true, true, true, true, true, false, false, false, false, false, false, false, false, false, false, false, false, false, false, false, false, false, false, false, false, false, false, false, false, false, false] rfl rfl (qbk HT_.out (by kernel_rfl)) (fun _ _ _ h => h) (Or.inl ⟨by rfl, ?_⟩) ?_ ?_
          rotate_left
          ·intro w'
           go_simp
           with_reducible rfl
          rotate_left
          ·simp only [Act.put, List.setIfInBounds_toArray, List.set_cons_zero, List.set_cons_succ, qbv, qbw]
           rfl
          refine qcj (i := 12) (N := some 29) (v := ?_) (a' := ?_) #[true, true, true, true, true, true, true, true, true, true, true, true, true, false, false, false, false, false, false, false, false, false, false, false, false, false, false, false, false, false, false, false, false, false, false, false, false, false] rfl rfl (qbk HT_.out (by kernel_rfl)) (fun _ _ _ h => h) (Or.inl ⟨by rfl, ?_⟩) ?_ ?_
          rotate_left
          ·intro w'
           go_simp
           with_reducible rfl
          rotate_left
          ·simp only [Act.put, List.setIfInBounds_toArray, List.set_cons_zero, List.set_cons_succ, qbv, qbw]
           rfl
          refine qcj (i := 13) (N := some 30) (v := ?_) (a' := ?_) #[true, true, true, true, true, true, true, true, true, true, true, true, true, true, false, false, false, false, false, false, false, false, false, false, false, false, false, false, false, false, false, false, false, false, false, false, false, false] rfl rfl (qbk HT_.out (by kernel_rfl)) (fun _ _ _ h => h) (Or.inl ⟨by rfl, ?_⟩) ?_ ?_
          rotate_left
          ·intro w'
           go_simp
           with_reducible rfl
          rotate_left
          ·simp only [Act.put, List.setIfInBounds_toArray, List.set_cons_zero, List.set_cons_succ, qbv, qbw]
           rfl
          refine qcj (i := 14) (N := some 31) (v := ?_) (a' := ?_) #[true, true, true, true, true, true, true, true, true, true, true, true, true, true, true, false, false, false, false, false, false, false, false, false, false, false, false, false, false, false, false, false, false, false, false, false, false, false] rfl rfl (qbk HT_.out (by kernel_rfl)) (fun _ _ _ h => h) (Or.inl ⟨by rfl, ?_⟩) ?_ ?_
          rotate_left
          ·intro w'
           go_simp
           with_reducible rfl
          rotate_left
          ·simp only [Act.put, List.setIfInBounds_toArray, List.set_cons_zero, List.set_cons_succ, qbv, qbw]
           rfl
          refine qcj (i := 15) (N := some 32) (v := ?_) (a' := ?_) #[true, true, true, true, true, true, true, true, true, true, true, true, true, true, true, true, false, false, false, false, false, false, false, false, false, false, false, false, false, false, false, false, false, false, false, false, false, false] rfl rfl (qbk HT_.out (by kernel_rfl)) (fun _ _ _ h => h) (Or.inl ⟨by rfl, ?_⟩) ?_ ?_
          rotate_left
          ·intro w'
           go_simp
           with_reducible rfl
          rotate_left
          ·simp only [Act.put, List.setIfInBounds_toArray, List.set_cons_zero, List.set_cons_succ, qbv, qbw]
           rfl
          refine qcj (i := 17) (N := some 34) (v := ?_) (a' := ?_) #[true, true, true, true, true, true, true, true, true, true, true, true, true, true, true, true, false, true, false, false, false, false, false, false, false, false, false, false, false, false, false, false, false, false, false, false, false, false] rfl rfl (qbk HT_.out (by kernel_rfl)) (fun _ _ _ h => h) (Or.inl ⟨by rfl, ?_⟩) ?_ ?_
          rotate_left
          ·intro w'
           go_simp
           with_reducible rfl
          rotate_left
          ·simp only [Act.put, List.setIfInBounds_toArray, List.set_cons_zero, List.set_cons_succ, qbv, qbw]
           rfl
          refine qcj (i := 18) (N := some 35) (v := ?_) (a' := ?_) #[true, true, true, true, true, true, true, true, true, true, true, true, true, true, true, true, false, true, true, false, false, false, false, false, false, false, false, false, false, false, false, false, false, false, false, false, false, false] rfl rfl (qbk HT_.out (by kernel_rfl)) (fun _ _ _ h => h) (Or.inl ⟨by rfl, ?_⟩) ?_ ?_
          rotate_left
          ·intro w'
           go_simp
           with_reducible rfl
          rotate_left
          ·simp only [Act.put, List.setIfInBounds_toArray, List.set_cons_zero, List.set_cons_succ, qbv, qbw]
           rfl
          refine qcj (i := 19) (N := some 36) (v := ?_) (a' := ?_) #[true, true, true, true, true, true, true, true, true, true, true, true, true, true, true, true, false, true, true, true, false, false, false, false, false, false, false, false, false, false, false, false, false, false, false, false, false, false] rfl rfl (qbk HT_.out (by kernel_rfl)) (fun _ _ _ h => h) (Or.inl ⟨by rfl, ?_⟩) ?_ ?_
          rotate_left
          ·intro w'
           go_simp
           with_reducible rfl
          rotate_left
          ·simp only [Act.put, List.setIfInBounds_toArray, List.set_cons_zero, List.set_cons_succ, qbv, qbw]
           rfl
          refine qcj (i := 20) (N := some 37) (v := ?_) (a' := ?_) #[true, true, true, true, true, true, true, true, true, true, true, true, true, true, true, true, false, true, true, true, true, false, false, false, false, false, false, false, false, false, false, false, false, false, false, false, false, false] rfl rfl (qbk HT_.out (by kernel_rfl)) (fun _ _ _ h => h) (Or.inl ⟨by rfl, ?_⟩) ?_ ?_
          rotate_left
          ·intro w'
           go_simp
           with_reducible rfl
          rotate_left
          ·simp only [Act.put, List.setIfInBounds_toArray, List.set_cons_zero, List.set_cons_succ, qbv, qbw]
           rfl
          refine take_ (i := 16) (N := some 33) (v := ?_) (a' := ?_) #[true, true, true, true, true, true, true, true, true, true, true, true, true, true, true, true, true, true, true, true, true, false, false, false, false, false, false, false, false, false, false, false, false, false, false, false, false, false] rfl rfl (qdk HT_.out HW_.out (by kernel_rfl)) (fun _ _ _ h => h) (Or.inl ⟨by rfl, ?_⟩) hHeld ?_ ?_
          rotate_left
          ·rintro w' ⟨s0, s1, s2, s3, s4, s5, s6, s7, s8, s9, s10, s11, s12, s13, s14, s15, s16, s17⟩
           go_simp
           with_reducible rfl
          rotate_left
          ·simp only [Act.put, List.setIfInBounds_toArray, List.set_cons_zero, List.set_cons_succ, qbv, qbw]
           rfl
          refine take_ (i := 21) (N := some 38) (v := ?_) (a' := ?_) #[true, true, true, true, true, true, true, true, true, true, true, true, true, true, true, true, true, true, true, true, true, true, false, false, false, false, false, false, false, false, false, false, false, false, false, false, false, false] rfl rfl (qdk HT_.out HW_.out (by kernel_rfl)) (fun _ _ _ h => h) (Or.inl ⟨by rfl, ?_⟩) hHeld ?_ ?_
          rotate_left
          ·rintro w' ⟨s0, s1, s2, s3, s4, s5, s6, s7, s8, s9, s10, s11, s12, s13, s14, s15, s16, s17⟩
           go_simp
           with_reducible rfl
          rotate_left
          ·simp only [Act.put, List.setIfInBounds_toArray, List.set_cons_zero, List.set_cons_succ, qbv, qbw]
           rfl
          refine qcj (i := 22) (N := some 39) (v := ?_) (a' := ?_) #[true, true, true, true, true, true, true, true, true, true, true, true, true, true, true, true, true, true, true, true, true, true, true, false, false, false, false, false, false, false, false, false, false, false, false, false, false, false] rfl rfl (qbk HT_.out (by kernel_rfl)) (fun _ _ _ h => h) (Or.inl ⟨by rfl, ?_⟩) ?_ ?_
          rotate_left
          ·intro w'
           go_simp
           with_reducible rfl
          rotate_left
          ·simp only [Act.put, List.setIfInBounds_toArray, List.set_cons_zero, List.set_cons_succ, qbv, qbw]
           rfl
          refine qcj (i := 23) (N := some 40) (v := ?_) (a' := ?_) #[true, true, true, true, true, true, true, true, true, true, true, true, true, true, true, true, true, true, true, true, true, true, true, true, false, false, false, false, false, false, false, false, false, false, false, false, false, false] rfl rfl (qbk HT_.out (by kernel_rfl)) (fun _ _ _ h => h) (Or.inl ⟨by rfl, ?_⟩) ?_ ?_
          rotate_left
          ·intro w'
           go_simp
           with_reducible rfl
          rotate_left
          ·simp only [Act.put, List.setIfInBounds_toArray, List.set_cons_zero, List.set_cons_succ, qbv, qbw]
           rfl
          refine qcj (i := 24) (N := some 41) (v := ?_) (a' := ?_) #[true, true, true, true, true, true, true, true, true, true, true, true, true, true, true, true, true, true, true, true, true, true, true, true, true, false, false, false, false, false, false, false, false, false, false, false, false, false] rfl rfl (qbk HT_.out (by kernel_rfl)) (fun _ _ _ h => h) (Or.inl ⟨by rfl, ?_⟩) ?_ ?_
          rotate_left
          ·intro w'
           go_simp
           with_reducible rfl
          rotate_left
          ·simp only [Act.put, List.setIfInBounds_toArray, List.set_cons_zero, List.set_cons_succ, qbv, qbw]
           rfl
          refine qcj (i := 25) (N := some 42) (v := ?_) (a' := ?_) #[true, true, true, true, true, true, true, true, true, true, true, true, true, true, true, true, true, true, true, true, true, true, true, true, true, true, false, false, false, false, false, false, false, false, false, false, false, false] rfl rfl (qbk HT_.out (by kernel_rfl)) (fun _ _ _ h => h) (Or.inl ⟨by rfl, ?_⟩) ?_ ?_
          rotate_left
          ·intro w'
           go_simp
           with_reducible rfl
          rotate_left
          ·simp only [Act.put, List.setIfInBounds_toArray, List.set_cons_zero, List.set_cons_succ, qbv, qbw]
           rfl
          refine qcj (i := 26) (N := some 43) (v := ?_) (a' := ?_) #[true, true, true, true, true, true, true, true, true, true, true, true, true, true, true, true, true, true, true, true, true, true, true, true, true, true, true, false, false, false, false, false, false, false, false, false, false, false] rfl rfl (qbk HT_.out (by kernel_rfl)) (fun _ _ _ h => h) (Or.inl ⟨by rfl, ?_⟩) ?_ ?_
          rotate_left
          ·intro w'
           go_simp
           with_reducible rfl
          rotate_left
          ·simp only [Act.put, List.setIfInBounds_toArray, List.set_cons_zero, List.set_cons_succ, qbv, qbw]
           rfl
          refine qcj (i := 27) (N := some 44) (v := ?_) (a' := ?_) #[true, true, true, true, true, true, true, true, true, true, true, true, true, true, true, true, true, true, true, true, true, true, true, true, true, true, true, true, false, false, false, false, false, false, false, false, false, false] rfl rfl (qbk HT_.out (by kernel_rfl)) (fun _ _ _ h => h) (Or.inl ⟨by rfl, ?_⟩) ?_ ?_
          rotate_left
          ·intro w'
           go_simp
           with_reducible rfl
          rotate_left
          ·simp only [Act.put, List.setIfInBounds_toArray, List.set_cons_zero, List.set_cons_succ, qbv, qbw]
           rfl
          refine qcj (i := 28) (N := some 45) (v := ?_) (a' := ?_) #[true, true, true, true, true, true, true, true, true, true, true, true, true, true, true, true, true, true, true, true, true, true, true, true, true, true, true, true, true, false, false, false, false, false, false, false, false, false] rfl rfl (qbk HT_.out (by kernel_rfl)) (fun _ _ _ h => h) (Or.inl ⟨by rfl, ?_⟩) ?_ ?_
          rotate_left
          ·intro w'
           go_simp
           with_reducible rfl
          rotate_left
          ·simp only [Act.put, List.setIfInBounds_toArray, List.set_cons_zero, List.set_cons_succ, qbv, qbw]
           rfl
          refine qcj (i := 30) (N := some 47) (v := ?_) (a' := ?_) #[true, true, true, true, true, true, true, true, true, true, true, true, true, true, true, true, true, true, true, true, true, true, true, true, true, true, true, true, true, false, true, false, false, false, false, false, false, false] rfl rfl (qbk HT_.out (by kernel_rfl)) (fun _ _ _ h => h) (Or.inl ⟨by rfl, ?_⟩) ?_ ?_
          rotate_left
          ·intro w'
           go_simp
           with_reducible rfl
          rotate_left
          ·simp only [Act.put, List.setIfInBounds_toArray, List.set_cons_zero, List.set_cons_succ, qbv, qbw]
           rfl
          refine qcj (i := 31) (N := some 48) (v := ?_) (a' := ?_) #[true, true, true, true, true, true, true, true, true, true, true, true, true, true, true, true, true, true, true, true, true, true, true, true, true, true, true, true, true, false, true, true, false, false, false, false, false, false] rfl rfl (qbk HT_.out (by kernel_rfl)) (fun _ _ _ h => h) (Or.inl ⟨by rfl, ?_⟩) ?_ ?_
          rotate_left
          ·intro w'
           go_simp
           with_reducible rfl
          rotate_left
          ·simp only [Act.put, List.setIfInBounds_toArray, List.set_cons_zero, List.set_cons_succ, qbv, qbw]
           rfl
          refine qcj (i := 32) (N := some 49) (v := ?_) (a' := ?_) #[true, true, true, true, true, true, true, true, true, true, true, true, true, true, true, true, true, true, true, true, true, true, true, true, true, true, true, true, true, false, true, true, true, false, false, false, false, false] rfl rfl (qbk HT_.out (by kernel_rfl)) (fun _ _ _ h => h) (Or.inl ⟨by rfl, ?_⟩) ?_ ?_
          rotate_left
          ·intro w'
           go_simp
           with_reducible rfl
          rotate_left
          ·simp only [Act.put, List.setIfInBounds_toArray, List.set_cons_zero, List.set_cons_succ, qbv, qbw]
           rfl
          refine qcj (i := 33) (N := some 50) (v := ?_) (a' := ?_) #[true, true, true, true, true, true, true, true, true, true, true, true, true, true, true, true, true, true, true, true, true, true, true, true, true, true, true, true, true, false, true, true, true, true, false, false, false, false] rfl rfl (qbk HT_.out (by kernel_rfl)) (fun _ _ _ h => h) (Or.inl ⟨by rfl, ?_⟩) ?_ ?_
          rotate_left
          ·intro w'
           go_simp
           with_reducible rfl
          rotate_left
          ·simp only [Act.put, List.setIfInBounds_toArray, List.set_cons_zero, List.set_cons_succ, qbv, qbw]
           rfl
          refine take_ (i := 29) (N := some 46) (v := ?_) (a' := ?_) #[true, true, true, true, true, true, true, true, true, true, true, true, true, true, true, true, true, true, true, true, true, true, true, true, true, true, true, true, true, true, true, true, true, true, false, false, false, false] rfl rfl (qdk HT_.out HW_.out (by kernel_rfl)) (fun _ _ _ h => h) (Or.inl ⟨by rfl, ?_⟩) hHeld ?_ ?_
          rotate_left
          ·rintro w' ⟨s0, s1, s2, s3, s4, s5, s6, s7, s8, s9, s10, s11, s12, s13, s14, s15, s16, s17⟩
           go_simp
           with_reducible rfl
          rotate_left
          ·simp only [Act.put, List.setIfInBounds_toArray, List.set_cons_zero, List.set_cons_succ, qbv, qbw]
           rfl
          refine take_ (i := 34) (N := some 51) (v := ?_) (a' := ?_) #[true, true, true, true, true, true, true, true, true, true, true, true, true, true, true, true, true, true, true, true, true, true, true, true, true, true, true, true, true, true, true, true, true, true, true, false, false, false] rfl rfl (qdk HT_.out HW_.out (by kernel_rfl)) (fun _ _ _ h => h) (Or.inl ⟨by rfl, ?_⟩) hHeld ?_ ?_
          rotate_left
          ·rintro w' ⟨s0, s1, s2, s3, s4, s5, s6, s7, s8, s9, s10, s11, s12, s13, s14, s15, s16, s17⟩
           go_simp
           with_reducible rfl
          rotate_left
          ·simp only [Act.put, List.setIfInBounds_toArray, List.set_cons_zero, List.set_cons_succ, qbv, qbw]
           rfl
          refine one_ (i := 35) (N := some 52) #[true, true, true, true, true, true, true, true, true, true, true, true, true, true, true, true, true, true, true, true, true, true, true, true, true, true, true, true, true, true, true, true, true, true, true, true, false, false] rfl rfl (qfk HT_.out (by kernel_rfl)) (by decide) (fun K hK => ?_)
          refine qhx Try.func29 (by kernel_rfl) rfl #[.slice A779_1 ((qdz l0 x5_1).f1).length c779_1, .slice A780_1 ((qdz l1 x5_1).f1).length c780_1] (by rfl) rfl rfl (by (try simp only [List.map_toArray, List.map_cons, List.map_nil]); first | done | rfl | (simp only [List.length_drop, List.length_take]; rfl)) ?_
          with_reducible refine (tumbrelref02_Same.calls k1 _ _ ((qdz l0 x5_1).f1) _ _ ((qdz l1 x5_1).f1) false _ ?side1 ?side2 ?side3 ?side4 A9.out).mono ?_
          (case side1 => repeat (first | exact (Kd.C_below HR783_1.out HB.out) | (with_reducible refine Kd.C_alloc ?_ _) | (with_reducible refine Kd.C_drewN ?_ _) | (with_reducible refine Kd.C_drew ?_)))
          (case side2 => exact HC783_1.out)
          (case side3 => repeat (first | exact (Kd.C_below HR784_1.out HB.out) | (with_reducible refine Kd.C_alloc ?_ _) | (with_reducible refine Kd.C_drewN ?_ _) | (with_reducible refine Kd.C_drew ?_)))
          (case side4 => exact HC784_1.out)
          rintro e w' ⟨rfl, ⟨nd, rfl⟩⟩
          refine ⟨_, rfl, ?_⟩
          refine hK.out _ _ ⟨((HB.out.cell (World.block_lt_of_cell? w _ hw779_0)).trans hw779_0), ((HB.out.cell (World.block_lt_of_cell? w _ hw779_1)).trans hw779_1), ((HB.out.cell (World.block_lt_of_cell? w _ hw779_2)).trans hw779_2), ((HB.out.cell (World.block_lt_of_cell? w _ hw780_0)).trans hw780_0), ((HB.out.cell (World.block_lt_of_cell? w _ hw780_1)).trans hw780_1), ((HB.out.cell (World.block_lt_of_cell? w _ hw780_2)).trans hw780_2), ((HB.out.cell (World.block_lt_of_cell? w _ hw781_0)).trans hw781_0), ((HB.out.cell (World.block_lt_of_cell? w _ hw781_1)).trans hw781_1), ((HB.out.cell (World.block_lt_of_cell? w _ hw781_2)).trans hw781_2), ((HB.out.cell (World.block_lt_of_cell? w _ hw782_0)).trans hw782_0), ((HB.out.cell (World.block_lt_of_cell? w _ hw782_1)).trans hw782_1), ((HB.out.cell (World.block_lt_of_cell? w _ hw782_2)).trans hw782_2), ((HB.out.cell (World.block_lt_of_cell? w _ hw783_0)).trans hw783_0), ((HB.out.cell (World.block_lt_of_cell? w _ hw783_1)).trans hw783_1), ((HB.out.cell (World.block_lt_of_cell? w _ hw783_2)).trans hw783_2), ((HB.out.cell (World.block_lt_of_cell? w _ hw784_0)).trans hw784_0), ((HB.out.cell (World.block_lt_of_cell? w _ hw784_1)).trans hw784_1), ((HB.out.cell (World.block_lt_of_cell? w _ hw784_2)).trans hw784_2)⟩ (fun hHeld => ?_)
          clear hK K
          refine qhz (a' := ?_) ?_ ?_
          rotate_left
          ·show Act.put _ (some 52) _ = _
           simp only [Act.put, List.setIfInBounds_toArray, List.set_cons_zero, List.set_cons_succ, qbv, qbw]
           rfl
          refine qcj (i := 36) (N := some 53) (v := ?_) (a' := ?_) #[true, true, true, true, true, true, true, true, true, true, true, true, true, true, true, true, true, true, true, true, true, true, true, true, true, true, true, true, true, true, true, true, true, true, true, true, true, false] rfl rfl (qbk HT_.out (by kernel_rfl)) (fun _ _ _ h => h) (Or.inl ⟨by rfl, ?_⟩) ?_ ?_
          rotate_left
          ·intro w'
           go_simp
           with_reducible rfl
          rotate_left
          ·simp only [Act.put, List.setIfInBounds_toArray, List.set_cons_zero, List.set_cons_succ, qbv, qbw]
           rfl
          refine qcj (i := 37) (N := some 54) (v := ?_) (a' := ?_) #[true, true, true, true, true, true, true, true, true, true, true, true, true, true, true, true, true, true, true, true, true, true, true, true, true, true, true, true, true, true, true, true, true, true, true, true, true, true] rfl rfl (qbk HT_.out (by kernel_rfl)) (fun _ _ _ h => h) (Or.inl ⟨by rfl, ?_⟩) ?_ ?_
          rotate_left
          ·intro w'
           go_simp
           with_reducible rfl
          rotate_left
          ·simp only [Act.put, List.setIfInBounds_toArray, List.set_cons_zero, List.set_cons_succ, qbv, qbw]
           rfl
          refine qlv (qiq HT_.out (by kernel_rfl)) ?_
          try go_wp2
          go_ret
          exact ⟨by first | rfl | (simp [qcq, qcz] <;> rfl) | (simp [*, qcq, qcz] <;> rfl), by repeat (first | (with_reducible first | exact HB.out | apply qax | apply qaq | apply qaz) | exact HB.out)⟩
        ·rw [if_neg c8] at H
         have c8b0 : (((qdz l0 x5_1).f2).toList == ((qdz l1 x5_1).f2).toList) = false := beq_eq_false_iff_ne.mpr c8
         have c8b1 : (((qdz l0 x5_1).f2).toList != ((qdz l1 x5_1).f2).toList) = true := bne_iff_ne.mpr c8
         obtain rfl := Option.some.inj H
         try go_wp2
         have n0_ := Aside0.mk (qaz HB.out)
         clear HB
         have HB := n0_
         clear n0_
         have p779 : 0 ≤ (x5_1 : Int) := of_decide_eq_true (by first | (with_reducible assumption) | assumption)
         have q779 : x5_1 < (l0.length : Int) := of_decide_eq_true (by first | (with_reducible assumption) | assumption)
         obtain ⟨ad779, A779_1, c779_1, e779, hx779_0, hx779_1, hx779_2, hl779_1, hi779_1⟩ := qjj HR0.out x5_1 p779 q779
         have hw779_2 := hx779_2
         have hw779_1 := hx779_1
         have hw779_0 := hx779_0
         cases e779
         replace hx779_0 := (HB.out.cell (World.block_lt_of_cell? w _ hx779_0)).trans hx779_0
         replace hx779_1 := (HB.out.cell (World.block_lt_of_cell? w _ hx779_1)).trans hx779_1
         replace hx779_2 := (HB.out.cell (World.block_lt_of_cell? w _ hx779_2)).trans hx779_2
         have HR779_1 := Aside0.mk hi779_1
         have HC779_1 := Aside0.mk hl779_1
         clear hi779_1 hl779_1
         replace p779 := eq_true p779
         replace q779 := eq_true q779
         have p780 : 0 ≤ (x5_1 : Int) := of_decide_eq_true (by first | (with_reducible assumption) | assumption)
         have q780 : x5_1 < (l1.length : Int) := of_decide_eq_true (by first | (with_reducible assumption) | assumption)
         obtain ⟨ad780, A780_1, c780_1, e780, hx780_0, hx780_1, hx780_2, hl780_1, hi780_1⟩ := qjj HR1.out x5_1 p780 q780
         have hw780_2 := hx780_2
         have hw780_1 := hx780_1
         have hw780_0 := hx780_0
         cases e780
         replace hx780_0 := (HB.out.cell (World.block_lt_of_cell? w _ hx780_0)).trans hx780_0
         replace hx780_1 := (HB.out.cell (World.block_lt_of_cell? w _ hx780_1)).trans hx780_1
         replace hx780_2 := (HB.out.cell (World.block_lt_of_cell? w _ hx780_2)).trans hx780_2
         have HR780_1 := Aside0.mk hi780_1
         have HC780_1 := Aside0.mk hl780_1
         clear hi780_1 hl780_1
         replace p780 := eq_true p780
         replace q780 := eq_true q780
         have p781 : 0 ≤ (x5_1 : Int) := of_decide_eq_true (by first | (with_reducible assumption) | assumption)
         have q781 : x5_1 < (l0.length : Int) := of_decide_eq_true (by first | (with_reducible assumption) | assumption)
         obtain ⟨ad781, A781_1, c781_1, e781, hx781_0, hx781_1, hx781_2, hl781_1, hi781_1⟩ := qjj HR0.out x5_1 p781 q781
         have hw781_2 := hx781_2
         have hw781_1 := hx781_1
         have hw781_0 := hx781_0
         obtain rfl : ad779 = ad781 := (by injection e781)
         replace hx781_0 := (HB.out.cell (World.block_lt_of_cell? w _ hx781_0)).trans hx781_0
         replace hx781_1 := (HB.out.cell (World.block_lt_of_cell? w _ hx781_1)).trans hx781_1
         replace hx781_2 := (HB.out.cell (World.block_lt_of_cell? w _ hx781_2)).trans hx781_2
         have HR781_1 := Aside0.mk hi781_1
         have HC781_1 := Aside0.mk hl781_1
         clear hi781_1 hl781_1
         replace p781 := eq_true p781
         replace q781 := eq_true q781
         have ea_ := Option.some.inj (hx779_1.symm.trans hx781_1)
         injection ea_ with ea_ en_ ec_
         subst ea_
         subst ec_
         clear en_
         have p782 : 0 ≤ (x5_1 : Int) := of_decide_eq_true (by first | (with_reducible assumption) | assumption)
         have q782 : x5_1 < (l1.length : Int) := of_decide_eq_true (by first | (with_reducible assumption) | assumption)
         obtain ⟨ad782, A782_1, c782_1, e782, hx782_0, hx782_1, hx782_2, hl782_1, hi782_1⟩ := qjj HR1.out x5_1 p782 q782
         have hw782_2 := hx782_2
         have hw782_1 := hx782_1
         have hw782_0 := hx782_0
         obtain rfl : ad780 = ad782 := (by injection e782)
         replace hx782_0 := (HB.out.cell (World.block_lt_of_cell? w _ hx782_0)).trans hx782_0
         replace hx782_1 := (HB.out.cell (World.block_lt_of_cell? w _ hx782_1)).trans hx782_1
         replace hx782_2 := (HB.out.cell (World.block_lt_of_cell? w _ hx782_2)).trans hx782_2
         have HR782_1 := Aside0.mk hi782_1
         have HC782_1 := Aside0.mk hl782_1
         clear hi782_1 hl782_1
         replace p782 := eq_true p782
         replace q782 := eq_true q782
         have ea_ := Option.some.inj (hx780_1.symm.trans hx782_1)
         injection ea_ with ea_ en_ ec_
         subst ea_
         subst ec_
         clear en_
         refine qjz (n := 38) (S := fun w' => w'.cell? (ad779.add ((x5_1).toNat * 3)) = some (.int .i64 ((qdz l0 x5_1).f0)) ∧ w'.cell? ⟨(ad779.add ((x5_1).toNat * 3)).block, (ad779.add ((x5_1).toNat * 3)).off + 1, none⟩ = some (.slice A779_1 ((qdz l0 x5_1).f1).length c779_1) ∧ w'.cell? ⟨(ad779.add ((x5_1).toNat * 3)).block, (ad779.add ((x5_1).toNat * 3)).off + 2, none⟩ = some (.string ((qdz l0 x5_1).f2)) ∧ w'.cell? (ad780.add ((x5_1).toNat * 3)) = some (.int .i64 ((qdz l1 x5_1).f0)) ∧ w'.cell? ⟨(ad780.add ((x5_1).toNat * 3)).block, (ad780.add ((x5_1).toNat * 3)).off + 1, none⟩ = some (.slice A780_1 ((qdz l1 x5_1).f1).length c780_1) ∧ w'.cell? ⟨(ad780.add ((x5_1).toNat * 3)).block, (ad780.add ((x5_1).toNat * 3)).off + 2, none⟩ = some (.string ((qdz l1 x5_1).f2)) ∧ w'.cell? (ad779.add ((x5_1).toNat * 3)) = some (.int .i64 ((qdz l0 x5_1).f0)) ∧ w'.cell? ⟨(ad779.add ((x5_1).toNat * 3)).block, (ad779.add ((x5_1).toNat * 3)).off + 1, none⟩ = some (.slice A779_1 ((qdz l0 x5_1).f1).length c779_1) ∧ w'.cell? ⟨(ad779.add ((x5_1).toNat * 3)).block, (ad779.add ((x5_1).toNat * 3)).off + 2, none⟩ = some (.string ((qdz l0 x5_1).f2)) ∧ w'.cell? (ad780.add ((x5_1).toNat * 3)) = some (.int .i64 ((qdz l1 x5_1).f0)) ∧ w'.cell? ⟨(ad780.add ((x5_1).toNat * 3)).block, (ad780.add ((x5_1).toNat * 3)).off + 1, none⟩ = some (.slice A780_1 ((qdz l1 x5_1).f1).length c780_1) ∧ w'.cell? ⟨(ad780.add ((x5_1).toNat * 3)).block, (ad780.add ((x5_1).toNat * 3)).off + 2, none⟩ = some (.string ((qdz l1 x5_1).f2))) (ds := []) #[false, false, false, false, false, false, false, false, false, false, false, false, false, false, false, false, false, false, false, false, false, false, false, false, false, false, false, false, false, false, false, false, false, false, false, false, false, false] (by kernel_rfl) rfl rfl ⟨((HB.out.cell (World.block_lt_of_cell? w _ hw779_0)).trans hw779_0), ((HB.out.cell (World.block_lt_of_cell? w _ hw779_1)).trans hw779_1), ((HB.out.cell (World.block_lt_of_cell? w _ hw779_2)).trans hw779_2), ((HB.out.cell (World.block_lt_of_cell? w _ hw780_0)).trans hw780_0), ((HB.out.cell (World.block_lt_of_cell? w _ hw780_1)).trans hw780_1), ((HB.out.cell (World.block_lt_of_cell? w _ hw780_2)).trans hw780_2), ((HB.out.cell (World.block_lt_of_cell? w _ hw781_0)).trans hw781_0), ((HB.out.cell (World.block_lt_of_cell? w _ hw781_1)).trans hw781_1), ((HB.out.cell (World.block_lt_of_cell? w _ hw781_2)).trans hw781_2), ((HB.out.cell (World.block_lt_of_cell? w _ hw782_0)).trans hw782_0), ((HB.out.cell (World.block_lt_of_cell? w _ hw782_1)).trans hw782_1), ((HB.out.cell (World.block_lt_of_cell? w _ hw782_2)).trans hw782_2)⟩ (fun hHeld => ?_); refine qfw tumbrelref05_Same.tab6 tumbrelref05_Same.bits6 (fun HT_ HW_ => ?_)
         generalize wr.drew = w13 at HB HR779_1 HR780_1 HR781_1 HR782_1 hx779_0 hx779_1 hx779_2 hx780_0 hx780_1 hx780_2 hx781_0 hx781_1 hx781_2 hx782_0 hx782_1 hx782_2 hHeld ⊢
         refine qcj (i := 0) (N := some 17) (v := ?_) (a' := ?_) #[true, false, false, false, false, false, false, false, false, false, false, false, false, false, false, false, false, false, false, false, false, false, false, false, false, false, false, false, false, false, false, false, false, false, false, false, false, false] rfl rfl (qbk HT_.out (by kernel_rfl)) (fun _ _ _ h => h) (Or.inl ⟨by rfl, ?_⟩) ?_ ?_
         rotate_left
         ·intro w'
          go_simp
          with_reducible rfl
         rotate_left
         ·simp only [Act.put, List.setIfInBounds_toArray, List.set_cons_zero, List.set_cons_succ, qbv, qbw]
          rfl
         refine qcj (i := 1) (N := some 18) (v := ?_) (a' := ?_) #[true, true, false, false, false, false, false, false, false, false, false, false, false, false, false, false, false, false, false, false, false, false, false, false, false, false, false, false, false, false, false, false, false, false, false, false, false, false] rfl rfl (qbk HT_.out (by kernel_rfl)) (fun _ _ _ h => h) (Or.inl ⟨by rfl, ?_⟩) ?_ ?_
         rotate_left
         ·intro w'
          go_simp
          with_reducible rfl
         rotate_left
         ·simp only [Act.put, List.setIfInBounds_toArray, List.set_cons_zero, List.set_cons_succ, qbv, qbw]
          rfl
         refine qcj (i := 2) (N := some 19) (v := ?_) (a' := ?_) #[true, true, true, false, false, false, false, false, false, false, false, false, false, false, false, false, false, false, false, false, false, false, false, false, false, false, false, false, false, false, false, false, false, false, false, false, false, false] rfl rfl (qbk HT_.out (by kernel_rfl)) (fun _ _ _ h => h) (Or.inl ⟨by rfl, ?_⟩) ?_ ?_
         rotate_left
         ·intro w'
          go_simp
          with_reducible rfl
         rotate_left
         ·simp only [Act.put, List.setIfInBounds_toArray, List.set_cons_zero, List.set_cons_succ, qbv, qbw]
          rfl
         refine qcj (i := 3) (N := some 20) (v := ?_) (a' := ?_) #[true, true, true, true, false, false, false, false, false, false, false, false, false, false, false, false, false, false, false, false, false, false, false, false, false, false, false, false, false, false, false, false, false, false, false, false, false, false] rfl rfl (qbk HT_.out (by kernel_rfl)) (fun _ _ _ h => h) (Or.inl ⟨by rfl, ?_⟩) ?_ ?_
         rotate_left
         ·intro w'
          go_simp
          with_reducible rfl
         rotate_left
         ·simp only [Act.put, List.setIfInBounds_toArray, List.set_cons_zero, List.set_cons_succ, qbv, qbw]
          rfl
         refine qcj (i := 5) (N := some 22) (v := ?_) (a' := ?_) #[true, true, true, true, false, true, false, false, false, false, false, false, false, false, false, false, false, false, false, false, false, false, false, false, false, false, false, false, false, false, false, false, false, false, false, false, false, false] rfl rfl (qbk HT_.out (by kernel_rfl)) (fun _ _ _ h => h) (Or.inl ⟨by rfl, ?_⟩) ?_ ?_
         rotate_left
         ·intro w'
          go_simp
          with_reducible rfl
         rotate_left
         ·simp only [Act.put, List.setIfInBounds_toArray, List.set_cons_zero, List.set_cons_succ, qbv, qbw]
          rfl
         refine qcj (i := 6) (N := some 23) (v := ?_) (a' := ?_) #[true, true, true, true, false, true, true, false, false, false, false, false, false, false, false, false, false, false, false, false, false, false, false, false, false, false, false, false, false, false, false, false, false, false, false, false, false, false] rfl rfl (qbk HT_.out (by kernel_rfl)) (fun _ _ _ h => h) (Or.inl ⟨by rfl, ?_⟩) ?_ ?_
         rotate_left
         ·intro w'
          go_simp
          with_reducible rfl
         rotate_left
         ·simp only [Act.put, List.setIfInBounds_toArray, List.set_cons_zero, List.set_cons_succ, qbv, qbw]
          rfl
         refine qcj (i := 7) (N := some 24) (v := ?_) (a' := ?_) #[true, true, true, true, false, true, true, true, false, false, false, false, false, false, false, false, false, false, false, false, false, false, false, false, false, false, false, false, false, false, false, false, false, false, false, false, false, false] rfl rfl (qbk HT_.out (by kernel_rfl)) (fun _ _ _ h => h) (Or.inl ⟨by rfl, ?_⟩) ?_ ?_
         rotate_left
         ·intro w'
          go_simp
          with_reducible rfl
         rotate_left
         ·simp only [Act.put, List.setIfInBounds_toArray, List.set_cons_zero, List.set_cons_succ, qbv, qbw]
          rfl
         refine qcj (i := 8) (N := some 25) (v := ?_) (a' := ?_) #[true, true, true, true, false, true, true, true, true, false, false, false, false, false, false, false, false, false, false, false, false, false, false, false, false, false, false, false, false, false, false, false, false, false, false, false, false, false] rfl rfl (qbk HT_.out (by kernel_rfl)) (fun _ _ _ h => h) (Or.inl ⟨by rfl, ?_⟩) ?_ ?_
         rotate_left
         ·intro w'
          go_simp
          with_reducible rfl
         rotate_left
         ·simp only [Act.put, List.setIfInBounds_toArray, List.set_cons_zero, List.set_cons_succ, qbv, qbw]
          rfl
         refine take_ (i := 4) (N := some 21) (v := ?_) (a' := ?_) #[true, true, true, true, true, true, true, true, true, false, false, false, false, false, false, false, false, false, false, false, false, false, false, false, false, false, false, false, false, false, false, false, false, false, false, false, false, false] rfl rfl (qdk HT_.out HW_.out (by kernel_rfl)) (fun _ _ _ h => h) (Or.inl ⟨by rfl, ?_⟩) hHeld ?_ ?_
         rotate_left
         ·rintro w' ⟨s0, s1, s2, s3, s4, s5, s6, s7, s8, s9, s10, s11⟩
          go_simp
          with_reducible rfl
         rotate_left
         ·simp only [Act.put, List.setIfInBounds_toArray, List.set_cons_zero, List.set_cons_succ, qbv, qbw]
          rfl
         refine take_ (i := 9) (N := some 26) (v := ?_) (a' := ?_) #[true, true, true, true, true, true, true, true, true, true, false, false, false, false, false, false, false, false, false, false, false, false, false, false, false, false, false, false, false, false, false, false, false, false, false, false, false, false] rfl rfl (qdk HT_.out HW_.out (by kernel_rfl)) (fun _ _ _ h => h) (Or.inl ⟨by rfl, ?_⟩) hHeld ?_ ?_
         rotate_left
         ·rintro w' ⟨s0, s1, s2, s3, s4, s5, s6, s7, s8, s9, s10, s11⟩
          go_simp
          with_reducible rfl
         rotate_left
         ·simp only [Act.put, List.setIfInBounds_toArray, List.set_cons_zero, List.set_cons_succ, qbv, qbw]
          rfl
         refine qcj (i := 10) (N := some 27) (v := ?_) (a' := ?_) #[true, true, true, true, true, true, true, true, true, true, true, false, false, false, false, false, false, false, false, false, false, false, false, false, false, false, false, false, false, false, false, false, false, false, false, false, false, false] rfl rfl (qbk HT_.out (by kernel_rfl)) (fun _ _ _ h => h) (Or.inl ⟨by rfl, ?_⟩) ?_ ?_
         rotate_left
         ·intro w'
          go_simp
          with_reducible rfl
         rotate_left
         ·simp only [Act.put, List.setIfInBounds_toArray, List.set_cons_zero, List.set_cons_succ, qbv, qbw]
          rfl
         refine qcj (i := 11) (N := some 28) (v := ?_) (a' := ?_) #[true, true, true, true, true, true, true, true, true, true, true, true, false, false, false, false, false, false, false, false, false, false, false, false, false, false, false, false, false, false, false, false, false, false, false, false, false, false] rfl rfl (qbk HT_.out (by kernel_rfl)) (fun _ _ _ h => h) (Or.inl ⟨by rfl, ?_⟩) ?_ ?_
         rotate_left
         ·intro w'
          go_simp
          with_reducible rfl
         rotate_left
         ·simp only [Act.put, List.setIfInBounds_toArray, List.set_cons_zero, List.set_cons_succ, qbv, qbw]
          rfl
         refine qcj (i := 12) (N := some 29) (v := ?_) (a' := ?_) #[true, true, true, true, true, true, true, true, true, true, true, true, true, false, false, false, false, false, false, false, false, false, false, false, false, false, false, false, false, false, false, false, false, false, false, false, false, false] rfl rfl (qbk HT_.out (by kernel_rfl)) (fun _ _ _ h => h) (Or.inl ⟨by rfl, ?_⟩) ?_ ?_
         rotate_left
         ·intro w'
          go_simp
          with_reducible rfl
         rotate_left
         ·simp only [Act.put, List.setIfInBounds_toArray, List.set_cons_zero, List.set_cons_succ, qbv, qbw]
          rfl
         refine qcj (i := 13) (N := some 30) (v := ?_) (a' := ?_) #[true, true, true, true, true, true, true, true, true, true, true, true, true, true, false, false, false, false, false, false, false, false, false, false, false, false, false, false, false, false, false, false, false, false, false, false, false, false] rfl rfl (qbk HT_.out (by kernel_rfl)) (fun _ _ _ h => h) (Or.inl ⟨by rfl, ?_⟩) ?_ ?_
         rotate_left
         ·intro w'
          go_simp
          with_reducible rfl
         rotate_left
         ·simp only [Act.put, List.setIfInBounds_toArray, List.set_cons_zero, List.set_cons_succ, qbv, qbw]
          rfl
         refine qcj (i := 14) (N := some 31) (v := ?_) (a' := ?_) #[true, true, true, true, true, true, true, true, true, true, true, true, true, true, true, false, false, false, false, false, false, false, false, false, false, false, false, false, false, false, false, false, false, false, false, false, false, false] rfl rfl (qbk HT_.out (by kernel_rfl)) (fun _ _ _ h => h) (Or.inl ⟨by rfl, ?_⟩) ?_ ?_
         rotate_left
         ·intro w'
          go_simp
          with_reducible rfl
         rotate_left
         ·simp only [Act.put, List.setIfInBounds_toArray, List.set_cons_zero, List.set_cons_succ, qbv, qbw]
          rfl
         refine qcj (i := 15) (N := some 32) (v := ?_) (a' := ?_) #[true, true, true, true, true, true, true, true, true, true, true, true, true, true, true, true, false, false, false, false, false, false, false, false, false, false, false, false, false, false, false, false, false, false, false, false, false, false] rfl rfl (qbk HT_.out (by kernel_rfl)) (fun _ _ _ h => h) (Or.inl ⟨by rfl, ?_⟩) ?_ ?_
         rotate_left
         ·intro w'
          go_simp
          with_reducible rfl
         rotate_left
         ·simp only [Act.put, List.setIfInBounds_toArray, List.set_cons_zero, List.set_cons_succ, qbv, qbw]
          rfl
         refine qcj (i := 17) (N := some 34) (v := ?_) (a' := ?_) #[true, true, true, true, true, true, true, true, true, true, true, true, true, true, true, true, false, true, false, false, false, false, false, false, false, false, false, false, false, false, false, false, false, false, false, false, false, false] rfl rfl (qbk HT_.out (by kernel_rfl)) (fun _ _ _ h => h) (Or.inl ⟨by rfl, ?_⟩) ?_ ?_
         rotate_left
         ·intro w'
          go_simp
          with_reducible rfl
         rotate_left
         ·simp only [Act.put, List.setIfInBounds_toArray, List.set_cons_zero, List.set_cons_succ, qbv, qbw]
          rfl
         refine qcj (i := 18) (N := some 35) (v := ?_) (a' := ?_) #[true, true, true, true, true, true, true, true, true, true, true, true, true, true, true, true, false, true, true, false, false, false, false, false, false, false, false, false, false, false, false, false, false, false, false, false, false, false] rfl rfl (qbk HT_.out (by kernel_rfl)) (fun _ _ _ h => h) (Or.inl ⟨by rfl, ?_⟩) ?_ ?_
         rotate_left
         ·intro w'
          go_simp
          with_reducible rfl
         rotate_left
         ·simp only [Act.put, List.setIfInBounds_toArray, List.set_cons_zero, List.set_cons_succ, qbv, qbw]
          rfl
         refine qcj (i := 19) (N := some 36) (v := ?_) (a' := ?_) #[true, true, true, true, true, true, true, true, true, true, true, true, true, true, true, true, false, true, true, true, false, false, false, false, false, false, false, false, false, false, false, false, false, false, false, false, false, false] rfl rfl (qbk HT_.out (by kernel_rfl)) (fun _ _ _ h => h) (Or.inl ⟨by rfl, ?_⟩) ?_ ?_
         rotate_left
         ·intro w'
          go_simp
          with_reducible rfl
         rotate_left
         ·simp only [Act.put, List.setIfInBounds_toArray, List.set_cons_zero, List.set_cons_succ, qbv, qbw]
          rfl
         refine qcj (i := 20) (N := some 37) (v := ?_) (a' := ?_) #[true, true, true, true, true, true, true, true, true, true, true, true, true, true, true, true, false, true, true, true, true, false, false, false, false, false, false, false, false, false, false, false, false, false, false, false, false, false] rfl rfl (qbk HT_.out (by kernel_rfl)) (fun _ _ _ h => h) (Or.inl ⟨by rfl, ?_⟩) ?_ ?_
         rotate_left
         ·intro w'
          go_simp
          with_reducible rfl
         rotate_left
         ·simp only [Act.put, List.setIfInBounds_toArray, List.set_cons_zero, List.set_cons_succ, qbv, qbw]
          rfl
         refine take_ (i := 16) (N := some 33) (v := ?_) (a' := ?_) #[true, true, true, true, true, true, true, true, true, true, true, true, true, true, true, true, true, true, true, true, true, false, false, false, false, false, false, false, false, false, false, false, false, false, false, false, false, false] rfl rfl (qdk HT_.out HW_.out (by kernel_rfl)) (fun _ _ _ h => h) (Or.inl ⟨by rfl, ?_⟩) hHeld ?_ ?_
         rotate_left
         ·rintro w' ⟨s0, s1, s2, s3, s4, s5, s6, s7, s8, s9, s10, s11⟩
          go_simp
          with_reducible rfl
         rotate_left
         ·simp only [Act.put, List.setIfInBounds_toArray, List.set_cons_zero, List.set_cons_succ, qbv, qbw]
          rfl
         refine take_ (i := 21) (N := some 38) (v := ?_) (a' := ?_) #[true, true, true, true, true, true, true, true, true, true, true, true, true, true, true, true, true, true, true, true, true, true, false, false, false, false, false, false, false, false, false, false, false, false, false, false, false, false] rfl rfl (qdk HT_.out HW_.out (by kernel_rfl)) (fun _ _ _ h => h) (Or.inl ⟨by rfl, ?_⟩) hHeld ?_ ?_
         rotate_left
         ·rintro w' ⟨s0, s1, s2, s3, s4, s5, s6, s7, s8, s9, s10, s11⟩
          go_simp
          with_reducible rfl
         rotate_left
         ·simp only [Act.put, List.setIfInBounds_toArray, List.set_cons_zero, List.set_cons_succ, qbv, qbw]
          rfl
         refine qcj (i := 22) (N := some 39) (v := ?_) (a' := ?_) #[true, true, true, true, true, true, true, true, true, true, true, true, true, true, true, true, true, true, true, true, true, true, true, false, false, false, false, false, false, false, false, false, false, false, false, false, false, false] rfl rfl (qbk HT_.out (by kernel_rfl)) (fun _ _ _ h => h) (Or.inl ⟨by rfl, ?_⟩) ?_ ?_
         rotate_left
         ·intro w'
          go_simp
          with_reducible rfl
         rotate_left
         ·simp only [Act.put, List.setIfInBounds_toArray, List.set_cons_zero, List.set_cons_succ, qbv, qbw]
          rfl
         refine qcj (i := 23) (N := some 40) (v := ?_) (a' := ?_) #[true, true, true, true, true, true, true, true, true, true, true, true, true, true, true, true, true, true, true, true, true, true, true, true, false, false, false, false, false, false, false, false, false, false, false, false, false, false] rfl rfl (qbk HT_.out (by kernel_rfl)) (fun _ _ _ h => h) (Or.inl ⟨by rfl, ?_⟩) ?_ ?_
         rotate_left
         ·intro w'
          go_simp
          with_reducible rfl
         rotate_left
         ·simp only [Act.put, List.setIfInBounds_toArray, List.set_cons_zero, List.set_cons_succ, qbv, qbw]
          rfl
         refine qcj (i := 24) (N := some 41) (v := ?_) (a' := ?_) #[true, true, true, true, true, true, true, true, true, true, true, true, true, true, true, true, true, true, true, true, true, true, true, true, true, false, false, false, false, false, false, false, false, false, false, false, false, false] rfl rfl (qbk HT_.out (by kernel_rfl)) (fun _ _ _ h => h) (Or.inl ⟨by rfl, ?_⟩) ?_ ?_
         rotate_left
         ·intro w'
          go_simp
          with_reducible rfl
         rotate_left
         ·simp only [Act.put, List.setIfInBounds_toArray, List.set_cons_zero, List.set_cons_succ, qbv, qbw]
          rfl
         refine qcj (i := 25) (N := some 42) (v := undef) (a' := ?_) #[true, true, true, true, true, true, true, true, true, true, true, true, true, true, true, true, true, true, true, true, true, true, true, true, true, true, false, false, false, false, false, false, false, false, false, false, false, false] rfl rfl (qbk HT_.out (by kernel_rfl)) (fun _ _ _ h => h) (Or.inr ⟨by rfl, rfl⟩) ?_ ?_
         rotate_left
         ·simp only [Act.put, List.setIfInBounds_toArray, List.set_cons_zero, List.set_cons_succ, qbv, qbw]
          rfl
         refine qcj (i := 26) (N := some 43) (v := undef) (a' := ?_) #[true, true, true, true, true, true, true, true, true, true, true, true, true, true, true, true, true, true, true, true, true, true, true, true, true, true, true, false, false, false, false, false, false, false, false, false, false, false] rfl rfl (qbk HT_.out (by kernel_rfl)) (fun _ _ _ h => h) (Or.inr ⟨by rfl, rfl⟩) ?_ ?_
         rotate_left
         ·simp only [Act.put, List.setIfInBounds_toArray, List.set_cons_zero, List.set_cons_succ, qbv, qbw]
          rfl
         refine qcj (i := 27) (N := some 44) (v := undef) (a' := ?_) #[true, true, true, true, true, true, true, true, true, true, true, true, true, true, true, true, true, true, true, true, true, true, true, true, true, true, true, true, false, false, false, false, false, false, false, false, false, false] rfl rfl (qbk HT_.out (by kernel_rfl)) (fun _ _ _ h => h) (Or.inr ⟨by rfl, rfl⟩) ?_ ?_
         rotate_left
         ·simp only [Act.put, List.setIfInBounds_toArray, List.set_cons_zero, List.set_cons_succ, qbv, qbw]
          rfl
         refine qcj (i := 28) (N := some 45) (v := undef) (a' := ?_) #[true, true, true, true, true, true, true, true, true, true, true, true, true, true, true, true, true, true, true, true, true, true, true, true, true, true, true, true, true, false, false, false, false, false, false, false, false, false] rfl rfl (qbk HT_.out (by kernel_rfl)) (fun _ _ _ h => h) (Or.inr ⟨by rfl, rfl⟩) ?_ ?_
         rotate_left
         ·simp only [Act.put, List.setIfInBounds_toArray, List.set_cons_zero, List.set_cons_succ, qbv, qbw]
          rfl
         refine qcj (i := 29) (N := some 46) (v := undef) (a' := ?_) #[true, true, true, true, true, true, true, true, true, true, true, true, true, true, true, true, true, true, true, true, true, true, true, true, true, true, true, true, true, true, false, false, false, false, false, false, false, false] rfl rfl (qbk HT_.out (by kernel_rfl)) (fun _ _ _ h => h) (Or.inr ⟨by rfl, rfl⟩) ?_ ?_
         rotate_left
         ·simp only [Act.put, List.setIfInBounds_toArray, List.set_cons_zero, List.set_cons_succ, qbv, qbw]
          rfl
         refine qcj (i := 30) (N := some 47) (v := undef) (a' := ?_) #[true, true, true, true, true, true, true, true, true, true, true, true, true, true, true, true, true, true, true, true, true, true, true, true, true, true, true, true, true, true, true, false, false, false, false, false, false, false] rfl rfl (qbk HT_.out (by kernel_rfl)) (fun _ _ _ h => h) (Or.inr ⟨by rfl, rfl⟩) ?_ ?_
         rotate_left
         ·simp only [Act.put, List.setIfInBounds_toArray, List.set_cons_zero, List.set_cons_succ, qbv, qbw]
          rfl
         refine qcj (i := 31) (N := some 48) (v := undef) (a' := ?_) #[true, true, true, true, true, true, true, true, true, true, true, true, true, true, true, true, true, true, true, true, true, true, true, true, true, true, true, true, true, true, true, true, false, false, false, false, false, false] rfl rfl (qbk HT_.out (by kernel_rfl)) (fun _ _ _ h => h) (Or.inr ⟨by rfl, rfl⟩) ?_ ?_
         rotate_left
         ·simp only [Act.put, List.setIfInBounds_toArray, List.set_cons_zero, List.set_cons_succ, qbv, qbw]
          rfl
         refine qcj (i := 32) (N := some 49) (v := undef) (a' := ?_) #[true, true, true, true, true, true, true, true, true, true, true, true, true, true, true, true, true, true, true, true, true, true, true, true, true, true, true, true, true, true, true, true, true, false, false, false, false, false] rfl rfl (qbk HT_.out (by kernel_rfl)) (fun _ _ _ h => h) (Or.inr ⟨by rfl, rfl⟩) ?_ ?_
         rotate_left
         ·simp only [Act.put, List.setIfInBounds_toArray, List.set_cons_zero, List.set_cons_succ, qbv, qbw]
          rfl
         refine qcj (i := 33) (N := some 50) (v := undef) (a' := ?_) #[true, true, true, true, true, true, true, true, true, true, true, true, true, true, true, true, true, true, true, true, true, true, true, true, true, true, true, true, true, true, true, true, true, true, false, false, false, false] rfl rfl (qbk HT_.out (by kernel_rfl)) (fun _ _ _ h => h) (Or.inr ⟨by rfl, rfl⟩) ?_ ?_
         rotate_left
         ·simp only [Act.put, List.setIfInBounds_toArray, List.set_cons_zero, List.set_cons_succ, qbv, qbw]
          rfl
         refine qcj (i := 34) (N := some 51) (v := undef) (a' := ?_) #[true, true, true, true, true, true, true, true, true, true, true, true, true, true, true, true, true, true, true, true, true, true, true, true, true, true, true, true, true, true, true, true, true, true, true, false, false, false] rfl rfl (qbk HT_.out (by kernel_rfl)) (fun _ _ _ h => h) (Or.inr ⟨by rfl, rfl⟩) ?_ ?_
         rotate_left
         ·simp only [Act.put, List.setIfInBounds_toArray, List.set_cons_zero, List.set_cons_succ, qbv, qbw]
          rfl
         refine qcj (i := 35) (N := some 52) (v := undef) (a' := ?_) #[true, true, true, true, true, true, true, true, true, true, true, true, true, true, true, true, true, true, true, true, true, true, true, true, true, true, true, true, true, true, true, true, true, true, true, true, false, false] rfl rfl (qbk HT_.out (by kernel_rfl)) (fun _ _ _ h => h) (Or.inr ⟨by rfl, rfl⟩) ?_ ?_
         rotate_left
         ·simp only [Act.put, List.setIfInBounds_toArray, List.set_cons_zero, List.set_cons_succ, qbv, qbw]
          rfl
         refine qcj (i := 36) (N := some 53) (v := undef) (a' := ?_) #[true, true, true, true, true, true, true, true, true, true, true, true, true, true, true, true, true, true, true, true, true, true, true, true, true, true, true, true, true, true, true, true, true, true, true, true, true, false] rfl rfl (qbk HT_.out (by kernel_rfl)) (fun _ _ _ h => h) (Or.inr ⟨by rfl, rfl⟩) ?_ ?_
         rotate_left
         ·simp only [Act.put, List.setIfInBounds_toArray, List.set_cons_zero, List.set_cons_succ, qbv, qbw]
          rfl
         refine qcj (i := 37) (N := some 54) (v := ?_) (a' := ?_) #[true, true, true, true, true, true, true, true, true, true, true, true, true, true, true, true, true, true, true, true, true, true, true, true, true, true, true, true, true, true, true, true, true, true, true, true, true, true] rfl rfl (qbk HT_.out (by kernel_rfl)) (fun _ _ _ h => h) (Or.inl ⟨by rfl, ?_⟩) ?_ ?_
         rotate_left
         ·intro w'
          go_simp
          with_reducible rfl
         rotate_left
         ·simp only [Act.put, List.setIfInBounds_toArray, List.set_cons_zero, List.set_cons_succ, qbv, qbw]
          rfl
         refine qlv (qiq HT_.out (by kernel_rfl)) ?_
         try go_wp2
         go_ret
         exact ⟨by first | rfl | (simp [qcq, qcz] <;> rfl) | (simp [*, qcq, qcz] <;> rfl), by repeat (first | (with_reducible first | exact HB.out | apply qax | apply qaq | apply qaz) | exact HB.out)⟩
       ·rw [if_neg c7] at H
        have c7b0 : (((qdz l0 x5_1).f0) == ((qdz l1 x5_1).f0)) = false := beq_eq_false_iff_ne.mpr c7
        have c7b1 : (((qdz l0 x5_1).f0) != ((qdz l1 x5_1).f0)) = true := bne_iff_ne.mpr c7
        obtain rfl := Option.some.inj H
        try go_wp2
        have n0_ := Aside0.mk (qaz HB.out)
        clear HB
        have HB := n0_
        clear n0_
        have p779 : 0 ≤ (x5_1 : Int) := of_decide_eq_true (by first | (with_reducible assumption) | assumption)
        have q779 : x5_1 < (l0.length : Int) := of_decide_eq_true (by first | (with_reducible assumption) | assumption)
        obtain ⟨ad779, A779_1, c779_1, e779, hx779_0, hx779_1, hx779_2, hl779_1, hi779_1⟩ := qjj HR0.out x5_1 p779 q779
        have hw779_2 := hx779_2
        have hw779_1 := hx779_1
        have hw779_0 := hx779_0
        cases e779
        replace hx779_0 := (HB.out.cell (World.block_lt_of_cell? w _ hx779_0)).trans hx779_0
        replace hx779_1 := (HB.out.cell (World.block_lt_of_cell? w _ hx779_1)).trans hx779_1
        replace hx779_2 := (HB.out.cell (World.block_lt_of_cell? w _ hx779_2)).trans hx779_2
        have HR779_1 := Aside0.mk hi779_1
        have HC779_1 := Aside0.mk hl779_1
        clear hi779_1 hl779_1
        replace p779 := eq_true p779
        replace q779 := eq_true q779
        have p780 : 0 ≤ (x5_1 : Int) := of_decide_eq_true (by first | (with_reducible assumption) | assumption)
        have q780 : x5_1 < (l1.length : Int) := of_decide_eq_true (by first | (with_reducible assumption) | assumption)
        obtain ⟨ad780, A780_1, c780_1, e780, hx780_0, hx780_1, hx780_2, hl780_1, hi780_1⟩ := qjj HR1.out x5_1 p780 q780
        have hw780_2 := hx780_2
        have hw780_1 := hx780_1
        have hw780_0 := hx780_0
        cases e780
        replace hx780_0 := (HB.out.cell (World.block_lt_of_cell? w _ hx780_0)).trans hx780_0
        replace hx780_1 := (HB.out.cell (World.block_lt_of_cell? w _ hx780_1)).trans hx780_1
        replace hx780_2 := (HB.out.cell (World.block_lt_of_cell? w _ hx780_2)).trans hx780_2
        have HR780_1 := Aside0.mk hi780_1
        have HC780_1 := Aside0.mk hl780_1
        clear hi780_1 hl780_1
        replace p780 := eq_true p780
        replace q780 := eq_true q780
        refine qjz (n := 38) (S := fun w' => w'.cell? (ad779.add ((x5_1).toNat * 3)) = some (.int .i64 ((qdz l0 x5_1).f0)) ∧ w'.cell? ⟨(ad779.add ((x5_1).toNat * 3)).block, (ad779.add ((x5_1).toNat * 3)).off + 1, none⟩ = some (.slice A779_1 ((qdz l0 x5_1).f1).length c779_1) ∧ w'.cell? ⟨(ad779.add ((x5_1).toNat * 3)).block, (ad779.add ((x5_1).toNat * 3)).off + 2, none⟩ = some (.string ((qdz l0 x5_1).f2)) ∧ w'.cell? (ad780.add ((x5_1).toNat * 3)) = some (.int .i64 ((qdz l1 x5_1).f0)) ∧ w'.cell? ⟨(ad780.add ((x5_1).toNat * 3)).block, (ad780.add ((x5_1).toNat * 3)).off + 1, none⟩ = some (.slice A780_1 ((qdz l1 x5_1).f1).length c780_1) ∧ w'.cell? ⟨(ad780.add ((x5_1).toNat * 3)).block, (ad780.add ((x5_1).toNat * 3)).off + 2, none⟩ = some (.string ((qdz l1 x5_1).f2))) (ds := []) #[false, false, false, false, false, false, false, false, false, false, false, false, false, false, false, false, false, false, false, false, false, false, false, false, false, false, false, false, false, false, false, false, false, false, false, false, false, false] (by kernel_rfl) rfl rfl ⟨((HB.out.cell (World.block_lt_of_cell? w _ hw779_0)).trans hw779_0), ((HB.out.cell (World.block_lt_of_cell? w _ hw779_1)).trans hw779_1), ((HB.out.cell (World.block_lt_of_cell? w _ hw779_2)).trans hw779_2), ((HB.out.cell (World.block_lt_of_cell? w _ hw780_0)).trans hw780_0), ((HB.out.cell (World.block_lt_of_cell? w _ hw780_1)).trans hw780_1), ((HB.out.cell (World.block_lt_of_cell? w _ hw780_2)).trans hw780_2)⟩ (fun hHeld => ?_); refine qfw tumbrelref05_Same.tab6 tumbrelref05_Same.bits6 (fun HT_ HW_ => ?_)
        generalize wr.drew = w14 at HB HR779_1 HR780_1 hx779_0 hx779_1 hx779_2 hx780_0 hx780_1 hx780_2 hHeld ⊢
        refine qcj (i := 0) (N := some 17) (v := ?_) (a' := ?_) #[true, false, false, false, false, false, false, false, false, false, false, false, false, false, false, false, false, false, false, false, false, false, false, false, false, false, false, false, false, false, false, false, false, false, false, false, false, false] rfl rfl (qbk HT_.out (by kernel_rfl)) (fun _ _ _ h => h) (Or.inl ⟨by rfl, ?_⟩) ?_ ?_
        rotate_left
        ·intro w'
         go_simp
         with_reducible rfl
        rotate_left
        ·simp only [Act.put, List.setIfInBounds_toArray, List.set_cons_zero, List.set_cons_succ, qbv, qbw]
         rfl
        refine qcj (i := 1) (N := some 18) (v := ?_) (a' := ?_) #[true, true, false, false, false, false, false, false, false, false, false, false, false, false, false, false, false, false, false, false, false, false, false, false, false, false, false, false, false, false, false, false, false, false, false, false, false, false] rfl rfl (qbk HT_.out (by kernel_rfl)) (fun _ _ _ h => h) (Or.inl ⟨by rfl, ?_⟩) ?_ ?_
        rotate_left
        ·intro w'
         go_simp
         with_reducible rfl
        rotate_left
        ·simp only [Act.put, List.setIfInBounds_toArray, List.set_cons_zero, List.set_cons_succ, qbv, qbw]
         rfl
        refine qcj (i := 2) (N := some 19) (v := ?_) (a' := ?_) #[true, true, true, false, false, false, false, false, false, false, false, false, false, false, false, false, false, false, false, false, false, false, false, false, false, false, false, false, false, false, false, false, false, false, false, false, false, false] rfl rfl (qbk HT_.out (by kernel_rfl)) (fun _ _ _ h => h) (Or.inl ⟨by rfl, ?_⟩) ?_ ?_
        rotate_left
        ·intro w'
         go_simp
         with_reducible rfl
        rotate_left
        ·simp only [Act.put, List.setIfInBounds_toArray, List.set_cons_zero, List.set_cons_succ, qbv, qbw]
         rfl
        refine qcj (i := 3) (N := some 20) (v := ?_) (a' := ?_) #[true, true, true, true, false, false, false, false, false, false, false, false, false, false, false, false, false, false, false, false, false, false, false, false, false, false, false, false, false, false, false, false, false, false, false, false, false, false] rfl rfl (qbk HT_.out (by kernel_rfl)) (fun _ _ _ h => h) (Or.inl ⟨by rfl, ?_⟩) ?_ ?_
        rotate_left
        ·intro w'
         go_simp
         with_reducible rfl
        rotate_left
        ·simp only [Act.put, List.setIfInBounds_toArray, List.set_cons_zero, List.set_cons_succ, qbv, qbw]
         rfl
        refine qcj (i := 5) (N := some 22) (v := ?_) (a' := ?_) #[true, true, true, true, false, true, false, false, false, false, false, false, false, false, false, false, false, false, false, false, false, false, false, false, false, false, false, false, false, false, false, false, false, false, false, false, false, false] rfl rfl (qbk HT_.out (by kernel_rfl)) (fun _ _ _ h => h) (Or.inl ⟨by rfl, ?_⟩) ?_ ?_
        rotate_left
        ·intro w'
         go_simp
         with_reducible rfl
        rotate_left
        ·simp only [Act.put, List.setIfInBounds_toArray, List.set_cons_zero, List.set_cons_succ, qbv, qbw]
         rfl
        refine qcj (i := 6) (N := some 23) (v := ?_) (a' := ?_) #[true, true, true, true, false, true, true, false, false, false, false, false, false, false, false, false, false, false, false, false, false, false, false, false, false, false, false, false, false, false, false, false, false, false, false, false, false, false] rfl rfl (qbk HT_.out (by kernel_rfl)) (fun _ _ _ h => h) (Or.inl ⟨by rfl, ?_⟩) ?_ ?_
        rotate_left
        ·intro w'
         go_simp
         with_reducible rfl
        rotate_left
        ·simp only [Act.put, List.setIfInBounds_toArray, List.set_cons_zero, List.set_cons_succ, qbv, qbw]
         rfl
        refine qcj (i := 7) (N := some 24) (v := ?_) (a' := ?_) #[true, true, true, true, false, true, true, true, false, false, false, false, false, false, false, false, false, false, false, false, false, false, false, false, false, false, false, false, false, false, false, false, false, false, false, false, false, false] rfl rfl (qbk HT_.out (by kernel_rfl)) (fun _ _ _ h => h) (Or.inl ⟨by rfl, ?_⟩) ?_ ?_
        rotate_left
        ·intro w'
         go_simp
         with_reducible rfl
        rotate_left
        ·simp only [Act.put, List.setIfInBounds_toArray, List.set_cons_zero, List.set_cons_succ, qbv, qbw]
         rfl
        refine qcj (i := 8) (N := some 25) (v := ?_) (a' := ?_) #[true, true, true, true, false, true, true, true, true, false, false, false, false, false, false, false, false, false, false, false, false, false, false, false, false, false, false, false, false, false, false, false, false, false, false, false, false, false] rfl rfl (qbk HT_.out (by kernel_rfl)) (fun _ _ _ h => h) (Or.inl ⟨by rfl, ?_⟩) ?_ ?_
        rotate_left
        ·intro w'
         go_simp
         with_reducible rfl
        rotate_left
        ·simp only [Act.put, List.setIfInBounds_toArray, List.set_cons_zero, List.set_cons_succ, qbv, qbw]
         rfl
        refine take_ (i := 4) (N := some 21) (v := ?_) (a' := ?_) #[true, true, true, true, true, true, true, true, true, false, false, false, false, false, false, false, false, false, false, false, false, false, false, false, false, false, false, false, false, false, false, false, false, false, false, false, false, false] rfl rfl (qdk HT_.out HW_.out (by kernel_rfl)) (fun _ _ _ h => h) (Or.inl ⟨by rfl, ?_⟩) hHeld ?_ ?_
        rotate_left
        ·rintro w' ⟨s0, s1, s2, s3, s4, s5⟩
         go_simp
         with_reducible rfl
        rotate_left
        ·simp only [Act.put, List.setIfInBounds_toArray, List.set_cons_zero, List.set_cons_succ, qbv, qbw]
         rfl
        refine take_ (i := 9) (N := some 26) (v := ?_) (a' := ?_) #[true, true, true, true, true, true, true, true, true, true, false, false, false, false, false, false, false, false, false, false, false, false, false, false, false, false, false, false, false, false, false, false, false, false, false, false, false, false] rfl rfl (qdk HT_.out HW_.out (by kernel_rfl)) (fun _ _ _ h => h) (Or.inl ⟨by rfl, ?_⟩) hHeld ?_ ?_
        rotate_left
        ·rintro w' ⟨s0, s1, s2, s3, s4, s5⟩
         go_simp
         with_reducible rfl
        rotate_left
        ·simp only [Act.put, List.setIfInBounds_toArray, List.set_cons_zero, List.set_cons_succ, qbv, qbw]
         rfl
        refine qcj (i := 10) (N := some 27) (v := ?_) (a' := ?_) #[true, true, true, true, true, true, true, true, true, true, true, false, false, false, false, false, false, false, false, false, false, false, false, false, false, false, false, false, false, false, false, false, false, false, false, false, false, false] rfl rfl (qbk HT_.out (by kernel_rfl)) (fun _ _ _ h => h) (Or.inl ⟨by rfl, ?_⟩) ?_ ?_
        rotate_left
        ·intro w'
         go_simp
         with_reducible rfl
        rotate_left
        ·simp only [Act.put, List.setIfInBounds_toArray, List.set_cons_zero, List.set_cons_succ, qbv, qbw]
         rfl
        refine qcj (i := 11) (N := some 28) (v := ?_) (a' := ?_) #[true, true, true, true, true, true, true, true, true, true, true, true, false, false, false, false, false, false, false, false, false, false, false, false, false, false, false, false, false, false, false, false, false, false, false, false, false, false] rfl rfl (qbk HT_.out (by kernel_rfl)) (fun _ _ _ h => h) (Or.inl ⟨by rfl, ?_⟩) ?_ ?_
        rotate_left
        ·intro w'
         go_simp
         with_reducible rfl
        rotate_left
        ·simp only [Act.put, List.setIfInBounds_toArray, List.set_cons_zero, List.set_cons_succ, qbv, qbw]
         rfl
        refine qcj (i := 12) (N := some 29) (v := undef) (a' := ?_) #[true, true, true, true, true, true, true, true, true, true, true, true, true, false, false, false, false, false, false, false, false, false, false, false, false, false, false, false, false, false, false, false, false, false, false, false, false, false] rfl rfl (qbk HT_.out (by kernel_rfl)) (fun _ _ _ h => h) (Or.inr ⟨by rfl, rfl⟩) ?_ ?_
        rotate_left
        ·simp only [Act.put, List.setIfInBounds_toArray, List.set_cons_zero, List.set_cons_succ, qbv, qbw]
         rfl
        refine qcj (i := 13) (N := some 30) (v := undef) (a' := ?_) #[true, true, true, true, true, true, true, true, true, true, true, true, true, true, false, false, false, false, false, false, false, false, false, false, false, false, false, false, false, false, false, false, false, false, false, false, false, false] rfl rfl (qbk HT_.out (by kernel_rfl)) (fun _ _ _ h => h) (Or.inr ⟨by rfl, rfl⟩) ?_ ?_
        rotate_left
        ·simp only [Act.put, List.setIfInBounds_toArray, List.set_cons_zero, List.set_cons_succ, qbv, qbw]
         rfl
        refine qcj (i := 14) (N := some 31) (v := undef) (a' := ?_) #[true, true, true, true, true, true, true, true, true, true, true, true, true, true, true, false, false, false, false, false, false, false, false, false, false, false, false, false, false, false, false, false, false, false, false, false, false, false] rfl rfl (qbk HT_.out (by kernel_rfl)) (fun _ _ _ h => h) (Or.inr ⟨by rfl, rfl⟩) ?_ ?_
        rotate_left
        ·simp only [Act.put, List.setIfInBounds_toArray, List.set_cons_zero, List.set_cons_succ, qbv, qbw]
         rfl
        refine qcj (i := 15) (N := some 32) (v := undef) (a' := ?_) #[true, true, true, true, true, true, true, true, true, true, true, true, true, true, true, true, false, false, false, false, false, false, false, false, false, false, false, false, false, false, false, false, false, false, false, false, false, false] rfl rfl (qbk HT_.out (by kernel_rfl)) (fun _ _ _ h => h) (Or.inr ⟨by rfl, rfl⟩) ?_ ?_
        rotate_left
        ·simp only [Act.put, List.setIfInBounds_toArray, List.set_cons_zero, List.set_cons_succ, qbv, qbw]
         rfl
        refine qcj (i := 16) (N := some 33) (v := undef) (a' := ?_) #[true, true, true, true, true, true, true, true, true, true, true, true, true, true, true, true, true, false, false, false, false, false, false, false, false, false, false, false, false, false, false, false, false, false, false, false, false, false] rfl rfl (qbk HT_.out (by kernel_rfl)) (fun _ _ _ h => h) (Or.inr ⟨by rfl, rfl⟩) ?_ ?_
        rotate_left
        ·simp only [Act.put, List.setIfInBounds_toArray, List.set_cons_zero, List.set_cons_succ, qbv, qbw]
         rfl
        refine qcj (i := 17) (N := some 34) (v := undef) (a' := ?_) #[true, true, true, true, true, true, true, true, true, true, true, true, true, true, true, true, true, true, false, false, false, false, false, false, false, false, false, false, false, false, false, false, false, false, false, false, false, false] rfl rfl (qbk HT_.out (by kernel_rfl)) (fun _ _ _ h => h) (Or.inr ⟨by rfl, rfl⟩) ?_ ?_
        rotate_left
        ·simp only [Act.put, List.setIfInBounds_toArray, List.set_cons_zero, List.set_cons_succ, qbv, qbw]
         rfl
        refine qcj (i := 18) (N := some 35) (v := undef) (a' := ?_) #[true, true, true, true, true, true, true, true, true, true, true, true, true, true, true, true, true, true, true, false, false, false, false, false, false, false, false, false, false, false, false, false, false, false, false, false, false, false] rfl rfl (qbk HT_.out (by kernel_rfl)) (fun _ _ _ h => h) (Or.inr ⟨by rfl, rfl⟩) ?_ ?_
        rotate_left
        ·simp only [Act.put, List.setIfInBounds_toArray, List.set_cons_zero, List.set_cons_succ, qbv, qbw]
         rfl
        refine qcj (i := 19) (N := some 36) (v := undef) (a' := ?_) #[true, true, true, true, true, true, true, true, true, true, true, true, true, true, true, true, true, true, true, true, false, false, false, false, false, false, false, false, false, false, false, false, false, false, false, false, false, false] rfl rfl (qbk HT_.out (by kernel_rfl)) (fun _ _ _ h => h) (Or.inr ⟨by rfl, rfl⟩) ?_ ?_
        rotate_left
        ·simp only [Act.put, List.setIfInBounds_toArray, List.set_cons_zero, List.set_cons_succ, qbv, qbw]
         rfl
        refine qcj (i := 20) (N := some 37) (v := undef) (a' := ?_) #[true, true, true, true, true, true, true, true, true, true, true, true, true, true, true, true, true, true, true, true, true, false, false, false, false, false, false, false, false, false, false, false, false, false, false, false, false, false] rfl rfl (qbk HT_.out (by kernel_rfl)) (fun _ _ _ h => h) (Or.inr ⟨by rfl, rfl⟩) ?_ ?_
        rotate_left
        ·simp only [Act.put, List.setIfInBounds_toArray, List.set_cons_zero, List.set_cons_succ, qbv, qbw]
         rfl
        refine qcj (i := 21) (N := some 38) (v := undef) (a' := ?_) #[true, true, true, true, true, true, true, true, true, true, true, true, true, true, true, true, true, true, true, true, true, true, false, false, false, false, false, false, false, false, false, false, false, false, false, false, false, false] rfl rfl (qbk HT_.out (by kernel_rfl)) (fun _ _ _ h => h) (Or.inr ⟨by rfl, rfl⟩) ?_ ?_
        rotate_left
        ·simp only [Act.put, List.setIfInBounds_toArray, List.set_cons_zero, List.set_cons_succ, qbv, qbw]
         rfl
        refine qcj (i := 22) (N := some 39) (v := undef) (a' := ?_) #[true, true, true, true, true, true, true, true, true, true, true, true, true, true, true, true, true, true, true, true, true, true, true, false, false, false, false, false, false, false, false, false, false, false, false, false, false, false] rfl rfl (qbk HT_.out (by kernel_rfl)) (fun _ _ _ h => h) (Or.inr ⟨by rfl, rfl⟩) ?_ ?_
        rotate_left
        ·simp only [Act.put, List.setIfInBounds_toArray, List.set_cons_zero, List.set_cons_succ, qbv, qbw]
         rfl
        refine qcj (i := 23) (N := some 40) (v := ?_) (a' := ?_) #[true, true, true, true, true, true, true, true, true, true, true, true, true, true, true, true, true, true, true, true, true, true, true, true, false, false, false, false, false, false, false, false, false, false, false, false, false, false] rfl rfl (qbk HT_.out (by kernel_rfl)) (fun _ _ _ h => h) (Or.inl ⟨by rfl, ?_⟩) ?_ ?_
        rotate_left
        ·intro w'
         go_simp
         with_reducible rfl
        rotate_left
        ·simp only [Act.put, List.setIfInBounds_toArray, List.set_cons_zero, List.set_cons_succ, qbv, qbw]
         rfl
        refine qcj (i := 24) (N := some 41) (v := ?_) (a' := ?_) #[true, true, true, true, true, true, true, true, true, true, true, true, true, true, true, true, true, true, true, true, true, true, true, true, true, false, false, false, false, false, false, false, false, false, false, false, false, false] rfl rfl (qbk HT_.out (by kernel_rfl)) (fun _ _ _ h => h) (Or.inl ⟨by rfl, ?_⟩) ?_ ?_
        rotate_left
        ·intro w'
         go_simp
         with_reducible rfl
        rotate_left
        ·simp only [Act.put, List.setIfInBounds_toArray, List.set_cons_zero, List.set_cons_succ, qbv, qbw]
         rfl
        refine qcj (i := 25) (N := some 42) (v := undef) (a' := ?_) #[true, true, true, true, true, true, true, true, true, true, true, true, true, true, true, true, true, true, true, true, true, true, true, true, true, true, false, false, false, false, false, false, false, false, false, false, false, false] rfl rfl (qbk HT_.out (by kernel_rfl)) (fun _ _ _ h => h) (Or.inr ⟨by rfl, rfl⟩) ?_ ?_
        rotate_left
        ·simp only [Act.put, List.setIfInBounds_toArray, List.set_cons_zero, List.set_cons_succ, qbv, qbw]
         rfl
        refine qcj (i := 26) (N := some 43) (v := undef) (a' := ?_) #[true, true, true, true, true, true, true, true, true, true, true, true, true, true, true, true, true, true, true, true, true, true, true, true, true, true, true, false, false, false, false, false, false, false, false, false, false, false] rfl rfl (qbk HT_.out (by kernel_rfl)) (fun _ _ _ h => h) (Or.inr ⟨by rfl, rfl⟩) ?_ ?_
        rotate_left
        ·simp only [Act.put, List.setIfInBounds_toArray, List.set_cons_zero, List.set_cons_succ, qbv, qbw]
         rfl
        refine qcj (i := 27) (N := some 44) (v := undef) (a' := ?_) #[true, true, true, true, true, true, true, true, true, true, true, true, true, true, true, true, true, true, true, true, true, true, true, true, true, true, true, true, false, false, false, false, false, false, false, false, false, false] rfl rfl (qbk HT_.out (by kernel_rfl)) (fun _ _ _ h => h) (Or.inr ⟨by rfl, rfl⟩) ?_ ?_
        rotate_left
        ·simp only [Act.put, List.setIfInBounds_toArray, List.set_cons_zero, List.set_cons_succ, qbv, qbw]
         rfl
        refine qcj (i := 28) (N := some 45) (v := undef) (a' := ?_) #[true, true, true, true, true, true, true, true, true, true, true, true, true, true, true, true, true, true, true, true, true, true, true, true, true, true, true, true, true, false, false, false, false, false, false, false, false, false] rfl rfl (qbk HT_.out (by kernel_rfl)) (fun _ _ _ h => h) (Or.inr ⟨by rfl, rfl⟩) ?_ ?_
        rotate_left
        ·simp only [Act.put, List.setIfInBounds_toArray, List.set_cons_zero, List.set_cons_succ, qbv, qbw]
         rfl
        refine qcj (i := 29) (N := some 46) (v := undef) (a' := ?_) #[true, true, true, true, true, true, true, true, true, true, true, true, true, true, true, true, true, true, true, true, true, true, true, true, true, true, true, true, true, true, false, false, false, false, false, false, false, false] rfl rfl (qbk HT_.out (by kernel_rfl)) (fun _ _ _ h => h) (Or.inr ⟨by rfl, rfl⟩) ?_ ?_
        rotate_left
        ·simp only [Act.put, List.setIfInBounds_toArray, List.set_cons_zero, List.set_cons_succ, qbv, qbw]
         rfl
        refine qcj (i := 30) (N := some 47) (v := undef) (a' := ?_) #[true, true, true, true, true, true, true, true, true, true, true, true, true, true, true, true, true, true, true, true, true, true, true, true, true, true, true, true, true, true, true, false, false, false, false, false, false, false] rfl rfl (qbk HT_.out (by kernel_rfl)) (fun _ _ _ h => h) (Or.inr ⟨by rfl, rfl⟩) ?_ ?_
        rotate_left
        ·simp only [Act.put, List.setIfInBounds_toArray, List.set_cons_zero, List.set_cons_succ, qbv, qbw]
         rfl
        refine qcj (i := 31) (N := some 48) (v := undef) (a' := ?_) #[true, true, true, true, true, true, true, true, true, true, true, true, true, true, true, true, true, true, true, true, true, true, true, true, true, true, true, true, true, true, true, true, false, false, false, false, false, false] rfl rfl (qbk HT_.out (by kernel_rfl)) (fun _ _ _ h => h) (Or.inr ⟨by rfl, rfl⟩) ?_ ?_
        rotate_left
        ·simp only [Act.put, List.setIfInBounds_toArray, List.set_cons_zero, List.set_cons_succ, qbv, qbw]
         rfl
        refine qcj (i := 32) (N := some 49) (v := undef) (a' := ?_) #[true, true, true, true, true, true, true, true, true, true, true, true, true, true, true, true, true, true, true, true, true, true, true, true, true, true, true, true, true, true, true, true, true, false, false, false, false, false] rfl rfl (qbk HT_.out (by kernel_rfl)) (fun _ _ _ h => h) (Or.inr ⟨by rfl, rfl⟩) ?_ ?_
        rotate_left
        ·simp only [Act.put, List.setIfInBounds_toArray, List.set_cons_zero, List.set_cons_succ, qbv, qbw]
         rfl
        refine qcj (i := 33) (N := some 50) (v := undef) (a' := ?_) #[true, true, true, true, true, true, true, true, true, true, true, true, true, true, true, true, true, true, true, true, true, true, true, true, true, true, true, true, true, true, true, true, true, true, false, false, false, false] rfl rfl (qbk HT_.out (by kernel_rfl)) (fun _ _ _ h => h) (Or.inr ⟨by rfl, rfl⟩) ?_ ?_
        rotate_left
        ·simp only [Act.put, List.setIfInBounds_toArray, List.set_cons_zero, List.set_cons_succ, qbv, qbw]
         rfl
        refine qcj (i := 34) (N := some 51) (v := undef) (a' := ?_) #[true, true, true, true, true, true, true, true, true, true, true, true, true, true, true, true, true, true, true, true, true, true, true, true, true, true, true, true, true, true, true, true, true, true, true, false, false, false] rfl rfl (qbk HT_.out (by kernel_rfl)) (fun _ _ _ h => h) (Or.inr ⟨by rfl, rfl⟩) ?_ ?_
        rotate_left
        ·simp only [Act.put, List.setIfInBounds_toArray, List.set_cons_zero, List.set_cons_succ, qbv, qbw]
         rfl
        refine qcj (i := 35) (N := some 52) (v := undef) (a' := ?_) #[true, true, true, true, true, true, true, true, true, true, true, true, true, true, true, true, true, true, true, true, true, true, true, true, true, true, true, true, true, true, true, true, true, true, true, true, false, false] rfl rfl (qbk HT_.out (by kernel_rfl)) (fun _ _ _ h => h) (Or.inr ⟨by rfl, rfl⟩) ?_ ?_
        rotate_left
        ·simp only [Act.put, List.setIfInBounds_toArray, List.set_cons_zero, List.set_cons_succ, qbv, qbw]
         rfl
        refine qcj (i := 36) (N := some 53) (v := undef) (a' := ?_) #[true, true, true, true, true, true, true, true, true, true, true, true, true, true, true, true, true, true, true, true, true, true, true, true, true, true, true, true, true, true, true, true, true, true, true, true, true, false] rfl rfl (qbk HT_.out (by kernel_rfl)) (fun _ _ _ h => h) (Or.inr ⟨by rfl, rfl⟩) ?_ ?_
        rotate_left
        ·simp only [Act.put, List.setIfInBounds_toArray, List.set_cons_zero, List.set_cons_succ, qbv, qbw]
         rfl
        refine qcj (i := 37) (N := some 54) (v := ?_) (a' := ?_) #[true, true, true, true, true, true, true, true, true, true, true, true, true, true, true, true, true, true, true, true, true, true, true, true, true, true, true, true, true, true, true, true, true, true, true, true, true, true] rfl rfl (qbk HT_.out (by kernel_rfl)) (fun _ _ _ h => h) (Or.inl ⟨by rfl, ?_⟩) ?_ ?_
        rotate_left
        ·intro w'
         go_simp
         with_reducible rfl
        rotate_left
        ·simp only [Act.put, List.setIfInBounds_toArray, List.set_cons_zero, List.set_cons_succ, qbv, qbw]
         rfl
        refine qlv (qiq HT_.out (by kernel_rfl)) ?_
        try go_wp2
        go_ret
        exact ⟨by first | rfl | (simp [qcq, qcz] <;> rfl) | (simp [*, qcq, qcz] <;> rfl), by repeat (first | (with_reducible first | exact HB.out | apply qax | apply qaq | apply qaz) | exact HB.out)⟩
      ·rw [if_neg c6] at H
       exact absurd H (by simp)
     ·rw [if_neg c5] at H
      exact absurd H (by simp)
    ·rw [if_neg c4] at H
     have c4b0 : decide (x5_1 < (l0.length : Int)) = false := decide_eq_false c4
     clear c4
     obtain rfl := Option.some.inj H
     go_wp2
     go_ret
     exact ⟨by first | rfl | (simp [qcq, qcz] <;> rfl) | (simp [*, qcq, qcz] <;> rfl), by repeat (first | (with_reducible first | exact HB.out | apply qax | apply qaq | apply qaz) | exact HB.out)⟩
 ·rw [if_neg c3] at H
  have c3b0 : ((l0.length : Int) == (l1.length : Int)) = false := beq_eq_false_iff_ne.mpr c3
  have c3b1 : ((l0.length : Int) != (l1.length : Int)) = true := bne_iff_ne.mpr c3
  have c3b2 : (l0.length == l1.length) = false := by first | simpa using c3 | (simp at c3 ⊢; omega)
  obtain rfl := Option.some.inj H
  go_enter Try.func62, Try.ntmps62
  go_wp2
  go_ret
  exact ⟨by first | rfl | (simp [qcq, qcz] <;> rfl) | (simp [*, qcq, qcz] <;> rfl), by repeat (first | (with_reducible first | exact HB.out | apply qax | apply qaq | apply qaz) | exact HB.out)⟩
end Go.Proofs.Ytojepleodijdeaa.B
namespace Go.Proofs.Ytojepleodijdeaa.B
open Go.RowKit Go.Proofs.YtojepleodijdeaaW.PrintWords Go.Proofs.YtojepleodijdeaaW.PrintLast Go.Proofs.YtojepleodijdeaaW.PrintMore
set_option linter.unusedVariables false
set_option linter.unusedSimpArgs false
def qix : Nat → Nat → List Int
 | 0, n => [(n : Int)]
 | k + 1, n => if n < 128 then [(n : Int)] else ((n % 128 + 128 : Nat) : Int) :: qix k (n / 128)
def vint_Put.f (a0 : Int) : Option (List Int) := if 0 ≤ a0 ∧ a0 < 18446744073709551616 then some (qix 9 a0.toNat) else none
theorem zkj : ∀ x : Fin 256, bits .or .u8 (x : Nat) 128 = ((x.1 % 128 + 128 : Nat) : Int) := by decide +kernel
theorem or128 (m : Nat) : bits .or .u8 ((m : Int) % 256) 128 = ((m % 128 + 128 : Nat) : Int) := by
 have h := zkj ⟨m % 256, Nat.mod_lt _ (by decide)⟩
 have e : ((m % 256 : Nat) : Int) = (m : Int) % 256 := by omega
 rw [← e]
 rw [show m % 128 = (m % 256) % 128 by omega]
 exact h
theorem qlz (k n : Nat) : 1 ≤ (qix k n).length ∧ (qix k n).length ≤ k + 1 := by
 induction k generalizing n with
 | zero => simp [qix]
 | succ k ih =>
  unfold qix
  split
  ·simp
  ·have := ih (n / 128)
   simp only [List.length_cons]; omega
def Laid (w : World) (b k m N : Nat) : Prop :=
 ∃ L : List Int, L.length = 10 ∧ w.heap[b]? = some (.cells (nums .u8 L).toArray 104 (0, 0)) ∧ k ≤ 9 ∧ m * 128 ^ k < 18446744073709551616 ∧ L.take k ++ qix (9 - k) m = qix 9 N
theorem Laid.m_lt {w : World} {b k m N : Nat} (h : Laid w b k m N) : m < 18446744073709551616 := by
 obtain ⟨_, _, _, _, h, _⟩ := h
 have : 0 < 128 ^ k := Nat.pow_pos (by decide)
 exact Nat.lt_of_le_of_lt (Nat.le_mul_of_pos_right m this) h
theorem Laid.k_lt {w : World} {b k m N : Nat} (h : Laid w b k m N) (hm : 128 ≤ m) : k ≤ 8 := by
 obtain ⟨_, _, _, h9, h, _⟩ := h
 rcases Nat.lt_or_ge k 9 with hk | hk
 ·omega
 ·have : k = 9 := by omega
  subst this
  omega
theorem Laid.cell {w : World} {b k m N : Nat} (h : Laid w b k m N) : (∃ v, w.cell? ⟨b, k, none⟩ = some v) ∧ w.frozen? ⟨b, k, none⟩ = false := by
 obtain ⟨L, hL, hb, hk, _, _⟩ := h
 exact ⟨⟨.int .u8 (L.getD k 0), by simp [World.cell?, hb, nums, List.getElem?_eq_getElem (show k < L.length by omega)]⟩, by simp [World.frozen?, hb]⟩
theorem zeq (L : List Int) (k : Nat) (x : Int) : (nums .u8 L).toArray.setIfInBounds k (.int .u8 x) = (nums .u8 (L.set k x)).toArray := by
 simp [nums, List.map_set]
theorem Laid.step {w : World} {b k m N : Nat} (h : Laid w b k m N) (hm : 128 ≤ m) : Laid (w.setCell ⟨b, k, none⟩ (.int .u8 ((m % 128 + 128 : Nat) : Int))) b (k + 1) (m / 128) N := by
 have hk := h.k_lt hm
 obtain ⟨L, hL, hb, _, hp, hv⟩ := h
 refine ⟨L.set k ((m % 128 + 128 : Nat) : Int), by simpa using hL, ?_, by omega, ?_, ?_⟩
 ·rw [quz hb, zeq]
 ·refine Nat.lt_of_le_of_lt ?_ hp
  rw [Nat.pow_succ, Nat.mul_comm (128 ^ k), ← Nat.mul_assoc]
  exact Nat.mul_le_mul_right _ (Nat.div_mul_le_self m 128)
 ·rw [← hv]
  have e : 9 - k = (9 - (k + 1)) + 1 := by omega
  rw [e]
  conv => rhs; rw [qix, if_neg (by omega)]
  rw [List.take_succ_eq_append_getElem (by simp; omega), List.take_set_of_le (Nat.le_refl _)]
  simp
theorem Laid.last {w : World} {b k m N : Nat} (h : Laid w b k m N) (hm : m < 128) :
  ∃ L : List Int, L.length = 10 ∧ (w.setCell ⟨b, k, none⟩ (.int .u8 (m : Int))).heap[b]? = some (.cells (nums .u8 L).toArray 104 (0, 0)) ∧ k + 1 = (qix 9 N).length ∧ L.take (k + 1) = qix 9 N := by
 obtain ⟨L, hL, hb, hk, hp, hv⟩ := h
 have e : qix (9 - k) m = [(m : Int)] := by
  cases h9 : 9 - k with
  | zero => rfl
  | succ j => rw [qix, if_pos hm]
 rw [e] at hv
 refine ⟨L.set k (m : Int), by simpa using hL, by rw [quz hb, zeq], ?_, ?_⟩
 ·rw [← hv]; simp; omega
 ·rw [← hv, List.take_succ_eq_append_getElem (by simp; omega), List.take_set_of_le (Nat.le_refl _)]
  simp
set_option maxRecDepth 100000 in
theorem zkk (N b : Nat) (w : World) (B : Nat) (hB : B ≤ b) (hN : N < 18446744073709551616) (h0 : Laid w b 0 N N) (w0 : World) (hw : Below B w0 w) :
  Calls Try.prog 68 #[.pointer (some ⟨b, 0, none⟩), .int .u64 N] w fun e w' => e = .returned (.int .i64 ((qix 9 N).length : Int)) ∧ Below B w0 w' ∧
   ∃ L : List Int, L.length = 10 ∧ w'.heap[b]? = some (.cells (nums .u8 L).toArray 104 (0, 0)) ∧ L.take (qix 9 N).length = qix 9 N := by
 go_enter Try.func68, Try.ntmps68
 go_wp2
 go_loopw [1, 5] (fun n i wr => ∃ k m : Nat, i = .int .i64 k ∧ n = .int .u64 m ∧ k ≤ 9 ∧ Aside0 (Laid wr b k m N) ∧ Aside0 (Below B w0 wr)) (fun n i _ => (intOf n).toNat)
 case atStart => exact ⟨0, N, rfl, rfl, by omega, ⟨h0⟩, ⟨hw⟩⟩
 case round =>
  obtain ⟨k, m, rfl, rfl, hk, HL, HB⟩ := hrel
  obtain ⟨⟨v, hc⟩, hf⟩ := HL.out.cell
  have hm := HL.out.m_lt
  by_cases h : 128 ≤ m
  ·have hk10 : (k : Int) < 10 := by have := HL.out.k_lt h; omega
   go_wp2
   go_roundw
   case rel =>
    refine ⟨k + 1, m / 128, by go_num, by simp, by have := HL.out.k_lt h; omega, ⟨?_⟩, ⟨?_⟩⟩
    ·rw [or128]; exact HL.out.step h
    ·exact HB.out.setCell (p := ⟨b, k, none⟩) hB _
   case measure => simp [intOf]; omega
  ·have hk10 : (k : Int) < 10 := by omega
   go_wp2
   go_ret
   obtain ⟨L, hL, hb, hk1, ht⟩ := HL.out.last (by omega)
   refine ⟨by rw [← hk1]; rfl, HB.out.setCell (p := ⟨b, k, none⟩) hB _, L, hL, hb, by rw [← hk1]; rw [hk1] at ht; rw [hk1]; exact ht⟩
theorem laid_new (w : World) (N : Nat) (hN : N < 18446744073709551616) :
  Laid (w.alloc (.cells #[.int .u8 0, .int .u8 0, .int .u8 0, .int .u8 0, .int .u8 0, .int .u8 0, .int .u8 0, .int .u8 0, .int .u8 0, .int .u8 0] 104)) w.heap.size 0 N N :=
 ⟨List.replicate 10 0, rfl, qnw w _, by omega, by simpa using hN, by simp⟩
theorem zgq (w : World) (b cap : Nat) (L r : List Int) (ok : Nat → Prop) (hb : w.heap[b]? = some (.cells (nums .u8 L).toArray 104 (0, 0))) (ht : L.take r.length = r) (hok : ok b) (hl : r.length ≤ 9223372036854775807) (hc : r.length ≤ cap) (e base : Nat) :
  Kd.V (Kd.int .u8) e w base ok (.slice (some ⟨b, 0, none⟩) r.length cap) r := by
 refine Kd.V_mk hc (fun W' hW => ?_)
 have hlt : b < w.heap.size := (Array.getElem?_eq_some_iff.1 hb).1
 have hb' := (hW b hok hlt).trans hb
 refine Kd.C_of_reads (d := (0 : Int)) (h1 := fun _ => rfl) ⟨rfl, hl, fun hn => ⟨_, rfl, fun j hj => ?_⟩⟩
 rw [qpw, qbq hb']
 have hlL : r.length ≤ L.length := by
  have := congrArg List.length ht
  rw [List.length_take] at this
  omega
 have e1 : L[j]? = r[j]? := by
  have h2 := congrArg (fun l => l[j]?) ht
  simpa [List.getElem?_take, hj] using h2
 simp only [nums, List.getElem?_toArray, List.getElem?_map, e1, List.getElem?_eq_getElem hj, Option.map_some, List.getD_eq_getElem?_getD, Option.getD_some]
set_option maxRecDepth 100000 in
theorem vint_Put.calls (a0 : Int) (r : List Int) (w : World) (h : vint_Put.f a0 = some r) :
  Calls Try.prog 21 #[.int .u64 a0] w fun e w' => ∃ v0_ : Value, e = .returned v0_ ∧ Kd.V (Kd.int .u8) 5 w' w.heap.size (fun k_ => w.heap.size ≤ k_) v0_ r ∧ Below w.heap.size w w' := by
 unfold vint_Put.f at h
 split at h
 case isFalse => cases h
 rename_i hr
 obtain ⟨N, rfl⟩ := Int.eq_ofNat_of_zero_le hr.1
 have hN : N < 18446744073709551616 := by have := hr.2; omega
 rw [Int.toNat_natCast] at h
 have hlen := qlz 9 N
 obtain rfl := Option.some.inj h
 clear h hr
 have hl10 : ((qix 9 N).length : Int) ≤ 10 := by omega
 have hal : Try.prog.arrayLen 104 = 10 := by kernel_rfl
 go_enter Try.func21, Try.ntmps21
 go_wp2_with (go_at_call 68; refine (zkk N w.heap.size _ w.heap.size (Nat.le_refl _) hN (laid_new w N hN) w ((Below.refl _ _).alloc (Nat.le_refl _) _)).mono ?_; rintro e w' ⟨rfl, hb, L, hL, hblk, ht⟩; have HL := Aside0.mk hL; have HK := Aside0.mk hblk; have HT := Aside0.mk ht; have HB := Aside0.mk hb; clear hL hblk ht hb)
 go_ret
 exact ⟨_, rfl, zgq _ _ _ L _ _ HK.out HT.out (Nat.le_refl _) (by omega) (Nat.le_refl _) _ _, HB.out⟩
end Go.Proofs.Ytojepleodijdeaa.B
namespace Go.Proofs.Ytojepleodijdeaa.B
open Go.RowKit Go.Proofs.YtojepleodijdeaaW.PrintWords Go.Proofs.YtojepleodijdeaaW.PrintLast Go.Proofs.YtojepleodijdeaaW.PrintMore
attribute [local go_sem] qgz qgx qhj qhk qfx qfj qgj qgk   -- for this text's walks alone
set_option linter.unusedVariables false
set_option linter.unusedSimpArgs false
def vint_All.l0 : Nat → List Int → List Int → Int → Int → Option (List Int)
 | 0, _, _, _, _ => none
 | k + 1, x3, x6, x7, x8 => if x8 < x7 then (if 0 ≤ x8 then (if x8 < (x6.length : Int) then ((vint_Put.f (rd x6 x8)).bind fun t225 => (if x3.length + t225.length < 140737488355328 then (vint_All.l0 k (x3 ++ t225) x6 x7 (wrap64 (x8 + 1))) else (none))) else (none)) else (none)) else (some x3)
def vint_All.f (k : Nat) (l0 : List Int) : Option (List Int) := vint_All.l0 k ([] : List Int) l0 (l0.length : Int) 0
theorem vint_All.mono_l : ∀ k, (∀ y0 y1 y2 y3, LeO (vint_All.l0 k y0 y1 y2 y3) (vint_All.l0 (k + 1) y0 y1 y2 y3))
 | 0 => fun _ _ _ _ r h => by simp [vint_All.l0] at h
 | k + 1 => by
  have ih0 := vint_All.mono_l k
  ·intro y0 y1 y2 y3
   unfold vint_All.l0
   repeat' first
   | (with_reducible exact ih0 _ _ _ _)
   | (with_reducible exact LeO.refl _)
   | (with_reducible exact LeO.none _)
   | (with_reducible refine LeO.ite ?_ ?_)
   | (with_reducible refine LeO.bind ?_ (fun _ => ?_))
   | exact ih0 _ _ _ _
   | exact LeO.none _
   | refine LeO.ite ?_ ?_
   | refine LeO.bind ?_ (fun _ => ?_)
theorem vint_All.mono : ∀ a0 k, LeO (vint_All.f k a0) (vint_All.f (k + 1) a0) := by
 intro a0 k
 have ih0 := vint_All.mono_l k
 unfold vint_All.f
 repeat' first
   | (with_reducible exact ih0 _ _ _ _)
   | (with_reducible exact LeO.refl _)
   | (with_reducible exact LeO.none _)
   | (with_reducible refine LeO.ite ?_ ?_)
   | (with_reducible refine LeO.bind ?_ (fun _ => ?_))
   | exact ih0 _ _ _ _
   | exact LeO.none _
   | refine LeO.ite ?_ ?_
   | refine LeO.bind ?_ (fun _ => ?_)
set_option maxHeartbeats 8000000 in
set_option maxRecDepth 100000 in
theorem vint_All.calls (k : Nat) (A0 : Option Addr) (c0 : Nat) (l0 : List Int) (r : List Int) (w : World) (hr0 : Kd.C (Kd.int .u64) w A0 l0.length l0) (hc0 : l0.length ≤ c0) (h : vint_All.f k l0 = some r) :
  Calls Try.prog 30 #[.slice A0 l0.length c0] w fun e w' => ∃ v0_ : Value, e = .returned (v0_) ∧ Kd.R (Kd.int .u8) 5 w' w.heap.size (fun _ => True) v0_ r ∧ Below w.heap.size w w' := by
 have HR0 := Aside0.mk hr0
 have HC0 := Aside0.mk hc0
 clear hr0 hc0
 have HB := Aside0.mk (Below.refl w.heap.size w)
 have H : (vint_All.l0 k ([] : List Int) l0 (l0.length : Int) 0) = some r := h
 clear h
 have H' := Aside0.mk H
 clear H
 go_enter Try.func30, Try.ntmps30
 go_wp2
 go_loopg [3, 8] k (fun kq v3 v8 w' => ∃ (x3_1 : List Int) (x8_1 : Int), v8 = .int .i64 x8_1 ∧ Aside0 (vint_All.l0 kq x3_1 l0 (l0.length : Int) x8_1 = some r) ∧ Aside0 (kq ≤ k) ∧ Aside0 (Kd.R (Kd.int .u8) 5 w' w.heap.size (fun _ => True) v3 x3_1) ∧ Aside0 (Below w.heap.size w w'))
 case atStart => exact ⟨(([] : List Int)), (0), (by first | rfl | (simp; done) | (simp [*]; done)), H', ⟨Nat.le_refl _⟩, ⟨by first | exact Kd.R_nil _ _ _ _ _ | exact Kd.N_nil _ _ _ _ _ | exact Kd.V_nil _ _ _ _ _ | exact Kd.Q_nil _ _ _ _ _ | exact Kd.S_nil _ _ _ _ _⟩, ⟨by repeat (first | (with_reducible first | exact HB.out | apply qax | apply qaq | apply qaz) | exact HB.out)⟩⟩
 case round =>
  clear H'
  obtain ⟨x3_1, x8_1, rfl, HA, HK1, HO_3, HB⟩ := hrel
  cases gk with
  | zero => exact absurd HA.out (by simp [vint_All.l0])
  | succ k1 =>
   have H := HA.out
   clear HA
   simp only [vint_All.l0] at H
   by_cases c2 : x8_1 < (l0.length : Int)
   ·rw [if_pos c2] at H
    have c2b0 : decide (x8_1 < (l0.length : Int)) = true := decide_eq_true c2
    clear c2
    by_cases c3 : 0 ≤ x8_1
    ·rw [if_pos c3] at H
     have c3b0 : decide (0 ≤ x8_1) = true := decide_eq_true c3
     clear c3
     by_cases c4 : x8_1 < (l0.length : Int)
     ·rw [if_pos c4] at H
      have c4b0 : decide (x8_1 < (l0.length : Int)) = true := decide_eq_true c4
      clear c4
      replace H := Option.bind_eq_some_iff.mp H
      obtain ⟨t225, A50, H⟩ := H
      replace H : (if x3_1.length + t225.length < 140737488355328 then (vint_All.l0 k1 (x3_1 ++ t225) l0 (l0.length : Int) (wrap64 (x8_1 + 1))) else (none)) = some r := H
      have A5 := Aside0.mk A50
      clear A50
      by_cases c6 : x3_1.length + t225.length < 140737488355328
      ·rw [if_pos c6] at H
       have LMc6 := Aside0.mk c6
       clear c6
       obtain ⟨y228, hy228⟩ : ∃ y_ : List Int, y_ = (x3_1 ++ t225) := ⟨_, rfl⟩
       replace H : (vint_All.l0 k1 y228 l0 (l0.length : Int) (wrap64 (x8_1 + 1))) = some r := by first | (rw [hy228]; with_reducible exact H) | (have H2_ := (Option.bind_some _ _).symm.trans H; rw [hy228]; with_reducible exact H2_) | (have H2_ := (Option.bind_some _ _).symm.trans H; with_reducible exact H2_) | with_reducible exact H | (rw [hy228]; exact H) | exact H
       have Ny228 := Aside0.mk hy228
       clear hy228
       have H' := Aside0.mk H
       clear H
       have p224 : 0 ≤ (x8_1 : Int) := of_decide_eq_true (by first | (with_reducible assumption) | assumption)
       have q224 : x8_1 < (l0.length : Int) := of_decide_eq_true (by first | (with_reducible assumption) | assumption)
       obtain ⟨ad224, e224, hx224_0⟩ := Kd.at_int HR0.out x8_1 p224 q224
       cases e224
       replace hx224_0 := (HB.out.cell (World.block_lt_of_cell? w _ hx224_0)).trans hx224_0
       replace p224 := eq_true p224
       replace q224 := eq_true q224
       go_wp2_with (first | ((with_reducible refine qdq (f := 21) rfl ?_); refine qew (some 14) rfl rfl Try.func21 (by kernel_rfl) rfl #[.int .u64 (rd l0 x8_1)] rfl (by (try simp only [List.map_toArray, List.map_cons, List.map_nil]); first | done | rfl | (simp only [List.length_drop, List.length_take]; rfl)) ?_; (with_reducible refine (vint_Put.calls (rd l0 x8_1) t225 _ A5.out).mono ?_); rintro e w7 ⟨v226, rfl, ho0, hb⟩; refine ⟨_, rfl, ?_⟩; have n0_ := Aside0.mk (Kd.R_below (by (with_reducible repeat (first | apply Kd.R_alloc | apply Kd.R_drewN | apply Kd.R_drew)); exact HO_3.out) hb); have n1_ := Aside0.mk (Kd.V_lower (Kd.V_mono (ok' := fun k_ => some k_ ≠ (u3 : Value).ownBlock) ho0 (fun k_ hk_ => (Kd.fresh' (Kd.R_lt (by (with_reducible repeat (first | apply Kd.R_alloc | apply Kd.R_drewN | apply Kd.R_drew)); exact HO_3.out)) k_ hk_))) (qbx (by repeat (first | (with_reducible first | exact HB.out | apply qax | apply qaq | apply qaz) | exact HB.out)))); have n2_ := Aside0.mk (qbj (by repeat (first | (with_reducible first | exact HB.out | apply qax | apply qaq | apply qaz) | exact HB.out)) hb); clear HO_3; clear HB; have HO_3 := n0_; have HO227 := n1_; have HB := n2_; clear n0_ n1_ n2_; (try clear hb); (try clear hb2); (try clear hk); (try clear hi); (try clear ho0); obtain ⟨Ao9, co9, eo9⟩ := Kd.V_slice HO227.out; subst eo9) | ((with_reducible refine qev (b := .append) (xs := #[.tmp 12, .tmp 14]) rfl ?_); at_builtin; refine Kd.R_append_rows (Kd.int .u8) (w0 := w) w.heap.size rfl (.tmp 12) (.tmp 14) 23 5 (.int .u8 0) 1 rfl Try.underlying23 qgv rfl (by decide) (by omega) u3 x3_1 t225 _ _ _ (fun _ => True) (fun _ => False) rfl rfl ?aO ?aR (fun _ _ h => h) (fun _ h => h.elim) ?aF ?aB ?aS ?aL ?_; (case aR => repeat (first | exact (Kd.V_reads' HO227.out).2.2 | (with_reducible refine Kd.C_alloc ?_ _) | (with_reducible refine Kd.C_drewN ?_ _) | (with_reducible refine Kd.C_drew ?_))); (case aB => exact (by repeat (first | (with_reducible first | exact HB.out | apply qax | apply qaq | apply qaz) | exact HB.out))); (case aF => exact (fun _ _ => trivial)); (case aO => exact (by (with_reducible repeat (first | apply Kd.R_alloc | apply Kd.R_drewN | apply Kd.R_drew)); exact HO_3.out)); (case aS => exact (qbx (by repeat (first | (with_reducible first | exact HB.out | apply qax | apply qaq | apply qaz) | exact HB.out)))); (case aL => have := LMc6.out; omega); intro v229 w8 ho hb hg hat; rw [← Ny228.out] at ho; have n0_ := Aside0.mk (Kd.V_afterv (ok := (fun _ => True)) (by (with_reducible repeat (first | apply Kd.V_alloc | apply Kd.V_drewN | apply Kd.V_drew)); exact Kd.V_mono HO227.out (fun _ hk => ⟨trivial, hk⟩)) hg hat); have n1_ := Aside0.mk (hb); have n2_ := Aside0.mk (ho); clear HO227; clear HB; clear HO_3; have HO227 := n0_; have HB := n1_; have HO230 := n2_; clear n0_ n1_ n2_; clear ho hb hg hat))
       go_roundg k1
       case measure => have := HK1.out; omega
       case rel => exact ⟨(y228), (wrap64 (x8_1 + 1)), (by first | rfl | (simp; done) | (simp [*]; done)), H', ⟨by have := HK1.out; omega⟩, ⟨by (with_reducible repeat (first | apply Kd.R_alloc | apply Kd.R_drewN | apply Kd.R_drew)); exact HO230.out⟩, ⟨by repeat (first | (with_reducible first | exact HB.out | apply qax | apply qaq | apply qaz) | exact HB.out)⟩⟩
      ·rw [if_neg c6] at H
       exact absurd H (by simp)
     ·rw [if_neg c4] at H
      exact absurd H (by simp)
    ·rw [if_neg c3] at H
     exact absurd H (by simp)
   ·rw [if_neg c2] at H
    have c2b0 : decide (x8_1 < (l0.length : Int)) = false := decide_eq_false c2
    clear c2
    obtain rfl := Option.some.inj H
    go_wp2
    go_ret
    exact ⟨_, by first | rfl | (simp [qcq, qcz] <;> rfl) | (simp [*, qcq, qcz] <;> rfl), by (with_reducible repeat (first | apply Kd.R_alloc | apply Kd.R_drewN | apply Kd.R_drew)); exact HO_3.out, by repeat (first | (with_reducible first | exact HB.out | apply qax | apply qaq | apply qaz) | exact HB.out)⟩
end Go.Proofs.Ytojepleodijdeaa.B
namespace Go.Proofs.Ytojepleodijdeaa.Crc
def step (s : BitVec 32) : BitVec 32 := if s.getLsbD 0 then (s >>> 1) ^^^ 0x82f63b78#32 else s >>> 1
theorem qvj (a b : BitVec 32) : step (a ^^^ b) = step a ^^^ step b := by
 unfold step
 rw [BitVec.getLsbD_xor, BitVec.ushiftRight_xor_distrib]
 cases ha : a.getLsbD 0 <;> cases hb : b.getLsbD 0 <;> simp only [Bool.xor_false, Bool.xor_true, Bool.not_true, Bool.not_false, if_true, if_false, Bool.false_eq_true] <;>
  apply BitVec.eq_of_getLsbD_eq <;> intro i hi <;> simp only [BitVec.getLsbD_xor] <;>
  cases (a >>> 1).getLsbD i <;> cases (b >>> 1).getLsbD i <;> cases (0x82f63b78#32).getLsbD i <;> rfl
theorem qyv : step 0#32 = 0#32 := by decide
theorem qyw (s : BitVec 32) (h : step s = 0#32) : s = 0#32 := by
 unfold step at h
 split at h
 ·exfalso
  have h31 := congrArg (fun x => BitVec.getLsbD x 31) h
  simp at h31
 ·rename_i h0
  apply BitVec.eq_of_getLsbD_eq
  intro i hi
  cases i with
  | zero => simpa using h0
  | succ i =>
   have := congrArg (fun x => BitVec.getLsbD x i) h
   simpa [BitVec.getLsbD_ushiftRight, Nat.add_comm] using this
def qjx : Nat → BitVec 32 → BitVec 32
 | 0, s => s
 | n + 1, s => qjx n (step s)
theorem zkv (n : Nat) : ∀ a b, qjx n (a ^^^ b) = qjx n a ^^^ qjx n b := by
 induction n with
 | zero => intro a b; rfl
 | succ n ih => intro a b; simp only [qjx, qvj, ih]
theorem qtk (n : Nat) : qjx n 0#32 = 0#32 := by
 induction n with
 | zero => rfl
 | succ n ih => simp only [qjx, qyv, ih]
theorem qow (n : Nat) : ∀ s, qjx n s = 0#32 → s = 0#32 := by
 induction n with
 | zero => intro s h; exact h
 | succ n ih => intro s h; exact qyw _ (ih _ h)
def word : List Bool → BitVec 32
 | [] => 0#32
 | d :: l => (word l <<< 1) ||| (if d then 1#32 else 0#32)
def feed (s : BitVec 32) : List Bool → BitVec 32
 | [] => s
 | d :: l => feed (step (s ^^^ (if d then 1#32 else 0#32))) l
theorem qrj (l m : List Bool) : ∀ s, feed s (l ++ m) = feed (feed s l) m := by
 induction l with
 | nil => intro s; rfl
 | cons d l ih => intro s; simp only [List.cons_append, feed, ih]
theorem qvk (x : BitVec 32) (h : x.getLsbD 31 = false) : step (x <<< 1) = x := by
 unfold step
 have h0 : (x <<< 1).getLsbD 0 = false := by simp
 rw [h0]
 apply BitVec.eq_of_getLsbD_eq
 intro i hi
 simp only [Bool.false_eq_true, if_false, BitVec.getLsbD_ushiftRight, BitVec.getLsbD_shiftLeft]
 by_cases h31 : i = 31
 ·subst h31; simpa using h.symm
 ·have : 1 + i < 32 := by omega
  simp [this]
theorem qzq (l : List Bool) : ∀ i, l.length ≤ i → (word l).getLsbD i = false := by
 induction l with
 | nil => intro i _; simp [word]
 | cons d l ih =>
  intro i hi
  simp only [List.length_cons] at hi
  have h1 : i ≠ 0 := by omega
  have := ih (i - 1) (by omega)
  simp only [word, BitVec.getLsbD_or, BitVec.getLsbD_shiftLeft, this]
  cases d <;> simp [h1, BitVec.getLsbD_one]
theorem qzz (d : Bool) (l : List Bool) : word (d :: l) = (if d then 1#32 else 0#32) ^^^ (word l <<< 1) := by
 apply BitVec.eq_of_getLsbD_eq
 intro i hi
 simp only [word, BitVec.getLsbD_or, BitVec.getLsbD_xor, BitVec.getLsbD_shiftLeft]
 cases d <;> by_cases h : i = 0 <;> simp [h, BitVec.getLsbD_one]
theorem zkw (l : List Bool) : ∀ s, l.length ≤ 32 → feed s l = qjx l.length (s ^^^ word l) := by
 induction l with
 | nil => intro s _; simp [feed, qjx, word]
 | cons d l ih =>
  intro s hl
  simp only [List.length_cons] at hl
  simp only [feed, List.length_cons, qjx]
  rw [ih _ (by omega), qzz, ← BitVec.xor_assoc, qvj _ (word l <<< 1), qvk _ (qzq l 31 (by omega))]
theorem qtv (n : Nat) : ∀ s, feed s (List.replicate n false) = qjx n s := by
 induction n with
 | zero => intro s; rfl
 | succ n ih => intro s; simp [List.replicate_succ, feed, qjx, ih]
theorem feed_xor (l m : List Bool) : ∀ s t, l.length = m.length → feed (s ^^^ t) (List.zipWith xor l m) = feed s l ^^^ feed t m := by
 induction l generalizing m with
 | nil => intro s t h; cases m with
  | nil => rfl
  | cons => simp at h
 | cons d l ih => intro s t h; cases m with
  | nil => simp at h
  | cons e m =>
   simp only [List.zipWith_cons_cons, feed]
   rw [← ih m _ _ (by simpa using h), ← qvj]
   congr 2
   have : (if (d ^^ e) then 1#32 else 0#32) = (if d then 1#32 else 0#32) ^^^ (if e then 1#32 else 0#32) := by cases d <;> cases e <;> decide
   rw [this]
   apply BitVec.eq_of_getLsbD_eq; intro i hi
   simp only [BitVec.getLsbD_xor]
   cases s.getLsbD i <;> cases t.getLsbD i <;> cases (if d then 1#32 else 0#32).getLsbD i <;> cases (if e then 1#32 else 0#32).getLsbD i <;> rfl
theorem qvv (l : List Bool) (h : l.length ≤ 32) : word l = 0#32 → ∀ b ∈ l, b = false := by
 induction l with
 | nil => intro _ b hb; cases hb
 | cons d l ih =>
  intro hw b hb
  simp only [List.length_cons] at h
  rw [qzz] at hw
  have hd : d = false := by
   have := congrArg (fun x => BitVec.getLsbD x 0) hw
   cases d <;> simp at this ⊢
  subst hd
  have hl : word l = 0#32 := by
   have h2 : step (word l <<< 1) = 0#32 := by
    have : word l <<< 1 = 0#32 := by simpa using hw
    rw [this]; exact qyv
   rwa [qvk _ (qzq l 31 (by omega))] at h2
  rcases List.mem_cons.1 hb with rfl | hb
  ·rfl
  ·exact ih (by omega) hl b hb
theorem burst (a c : Nat) (l : List Bool) (h : l.length ≤ 32) (h0 : feed 0#32 (List.replicate a false ++ l ++ List.replicate c false) = 0#32) : ∀ b ∈ l, b = false := by
 rw [qrj, qrj, qtv, qtv, qtk, zkw l _ h] at h0
 have h1 := qow _ _ (qow _ _ h0)
 exact qvv l h (by simpa using h1)
end Go.Proofs.Ytojepleodijdeaa.Crc
namespace Go.Proofs.Ytojepleodijdeaa.VP
set_option linter.unusedVariables false
set_option linter.unusedSimpArgs false
open Go.RowKit Go.Proofs.Ytojepleodijdeaa.B Go.Proofs.Ytojepleodijdeaa.Crc Go.Proofs.YtojepleodijdeaaW.PrintWords Go.Proofs.YtojepleodijdeaaW.PrintLast Go.Proofs.YtojepleodijdeaaW.PrintMore
abbrev w32 (x : BitVec 32) : Int := (x.toNat : Int)
theorem qtw (x : BitVec 32) : 0 ≤ w32 x ∧ w32 x < 4294967296 := by have := x.isLt; unfold w32; omega
theorem qvw (z : BitVec 32) : BitVec.ofInt 32 (w32 z) = z := by
 apply BitVec.eq_of_toNat_eq
 unfold w32
 rw [BitVec.ofInt_natCast, BitVec.toNat_ofNat]
 exact Nat.mod_eq_of_lt z.isLt
theorem wrap32 (z : BitVec 32) : IntKind.u32.wrap (w32 z) = w32 z := by
 have := qtw z
 rw [IntKind.wrap_u32]; omega
theorem zgz (x y : BitVec 32) : bits .xor .u32 (w32 x) (w32 y) = w32 (x ^^^ y) := by
 show IntKind.u32.wrap (((BitVec.ofInt 32 (w32 x) ^^^ BitVec.ofInt 32 (w32 y)).toNat : Nat) : Int) = _
 rw [qvw, qvw]; exact wrap32 _
theorem and32 (x y : BitVec 32) : bits .and .u32 (w32 x) (w32 y) = w32 (x &&& y) := by
 show IntKind.u32.wrap (((BitVec.ofInt 32 (w32 x) &&& BitVec.ofInt 32 (w32 y)).toNat : Nat) : Int) = _
 rw [qvw, qvw]; exact wrap32 _
theorem zlq (x : BitVec 32) : (w32 x) / (2 : Int) = w32 (x >>> 1) := by
 simp only [w32, BitVec.toNat_ushiftRight, Nat.shiftRight_eq_div_pow]; omega
theorem odd32 (x : BitVec 32) : x.getLsbD 0 = decide (x.toNat % 2 = 1) := by
 rw [BitVec.getLsbD, Nat.testBit_zero]
theorem zlz (x : BitVec 32) : (bits .and .u32 (w32 x) 1 = 1) ↔ x.getLsbD 0 = true := by
 have h := and32 x 1#32
 have e1 : w32 1#32 = 1 := by decide
 rw [e1] at h
 rw [h, odd32]
 have h2 : (x &&& 1#32).toNat = x.toNat % 2 := by
  rw [BitVec.toNat_and]; simp [Nat.and_one_is_mod]
 simp only [w32, h2, decide_eq_true_eq]; omega
theorem poly32 : (2197175160 : Int) = w32 0x82f63b78#32 := by decide
theorem zgx : ∀ (d : Nat) (i : Nat) (x : BitVec 32), i + d = 8 → sum_entry.l0 (d + 1) (w32 x) (i : Int) = some (w32 (qjx d x)) := by
 intro d
 induction d with
 | zero =>
  intro i x hi
  simp only [sum_entry.l0]
  rw [if_neg (by omega)]; rfl
 | succ d ih =>
  intro i x hi
  have hw : wrap64 ((i : Int) + 1) = ((i + 1 : Nat) : Int) := by unfold wrap64; omega
  rw [sum_entry.l0, if_pos (by omega), hw]
  simp only [qjx]
  by_cases h : x.getLsbD 0 = true
  ·rw [if_pos ((zlz x).2 h), zlq, poly32, zgz, ih (i + 1) _ (by omega)]
   simp only [Crc.step, h, if_true]
  ·rw [if_neg (fun hh => h ((zlz x).1 hh)), zlq, ih (i + 1) _ (by omega)]
   simp only [Crc.step, h, if_false]
   rfl
theorem zez (x : BitVec 32) : sum_entry.f 9 (w32 x) = some (w32 (qjx 8 x)) := zgx 8 0 x rfl
theorem zbk : ∀ (d : Nat) (i : Nat) (x : BitVec 32), i + d = 8 → Ev (fun k => tumbrelref01_Entry.l0 k (w32 x) (i : Int)) (w32 (qjx d x)) := by
 intro d
 induction d with
 | zero =>
  intro i x hi
  refine Ev.step (f := fun _ => some (w32 x)) (fun k => ?_) (Ev.now _)
  simp only [tumbrelref01_Entry.l0]
  rw [if_neg (by omega)]
 | succ d ih =>
  intro i x hi
  have hw : wrap64 ((i : Int) + 1) = ((i + 1 : Nat) : Int) := by unfold wrap64; omega
  have hx := qtw x
  refine Ev.step (f := fun k => tumbrelref01_Entry.l0 k (w32 (Crc.step x)) ((i + 1 : Nat) : Int)) (fun k => ?_) (ih (i + 1) (Crc.step x) (by omega))
  simp only [tumbrelref01_Entry.l0]
  have e2 : (Int.tdiv (w32 x) 2) % (4294967296 : Int) = w32 (x >>> 1) := by
   rw [Int.tdiv_eq_ediv_of_nonneg hx.1, ← zlq]; omega
  have e1 : (Int.tmod (w32 x) 2 = 1) ↔ x.getLsbD 0 = true := by
   rw [Int.tmod_eq_emod_of_nonneg hx.1, odd32, decide_eq_true_eq]; unfold w32; omega
  rw [if_pos (by omega), hw, e2]
  by_cases h : x.getLsbD 0 = true
  ·rw [if_pos (e1.2 h), poly32, zgz]
   simp only [Crc.step, h, if_true]
  ·rw [if_neg (fun hh => h (e1.1 hh))]
   simp only [Crc.step, h, if_false]
   rfl
theorem zlx (x : BitVec 32) : Ev (fun k => tumbrelref01_Entry.f k (w32 x)) (w32 (qjx 8 x)) := zbk 8 0 x rfl
def b32 (c : Int) : BitVec 32 := BitVec.ofNat 32 c.toNat
theorem b32_val {c : Int} (h : 0 ≤ c ∧ c ≤ 255) : w32 (b32 c) = c := by
 unfold w32 b32; rw [BitVec.toNat_ofNat]; omega
def qoq (s : BitVec 32) (c : Int) : BitVec 32 := qjx 8 (s ^^^ b32 c)
def crcL (s : BitVec 32) (l : List Int) : BitVec 32 := l.foldl qoq s
theorem crcL_append (s : BitVec 32) (l m : List Int) : crcL s (l ++ m) = crcL (crcL s l) m := by simp [crcL]
theorem shl8 : ∀ (n : Nat) (x : BitVec 32), (∀ i, 32 - n ≤ i → x.getLsbD i = false) → qjx n (x <<< n) = x := by
 intro n
 induction n with
 | zero => intro x _; simp [qjx]
 | succ n ih =>
  intro x hx
  by_cases h32 : n < 32
  ·have e : x <<< (n + 1) = (x <<< n) <<< 1 := by rw [← BitVec.shiftLeft_add]
   rw [qjx, e, qvk]
   ·exact ih x (fun i hi => hx i (by omega))
   ·rw [BitVec.getLsbD_shiftLeft]
    simp only [Bool.and_eq_false_iff]
    exact .inr (hx _ (by omega))
  ·have : x = 0#32 := by
    apply BitVec.eq_of_getLsbD_eq; intro i _; rw [hx i (by omega)]; simp
   subst this
   simp [qtk]
theorem split8 (x : BitVec 32) : x = ((x >>> 8) <<< 8) ^^^ (x &&& 255#32) := by
 apply BitVec.eq_of_getLsbD_eq
 intro i hi
 simp only [BitVec.getLsbD_xor, BitVec.getLsbD_shiftLeft, BitVec.getLsbD_ushiftRight, BitVec.getLsbD_and]
 have h255 : (255#32).getLsbD i = decide (i < 8) := by
  have : (255#32) = BitVec.ofNat 32 (2 ^ 8 - 1) := rfl
  rw [this, BitVec.getLsbD_ofNat, Nat.testBit_two_pow_sub_one]
  simp [hi]
 rw [h255]
 by_cases h8 : i < 8
 ·simp [h8]
 ·have e : 8 + (i - 8) = i := by omega
  simp [h8, hi, e]
theorem zbv (x : BitVec 32) : qjx 8 x = (x >>> 8) ^^^ qjx 8 (x &&& 255#32) := by
 conv => lhs; rw [split8 x]
 rw [zkv, shl8]
 intro i hi
 rw [BitVec.getLsbD_ushiftRight]
 exact BitVec.getLsbD_of_ge _ _ (by omega)
theorem b32_high {c : Int} (h : 0 ≤ c ∧ c ≤ 255) (i : Nat) (hi : 8 ≤ i) : (b32 c).getLsbD i = false := by
 unfold b32
 rw [BitVec.getLsbD_ofNat]
 have : c.toNat < 2 ^ i := Nat.lt_of_lt_of_le (by omega : c.toNat < 2 ^ 8) (Nat.pow_le_pow_right (by decide) hi)
 simp [Nat.testBit_lt_two_pow this]
theorem crcByte_table (s : BitVec 32) {c : Int} (h : 0 ≤ c ∧ c ≤ 255) : qoq s c = (s >>> 8) ^^^ qjx 8 ((s ^^^ b32 c) &&& 255#32) := by
 unfold qoq
 rw [zbv]
 congr 1
 apply BitVec.eq_of_getLsbD_eq
 intro i hi
 simp only [BitVec.getLsbD_ushiftRight, BitVec.getLsbD_xor, b32_high h (8 + i) (by omega), Bool.xor_false]
end Go.Proofs.Ytojepleodijdeaa.VP
namespace Go.Proofs.Ytojepleodijdeaa.B
open Go.RowKit Go.Proofs.YtojepleodijdeaaW.PrintWords Go.Proofs.YtojepleodijdeaaW.PrintLast Go.Proofs.YtojepleodijdeaaW.PrintMore
open Go.Proofs.Ytojepleodijdeaa.VP (w32 b32 qoq crcL zez zgz qtw)
open Go.Proofs.Ytojepleodijdeaa.Crc (qjx)
set_option linter.unusedVariables false
set_option linter.unusedSimpArgs false
def tabE (i : Nat) : Int := w32 (qjx 8 (BitVec.ofNat 32 i))
def tabN (k : Nat) : List Value := ((List.range k).map fun i => Value.int .u32 (tabE i)) ++ List.replicate (256 - k) (.int .u32 0)
theorem qkv (k : Nat) (h : k ≤ 256) : (tabN k).length = 256 := by simp [tabN]; omega
theorem qzx : Try.zeroCells47 = (tabN 0).toArray := by kernel_rfl
theorem tabN_set (k : Nat) (h : k < 256) : (tabN k).toArray.setIfInBounds k (.int .u32 (tabE k)) = (tabN (k + 1)).toArray := by
 rw [List.setIfInBounds_toArray]
 refine congrArg List.toArray (List.ext_getElem ?_ ?_)
 ·simp [tabN]; omega
 ·intro i h1 h2
  rw [List.getElem_set]
  simp only [tabN, List.getElem_append, List.length_map, List.length_range, List.getElem_map, List.getElem_range, List.getElem_replicate]
  split
  ·subst_vars; simp
  ·rename_i hne
   split <;> split <;> first | rfl | omega
theorem zex (k : Nat) : (tabN k).toArray.all (·.oneCell') = true := by
 rw [Array.all_eq_true_iff_forall_mem]
 intro x hx
 simp only [List.mem_toArray, tabN, List.mem_append, List.mem_map, List.mem_replicate] at hx
 rcases hx with ⟨i, _, rfl⟩ | ⟨_, rfl⟩ <;> rfl
theorem tabN_at (k i : Nat) (hk : k ≤ 256) (hi : i < 256) : ∃ v, (tabN k).toArray[i]? = some v := by
 have : i < (tabN k).length := by rw [qkv k hk]; exact hi
 exact ⟨(tabN k)[i], by simp [List.getElem?_eq_getElem this]⟩
theorem tab_at (i : Nat) (hi : i < 256) : (tabN 256).toArray[i]? = some (.int .u32 (tabE i)) := by
 simp [tabN, List.getElem?_append, hi]
theorem info47 : (Try.prog.info? 47).map (·.size) = some 256 := by kernel_rfl
theorem zlj (k : Nat) (h : k < 256) : sum_entry.f 9 (k : Int) = some (tabE k) := by
 have := zez (BitVec.ofNat 32 k)
 rwa [show w32 (BitVec.ofNat 32 k) = (k : Int) by unfold w32; rw [BitVec.toNat_ofNat]; omega] at this
theorem qmw {B : Nat} {w W : World} (h : Below B w W) {g : Nat} (hg : B ≤ g) (cs : Array Value) : Below B w (W.setRow g cs) :=
 ⟨h.os, h.tape, h.output, by simp; exact h.size, fun i hi => (setRow_other W g i cs (by omega)).trans (h.block i hi)⟩
set_option maxRecDepth 100000 in
set_option maxHeartbeats 1000000 in
theorem zbw (w : World) : Calls Try.prog 41 #[] w fun e w' => e = .returned (.agg (tabN 256).toArray) ∧ Below w.heap.size w w' := by
 go_enter Try.func41, Try.ntmps41
 go_wp2
 rw [qzx]
 go_loopw [3] (fun i wr => ∃ k : Nat, i = .int .i64 k ∧ k ≤ 256 ∧ Aside0 (wr.heap[w.heap.size]? = some (.cells (tabN 0).toArray 47 (0, 0))) ∧ Aside0 (wr.heap[w.heap.size + 1]? = some (.cells (tabN k).toArray 47 (0, 0))) ∧ Aside0 (Below w.heap.size w wr)) (fun i _ => 256 - (intOf i).toNat)
 case atStart => exact ⟨0, rfl, by omega, ⟨heap_alloc2_old w _ _⟩, ⟨heap_alloc2_new w _ _⟩, ⟨(((Below.refl _ _).alloc (Nat.le_refl _) _).alloc (by simp) _)⟩⟩
 case round =>
  obtain ⟨k, rfl, hk, H0, H1, HB⟩ := hrel
  by_cases hlt : k < 256
  ·have hk1 : (k : Int) < 256 := by omega
   have hE := Aside0.mk (zlj k hlt)
   obtain ⟨v, hv⟩ := tabN_at k k hk hlt
   have hc : wr.cell? ⟨w.heap.size + 1, k, none⟩ = some v := (qbq H1.out k).trans hv
   have hf := qbz H1.out k
   have hw : IntKind.u32.wrap (k : Int) = (k : Int) := by rw [IntKind.wrap_u32]; omega
   go_wp2_with (go_at_call 74; refine (sum_entry.calls 9 (k : Int) (tabE k) _ hE.out).mono ?_; rintro e w' ⟨rfl, hd⟩; obtain ⟨nd, hd2⟩ := hd.out; subst hd2)
   go_roundw
   case rel =>
    refine ⟨k + 1, by go_num, by omega, ⟨?_⟩, ⟨?_⟩, ⟨?_⟩⟩
    ·rw [heap_setCell_other _ _ _ _ (by simp)]; exact H0.out
    ·rw [← tabN_set k hlt]; exact quz (w := wr.drewN nd) H1.out k _
    ·exact (qaq HB.out nd).setCell (p := ⟨w.heap.size + 1, k, none⟩) (by simp) _
   case measure => simp [intOf]; omega
  ·have hk2 : k = 256 := by omega
   subst hk2
   have hs : (tabN 256).toArray.size = 256 := by simp [qkv]
   have HI : Aside0 ((Try.prog.info? 47).map (·.size) = some (tabN 256).toArray.size) := ⟨by rw [hs]; exact info47⟩
   have HZ : Aside0 ((tabN 0).toArray.size = (tabN 256).toArray.size) := ⟨by rw [hs]; simp [qkv]⟩
   clear hs
   go_wp2_with (first | (refine wpList_load_row rfl 47 _ rfl (w.heap.size + 1) rfl 47 _ (0, 0) _ H1.out Try.underlying47 rfl HI.out ?_) | (refine wpList_store_row rfl 47 _ _ rfl w.heap.size _ rfl rfl 47 _ H0.out HI.out HZ.out (zex 256) ?_))
   exact bodyPost_ret (results_cell_row rfl _ _ w.heap.size 47 _ (0, 0) _ rfl (setRow_heap _ _ _ _ _ _ H0.out) Try.underlying47 rfl HI.out) rfl ⟨rfl, qmw HB.out (Nat.le_refl _) _⟩
theorem not32 {a : Int} (h : 0 ≤ a ∧ a < 4294967296) : bits BinOp.xor IntKind.u32 IntKind.u32.max a = w32 (~~~ BitVec.ofNat 32 a.toNat) := by
 have e1 : IntKind.u32.max = w32 (BitVec.allOnes 32) := by decide
 have e2 : a = w32 (BitVec.ofNat 32 a.toNat) := by unfold w32; rw [BitVec.toNat_ofNat]; omega
 conv => lhs; rw [e1, e2]
 rw [zgz]
 have e3 : BitVec.allOnes 32 ^^^ BitVec.ofNat 32 a.toNat = ~~~ BitVec.ofNat 32 a.toNat := by
  exact BitVec.allOnes_xor
 rw [e3]
theorem VP_rd {l : List Int} {i : Nat} (h : i < l.length) : rd l (i : Int) = l[i] := by
 simp [rd, List.getD_eq_getElem?_getD, List.getElem?_eq_getElem h]
theorem ofInt8 (z : BitVec 8) : BitVec.ofInt 8 (z.toNat : Int) = z := by
 apply BitVec.eq_of_toNat_eq
 rw [BitVec.ofInt_natCast, BitVec.toNat_ofNat]
 exact Nat.mod_eq_of_lt z.isLt
theorem idx8 (s : BitVec 32) {c : Int} (h : 0 ≤ c ∧ c ≤ 255) : ∃ j : Nat, Aside0 (j < 256 ∧ BitVec.ofNat 32 j = (s ^^^ b32 c) &&& 255#32) ∧ bits .xor .u8 (w32 s % 256) c = (j : Int) := by
 refine ⟨((BitVec.ofNat 8 s.toNat) ^^^ (BitVec.ofNat 8 c.toNat)).toNat, ⟨?_, ?_⟩, ?_⟩
 ·exact ((BitVec.ofNat 8 s.toNat) ^^^ (BitVec.ofNat 8 c.toNat)).isLt
 ·apply BitVec.eq_of_getLsbD_eq
  intro i hi
  have h255 : (255#32).getLsbD i = decide (i < 8) := by
   have : (255#32) = BitVec.ofNat 32 (2 ^ 8 - 1) := rfl
   rw [this, BitVec.getLsbD_ofNat, Nat.testBit_two_pow_sub_one]
   simp [hi]
  rw [BitVec.getLsbD_and, h255, BitVec.getLsbD_xor, BitVec.getLsbD_ofNat, b32, BitVec.getLsbD_ofNat]
  rw [BitVec.toNat_xor, Nat.testBit_xor, BitVec.toNat_ofNat, BitVec.toNat_ofNat, Nat.testBit_mod_two_pow, Nat.testBit_mod_two_pow]
  by_cases h8 : i < 8
  ·simp [h8, hi, BitVec.getLsbD]
  ·simp [h8]
 ·have e1 : w32 s % 256 = ((BitVec.ofNat 8 s.toNat).toNat : Int) := by unfold w32; rw [BitVec.toNat_ofNat]; omega
  have e2 : c = ((BitVec.ofNat 8 c.toNat).toNat : Int) := by rw [BitVec.toNat_ofNat]; omega
  conv => lhs; rw [e1, e2]
  show IntKind.u8.wrap (((BitVec.ofInt 8 _ ^^^ BitVec.ofInt 8 _).toNat : Nat) : Int) = _
  rw [ofInt8, ofInt8, IntKind.wrap_u8]
  have := ((BitVec.ofNat 8 s.toNat) ^^^ (BitVec.ofNat 8 c.toNat)).isLt
  omega
def sum_More.f (a0 : Int) (l1 : List Int) : Option Int :=
 if (0 ≤ a0 ∧ a0 < 4294967296) ∧ (∀ x ∈ l1, 0 ≤ x ∧ x ≤ 255) then some (w32 (~~~ crcL (~~~ BitVec.ofNat 32 a0.toNat) l1)) else none
set_option maxRecDepth 100000 in
set_option maxHeartbeats 1000000 in
theorem sum_More.calls (a0 : Int) (A1 : Option Addr) (c1 : Nat) (l1 : List Int) (r : Int) (w : World) (hr1 : Kd.C (Kd.int .u8) w A1 l1.length l1) (hc1 : l1.length ≤ c1) (h : sum_More.f a0 l1 = some r) :
  Calls Try.prog 37 #[.int .u32 a0, .slice A1 l1.length c1] w fun e w' => e = .returned (.int .u32 r) ∧ Below w.heap.size w w' := by
 unfold sum_More.f at h
 split at h
 case isFalse => cases h
 rename_i hg
 obtain ⟨ha, hb⟩ := hg
 obtain rfl := Option.some.inj h
 clear h
 have HR := Aside0.mk hr1
 have hle := hr1.2.1
 have HC := Aside0.mk hc1
 clear hr1 hc1
 go_enter Try.func37, Try.ntmps37
 have hs : (tabN 256).toArray.size = 256 := by simp [qkv]
 have HI : Aside0 ((Try.prog.info? 47).map (·.size) = some (tabN 256).toArray.size) := ⟨by rw [hs]; exact info47⟩
 have HZ : Aside0 (Try.zeroCells47.size = (tabN 256).toArray.size) := ⟨by rw [hs, qzx]; simp [qkv]⟩
 clear hs
 go_wp2_with (first | (go_at_call 41; refine (zbw _).mono ?_; rintro e w1 ⟨rfl, hb1⟩; have HB1 := Aside0.mk hb1; clear hb1) | (refine wpList_store_row rfl 47 _ _ rfl w1.heap.size _ rfl rfl 47 _ (qnw w1 _) HI.out HZ.out (zex 256) ?_))
 have HT : Aside0 (((w1.alloc (Obj.cells Try.zeroCells47 47)).setRow w1.heap.size (tabN 256).toArray).heap[w1.heap.size]? = some (.cells (tabN 256).toArray 47 (0, 0))) := ⟨setRow_heap _ _ _ _ _ _ (qnw w1 _)⟩
 have HB := Aside0.mk (qmw (HB1.out.alloc HB1.out.size (Obj.cells Try.zeroCells47 47)) HB1.out.size (tabN 256).toArray)
 generalize ((w1.alloc (Obj.cells Try.zeroCells47 47)).setRow w1.heap.size (tabN 256).toArray) = W at HT HB
 generalize w1.heap.size = g at HT
 have HN : Aside0 (bits BinOp.xor IntKind.u32 IntKind.u32.max a0 = w32 (~~~ BitVec.ofNat 32 a0.toNat)) := ⟨not32 ha⟩
 rw [HN.out]
 have HR2 := Aside0.mk (Kd.C_below HR.out HB.out)
 clear HR HI HZ HB1 HN hle
 go_loop [0, 13] (fun s i => ∃ k : Nat, i = .int .i64 k ∧ k ≤ l1.length ∧ s = .int .u32 (w32 (crcL (~~~ BitVec.ofNat 32 a0.toNat) (l1.take k)))) (fun _ i => l1.length - (intOf i).toNat)
 case atStart => exact ⟨0, rfl, by omega, rfl⟩
 case round =>
  obtain ⟨k, rfl, hk, rfl⟩ := hrel
  have hl9 : l1.length ≤ 9223372036854775807 := HR2.out.2.1
  by_cases hlt : k < l1.length
  ·obtain ⟨ad, e, hx⟩ := Kd.at_int HR2.out (k : Int) (by omega) (by omega)
   subst e
   have hrd : rd l1 (k : Int) = l1[k] := VP_rd hlt
   rw [hrd, Int.toNat_natCast] at hx
   have hbk := hb l1[k] (List.getElem_mem hlt)
   have hcrc : Aside0 (crcL (~~~ BitVec.ofNat 32 a0.toNat) (l1.take (k + 1)) = qoq (crcL (~~~ BitVec.ofNat 32 a0.toNat) (l1.take k)) l1[k]) := ⟨by rw [List.take_succ_eq_append_getElem hlt, Go.Proofs.Ytojepleodijdeaa.VP.crcL_append]; rfl⟩
   generalize crcL (~~~ BitVec.ofNat 32 a0.toNat) (l1.take k) = s at hcrc
   generalize l1[k] = c at hx hbk hcrc
   obtain ⟨j, hj, hx8⟩ := idx8 s hbk
   have hj2 : (j : Int) < 256 := by have := hj.out.1; omega
   have hcell : W.cell? ⟨g, j, none⟩ = some (.int .u32 (tabE j)) := (qbq HT.out j).trans (tab_at j hj.out.1)
   go_wp2
   have hd8 : (w32 s) / (256 : Int) = w32 (s >>> 8) := by simp only [w32, BitVec.toNat_ushiftRight, Nat.shiftRight_eq_div_pow]; omega
   have hE : bits BinOp.xor IntKind.u32 ((w32 s) / (256 : Int)) (tabE j) = w32 (qoq s c) := by
    rw [hd8, tabE, zgz, hj.out.2, ← Go.Proofs.Ytojepleodijdeaa.VP.crcByte_table s hbk]
   go_round
   case rel => exact ⟨k + 1, by go_num, by omega, by rw [hcrc.out, hE]⟩
   case measure => simp [intOf]; omega
  ·have hk2 : k = l1.length := by omega
   go_wp2
   go_ret
   refine ⟨?_, HB.out⟩
   have hx := qtw (crcL (~~~ BitVec.ofNat 32 a0.toNat) l1)
   have hn := not32 hx
   have e2 : BitVec.ofNat 32 (w32 (crcL (~~~ BitVec.ofNat 32 a0.toNat) l1)).toNat = crcL (~~~ BitVec.ofNat 32 a0.toNat) l1 := by
    apply BitVec.eq_of_toNat_eq; unfold w32; simp
   rw [e2] at hn
   rw [← hn]; rfl
def slices_Clone_byte_byte.f (l0 : List Int) : Option (List Int) := if l0.length < 140737488355328 then some l0 else none
set_option maxRecDepth 100000 in
theorem slices_Clone_byte_byte.calls (A0 : Option Addr) (c0 : Nat) (l0 : List Int) (r : List Int) (w : World) (hr0 : Kd.C (Kd.int .u8) w A0 l0.length l0) (hc0 : l0.length ≤ c0) (h : slices_Clone_byte_byte.f l0 = some r) :
  Calls Try.prog 71 #[.slice A0 l0.length c0] w fun e w' => ∃ v0_ : Value, e = .returned v0_ ∧ Kd.R (Kd.int .u8) 5 w' w.heap.size (fun _ => True) v0_ r ∧ Below w.heap.size w w' := by
 unfold slices_Clone_byte_byte.f at h
 split at h
 case isFalse => cases h
 rename_i hlen
 obtain rfl := Option.some.inj h
 clear h
 have HR := Aside0.mk hr0
 have HC := Aside0.mk hc0
 have HL := Aside0.mk hlen
 clear hr0 hc0 hlen
 have hnil := Go.run_eql_slice_nil (P := Try.prog) w 23 5 A0 l0.length c0 Try.underlying23
 cases A0 with
 | none =>
  obtain rfl : l0 = [] := by
   rcases Nat.eq_zero_or_pos l0.length with h | h
   ·exact List.eq_nil_of_length_eq_zero h
   ·obtain ⟨ad, e, _⟩ := HR.out.2.2 h; cases e
  simp only [Option.isNone_none, List.length_nil] at hnil
  go_enter Try.func71, Try.ntmps71
  go_wp2
  go_ret
  exact ⟨_, rfl, Kd.R_nil _ _ _ _ _, Below.refl _ _⟩
 | some ad =>
  simp only [Option.isNone_some] at hnil
  go_enter Try.func71, Try.ntmps71
  go_wp2_with (first | ((with_reducible refine qcv (N := 5) rfl ?_); refine Kd.R_lit (Kd.int .u8) _ 5 ?hg (N := 5) ?hd (xs := ([] : List Int)) (inner := []) (ok := fun _ => True) (okp := fun _ => True) ?hr ?hp (fun _ hk => hk) trivial (Below.refl _ _) (Nat.le_refl _) (by simp) ?_; (case hd => rfl); (case hg => rfl); (case hr => first | (go_simp; done) | (go_simp; rfl)); (case hp => exact (Reps.none _ _)); intro v1 w1 ho1 hb1 hg_ hnew_; clear hg_ hnew_; have HO1 := Aside0.mk ho1; have HB1 := Aside0.mk hb1; clear ho1 hb1) | ((with_reducible refine qev (b := .append) (xs := #[.tmp 5, .tmp 6]) rfl ?_); at_builtin; refine Kd.R_append_rows (Kd.int .u8) (w0 := w) w.heap.size rfl (.tmp 5) (.tmp 6) 23 5 (.int .u8 0) 1 rfl Try.underlying23 qgv rfl (by decide) (by omega) v1 [] l0 _ _ _ (fun _ => True) (fun _ => False) rfl rfl ?aO ?aR (fun _ _ h => h) (fun _ h => h.elim) ?aF ?aB ?aS ?aL ?_; (case aR => exact Kd.C_below HR.out HB1.out); (case aB => exact HB1.out); (case aF => exact (fun _ _ => trivial)); (case aO => exact HO1.out); (case aS => exact HB1.out.size); (case aL => have := HL.out; simp only [List.length_nil]; omega); intro v2 w2 ho hb hg hat; have HO2 := Aside0.mk ho; have HB2 := Aside0.mk hb; clear ho hb hg hat))
  go_ret
  refine ⟨_, rfl, ?_, HB2.out⟩
  have := HO2.out
  rwa [List.nil_append] at this
set_option maxRecDepth 100000 in
theorem grow_nil (n : Nat) (h0 : 0 < n) (hn : n ≤ 140737488355328) (w : World) :
  Calls Try.prog 83 #[.slice none 0 0, .int .i64 n] w fun e w' => ∃ v0_ : Value, e = .returned v0_ ∧ Kd.R (Kd.int .u8) 5 w' w.heap.size (fun _ => True) v0_ [] ∧ Below w.heap.size w w' := by
 have h0' : (0 : Int) < n := by omega
 have hn' : (n : Int) ≤ 140737488355328 := by omega
 obtain ⟨i0, hi, hz0, hz1, hz2⟩ := info_parts qgv
 go_enter Try.func83, Try.ntmps83
 go_wp2_with (at_builtin; refine Lib.wpList_append_run _ rfl (.tmp 20) (.tmp 21) 23 3 rfl _ _ rfl rfl _ _ (Lib.run_append_nil_zeros w 23 3 _ 5 i0 (.int .u8 0) .i64 .i64 Try.underlying23 Try.underlying3 hi hz0 n h0 (by omega) (by omega) (by rw [hz2]; omega)) ?_)
 go_ret
 refine ⟨_, rfl, ?_, (qkx (Below.refl _ _)).alloc (Nat.le_refl _) _⟩
 have hge := grownCap_ge w n 0 5
 have hle := grownCap_le_maxLen w n 0 5 (by unfold maxLen; omega)
 refine Kd.R_of_own ⟨rfl, .inr ⟨w.heap.size, _, _, rfl, Nat.le_refl _, qnw w.drew _, Nat.zero_le _, hle, ?_, ?_⟩⟩ (fun _ _ => trivial)
 ·simp [Builtin.zeroCells, Value.cells]; omega
 ·rfl
def CRel2 (w wr : World) (xs ys : List Int) (v i : Value) : Prop := ∃ L, Kd.R (Kd.int .u8) 5 wr w.heap.size (fun _ => True) v L ∧ ((i = .int .i64 0 ∧ L = []) ∨ (i = .int .i64 1 ∧ L = xs) ∨ (i = .int .i64 2 ∧ L = xs ++ ys))
def CRel (a b : Nat) (n i : Value) : Prop := (i = .int .i64 0 ∧ n = .int .i64 0) ∨ (i = .int .i64 1 ∧ n = .int .i64 a) ∨ (i = .int .i64 2 ∧ n = .int .i64 ((a : Int) + b))
set_option maxRecDepth 100000 in
set_option maxHeartbeats 1000000 in
theorem zgj (p : Nat) (A1 A2 : Option Addr) (c1 c2 : Nat) (xs ys : List Int) (w : World) (hp : w.heap[p]? = some (.cells #[.slice A1 xs.length c1, .slice A2 ys.length c2] 23 (0, 0)))
  (h1 : Kd.C (Kd.int .u8) w A1 xs.length xs) (h2 : Kd.C (Kd.int .u8) w A2 ys.length ys) (hpos : 0 < xs.length + ys.length) (hlen : xs.length + ys.length < 140737488355328) :
  Calls Try.prog 72 #[.slice (some ⟨p, 0, none⟩) 2 2] w fun e w' => ∃ v0_ : Value, e = .returned v0_ ∧ Kd.R (Kd.int .u8) 5 w' w.heap.size (fun _ => True) v0_ (xs ++ ys) ∧ Below w.heap.size w w' := by
 have HP := Aside0.mk hp
 have H1 := Aside0.mk h1
 have H2 := Aside0.mk h2
 have hx : (xs.length : Int) < 140737488355328 := by omega
 have hy : (ys.length : Int) < 140737488355328 := by omega
 have hxy : (xs.length : Int) + ys.length < 140737488355328 := by omega
 have hk0 : w.cell? ⟨p, 0, none⟩ = some (.slice A1 xs.length c1) := (qbq hp 0).trans rfl
 have hk1 : w.cell? ⟨p, 1, none⟩ = some (.slice A2 ys.length c2) := (qbq hp 1).trans rfl
 have hn1 : decide ((xs.length : Int) < 0) = false := decide_eq_false (by omega)
 have hn2 : decide ((xs.length : Int) + ys.length < 0) = false := decide_eq_false (by omega)
 have HL := Aside0.mk hlen
 have HPos := Aside0.mk hpos
 clear hp h1 h2 hpos hlen
 go_enter Try.func72, Try.ntmps72
 go_wp2
 go_loop [3, 11] (fun n i => CRel xs.length ys.length n i) (fun _ i => 2 - (intOf i).toNat)
 case atStart => exact .inl ⟨rfl, rfl⟩
 case round =>
  rcases hrel with ⟨rfl, rfl⟩ | ⟨rfl, rfl⟩ | ⟨rfl, rfl⟩
  ·go_wp2
   go_round
   case rel => exact .inr (.inl ⟨rfl, rfl⟩)
   case measure => simp [intOf]
  ·go_wp2
   go_round
   case rel => exact .inr (.inr ⟨rfl, rfl⟩)
   case measure => simp [intOf]
  ·go_wp2_with (go_at_call 83; rw [← Int.natCast_add]; refine (grow_nil (xs.length + ys.length) HPos.out (Nat.le_of_lt HL.out) _).mono ?_; rintro e w1 ⟨v1, rfl, ho1, hb1⟩; have HO1 := Aside0.mk ho1; have HB1 := Aside0.mk hb1; clear ho1 hb1)
   go_loopw [6, 27] (fun v i wr => Aside0 (CRel2 w wr xs ys v i) ∧ Aside0 (Below w.heap.size w wr)) (fun _ i _ => 2 - (intOf i).toNat)
   case atStart => exact ⟨⟨_, HO1.out, .inl ⟨rfl, rfl⟩⟩, HB1⟩
   case round =>
    obtain ⟨⟨L, hO, hL⟩, HB⟩ := hrel
    have HO := Aside0.mk hO
    clear hO
    have hk0 : wr.cell? ⟨p, 0, none⟩ = some (.slice A1 xs.length c1) := (qbq (qcx HP.out HB.out) 0).trans rfl
    have hk1 : wr.cell? ⟨p, 1, none⟩ = some (.slice A2 ys.length c2) := (qbq (qcx HP.out HB.out) 1).trans rfl
    rcases hL with ⟨rfl, rfl⟩ | ⟨rfl, rfl⟩ | ⟨rfl, rfl⟩
    ·go_wp2_with (first | ((with_reducible refine qev (b := .append) (xs := #[.tmp 31, .tmp 32]) rfl ?_); at_builtin; refine Kd.R_append_rows (Kd.int .u8) (w0 := w) w.heap.size rfl (.tmp 31) (.tmp 32) 23 5 (.int .u8 0) 1 rfl Try.underlying23 qgv rfl (by decide) (by omega) _ [] xs _ _ _ (fun _ => True) (fun _ => False) rfl rfl ?aO ?aR (fun _ _ h => h) (fun _ h => h.elim) ?aF ?aB ?aS ?aL ?_; (case aR => exact Kd.C_below H1.out HB.out); (case aB => exact HB.out); (case aF => exact (fun _ _ => trivial)); (case aO => exact HO.out); (case aS => exact HB.out.size); (case aL => have := HL.out; simp only [List.length_nil]; omega); intro v2 w2 ho hb hg hat; have HO2 := Aside0.mk ho; have HB2 := Aside0.mk hb; clear ho hb hg hat))
     go_roundw
     case rel => exact ⟨⟨_, by have h3 := HO2.out; rwa [List.nil_append] at h3, .inr (.inl ⟨rfl, rfl⟩)⟩, HB2⟩
     case measure => simp [intOf]
    ·go_wp2_with (first | ((with_reducible refine qev (b := .append) (xs := #[.tmp 31, .tmp 32]) rfl ?_); at_builtin; refine Kd.R_append_rows (Kd.int .u8) (w0 := w) w.heap.size rfl (.tmp 31) (.tmp 32) 23 5 (.int .u8 0) 1 rfl Try.underlying23 qgv rfl (by decide) (by omega) _ L ys _ _ _ (fun _ => True) (fun _ => False) rfl rfl ?aO ?aR (fun _ _ h => h) (fun _ h => h.elim) ?aF ?aB ?aS ?aL ?_; (case aR => exact Kd.C_below H2.out HB.out); (case aB => exact HB.out); (case aF => exact (fun _ _ => trivial)); (case aO => exact HO.out); (case aS => exact HB.out.size); (case aL => have := HL.out; omega); intro v2 w2 ho hb hg hat; have HO2 := Aside0.mk ho; have HB2 := Aside0.mk hb; clear ho hb hg hat))
     go_roundw
     case rel => exact ⟨⟨_, HO2.out, .inr (.inr ⟨rfl, rfl⟩)⟩, HB2⟩
     case measure => simp [intOf]
    ·go_wp2
     go_ret
     exact ⟨_, rfl, HO.out, HB.out⟩
def qwq (a : Int) : List Int := [a % 256, (a / 256) % 256, (a / 65536) % 256, (a / 16777216) % 256]
def ofL (l : List Int) : Int := w32 (~~~ crcL (~~~ 0#32) l)
def putL (l : List Int) : List Int := l ++ qwq (ofL l)
def sum_Put.f (l0 : List Int) : Option (List Int) := if (∀ x ∈ l0, 0 ≤ x ∧ x ≤ 255) ∧ l0.length < 140737488355320 then some (putL l0) else none
theorem zlk {l : List Int} (h : ∀ x ∈ l, 0 ≤ x ∧ x ≤ 255) : sum_More.f 0 l = some (ofL l) := by
 unfold sum_More.f; rw [if_pos ⟨by decide, h⟩]; rfl
set_option maxRecDepth 100000 in
theorem of_calls (A0 : Option Addr) (c0 : Nat) (l0 : List Int) (w : World) (hb : ∀ x ∈ l0, 0 ≤ x ∧ x ≤ 255) (hr0 : Kd.C (Kd.int .u8) w A0 l0.length l0) (hc0 : l0.length ≤ c0) :
  Calls Try.prog 35 #[.slice A0 l0.length c0] w fun e w' => e = .returned (.int .u32 (ofL l0)) ∧ Below w.heap.size w w' := by
 have HM := Aside0.mk (zlk hb)
 have HR := Aside0.mk hr0
 have HC := Aside0.mk hc0
 clear hr0 hc0
 go_enter Try.func35, Try.ntmps35
 go_wp2_with (go_at_call 37; refine (sum_More.calls 0 _ _ l0 (ofL l0) _ HR.out HC.out HM.out).mono ?_; rintro e w1 ⟨rfl, hb1⟩; have HB1 := Aside0.mk hb1; clear hb1)
 go_ret
 exact ⟨rfl, HB1.out⟩
set_option maxRecDepth 100000 in
set_option maxHeartbeats 1000000 in
theorem sum_Put.calls (A0 : Option Addr) (c0 : Nat) (l0 : List Int) (r : List Int) (w : World) (hr0 : Kd.C (Kd.int .u8) w A0 l0.length l0) (hc0 : l0.length ≤ c0) (h : sum_Put.f l0 = some r) :
  Calls Try.prog 39 #[.slice A0 l0.length c0] w fun e w' => ∃ v0_ : Value, e = .returned v0_ ∧ Kd.R (Kd.int .u8) 5 w' w.heap.size (fun _ => True) v0_ r ∧ Below w.heap.size w w' := by
 unfold sum_Put.f at h
 split at h
 case isFalse => cases h
 rename_i hg
 obtain rfl := Option.some.inj h
 clear h
 have HR := Aside0.mk hr0
 have HC := Aside0.mk hc0
 have HG := Aside0.mk hg
 clear hr0 hc0 hg
 go_enter Try.func39, Try.ntmps39
 go_wp2_with (first | (go_at_call 35; refine (of_calls _ _ l0 _ HG.out.1 HR.out HC.out).mono ?_; rintro e w1 ⟨rfl, hb1⟩; have HB1 := Aside0.mk hb1; clear hb1) | (go_at_call 70; refine (sum_four.calls (ofL l0) (qwq (ofL l0)) _ rfl).mono ?_; rintro e w2 ⟨v2, rfl, ho2, hb2⟩; have HO2 := Aside0.mk ho2; have HB2 := Aside0.mk hb2; clear ho2 hb2; obtain ⟨A2, c2, e2⟩ := Kd.R_slice HO2.out; subst e2) | (go_at_call 72; have HB3 := Aside0.mk (qax (qbj HB1.out HB2.out) (.cells #[.slice A0 l0.length c0, .slice A2 (qwq (ofL l0)).length c2] 23 (0, 0))); refine (zgj w2.heap.size A0 A2 c0 c2 l0 (qwq (ofL l0)) _ (qnw w2 _) (Kd.C_below HR.out HB3.out) (Kd.C_alloc (Kd.R_reads' HO2.out).2.2 _) (by simp [qwq]) (by have := HG.out.2; simp only [qwq, List.length_cons, List.length_nil]; omega)).mono ?_; rintro e w4 ⟨v4, rfl, ho4, hb4⟩; have HO4 := Aside0.mk ho4; have HB4 := Aside0.mk hb4; clear ho4 hb4))
 go_ret
 exact ⟨_, rfl, Kd.R_lower HO4.out HB3.out.size, qbj HB3.out HB4.out⟩
end Go.Proofs.Ytojepleodijdeaa.B
