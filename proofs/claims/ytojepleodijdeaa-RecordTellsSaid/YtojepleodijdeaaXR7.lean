/- Own texts and printed ones, those declarations alone that this claim needs, laid into one text by a program of this session. -/
import Derived.Test.YtojepleodijdeaaXR1
import Derived.Test.YtojepleodijdeaaXR2
import Derived.Test.YtojepleodijdeaaXR3
import Derived.Test.YtojepleodijdeaaXR4
import Derived.Test.YtojepleodijdeaaXR5
import Derived.Test.YtojepleodijdeaaXR6
import Derived.WalkKit
import Derived.ProofKit
import Derived.OpenShut
import Derived.ChangeOld
import Derived.Deep.Slices
import Derived.ChangeSame
import Derived.Lib.SmallJoins
import Derived.Deep.Strs
namespace Go.Proofs.Ytojepleodijdeaa.Pure
set_option linter.unusedVariables false
set_option linter.unusedSimpArgs false
open Go.RowKit Go.Proofs.Ytojepleodijdeaa.B Go.Proofs.Ytojepleodijdeaa.VP Go.Proofs.YtojepleodijdeaaW.PrintWords Go.Proofs.YtojepleodijdeaaW.PrintLast Go.Proofs.YtojepleodijdeaaW.PrintMore
theorem tells_j0 (ak : Int) (N : List Int) (hN : N.length ≤ 100) (hu : isU N) (t : ByteArray) (bk : Int) (M : List Int) (hM : M.length ≤ 100) (u : ByteArray) (xk : Int) (hk : 0 ≤ xk ∧ xk ≤ 255) (xb : List Int) (hb : isB xb) (hl : xb.length ≤ 1200) :
  Ev (fun k => tumbrellaw05_RecordTells.j0 k false ak N t bk M u xk xb) true := by
 have hbytes : Ev (fun n => record_Bytes.f n ak N t) (if qjq ak N t then (fb ak (vall N ++ qek t), 0) else ([], 1)) := by
  by_cases h : qjq ak N t
  ·rw [if_pos h]; exact zdq hu h
  ·rw [if_neg h]; exact Ev.congr (f := fun _ => some (([] : List Int), (1 : Int))) (fun n => zdz n h) (Ev.now _)
 have hpl : (if qjq ak N t then (fb ak (vall N ++ qek t), (0 : Int)) else ([], 1)).1.length ≤ 1000000 := by
  split
  ·rename_i h
   have := (qrw h).1
   rw [fb_len]; omega
  ·simp
 have hfew := zoz xk xb
 obtain ⟨K1, h1⟩ := hbytes
 obtain ⟨K2, h2⟩ := zax (k := ak) (N := N) (t := t) hu
 obtain ⟨K3, h3⟩ := zgw hk hb (by omega)
 obtain ⟨K4, h4⟩ := zck hk hb (by omega)
 obtain ⟨K5, h5⟩ := same_ev (if qjq ak N t then (fb ak (vall N ++ qek t), (0 : Int)) else ([], 1)).1 (if qjq ak N t then (fb ak (vall N ++ qek t), (0 : Int)) else ([], 1)).1 (by omega)
 obtain ⟨K6, h6⟩ := zcv [⟨(qpx xk xb).1, (qpx xk xb).2.1, (qpx xk xb).2.2.1⟩] (by simp)
 obtain ⟨K7, h7⟩ := same5_ev [⟨(qpx xk xb).1, (qpx xk xb).2.1, (qpx xk xb).2.2.1⟩] (by simp) (fun x hx => by rw [List.mem_singleton.1 hx]; show (qpx xk xb).2.1.length ≤ 1000000; omega)
 obtain ⟨K8, h8⟩ := zdx ak bk N M t u (by omega)
 obtain ⟨K9, h9⟩ := zcv [⟨ak, N, t⟩] (by simp)
 obtain ⟨K10, h10⟩ := zcv [⟨bk, M, u⟩] (by simp)
 obtain ⟨K11, h11⟩ := zox ⟨ak, N, t⟩ ⟨bk, M, u⟩ (by show N.length ≤ 1000000; omega)
 refine ⟨K1 + K2 + K3 + K4 + K5 + K6 + K7 + K8 + K9 + K10 + K11 + 1, fun k hk1 => ?_⟩
 obtain ⟨k, rfl⟩ : ∃ m, k = m + 1 := ⟨k - 1, by omega⟩
 dsimp only at h1 h2 h3 h4 h5 h6 h7 h8 h9 h10 h11 ⊢
 rw [tumbrellaw05_RecordTells.j0, if_neg Bool.false_ne_true, h1 _ (by omega), Option.bind_some, h2 _ (by omega), Option.bind_some, h3 _ (by omega), Option.bind_some, h4 _ (by omega), Option.bind_some, zcw, Option.bind_some, qww, Option.bind_some, if_pos (by simp), h5 _ (by omega), Option.bind_some]
 simp only [decide_true, if_true]
 rw [h6 _ (by omega), Option.bind_some]
 simp only [List.map_cons, List.map_nil, to82]
 rw [h7 _ (by omega), Option.bind_some, if_pos rfl, h8 _ (by omega), Option.bind_some, h9 _ (by omega), Option.bind_some, h10 _ (by omega), Option.bind_some]
 simp only [List.map_cons, List.map_nil, to82]
 rw [h11 _ (by omega), Option.bind_some]
 simp
theorem qpk (ak : Int) (N : List Int) (t : ByteArray) (bk : Int) (M : List Int) (u : ByteArray) (xk : Int) (xb : List Int) : Ev (fun k => tumbrellaw05_RecordTells.j0 k true ak N t bk M u xk xb) true := by
 refine ⟨1, fun k hk1 => ?_⟩
 obtain ⟨k, rfl⟩ : ∃ m, k = m + 1 := ⟨k - 1, by omega⟩
 dsimp only
 rw [tumbrellaw05_RecordTells.j0, if_pos rfl]
theorem zoj (k : Int) (N : List Int) (t : ByteArray) : ∃ L, tumbrelref05_Large.f k N t = some L ∧ (L = false → N.length ≤ 100) := by
 unfold tumbrelref05_Large.f
 by_cases h : (N.length : Int) > 100
 ·rw [if_pos h]; exact ⟨true, rfl, fun h => by cases h⟩
 ·rw [if_neg h]; exact ⟨_, rfl, fun _ => by omega⟩
theorem RecordTells (ak : Int) (_ : (Lit.int .i64 ak).wf = true) (N : List Int) (_ : N.length ≤ maxLen) (hN : ∀ x ∈ N, (Lit.int .u64 x).wf = true) (t : ByteArray) (bk : Int) (_ : (Lit.int .i64 bk).wf = true) (M : List Int) (_ : M.length ≤ maxLen) (hM : ∀ x ∈ M, (Lit.int .u64 x).wf = true) (u : ByteArray)
  (xk : Int) (hxk : (Lit.int .u8 xk).wf = true) (xb : List Int) (_ : xb.length ≤ maxLen) (hxb : ∀ x ∈ xb, (Lit.int .u8 x).wf = true) :
  ∃ k, tumbrellaw05_RecordTells.f k ak N t bk M u xk xb = some true := by
 have hk : 0 ≤ xk ∧ xk ≤ 255 := qzk (l := [xk]) (fun y hy => by rw [List.mem_singleton.1 hy]; exact hxk) xk (List.mem_singleton.2 rfl)
 have hb := qzk hxb
 have huu := zmw hN
 obtain ⟨K0, h0⟩ := zlw
 dsimp only at h0
 obtain ⟨L, hL, hL1⟩ := zoj ak N t
 obtain ⟨L2, hM2, hM1⟩ := zoj bk M u
 have main : Ev (fun k => if L = true then (tumbrellaw05_RecordTells.j0 k true ak N t bk M u xk xb) else (if L2 = true then (tumbrellaw05_RecordTells.j0 k true ak N t bk M u xk xb) else (tumbrellaw05_RecordTells.j0 k (decide ((xb.length : Int) > 1200)) ak N t bk M u xk xb))) true := by
  cases L with
  | true => exact Ev.congr (fun k => by rw [if_pos rfl]) (qpk ak N t bk M u xk xb)
  | false =>
   cases L2 with
   | true => exact Ev.congr (fun k => by rw [if_neg Bool.false_ne_true, if_pos rfl]) (qpk ak N t bk M u xk xb)
   | false =>
    by_cases hlong : (xb.length : Int) > 1200
    ·exact Ev.congr (fun k => by rw [if_neg Bool.false_ne_true, if_neg Bool.false_ne_true, decide_eq_true hlong]) (qpk ak N t bk M u xk xb)
    ·exact Ev.congr (fun k => by rw [if_neg Bool.false_ne_true, if_neg Bool.false_ne_true, decide_eq_false hlong]) (tells_j0 ak N (hL1 rfl) huu t bk M (hM1 rfl) u xk hk xb hb (by omega))
 obtain ⟨K1, h1⟩ := main
 refine ⟨K0 + K1, ?_⟩
 unfold tumbrellaw05_RecordTells.f
 rw [h0 _ (by omega), Option.bind_some, if_pos rfl, hL, Option.bind_some, hM2]
 simp only [Option.bind_some]
 exact h1 _ (by omega)
end Go.Proofs.Ytojepleodijdeaa.Pure
namespace Go.Proofs.Ytojepleodijdeaa.B
open Go Go.ChangeShapes Go.WideShapes Go.ChangeAt Go.RowKit Go.Joins Go.Proofs.YtojepleodijdeaaW.PrintWords Go.Proofs.YtojepleodijdeaaW.PrintLast Go.Proofs.YtojepleodijdeaaW.PrintMore
set_option linter.unusedVariables false
set_option linter.unusedSimpArgs false
variable {H : Type} {enc : TypeId × Value → H} {w : World} {fuel : Nat} {cs : List Value} {x : DataW H × List MemPlace}
theorem zok : Try.prog.cellsOf 56 = 2 := by kernel_rfl
end Go.Proofs.Ytojepleodijdeaa.B
namespace Go.Proofs.Ytojepleodijdeaa.B
open Go Go.ChangeShapes Go.WideShapes Go.ChangeAt Go.RowKit Go.Joins Go.Proofs.YtojepleodijdeaaW.PrintWords Go.Proofs.YtojepleodijdeaaW.PrintLast Go.Proofs.YtojepleodijdeaaW.PrintMore
set_option linter.unusedVariables false
set_option linter.unusedSimpArgs false
variable {H : Type} {enc : TypeId × Value → H} {w : World} {fuel : Nat} {cs : List Value} {x : DataW H × List MemPlace}
theorem open_nums (h : DataW.trod enc Try.prog w 0 (fun _ => true) true fuel 32 cs = some x) :
  ∃ (A : Option Addr) (c : Nat) (l : List Int), cs = [.slice A l.length c] ∧ l.length ≤ c ∧ l.length ≤ maxLen ∧ (Kd.int .u64).C w A l.length l ∧ ∀ n ∈ l, (Lit.int .u64 n).wf = true := by
 obtain ⟨a, len, cap, z, hcs, w0⟩ : ∃ (a : Option Addr) (len cap : Nat) (zs : List Int), cs = [.slice a len cap] ∧ ((a = none ∧ len = 0 ∧ cap = 0 ∧ zs = []) ∨
  ∃ x, a = some x ∧ len ≤ cap ∧ cap ≤ maxLen ∧ zs.length = cap ∧ (∀ i, i < zs.length → w.cell? (x.add i) = some (.int .u64 (zs.getD i 0))) ∧ ∀ n ∈ zs, (Lit.int .u64 n).wf = true) := by
  rcases open_ints Try.underlying32 Try.underlying22 (by kernel_rfl) h with ⟨hcs, _⟩ | ⟨x, l, c, zs, hcs, _, hl, hm, hz, _, hcell, hwz⟩
  ·exact ⟨none, 0, 0, [], hcs, .inl ⟨rfl, rfl, rfl, rfl⟩⟩
  ·exact ⟨some x, l, c, zs, hcs, .inr ⟨_, rfl, hl, hm, by simpa using hz, hcell, hwz⟩⟩
 obtain ⟨l, rfl, hr, hm, hw, hc⟩ := ReadsInt.ofRowC w0
 exact ⟨a, cap, l, hcs, hc, hm, Kd.C_of_reads (d := (0 : Int)) (h1 := fun _ => rfl) hr, hw⟩
theorem cells80 : Try.prog.cellsOf 80 = 3 := by kernel_rfl
end Go.Proofs.Ytojepleodijdeaa.B
namespace Go.Proofs.Ytojepleodijdeaa.B
open Go Go.RowKit Go.Proofs.YtojepleodijdeaaW.PrintWords Go.Proofs.YtojepleodijdeaaW.PrintLast Go.Proofs.YtojepleodijdeaaW.PrintMore
theorem nums_V {W : World} {A : Option Addr} {c : Nat} {l : List Int} {e base : Nat} (h : Kd.C (Kd.int .u64) W A l.length l) (hc : l.length ≤ c) : Kd.V (Kd.int .u64) e W base (fun _ => True) (.slice A l.length c) l := by
 have hr : ReadsInt W .u64 A l.length l := Kd.reads_of_C (d := (0 : Int)) (h1 := fun _ => rfl) h
 refine Kd.V_mk hc (fun W' hW => Kd.C_of_reads (d := (0 : Int)) (h1 := fun _ => rfl) ⟨hr.1, hr.2.1, fun hn => ?_⟩)
 obtain ⟨ad, rfl, hcell⟩ := hr.2.2 hn
 refine ⟨ad, rfl, fun j hj => ?_⟩
 have h5 := hcell j hj
 have hb := hW _ trivial (World.block_lt_of_cell? W _ h5)
 rw [← h5]
 simp [World.cell?, hb]
end Go.Proofs.Ytojepleodijdeaa.B
