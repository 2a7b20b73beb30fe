/- Own text, printed by a program of this session: a frame of 128 slots of which the first 86 are known. -/
import Derived.Test.YtcbjhljecjgdcaaN7
set_option linter.unusedVariables false
namespace Go.Proofs.Ytcbjhljecjgdcaa.L
open Go
theorem list42 : ∀ (l : List Value), l.length = 42 → ∃ v86 v87 v88 v89 v90 v91 v92 v93 v94 v95 v96 v97 v98 v99 v100 v101 v102 v103 v104 v105 v106 v107 v108 v109 v110 v111 v112 v113 v114 v115 v116 v117 v118 v119 v120 v121 v122 v123 v124 v125 v126 v127 : Value, l = [v86, v87, v88, v89, v90, v91, v92, v93, v94, v95, v96, v97, v98, v99, v100, v101, v102, v103, v104, v105, v106, v107, v108, v109, v110, v111, v112, v113, v114, v115, v116, v117, v118, v119, v120, v121, v122, v123, v124, v125, v126, v127]
  | v86 :: v87 :: v88 :: v89 :: v90 :: v91 :: v92 :: v93 :: v94 :: v95 :: v96 :: v97 :: v98 :: v99 :: v100 :: v101 :: v102 :: v103 :: v104 :: v105 :: v106 :: v107 :: v108 :: v109 :: v110 :: v111 :: v112 :: v113 :: v114 :: v115 :: v116 :: v117 :: v118 :: v119 :: v120 :: v121 :: v122 :: v123 :: v124 :: v125 :: v126 :: v127 :: [], _ => ⟨v86, v87, v88, v89, v90, v91, v92, v93, v94, v95, v96, v97, v98, v99, v100, v101, v102, v103, v104, v105, v106, v107, v108, v109, v110, v111, v112, v113, v114, v115, v116, v117, v118, v119, v120, v121, v122, v123, v124, v125, v126, v127, rfl⟩
theorem explode (a0 a : Act) (P : List Value) (hP : a0.tmps.toList.take 86 = P) (h0 : a0.tmps.size = 128) (hd : a.defers = []) (hs : a.tmps.size = 128) (h1 : ∀ t, t < 86 → a.tmps[t]? = a0.tmps[t]?) (h2 : a.tmps[126]? = some (.bool false)) :
    ∃ v86 v87 v88 v89 v90 v91 v92 v93 v94 v95 v96 v97 v98 v99 v100 v101 v102 v103 v104 v105 v106 v107 v108 v109 v110 v111 v112 v113 v114 v115 v116 v117 v118 v119 v120 v121 v122 v123 v124 v125 v127 : Value, a = { tmps := (P ++ [v86, v87, v88, v89, v90, v91, v92, v93, v94, v95, v96, v97, v98, v99, v100, v101, v102, v103, v104, v105, v106, v107, v108, v109, v110, v111, v112, v113, v114, v115, v116, v117, v118, v119, v120, v121, v122, v123, v124, v125, .bool false, v127]).toArray, defers := [] } := by
  subst hP
  have e1 : a.tmps.toList = a.tmps.toList.take 86 ++ a.tmps.toList.drop 86 := (List.take_append_drop _ _).symm
  have e2 : a.tmps.toList.take 86 = a0.tmps.toList.take 86 := by
    apply List.ext_getElem?
    intro i
    rw [List.getElem?_take, List.getElem?_take]
    split
    · simpa using h1 i ‹_›
    · rfl
  obtain ⟨v86, v87, v88, v89, v90, v91, v92, v93, v94, v95, v96, v97, v98, v99, v100, v101, v102, v103, v104, v105, v106, v107, v108, v109, v110, v111, v112, v113, v114, v115, v116, v117, v118, v119, v120, v121, v122, v123, v124, v125, v126, v127, e3⟩ := list42 (a.tmps.toList.drop 86) (by simp [hs])
  have e4 : v126 = .bool false := by
    have : (a.tmps.toList.drop 86)[40]? = some (.bool false) := by rw [List.getElem?_drop]; simpa using h2
    rw [e3] at this
    simpa using this
  subst e4
  refine ⟨v86, v87, v88, v89, v90, v91, v92, v93, v94, v95, v96, v97, v98, v99, v100, v101, v102, v103, v104, v105, v106, v107, v108, v109, v110, v111, v112, v113, v114, v115, v116, v117, v118, v119, v120, v121, v122, v123, v124, v125, v127, ?_⟩
  obtain ⟨ts, ds⟩ := a
  simp only at hd e1 e2 e3
  subst hd
  congr 1
  apply Array.ext'
  rw [e1, e2, e3]
end Go.Proofs.Ytcbjhljecjgdcaa.L
