/- Contracts of the functions of the seat,one by one (part Zc);no condition but those that each bears. -/
import Derived.Test.YtfmbjaeppffdpaaGreatDoorZaq
import Derived.Test.YtfmbjaeppffdpaaGreatDoorZ3q
namespace Go.LS.Tryz
open Go Go.LS
set_option maxRecDepth 100000
set_option linter.unusedSimpArgs false
set_option linter.unusedVariables false
theorem run_bad {t:Tb} {l:List Stp} (h:chkT t≠0):runA t l=(tb0,0,chkT t):=by
 unfold runA
 split
 ·simp [tabT,h]
 ·rename_i h0
  cases l with
  | nil=>simp at h0
  | cons s l =>
   have:stepT t s=(tb0,chkT t):=by unfold stepT;rw [if_pos h]
   rw [runT,this,if_pos h]
theorem run_fine {t:Tb} {l:List Stp} (h:chkT t=0):runA t l=runT t l 0:=by
 unfold runA
 split
 ·rename_i h0
  rw [List.eq_nil_of_length_eq_zero h0,h]
  rfl
 ·rfl
end Go.LS.Tryz
