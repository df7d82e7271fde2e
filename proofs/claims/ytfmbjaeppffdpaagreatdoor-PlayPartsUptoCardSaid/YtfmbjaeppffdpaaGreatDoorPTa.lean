/- The law TopWhere,in plain words. -/
import Derived.Test.YtfmbjaeppffdpaaGreatDoorPP
import Derived.Test.YtfmbjaeppffdpaaGreatDoorPK
namespace Go.LS
open Go
set_option linter.unusedSimpArgs false
set_option linter.unusedVariables false
/-! ### Sorting what was selected -/
/-! ### Steps -/
def fineB (t:Tb):Bool:=decide ((checkC t.L).2=0) && (fewT t && evenF t)
def nd0:Nd:=.mk 0 ByteArray.empty vl0 [] []
def st0 (k:Int):Stp:=⟨k,nd0,[],0,[],tb0,[],0,[]⟩
def whS (a:Nd):Stp:={ st0 1 with q:=a }
def soS (k:Ky):Stp:={ st0 2 with ks:=[k] }
def bothN (a b:Nd):Nd:=.mk 6 ByteArray.empty vl0 [] [a,b]
theorem chk_wide {t:Tb} (h:chkT t=0):wideF t.L t.R=true:=by
 unfold chkT at h
 split at h
 ·rename_i h1;exact (h1 h).elim
 ·split at h
  ·cases h
  ·rename_i h2;exact (by simpa using h2:evenF t=true)
theorem chk_cols {t:Tb} (h:chkT t=0):(checkC t.L).2=0:=by
 unfold chkT at h
 split at h
 ·rename_i h1;exact (h1 h).elim
 ·rename_i h1;simpa using h1
end Go.LS
