/- The law TopWhere, in plain words. -/
import Derived.Test.YtfmbjaeppffdpaaGreatDoorPP
import Derived.Test.YtfmbjaeppffdpaaGreatDoorPK
namespace Go.LS
open Go
set_option linter.unusedSimpArgs false
set_option linter.unusedVariables false
/-! ### Sorting what was selected -/
/-! ### Steps -/
def fineB (t : Tb) : Bool := decide ((checkC t.L).2 = 0) && (fewT t && evenF t)
def nd0 : Nd := .mk 0 ByteArray.empty vl0 [] []
def st0 (k : Int) : Stp := ⟨k, nd0, [], 0, [], tb0, [], 0, []⟩
def whS (a : Nd) : Stp := { st0 1 with q := a }
def soS (k : Ky) : Stp := { st0 2 with ks := [k] }
def bothN (a b : Nd) : Nd := .mk 6 ByteArray.empty vl0 [] [a, b]
theorem fine_chk {t : Tb} (h : fineB t = true) : chkT t = 0 := by
 simp only [fineB, Bool.and_eq_true, decide_eq_true_eq] at h
 unfold chkT
 rw [h.1, h.2.2]
 rfl
theorem step_where {t : Tb} {a : Nd} (hc : chkT t = 0) (ha : checkF a t.L = 0) (hw : wideF t.L t.R = true) : stepT t (whS a) = (⟨t.L, t.R.filter fun r => holdsF a t.L r⟩, 0) := by
 unfold stepT
 rw [if_neg (by rw [hc]; simp), if_pos (show (whS a).kind = 1 from rfl)]
 have : selF a t.L t.R = (t.R.filter fun r => holdsF a t.L r, 0) := by
  unfold selF
  rw [if_neg (by rw [ha]; simp), if_neg (by rw [hw]; simp)]
 show tabT t.L (selF a t.L t.R).1 (selF a t.L t.R).2 = _
 rw [this]
 rfl
theorem chk_wide {t : Tb} (h : chkT t = 0) : wideF t.L t.R = true := by
 unfold chkT at h
 split at h
 ·rename_i h1; exact (h1 h).elim
 ·split at h
  ·cases h
  ·rename_i h2; exact (by simpa using h2 : evenF t = true)
theorem chk_cols {t : Tb} (h : chkT t = 0) : (checkC t.L).2 = 0 := by
 unfold chkT at h
 split at h
 ·rename_i h1; exact (h1 h).elim
 ·rename_i h1; simpa using h1
theorem run_one {t : Tb} {a : Stp} {u : Tb} (h1 : stepT t a = (u, 0)) : runA t [a] = (u, 1, 0) := by
 unfold runA
 rw [if_neg (by simp)]
 simp only [runT, h1]
 simp
end Go.LS
