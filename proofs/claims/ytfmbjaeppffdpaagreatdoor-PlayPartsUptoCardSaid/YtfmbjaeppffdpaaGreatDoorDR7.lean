/- Contracts of the functions of the seat,one by one (part DR7);no condition but those that each bears. -/
import Derived.Test.YtfmbjaeppffdpaaGreatDoorRE
namespace Go.LS.Tryz
open Go Go.LS Go.RowKit
set_option linter.unusedSimpArgs false
set_option linter.unusedVariables false
theorem sumStp_len:∀ l:List Stp,l.length≤sumOf μStp l
 | []=>by simp
 | s::l=>by
  have:=sumStp_len l
  have h:1≤μStp s:=by simp only [μStp,μT];omega
  simp only [sumOf,List.length_cons];omega
theorem okStps_of {l:List Stp} (h:sumOf μStp l≤300000000000) (hi:∀ s∈l,invStp s):okLen l∧∀ s∈l,okStp s :=
 ⟨by have:=sumStp_len l;simp only [okLen];omega,fun s hs=>okStp_of (by have:=sumStp_mem hs;omega) (hi s hs)⟩
end Go.LS.Tryz
