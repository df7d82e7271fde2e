/- Contracts of the functions of the seat, one by one (part D15); no condition but those that each bears. -/
import Derived.Test.YtfmbjaeppffdpaaDoorD14
namespace Go.LS.Tryd
open Go Go.LS
set_option maxRecDepth 100000
set_option linter.unusedSimpArgs false
set_option linter.unusedVariables false

/-- What holds of a case that came in. -/
structure okPc (z : Pc) : Prop where
  t : okT0 z.T
  k : okLen z.K
  x : okChs z.X
  y : okChs z.Y
theorem fitsP_parts {z : Pc} (h : fitsP z = true) : fewT z.T = true ∧ z.K.length ≤ 12 ∧ shortCs z.X = true ∧ shortCs z.Y = true := by
  simp only [fitsP, fitsD, Bool.and_eq_true, decide_eq_true_eq] at h
  exact ⟨h.1.1.2.1, h.1.1.2.2.2, h.1.2, h.2⟩
end Go.LS.Tryd
