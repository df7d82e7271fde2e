/- Rows; comparisons that are one of three. -/
import Derived.Test.YtfmbjaeppffdpaaPe
namespace Go.LS
open Go
set_option maxRecDepth 100000
set_option linter.unusedSimpArgs false
set_option linter.unusedVariables false
def eR (r : List Vl) : List DV := [.sl 4 (r.map eV)]
def eRR (r : List Vl) : List DV := [.sl 4 (r.map eRV)]
@[push_cast] theorem eR_eq (r : List Vl) : eR r = [.sl 4 (r.map eV)] := rfl
@[push_cast] theorem eRR_eq (r : List Vl) : eRR r = [.sl 4 (r.map eRV)] := rfl
def okRow (r : List Vl) : Bool := decide (r.length ≤ 12) && r.all fun v => decide (v.s.size ≤ 40)
def smallF (rows : List (List Vl)) : Bool := rows.all okRow && decide (rows.length ≤ 12)
theorem rcmp_three (a b : Vl) : rcmpF a b = -1 ∨ rcmpF a b = 0 ∨ rcmpF a b = 1 := by
  have l0 : ∀ b, lessF b = -1 ∨ lessF b = 1 := fun b => by cases b <;> decide
  unfold rcmpF
  (repeat' split) <;> first | (rcases l0 _ with h | h <;> rw [h] <;> decide) | (right; left; rfl)
theorem cmp_lt (a b : Vl) : decide (rcmpF a b = -1) = decide (cmpF a b < 0) := by
  rw [cmp_rcmp]; rcases rcmp_three a b with h | h | h <;> rw [h] <;> decide
theorem cmp_gt (a b : Vl) : decide (rcmpF a b = 1) = decide (0 < cmpF a b) := by
  rw [cmp_rcmp]; rcases rcmp_three a b with h | h | h <;> rw [h] <;> decide
theorem cmp_eq (a b : Vl) : decide (rcmpF a b = 0) = decide (cmpF a b = 0) := by
  rw [cmp_rcmp]
end Go.LS
