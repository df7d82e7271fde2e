/- Which rows are selected. -/
import Derived.Test.YtfmbjaeppffdpaaPg
namespace Go.LS
open Go
set_option maxRecDepth 100000
set_option linter.unusedSimpArgs false
set_option linter.unusedVariables false
def wideF (l : List Cl) (rows : List (List Vl)) : Bool := rows.all fun r => decide (r.length = l.length)
def selF (n : Nd) (l : List Cl) (rows : List (List Vl)) : List (List Vl) × Int :=
  if checkF n l ≠ 0 then ([], checkF n l) else if wideF l rows = false then ([], 10) else (rows.filter fun r => holdsF n l r, 0)
theorem filterTake {α : Type} {p : α → Bool} {l : List α} {i : Nat} {x : α} (h : l[i]? = some x) : (l.take (i + 1)).filter p = (l.take i).filter p ++ (if p x = true then [x] else []) := by
  rw [List.take_add_one, h, List.filter_append]
  simp only [Option.toList_some, List.filter_cons, List.filter_nil]
/-- Are two lists of rows the same? -/
def sameR (a b : List Vl) : Bool := decide (a.length = b.length) && sameL a b
def sameRs : List (List Vl) → List (List Vl) → Bool
  | [], _ => true
  | a :: l, m => match m with
    | [] => true
    | b :: m => if sameR a b = false then false else sameRs l m
def allF (a b : List (List Vl)) : Bool := decide (a.length = b.length) && sameRs a b
theorem sameR_self (r : List Vl) : sameR r r = true := by simp [sameR, sameL_self]
theorem sameRs_self : ∀ l : List (List Vl), sameRs l l = true
  | [] => rfl
  | a :: l => by simp [sameRs, sameR_self a, sameRs_self l]
theorem allF_self (l : List (List Vl)) : allF l l = true := by simp [allF, sameRs_self]
end Go.LS
