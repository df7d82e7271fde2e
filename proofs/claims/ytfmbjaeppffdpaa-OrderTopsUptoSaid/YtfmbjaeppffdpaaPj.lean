/- Rows of right width; the places of keys, or why there are none. -/
import Derived.Test.YtfmbjaeppffdpaaPi
namespace Go.LS
open Go
set_option maxRecDepth 100000
set_option linter.unusedSimpArgs false
set_option linter.unusedVariables false
def eRs (rows : List (List Vl)) : List DV := [.sl 1 (rows.map eR)]
@[push_cast] theorem eRs_eq (rows : List (List Vl)) : eRs rows = [.sl 1 (rows.map eR)] := rfl
def placesR (ks : List Ky) (l : List Cl) (lists : List (List (List Vl))) : List Pl × Int :=
  if (ordC ks l).2 ≠ 0 then ([], (ordC ks l).2) else if (lists.all (wideF l)) = false then ([], 10) else (placesF ks l, 0)
theorem wide_mem {l : List Cl} {rows : List (List Vl)} (h : wideF l rows = true) : ∀ r ∈ rows, r.length = l.length := fun r hr => by
  have := List.all_eq_true.1 h r hr
  simpa using this
theorem takeAll {α : Type} {l : List α} {k : Nat} (h : l.length ≤ k) : l.take k = l := List.take_of_length_le h
end Go.LS
