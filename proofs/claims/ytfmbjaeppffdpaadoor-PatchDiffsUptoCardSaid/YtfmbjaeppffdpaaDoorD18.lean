/- Contracts of the functions of the seat, one by one (part D18); no condition but those that each bears. -/
import Derived.Test.YtfmbjaeppffdpaaDoorD17
import Derived.Test.YtfmbjaeppffdpaaDoorPZ
namespace Go.LS.Tryd
open Go Go.LS
set_option maxRecDepth 100000
set_option linter.unusedSimpArgs false
set_option linter.unusedVariables false

theorem allRows (l m : List (List Vl)) (hl : okLen l) (hm : okLen m) (hr : ∀ r ∈ l, okLen r) (hr' : ∀ r ∈ m, okLen r) : Spec V 40 [.c (.d (.sl 1 (l.map eRR))), .c (.d (.sl 1 (m.map eRR)))] (b2 (allF l m)) := f26 l m hl hm hr hr'
theorem rowsRef (l : List (List Vl)) (hl : okLen l) (hr : ∀ r ∈ l, okLen r) : Spec V 41 [.c (.d (.sl 1 (l.map eR)))] (.c (.d (.sl 1 (l.map eRR)))) := f27 l hl hr
end Go.LS.Tryd
