/- Contracts of the functions of the seat, one by one (part D26); no condition but those that each bears. -/
import Derived.Test.YtfmbjaeppffdpaaDoorD25
import Derived.Test.YtfmbjaeppffdpaaDoorDJ
namespace Go.LS.Tryd
open Go Go.LS
set_option maxRecDepth 100000
set_option linter.unusedSimpArgs false
set_option linter.unusedVariables false

def partJ (a b : List Cl) (on : List Jo) (kind : Int) (B : List (List Vl)) (x : List Vl) : List (List Vl) := if 2 < kind then [] else (B.filter fun y => matchF a b on x y).map (besideF (othersN b on) x)
end Go.LS.Tryd
