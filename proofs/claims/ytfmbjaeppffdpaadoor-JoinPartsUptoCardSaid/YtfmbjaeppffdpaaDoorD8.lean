/- Contracts of the functions of the seat, one by one (part D8); no condition but those that each bears. -/
import Derived.Test.YtfmbjaeppffdpaaDoorPD
import Derived.Test.YtfmbjaeppffdpaaDoorD7
import Derived.Test.YtfmbjaeppffdpaaDoorE2
namespace Go.LS.Tryd
open Go Go.LS
set_option maxRecDepth 100000
set_option linter.unusedSimpArgs false
set_option linter.unusedVariables false

def eSl (s : Bool × Ch) : List DV := [.v (.bool s.1), .v (.int .i64 s.2.k), .sl 4 (s.2.o.map eV), .sl 4 (s.2.n.map eV)]
@[push_cast] theorem eSl_eq (s : Bool × Ch) : eSl s = [.v (.bool s.1), .v (.int .i64 s.2.k), .sl 4 (s.2.o.map eV), .sl 4 (s.2.n.map eV)] := rfl
def togR (s : Bool × Ch) (c : Ch) : (Bool × Ch) × Bool := match togF s c with
  | some x => (x, true)
  | none => ((false, ⟨0, [], []⟩), false)
def fillJ (n k : Nat) : List (List DV) := (List.range n).map fun i => if i < k then eJ i else eJ 0
end Go.LS.Tryd
