/- Part DB: 5 texts, one behind the other. -/
import Derived.Test.YtfmbjaeppffdpaaGreatDoorPD
import Derived.Test.YtfmbjaeppffdpaaGreatDoorDA
import Derived.Test.YtfmbjaeppffdpaaGreatDoorE2
import Derived.Test.YtfmbjaeppffdpaaGreatDoorPJ
namespace Go.LS.Tryz
open Go Go.LS
set_option maxRecDepth 100000
set_option linter.unusedSimpArgs false
set_option linter.unusedVariables false
def eSl (s : Bool × Ch) : List DV := [.v (.bool s.1), .v (.int .i64 s.2.k), .sl 4 (s.2.o.map eV), .sl 4 (s.2.n.map eV)]
@[push_cast] theorem eSl_eq (s : Bool × Ch) : eSl s = [.v (.bool s.1), .v (.int .i64 s.2.k), .sl 4 (s.2.o.map eV), .sl 4 (s.2.n.map eV)] := rfl
def togR (s : Bool × Ch) (c : Ch) : (Bool × Ch) × Bool := match togF s c with
 | some x => (x, true)
 | none => ((false, ⟨0, [], []⟩), false)
def fillJ (n k : Nat) : List (List DV) := (List.range n).map fun i => if i < k then eJ i else eJ 0
open Go Go.LS
set_option maxRecDepth 100000
set_option linter.unusedSimpArgs false
set_option linter.unusedVariables false
open Go Go.LS
set_option maxRecDepth 100000
set_option linter.unusedSimpArgs false
set_option linter.unusedVariables false
end Go.LS.Tryz
namespace Go.LS.Tryz
open Go Go.LS
set_option maxRecDepth 100000
set_option linter.unusedSimpArgs false
set_option linter.unusedVariables false
end Go.LS.Tryz
namespace Go.LS.Tryz
open Go Go.LS
set_option maxRecDepth 100000
set_option linter.unusedSimpArgs false
set_option linter.unusedVariables false
def markJ (r : List Vl) (ps : List Nat) : ByteArray := if nullF ps r = true then { data := #[] } else markF [] r ps
end Go.LS.Tryz
