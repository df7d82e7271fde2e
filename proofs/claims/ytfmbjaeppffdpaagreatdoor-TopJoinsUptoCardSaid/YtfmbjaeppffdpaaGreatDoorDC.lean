/- Contracts of the functions of the seat, one by one (part DC); no condition but those that each bears. -/
import Derived.Test.YtfmbjaeppffdpaaGreatDoorDA
import Derived.Test.YtfmbjaeppffdpaaGreatDoorPG
namespace Go.LS.Tryz
open Go Go.LS
set_option maxRecDepth 100000
set_option linter.unusedSimpArgs false
set_option linter.unusedVariables false
/-! ### The document's columns -/
def keysR (L : List Cl) (ks : List ByteArray) : Nat × Int := if (checkC L).2 ≠ 0 then (0, (checkC L).2) else keyF L [] ks 0
