/- Contracts of the functions of the seat,one by one (part Z6);no condition but those that each bears. -/
import Derived.Test.YtfmbjaeppffdpaaGreatDoorZ5
namespace Go.LS.Tryz
open Go Go.LS
set_option maxRecDepth 100000
set_option linter.unusedSimpArgs false
set_option linter.unusedVariables false
end Go.LS.Tryz
