/- Contracts of the functions of the seat,one by one (part Zaq);no condition but those that each bears. -/
import Derived.Test.YtfmbjaeppffdpaaGreatDoorZ3q
import Derived.Test.YtfmbjaeppffdpaaGreatDoorZ7
import Derived.Test.YtfmbjaeppffdpaaGreatDoorZ8
import Derived.Test.YtfmbjaeppffdpaaGreatDoorZ9
import Derived.Test.YtfmbjaeppffdpaaGreatDoorDD
import Derived.Test.YtfmbjaeppffdpaaGreatDoorPP
namespace Go.LS.Tryz
open Go Go.LS
set_option maxRecDepth 100000
set_option linter.unusedSimpArgs false
set_option linter.unusedVariables false
end Go.LS.Tryz
