/- Contracts of the functions of the seat, one by one (part D6); no condition but those that each bears. -/
import Derived.Test.YtfmbjaeppffdpaaDoorD5
import Derived.Test.YtfmbjaeppffdpaaDoorPD
namespace Go.LS.Tryd
open Go Go.LS
set_option maxRecDepth 100000
set_option linter.unusedSimpArgs false
set_option linter.unusedVariables false

end Go.LS.Tryd
