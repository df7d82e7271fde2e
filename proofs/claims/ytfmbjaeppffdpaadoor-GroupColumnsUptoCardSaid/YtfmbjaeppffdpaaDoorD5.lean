/- Contracts of the functions of the seat, one by one (part D5); no condition but those that each bears. -/
import Derived.Test.YtfmbjaeppffdpaaDoorD4
import Derived.KernelRfl
namespace Go.LS.Tryd
open Go Go.LS
set_option maxRecDepth 100000
set_option linter.unusedSimpArgs false
set_option linter.unusedVariables false

def sId : ByteArray := { data := #[105, 100] }
def sS : ByteArray := { data := #[115] }
def sX : ByteArray := { data := #[120] }
def sY : ByteArray := { data := #[121] }
def sZ : ByteArray := { data := #[122] }
def sQ : ByteArray := { data := #[113] }
def awRow (n : Int) (s : ByteArray) : List Vl := [⟨2, ByteArray.empty, n, false⟩, ⟨1, s, 0, false⟩]
def awCols : List Cl := [⟨sId, 2, false⟩, ⟨sS, 1, false⟩]
def awA : Tb := ⟨awCols, [awRow 1 sX, awRow 2 sY]⟩
def awB : Tb := ⟨awCols, [awRow 2 sZ, awRow 3 sQ]⟩
end Go.LS.Tryd
