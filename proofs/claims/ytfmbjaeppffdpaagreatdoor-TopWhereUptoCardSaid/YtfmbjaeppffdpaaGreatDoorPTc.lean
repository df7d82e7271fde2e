/- The law TopJoins, in plain words. -/
import Derived.Test.YtfmbjaeppffdpaaGreatDoorPTb
namespace Go.LS
open Go
set_option linter.unusedSimpArgs false
set_option linter.unusedVariables false
def joS (w : Tb) (a b : ByteArray) (how : Int) : Stp := { st0 6 with w := w, on := [⟨a, b⟩], how := how }
def hasJ (pa pb : Nat) (B : List (List Vl)) (x : List Vl) : Bool := B.any fun y => !decide ((vAt x pa).k = 0) && sameV (vAt x pa) (vAt y pb)
def inN (n : ByteArray) (l : List Vl) : Nd := .mk 8 n vl0 l []
end Go.LS
