/- Contracts of the functions of the seat,one by one (part Z5);no condition but those that each bears. -/
import Derived.Test.YtfmbjaeppffdpaaGreatDoorPP
import Derived.Test.YtfmbjaeppffdpaaGreatDoorDE
import Derived.Test.YtfmbjaeppffdpaaGreatDoorDA
namespace Go.LS.Tryz
open Go Go.LS
set_option maxRecDepth 100000
set_option linter.unusedSimpArgs false
set_option linter.unusedVariables false
def eI64 (n:Int):List DV:=[.v (.int .i64 n)]
@[push_cast] theorem eI64_eq (n:Int):eI64 n=[.v (.int .i64 n)]:=rfl
def eRRs (g:List (List Vl)):List DV:=[.sl 1 (g.map eRR)]
@[push_cast] theorem eRRs_eq (g:List (List Vl)):eRRs g=[.sl 1 (g.map eRR)]:=rfl
end Go.LS.Tryz
