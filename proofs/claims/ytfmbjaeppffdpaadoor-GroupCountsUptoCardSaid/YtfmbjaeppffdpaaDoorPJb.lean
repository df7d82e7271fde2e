/- Cases of joins. -/
import Derived.Test.YtfmbjaeppffdpaaDoorPJa
namespace Go.LS
open Go
set_option linter.unusedSimpArgs false
set_option linter.unusedVariables false

def clashR (a : List Cl) (on : List Jo) (kind : Int) (b : List Cl) : Bool := b.any fun c => decide (kind ≤ 2) && (!isR on c.name && decide (0 ≤ atF c.name (namesN a) 0))
structure Jc where
  A : Tb
  B : Tb
  On : List Jo
  Kind : Int
def eJc (z : Jc) : List DV := [.sl 3 (z.A.L.map eC), .sl 1 (z.A.R.map eR), .sl 3 (z.B.L.map eC), .sl 1 (z.B.R.map eR), .sl 2 (z.On.map eJo), .v (.int .i64 z.Kind)]
@[push_cast] theorem eJc_eq (z : Jc) : eJc z = [.sl 3 (z.A.L.map eC), .sl 1 (z.A.R.map eR), .sl 3 (z.B.L.map eC), .sl 1 (z.B.R.map eR), .sl 2 (z.On.map eJo), .v (.int .i64 z.Kind)] := rfl
def shortOn (on : List Jo) : Bool := on.all fun o => decide (o.l.size ≤ 100) && decide (o.r.size ≤ 100)
def fitsJ (z : Jc) : Bool := shortOn z.On && (fewT z.A && (fewT z.B && decide (z.On.length ≤ 12)))
structure okJc (z : Jc) : Prop where
  a : okT0 z.A
  b : okT0 z.B
  o : okLen z.On
  k : inK .i64 z.Kind
def wrongJ (z : Jc) : Int := if (checkJ z.A.L z.B.L z.On z.Kind).2 ≠ 0 then (checkJ z.A.L z.B.L z.On z.Kind).2 else if evenF z.A = false ∨ evenF z.B = false then 10 else 0
def colsC (a b : List Cl) (on : List Jo) (kind : Int) : List Cl × Int := if (checkJ a b on kind).2 ≠ 0 then ([], (checkJ a b on kind).2) else (colsJ a b on kind, 0)
end Go.LS
