/- Part PJ: 2 texts, one behind the other. -/
import Derived.Test.YtfmbjaeppffdpaaGreatDoorPD
/- Tables side by side: what comes out. -/
namespace Go.LS
open Go
set_option linter.unusedSimpArgs false
set_option linter.unusedVariables false
structure Jo where
 l : ByteArray
 r : ByteArray
def eJo (o : Jo) : List DV := [.v (.string o.l), .v (.string o.r)]
@[push_cast] theorem eJo_eq (o : Jo) : eJo o = [.v (.string o.l), .v (.string o.r)] := rfl
def idxG {α : Type} (p : α → Bool) : List α → Nat → Int
 | [], _ => -1
 | x :: l, k => if p x = true then (k : Int) else idxG p l (k + 1)
def pairJ (a b : List Cl) : List ByteArray → List ByteArray → List Jo → Nat → Nat × Int
 | _, _, [], k => (k, 0)
 | ls, rs, o :: os, k => if (findF o.l a 0).2.2 = false ∨ (findF o.r b 0).2.2 = false then (k, 16) else if (findF o.l a 0).1.kind ≠ (findF o.r b 0).1.kind then (k, 21)
  else if memB o.l ls = true ∨ memB o.r rs = true then (k, 15) else pairJ a b (ls ++ [o.l]) (rs ++ [o.r]) os (k + 1)
def isR (on : List Jo) (n : ByteArray) : Bool := on.any fun o => decide (o.r = n)
def clashF (a : List Cl) (on : List Jo) (b : List Cl) : Bool := b.any fun c => (findF c.name a 0).2.2 && !isR on c.name
def checkJ (a b : List Cl) (on : List Jo) (kind : Int) : Nat × Int :=
 if (checkC a).2 ≠ 0 then (0, (checkC a).2) else if (checkC b).2 ≠ 0 then (0, (checkC b).2) else if kind < 1 ∨ 4 < kind then (0, 22) else if on.length = 0 then (0, 13)
 else if (pairJ a b [] [] on 0).2 ≠ 0 then pairJ a b [] [] on 0 else if (kind = 1 ∨ kind = 2) ∧ clashF a on b = true then (on.length, 15) else (on.length, 0)
/-! ### Columns -/
def othersN (b : List Cl) (on : List Jo) : List Nat := (List.range b.length).filter fun i => !isR on (b.getD i cl0).name
def colJ (kind : Int) (c : Cl) : Cl := ⟨c.name, c.kind, c.null || decide (kind = 2)⟩
def colsJ (a b : List Cl) (on : List Jo) (kind : Int) : List Cl := a ++ b.flatMap fun c => if 2 < kind ∨ isR on c.name = true then [] else [colJ kind c]
def restF {α : Type} (b : List Cl) (on : List Jo) (f : Nat → α) : List α := (othersN b on).map f
theorem snoc_ind {α : Type} {P : List α → Prop} (h0 : P []) (h1 : ∀ l x, P l → P (l ++ [x])) (l : List α) : P l := by
 have key : ∀ (n : Nat) (l : List α), l.length = n → P l := by
  intro n
  induction n with
  | zero => intro l hl; rw [List.eq_nil_of_length_eq_zero hl]; exact h0
  | succ n ih =>
   intro l hl
   rcases List.eq_nil_or_concat l with rfl | ⟨m, x, rfl⟩
   ·simp at hl
   ·rw [List.concat_eq_append] at hl ⊢
    exact h1 m x (ih m (by simpa using hl))
 exact key _ l rfl
/-! ### Rows -/
def evenF (t : Tb) : Bool := t.R.all fun r => decide (r.length = t.L.length)
def matchF (a b : List Cl) (on : List Jo) (x y : List Vl) : Bool := on.all fun o => !decide ((vAt x (placeN a o.l)).k = 0) && sameV (vAt x (placeN a o.l)) (vAt y (placeN b o.r))
def besideF (ps : List Nat) (x y : List Vl) : List Vl := x ++ ps.map (vAt y)
def rowJ (a b : List Cl) (on : List Jo) (kind : Int) (B : List (List Vl)) (x : List Vl) : List (List Vl) :=
 (if 2 < kind then [] else (B.filter fun y => matchF a b on x y).map (besideF (othersN b on) x)) ++
 ((if (kind = 3 ∧ (B.any fun y => matchF a b on x y) = true) ∨ (kind = 4 ∧ (B.any fun y => matchF a b on x y) = false) then [x] else []) ++
  (if kind = 2 ∧ (B.any fun y => matchF a b on x y) = false then [besideF (othersN b on) x []] else []))
def rowsJ (a b : List Cl) (on : List Jo) (kind : Int) (A B : List (List Vl)) : List (List Vl) := A.flatMap (rowJ a b on kind B)
def joinC (a b : Tb) (on : List Jo) (kind : Int) : Tb × Int :=
 if (checkJ a.L b.L on kind).2 ≠ 0 then (⟨[], []⟩, (checkJ a.L b.L on kind).2) else if evenF a = false ∨ evenF b = false then (⟨[], []⟩, 10) else (⟨colsJ a.L b.L on kind, rowsJ a.L b.L on kind a.R b.R⟩, 0)
def matchIx (ps : List Nat) (m : ByteArray) (B : List (List Vl)) : List Nat := (List.range B.length).filter fun i => !nullF ps (B.getD i []) && decide (markF [] (B.getD i []) ps = m)
theorem matchIx_snoc (ps : List Nat) (m : ByteArray) (B : List (List Vl)) (y : List Vl) : matchIx ps m (B ++ [y]) = matchIx ps m B ++ if nullF ps y = false ∧ markF [] y ps = m then [B.length] else [] := by
 unfold matchIx
 rw [List.length_append, List.length_cons, List.length_nil, List.range_succ, List.filter_append]
 congr 1
 ·refine List.filter_congr fun i hi => ?_
  rw [List.mem_range] at hi
  simp only [List.getD_eq_getElem?_getD, List.getElem?_append_left hi]
 ·simp only [List.getD_eq_getElem?_getD, List.getElem?_concat_length, Option.getD_some, List.filter_cons, List.filter_nil]
  cases nullF ps y <;> simp
def foundIx (left right : List Nat) (B : List (List Vl)) (x : List Vl) : List Nat := if nullF left x = true then [] else matchIx right (markF [] x left) B
def rowC (a b : List Cl) (on : List Jo) (kind : Int) (B : List (List Vl)) (found : List Nat) (x : List Vl) : List (List Vl) :=
 if kind = 3 ∨ kind = 4 then (if decide (0 < found.length) = decide (kind = 3) then [x] else [])
 else found.map (fun i => besideF (othersN b on) x (B.getD i [])) ++ (if kind = 2 ∧ found.length = 0 then [besideF (othersN b on) x []] else [])
/-! ### What holds of them -/
open Go
set_option linter.unusedSimpArgs false
set_option linter.unusedVariables false
def clashR (a : List Cl) (on : List Jo) (kind : Int) (b : List Cl) : Bool := b.any fun c => decide (kind ≤ 2) && (!isR on c.name && decide (0 ≤ atF c.name (namesN a) 0))
structure Jc where
 A : Tb
 B : Tb
 On : List Jo
 Kind : Int
def eJc (z : Jc) : List DV := [.sl 3 (z.A.L.map eC), .sl 1 (z.A.R.map eR), .sl 3 (z.B.L.map eC), .sl 1 (z.B.R.map eR), .sl 2 (z.On.map eJo), .v (.int .i64 z.Kind)]
@[push_cast] theorem eJc_eq (z : Jc) : eJc z = [.sl 3 (z.A.L.map eC), .sl 1 (z.A.R.map eR), .sl 3 (z.B.L.map eC), .sl 1 (z.B.R.map eR), .sl 2 (z.On.map eJo), .v (.int .i64 z.Kind)] := rfl
def shortOn (on : List Jo) : Bool := on.all fun o => decide (o.l.size ≤ 100) && decide (o.r.size ≤ 100)
def fitsJ (z : Jc) : Bool := shortOn z.On && (fewT z.A && (fewT z.B && decide (z.On.length ≤ 12)))
structure okJc (z : Jc) : Prop where
 a : okT0 z.A
 b : okT0 z.B
 o : okLen z.On
 k : inK .i64 z.Kind
def wrongJ (z : Jc) : Int := if (checkJ z.A.L z.B.L z.On z.Kind).2 ≠ 0 then (checkJ z.A.L z.B.L z.On z.Kind).2 else if evenF z.A = false ∨ evenF z.B = false then 10 else 0
def colsC (a b : List Cl) (on : List Jo) (kind : Int) : List Cl × Int := if (checkJ a b on kind).2 ≠ 0 then ([], (checkJ a b on kind).2) else (colsJ a b on kind, 0)
end Go.LS
