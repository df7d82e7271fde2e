/- Cases of joins. -/
import Derived.Test.YtfmbjaeppffdpaaDoorPJa
namespace Go.LS
open Go
set_option linter.unusedSimpArgs false
set_option linter.unusedVariables false

theorem any_pair (x y : ByteArray) : ∀ l : List Jo, (l.any fun p => decide (p.l = x) || decide (p.r = y)) = (memB x (l.map fun o => o.l) || memB y (l.map fun o => o.r))
  | [] => rfl
  | p :: l => by
    have ih := any_pair x y l
    rw [Bool.eq_iff_iff] at ih ⊢
    simp only [List.any_cons, List.map_cons, Bool.or_eq_true, decide_eq_true_eq, memB_iff, List.mem_cons] at ih ⊢
    rw [ih]
    constructor
    · rintro ((h | h) | (h | h))
      · exact .inl (.inl h.symm)
      · exact .inr (.inl h.symm)
      · exact .inl (.inr h)
      · exact .inr (.inr h)
    · rintro ((h | h) | (h | h))
      · exact .inl (.inl h.symm)
      · exact .inr (.inl h)
      · exact .inl (.inr h.symm)
      · exact .inr (.inr h)
def clashR (a : List Cl) (on : List Jo) (kind : Int) (b : List Cl) : Bool := b.any fun c => decide (kind ≤ 2) && (!isR on c.name && decide (0 ≤ atF c.name (namesN a) 0))
theorem clashR_cons (a : List Cl) (on : List Jo) (kind : Int) (c : Cl) (b : List Cl) : clashR a on kind (c :: b) = ((decide (kind ≤ 2) && (!isR on c.name && decide (0 ≤ atF c.name (namesN a) 0))) || clashR a on kind b) := rfl
theorem clash_eq (a : List Cl) (on : List Jo) {kind : Int} (hk : 1 ≤ kind) (b : List Cl) : clashR a on kind b = true ↔ (kind = 1 ∨ kind = 2) ∧ clashF a on b = true := by
  have h : ∀ c : Cl, decide (0 ≤ atF c.name (namesN a) 0) = (findF c.name a 0).2.2 := fun c => (find_at c.name a 0).1.symm
  unfold clashR clashF
  simp only [List.any_eq_true, Bool.and_eq_true, decide_eq_true_eq, Bool.not_eq_true', h]
  constructor
  · rintro ⟨c, hc, h1, h2, h3⟩
    exact ⟨by omega, c, hc, h3, h2⟩
  · rintro ⟨h1, c, hc, h2, h3⟩
    exact ⟨c, hc, by omega, h3, h2⟩
structure Jc where
  A : Tb
  B : Tb
  On : List Jo
  Kind : Int
def eJc (z : Jc) : List DV := [.sl 3 (z.A.L.map eC), .sl 1 (z.A.R.map eR), .sl 3 (z.B.L.map eC), .sl 1 (z.B.R.map eR), .sl 2 (z.On.map eJo), .v (.int .i64 z.Kind)]
@[push_cast] theorem eJc_eq (z : Jc) : eJc z = [.sl 3 (z.A.L.map eC), .sl 1 (z.A.R.map eR), .sl 3 (z.B.L.map eC), .sl 1 (z.B.R.map eR), .sl 2 (z.On.map eJo), .v (.int .i64 z.Kind)] := rfl
def shortOn (on : List Jo) : Bool := on.all fun o => decide (o.l.size ≤ 100) && decide (o.r.size ≤ 100)
def fitsJ (z : Jc) : Bool := shortOn z.On && (fewT z.A && (fewT z.B && decide (z.On.length ≤ 12)))
structure okJc (z : Jc) : Prop where
  a : okT0 z.A
  b : okT0 z.B
  o : okLen z.On
  k : inK .i64 z.Kind
def wrongJ (z : Jc) : Int := if (checkJ z.A.L z.B.L z.On z.Kind).2 ≠ 0 then (checkJ z.A.L z.B.L z.On z.Kind).2 else if evenF z.A = false ∨ evenF z.B = false then 10 else 0
def colsC (a b : List Cl) (on : List Jo) (kind : Int) : List Cl × Int := if (checkJ a b on kind).2 ≠ 0 then ([], (checkJ a b on kind).2) else (colsJ a b on kind, 0)
theorem rowsJ_snoc (a b : List Cl) (on : List Jo) (kind : Int) (A B : List (List Vl)) (x : List Vl) : rowsJ a b on kind (A ++ [x]) B = rowsJ a b on kind A B ++ rowJ a b on kind B x := by
  simp [rowsJ]
theorem rowsJ_take {a b : List Cl} {on : List Jo} {kind : Int} {A B : List (List Vl)} {k : Nat} {x : List Vl} (h : A[k]? = some x) : rowsJ a b on kind (A.take (k + 1)) B = rowsJ a b on kind (A.take k) B ++ rowJ a b on kind B x := by
  rw [List.take_add_one, h, Option.toList_some, rowsJ_snoc]
theorem rowJ_len (a b : List Cl) (on : List Jo) (kind : Int) (B : List (List Vl)) (x : List Vl) : (rowJ a b on kind B x).length ≤ B.length + 1 := by
  unfold rowJ
  have h1 := List.length_filter_le (fun y => matchF a b on x y) B
  by_cases h3 : kind = 3
  · subst h3
    simp only [List.length_append]
    rw [if_pos (by decide), if_neg (c := (3 : Int) = 2 ∧ _) (by rintro ⟨h, _⟩; cases h)]
    split <;> simp
  · by_cases h4 : kind = 4
    · subst h4
      simp only [List.length_append]
      rw [if_pos (by decide), if_neg (c := (4 : Int) = 2 ∧ _) (by rintro ⟨h, _⟩; cases h)]
      split <;> simp
    · rw [if_neg (c := (kind = 3 ∧ _) ∨ _) (by rintro (⟨h, _⟩ | ⟨h, _⟩) <;> contradiction)]
      simp only [List.length_append, List.length_nil]
      split <;> split <;> simp only [List.length_nil, List.length_cons, List.length_map] <;> omega
theorem rowsJ_len (a b : List Cl) (on : List Jo) (kind : Int) (B : List (List Vl)) : ∀ A : List (List Vl), (rowsJ a b on kind A B).length ≤ A.length * (B.length + 1)
  | [] => by simp [rowsJ]
  | x :: A => by
    have h1 := rowsJ_len a b on kind B A
    have h2 := rowJ_len a b on kind B x
    have e : rowsJ a b on kind (x :: A) B = rowJ a b on kind B x ++ rowsJ a b on kind A B := rfl
    rw [e, List.length_append, List.length_cons, Nat.add_mul]
    omega
end Go.LS
