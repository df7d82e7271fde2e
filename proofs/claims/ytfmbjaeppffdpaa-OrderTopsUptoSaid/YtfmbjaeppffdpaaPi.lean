/- Keys, places, which row is ahead. -/
import Derived.Test.YtfmbjaeppffdpaaPh
namespace Go.LS
open Go
set_option maxRecDepth 100000
set_option linter.unusedSimpArgs false
set_option linter.unusedVariables false
structure Ky where
  col : ByteArray
  down : Bool
def eK (k : Ky) : List DV := [.v (.string k.col), .v (.bool k.down)]
def eRK (k : Ky) : List DV := [.v (.string k.col), .v (.int .i64 (bi k.down))]
@[push_cast] theorem eK_eq (k : Ky) : eK k = [.v (.string k.col), .v (.bool k.down)] := rfl
@[push_cast] theorem eRK_eq (k : Ky) : eRK k = [.v (.string k.col), .v (.int .i64 (bi k.down))] := rfl
structure Pl where
  at_ : Nat
  down : Bool
def eP (p : Pl) : List DV := [.v (.int .i64 p.at_), .v (.bool p.down)]
@[push_cast] theorem eP_eq (p : Pl) : eP p = [.v (.int .i64 p.at_), .v (.bool p.down)] := rfl
structure Cs where
  k : List Ky
  l : List Cl
  r : List (List Vl)
def eCs (z : Cs) : List DV := [.sl 2 (z.k.map eK), .sl 3 (z.l.map eC), .sl 1 (z.r.map eR)]
@[push_cast] theorem eCs_eq (z : Cs) : eCs z = [.sl 2 (z.k.map eK), .sl 3 (z.l.map eC), .sl 1 (z.r.map eR)] := rfl
abbrev okRs (rows : List (List Vl)) : Prop := okLen rows ∧ ∀ r ∈ rows, okLen r ∧ ∀ v ∈ r, okVl v
/-- Short, of right values. -/
def fewZ (z : Cs) : Bool := decide (z.k.length ≤ 12) && (!longC z.l && decide (z.l.length ≤ 12)) && smallF z.r && (z.k.all fun k => decide (k.col.size ≤ 100)) && z.r.all fun r => r.all rightF
/-- The first key that may not be. -/
def ocF (l : List Cl) : List ByteArray → List Ky → Nat → Nat × Int
  | _, [], k => (k, 0)
  | seen, x :: ks, k => if (findF x.col l 0).2.2 = false then (k, 16) else if memB x.col seen = true then (k, 15) else ocF l (seen ++ [x.col]) ks (k + 1)
def ordC (ks : List Ky) (l : List Cl) : Nat × Int := if (checkC l).2 ≠ 0 then (0, (checkC l).2) else ocF l [] ks 0
def placesF (ks : List Ky) (l : List Cl) : List Pl := ks.map fun x => ⟨(findF x.col l 0).2.1, x.down⟩
def ordF : List Pl → List Vl → List Vl → Int
  | [], _, _ => 0
  | p :: ps, a, b => if cmpF (a.getD p.at_ vl0) (b.getD p.at_ vl0) = 0 then ordF ps a b else if p.down = true then -cmpF (a.getD p.at_ vl0) (b.getD p.at_ vl0) else cmpF (a.getD p.at_ vl0) (b.getD p.at_ vl0)
theorem oc_found (l : List Cl) : ∀ (ks : List Ky) (seen : List ByteArray) (k : Nat), (ocF l seen ks k).2 = 0 → ∀ x ∈ ks, (findF x.col l 0).2.2 = true
  | [], _, _, _, x, hx => by cases hx
  | y :: ks, seen, k, h, x, hx => by
    simp only [ocF] at h
    split at h
    · cases h
    · rename_i hf
      split at h
      · cases h
      · rcases List.mem_cons.1 hx with rfl | hx
        · simpa using hf
        · exact oc_found l ks _ _ h x hx
theorem ordC_found {ks : List Ky} {l : List Cl} (h : (ordC ks l).2 = 0) : ∀ x ∈ ks, (findF x.col l 0).2.2 = true := by
  unfold ordC at h
  split at h
  · rename_i h1; exact absurd h h1
  · exact oc_found l ks _ _ h
theorem places_lt {ks : List Ky} {l : List Cl} (h : (ordC ks l).2 = 0) : ∀ p ∈ placesF ks l, p.at_ < l.length := by
  intro p hp
  obtain ⟨x, hx, rfl⟩ := List.mem_map.1 hp
  exact (find_lt (ordC_found h x hx)).1
theorem cmp_bd (a b : Vl) : -1 ≤ cmpF a b ∧ cmpF a b ≤ 1 := by
  rw [cmp_rcmp]; rcases rcmp_three a b with h | h | h <;> rw [h] <;> decide
theorem getD_row {r : List Vl} {i : Nat} (h : i < r.length) : (r.map eV).getD i [] = eV (r.getD i vl0) := by
  rw [List.getD_eq_getElem?_getD, List.getD_eq_getElem?_getD, List.getElem?_map, List.getElem?_eq_getElem h]
  rfl
end Go.LS
