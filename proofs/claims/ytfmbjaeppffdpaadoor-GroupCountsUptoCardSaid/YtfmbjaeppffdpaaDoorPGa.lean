/- Groups: their columns; names that may stand side by side. -/
import Derived.Test.YtfmbjaeppffdpaaDoorPJc
namespace Go.LS
open Go
set_option linter.unusedSimpArgs false
set_option linter.unusedVariables false

structure Ag where
  op : Int
  col : ByteArray
  nm : ByteArray
def eAg (a : Ag) : List DV := [.v (.int .i64 a.op), .v (.string a.col), .v (.string a.nm)]
@[push_cast] theorem eAg_eq (a : Ag) : eAg a = [.v (.int .i64 a.op), .v (.string a.col), .v (.string a.nm)] := rfl

/-! ### Names -/
/-- The first name that may not be. -/
def hedL : List ByteArray → List ByteArray → Nat → Nat × Int
  | _, [], k => (k, 0)
  | seen, n :: l, k => if validB n = false then (k, 14) else if memB n seen = true then (k, 15) else hedL (seen ++ [n]) l (k + 1)
def hedF (l : List ByteArray) : Nat × Int := if l.length = 0 then (0, 13) else hedL [] l 0
/-- Names with their numbers. -/
def ixM : List ByteArray → Nat → List (ByteArray × DV)
  | [], _ => []
  | n :: l, k => (n, .v (.int .i64 k)) :: ixM l (k + 1)
theorem mget_ixM (s : ByteArray) : ∀ (l : List ByteArray) (k : Nat), mget (ixM l k) s = if memB s l = true then some (.v (.int .i64 (atF s l k))) else none
  | [], _ => rfl
  | n :: l, k => by
    have ih := mget_ixM s l (k + 1)
    simp only [ixM, mget, memB, atF]
    by_cases h : n = s
    · simp [h]
    · simp only [if_neg h, ih]
      rfl
theorem mset_ixM (s : ByteArray) : ∀ (l : List ByteArray) (k : Nat) (j : Int), memB s l = false → j = (k : Int) + (l.length : Int) → mset (ixM l k) s (.v (.int .i64 j)) = ixM (l ++ [s]) k
  | [], k, j, _, h => by subst h; simp [ixM, mset]
  | n :: l, k, j, h, hj => by
    simp only [memB] at h
    split at h
    · cases h
    · rename_i hne
      simp only [ixM, mset, if_neg hne, List.cons_append]
      rw [mset_ixM s l (k + 1) j h (by rw [hj, List.length_cons]; push_cast; omega)]
theorem atI_mem {s : ByteArray} : ∀ {l : List ByteArray} {k : Nat}, memB s l = true → ∃ i, i < l.length ∧ atF s l k = ((k + i : Nat) : Int) ∧ l[i]? = some s
  | [], _, h => by simp [memB] at h
  | n :: l, k, h => by
    simp only [memB] at h
    by_cases e : n = s
    · exact ⟨0, by simp, by simp [atF, e], by simp [e]⟩
    · rw [if_neg e] at h
      obtain ⟨i, h1, h2, h3⟩ := atI_mem (k := k + 1) h
      refine ⟨i + 1, by simpa using h1, ?_, by simpa using h3⟩
      simp only [atF, if_neg e]
      have : ((k : Int) + 1) = ((k + 1 : Nat) : Int) := by omega
      rw [this, h2]
      congr 1
      omega

/-! ### Columns -/
/-- The keys' places: all of them, or the first that may not be. -/
def findG (L : List Cl) (ks : List ByteArray) : List Nat × Nat × Int :=
  if (keyF L [] ks 0).2 ≠ 0 then ([], keyF L [] ks 0) else (placesN L ks, ks.length, 0)
def columnG (L : List Cl) (a : Ag) : Cl × Int :=
  if (a.op < 1 ∨ 6 < a.op) ∨ (a.op = 1 ∧ a.col ≠ ByteArray.empty) then (cl0, 22)
  else if a.op = 1 then (⟨a.nm, 2, false⟩, 0)
  else if (findF a.col L 0).2.2 = false then (cl0, 16)
  else if a.op = 3 ∧ (findF a.col L 0).1.kind ≠ 2 then (cl0, 21)
  else if a.op = 2 then (⟨a.nm, 2, false⟩, 0)
  else (⟨a.nm, (findF a.col L 0).1.kind, true⟩, 0)
/-- What is told, as columns behind those that are there: the first that may not be. -/
def aggsG (L : List Cl) : List Ag → List Cl → Nat → List Cl × Nat × Int
  | [], out, k => (out, k, 0)
  | a :: as, out, k => if (columnG L a).2 ≠ 0 then ([], k, (columnG L a).2) else aggsG L as (out ++ [(columnG L a).1]) (k + 1)
def keyCols (L : List Cl) (ks : List ByteArray) : List Cl := ks.map fun n => (findF n L 0).1
def colsG (L : List Cl) (ks : List ByteArray) (as : List Ag) : List Cl × Nat × Int :=
  if (checkC L).2 ≠ 0 then ([], 0, (checkC L).2)
  else if (keyF L [] ks 0).2 ≠ 0 then ([], keyF L [] ks 0)
  else if (aggsG L as (keyCols L ks) ks.length).2.2 ≠ 0 then ([], (aggsG L as (keyCols L ks) ks.length).2)
  else if (hedF (namesN (aggsG L as (keyCols L ks) ks.length).1)).2 ≠ 0 then ([], hedF (namesN (aggsG L as (keyCols L ks) ks.length).1))
  else ((aggsG L as (keyCols L ks) ks.length).1, (aggsG L as (keyCols L ks) ks.length).1.length, 0)
theorem aggs_ok {L : List Cl} : ∀ {as : List Ag} {out : List Cl} {k : Nat}, (aggsG L as out k).2.2 = 0 → (∀ a ∈ as, (columnG L a).2 = 0) ∧ (aggsG L as out k).1 = out ++ as.map fun a => (columnG L a).1
  | [], out, k, _ => by simp [aggsG]
  | a :: as, out, k, h => by
    simp only [aggsG] at h ⊢
    by_cases h1 : (columnG L a).2 = 0
    · rw [if_neg (by simp [h1])] at h ⊢
      obtain ⟨h2, h3⟩ := aggs_ok h
      refine ⟨fun x hx => ?_, by rw [h3]; simp⟩
      rcases List.mem_cons.1 hx with rfl | hx
      · exact h1
      · exact h2 x hx
    · rw [if_pos h1] at h
      exact absurd h h1
theorem aggs_len (L : List Cl) : ∀ (as : List Ag) (out : List Cl) (k : Nat), (aggsG L as out k).1.length ≤ out.length + as.length ∧ (aggsG L as out k).2.1 ≤ k + as.length
  | [], out, k => by simp [aggsG]
  | a :: as, out, k => by
    have := aggs_len L as (out ++ [(columnG L a).1]) (k + 1)
    simp only [aggsG, List.length_append, List.length_cons, List.length_nil] at this ⊢
    split
    · simp
    · omega
/-- Where the columns are right: what they are, and what that means for the keys and for what is told. -/
theorem colsG_ok {L : List Cl} {ks : List ByteArray} {as : List Ag} (h : (colsG L ks as).2.2 = 0) :
    (checkC L).2 = 0 ∧ (keyF L [] ks 0).2 = 0 ∧ (∀ a ∈ as, (columnG L a).2 = 0) ∧ (colsG L ks as).1 = keyCols L ks ++ as.map (fun a => (columnG L a).1) ∧ (hedF (namesN (colsG L ks as).1)).2 = 0 := by
  unfold colsG at h ⊢
  by_cases h1 : (checkC L).2 = 0
  · rw [if_neg (by simp [h1])] at h ⊢
    by_cases h2 : (keyF L [] ks 0).2 = 0
    · rw [if_neg (by simp [h2])] at h ⊢
      by_cases h3 : (aggsG L as (keyCols L ks) ks.length).2.2 = 0
      · rw [if_neg (by simp [h3])] at h ⊢
        by_cases h4 : (hedF (namesN (aggsG L as (keyCols L ks) ks.length).1)).2 = 0
        · rw [if_neg (by simp [h4])] at h ⊢
          exact ⟨h1, h2, (aggs_ok h3).1, (aggs_ok h3).2, h4⟩
        · rw [if_pos h4] at h; exact absurd h h4
      · rw [if_pos h3] at h; exact absurd h h3
    · rw [if_pos h2] at h; exact absurd h h2
  · rw [if_pos h1] at h; exact absurd h h1
theorem colsG_len (L : List Cl) (ks : List ByteArray) (as : List Ag) : (colsG L ks as).1.length ≤ ks.length + as.length := by
  have h := (aggs_len L as (keyCols L ks) ks.length).1
  rw [show (keyCols L ks).length = ks.length from List.length_map _] at h
  unfold colsG
  (repeat' split) <;> (try simp only [List.length_nil]) <;> omega
theorem colsG_name {L : List Cl} {ks : List ByteArray} {as : List Ag} {B : Nat} (hL : ∀ c ∈ L, c.name.size ≤ B) (hA : ∀ a ∈ as, a.nm.size ≤ B) : ∀ c ∈ (colsG L ks as).1, c.name.size ≤ B := by
  intro c hc
  by_cases h : (colsG L ks as).2.2 = 0
  · obtain ⟨_, h2, h3, h4, _⟩ := colsG_ok h
    rw [h4] at hc
    rcases List.mem_append.1 hc with hc | hc
    · obtain ⟨n, hn, rfl⟩ := List.mem_map.1 hc
      have := (placeN_get (key_found L ks [] 0 h2 n hn)).1
      exact hL _ (List.mem_of_getElem? this)
    · obtain ⟨a, ha, rfl⟩ := List.mem_map.1 hc
      have h5 := h3 a ha
      have h6 := hA a ha
      unfold columnG at h5 ⊢
      split at h5
      · cases h5
      · rename_i q1
        rw [if_neg q1]
        split at h5
        · rename_i q2; rw [if_pos q2]; exact h6
        · rename_i q2
          rw [if_neg q2]
          split at h5
          · cases h5
          · rename_i q3
            rw [if_neg q3]
            split at h5
            · cases h5
            · rename_i q4
              rw [if_neg q4]
              split <;> exact h6
  · exfalso
    unfold colsG at h hc
    (repeat' split at hc) <;> first | (cases hc; done) | skip
    rename_i q1 q2 q3 q4
    rw [if_neg q1, if_neg q2, if_neg q3, if_neg q4] at h
    exact h rfl
end Go.LS
