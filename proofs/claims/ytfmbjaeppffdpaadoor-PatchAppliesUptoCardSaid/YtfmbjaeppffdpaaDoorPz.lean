/- Changes made in a table, the document's way. -/
import Derived.Test.YtfmbjaeppffdpaaDoorPy
namespace Go.LS
open Go
set_option linter.unusedSimpArgs false
set_option linter.unusedVariables false

def badR (ps : List Nat) (c : Ch) (r : List Vl) : Option Int :=
  if c.k = 3 then (if alikeF ps r c.n = true then some 15 else none) else if alikeF ps r c.o = true ∧ sameR r c.o = false then some 23 else none
def scanP (ps : List Nat) (c : Ch) : List (List Vl) → Option Int
  | [] => none
  | r :: rs => match badR ps c r with
    | some e => some e
    | none => scanP ps c rs
def stepR (ps : List Nat) (c : Ch) (r : List Vl) : List (List Vl) := if c.k = 3 ∨ alikeF ps r c.o = false then [r] else if c.k = 2 then [c.n] else []
def errR (ps : List Nat) (rows : List (List Vl)) (c : Ch) : Int := match scanP ps c rows with
  | some e => e
  | none => if c.k ≠ 3 ∧ (rows.any fun r => alikeF ps r c.o) = false then 25 else 0
def nextR (ps : List Nat) (rows : List (List Vl)) (c : Ch) : List (List Vl) := rows.flatMap (stepR ps c) ++ if c.k = 3 then [c.n] else []
theorem next_eq (ps : List Nat) (rows : List (List Vl)) (c : Ch) : nextR ps rows c = nextP ps rows c := by
  unfold nextR nextP
  by_cases h3 : c.k = 3
  · rw [if_pos h3, if_pos h3, flat_id]
    intro r _
    simp [stepR, h3]
  · rw [if_neg h3, if_neg h3, List.append_nil]
    congr 1
    funext r
    unfold stepR
    cases h : alikeF ps r c.o
    · simp
    · simp [h3]
theorem scan_none {ps : List Nat} {c : Ch} (h3 : ¬ c.k = 3) : ∀ {rows : List (List Vl)}, (∀ x ∈ rows, alikeF ps x c.o = false) → scanP ps c rows = none
  | [], _ => rfl
  | x :: rows, hn => by
    simp only [scanP, badR, h3, if_false, hn x (by simp)]
    simpa using scan_none h3 (fun y hy => hn y (by simp [hy]))
theorem err_eq {ps : List Nat} {c : Ch} : ∀ {rows : List (List Vl)}, (rows.Pairwise fun x y => alikeF ps x y = false) → errR ps rows c = errP ps rows c := by
  intro rows hp
  unfold errR errP keyC
  by_cases h3 : c.k = 3
  · simp only [h3, if_true, ne_eq, not_true_eq_false, false_and, if_false]
    induction rows with
    | nil => rfl
    | cons r rows ih =>
      have ih := ih (List.pairwise_cons.1 hp).2
      simp only [scanP, badR, h3, if_true, List.find?_cons]
      cases ha : alikeF ps r c.n with
      | true => simp
      | false => simpa using ih
  · simp only [h3, if_false, ne_eq, not_false_eq_true, true_and]
    induction rows with
    | nil => rfl
    | cons r rows ih =>
      obtain ⟨h1, h2⟩ := List.pairwise_cons.1 hp
      have ih := ih h2
      simp only [scanP, badR, h3, if_false, List.find?_cons, List.any_cons]
      rcases Bool.eq_false_or_eq_true (alikeF ps r c.o) with ha | ha
      · have hn : ∀ x ∈ rows, alikeF ps x c.o = false := by
          intro x hx
          cases e : alikeF ps x c.o with
          | false => rfl
          | true =>
            have := alike_trans ha (by rw [alike_symm]; exact e)
            rw [h1 x hx] at this; cases this
        have hsc := scan_none h3 hn
        rcases Bool.eq_false_or_eq_true (sameR r c.o) with hs | hs <;> simp [ha, hs, hsc]
      · simpa [ha] using ih
theorem next_apart {n : Nat} {ps : List Nat} {c : Ch} (hc : RightC n ps c) {rows : List (List Vl)} (hp : rows.Pairwise fun x y => alikeF ps x y = false) (he : errP ps rows c = 0) :
    (nextP ps rows c).Pairwise fun x y => alikeF ps x y = false := by
  unfold nextP
  by_cases h3 : c.k = 3
  · rw [if_pos h3, List.pairwise_append]
    refine ⟨hp, by simp, fun x hx y hy => ?_⟩
    rw [List.mem_singleton.1 hy]
    unfold errP keyC at he
    simp only [h3, if_true] at he
    cases e : alikeF ps x c.n with
    | false => rfl
    | true =>
      split at he
      · cases he
      · rename_i hf
        exact absurd e (List.find?_eq_none.1 hf x hx)
  · rw [if_neg h3]
    have hsub : ∀ (x y : List Vl), alikeF ps x y = false → ∀ a ∈ (if alikeF ps x c.o = true then (if c.k = 2 then [c.n] else []) else [x]), ∀ b ∈ (if alikeF ps y c.o = true then (if c.k = 2 then [c.n] else []) else [y]), alikeF ps a b = false := by
      intro x y hxy a ha b hb
      cases e : alikeF ps a b with
      | false => rfl
      | true =>
        exfalso
        cases hx : alikeF ps x c.o <;> cases hy : alikeF ps y c.o <;> simp only [hx, hy, Bool.false_eq_true, if_false, if_true] at ha hb
        · rw [List.mem_singleton.1 ha, List.mem_singleton.1 hb, hxy] at e; cases e
        · split at hb
          · rename_i h2
            rw [List.mem_singleton.1 ha, List.mem_singleton.1 hb] at e
            have := alike_trans e (by rw [alike_symm]; exact hc.two h2)
            rw [hx] at this; cases this
          · cases hb
        · split at ha
          · rename_i h2
            rw [List.mem_singleton.1 ha, List.mem_singleton.1 hb] at e
            have := alike_trans (hc.two h2) e
            rw [alike_symm, hy] at this; cases this
          · cases ha
        · have := alike_trans hx (by rw [alike_symm]; exact hy)
          rw [hxy] at this; cases this
    have hx1 : ∀ x : List Vl, (if alikeF ps x c.o = true then (if c.k = 2 then [c.n] else []) else [x]).Pairwise fun x y => alikeF ps x y = false := by
      intro x
      split
      · split <;> simp
      · simp
    clear he
    induction rows with
    | nil => simp
    | cons x rows ih =>
      obtain ⟨h1, h2⟩ := List.pairwise_cons.1 hp
      rw [List.flatMap_cons, List.pairwise_append]
      refine ⟨hx1 x, ih h2, fun a ha b hb => ?_⟩
      obtain ⟨y, hy, hb⟩ := List.mem_flatMap.1 hb
      exact hsub x y (h1 y hy) a ha b hb
end Go.LS
