/- Rows counted by their marks; tables of the same rows. -/
import Derived.Test.YtfmbjaeppffdpaaDoorPD
namespace Go.LS
open Go
set_option linter.unusedSimpArgs false
set_option linter.unusedVariables false

instance : DecidableEq Vl := fun a b => decidable_of_iff (sameV a b = true) sameV_iff
def fullM (r : List Vl) : ByteArray := markF [110] r (List.range r.length)
theorem toks_full (nul : List UInt8) (r : List Vl) : toksF nul r (List.range r.length) = r.flatMap (tokF nul) := by
  have h : ∀ k, k ≤ r.length → toksF nul r (List.range k) = (r.take k).flatMap (tokF nul) := by
    intro k
    induction k with
    | zero => intro _; simp [toksF]
    | succ k ih =>
      intro hk
      have hv : r[k]? = some r[k] := List.getElem?_eq_getElem (by omega)
      rw [List.range_succ, toks_append, ih (by omega), List.take_add_one, hv, List.flatMap_append]
      simp [toksF, vAt_get hv]
  rw [h _ (Nat.le_refl _), List.take_length]
theorem flat_inj : ∀ {a b : List Vl}, (∀ v ∈ a, rightF v = true) → (∀ v ∈ b, rightF v = true) → a.flatMap (tokF [110]) = b.flatMap (tokF [110]) → a = b
  | [], [], _, _, _ => rfl
  | [], w :: b, _, hb, h => by
    obtain ⟨r, hr⟩ := tok_head (nul := [110]) (hb w (by simp)) (.inl rfl)
    simp [hr] at h
  | v :: a, [], ha, _, h => by
    obtain ⟨r, hr⟩ := tok_head (nul := [110]) (ha v (by simp)) (.inl rfl)
    simp [hr] at h
  | v :: a, w :: b, ha, hb, h => by
    rw [List.flatMap_cons, List.flatMap_cons] at h
    obtain ⟨rfl, h2⟩ := tok_inj (ha v (by simp)) (hb w (by simp)) (.inl rfl) h
    rw [flat_inj (fun x hx => ha x (by simp [hx])) (fun x hx => hb x (by simp [hx])) h2]
theorem fullM_inj {a b : List Vl} (ha : ∀ v ∈ a, rightF v = true) (hb : ∀ v ∈ b, rightF v = true) : fullM a = fullM b ↔ a = b := by
  constructor
  · intro h
    unfold fullM markF at h
    have h2 : toksF [110] a (List.range a.length) = toksF [110] b (List.range b.length) := by
      have := congrArg (fun x : ByteArray => x.data.toList) h
      simpa using this
    rw [toks_full, toks_full] at h2
    exact flat_inj ha hb h2
  · rintro rfl; rfl
def cntR (l : List (List Vl)) (r : List Vl) : Nat := (l.filter fun x => sameR x r).length
theorem cntR_eq (l : List (List Vl)) (r : List Vl) : cntR l r = l.count r := by
  unfold cntR
  rw [List.count, List.countP_eq_length_filter]
  congr 1
  apply List.filter_congr
  intro x _
  rw [Bool.eq_iff_iff, sameR_iff, beq_iff_eq]
theorem perm_of_count : ∀ {A B : List (List Vl)}, A.length = B.length → (∀ r ∈ A, A.count r = B.count r) → A.Perm B
  | [], B, h, _ => by
    rw [List.eq_nil_of_length_eq_zero (l := B) (by simpa using h.symm)]
  | a :: A, B, h, hc => by
    have ha : a ∈ B := by
      have := hc a (by simp)
      rw [List.count_cons_self] at this
      exact List.count_pos_iff.1 (by omega)
    refine List.Perm.trans ?_ (List.perm_cons_erase ha).symm
    refine List.Perm.cons a (perm_of_count ?_ ?_)
    · rw [List.length_erase_of_mem ha]; simp only [List.length_cons] at h; omega
    · intro r hr
      have h1 := hc r (by simp [hr])
      rw [List.count_cons] at h1
      rw [List.count_erase]
      by_cases e : r = a
      · subst e; simp at h1 ⊢; omega
      · have e1 : (a == r) = false := by simp; exact fun h => e h.symm
        have e2 : (r == a) = false := by simp [e]
        simp [e1, e2] at h1 ⊢
        exact h1
/-- Have two tables the same rows? -/
def sameT (a b : Tb) : Bool := (sameCs a.L b.L && decide (a.R.length = b.R.length)) && a.R.all fun r => decide (cntR a.R r = cntR b.R r)
theorem sameT_iff {a b : Tb} : sameT a b = true ↔ a.L = b.L ∧ a.R.Perm b.R := by
  unfold sameT
  simp only [Bool.and_eq_true, sameCs_iff, decide_eq_true_eq, List.all_eq_true]
  constructor
  · rintro ⟨⟨h1, h2⟩, h3⟩
    exact ⟨h1, perm_of_count h2 fun r hr => by have := h3 r hr; rw [cntR_eq, cntR_eq] at this; exact this⟩
  · rintro ⟨h1, h2⟩
    exact ⟨⟨h1, h2.length_eq⟩, fun r _ => by rw [cntR_eq, cntR_eq]; exact List.perm_iff_count.1 h2 r⟩
end Go.LS
