/- Part PZ: 17 texts, one behind the other. -/
import Derived.Test.YtfmbjaeppffdpaaDoorPD
/- Rows counted by their marks; tables of the same rows. -/
namespace Go.LS
open Go
set_option linter.unusedSimpArgs false
set_option linter.unusedVariables false

instance : DecidableEq Vl := fun a b => decidable_of_iff (sameV a b = true) sameV_iff
def fullM (r : List Vl) : ByteArray := markF [110] r (List.range r.length)
theorem toks_full (nul : List UInt8) (r : List Vl) : toksF nul r (List.range r.length) = r.flatMap (tokF nul) := by
  have h : ∀ k, k ≤ r.length → toksF nul r (List.range k) = (r.take k).flatMap (tokF nul) := by
    intro k
    induction k with
    | zero => intro _; simp [toksF]
    | succ k ih =>
      intro hk
      have hv : r[k]? = some r[k] := List.getElem?_eq_getElem (by omega)
      rw [List.range_succ, toks_append, ih (by omega), List.take_add_one, hv, List.flatMap_append]
      simp [toksF, vAt_get hv]
  rw [h _ (Nat.le_refl _), List.take_length]
theorem flat_inj : ∀ {a b : List Vl}, (∀ v ∈ a, rightF v = true) → (∀ v ∈ b, rightF v = true) → a.flatMap (tokF [110]) = b.flatMap (tokF [110]) → a = b
  | [], [], _, _, _ => rfl
  | [], w :: b, _, hb, h => by
    obtain ⟨r, hr⟩ := tok_head (nul := [110]) (hb w (by simp)) (.inl rfl)
    simp [hr] at h
  | v :: a, [], ha, _, h => by
    obtain ⟨r, hr⟩ := tok_head (nul := [110]) (ha v (by simp)) (.inl rfl)
    simp [hr] at h
  | v :: a, w :: b, ha, hb, h => by
    rw [List.flatMap_cons, List.flatMap_cons] at h
    obtain ⟨rfl, h2⟩ := tok_inj (ha v (by simp)) (hb w (by simp)) (.inl rfl) h
    rw [flat_inj (fun x hx => ha x (by simp [hx])) (fun x hx => hb x (by simp [hx])) h2]
theorem fullM_inj {a b : List Vl} (ha : ∀ v ∈ a, rightF v = true) (hb : ∀ v ∈ b, rightF v = true) : fullM a = fullM b ↔ a = b := by
  constructor
  · intro h
    unfold fullM markF at h
    have h2 : toksF [110] a (List.range a.length) = toksF [110] b (List.range b.length) := by
      have := congrArg (fun x : ByteArray => x.data.toList) h
      simpa using this
    rw [toks_full, toks_full] at h2
    exact flat_inj ha hb h2
  · rintro rfl; rfl
def cntR (l : List (List Vl)) (r : List Vl) : Nat := (l.filter fun x => sameR x r).length
theorem cntR_eq (l : List (List Vl)) (r : List Vl) : cntR l r = l.count r := by
  unfold cntR
  rw [List.count, List.countP_eq_length_filter]
  congr 1
  apply List.filter_congr
  intro x _
  rw [Bool.eq_iff_iff, sameR_iff, beq_iff_eq]
theorem perm_of_count : ∀ {A B : List (List Vl)}, A.length = B.length → (∀ r ∈ A, A.count r = B.count r) → A.Perm B
  | [], B, h, _ => by
    rw [List.eq_nil_of_length_eq_zero (l := B) (by simpa using h.symm)]
  | a :: A, B, h, hc => by
    have ha : a ∈ B := by
      have := hc a (by simp)
      rw [List.count_cons_self] at this
      exact List.count_pos_iff.1 (by omega)
    refine List.Perm.trans ?_ (List.perm_cons_erase ha).symm
    refine List.Perm.cons a (perm_of_count ?_ ?_)
    · rw [List.length_erase_of_mem ha]; simp only [List.length_cons] at h; omega
    · intro r hr
      have h1 := hc r (by simp [hr])
      rw [List.count_cons] at h1
      rw [List.count_erase]
      by_cases e : r = a
      · subst e; simp at h1 ⊢; omega
      · have e1 : (a == r) = false := by simp; exact fun h => e h.symm
        have e2 : (r == a) = false := by simp [e]
        simp [e1, e2] at h1 ⊢
        exact h1
/-- Have two tables the same rows? -/
def sameT (a b : Tb) : Bool := (sameCs a.L b.L && decide (a.R.length = b.R.length)) && a.R.all fun r => decide (cntR a.R r = cntR b.R r)
theorem sameT_iff {a b : Tb} : sameT a b = true ↔ a.L = b.L ∧ a.R.Perm b.R := by
  unfold sameT
  simp only [Bool.and_eq_true, sameCs_iff, decide_eq_true_eq, List.all_eq_true]
  constructor
  · rintro ⟨⟨h1, h2⟩, h3⟩
    exact ⟨h1, perm_of_count h2 fun r hr => by have := h3 r hr; rw [cntR_eq, cntR_eq] at this; exact this⟩
  · rintro ⟨h1, h2⟩
    exact ⟨⟨h1, h2.length_eq⟩, fun r _ => by rw [cntR_eq, cntR_eq]; exact List.perm_iff_count.1 h2 r⟩
end Go.LS
/- Changes made in a table, the document's way. -/
namespace Go.LS
open Go
set_option linter.unusedSimpArgs false
set_option linter.unusedVariables false

def badR (ps : List Nat) (c : Ch) (r : List Vl) : Option Int :=
  if c.k = 3 then (if alikeF ps r c.n = true then some 15 else none) else if alikeF ps r c.o = true ∧ sameR r c.o = false then some 23 else none
def scanP (ps : List Nat) (c : Ch) : List (List Vl) → Option Int
  | [] => none
  | r :: rs => match badR ps c r with
    | some e => some e
    | none => scanP ps c rs
def stepR (ps : List Nat) (c : Ch) (r : List Vl) : List (List Vl) := if c.k = 3 ∨ alikeF ps r c.o = false then [r] else if c.k = 2 then [c.n] else []
def errR (ps : List Nat) (rows : List (List Vl)) (c : Ch) : Int := match scanP ps c rows with
  | some e => e
  | none => if c.k ≠ 3 ∧ (rows.any fun r => alikeF ps r c.o) = false then 25 else 0
def nextR (ps : List Nat) (rows : List (List Vl)) (c : Ch) : List (List Vl) := rows.flatMap (stepR ps c) ++ if c.k = 3 then [c.n] else []
theorem next_apart {n : Nat} {ps : List Nat} {c : Ch} (hc : RightC n ps c) {rows : List (List Vl)} (hp : rows.Pairwise fun x y => alikeF ps x y = false) (he : errP ps rows c = 0) :
    (nextP ps rows c).Pairwise fun x y => alikeF ps x y = false := by
  unfold nextP
  by_cases h3 : c.k = 3
  · rw [if_pos h3, List.pairwise_append]
    refine ⟨hp, by simp, fun x hx y hy => ?_⟩
    rw [List.mem_singleton.1 hy]
    unfold errP keyC at he
    simp only [h3, if_true] at he
    cases e : alikeF ps x c.n with
    | false => rfl
    | true =>
      split at he
      · cases he
      · rename_i hf
        exact absurd e (List.find?_eq_none.1 hf x hx)
  · rw [if_neg h3]
    have hsub : ∀ (x y : List Vl), alikeF ps x y = false → ∀ a ∈ (if alikeF ps x c.o = true then (if c.k = 2 then [c.n] else []) else [x]), ∀ b ∈ (if alikeF ps y c.o = true then (if c.k = 2 then [c.n] else []) else [y]), alikeF ps a b = false := by
      intro x y hxy a ha b hb
      cases e : alikeF ps a b with
      | false => rfl
      | true =>
        exfalso
        cases hx : alikeF ps x c.o <;> cases hy : alikeF ps y c.o <;> simp only [hx, hy, Bool.false_eq_true, if_false, if_true] at ha hb
        · rw [List.mem_singleton.1 ha, List.mem_singleton.1 hb, hxy] at e; cases e
        · split at hb
          · rename_i h2
            rw [List.mem_singleton.1 ha, List.mem_singleton.1 hb] at e
            have := alike_trans e (by rw [alike_symm]; exact hc.two h2)
            rw [hx] at this; cases this
          · cases hb
        · split at ha
          · rename_i h2
            rw [List.mem_singleton.1 ha, List.mem_singleton.1 hb] at e
            have := alike_trans (hc.two h2) e
            rw [alike_symm, hy] at this; cases this
          · cases ha
        · have := alike_trans hx (by rw [alike_symm]; exact hy)
          rw [hxy] at this; cases this
    have hx1 : ∀ x : List Vl, (if alikeF ps x c.o = true then (if c.k = 2 then [c.n] else []) else [x]).Pairwise fun x y => alikeF ps x y = false := by
      intro x
      split
      · split <;> simp
      · simp
    clear he
    induction rows with
    | nil => simp
    | cons x rows ih =>
      obtain ⟨h1, h2⟩ := List.pairwise_cons.1 hp
      rw [List.flatMap_cons, List.pairwise_append]
      refine ⟨hx1 x, ih h2, fun a ha b hb => ?_⟩
      obtain ⟨y, hy, hb⟩ := List.mem_flatMap.1 hb
      exact hsub x y (h1 y hy) a ha b hb
end Go.LS
/- Which rows there are behind changes. -/
namespace Go.LS
open Go
set_option linter.unusedSimpArgs false
set_option linter.unusedVariables false

theorem next_mem {ps : List Nat} {rows : List (List Vl)} {c : Ch} {P : List Vl → Prop} (hr : ∀ r ∈ rows, P r) (hc : P c.n) : ∀ r ∈ nextP ps rows c, P r := by
  intro r h
  unfold nextP at h
  split at h
  · rcases List.mem_append.1 h with h | h
    · exact hr r h
    · rw [List.mem_singleton.1 h]; exact hc
  · obtain ⟨x, hx, h⟩ := List.mem_flatMap.1 h
    split at h
    · split at h
      · rw [List.mem_singleton.1 h]; exact hc
      · cases h
    · rw [List.mem_singleton.1 h]; exact hr x hx
theorem flat_one {α : Type} {f : α → List α} (h : ∀ x, (f x).length ≤ 1) : ∀ l : List α, (l.flatMap f).length ≤ l.length
  | [] => by simp
  | x :: l => by
    have := h x
    have := flat_one h l
    rw [List.flatMap_cons, List.length_append, List.length_cons]; omega
theorem next_len (ps : List Nat) (rows : List (List Vl)) (c : Ch) : (nextP ps rows c).length ≤ rows.length + 1 := by
  unfold nextP
  split
  · simp
  · have := flat_one (f := fun r => if alikeF ps r c.o = true then (if c.k = 2 then [c.n] else []) else [r]) (fun x => by (repeat' split) <;> simp) rows
    omega
theorem run_mem {ps : List Nat} {P : List Vl → Prop} : ∀ {cs : List Ch} {rows : List (List Vl)} {k : Nat}, (∀ r ∈ rows, P r) → (∀ c ∈ cs, P c.n) → ∀ r ∈ (runP ps cs rows k).1, P r
  | [], rows, k, hr, _ => hr
  | c :: cs, rows, k, hr, hc => by
    simp only [runP]
    split
    · intro r h; cases h
    · exact run_mem (next_mem hr (hc c (by simp))) (fun x hx => hc x (by simp [hx]))
theorem run_len {ps : List Nat} : ∀ {cs : List Ch} {rows : List (List Vl)} {k : Nat}, (runP ps cs rows k).1.length ≤ rows.length + cs.length
  | [], rows, k => by simp [runP]
  | c :: cs, rows, k => by
    simp only [runP]
    split
    · simp
    · have := @run_len ps cs (nextP ps rows c) (k + 1)
      have := next_len ps rows c
      simp only [List.length_cons]; omega
theorem apply_mem {t : Tb} {ks : List ByteArray} {cs : List Ch} {P : List Vl → Prop} (hr : ∀ r ∈ t.R, P r) (hc : ∀ c ∈ cs, P c.n) : ∀ r ∈ (applyF t ks cs).1, P r := by
  unfold applyF
  (repeat' split)
  · intro r h; cases h
  · intro r h; cases h
  · exact run_mem hr hc
theorem apply_len {t : Tb} {ks : List ByteArray} {cs : List Ch} : (applyF t ks cs).1.length ≤ t.R.length + cs.length := by
  unfold applyF
  (repeat' split)
  · simp
  · simp
  · exact run_len
end Go.LS
/- Changes made in rows: the rows' order doesn't matter, and what a diff makes. -/
namespace Go.LS
open Go
set_option linter.unusedSimpArgs false
set_option linter.unusedVariables false

def apartR (ps : List Nat) (rows : List (List Vl)) : Prop := rows.Pairwise fun x y => alikeF ps x y = false
theorem find_uniq {ps : List Nat} {k : List Vl} : ∀ {rows : List (List Vl)} {r : List Vl}, apartR ps rows → r ∈ rows → alikeF ps r k = true → rows.find? (fun r => alikeF ps r k) = some r
  | x :: rows, r, hp, hm, hk => by
    obtain ⟨h1, h2⟩ := List.pairwise_cons.1 hp
    rw [List.find?_cons]
    rcases List.mem_cons.1 hm with rfl | hm
    · rw [hk]
    · rcases Bool.eq_false_or_eq_true (alikeF ps x k) with hx | hx
      · have := alike_trans hx (by rw [alike_symm]; exact hk)
        rw [h1 r hm] at this; cases this
      · rw [hx]
        exact find_uniq h2 hm hk
end Go.LS
/- What a diff makes of the first table's rows: the second one's. -/
namespace Go.LS
open Go
set_option linter.unusedSimpArgs false
set_option linter.unusedVariables false

def gB (ps : List Nat) (B : List (List Vl)) (r : List Vl) : List (List Vl) := match B.find? (fun x => alikeF ps r x) with
  | some x => [x]
  | none => []
end Go.LS
/- A diff made in the first table's rows gives the second one's. -/
namespace Go.LS
open Go
set_option linter.unusedSimpArgs false
set_option linter.unusedVariables false

def outD (ps : List Nat) (A B : List (List Vl)) : List (List Vl) := A.flatMap (gB ps B) ++ B.filter fun r => !(A.any fun x => alikeF ps x r)
end Go.LS
/- The rows that a diff makes are the second table's, in some order. -/
namespace Go.LS
open Go
set_option linter.unusedSimpArgs false
set_option linter.unusedVariables false

end Go.LS
/- Changes of different keys may be made in any order. -/
namespace Go.LS
open Go
set_option linter.unusedSimpArgs false
set_option linter.unusedVariables false

theorem not_alike {ps : List Nat} {x y k : List Vl} (hk : alikeF ps y k = false) (hx : alikeF ps x y = true) : alikeF ps x k = false := by
  rcases Bool.eq_false_or_eq_true (alikeF ps x k) with e | e
  · have := alike_trans (by rw [alike_symm]; exact hx) e
    rw [hk] at this; cases this
  · exact e
def fN (ps : List Nat) (c : Ch) (r : List Vl) : List (List Vl) := if alikeF ps r c.o = true then (if c.k = 2 then [c.n] else []) else [r]
theorem find_next {n : Nat} {ps : List Nat} {c : Ch} {k : List Vl} (hc : RightC n ps c) (hk : alikeF ps (keyC c) k = false) (rows : List (List Vl)) :
    (nextP ps rows c).find? (fun r => alikeF ps r k) = rows.find? (fun r => alikeF ps r k) := by
  unfold nextP
  by_cases h3 : c.k = 3
  · rw [keyC, if_pos h3] at hk
    rw [if_pos h3, List.find?_append]
    simp [hk]
  · rw [keyC, if_neg h3] at hk
    rw [if_neg h3]
    induction rows with
    | nil => rfl
    | cons y rows ih =>
      rw [List.flatMap_cons, List.find?_append, ih, List.find?_cons]
      rcases Bool.eq_false_or_eq_true (alikeF ps y c.o) with e | e
      · have h1 := not_alike hk e
        rw [h1, if_pos e]
        by_cases h2 : c.k = 2
        · have h4 : alikeF ps c.n k = false := not_alike hk (by rw [alike_symm]; exact hc.two h2)
          simp [h2, h4]
        · simp [h2]
      · rw [if_neg (by simp [e])]
        rcases Bool.eq_false_or_eq_true (alikeF ps y k) with e2 | e2 <;> simp [e2]
end Go.LS
/- Changes whose keys are apart may be made in any order. -/
namespace Go.LS
open Go
set_option linter.unusedSimpArgs false
set_option linter.unusedVariables false

def keysApart (ps : List Nat) (cs : List Ch) : Prop := cs.Pairwise fun c d => alikeF ps (keyC c) (keyC d) = false
theorem runP_cons0 {ps : List Nat} {c : Ch} {cs : List Ch} {rows : List (List Vl)} {k : Nat} (h : (runP ps (c :: cs) rows k).2.2 = 0) : errP ps rows c = 0 ∧ runP ps (c :: cs) rows k = runP ps cs (nextP ps rows c) (k + 1) := by
  simp only [runP] at h ⊢
  by_cases he : errP ps rows c = 0
  · exact ⟨he, by simp [he]⟩
  · rw [if_pos he] at h; exact absurd h he
theorem runP_cons {ps : List Nat} {c : Ch} {cs : List Ch} {rows : List (List Vl)} {k : Nat} (he : errP ps rows c = 0) : runP ps (c :: cs) rows k = runP ps cs (nextP ps rows c) (k + 1) := by simp [runP, he]
end Go.LS
/- The changes of a diff: right, of keys apart. -/
namespace Go.LS
open Go
set_option linter.unusedSimpArgs false
set_option linter.unusedVariables false

end Go.LS
/- A diff's changes, turned, make the first table again. -/
namespace Go.LS
open Go
set_option linter.unusedSimpArgs false
set_option linter.unusedVariables false

theorem ones_all {n : Nat} {ps : List Nat} : ∀ {cs : List Ch} {k : Nat}, (∀ c ∈ cs, oneP n ps c = 0) → onesP n ps cs k = (k + cs.length, 0)
  | [], _, _ => by simp [onesP]
  | c :: cs, k, h => by
    simp only [onesP, h c (by simp), ne_eq, not_true_eq_false, if_false]
    rw [ones_all (fun x hx => h x (by simp [hx])), List.length_cons]
    congr 1; omega
theorem keys_perm {ps : List Nat} {a b : List Ch} (h : a.Perm b) (ha : keysApart ps a) : keysApart ps b :=
  (h.pairwise_iff (fun {x y} hxy => by rw [alike_symm]; exact hxy)).1 ha
theorem rowsF_all (n : Nat) (ps : List Nat) : ∀ (rs seen : List (List Vl)) (k : Nat), (∀ r ∈ rs, r.length = n ∧ nullF ps r = false) → apartR ps (seen ++ rs) → rowsF n ps seen rs k = (k + rs.length, 0)
  | [], _, _, _, _ => by simp [rowsF]
  | r :: rs, seen, k, hr, hp => by
    obtain ⟨h1, h2⟩ := hr r (by simp)
    have hs : (seen.any fun x => alikeF ps x r) = false := by
      rw [List.any_eq_false]
      intro x hx
      have := (List.pairwise_append.1 hp).2.2 x hx r (by simp)
      simp [this]
    have ih := rowsF_all n ps rs (seen ++ [r]) (k + 1) (fun x hx => hr x (by simp [hx])) (by rw [List.append_assoc]; exact hp)
    simp only [rowsF, h1, h2, hs, ne_eq, not_true_eq_false, if_false, Bool.false_eq_true, ih, List.length_cons]
    congr 1; omega
end Go.LS
/- Tables, their diff made and turned back. -/
namespace Go.LS
open Go
set_option linter.unusedSimpArgs false
set_option linter.unusedVariables false

theorem tab_of {L : List Cl} {A R : List (List Vl)} {ks : List ByteArray} (h : (tabF ⟨L, A⟩ ks).2 = 0) (hr : ∀ r ∈ R, r.length = L.length ∧ nullF (placesN L ks) r = false) (hp : apartR (placesN L ks) R) : (tabF ⟨L, R⟩ ks).2 = 0 := by
  obtain ⟨h1, h2, h3, _⟩ := tab_parts h
  simp only at h1 h3
  unfold tabF
  rw [if_neg (by simp [h1]), if_neg (by simpa using h2), if_neg (by simp [h3])]
  simp only
  rw [rowsF_all _ _ _ _ _ hr (by simpa using hp)]
theorem check_of {L : List Cl} {A : List (List Vl)} {ks : List ByteArray} {cs : List Ch} (h : (tabF ⟨L, A⟩ ks).2 = 0) (hc : ∀ c ∈ cs, oneP L.length (placesN L ks) c = 0) : checkP L ks cs = (cs.length, 0) := by
  unfold checkP
  rw [if_neg (by simp [tab_of (R := []) h (by simp) (by simp [apartR])]), ones_all hc]
  simp
end Go.LS
/- Changes put together, the document's way, and the code's. -/
namespace Go.LS
open Go
set_option linter.unusedSimpArgs false
set_option linter.unusedVariables false

abbrev ch0 : Ch := ⟨0, [], []⟩
/-- All of a key, put together. -/
def foldD (ps : List Nat) (r : List Vl) : List Ch → Ch → Option Ch
  | [], m => some m
  | c :: cs, m => if alikeF ps (keyC c) r = false then foldD ps r cs m else if m.k = 0 then foldD ps r cs c else if (twoF m c).2 ≠ 0 then none else foldD ps r cs (twoF m c).1
/-- Is a change the first of its key? -/
def firstD (ps : List Nat) (pre : List Ch) (c : Ch) : Bool := pre.all fun b => !alikeF ps (keyC b) (keyC c)
def emitD (p : Bool) (m : Ch) : List Ch := if m.k ≠ 0 ∧ decide (m.k = 3) = p then [m] else []
def stepD (ps : List Nat) (all : List Ch) (p : Bool) (i : Nat) (c : Ch) : Option (List Ch) :=
  if firstD ps (all.take i) c = false then some [] else (foldD ps (keyC c) (all.drop (i + 1)) c).map (emitD p)
def passD (ps : List Nat) (all : List Ch) (p : Bool) : List Ch → Nat → List Ch → Option (List Ch)
  | [], _, out => some out
  | c :: cs, i, out => match stepD ps all p i c with
    | none => none
    | some l => passD ps all p cs (i + 1) (out ++ l)
def compD (ps : List Nat) (all : List Ch) : Option (List Ch) := match passD ps all false all 0 [] with
  | none => none
  | some out => passD ps all true all 0 out
/-- The first change that can't be put to those ahead of it. -/
def earlD (ps : List Nat) (all : List Ch) : List Ch → Nat → Nat
  | [], _ => 0
  | c :: cs, n => if 1 ≤ n ∧ foldD ps (keyC c) (all.take (n + 1)) ch0 = none then n else earlD ps all cs (n + 1)
def allD' (ps : List Nat) (all : List Ch) : List Ch × Nat × Int := match compD ps all with
  | some out => (out, out.length, 0)
  | none => ([], earlD ps all all 0, 23)

theorem foldD_append (ps : List Nat) (r : List Vl) : ∀ (a b : List Ch) (m : Ch), foldD ps r (a ++ b) m = (foldD ps r a m).bind (foldD ps r b)
  | [], b, m => rfl
  | c :: a, b, m => by
    simp only [List.cons_append, foldD]
    split
    · exact foldD_append ps r a b m
    · split
      · exact foldD_append ps r a b c
      · split
        · rfl
        · exact foldD_append ps r a b _
theorem foldD_skip {ps : List Nat} {r : List Vl} : ∀ {a : List Ch} {m : Ch}, (∀ c ∈ a, alikeF ps (keyC c) r = false) → foldD ps r a m = some m
  | [], m, _ => rfl
  | c :: a, m, h => by
    simp only [foldD, h c (by simp), if_true]
    exact foldD_skip fun x hx => h x (by simp [hx])
theorem foldD_congr {ps : List Nat} {r s : List Vl} (h : alikeF ps r s = true) : ∀ (a : List Ch) (m : Ch), foldD ps r a m = foldD ps s a m
  | [], m => rfl
  | c :: a, m => by
    have e : alikeF ps (keyC c) r = alikeF ps (keyC c) s := by
      rw [Bool.eq_iff_iff]
      exact ⟨fun x => alike_trans x h, fun x => alike_trans x (by rw [alike_symm]; exact h)⟩
    simp only [foldD, e, foldD_congr h a]
def stD (ps : List Nat) (r : List Vl) (pre : List Ch) : Option Ch := foldD ps r pre ch0
theorem first_iff {ps : List Nat} {pre : List Ch} {c : Ch} : firstD ps pre c = true ↔ ∀ b ∈ pre, alikeF ps (keyC b) (keyC c) = false := by
  simp [firstD]
/-- From a key's first change on. -/
theorem fold_first {ps : List Nat} {pre post : List Ch} {c : Ch} (h : firstD ps pre c = true) : stD ps (keyC c) (pre ++ c :: post) = foldD ps (keyC c) post c := by
  unfold stD
  rw [foldD_append, foldD_skip (first_iff.1 h)]
  simp [foldD, alike_self]
/-- The firsts of all keys. -/
def firsts (ps : List Nat) : List Ch → List Ch → List Ch
  | _, [] => []
  | pre, c :: cs => (if firstD ps pre c = true then [c] else []) ++ firsts ps (pre ++ [c]) cs
theorem firsts_snoc (ps : List Nat) (c : Ch) : ∀ (cs pre : List Ch), firsts ps pre (cs ++ [c]) = firsts ps pre cs ++ if firstD ps (pre ++ cs) c = true then [c] else []
  | [], pre => by simp [firsts]
  | d :: cs, pre => by
    simp only [List.cons_append, firsts]
    rw [firsts_snoc ps c cs (pre ++ [d]), List.append_assoc, List.append_assoc]
    rfl
theorem firsts_mem {ps : List Nat} : ∀ {cs pre : List Ch} {c : Ch}, c ∈ firsts ps pre cs → c ∈ cs
  | [], _, _, h => by simp [firsts] at h
  | d :: cs, pre, c, h => by
    simp only [firsts] at h
    rcases List.mem_append.1 h with h | h
    · split at h
      · rw [List.mem_singleton.1 h]; simp
      · cases h
    · exact List.mem_cons_of_mem _ (firsts_mem h)
/-- Every change has a first one of its key. -/
theorem firsts_all {ps : List Nat} : ∀ {cs pre : List Ch} {c : Ch}, c ∈ cs → (∃ b ∈ pre, alikeF ps (keyC b) (keyC c) = true) ∨ ∃ b ∈ firsts ps pre cs, alikeF ps (keyC b) (keyC c) = true
  | d :: cs, pre, c, h => by
    simp only [firsts]
    rcases List.mem_cons.1 h with rfl | h
    · by_cases hf : firstD ps pre c = true
      · exact .inr ⟨c, by simp [hf], alike_self ps _⟩
      · left
        rw [first_iff] at hf
        simp only [Classical.not_forall, Bool.not_eq_false] at hf
        obtain ⟨b, hb, e⟩ := hf
        exact ⟨b, hb, e⟩
    · rcases firsts_all (pre := pre ++ [d]) h with ⟨b, hb, e⟩ | ⟨b, hb, e⟩
      · rcases List.mem_append.1 hb with hb | hb
        · exact .inl ⟨b, hb, e⟩
        · rw [List.mem_singleton.1 hb] at e
          by_cases hf : firstD ps pre d = true
          · exact .inr ⟨d, by simp [hf], e⟩
          · left
            rw [first_iff] at hf
            simp only [Classical.not_forall, Bool.not_eq_false] at hf
            obtain ⟨b', hb', e'⟩ := hf
            exact ⟨b', hb', alike_trans e' e⟩
      · exact .inr ⟨b, List.mem_append_right _ hb, e⟩
theorem firsts_apart {ps : List Nat} : ∀ (cs pre : List Ch), (firsts ps pre cs).Pairwise (fun c d => alikeF ps (keyC c) (keyC d) = false) ∧ ∀ d ∈ firsts ps pre cs, ∀ b ∈ pre, alikeF ps (keyC b) (keyC d) = false
  | [], pre => by simp [firsts]
  | c :: cs, pre => by
    obtain ⟨h1, h2⟩ := firsts_apart (ps := ps) cs (pre ++ [c])
    simp only [firsts]
    constructor
    · rw [List.pairwise_append]
      refine ⟨by split <;> simp, h1, fun x hx y hy => ?_⟩
      split at hx
      · rw [List.mem_singleton.1 hx]
        exact h2 y hy c (by simp)
      · cases hx
    · intro d hd b hb
      rcases List.mem_append.1 hd with hd | hd
      · split at hd
        · rename_i hf
          rw [List.mem_singleton.1 hd]
          exact first_iff.1 hf b hb
        · cases hd
      · exact h2 d hd b (by simp [hb])

/-! ### The two passes, by keys -/
theorem step_eq {ps : List Nat} {all : List Ch} {p : Bool} {i : Nat} {c : Ch} (h : all[i]? = some c) : stepD ps all p i c = if firstD ps (all.take i) c = true then (stD ps (keyC c) all).map (emitD p) else some [] := by
  unfold stepD
  have hlt := (List.getElem?_eq_some_iff.1 h).1
  have he : all[i] = c := (List.getElem?_eq_some_iff.1 h).2
  have e : all = all.take i ++ c :: all.drop (i + 1) := by
    rw [← he, List.getElem_cons_drop, List.take_append_drop]
  cases hf : firstD ps (all.take i) c with
  | false => simp
  | true =>
    have := fold_first (post := all.drop (i + 1)) hf
    rw [← e] at this
    simp [this]
theorem pass_eq {ps : List Nat} {all : List Ch} {p : Bool} : ∀ {cs pre out : List Ch}, all = pre ++ cs → (∀ c ∈ all, stD ps (keyC c) all ≠ none) →
    passD ps all p cs pre.length out = some (out ++ (firsts ps pre cs).flatMap fun c => emitD p ((stD ps (keyC c) all).getD ch0))
  | [], pre, out, _, _ => by simp [passD, firsts]
  | c :: cs, pre, out, h, hn => by
    have hi : all[pre.length]? = some c := by rw [h]; simp
    have ht : all.take pre.length = pre := by rw [h]; simp
    have hc : c ∈ all := List.mem_of_getElem? hi
    have ih := fun out => pass_eq (ps := ps) (all := all) (p := p) (cs := cs) (pre := pre ++ [c]) (out := out) (by rw [h]; simp) hn
    simp only [List.length_append, List.length_cons, List.length_nil] at ih
    cases hs : stD ps (keyC c) all with
    | none => exact absurd hs (hn c hc)
    | some m =>
      simp only [passD, step_eq hi, ht, firsts, hs, Option.map_some]
      by_cases hf : firstD ps pre c = true
      · simp only [hf, if_true, ih, List.flatMap_append, List.flatMap_cons, List.flatMap_nil, List.append_nil, hs, Option.getD_some, List.append_assoc]
      · simp only [hf, if_false, ih, List.flatMap_append, List.flatMap_nil, List.nil_append, List.append_nil, Bool.false_eq_true]
theorem pass_none {ps : List Nat} {all : List Ch} {p : Bool} : ∀ {cs pre out : List Ch}, all = pre ++ cs → (∃ c ∈ firsts ps pre cs, stD ps (keyC c) all = none) → passD ps all p cs pre.length out = none
  | [], pre, out, _, h => by simp [firsts] at h
  | c :: cs, pre, out, h, hn => by
    have hi : all[pre.length]? = some c := by rw [h]; simp
    have ht : all.take pre.length = pre := by rw [h]; simp
    have ih := fun out => pass_none (ps := ps) (all := all) (p := p) (cs := cs) (pre := pre ++ [c]) (out := out) (by rw [h]; simp)
    simp only [List.length_append, List.length_cons, List.length_nil] at ih
    simp only [passD, step_eq hi, ht]
    simp only [firsts] at hn
    obtain ⟨d, hd, e⟩ := hn
    by_cases hf : firstD ps pre c = true
    · simp only [hf, if_true] at hd ⊢
      cases hs : stD ps (keyC c) all with
      | none => simp
      | some m =>
        simp only [Option.map_some]
        refine ih _ ⟨d, ?_, e⟩
        rcases List.mem_append.1 hd with hd | hd
        · rw [List.mem_singleton.1 hd, hs] at e; cases e
        · exact hd
    · simp only [hf, if_false, Bool.false_eq_true, List.nil_append] at hd ⊢
      exact ih _ ⟨d, hd, e⟩
def outD' (ps : List Nat) (all : List Ch) : List Ch := ((firsts ps [] all).flatMap fun c => emitD false ((stD ps (keyC c) all).getD ch0)) ++ (firsts ps [] all).flatMap fun c => emitD true ((stD ps (keyC c) all).getD ch0)
theorem comp_some {ps : List Nat} {all : List Ch} (h : ∀ c ∈ all, stD ps (keyC c) all ≠ none) : compD ps all = some (outD' ps all) := by
  unfold compD outD'
  have h1 := pass_eq (p := false) (cs := all) (pre := []) (out := []) rfl h
  rw [List.length_nil, List.nil_append] at h1
  rw [h1]
  have h2 := pass_eq (p := true) (cs := all) (pre := []) (out := (firsts ps [] all).flatMap fun c => emitD false ((stD ps (keyC c) all).getD ch0)) rfl h
  rw [List.length_nil] at h2
  exact h2
theorem comp_none {ps : List Nat} {all : List Ch} {c : Ch} (hc : c ∈ all) (h : stD ps (keyC c) all = none) : compD ps all = none := by
  unfold compD
  have hf : ∃ d ∈ firsts ps [] all, stD ps (keyC d) all = none := by
    rcases firsts_all (ps := ps) (pre := []) hc with ⟨b, hb, _⟩ | ⟨b, hb, e⟩
    · cases hb
    · exact ⟨b, hb, by unfold stD; rw [foldD_congr e]; exact h⟩
  have h1 := pass_none (p := false) (cs := all) (pre := []) (out := []) rfl hf
  simp only [List.length_nil, List.nil_append] at h1
  rw [h1]

/-! ### Two changes -/
theorem tog_two {n : Nat} {ps : List Nat} {x c : Ch} (h1 : x.k = 1 → x.n = []) (hk : x.k = 1 ∨ x.k = 2 ∨ x.k = 3) (hc : RightC n ps c) :
    togF (true, x) c = if (twoF x c).2 ≠ 0 then none else some (decide ((twoF x c).1.k ≠ 0), (twoF x c).1) := by
  obtain ⟨xk, xo, xn⟩ := x
  have hck := hc.k
  have h3 := hc.o3
  obtain ⟨ck, co, cn⟩ := c
  simp only at h1 hk hck h3
  have hs : sameR ([] : List Vl) [] = true := sameR_iff.2 rfl
  rcases hk with rfl | rfl | rfl <;> rcases hck with rfl | rfl | rfl
  · simp [togF, twoF]
  · simp [togF, twoF]
  · obtain rfl := h1 rfl
    obtain rfl := h3 rfl
    cases h5 : sameR xo cn <;> simp [togF, twoF, hs, h5]
  · cases h4 : sameR xn co <;> simp [togF, twoF, h4]
  · cases h4 : sameR xn co <;> cases h5 : sameR xo cn <;> simp [togF, twoF, h4, h5]
  · simp [togF, twoF]
  · cases h4 : sameR xn co <;> simp [togF, twoF, h4]
  · cases h4 : sameR xn co <;> simp [togF, twoF, h4]
  · simp [togF, twoF]
end Go.LS
/- The code's slots hold what the document's folds come to. -/
namespace Go.LS
open Go
set_option linter.unusedSimpArgs false
set_option linter.unusedVariables false

def okM (m : Ch) : Prop := m = ch0 ∨ ((m.k = 1 ∨ m.k = 2 ∨ m.k = 3) ∧ (m.k = 1 → m.n = []))
theorem okM_right {n : Nat} {ps : List Nat} {c : Ch} (h : RightC n ps c) : okM c := .inr ⟨h.k, h.n1⟩
theorem two_okM (x y : Ch) : okM (twoF x y).1 := by
  unfold twoF
  (repeat' split) <;> first | exact .inl rfl | (right; simp)
theorem foldD_okM {n : Nat} {ps : List Nat} {r : List Vl} : ∀ {cs : List Ch} {m m' : Ch}, okM m → (∀ c ∈ cs, RightC n ps c) → foldD ps r cs m = some m' → okM m'
  | [], m, m', h, _, e => by simp only [foldD, Option.some.injEq] at e; exact e ▸ h
  | c :: cs, m, m', h, hc, e => by
    simp only [foldD] at e
    have hc' : ∀ x ∈ cs, RightC n ps x := fun x hx => hc x (by simp [hx])
    split at e
    · exact foldD_okM h hc' e
    · split at e
      · exact foldD_okM (okM_right (hc c (by simp))) hc' e
      · split at e
        · cases e
        · exact foldD_okM (two_okM m c) hc' e
theorem stD_okM {n : Nat} {ps : List Nat} {r : List Vl} {pre : List Ch} {m : Ch} (hc : ∀ c ∈ pre, RightC n ps c) (h : stD ps r pre = some m) : okM m := foldD_okM (.inl rfl) hc h
def slOf (m : Ch) : Bool × Ch := (decide (m.k ≠ 0), m)
theorem fold_tog {n : Nat} {ps : List Nat} {r : List Vl} {m c : Ch} (hm : okM m) (hc : RightC n ps c) (ha : alikeF ps (keyC c) r = true) : (foldD ps r [c] m).map slOf = togF (slOf m) c := by
  have hk := hc.k
  have e1 : slOf c = (true, c) := by
    have : c.k ≠ 0 := by omega
    simp [slOf, this]
  rcases hm with rfl | ⟨h1, h2⟩
  · simp [foldD, ha, slOf, togF]; omega
  · have h0 : m.k ≠ 0 := by omega
    have e2 : slOf m = (true, m) := by simp [slOf, h0]
    rw [e2, tog_two h2 h1 hc]
    simp only [foldD, ha, Bool.true_eq_false, if_false, if_neg h0]
    split <;> simp [slOf]
theorem st_snoc (ps : List Nat) (r : List Vl) (pre : List Ch) (c : Ch) : stD ps r (pre ++ [c]) = (stD ps r pre).bind (foldD ps r [c]) := foldD_append ps r pre [c] ch0
theorem st_congr {ps : List Nat} {r s : List Vl} (h : alikeF ps r s = true) (pre : List Ch) : stD ps r pre = stD ps s pre := foldD_congr h pre ch0
theorem st_other {ps : List Nat} {r : List Vl} {pre : List Ch} {c : Ch} (h : alikeF ps (keyC c) r = false) : stD ps r (pre ++ [c]) = stD ps r pre := by
  rw [st_snoc]
  cases stD ps r pre with
  | none => rfl
  | some m => simp [foldD, h]
theorem st_new {ps : List Nat} {r : List Vl} {pre : List Ch} (h : ∀ b ∈ pre, alikeF ps (keyC b) r = false) : stD ps r pre = some ch0 := foldD_skip h
theorem st_none_append {ps : List Nat} {r : List Vl} {pre post : List Ch} (h : stD ps r pre = none) : stD ps r (pre ++ post) = none := by
  unfold stD at *
  rw [foldD_append, h]; rfl

/-- The slots, by the changes so far. -/
def slotsOf (ps : List Nat) (pre : List Ch) : List Sl := (firsts ps [] pre).map fun c => (keyC c, slOf ((stD ps (keyC c) pre).getD ch0))
def fineD (ps : List Nat) (pre : List Ch) : Prop := ∀ c ∈ pre, stD ps (keyC c) pre ≠ none
theorem map_set_at {α β : Type} {f g : α → β} : ∀ {l : List α} {i : Nat} {x : α} {y : β}, l[i]? = some x → g x = y → (∀ j z, l[j]? = some z → j ≠ i → g z = f z) → l.map g = (l.map f).set i y
  | [], i, x, y, h, _, _ => by simp at h
  | a :: l, 0, x, y, h, hy, ho => by
    simp only [List.getElem?_cons_zero, Option.some.injEq] at h
    subst h
    simp only [List.map_cons, List.set_cons_zero, hy, List.cons.injEq, true_and]
    apply List.ext_getElem?
    intro j
    rw [List.getElem?_map, List.getElem?_map]
    cases hj : l[j]? with
    | none => rfl
    | some z => simp [ho (j + 1) z (by simpa using hj) (by omega)]
  | a :: l, i + 1, x, y, h, hy, ho => by
    simp only [List.map_cons, List.set_cons_succ, ho 0 a rfl (by omega), List.cons.injEq, true_and]
    exact map_set_at (by simpa using h) hy (fun j z hj hne => ho (j + 1) z (by simpa using hj) (by omega))
/-- One change more. -/
theorem slot_step {n : Nat} {ps : List Nat} {pre : List Ch} {c : Ch} (hp : ∀ x ∈ pre, RightC n ps x) (hc : RightC n ps c) (hf : fineD ps pre) :
    (slotF ps (slotsOf ps pre) c = none ∧ stD ps (keyC c) (pre ++ [c]) = none ∧ pre ≠ []) ∨ (slotF ps (slotsOf ps pre) c = some (slotsOf ps (pre ++ [c])) ∧ fineD ps (pre ++ [c])) := by
  unfold slotF
  cases hs : slotI ps (keyC c) (slotsOf ps pre) with
  | none =>
    right
    have hno := slotI_none hs
    have hall : ∀ b ∈ pre, alikeF ps (keyC b) (keyC c) = false := by
      intro b hb
      rcases firsts_all (ps := ps) (pre := []) hb with ⟨d, hd, _⟩ | ⟨d, hd, e⟩
      · cases hd
      · rcases Bool.eq_false_or_eq_true (alikeF ps (keyC b) (keyC c)) with e2 | e2
        · have := hno _ (List.mem_map_of_mem (f := fun c => (keyC c, slOf ((stD ps (keyC c) pre).getD ch0))) hd)
          rw [alike_trans e e2] at this; cases this
        · exact e2
    have hfirst : firstD ps ([] ++ pre) c = true := first_iff.2 (by simpa using hall)
    have hsc : stD ps (keyC c) (pre ++ [c]) = some c := by
      rw [st_snoc, st_new hall]
      simp [foldD, alike_self]
    have hk := hc.k
    have hck : c.k ≠ 0 := by omega
    constructor
    · simp only [slotsOf, firsts_snoc, hfirst, if_true, List.map_append, List.map_cons, List.map_nil, hsc, Option.getD_some]
      congr 2
      · apply List.map_congr_left
        intro d hd
        have hdm := firsts_mem hd
        rw [st_other (by rw [alike_symm]; exact hall d hdm)]
      · simp [slOf, hck]
    · intro d hd
      rcases List.mem_append.1 hd with hd | hd
      · rw [st_other (by rw [alike_symm]; exact hall d hd)]; exact hf d hd
      · rw [List.mem_singleton.1 hd, hsc]; simp
  | some i =>
    obtain ⟨s, h1, h2⟩ := slotI_some hs
    simp only [slotsOf, List.getElem?_map, Option.map_eq_some_iff] at h1
    obtain ⟨d, hd, rfl⟩ := h1
    simp only at h2
    have hdm := firsts_mem (List.mem_of_getElem? hd)
    cases hst : stD ps (keyC d) pre with
    | none => exact absurd hst (hf d hdm)
    | some m =>
    have hok := stD_okM hp hst
    have hgd : (slotsOf ps pre).getD i sl0 = (keyC d, slOf m) := by simp [slotsOf, List.getD, hd, hst]
    have hft := fold_tog hok hc (r := keyC d) (by rw [alike_symm]; exact h2)
    have hsn : stD ps (keyC d) (pre ++ [c]) = foldD ps (keyC d) [c] m := by rw [st_snoc, hst]; rfl
    have hsc : stD ps (keyC c) (pre ++ [c]) = foldD ps (keyC d) [c] m := by rw [← st_congr h2, hsn]
    simp only [hgd, ← hft]
    cases hfo : foldD ps (keyC d) [c] m with
    | none =>
      left
      refine ⟨rfl, by rw [hsc, hfo], ?_⟩
      rintro rfl
      cases hdm
    | some m' =>
      right
      have hnf : firstD ps ([] ++ pre) c = false := by
        cases e : firstD ps ([] ++ pre) c with
        | false => rfl
        | true =>
          have := first_iff.1 e d (by simpa using hdm)
          rw [h2] at this; cases this
      have hap := (firsts_apart (ps := ps) pre []).1
      constructor
      · simp only [Option.map_some, Option.some.injEq]
        simp only [slotsOf, firsts_snoc, hnf, Bool.false_eq_true, if_false, List.append_nil]
        refine (map_set_at hd (by rw [hsn, hfo]; rfl) ?_).symm
        intro j z hj hne
        have hz : alikeF ps (keyC c) (keyC z) = false := by
          have hlt := (List.getElem?_eq_some_iff.1 hj).1
          have hlt2 := (List.getElem?_eq_some_iff.1 hd).1
          have ej := (List.getElem?_eq_some_iff.1 hj).2
          have ei := (List.getElem?_eq_some_iff.1 hd).2
          have hdz : alikeF ps (keyC d) (keyC z) = false := by
            rcases Nat.lt_or_gt_of_ne hne with h | h
            · have := List.pairwise_iff_getElem.1 hap j i hlt hlt2 h
              rw [ej, ei] at this
              rw [alike_symm]; exact this
            · have := List.pairwise_iff_getElem.1 hap i j hlt2 hlt h
              rw [ej, ei] at this
              exact this
          rcases Bool.eq_false_or_eq_true (alikeF ps (keyC c) (keyC z)) with e | e
          · rw [alike_trans h2 e] at hdz; cases hdz
          · exact e
        rw [st_other hz]
      · intro x hx
        rcases Bool.eq_false_or_eq_true (alikeF ps (keyC c) (keyC x)) with e | e
        · rw [← st_congr e, hsc, hfo]; simp
        · rw [st_other e]
          rcases List.mem_append.1 hx with hx | hx
          · exact hf x hx
          · rw [List.mem_singleton.1 hx, alike_self] at e; cases e
theorem earl_eq {ps : List Nat} {all : List Ch} : ∀ {cs pre mid : List Ch} {c : Ch} {post : List Ch}, all = pre ++ cs → cs = mid ++ c :: post → (∀ a b d, pre ++ mid = a ++ d :: b → stD ps (keyC d) (a ++ [d]) ≠ none) → stD ps (keyC c) (pre ++ mid ++ [c]) = none → pre ++ mid ≠ [] →
    earlD ps all cs pre.length = (pre ++ mid).length
  | _, pre, [], c, post, h, rfl, _, hn, h0 => by
    have ht : all.take (pre.length + 1) = pre ++ [c] := by rw [h]; simp [List.take_append, List.take_of_length_le]
    have h1 : 1 ≤ pre.length := by
      cases pre with
      | nil => simp at h0
      | cons x pre => simp
    simp only [List.nil_append, earlD, ht, List.append_nil] at hn ⊢
    rw [if_pos ⟨h1, hn⟩]
  | _, pre, d :: mid, c, post, h, rfl, hf, hn, h0 => by
    have ht : all.take (pre.length + 1) = pre ++ [d] := by rw [h]; simp [List.take_append, List.take_of_length_le]
    have hd : stD ps (keyC d) (pre ++ [d]) ≠ none := hf pre mid d rfl
    simp only [List.cons_append, earlD, ht]
    rw [if_neg (by rintro ⟨_, e⟩; exact hd e)]
    have ih := earl_eq (ps := ps) (all := all) (pre := pre ++ [d]) (mid := mid) (c := c) (post := post) (by rw [h]; simp) rfl (by simpa using hf) (by simpa using hn) (by simp)
    simpa using ih
theorem slots_run {n : Nat} {ps : List Nat} : ∀ {cs pre : List Ch}, (∀ c ∈ pre ++ cs, RightC n ps c) → fineD ps pre → (∀ a b d, pre = a ++ d :: b → stD ps (keyC d) (a ++ [d]) ≠ none) →
    (slotsF ps (slotsOf ps pre) cs pre.length = (slotsOf ps (pre ++ cs), (pre ++ cs).length, 0) ∧ fineD ps (pre ++ cs)) ∨
    ∃ mid c post, cs = mid ++ c :: post ∧ slotsF ps (slotsOf ps pre) cs pre.length = ([], (pre ++ mid).length, 23) ∧ stD ps (keyC c) (pre ++ mid ++ [c]) = none ∧ pre ++ mid ≠ [] ∧ ∀ a b d, pre ++ mid = a ++ d :: b → stD ps (keyC d) (a ++ [d]) ≠ none
  | [], pre, _, hf, _ => .inl ⟨by simp [slotsF], by simpa using hf⟩
  | c :: cs, pre, hr, hf, hfa => by
    have hp : ∀ x ∈ pre, RightC n ps x := fun x hx => hr x (by simp [hx])
    have hc : RightC n ps c := hr c (by simp)
    rcases slot_step hp hc hf with ⟨h1, h2, h3⟩ | ⟨h1, h2⟩
    · right
      refine ⟨[], c, cs, rfl, by simp [slotsF, h1], by simpa using h2, by simpa using h3, by simpa using hfa⟩
    · have hfa' : ∀ a b d, pre ++ [c] = a ++ d :: b → stD ps (keyC d) (a ++ [d]) ≠ none := by
        intro a b d e
        rcases List.eq_nil_or_concat b with rfl | ⟨b', x, rfl⟩
        · have := List.append_inj' e rfl
          obtain ⟨rfl, e2⟩ := this
          injection e2 with e2 _
          subst e2
          exact h2 c (by simp)
        · rw [List.concat_eq_append] at e
          have e' : pre ++ [c] = (a ++ d :: b') ++ [x] := by simpa using e
          have := (List.append_inj' e' rfl).1
          exact hfa a b' d this
      have ih := slots_run (n := n) (ps := ps) (cs := cs) (pre := pre ++ [c]) (by simpa using hr) h2 hfa'
      simp only [List.length_append, List.length_cons, List.length_nil] at ih
      simp only [slotsF, h1]
      rcases ih with ⟨k1, k2⟩ | ⟨mid, x, post, k1, k2, k3, k4, k5⟩
      · left
        rw [k1]
        exact ⟨by simp; omega, by simpa using k2⟩
      · right
        refine ⟨c :: mid, x, post, by rw [k1]; rfl, by rw [k2]; simp; omega, by simpa using k3, by simp, by simpa using k5⟩
theorem emit_out (ps : List Nat) (all : List Ch) (hm : ∀ c ∈ firsts ps [] all, okM ((stD ps (keyC c) all).getD ch0)) : outS (slotsOf ps all) = outD' ps all := by
  unfold outS outD' slotsOf
  rw [List.flatMap_map, List.flatMap_map]
  congr 1
  · congr 1
    funext c
    simp only [slOf, emitD]
    by_cases h0 : ((stD ps (keyC c) all).getD ch0).k = 0 <;> by_cases h3 : ((stD ps (keyC c) all).getD ch0).k = 3 <;> simp_all
  · congr 1
    funext c
    simp only [slOf, emitD]
    by_cases h0 : ((stD ps (keyC c) all).getD ch0).k = 0 <;> by_cases h3 : ((stD ps (keyC c) all).getD ch0).k = 3 <;> simp_all
/-- The code's way is the document's. -/
theorem slots_doc {n : Nat} {ps : List Nat} {all : List Ch} (hr : ∀ c ∈ all, RightC n ps c) :
    allD' ps all = if (slotsF ps [] all 0).2.2 ≠ 0 then ([], (slotsF ps [] all 0).2) else (outS (slotsF ps [] all 0).1, (outS (slotsF ps [] all 0).1).length, 0) := by
  have h0 : slotsOf ps [] = [] := rfl
  have h := slots_run (n := n) (ps := ps) (cs := all) (pre := []) (by simpa using hr) (by intro c hc; cases hc) (by intro a b d e; simp at e)
  simp only [h0, List.length_nil, List.nil_append] at h
  rcases h with ⟨h1, h2⟩ | ⟨mid, c, post, k1, k2, k3, k4, k5⟩
  · rw [h1]
    simp only [allD', comp_some h2, ne_eq, not_true_eq_false, if_false]
    rw [emit_out]
    intro c hc
    cases hs : stD ps (keyC c) all with
    | none => exact .inl rfl
    | some m => exact stD_okM hr hs
  · rw [k2]
    have hc : c ∈ all := by rw [k1]; simp
    have hn : stD ps (keyC c) all = none := by
      have e : all = (mid ++ [c]) ++ post := by rw [k1]; simp
      rw [e]; exact st_none_append k3
    have he := earl_eq (ps := ps) (all := all) (cs := all) (pre := []) (mid := mid) (c := c) (post := post) rfl k1 (by simpa using k5) (by simpa using k3) (by simpa using k4)
    simp only [List.length_nil, List.nil_append] at he
    simp [allD', comp_none hc hn, he]
end Go.LS
/- Changes put together, made at once. -/
namespace Go.LS
open Go
set_option linter.unusedSimpArgs false
set_option linter.unusedVariables false

abbrev fnd (ps : List Nat) (rows : List (List Vl)) (k : List Vl) : Option (List Vl) := rows.find? fun r => alikeF ps r k
def beforeC (c : Ch) : Option (List Vl) := if c.k = 3 then none else some c.o
def afterC (c : Ch) : Option (List Vl) := if c.k = 1 then none else some c.n
theorem fnd_congr {ps : List Nat} {rows : List (List Vl)} {k j : List Vl} (h : alikeF ps k j = true) : fnd ps rows k = fnd ps rows j := by
  refine find_congr fun x _ => ?_
  rw [Bool.eq_iff_iff]
  exact ⟨fun e => alike_trans e h, fun e => alike_trans e (by rw [alike_symm]; exact h)⟩
theorem err_before {n : Nat} {ps : List Nat} {rows : List (List Vl)} {c : Ch} (hc : RightC n ps c) : errP ps rows c = 0 ↔ fnd ps rows (keyC c) = beforeC c := by
  unfold errP beforeC fnd
  cases hf : rows.find? fun r => alikeF ps r (keyC c) with
  | none => by_cases h3 : c.k = 3 <;> simp [h3]
  | some r =>
    by_cases h3 : c.k = 3
    · simp [h3]
    · simp only [h3, if_false]
      rcases Bool.eq_false_or_eq_true (sameR r c.o) with e | e
      · have e2 := sameR_iff.1 e
        subst e2
        simp [sameR_iff.2 (rfl : c.o = c.o)]
      · simp only [e, Bool.false_eq_true, if_false]
        constructor
        · intro h; cases h
        · intro h; injection h with h; rw [h, sameR_iff.2 rfl] at e; cases e
theorem fnd_own {n : Nat} {ps : List Nat} {rows : List (List Vl)} {c : Ch} (hc : RightC n ps c) (ha : apartR ps rows) (he : errP ps rows c = 0) : fnd ps (nextP ps rows c) (keyC c) = afterC c := by
  have hb := (err_before hc).1 he
  have hap := next_apart hc ha he
  unfold afterC
  have hk := hc.k
  by_cases h3 : c.k = 3
  · rw [if_neg (by omega)]
    refine find_uniq hap ?_ (by rw [keyC, if_pos h3]; exact alike_self ps _)
    unfold nextP
    rw [if_pos h3]; simp
  · have hb' : fnd ps rows c.o = some c.o := by
      have := hb
      rw [keyC, if_neg h3, beforeC, if_neg h3] at this
      exact this
    have hm : c.o ∈ rows := List.mem_of_find?_eq_some hb'
    have hkc : keyC c = c.o := by rw [keyC, if_neg h3]
    rw [hkc]
    by_cases h2 : c.k = 2
    · rw [if_neg (by omega)]
      refine find_uniq hap ?_ (by rw [alike_symm]; exact hc.two h2)
      unfold nextP
      rw [if_neg h3]
      refine List.mem_flatMap.2 ⟨c.o, hm, ?_⟩
      simp [alike_self, h2]
    · rw [if_pos (by omega)]
      refine List.find?_eq_none.2 fun x hx => ?_
      unfold nextP at hx
      rw [if_neg h3] at hx
      obtain ⟨y, hy, hx⟩ := List.mem_flatMap.1 hx
      split at hx
      · first | (rw [if_neg h2] at hx; cases hx; done) | cases hx
      · rename_i e
        rw [List.mem_singleton.1 hx]; exact e
/-- What a slot says of the rows ahead and those behind. -/
def SlotR (n : Nat) (ps : List Nat) (R A : List (List Vl)) (s : Sl) : Prop :=
  (s.2.1 = false ∧ fnd ps R s.1 = fnd ps A s.1) ∨ (s.2.1 = true ∧ RightC n ps s.2.2 ∧ alikeF ps (keyC s.2.2) s.1 = true ∧ fnd ps R s.1 = beforeC s.2.2 ∧ fnd ps A s.1 = afterC s.2.2)
structure InvS (n : Nat) (ps : List Nat) (R A : List (List Vl)) (zs : List Sl) : Prop where
  apart : zs.Pairwise fun s t => alikeF ps s.1 t.1 = false
  slot : ∀ s ∈ zs, SlotR n ps R A s
  other : ∀ k, (∀ s ∈ zs, alikeF ps s.1 k = false) → fnd ps R k = fnd ps A k
theorem key_two {ps : List Nat} {o n : List Vl} : keyC ⟨2, o, n⟩ = o := rfl
/-- A slot and a change that can be made behind it. -/
theorem tog_inv {n : Nat} {ps : List Nat} {R A : List (List Vl)} {s : Sl} {c : Ch} (hs : SlotR n ps R A s) (hc : RightC n ps c) (hk : alikeF ps s.1 (keyC c) = true) (ha : apartR ps A) (he : errP ps A c = 0) :
    ∃ t, togF s.2 c = some t ∧ SlotR n ps R (nextP ps A c) (s.1, t) := by
  obtain ⟨r0, has, x⟩ := s
  simp only at hk
  have hb : fnd ps A r0 = beforeC c := by rw [fnd_congr hk]; exact (err_before hc).1 he
  have hn : fnd ps (nextP ps A c) r0 = afterC c := by rw [fnd_congr hk]; exact fnd_own hc ha he
  have hk' : alikeF ps (keyC c) r0 = true := by rw [alike_symm]; exact hk
  rcases hs with ⟨h1, h2⟩ | ⟨h1, h2, h3, h4, h5⟩
  · simp only at h1 h2
    subst h1
    exact ⟨(true, c), by simp [togF], .inr ⟨rfl, hc, hk', h2.trans hb, hn⟩⟩
  · simp only at h1 h2 h3 h4 h5
    subst h1
    have hab : afterC x = beforeC c := h5.symm.trans hb
    have hxk := h2.k
    have hck := hc.k
    have hs0 : sameR ([] : List Vl) [] = true := sameR_iff.2 rfl
    unfold afterC beforeC at hab
    by_cases x1 : x.k = 1
    · -- gone, then added
      rw [if_pos x1] at hab
      have c3 : c.k = 3 := by
        by_cases c3 : c.k = 3
        · exact c3
        · rw [if_neg c3] at hab; cases hab
      have hsame : sameR x.n c.o = true := by rw [h2.n1 x1, hc.o3 c3]; exact hs0
      have hxo : keyC x = x.o := by rw [keyC, if_neg (by omega)]
      have hcn : keyC c = c.n := by rw [keyC, if_pos c3]
      have hal : alikeF ps x.o c.n = true := alike_trans (by rw [← hxo]; exact h3) (by rw [← hcn]; exact hk)
      rw [beforeC, if_neg (by omega)] at h4
      rw [afterC, if_neg (by omega)] at hn
      by_cases ho : sameR x.o c.n = true
      · refine ⟨(false, ⟨0, [], []⟩), by simp [togF, hsame, x1, c3, ho], .inl ⟨rfl, ?_⟩⟩
        simp only
        rw [h4, hn, sameR_iff.1 ho]
      · refine ⟨(true, ⟨2, x.o, c.n⟩), by simp [togF, hsame, x1, c3, ho], .inr ⟨rfl, ?_, ?_, ?_, ?_⟩⟩
        · refine ⟨.inr (.inl rfl), fun e => by simp at e, fun e => by simp at e, fun _ => h2.o (by omega), fun _ => hc.n' (by omega), fun _ => hal⟩
        · simp only [key_two]; rw [← hxo]; exact h3
        · simp only [beforeC]; exact h4
        · simp only [afterC]; exact hn
    · rw [if_neg x1] at hab
      have c3 : c.k ≠ 3 := by
        intro c3
        rw [if_pos c3] at hab; cases hab
      rw [if_neg c3] at hab
      injection hab with hab
      have hsame : sameR x.n c.o = true := sameR_iff.2 hab
      have hco : keyC c = c.o := by rw [keyC, if_neg c3]
      by_cases x3 : x.k = 3
      · have hxn : keyC x = x.n := by rw [keyC, if_pos x3]
        rw [beforeC, if_pos x3] at h4
        by_cases c2 : c.k = 2
        · rw [afterC, if_neg (by omega)] at hn
          refine ⟨(true, ⟨3, [], c.n⟩), by simp [togF, hsame, x3, c2], .inr ⟨rfl, ?_, ?_, ?_, ?_⟩⟩
          · exact ⟨.inr (.inr rfl), fun _ => rfl, fun e => by simp at e, fun e => absurd rfl e, fun _ => hc.n' (by omega), fun e => by simp at e⟩
          · show alikeF ps c.n r0 = true
            exact alike_trans (by rw [alike_symm]; exact hc.two c2) (by rw [← hco]; exact hk')
          · simp only [beforeC]; exact h4
          · simp only [afterC]; exact hn
        · have c1 : c.k = 1 := by omega
          rw [afterC, if_pos c1] at hn
          refine ⟨(false, ⟨0, [], []⟩), by simp [togF, hsame, x3, c1], .inl ⟨rfl, ?_⟩⟩
          simp only
          rw [h4, hn]
      · have x2 : x.k = 2 := by omega
        have hxo : keyC x = x.o := by rw [keyC, if_neg x3]
        rw [beforeC, if_neg x3] at h4
        by_cases c2 : c.k = 2
        · rw [afterC, if_neg (by omega)] at hn
          by_cases ho : sameR x.o c.n = true
          · refine ⟨(false, ⟨0, [], []⟩), by simp [togF, hsame, x2, c2, ho], .inl ⟨rfl, ?_⟩⟩
            simp only
            rw [h4, hn, sameR_iff.1 ho]
          · refine ⟨(true, ⟨2, x.o, c.n⟩), by simp [togF, hsame, x2, c2, ho], .inr ⟨rfl, ?_, ?_, ?_, ?_⟩⟩
            · refine ⟨.inr (.inl rfl), fun e => by simp at e, fun e => by simp at e, fun _ => h2.o (by omega), fun _ => hc.n' (by omega), fun _ => ?_⟩
              show alikeF ps x.o c.n = true
              refine alike_trans (h2.two x2) ?_
              rw [hab]; exact hc.two c2
            · simp only [key_two]; rw [← hxo]; exact h3
            · simp only [beforeC]; exact h4
            · simp only [afterC]; exact hn
        · have c1 : c.k = 1 := by omega
          rw [afterC, if_pos c1] at hn
          refine ⟨(true, ⟨1, x.o, []⟩), by simp [togF, hsame, x2, c1], .inr ⟨rfl, ?_, ?_, ?_, ?_⟩⟩
          · exact ⟨.inl rfl, fun e => by simp at e, fun _ => rfl, fun _ => h2.o (by omega), fun e => absurd rfl e, fun e => by simp at e⟩
          · show alikeF ps x.o r0 = true
            rw [← hxo]; exact h3
          · simp only [beforeC]; exact h4
          · simp only [afterC]; exact hn
theorem inv_step {n : Nat} {ps : List Nat} {R A : List (List Vl)} {zs : List Sl} {c : Ch} (h : InvS n ps R A zs) (hc : RightC n ps c) (ha : apartR ps A) (he : errP ps A c = 0) :
    ∃ zs', slotF ps zs c = some zs' ∧ InvS n ps R (nextP ps A c) zs' := by
  have hkeep : ∀ k, alikeF ps (keyC c) k = false → fnd ps (nextP ps A c) k = fnd ps A k := fun k hk => find_next hc hk A
  have hstay : ∀ s, SlotR n ps R A s → alikeF ps (keyC c) s.1 = false → SlotR n ps R (nextP ps A c) s := by
    intro s hs hk
    rcases hs with ⟨h1, h2⟩ | ⟨h1, h2, h3, h4, h5⟩
    · exact .inl ⟨h1, by rw [hkeep _ hk]; exact h2⟩
    · exact .inr ⟨h1, h2, h3, h4, by rw [hkeep _ hk]; exact h5⟩
  unfold slotF
  cases hs : slotI ps (keyC c) zs with
  | none =>
    have hno := slotI_none hs
    refine ⟨_, rfl, ?_, ?_, ?_⟩
    · rw [List.pairwise_append]
      refine ⟨h.apart, by simp, fun s hs' t ht => ?_⟩
      rw [List.mem_singleton.1 ht]
      exact hno s hs'
    · intro s hs'
      rcases List.mem_append.1 hs' with hs' | hs'
      · exact hstay s (h.slot s hs') (by rw [alike_symm]; exact hno s hs')
      · rw [List.mem_singleton.1 hs']
        refine .inr ⟨rfl, hc, alike_self ps _, ?_, ?_⟩
        · simp only
          rw [h.other _ hno]
          exact (err_before hc).1 he
        · exact fnd_own hc ha he
    · intro k hk
      rw [hkeep k (hk (keyC c, true, c) (by simp))]
      exact h.other k fun s hs' => hk s (by simp [hs'])
  | some i =>
    obtain ⟨s, h1, h2⟩ := slotI_some hs
    have hlt := (List.getElem?_eq_some_iff.1 h1).1
    have hgd : zs.getD i sl0 = s := by simp [List.getD, h1]
    obtain ⟨t, k1, k2⟩ := tog_inv (h.slot s (List.mem_of_getElem? h1)) hc h2 ha he
    simp only [hgd, k1, Option.map_some]
    have hei : zs[i] = s := (List.getElem?_eq_some_iff.1 h1).2
    have hkeys : (zs.set i (s.1, t)).map Prod.fst = zs.map Prod.fst := by
      rw [List.map_set]
      simp only
      rw [← hei, ← List.getElem_map (f := Prod.fst), List.set_getElem_self]
      simpa using hlt
    have hpw : ∀ l : List Sl, (l.Pairwise fun s t => alikeF ps s.1 t.1 = false) ↔ (l.map Prod.fst).Pairwise fun a b => alikeF ps a b = false := fun l => by rw [List.pairwise_map]
    refine ⟨_, rfl, ?_, ?_, ?_⟩
    · rw [hpw, hkeys, ← hpw]; exact h.apart
    · intro z hz
      obtain ⟨j, hj, e⟩ := List.getElem_of_mem hz
      rw [List.getElem_set] at e
      split at e
      · rw [← e]; exact k2
      · rename_i hne
        have hj' : j < zs.length := by simpa using hj
        have hzj : alikeF ps (keyC c) z.1 = false := by
          rcases Bool.eq_false_or_eq_true (alikeF ps (keyC c) z.1) with e2 | e2
          · have hsz := alike_trans h2 e2
            rcases Nat.lt_or_gt_of_ne hne with hh | hh
            · have := List.pairwise_iff_getElem.1 h.apart i j hlt hj' hh
              rw [e, hei, hsz] at this; cases this
            · have := List.pairwise_iff_getElem.1 h.apart j i hj' hlt hh
              rw [e, hei, alike_symm, hsz] at this; cases this
          · exact e2
        exact hstay z (h.slot z (e ▸ List.getElem_mem hj')) hzj
    · intro k hk
      have hk' : ∀ s ∈ zs, alikeF ps s.1 k = false := by
        intro z hz
        have : z.1 ∈ (zs.set i (s.1, t)).map Prod.fst := by rw [hkeys]; exact List.mem_map_of_mem hz
        obtain ⟨y, hy, e⟩ := List.mem_map.1 this
        rw [← e]; exact hk y hy
      rw [hkeep k]
      · exact h.other k hk'
      · have := hk' s (List.mem_of_getElem? h1)
        rcases Bool.eq_false_or_eq_true (alikeF ps (keyC c) k) with e | e
        · rw [alike_trans h2 e] at this; cases this
        · exact e
theorem inv_run {n : Nat} {ps : List Nat} {R : List (List Vl)} : ∀ {cs : List Ch} {A : List (List Vl)} {zs : List Sl} {k j : Nat}, InvS n ps R A zs → (∀ c ∈ cs, RightC n ps c) → apartR ps A → (runP ps cs A k).2.2 = 0 →
    (slotsF ps zs cs j).2.2 = 0 ∧ InvS n ps R (runP ps cs A k).1 (slotsF ps zs cs j).1 ∧ apartR ps (runP ps cs A k).1
  | [], A, zs, k, j, h, _, ha, _ => ⟨rfl, h, ha⟩
  | c :: cs, A, zs, k, j, h, hc, ha, h0 => by
    obtain ⟨he, e⟩ := runP_cons0 h0
    rw [e] at h0 ⊢
    obtain ⟨zs', k1, k2⟩ := inv_step h (hc c (by simp)) ha he
    simp only [slotsF, k1]
    exact inv_run k2 (fun x hx => hc x (by simp [hx])) (next_apart (hc c (by simp)) ha he) h0

/-! ### Made at once -/
theorem perm_of_fnd {ps : List Nat} {a b : List (List Vl)} (ha : apartR ps a) (hb : apartR ps b) (h : ∀ k, fnd ps a k = fnd ps b k) : a.Perm b := by
  have nd : ∀ {l : List (List Vl)}, apartR ps l → l.Nodup := fun {l} hl => hl.imp fun {x y} hxy e => by rw [e, alike_self] at hxy; cases hxy
  refine (List.perm_ext_iff_of_nodup (nd ha) (nd hb)).2 fun x => ?_
  constructor
  · intro hx
    have := find_uniq ha hx (alike_self ps x)
    have h1 := h x
    unfold fnd at h1
    rw [this] at h1
    exact List.mem_of_find?_eq_some h1.symm
  · intro hx
    have := find_uniq hb hx (alike_self ps x)
    have h1 := h x
    unfold fnd at h1
    rw [this] at h1
    exact List.mem_of_find?_eq_some h1
theorem once_run {n : Nat} {ps : List Nat} : ∀ {cs : List Ch} {R : List (List Vl)} {k : Nat}, (∀ c ∈ cs, RightC n ps c) → keysApart ps cs → apartR ps R → (∀ c ∈ cs, fnd ps R (keyC c) = beforeC c) →
    (runP ps cs R k).2.2 = 0 ∧ apartR ps (runP ps cs R k).1 ∧ (∀ c ∈ cs, fnd ps (runP ps cs R k).1 (keyC c) = afterC c) ∧ ∀ x, (∀ c ∈ cs, alikeF ps (keyC c) x = false) → fnd ps (runP ps cs R k).1 x = fnd ps R x
  | [], R, k, _, _, ha, _ => ⟨rfl, ha, fun c hc => (by cases hc), fun _ _ => rfl⟩
  | c :: cs, R, k, hc, hk, ha, hb => by
    obtain ⟨hk1, hk2⟩ := List.pairwise_cons.1 hk
    have hcc := hc c (by simp)
    have he : errP ps R c = 0 := (err_before hcc).2 (hb c (by simp))
    rw [runP_cons he]
    obtain ⟨i1, i2, i3, i4⟩ := once_run (n := n) (ps := ps) (cs := cs) (R := nextP ps R c) (k := k + 1) (fun x hx => hc x (by simp [hx])) hk2 (next_apart hcc ha he) (fun x hx => by
      have := find_next hcc (hk1 x hx) R
      show fnd ps (nextP ps R c) (keyC x) = _
      unfold fnd at *
      rw [this]
      exact hb x (by simp [hx]))
    refine ⟨i1, i2, fun x hx => ?_, fun x hx => ?_⟩
    · rcases List.mem_cons.1 hx with rfl | hx
      · rw [i4 _ (fun d hd => by rw [alike_symm]; exact hk1 d hd)]
        exact fnd_own hcc ha he
      · exact i3 x hx
    · rw [i4 x (fun d hd => hx d (by simp [hd]))]
      exact find_next hcc (hx c (by simp)) R
theorem outS_mem {zs : List Sl} {c : Ch} : c ∈ outS zs ↔ ∃ s ∈ zs, s.2.1 = true ∧ s.2.2 = c := by
  unfold outS
  simp only [List.mem_append, List.mem_flatMap]
  constructor
  · rintro (⟨s, hs, h⟩ | ⟨s, hs, h⟩)
    · split at h
      · rename_i e; exact ⟨s, hs, e.1, (List.mem_singleton.1 h).symm⟩
      · cases h
    · split at h
      · rename_i e; exact ⟨s, hs, e.1, (List.mem_singleton.1 h).symm⟩
      · cases h
  · rintro ⟨s, hs, h1, rfl⟩
    by_cases h3 : s.2.2.k = 3
    · exact .inr ⟨s, hs, by simp [h1, h3]⟩
    · exact .inl ⟨s, hs, by simp [h1, h3]⟩
/-- The changes of the slots, made at once, make the rows of those that were put in, one by one. -/
theorem once_perm {n : Nat} {ps : List Nat} {R A : List (List Vl)} {zs : List Sl} (h : InvS n ps R A zs) (hR : apartR ps R) (hA : apartR ps A) :
    (runP ps (outS zs) R 0).2.2 = 0 ∧ (runP ps (outS zs) R 0).1.Perm A ∧ (∀ c ∈ outS zs, RightC n ps c) := by
  have hsl : ∀ s ∈ zs, s.2.1 = true → RightC n ps s.2.2 ∧ alikeF ps (keyC s.2.2) s.1 = true ∧ fnd ps R s.1 = beforeC s.2.2 ∧ fnd ps A s.1 = afterC s.2.2 := by
    intro s hs h1
    rcases h.slot s hs with ⟨h2, _⟩ | ⟨_, h2⟩
    · rw [h1] at h2; cases h2
    · exact h2
  have hright : ∀ c ∈ outS zs, RightC n ps c := by
    intro c hc
    obtain ⟨s, hs, h1, rfl⟩ := outS_mem.1 hc
    exact (hsl s hs h1).1
  have hpk : ∀ s ∈ zs, ∀ t ∈ zs, alikeF ps s.1 t.1 = false → s.2.1 = true → t.2.1 = true → alikeF ps (keyC s.2.2) (keyC t.2.2) = false := by
    intro s hs t ht hst h1 h2
    rcases Bool.eq_false_or_eq_true (alikeF ps (keyC s.2.2) (keyC t.2.2)) with e | e
    · have e1 := (hsl s hs h1).2.1
      have e2 := (hsl t ht h2).2.1
      rw [alike_trans (by rw [alike_symm]; exact e1) (alike_trans e e2)] at hst; cases hst
    · exact e
  have hperm : (outS zs).Perm (zs.flatMap fun s => if s.2.1 = true then [s.2.2] else []) := by
    unfold outS
    clear hpk hright hsl h
    induction zs with
    | nil => exact List.Perm.refl _
    | cons s zs ih =>
      simp only [List.flatMap_cons]
      by_cases h1 : s.2.1 = true
      · by_cases h3 : s.2.2.k = 3
        · simp only [h1, h3, ne_eq, not_true_eq_false, and_false, if_false, List.nil_append, if_true, and_true, List.cons_append]
          exact List.perm_middle.trans (List.Perm.cons _ ih)
        · simp only [h1, h3, ne_eq, not_false_eq_true, and_true, if_true, and_false, if_false, List.nil_append, List.cons_append]
          exact List.Perm.cons _ ih
      · simp only [h1, false_and, if_false, List.nil_append, Bool.false_eq_true]
        exact ih
  have hapk : keysApart ps (outS zs) := by
    refine keys_perm hperm.symm ?_
    unfold keysApart
    have hz := h.apart
    have hpk' : ∀ s ∈ zs, ∀ t ∈ zs, alikeF ps s.1 t.1 = false → ∀ x ∈ (if s.2.1 = true then [s.2.2] else []), ∀ y ∈ (if t.2.1 = true then [t.2.2] else []), alikeF ps (keyC x) (keyC y) = false := by
      intro s hs t ht hst x hx y hy
      split at hx
      · rename_i h1
        split at hy
        · rename_i h2
          rw [List.mem_singleton.1 hx, List.mem_singleton.1 hy]
          exact hpk s hs t ht hst h1 h2
        · cases hy
      · cases hx
    clear hperm hpk hright hsl h
    induction zs with
    | nil => simp
    | cons s zs ih =>
      obtain ⟨z1, z2⟩ := List.pairwise_cons.1 hz
      rw [List.flatMap_cons, List.pairwise_append]
      refine ⟨by split <;> simp, ih z2 (fun a ha b hb => hpk' a (by simp [ha]) b (by simp [hb])), fun x hx y hy => ?_⟩
      obtain ⟨t, ht, hy⟩ := List.mem_flatMap.1 hy
      exact hpk' s (by simp) t (by simp [ht]) (z1 t ht) x hx y hy
  have hbef : ∀ c ∈ outS zs, fnd ps R (keyC c) = beforeC c := by
    intro c hc
    obtain ⟨s, hs, h1, rfl⟩ := outS_mem.1 hc
    obtain ⟨_, k2, k3, _⟩ := hsl s hs h1
    rw [fnd_congr k2]; exact k3
  obtain ⟨r1, r2, r3, r4⟩ := once_run (k := 0) hright hapk hR hbef
  refine ⟨r1, perm_of_fnd r2 hA fun k => ?_, hright⟩
  by_cases hk : ∃ s ∈ zs, alikeF ps s.1 k = true
  · obtain ⟨s, hs, e⟩ := hk
    rw [← fnd_congr e, ← fnd_congr e]
    rcases h.slot s hs with ⟨h1, h2⟩ | ⟨h1, h2, h3, h4, h5⟩
    · rw [← h2]
      refine r4 s.1 fun c hc => ?_
      obtain ⟨t, ht, t1, rfl⟩ := outS_mem.1 hc
      rcases Bool.eq_false_or_eq_true (alikeF ps (keyC t.2.2) s.1) with e2 | e2
      · have e3 := alike_trans (by rw [alike_symm]; exact (hsl t ht t1).2.1) e2
        obtain ⟨i, hi, ei⟩ := List.getElem_of_mem hs
        obtain ⟨j, hj, ej⟩ := List.getElem_of_mem ht
        rcases Nat.lt_trichotomy i j with hh | hh | hh
        · have := List.pairwise_iff_getElem.1 h.apart i j hi hj hh
          rw [ei, ej, alike_symm, e3] at this; cases this
        · subst hh
          rw [ei] at ej
          rw [ej, t1] at h1; cases h1
        · have := List.pairwise_iff_getElem.1 h.apart j i hj hi hh
          rw [ei, ej, e3] at this; cases this
      · exact e2
    · rw [h5, ← fnd_congr h3]
      exact r3 s.2.2 (outS_mem.2 ⟨s, hs, h1, rfl⟩)
  · have hk' : ∀ s ∈ zs, alikeF ps s.1 k = false := by
      intro s hs
      rcases Bool.eq_false_or_eq_true (alikeF ps s.1 k) with e | e
      · exact absurd ⟨s, hs, e⟩ hk
      · exact e
    rw [← h.other k hk']
    refine r4 k fun c hc => ?_
    obtain ⟨s, hs, h1, rfl⟩ := outS_mem.1 hc
    have e1 := (hsl s hs h1).2.1
    have := hk' s hs
    rcases Bool.eq_false_or_eq_true (alikeF ps (keyC s.2.2) k) with e | e
    · rw [alike_trans (by rw [alike_symm]; exact e1) e] at this; cases this
    · exact e
end Go.LS
/- Two lists of changes, put together, made at once. -/
namespace Go.LS
open Go
set_option linter.unusedSimpArgs false
set_option linter.unusedVariables false

theorem right_one {n : Nat} {ps : List Nat} {c : Ch} (h : RightC n ps c) : oneP n ps c = 0 := by
  have hk := h.k
  unfold oneP
  have h1 : ¬ ((c.k < 1 ∨ 3 < c.k) ∨ (c.k = 3 ∧ 0 < c.o.length) ∨ (c.k = 1 ∧ 0 < c.n.length)) := by
    rintro (h1 | ⟨h1, h2⟩ | ⟨h1, h2⟩)
    · omega
    · rw [h.o3 h1] at h2; simp at h2
    · rw [h.n1 h1] at h2; simp at h2
  have h2 : ¬ ((c.k ≠ 3 ∧ c.o.length ≠ n) ∨ (c.k ≠ 1 ∧ c.n.length ≠ n)) := by
    rintro (⟨h1, h2⟩ | ⟨h1, h2⟩)
    · exact h2 (h.o h1).1
    · exact h2 (h.n' h1).1
  have h3 : ¬ ((c.k ≠ 3 ∧ nullF ps c.o = true) ∨ (c.k ≠ 1 ∧ nullF ps c.n = true)) := by
    rintro (⟨h1, h2⟩ | ⟨h1, h2⟩)
    · rw [(h.o h1).2] at h2; cases h2
    · rw [(h.n' h1).2] at h2; cases h2
  have h4 : ¬ (c.k = 2 ∧ alikeF ps c.o c.n = false) := by
    rintro ⟨h1, h2⟩
    rw [h.two h1] at h2; cases h2
  rw [if_neg h1, if_neg h2, if_neg h3, if_neg h4]
theorem apply_parts {t : Tb} {ks : List ByteArray} {cs : List Ch} (h : (applyF t ks cs).2.2 = 0) : (tabF t ks).2 = 0 ∧ (checkP t.L ks cs).2 = 0 ∧ applyF t ks cs = runP (placesN t.L ks) cs t.R 0 := by
  unfold applyF at h ⊢
  by_cases h1 : (tabF t ks).2 = 0
  · by_cases h2 : (checkP t.L ks cs).2 = 0
    · exact ⟨h1, h2, by rw [if_neg (by simp [h1]), if_neg (by simp [h2])]⟩
    · rw [if_neg (by simp [h1]), if_pos h2] at h; exact absurd h h2
  · rw [if_pos h1] at h; exact absurd h h1
theorem check_parts {l : List Cl} {ks : List ByteArray} {cs : List Ch} (h : (checkP l ks cs).2 = 0) : (tabF ⟨l, []⟩ ks).2 = 0 ∧ ∀ c ∈ cs, oneP l.length (placesN l ks) c = 0 := by
  unfold checkP at h
  by_cases h1 : (tabF ⟨l, []⟩ ks).2 = 0
  · rw [if_neg (by simp [h1])] at h
    exact ⟨h1, (ones_ok h).1⟩
  · rw [if_pos h1] at h; exact absurd h h1
theorem comp_law {L : List Cl} {A : List (List Vl)} {ks : List ByteArray} {X Y : List Ch} (h1 : (applyF ⟨L, A⟩ ks X).2.2 = 0) (h2 : (applyF ⟨L, (applyF ⟨L, A⟩ ks X).1⟩ ks Y).2.2 = 0) :
    (compF L ks X Y).2.2 = 0 ∧ (applyF ⟨L, A⟩ ks (compF L ks X Y).1).2.2 = 0 ∧ (applyF ⟨L, A⟩ ks (compF L ks X Y).1).1.Perm (applyF ⟨L, (applyF ⟨L, A⟩ ks X).1⟩ ks Y).1 := by
  obtain ⟨t1, c1, e1⟩ := apply_parts h1
  obtain ⟨t2, c2, e2⟩ := apply_parts h2
  simp only at c1 c2 e1 e2
  have r1 := fun c hc => one_right ((check_parts c1).2 c hc)
  have r2 := fun c hc => one_right ((check_parts c2).2 c hc)
  have aA := tab_apart t1
  simp only at aA
  rw [e2]
  rw [e2] at h2
  rw [e1] at h1 h2 ⊢
  have hinv : InvS L.length (placesN L ks) A A [] := ⟨by simp, by simp, fun _ _ => rfl⟩
  obtain ⟨i1, i2, i3⟩ := inv_run (j := 0) hinv r1 aA h1
  obtain ⟨j1, j2, j3⟩ := inv_run (j := X.length) i2 r2 i3 h2
  have hs : ∀ (x y : List Ch) (zs : List Sl) (k : Nat), (slotsF (placesN L ks) zs x k).2.2 = 0 → slotsF (placesN L ks) zs (x ++ y) k = slotsF (placesN L ks) (slotsF (placesN L ks) zs x k).1 y (k + x.length) := by
    intro x
    induction x with
    | nil => intro y zs k _; rfl
    | cons c x ih =>
      intro y zs k h
      simp only [List.cons_append, slotsF] at h ⊢
      cases hc : slotF (placesN L ks) zs c with
      | none => rw [hc] at h; cases h
      | some z =>
        rw [hc] at h
        simp only at h ⊢
        rw [ih y z (k + 1) h]
        congr 1
        simp only [List.length_cons]; omega
  have hs' := hs X Y [] 0 i1
  rw [Nat.zero_add] at hs'
  have hz : (slotsF (placesN L ks) [] (X ++ Y) 0).2.2 = 0 := by rw [hs']; exact j1
  have hcomp : compF L ks X Y = (outS (slotsF (placesN L ks) [] (X ++ Y) 0).1, (outS (slotsF (placesN L ks) [] (X ++ Y) 0).1).length, 0) := by
    unfold compF
    rw [if_neg (by simp [c1]), if_neg (by simp [c2]), if_neg (by simp [hz])]
  rw [hcomp]
  simp only
  rw [hs']
  obtain ⟨k1, k2, k3⟩ := once_perm j2 aA j3
  have happ : applyF ⟨L, A⟩ ks (outS (slotsF (placesN L ks) (slotsF (placesN L ks) [] X 0).1 Y X.length).1) = runP (placesN L ks) (outS (slotsF (placesN L ks) (slotsF (placesN L ks) [] X 0).1 Y X.length).1) A 0 := by
    unfold applyF
    rw [if_neg (by simp [t1]), if_neg (by simp only; rw [check_of t1 (fun c hc => right_one (k3 c hc))]; simp)]
  rw [happ]
  exact ⟨trivial, k1, k2⟩

/-! ### What is put together is made of what there was -/
theorem tog_all {P : List Vl → Prop} (h0 : P []) {s t : Bool × Ch} {c : Ch} (hs : P s.2.o ∧ P s.2.n) (hc : P c.o ∧ P c.n) (h : togF s c = some t) : P t.2.o ∧ P t.2.n := by
  unfold togF at h
  (repeat' split at h) <;> first | (cases h; done) | (injection h with h; subst h; first | exact hc | exact ⟨h0, h0⟩ | exact ⟨hs.1, hc.2⟩ | exact ⟨hs.1, h0⟩ | exact ⟨h0, hc.2⟩)
theorem slots_all {P : List Vl → Prop} (h0 : P []) {ps : List Nat} : ∀ {cs : List Ch} {zs : List Sl} {k : Nat}, (∀ s ∈ zs, P s.2.2.o ∧ P s.2.2.n) → (∀ c ∈ cs, P c.o ∧ P c.n) → (∀ s ∈ (slotsF ps zs cs k).1, P s.2.2.o ∧ P s.2.2.n) ∧ (slotsF ps zs cs k).1.length ≤ zs.length + cs.length
  | [], zs, k, hz, _ => ⟨hz, by simp [slotsF]⟩
  | c :: cs, zs, k, hz, hc => by
    simp only [slotsF]
    cases hs : slotF ps zs c with
    | none => exact ⟨fun s h => (by cases h), by simp⟩
    | some zs' =>
      have key : (∀ s ∈ zs', P s.2.2.o ∧ P s.2.2.n) ∧ zs'.length ≤ zs.length + 1 := by
        unfold slotF at hs
        split at hs
        · rename_i i hi
          rw [Option.map_eq_some_iff] at hs
          obtain ⟨t, ht, rfl⟩ := hs
          obtain ⟨z, hz1, _⟩ := slotI_some hi
          have hgd : zs.getD i sl0 = z := by simp [List.getD, hz1]
          rw [hgd] at ht ⊢
          refine ⟨fun s h => ?_, by rw [List.length_set]; omega⟩
          rcases List.mem_or_eq_of_mem_set h with h | rfl
          · exact hz s h
          · exact tog_all h0 (hz z (List.mem_of_getElem? hz1)) (hc c (by simp)) ht
        · injection hs with hs
          subst hs
          refine ⟨fun s h => ?_, by simp⟩
          rcases List.mem_append.1 h with h | h
          · exact hz s h
          · rw [List.mem_singleton.1 h]; exact hc c (by simp)
      obtain ⟨i1, i2⟩ := slots_all (P := P) h0 (ps := ps) (cs := cs) (zs := zs') (k := k + 1) key.1 (fun x hx => hc x (by simp [hx]))
      refine ⟨i1, ?_⟩
      have := key.2
      simp only [List.length_cons]; omega
theorem comp_all {P : List Vl → Prop} (h0 : P []) {L : List Cl} {ks : List ByteArray} {X Y : List Ch} (hX : ∀ c ∈ X, P c.o ∧ P c.n) (hY : ∀ c ∈ Y, P c.o ∧ P c.n) : (∀ c ∈ (compF L ks X Y).1, P c.o ∧ P c.n) ∧ (compF L ks X Y).1.length ≤ X.length + Y.length := by
  have hXY : ∀ c ∈ X ++ Y, P c.o ∧ P c.n := fun c hc => (List.mem_append.1 hc).elim (hX c) (hY c)
  obtain ⟨h1, h2⟩ := slots_all h0 (ps := placesN L ks) (cs := X ++ Y) (zs := []) (k := 0) (by simp) hXY
  unfold compF
  (repeat' split)
  · exact ⟨fun c h => (by cases h), by simp⟩
  · exact ⟨fun c h => (by cases h), by simp⟩
  · exact ⟨fun c h => (by cases h), by simp⟩
  · refine ⟨fun c hc => ?_, ?_⟩
    · obtain ⟨s, hs, _, rfl⟩ := outS_mem.1 hc
      exact h1 s hs
    · simp only
      rw [outS_eq, List.length_append]
      have hab : ∀ zs : List Sl, (outA zs).length + (outB zs).length ≤ zs.length := by
        intro zs
        induction zs with
        | nil => simp [outA, outB]
        | cons s zs ih =>
          have ea : outA (s :: zs) = (if s.2.1 = true ∧ s.2.2.k ≠ 3 then [s.2.2] else []) ++ outA zs := rfl
          have eb : outB (s :: zs) = (if s.2.1 = true ∧ s.2.2.k = 3 then [s.2.2] else []) ++ outB zs := rfl
          rw [ea, eb, List.length_append, List.length_append, List.length_cons]
          by_cases h3 : s.2.2.k = 3
          · rw [if_neg (by simp [h3])]
            split <;> simp only [List.length_cons, List.length_nil] <;> omega
          · rw [if_neg (c := s.2.1 = true ∧ s.2.2.k = 3) (by simp [h3])]
            split <;> simp only [List.length_cons, List.length_nil] <;> omega
      have := hab (slotsF (placesN L ks) [] (X ++ Y) 0).1
      simp only [List.length_append, List.length_nil, Nat.zero_add] at h2
      omega
end Go.LS
/- What the changes of a diff are made of. -/
namespace Go.LS
open Go
set_option linter.unusedSimpArgs false
set_option linter.unusedVariables false

theorem two_all {P : List Vl → Prop} (h0 : P []) {x y : Ch} (hx : P x.o ∧ P x.n) (hy : P y.o ∧ P y.n) : P (twoF x y).1.o ∧ P (twoF x y).1.n := by
  unfold twoF
  (repeat' split) <;> first | exact ⟨h0, h0⟩ | exact ⟨hx.1, hy.2⟩ | exact ⟨hx.1, h0⟩ | exact ⟨h0, hy.2⟩
theorem earl_start (ps : List Nat) (all : List Ch) : earlD ps all (all.drop 1) 1 = earlD ps all all 0 := by
  cases all with
  | nil => rfl
  | cons c cs => simp [earlD]
/-- What is left of the two passes. -/
def passesD (ps : List Nat) (all : List Ch) : Nat → List Ch → Option (List Ch)
  | 0, out => some out
  | r + 1, out => match passD ps all (decide (r = 0)) all 0 out with
    | none => none
    | some o => passesD ps all r o
theorem passes_comp (ps : List Nat) (all : List Ch) : passesD ps all 2 [] = compD ps all := by
  unfold compD
  simp only [passesD]
  rw [show decide (1 = 0) = false from rfl]
  cases passD ps all false all 0 [] with
  | none => rfl
  | some o =>
    have e : decide ((0 : Nat) = 0) = true := rfl
    simp only [decide_true]
    cases passD ps all true all 0 o <;> rfl
theorem emit_len (p : Bool) (m : Ch) : (emitD p m).length ≤ 1 := by
  unfold emitD; split <;> simp
theorem first_succ {ps : List Nat} {l : List Ch} {j : Nat} {b c : Ch} (h : l[j]? = some b) : firstD ps (l.take (j + 1)) c = (firstD ps (l.take j) c && !alikeF ps (keyC b) (keyC c)) := by
  unfold firstD
  rw [List.take_add_one, h, List.all_append]
  simp
def okP2 (r : List Vl) : Prop := okR2 r ∧ ∀ v ∈ r, rightF v = true
theorem okP2_nil : okP2 [] := ⟨⟨by simp [okLen], by simp⟩, by simp⟩
theorem okP2_chs {l : List Ch} (hl : l.length ≤ 100000) (h : ∀ c ∈ l, okP2 c.o ∧ okP2 c.n) : okChs l ∧ ∀ c ∈ l, rightC c :=
  ⟨⟨by simp only [okLen]; omega, fun c hc => ⟨(h c hc).1.1, (h c hc).2.1⟩⟩, fun c hc => ⟨(h c hc).1.2, (h c hc).2.2⟩⟩
theorem okP2_tab {L : List Cl} {R : List (List Vl)} (hL : okCl L) (hl : R.length ≤ 100000) (h : ∀ r ∈ R, okP2 r) : okT2 ⟨L, R⟩ :=
  ⟨hL, by simp only [okLen]; omega, fun r hr => (h r hr).1, fun r hr => (h r hr).2⟩
theorem okT2.p2 {t : Tb} (h : okT2 t) : ∀ r ∈ t.R, okP2 r := fun r hr => ⟨h.v r hr, h.right r hr⟩
end Go.LS
