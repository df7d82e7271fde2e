/- Part PK: 6 texts, one behind the other. -/
import Derived.Test.YtfmbjaeppffdpaaGreatDoorPA
/- Rows in order, by definition. -/
namespace Go.LS
open Go
set_option maxRecDepth 100000
set_option linter.unusedSimpArgs false
set_option linter.unusedVariables false
theorem getD_rowR {r : List Vl} {i : Nat} (h : i < r.length) : (r.map eRV).getD i [] = eRV (r.getD i vl0) := by
 rw [List.getD_eq_getElem?_getD, List.getD_eq_getElem?_getD, List.getElem?_map, List.getElem?_eq_getElem h]
 rfl
def insF {α : Type} (f : α → α → Int) (r : α) : List α → List α
 | [] => [r]
 | x :: l => if f x r ≤ 0 then x :: insF f r l else r :: x :: l
def sortL {α : Type} (f : α → α → Int) : List α → List α → List α
 | out, [] => out
 | out, r :: rs => sortL f (insF f r out) rs
def sortF {α : Type} (f : α → α → Int) (rows : List α) : List α := sortL f [] rows
def aheadF {α : Type} (f : α → α → Int) (r : α) : List α → Nat
 | [] => 0
 | x :: l => if f x r ≤ 0 then aheadF f r l + 1 else 0
theorem insF_eq {α : Type} (f : α → α → Int) (r : α) : ∀ l : List α, insF f r l = l.take (aheadF f r l) ++ [r] ++ l.drop (aheadF f r l)
 | [] => rfl
 | x :: l => by
  simp only [insF, aheadF]
  split
  ·rw [insF_eq f r l]; simp
  ·simp
theorem insF_mem {α : Type} (f : α → α → Int) (r : α) (l : List α) (x : α) : x ∈ insF f r l ↔ x = r ∨ x ∈ l := by
 rw [insF_eq]
 constructor
 ·intro h
  simp only [List.mem_append, List.mem_singleton] at h
  rcases h with (h | h) | h
  ·exact .inr (List.mem_of_mem_take h)
  ·exact .inl h
  ·exact .inr (List.mem_of_mem_drop h)
 ·rintro (rfl | h)
  ·simp
  ·rw [← List.take_append_drop (aheadF f r l) l] at h
   simp only [List.mem_append, List.mem_singleton] at h ⊢
   rcases h with h | h
   ·exact .inl (.inl h)
   ·exact .inr h
open Go
set_option maxRecDepth 100000
set_option linter.unusedSimpArgs false
set_option linter.unusedVariables false
def posR {α : Type} (f : α → α → Int) (d : α) (r : α) (out : List α) : Nat → Nat
 | 0 => 0
 | m + 1 => if f r (out.getD m d) < 0 then posR f d r out m else m + 1
def insR {α : Type} (f : α → α → Int) (d : α) (r : α) (out : List α) : List α := out.take (posR f d r out out.length) ++ [r] ++ out.drop (posR f d r out out.length)
def sortR {α : Type} (f : α → α → Int) (d : α) : List α → List α → List α
 | out, [] => out
 | out, r :: rs => sortR f d (insR f d r out) rs
theorem posR_le {α : Type} (f : α → α → Int) (d r : α) (out : List α) : ∀ m, posR f d r out m ≤ m
 | 0 => Nat.le_refl 0
 | m + 1 => by
  have := posR_le f d r out m
  simp only [posR]
  split <;> omega
theorem insR_len {α : Type} (f : α → α → Int) (d r : α) (l : List α) : (insR f d r l).length = l.length + 1 := by
 have := posR_le f d r l l.length
 simp [insR]; omega
theorem insR_mem {α : Type} (f : α → α → Int) (d r : α) (l : List α) (x : α) : x ∈ insR f d r l ↔ x = r ∨ x ∈ l := by
 have h := List.take_append_drop (posR f d r l l.length) l
 constructor
 ·intro h
  simp only [insR, List.mem_append, List.mem_singleton] at h
  rcases h with (h | h) | h
  ·exact .inr (List.mem_of_mem_take h)
  ·exact .inl h
  ·exact .inr (List.mem_of_mem_drop h)
 ·rintro (rfl | hx)
  ·simp [insR]
  ·rw [← h, List.mem_append] at hx
   simp only [insR, List.mem_append, List.mem_singleton]
   rcases hx with hx | hx
   ·exact .inl (.inl hx)
   ·exact .inr hx
theorem sortR_len {α : Type} (f : α → α → Int) (d : α) : ∀ (rs out : List α), (sortR f d out rs).length = out.length + rs.length
 | [], out => by simp [sortR]
 | r :: rs, out => by rw [sortR, sortR_len f d rs, insR_len]; simp; omega
def wayL {α : Type} (out : List α) (r : α) (m : Nat) : List α := out.take m ++ [r] ++ out.drop m
theorem wayL_len {α : Type} (out : List α) (r : α) (m : Nat) (h : m ≤ out.length) : (wayL out r m).length = out.length + 1 := by
 simp [wayL]; omega
theorem wayL_at {α : Type} {out : List α} {r : α} {m : Nat} (h : m ≤ out.length) : (wayL out r m)[m]? = some r := by
 unfold wayL
 rw [List.append_assoc, List.getElem?_append_right (by simp; omega)]
 simp [Nat.min_eq_left h]
theorem wayL_pre {α : Type} {out : List α} {r : α} {m : Nat} (h : m + 1 ≤ out.length) : (wayL out r (m + 1))[m]? = out[m]? := by
 unfold wayL
 rw [List.append_assoc, List.getElem?_append_left (by simp; omega)]
 rw [List.getElem?_take]; simp
theorem wayL_step {α : Type} {out : List α} {r x : α} {m : Nat} (h : out[m]? = some x) : ((wayL out r (m + 1)).set (m + 1) x).set m r = wayL out r m := by
 have hlt := (List.getElem?_eq_some_iff.1 h).1
 have hx : out[m] = x := (List.getElem?_eq_some_iff.1 h).2
 have e1 : out.take (m + 1) = out.take m ++ [x] := by rw [List.take_add_one, h]; rfl
 have e2 : out.drop m = x :: out.drop (m + 1) := by rw [List.drop_eq_getElem_cons hlt, hx]
 unfold wayL
 rw [e1, e2]
 have hl : (out.take m).length = m := by simp; omega
 rw [List.append_assoc, List.append_assoc, List.set_append_right _ _ (by simp; omega), List.set_append_right _ _ (by simp; omega)]
 simp only [hl, List.length_append, List.length_singleton]
 simp
open Go
set_option maxRecDepth 100000
set_option linter.unusedSimpArgs false
set_option linter.unusedVariables false
structure Ord3 {α : Type} (f : α → α → Int) : Prop where
 anti : ∀ a b, f a b = - f b a
 tr : ∀ a b c, f a b ≤ 0 → f b c ≤ 0 → f a c ≤ 0
theorem Ord3.zero {α : Type} {f : α → α → Int} (h : Ord3 f) {a b c : α} (h1 : f a b ≤ 0) (h2 : f b c ≤ 0) (h3 : f a c = 0) : f a b = 0 ∧ f b c = 0 := by
 have a1 := h.anti a b; have a2 := h.anti b c; have a3 := h.anti a c
 have t1 := h.tr b c a h2 (by omega)
 have t2 := h.tr c a b (by omega) h1
 omega
theorem Ord3.lex {α : Type} {f g : α → α → Int} (hf : Ord3 f) (hg : Ord3 g) : Ord3 (fun a b => if f a b = 0 then g a b else f a b) where
 anti a b := by
  have a1 := hf.anti a b; have a2 := hg.anti a b
  by_cases h : f a b = 0
  ·have h' : f b a = 0 := by omega
   simp only [h, h', if_true, a2]
  ·have h' : ¬ f b a = 0 := by omega
   simp only [if_neg h, if_neg h']
   exact a1
 tr a b c h1 h2 := by
  have e1 : f a b ≤ 0 := by
   by_cases h : f a b = 0
   ·omega
   ·simpa only [h, if_false] using h1
  have e2 : f b c ≤ 0 := by
   by_cases h : f b c = 0
   ·omega
   ·simpa only [h, if_false] using h2
  have e3 := hf.tr a b c e1 e2
  by_cases h : f a c = 0
  ·obtain ⟨k1, k2⟩ := hf.zero e1 e2 h
   simp only [h, k1, k2, if_true] at h1 h2 ⊢
   exact hg.tr a b c h1 h2
  ·simpa only [h, if_false] using e3
theorem Ord3.neg {α : Type} {f : α → α → Int} (hf : Ord3 f) : Ord3 (fun a b => - f a b) where
 anti a b := by have := hf.anti a b; omega
 tr a b c h1 h2 := by
  have a1 := hf.anti a b; have a2 := hf.anti b c; have a3 := hf.anti a c
  have := hf.tr c b a (by omega) (by omega)
  omega
theorem Ord3.on {α β : Type} {f : α → α → Int} (hf : Ord3 f) (p : β → α) : Ord3 (fun a b => f (p a) (p b)) := ⟨fun a b => hf.anti _ _, fun a b c => hf.tr _ _ _⟩
theorem ord_cmpI : Ord3 cmpI := ⟨fun a b => by unfold cmpI; split <;> split <;> omega, fun a b c => by unfold cmpI; split <;> split <;> split <;> (try split) <;> (try split) <;> (try split) <;> omega⟩
theorem bytesLess_tr : ∀ a b c : List UInt8, Op.bytesLess a b = true → Op.bytesLess b c = true → Op.bytesLess a c = true
 | _, [], _, h, _ => by simp [Op.bytesLess] at h
 | _, _ :: _, [], _, h => by simp [Op.bytesLess] at h
 | [], _ :: _, _ :: _, _, _ => by simp [Op.bytesLess]
 | a :: x, b :: y, c :: z, h1, h2 => by
  simp only [Op.bytesLess, Bool.or_eq_true, Bool.and_eq_true, decide_eq_true_eq, beq_iff_eq] at h1 h2 ⊢
  rcases h1 with h1 | ⟨rfl, h1⟩ <;> rcases h2 with h2 | ⟨rfl, h2⟩
  ·exact .inl (UInt8.lt_trans h1 h2)
  ·exact .inl h1
  ·exact .inl h2
  ·exact .inr ⟨rfl, bytesLess_tr x y z h1 h2⟩
theorem strLt_tr {a b c : ByteArray} (h1 : strLt a b = true) (h2 : strLt b c = true) : strLt a c = true := bytesLess_tr _ _ _ h1 h2
theorem ord_cmpS : Ord3 cmpS := by
 have asy : ∀ a b, strLt a b = true → strLt b a = false := fun a b h => by rw [strLt_gt a b, h]; simp
 refine ⟨fun a b => ?_, fun a b c h1 h2 => ?_⟩
 ·unfold cmpS
  cases h : strLt a b with
  | true => simp [asy a b h]
  | false => cases h' : strLt b a <;> simp
 ·have key : ∀ a b, cmpS a b ≤ 0 → strLt a b = true ∨ a = b := fun a b h => by
   unfold cmpS at h
   cases h1 : strLt a b with
   | true => exact .inl rfl
   | false =>
    right
    have h2 := strLt_gt a b
    rw [h1] at h2
    cases h3 : strLt b a with
    | true => rw [h1, h3] at h; simp at h
    | false => rw [h3] at h2; simpa using h2
  rcases key a b h1 with k1 | rfl
  ·rcases key b c h2 with k2 | rfl
   ·simp [cmpS, strLt_tr k1 k2]
   ·exact h1
  ·exact h2
def cmpB (a b : Bool) : Int := if a = b then 0 else if b then -1 else 1
theorem ord_cmpB : Ord3 cmpB := ⟨fun a b => by cases a <;> cases b <;> decide, fun a b c => by cases a <;> cases b <;> cases c <;> decide⟩
theorem ord_cmpF : Ord3 cmpF := by
 have h := ((ord_cmpI.on Vl.k).lex ((ord_cmpS.on Vl.s).lex ((ord_cmpI.on Vl.n).lex (ord_cmpB.on Vl.b))))
 have e : (fun a b : Vl => if cmpI a.k b.k = 0 then (if cmpS a.s b.s = 0 then (if cmpI a.n b.n = 0 then cmpB a.b b.b else cmpI a.n b.n) else cmpS a.s b.s) else cmpI a.k b.k) = cmpF := by
  funext a b
  simp only [cmpF, orF, cmpB]
  by_cases h1 : cmpI a.k b.k = 0 <;> by_cases h2 : cmpS a.s b.s = 0 <;> by_cases h3 : cmpI a.n b.n = 0 <;> by_cases h4 : a.b = b.b <;> simp [h1, h2, h3, h4]
 rw [← e]
 exact h
theorem ord_ordF : ∀ p : List Pl, Ord3 (ordF p)
 | [] => ⟨fun _ _ => rfl, fun _ _ _ _ _ => Int.le_refl 0⟩
 | p :: ps => by
  have h0 : Ord3 (fun a b : List Vl => cmpF (a.getD p.at_ vl0) (b.getD p.at_ vl0)) := ord_cmpF.on fun a : List Vl => a.getD p.at_ vl0
  cases hd : p.down with
  | true =>
   have h := h0.neg.lex (ord_ordF ps)
   have e : ordF (p :: ps) = fun a b => if - cmpF (a.getD p.at_ vl0) (b.getD p.at_ vl0) = 0 then ordF ps a b else - cmpF (a.getD p.at_ vl0) (b.getD p.at_ vl0) := by
    funext a b
    simp only [ordF, hd, if_true]
    by_cases h : cmpF (a.getD p.at_ vl0) (b.getD p.at_ vl0) = 0
    ·simp [h]
    ·have : ¬ - cmpF (a.getD p.at_ vl0) (b.getD p.at_ vl0) = 0 := by omega
     simp [h]
   rw [e]; exact h
  | false =>
   have h := h0.lex (ord_ordF ps)
   have e : ordF (p :: ps) = fun a b => if cmpF (a.getD p.at_ vl0) (b.getD p.at_ vl0) = 0 then ordF ps a b else cmpF (a.getD p.at_ vl0) (b.getD p.at_ vl0) := by
    funext a b
    simp only [ordF, hd]
    simp
   rw [e]; exact h
def ordL {α : Type} (f : α → α → Int) (l : List α) : Prop := l.Pairwise fun x y => f x y ≤ 0
theorem ahead_all {α : Type} (f : α → α → Int) (r : α) : ∀ (l : List α) (m : Nat), m ≤ l.length → (∀ x ∈ l.take m, f x r ≤ 0) → (∀ x, l[m]? = some x → ¬ f x r ≤ 0) → aheadF f r l = m
 | [], m, hm, _, _ => by simp at hm; subst hm; rfl
 | x :: l, 0, _, _, h2 => by
  simp only [aheadF]
  rw [if_neg (h2 x rfl)]
 | x :: l, m + 1, hm, h1, h2 => by
  simp only [aheadF]
  rw [if_pos (h1 x (by simp)), ahead_all f r l m (by simpa using hm) (fun y hy => h1 y (by simp [hy])) (fun y hy => h2 y (by simpa using hy))]
theorem posR_spec {α : Type} (f : α → α → Int) (d r : α) (out : List α) : ∀ m, m ≤ out.length →
  (∀ j, posR f d r out m ≤ j → j < m → f r (out.getD j d) < 0) ∧ (∀ j, posR f d r out m = j + 1 → ¬ f r (out.getD j d) < 0)
 | 0, _ => ⟨fun j h1 h2 => by omega, fun j h => by simp [posR] at h⟩
 | m + 1, hm => by
  have ih := posR_spec f d r out m (by omega)
  simp only [posR]
  by_cases h : f r (out.getD m d) < 0
  ·rw [if_pos h]
   refine ⟨fun j h1 h2 => ?_, ih.2⟩
   by_cases e : j = m
   ·subst e; exact h
   ·exact ih.1 j h1 (by omega)
  ·rw [if_neg h]
   refine ⟨fun j h1 h2 => by omega, fun j hj => ?_⟩
   have : j = m := by omega
   subst this; exact h
theorem pos_ahead {α : Type} {f : α → α → Int} (hf : Ord3 f) (d r : α) {out : List α} (ho : ordL f out) : posR f d r out out.length = aheadF f r out := by
 have hle := posR_le f d r out out.length
 obtain ⟨h1, h2⟩ := posR_spec f d r out out.length (Nat.le_refl _)
 refine (ahead_all f r out _ hle (fun x hx => ?_) (fun x hx => ?_)).symm
 ·obtain ⟨j, hj, hx⟩ := List.mem_iff_getElem.1 hx
  have hjp : j < posR f d r out out.length := by simp at hj; omega
  have hjl : j < out.length := by omega
  rw [List.getElem_take] at hx
  obtain ⟨q, hq⟩ : ∃ q, posR f d r out out.length = q + 1 := ⟨posR f d r out out.length - 1, by omega⟩
  have hql : q < out.length := by omega
  have hn := h2 q hq
  have hg : out.getD q d = out[q] := by simp [List.getD_eq_getElem?_getD, List.getElem?_eq_getElem hql]
  rw [hg] at hn
  have hxq : f x out[q] ≤ 0 ∨ x = out[q] := by
   by_cases e : j = q
   ·subst e; exact .inr hx.symm
   ·left
    have := List.pairwise_iff_getElem.1 ho j q hjl hql (by omega)
    rwa [hx] at this
  have ha := hf.anti r out[q]
  rcases hxq with h | h
  ·exact hf.tr x out[q] r h (by omega)
  ·rw [h]; omega
 ·have hlt := (List.getElem?_eq_some_iff.1 hx).1
  have hn := h1 _ (Nat.le_refl _) hlt
  have hg : out.getD (posR f d r out out.length) d = x := by simp [List.getD_eq_getElem?_getD, hx]
  rw [hg] at hn
  have ha := hf.anti x r
  omega
theorem insR_insF {α : Type} {f : α → α → Int} (hf : Ord3 f) (d r : α) {out : List α} (ho : ordL f out) : insR f d r out = insF f r out := by
 rw [insF_eq, insR, pos_ahead hf d r ho]
theorem insF_ord {α : Type} {f : α → α → Int} (hf : Ord3 f) (r : α) : ∀ {out : List α}, ordL f out → ordL f (insF f r out)
 | [], _ => by simp [insF, ordL]
 | x :: l, ho => by
  obtain ⟨h1, h2⟩ := List.pairwise_cons.1 ho
  simp only [insF]
  split
  ·rename_i h
   refine List.pairwise_cons.2 ⟨fun y hy => ?_, insF_ord hf r h2⟩
   rcases (insF_mem f r l y).1 hy with rfl | hy
   ·exact h
   ·exact h1 y hy
  ·rename_i h
   have ha := hf.anti x r
   refine List.pairwise_cons.2 ⟨fun y hy => ?_, ho⟩
   rcases List.mem_cons.1 hy with rfl | hy
   ·omega
   ·exact hf.tr r x y (by omega) (h1 y hy)
theorem sortR_sortL {α : Type} {f : α → α → Int} (hf : Ord3 f) (d : α) : ∀ (rs : List α) {out : List α}, ordL f out → sortR f d out rs = sortL f out rs
 | [], out, _ => rfl
 | r :: rs, out, ho => by
  rw [sortR, sortL, insR_insF hf d r ho]
  exact sortR_sortL hf d rs (insF_ord hf r ho)
theorem sortR_F {α : Type} {f : α → α → Int} (hf : Ord3 f) (d : α) (rs : List α) : sortR f d [] rs = sortF f rs := sortR_sortL hf d rs List.Pairwise.nil
open Go
set_option maxRecDepth 100000
set_option linter.unusedSimpArgs false
set_option linter.unusedVariables false
def ixs (p : Nat → Bool) : Nat → Bool
 | 0 => true
 | n + 1 => p n && ixs p n
def sortedF {α : Type} (f : α → α → Int) (d : α) (rows : List α) : Bool := ixs (fun j => decide (f (rows.getD j d) (rows.getD (j + 1) d) ≤ 0)) (rows.length - 1)
def mergeF {α : Type} (f : α → α → Int) : List α → List α → List α
 | [], b => b
 | a, [] => a
 | x :: a, y :: b => if f x y ≤ 0 then x :: mergeF f a (y :: b) else y :: mergeF f (x :: a) b
termination_by a b => a.length + b.length
def uniqF {α : Type} (f : α → α → Int) : List α → List α → List α
 | _, [] => []
 | seen, r :: rs => if (seen.all fun x => !decide (f x r = 0)) = true then r :: uniqF f (seen ++ [r]) rs else uniqF f (seen ++ [r]) rs
open Go
set_option maxRecDepth 100000
set_option linter.unusedSimpArgs false
set_option linter.unusedVariables false
end Go.LS
/- One of each: by sorting the numbers, and by looking back. -/
namespace Go.LS
open Go
set_option maxRecDepth 100000
set_option linter.unusedSimpArgs false
set_option linter.unusedVariables false
def firstB {α : Type} (f : α → α → Int) (d : α) (rows : List α) (m : Nat) : Bool := ixs (fun j => !decide (f (rows.getD j d) (rows.getD m d) = 0)) m
def uniqK {α : Type} (f : α → α → Int) (d : α) (rows : List α) : Nat → List α
 | 0 => []
 | k + 1 => if firstB f d rows k = true then uniqK f d rows k ++ [rows.getD k d] else uniqK f d rows k
def byNo {α : Type} (f : α → α → Int) (d : α) (rows : List α) (a b : Nat) : Int := f (rows.getD a d) (rows.getD b d)
def strictS (g : Nat → Nat → Int) (x y : Nat) : Prop := g x y < 0 ∨ (g x y = 0 ∧ x < y)
end Go.LS
