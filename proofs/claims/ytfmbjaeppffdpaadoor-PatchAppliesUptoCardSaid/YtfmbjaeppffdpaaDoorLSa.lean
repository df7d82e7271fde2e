/- Logical data, and what it is to hold it in a world. -/
import Derived.WalkKit
namespace Go.LS
open Go Go.RowKit

/-! ### Worlds -/
structure Ext (M : Nat → Prop) (w w' : World) : Prop where
  os : w'.os = w.os
  tape : w'.tape = w.tape
  output : w'.output = w.output
  size : w.heap.size ≤ w'.heap.size
  block : ∀ k, k < w.heap.size → ¬ M k → w'.heap[k]? = w.heap[k]?

def noB : Nat → Prop := fun _ => False

theorem Ext.refl (M : Nat → Prop) (w : World) : Ext M w w := ⟨rfl, rfl, rfl, Nat.le_refl _, fun _ _ _ => rfl⟩
theorem Ext.trans {M : Nat → Prop} {a b c : World} (h : Ext M a b) (k : Ext M b c) : Ext M a c :=
  ⟨k.os.trans h.os, k.tape.trans h.tape, k.output.trans h.output, Nat.le_trans h.size k.size, fun i hi hm => (k.block i (Nat.lt_of_lt_of_le hi h.size) hm).trans (h.block i hi hm)⟩
theorem Ext.weaken {M M' : Nat → Prop} {a b : World} (h : Ext M a b) (hm : ∀ k, k < a.heap.size → M k → M' k) : Ext M' a b :=
  ⟨h.os, h.tape, h.output, h.size, fun i hi hn => h.block i hi (fun e => hn (hm i hi e))⟩
theorem Ext.drew (M : Nat → Prop) (w : World) : Ext M w w.drew := ⟨rfl, rfl, rfl, Nat.le_refl _, fun _ _ _ => rfl⟩
theorem Ext.alloc (M : Nat → Prop) (w : World) (o : Obj) : Ext M w (w.alloc o) :=
  ⟨rfl, rfl, rfl, by simp, fun k hk _ => Below.heap_alloc w o k hk⟩
theorem Ext.setCell {M : Nat → Prop} (w : World) (p : Addr) (u : Value) (hp : M p.block) : Ext M w (w.setCell p u) :=
  ⟨rfl, rfl, rfl, by simp [World.setCell], fun k _ hn => Below.heap_setCell _ _ _ _ (fun e => hn (e ▸ hp))⟩
theorem Ext.of_below {w w' : World} (h : Below w.heap.size w w') : Ext noB w w' := ⟨h.os, h.tape, h.output, h.size, fun k hk _ => h.block k hk⟩
theorem Ext.below {w w' : World} (h : Ext noB w w') : Below w.heap.size w w' := ⟨h.os, h.tape, h.output, h.size, fun k hk => h.block k hk id⟩
theorem Ext.of_grown {M : Nat → Prop} {w w' : World} {row : Option Nat} (h : w.grownBy w' row) (hr : ∀ g, row = some g → M g) : Ext M w w' :=
  ⟨h.os, h.tape, h.output, h.size, fun k hk hn => h.block k hk (fun e => hn (hr k e.symm))⟩
theorem Ext.below_of {B : Nat} {a w w' : World} {M : Nat → Prop} (h : Below B a w) (he : Ext M w w') (hB : B ≤ w.heap.size) (hm : ∀ k, M k → B ≤ k) : Below B a w' :=
  h.trans ⟨he.os, he.tape, he.output, he.size, fun k hk => he.block k (by omega) (fun e => by have := hm k e; omega)⟩
theorem Ext.grow {M M' : Nat → Prop} {w0 w w' : World} (h : Ext M w0 w) (he : Ext M' w w') (hm : ∀ k, M' k → w0.heap.size ≤ k ∨ M k) : Ext M w0 w' :=
  ⟨he.os.trans h.os, he.tape.trans h.tape, he.output.trans h.output, Nat.le_trans h.size he.size, fun k hk hn => (he.block k (by have := h.size; omega) (fun e => (hm k e).elim (fun x => by omega) hn)).trans (h.block k hk hn)⟩
theorem Ext.cell {M : Nat → Prop} {w w' : World} (h : Ext M w w') {p : Addr} (hp : p.block < w.heap.size) (hn : ¬ M p.block) : w'.cell? p = w.cell? p :=
  World.cell?_of_block (h.block p.block hp hn)

theorem add_block (a : Addr) (n : Nat) : (a.add n).block = a.block := by unfold Addr.add; split <;> rfl
theorem add_add (a : Addr) (i j : Nat) : (a.add i).add j = a.add (i + j) := by
  unfold Addr.add
  by_cases hi : i = 0 <;> by_cases hj : j = 0 <;> simp [hi, hj, Nat.add_assoc]
theorem add_zero' (a : Addr) : a.add 0 = a := rfl
theorem add_lit' (g o n : Nat) : (⟨g, o, none⟩ : Addr).add n = ⟨g, o + n, none⟩ := by unfold Addr.add; split <;> simp_all

/-! ### Logical data -/
/-- A cell's logical content: a value without memory; a slice of elements of some cells; a pointer to cells; a function value with what it has captured. -/
inductive DV where
  | v (x : Value)
  | sl (size : Nat) (es : List (List DV))
  | at_ (cs : List DV)
  | clo (f : FuncId) (caps : List DV)
deriving Inhabited

mutual
def den (w : World) (O : Nat → Prop) : DV → Value → Prop
  | .v x, u => u = x ∧ x.oneCell' = true
  | .sl size es, u => ∃ A cap, u = .slice A es.length cap ∧ es.length ≤ cap ∧ cap ≤ maxLen ∧
      (0 < es.length → ∃ a, A = some a ∧ a.block < w.heap.size ∧ ¬ O a.block ∧ rdEs w O size a es)
  | .at_ cs, u => ∃ a : Addr, u = .pointer (some a) ∧ a.block < w.heap.size ∧ ¬ O a.block ∧ denCs w O a cs
  | .clo f caps, u => ∃ us : Array Value, u = .func (.func f) #[] us ∧ denVs w O caps us.toList
def denCs (w : World) (O : Nat → Prop) (a : Addr) : List DV → Prop
  | [] => True
  | c :: cs => (∃ u, w.cell? a = some u ∧ den w O c u) ∧ denCs w O (a.add 1) cs
def denVs (w : World) (O : Nat → Prop) : List DV → List Value → Prop
  | [], us => us = []
  | c :: cs, us => ∃ u r, us = u :: r ∧ den w O c u ∧ denVs w O cs r
def rdEs (w : World) (O : Nat → Prop) (size : Nat) (a : Addr) : List (List DV) → Prop
  | [] => True
  | e :: es => e.length = size ∧ denCs w O a e ∧ rdEs w O size (a.add size) es
end

section mono
variable {M O O' : Nat → Prop} {w w' : World}
/-- What is needed that readings stay: old blocks that aren't owned are as they were, and no more is owned of the old ones. -/
structure Stays (M O O' : Nat → Prop) (w w' : World) : Prop where
  ext : Ext M w w'
  muts : ∀ k, k < w.heap.size → M k → O k
  own : ∀ k, k < w.heap.size → O' k → O k

theorem Stays.cell (h : Stays M O O' w w') {a : Addr} (hb : a.block < w.heap.size) (ho : ¬ O a.block) : w'.cell? a = w.cell? a :=
  h.ext.cell hb (fun e => ho (h.muts _ hb e))

mutual
theorem den_mono (h : Stays M O O' w w') : ∀ (d : DV) (u : Value), den w O d u → den w' O' d u
  | .v x, u, hd => hd
  | .sl size es, u, hd => by
    obtain ⟨A, cap, rfl, h1, h2, h3⟩ := hd
    refine ⟨A, cap, rfl, h1, h2, fun hl => ?_⟩
    obtain ⟨a, rfl, hb, ho, hr⟩ := h3 hl
    exact ⟨a, rfl, Nat.lt_of_lt_of_le hb h.ext.size, fun e => ho (h.own _ hb e), rdEs_mono h size es a hb ho hr⟩
  | .at_ cs, u, hd => by
    obtain ⟨a, rfl, hb, ho, hr⟩ := hd
    exact ⟨a, rfl, Nat.lt_of_lt_of_le hb h.ext.size, fun e => ho (h.own _ hb e), denCs_mono h cs a hb ho hr⟩
  | .clo f caps, u, hd => by
    obtain ⟨us, rfl, hv⟩ := hd
    exact ⟨us, rfl, denVs_mono h caps us.toList hv⟩
theorem denCs_mono (h : Stays M O O' w w') : ∀ (cs : List DV) (a : Addr), a.block < w.heap.size → ¬ O a.block → denCs w O a cs → denCs w' O' a cs
  | [], _, _, _, _ => trivial
  | c :: cs, a, hb, ho, hd => by
    obtain ⟨⟨u, hc, hu⟩, hr⟩ := hd
    exact ⟨⟨u, (h.cell hb ho).trans hc, den_mono h c u hu⟩, denCs_mono h cs (a.add 1) (by rw [add_block]; exact hb) (by rw [add_block]; exact ho) hr⟩
theorem denVs_mono (h : Stays M O O' w w') : ∀ (cs : List DV) (us : List Value), denVs w O cs us → denVs w' O' cs us
  | [], _, hd => hd
  | c :: cs, us, hd => by
    obtain ⟨u, r, rfl, hu, hr⟩ := hd
    exact ⟨u, r, rfl, den_mono h c u hu, denVs_mono h cs r hr⟩
theorem rdEs_mono (h : Stays M O O' w w') (size : Nat) : ∀ (es : List (List DV)) (a : Addr), a.block < w.heap.size → ¬ O a.block → rdEs w O size a es → rdEs w' O' size a es
  | [], _, _, _, _ => trivial
  | e :: es, a, hb, ho, hd => by
    obtain ⟨hl, hc, hr⟩ := hd
    exact ⟨hl, denCs_mono h e a hb ho hc, rdEs_mono h size es (a.add size) (by rw [add_block]; exact hb) (by rw [add_block]; exact ho) hr⟩
end

/-- The same, where the very block (an owned one) lies as it lay, or has the same cells. -/
theorem denCs_mono' (h : Stays M O O' w w') : ∀ (cs : List DV) (a : Addr) (n : Nat), cs.length ≤ n → (∀ j, j < n → w'.cell? (a.add j) = w.cell? (a.add j)) → denCs w O a cs → denCs w' O' a cs
  | [], _, _, _, _, _ => trivial
  | c :: cs, a, 0, hn, _, _ => by simp at hn
  | c :: cs, a, n + 1, hn, hcell, hd => by
    obtain ⟨⟨u, hc, hu⟩, hr⟩ := hd
    refine ⟨⟨u, (hcell 0 (by omega)).trans hc, den_mono h c u hu⟩, denCs_mono' h cs (a.add 1) n (by simpa using hn) (fun j hj => ?_) hr⟩
    rw [add_add]
    exact hcell (1 + j) (by omega)
theorem rdEs_mono' (h : Stays M O O' w w') (size : Nat) : ∀ (es : List (List DV)) (a : Addr) (n : Nat), es.length * size ≤ n → (∀ j, j < n → w'.cell? (a.add j) = w.cell? (a.add j)) → rdEs w O size a es → rdEs w' O' size a es
  | [], _, _, _, _, _ => trivial
  | e :: es, a, n, hn, hcell, hd => by
    obtain ⟨hl, hc, hr⟩ := hd
    simp only [List.length_cons, Nat.add_mul, Nat.one_mul] at hn
    refine ⟨hl, denCs_mono' h e a n (by omega) hcell hc, rdEs_mono' h size es (a.add size) (n - size) (by omega) (fun j hj => ?_) hr⟩
    rw [add_add]
    exact hcell (size + j) (by omega)
end mono

section reads
variable {O : Nat → Prop} {w : World}
theorem denCs_append : ∀ (xs ys : List DV) (a : Addr), denCs w O a (xs ++ ys) ↔ denCs w O a xs ∧ denCs w O (a.add xs.length) ys
  | [], ys, a => by simp [denCs, add_zero']
  | x :: xs, ys, a => by
    simp only [List.cons_append, denCs, List.length_cons]
    rw [denCs_append xs ys (a.add 1), add_add, Nat.add_comm 1]
    exact ⟨fun ⟨h1, h2, h3⟩ => ⟨⟨h1, h2⟩, h3⟩, fun ⟨⟨h1, h2⟩, h3⟩ => ⟨h1, h2, h3⟩⟩
theorem rdEs_append (size : Nat) : ∀ (xs ys : List (List DV)) (a : Addr), rdEs w O size a (xs ++ ys) ↔ rdEs w O size a xs ∧ rdEs w O size (a.add (xs.length * size)) ys
  | [], ys, a => by simp [rdEs, add_zero']
  | x :: xs, ys, a => by
    simp only [List.cons_append, rdEs, List.length_cons]
    rw [rdEs_append size xs ys (a.add size), add_add, show size + xs.length * size = (xs.length + 1) * size by rw [Nat.add_mul]; omega]
    exact ⟨fun ⟨h1, h2, h3, h4⟩ => ⟨⟨h1, h2, h3⟩, h4⟩, fun ⟨⟨h1, h2, h3⟩, h4⟩ => ⟨h1, h2, h3, h4⟩⟩
theorem rdEs_get {size : Nat} {es : List (List DV)} {a : Addr} (h : rdEs w O size a es) {i : Nat} (hi : i < es.length) : es[i].length = size ∧ denCs w O (a.add (i * size)) es[i] := by
  have e : es = es.take i ++ es[i] :: es.drop (i + 1) := by simp
  rw [e, rdEs_append] at h
  obtain ⟨_, h2⟩ := h
  rw [List.length_take, Nat.min_eq_left (by omega)] at h2
  exact ⟨h2.1, h2.2.1⟩
theorem rdEs_drop {size : Nat} {es : List (List DV)} {a : Addr} (h : rdEs w O size a es) (k : Nat) (hk : k ≤ es.length) : rdEs w O size (a.add (k * size)) (es.drop k) := by
  have e : es = es.take k ++ es.drop k := by simp
  rw [e, rdEs_append, List.length_take, Nat.min_eq_left hk] at h
  exact h.2
theorem rdEs_take {size : Nat} {es : List (List DV)} {a : Addr} (h : rdEs w O size a es) (k : Nat) : rdEs w O size a (es.take k) := by
  have e : es = es.take k ++ es.drop k := by simp
  rw [e, rdEs_append] at h
  exact h.1
theorem denCs_get {cs : List DV} {a : Addr} (h : denCs w O a cs) {i : Nat} (hi : i < cs.length) : ∃ u, w.cell? (a.add i) = some u ∧ den w O cs[i] u := by
  have e : cs = cs.take i ++ cs[i] :: cs.drop (i + 1) := by simp
  rw [e, denCs_append] at h
  rw [List.length_take, Nat.min_eq_left (by omega)] at h
  exact h.2.1
theorem denCs_drop {cs : List DV} {a : Addr} (h : denCs w O a cs) (k : Nat) (hk : k ≤ cs.length) : denCs w O (a.add k) (cs.drop k) := by
  have e : cs = cs.take k ++ cs.drop k := by simp
  rw [e, denCs_append, List.length_take, Nat.min_eq_left hk] at h
  exact h.2
theorem denCs_take {cs : List DV} {a : Addr} (h : denCs w O a cs) (k : Nat) : denCs w O a (cs.take k) := by
  have e : cs = cs.take k ++ cs.drop k := by simp
  rw [e, denCs_append] at h
  exact h.1
/-- The cells, written out. -/
theorem denCs_vals : ∀ {cs : List DV} {a : Addr}, denCs w O a cs → ∃ us : List Value, denVs w O cs us ∧ us.length = cs.length ∧ ∀ j u, us[j]? = some u → w.cell? (a.add j) = some u
  | [], a, _ => ⟨[], rfl, rfl, fun j u h => by simp at h⟩
  | c :: cs, a, h => by
    obtain ⟨⟨u, hc, hu⟩, hr⟩ := h
    obtain ⟨us, h1, h2, h3⟩ := denCs_vals hr
    refine ⟨u :: us, ⟨u, us, rfl, hu, h1⟩, by simp [h2], fun j v hj => ?_⟩
    cases j with
    | zero => simp at hj; subst hj; exact hc
    | succ j =>
      have := h3 j v (by simpa using hj)
      rw [add_add, Nat.add_comm 1] at this
      exact this
theorem denCs_of_vals : ∀ {cs : List DV} {us : List Value} {a : Addr}, denVs w O cs us → (∀ j u, us[j]? = some u → w.cell? (a.add j) = some u) → denCs w O a cs
  | [], us, a, _, _ => trivial
  | c :: cs, us, a, h, hc => by
    obtain ⟨u, r, rfl, hu, hr⟩ := h
    refine ⟨⟨u, hc 0 u rfl, hu⟩, denCs_of_vals hr (fun j v hj => ?_)⟩
    rw [add_add, Nat.add_comm 1]
    exact hc (j + 1) v (by simpa using hj)
theorem denVs_length : ∀ {cs : List DV} {us : List Value}, denVs w O cs us → us.length = cs.length
  | [], us, h => by simp only [denVs] at h; simp [h]
  | c :: cs, us, h => by
    obtain ⟨u, r, rfl, _, hr⟩ := h
    simp [denVs_length hr]
theorem denVs_append : ∀ {xs ys : List DV} {us vs : List Value}, denVs w O xs us → denVs w O ys vs → denVs w O (xs ++ ys) (us ++ vs)
  | [], ys, us, vs, h, h' => by simp only [denVs] at h; subst h; simpa using h'
  | c :: xs, ys, us, vs, h, h' => by
    obtain ⟨u, r, rfl, hu, hr⟩ := h
    exact ⟨u, r ++ vs, rfl, hu, denVs_append hr h'⟩
/-- The elements' cells, written out in a row. -/
theorem rdEs_vals (size : Nat) : ∀ {es : List (List DV)} {a : Addr}, rdEs w O size a es → ∃ us : List Value, denVs w O es.flatten us ∧ us.length = es.length * size ∧ (∀ e ∈ es, e.length = size) ∧ ∀ j u, us[j]? = some u → w.cell? (a.add j) = some u
  | [], a, _ => ⟨[], rfl, by simp, by simp, fun j u h => by simp at h⟩
  | e :: es, a, h => by
    obtain ⟨hl, hc, hr⟩ := h
    obtain ⟨us, h1, h2, h3⟩ := denCs_vals hc
    obtain ⟨vs, k1, k2, k3, k4⟩ := rdEs_vals size hr
    refine ⟨us ++ vs, denVs_append h1 k1, by simp [h2, hl, k2, Nat.add_mul]; omega, by simpa [hl] using k3, fun j v hj => ?_⟩
    rw [List.getElem?_append] at hj
    split at hj
    · exact h3 j v hj
    · have := k4 _ v hj
      rw [add_add] at this
      rwa [show size + (j - us.length) = j by omega] at this
theorem rdEs_of_vals (size : Nat) : ∀ {es : List (List DV)} {us : List Value} {a : Addr}, denVs w O es.flatten us → (∀ e ∈ es, e.length = size) → (∀ j u, us[j]? = some u → w.cell? (a.add j) = some u) → rdEs w O size a es
  | [], us, a, _, _, _ => trivial
  | e :: es, us, a, h, hl, hc => by
    have hle : e.length = size := hl e (by simp)
    have key : ∀ {xs ys : List DV} {us : List Value}, denVs w O (xs ++ ys) us → denVs w O xs (us.take xs.length) ∧ denVs w O ys (us.drop xs.length) := by
      intro xs
      induction xs with
      | nil => intro ys us h; exact ⟨by simp [denVs], by simpa using h⟩
      | cons x xs ih =>
        intro ys us h
        obtain ⟨u, r, rfl, hu, hr⟩ := h
        obtain ⟨i1, i2⟩ := ih hr
        exact ⟨⟨u, _, rfl, hu, i1⟩, by simpa using i2⟩
    rw [List.flatten_cons] at h
    obtain ⟨h1, h2⟩ := key h
    refine ⟨hle, denCs_of_vals h1 (fun j u hj => ?_), rdEs_of_vals size h2 (fun e' he' => hl e' (by simp [he'])) (fun j u hj => ?_)⟩
    · rw [List.getElem?_take] at hj
      split at hj
      · exact hc j u hj
      · cases hj
    · rw [add_add]
      rw [List.getElem?_drop, hle] at hj
      exact hc _ u hj
/-- No cell's content is an aggregate: data never is. -/
theorem den_oneCell {d : DV} {u : Value} (h : den w O d u) : u.oneCell' = true := by
  cases d with
  | v x => obtain ⟨rfl, h⟩ := h; exact h
  | sl size es => obtain ⟨A, cap, rfl, _⟩ := h; rfl
  | at_ cs => obtain ⟨a, rfl, _⟩ := h; rfl
  | clo f caps => obtain ⟨us, rfl, _⟩ := h; rfl
end reads
end Go.LS
