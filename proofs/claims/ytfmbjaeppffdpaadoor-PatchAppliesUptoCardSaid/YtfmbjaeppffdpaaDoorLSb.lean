/- Logical states: what the slots hold, and the objects of one's own. -/
import Derived.Test.YtfmbjaeppffdpaaDoorLSa
namespace Go.LS
open Go Go.RowKit

inductive CV where
  | d (x : DV)
  | op (k off : Nat)
  | oe (k i off : Nat)
  | os (k : Nat)
  | om (k : Nat)
  | any
deriving Inhabited

inductive LV where
  | c (x : CV)
  | ag (cs : List CV)
  | tu (vs : List LV)
deriving Inhabited

inductive OB where
  | bx (t : TypeId) (cs : List CV)
  | rw (t : TypeId) (size : Nat) (es : List (List DV))
  | mp (es : List (ByteArray × DV))
  | dead
deriving Inhabited

def OB.isDead : OB → Bool
  | .dead => true
  | _ => false

structure LS where
  sl : List (Nat × LV)
  ob : List OB

def live (ob : List OB) (k : Nat) : Prop := ∃ o, ob[k]? = some o ∧ o.isDead = false
/-- Where the objects lie; and which blocks are another one's. -/
structure Io where
  f : Nat → Option Nat
  E : Nat → Prop
instance : CoeFun Io (fun _ => Nat → Option Nat) := ⟨Io.f⟩
structure W0 extends World where
  E : Nat → Prop
  M : Nat → Prop
  at_ : Nat → Option Nat
/-- A row's type; a row that was handed in, to be written to, bears a mark above it. -/
def tyOf (t : Nat) : Nat := t % 1000000
def capOK (t cap : Nat) : Prop := cap ≤ maxLen ∧ (1000000 ≤ t → cap + 1 = t / 1000000)
theorem capOK_small {t cap : Nat} (h : t < 1000000) (hc : cap ≤ maxLen) : capOK t cap := ⟨hc, fun h' => by omega⟩
theorem tyOf_small {t : Nat} (h : t < 1000000) : tyOf t = t := Nat.mod_eq_of_lt h
def own (ι : Io) (ob : List OB) (g : Nat) : Prop := ι.E g ∨ ∃ k, live ob k ∧ ι k = some g

theorem live.lt {ob : List OB} {k : Nat} (h : live ob k) : k < ob.length := by
  obtain ⟨o, h, _⟩ := h
  exact (List.getElem?_eq_some_iff.1 h).1
theorem live_of {ob : List OB} {k : Nat} {o : OB} (h : ob[k]? = some o) (hd : o.isDead = false) : live ob k := ⟨o, h, hd⟩

/-- A row's header. -/
def hdr (w : World) (g : Option Nat) (size n : Nat) (u : Value) : Prop :=
  (g = none ∧ n = 0 ∧ u = .slice none 0 0) ∨ ∃ b cur cap t, g = some b ∧ w.heap[b]? = some (.cells cur t (0, 0)) ∧ cur.size = cap * size ∧ n ≤ cap ∧ cap ≤ maxLen ∧ u = .slice (some ⟨b, 0, none⟩) n cap

def dcv (w : World) (O : Nat → Prop) (ι : Io) (ob : List OB) : CV → Value → Prop
  | .d x, u => den w O x u
  | .op k off, u => ∃ g, live ob k ∧ ι k = some g ∧ u = .pointer (some ⟨g, off, none⟩)
  | .oe k i off, u => ∃ g t size es, ι k = some g ∧ ob[k]? = some (.rw t size es) ∧ i < es.length ∧ u = .pointer (some ⟨g, i * size + off, none⟩)
  | .os k, u => ∃ t size es, ob[k]? = some (.rw t size es) ∧ hdr w (ι k) size es.length u
  | .om k, u => ∃ g, live ob k ∧ ι k = some g ∧ u = .map (some g)
  | .any, u => u.oneCell' = true

def dcvs (w : World) (O : Nat → Prop) (ι : Io) (ob : List OB) : List CV → List Value → Prop
  | [], us => us = []
  | c :: cs, us => ∃ u r, us = u :: r ∧ dcv w O ι ob c u ∧ dcvs w O ι ob cs r

def dl1 (w : World) (O : Nat → Prop) (ι : Io) (ob : List OB) : LV → Value → Prop
  | .c .any, _ => True
  | .c x, u => dcv w O ι ob x u
  | .ag cs, u => ∃ us : Array Value, u = .agg us ∧ dcvs w O ι ob cs us.toList
  | .tu _, _ => False
def dl1s (w : World) (O : Nat → Prop) (ι : Io) (ob : List OB) : List LV → List Value → Prop
  | [], us => us = []
  | c :: cs, us => ∃ u r, us = u :: r ∧ dl1 w O ι ob c u ∧ dl1s w O ι ob cs r
def dlv (w : World) (O : Nat → Prop) (ι : Io) (ob : List OB) : LV → Value → Prop
  | .tu vs, u => ∃ us : Array Value, u = .tuple us ∧ dl1s w O ι ob vs us.toList
  | x, u => dl1 w O ι ob x u

def dents (w : World) (O : Nat → Prop) : List (ByteArray × DV) → List MapEntry → Prop
  | [], l => l = []
  | (k, x) :: r, l => ∃ e l', l = e :: l' ∧ e.key = .string k ∧ den w O x e.val ∧ dents w O r l'

def dob (w : World) (O : Nat → Prop) (ι : Io) (ob : List OB) (k : Nat) : OB → Prop
  | .bx t cs => ∃ g us, ι k = some g ∧ w.heap[g]? = some (.cells us t (0, 0)) ∧ dcvs w O ι ob cs us.toList
  | .rw t size es => 0 < size ∧ ((ι k = none ∧ es = []) ∨ ∃ g cur cap, ι k = some g ∧ w.heap[g]? = some (.cells cur (tyOf t) (0, 0)) ∧ cur.size = cap * size ∧ es.length ≤ cap ∧ capOK t cap ∧ rdEs w O size ⟨g, 0, none⟩ es)
  | .mp es => ∃ g ents clk, ι k = some g ∧ w.heap[g]? = some (.map ents clk) ∧ dents w O es ents.toList
  | .dead => True

structure StI (N : Nat) (w0 : W0) (ι : Io) (σ : LS) (a : Act) (w : World) : Prop where
  defers : a.defers = []
  size : a.tmps.size = N
  below : Ext w0.M w0.toWorld w
  slots : ∀ p ∈ σ.sl, ∃ v, a.tmps[p.1]? = some v ∧ dlv w (own ι σ.ob) ι σ.ob p.2 v
  objs : ∀ k o, σ.ob[k]? = some o → dob w (own ι σ.ob) ι σ.ob k o
  inj : ∀ k k' g, live σ.ob k → live σ.ob k' → ι k = some g → ι k' = some g → k = k'
  base : ∀ k g, live σ.ob k → ι k = some g → w0.heap.size ≤ g ∨ w0.M g
  out : ι.E = w0.E ∧ ∀ g, w0.E g → g < w0.heap.size ∧ ¬ w0.M g
  pin : ∀ k (t : Nat) size es, σ.ob[k]? = some (.rw t size es) → 1000000 ≤ t → ι k = w0.at_ k

def St (N : Nat) (w0 : W0) (σ : LS) (a : Act) (w : World) : Prop := ∃ ι, StI N w0 ι σ a w

/-! ### What a state says of a slot -/
def getS : List (Nat × LV) → Nat → LV
  | [], _ => .c .any
  | (j, x) :: r, i => bif j == i then x else getS r i
def delS : List (Nat × LV) → Nat → List (Nat × LV)
  | [], _ => []
  | (j, x) :: r, i => bif j == i then delS r i else (j, x) :: delS r i
def LS.put (σ : LS) (d : Nat) (x : LV) : LS := { σ with sl := (d, x) :: delS σ.sl d }
def LS.putO (σ : LS) : Option Nat → LV → LS
  | some d, x => σ.put d x
  | none, _ => σ
def LS.del (σ : LS) : Option Nat → LS
  | some d => { σ with sl := delS σ.sl d }
  | none => σ

theorem mem_delS {p : Nat × LV} {i : Nat} : ∀ {l : List (Nat × LV)}, p ∈ delS l i → p ∈ l ∧ p.1 ≠ i
  | [], h => by simp [delS] at h
  | (j, x) :: r, h => by
    simp only [delS] at h
    by_cases e : j = i
    · subst e
      simp only [beq_self_eq_true, cond_true] at h
      have := mem_delS h
      exact ⟨by simp [this.1], this.2⟩
    · rw [show (j == i) = false by simpa using e, cond_false] at h
      rcases List.mem_cons.1 h with rfl | h
      · exact ⟨by simp, e⟩
      · have := mem_delS h
        exact ⟨by simp [this.1], this.2⟩

theorem getS_mem : ∀ {l : List (Nat × LV)} {i : Nat}, getS l i = .c .any ∨ (i, getS l i) ∈ l
  | [], i => .inl rfl
  | (j, x) :: r, i => by
    simp only [getS]
    by_cases e : j = i
    · subst e; simp
    · rw [show (j == i) = false by simpa using e, cond_false]
      rcases getS_mem (l := r) (i := i) with h | h
      · exact .inl h
      · exact .inr (by simp [h])

section
variable {N : Nat} {w0 : W0} {ι : Io} {σ : LS} {a : Act} {w : World}

theorem StI.get (h : StI N w0 ι σ a w) {i : Nat} (_hi : i < N) : dlv w (own ι σ.ob) ι σ.ob (getS σ.sl i) (a.tmps.getD i undef) := by
  rcases getS_mem (l := σ.sl) (i := i) with e | e
  · rw [e]; trivial
  · obtain ⟨v, hv, hd⟩ := h.slots _ e
    simp only at hv
    rw [Array.getD_eq_getD_getElem?, hv]
    exact hd

theorem put_tmps (a : Act) (d : Nat) (v : Value) : (a.put (some d) v).tmps = a.tmps.setIfInBounds d v := rfl
theorem put_defers (a : Act) (d : Option Nat) (v : Value) : (a.put d v).defers = a.defers := by cases d <;> rfl
theorem put_size (a : Act) (d : Option Nat) (v : Value) : (a.put d v).tmps.size = a.tmps.size := by cases d <;> simp [Act.put]

theorem StI.put (h : StI N w0 ι σ a w) {d : Nat} (hd : d < N) {x : LV} {v : Value} (hv : dlv w (own ι σ.ob) ι σ.ob x v) : StI N w0 ι (σ.put d x) (a.put (some d) v) w where
  defers := h.defers
  size := by rw [put_size]; exact h.size
  below := h.below
  slots := by
    intro p hp
    rw [put_tmps]
    rcases List.mem_cons.1 hp with rfl | hp
    · exact ⟨v, by simp [h.size, hd], hv⟩
    · obtain ⟨h1, h2⟩ := mem_delS hp
      obtain ⟨u, hu, hdu⟩ := h.slots p h1
      exact ⟨u, by rw [Array.getElem?_setIfInBounds_ne (Ne.symm h2)]; exact hu, hdu⟩
  objs := h.objs
  inj := h.inj
  base := h.base
  out := h.out
  pin := h.pin

theorem StI.putO (h : StI N w0 ι σ a w) {d : Option Nat} (hd : ∀ k, d = some k → k < N) {x : LV} {v : Value} (hv : dlv w (own ι σ.ob) ι σ.ob x v) : StI N w0 ι (σ.putO d x) (a.put d v) w := by
  cases d with
  | none => exact h
  | some d => exact h.put (hd d rfl) hv

theorem StI.del (h : StI N w0 ι σ a w) (d : Option Nat) (v : Value) : StI N w0 ι (σ.del d) (a.put d v) w := by
  cases d with
  | none => exact h
  | some d =>
    refine ⟨h.defers, by rw [put_size]; exact h.size, h.below, ?_, h.objs, h.inj, h.base, h.out, h.pin⟩
    intro p hp
    obtain ⟨h1, h2⟩ := mem_delS hp
    obtain ⟨u, hu, hdu⟩ := h.slots p h1
    exact ⟨u, by rw [put_tmps, Array.getElem?_setIfInBounds_ne (Ne.symm h2)]; exact hu, hdu⟩

/-- Fewer slots are spoken of. -/
theorem StI.sub (h : StI N w0 ι σ a w) {sl : List (Nat × LV)} (hs : ∀ p ∈ sl, p ∈ σ.sl) : StI N w0 ι { σ with sl } a w :=
  ⟨h.defers, h.size, h.below, fun p hp => h.slots p (hs p hp), h.objs, h.inj, h.base, h.out, h.pin⟩
end

/-! ### When the world goes on -/
section mono
variable {M O O' : Nat → Prop} {w w' : World} {ι ι' : Io} {ob ob' : List OB}

theorem dcvs_imp {R : CV → Value → Prop} : ∀ {cs : List CV} {us : List Value}, dcvs w O ι ob cs us → (∀ c u, c ∈ cs → dcv w O ι ob c u → dcv w' O' ι' ob' c u) → dcvs w' O' ι' ob' cs us
  | [], us, h, _ => h
  | c :: cs, us, h, hi => by
    obtain ⟨u, r, rfl, hu, hr⟩ := h
    exact ⟨u, r, rfl, hi c u (by simp) hu, dcvs_imp (R := R) hr (fun c u hc => hi c u (by simp [hc]))⟩

theorem hdr_ext (h : Ext M w w') {g : Option Nat} {size n : Nat} {u : Value} (hg : ∀ b, g = some b → ¬ M b) (hh : hdr w g size n u) : hdr w' g size n u := by
  rcases hh with hh | ⟨b, cur, cap, t, rfl, hb, hr⟩
  · exact .inl hh
  · exact .inr ⟨b, cur, cap, t, rfl, (h.block b (Array.getElem?_eq_some_iff.1 hb).1 (hg b rfl)).trans hb, hr⟩

theorem dents_mono (h : Stays M O O' w w') : ∀ {es : List (ByteArray × DV)} {l : List MapEntry}, dents w O es l → dents w' O' es l
  | [], l, hd => hd
  | (k, x) :: r, l, hd => by
    obtain ⟨e, l', rfl, hk, hx, hr⟩ := hd
    exact ⟨e, l', rfl, hk, den_mono h _ _ hx, dents_mono h hr⟩

theorem dcv_ext (h : Stays noB O O' w w') {c : CV} {u : Value} (hd : dcv w O ι ob c u) : dcv w' O' ι ob c u := by
  cases c with
  | d x => exact den_mono h x u hd
  | os k =>
    obtain ⟨t, size, es, ho, hh⟩ := hd
    exact ⟨t, size, es, ho, hdr_ext h.ext (fun _ _ => id) hh⟩
  | _ => exact hd

theorem dl1_imp (hi : ∀ c u, dcv w O ι ob c u → dcv w' O' ι' ob' c u) : ∀ {x : LV} {u : Value}, dl1 w O ι ob x u → dl1 w' O' ι' ob' x u
  | .c .any, _, _ => trivial
  | .c (.d x), u, h => hi (.d x) u h
  | .c (.op k off), u, h => hi (.op k off) u h
  | .c (.oe k i off), u, h => hi (.oe k i off) u h
  | .c (.os k), u, h => hi (.os k) u h
  | .c (.om k), u, h => hi (.om k) u h
  | .ag cs, u, h => by
    obtain ⟨us, rfl, hd⟩ := h
    exact ⟨us, rfl, dcvs_imp (R := fun _ _ => True) hd (fun c u _ => hi c u)⟩
  | .tu _, _, h => h.elim
theorem dl1s_imp (hi : ∀ c u, dcv w O ι ob c u → dcv w' O' ι' ob' c u) : ∀ {xs : List LV} {us : List Value}, dl1s w O ι ob xs us → dl1s w' O' ι' ob' xs us
  | [], _, h => h
  | x :: xs, us, h => by
    obtain ⟨u, r, rfl, hu, hr⟩ := h
    exact ⟨u, r, rfl, dl1_imp hi hu, dl1s_imp hi hr⟩
theorem dlv_imp (hi : ∀ c u, dcv w O ι ob c u → dcv w' O' ι' ob' c u) : ∀ {x : LV} {u : Value}, dlv w O ι ob x u → dlv w' O' ι' ob' x u
  | .c x, u, h => dl1_imp (x := .c x) hi h
  | .ag cs, u, h => dl1_imp (x := .ag cs) hi h
  | .tu xs, u, h => by
    obtain ⟨us, rfl, hd⟩ := h
    exact ⟨us, rfl, dl1s_imp hi hd⟩

theorem own_lt {w0 : W0} {N : Nat} {σ : LS} {a : Act} (h : StI N w0 ι σ a w) {g : Nat} (ho : own ι σ.ob g) : g < w.heap.size := by
  rcases ho with ho | ⟨k, ⟨o, hk, hd⟩, hg⟩
  · exact Nat.lt_of_lt_of_le (h.out.2 g (h.out.1 ▸ ho)).1 h.below.size
  have := h.objs k o hk
  cases o with
  | bx t cs =>
    obtain ⟨g', us, h1, h2, _⟩ := this
    rw [hg] at h1; cases h1
    exact (Array.getElem?_eq_some_iff.1 h2).1
  | rw t size es =>
    obtain ⟨_, h1 | ⟨g', cur, cap, h1, h2, _⟩⟩ := this
    · rw [hg] at h1; cases h1.1
    · rw [hg] at h1; cases h1
      exact (Array.getElem?_eq_some_iff.1 h2).1
  | mp es =>
    obtain ⟨g', ents, clk, h1, h2, _⟩ := this
    rw [hg] at h1; cases h1
    exact (Array.getElem?_eq_some_iff.1 h2).1
  | dead => cases hd

theorem dob_ext (h : Stays noB O O' w w') {k : Nat} {o : OB} (hd : dob w O ι ob k o) : dob w' O' ι ob k o := by
  cases o with
  | bx t cs =>
    obtain ⟨g, us, h1, h2, h3⟩ := hd
    exact ⟨g, us, h1, (h.ext.block g (Array.getElem?_eq_some_iff.1 h2).1 id).trans h2, dcvs_imp (R := fun _ _ => True) h3 (fun c u _ => dcv_ext h)⟩
  | rw t size es =>
    refine ⟨hd.1, ?_⟩
    rcases hd.2 with h1 | ⟨g, cur, cap, h1, h2, h3, h4, h5, h6⟩
    · exact .inl h1
    · have hb := h.ext.block g (Array.getElem?_eq_some_iff.1 h2).1 id
      refine .inr ⟨g, cur, cap, h1, hb.trans h2, h3, h4, h5, rdEs_mono' h size es _ _ (Nat.le_refl _) (fun j _ => ?_) h6⟩
      exact World.cell?_of_block (by rw [add_block]; exact hb)
  | mp es =>
    obtain ⟨g, ents, clk, h1, h2, h3⟩ := hd
    exact ⟨g, ents, clk, h1, (h.ext.block g (Array.getElem?_eq_some_iff.1 h2).1 id).trans h2, dents_mono h h3⟩
  | dead => trivial

/-- Nothing that was there has turned. -/
theorem StI.ext {w0 : W0} {N : Nat} {σ : LS} {a : Act} (h : StI N w0 ι σ a w) (he : Ext noB w w') : StI N w0 ι σ a w' := by
  have hs : Stays noB (own ι σ.ob) (own ι σ.ob) w w' := ⟨he, fun _ _ h => h.elim, fun _ _ h => h⟩
  exact ⟨h.defers, h.size, h.below.grow he (fun _ h => h.elim), fun p hp => by
    obtain ⟨v, hv, hd⟩ := h.slots p hp
    exact ⟨v, hv, dlv_imp (fun c u => dcv_ext hs) hd⟩, fun k o hk => dob_ext hs (h.objs k o hk), h.inj, h.base, h.out, h.pin⟩
end mono

/-! ### A new object -/
section new
variable {N : Nat} {w0 : W0} {ι : Io} {σ : LS} {a : Act} {w w' : World}

def upd (ι : Io) (k : Nat) (g : Option Nat) : Io := ⟨fun j => if j = k then g else ι j, ι.E⟩
theorem upd_same (ι : Io) (k : Nat) (g : Option Nat) : upd ι k g k = g := by unfold upd; exact if_pos rfl
theorem upd_ne (ι : Io) {j k : Nat} (g : Option Nat) (h : j ≠ k) : upd ι k g j = ι j := by unfold upd; exact if_neg h
def LS.add (σ : LS) (o : OB) : LS := { σ with ob := σ.ob ++ [o] }

theorem live_add {ob : List OB} {o : OB} {k : Nat} (h : live (ob ++ [o]) k) : live ob k ∨ (k = ob.length ∧ o.isDead = false) := by
  obtain ⟨o', hk, hd⟩ := h
  by_cases hlt : k < ob.length
  · rw [List.getElem?_append_left hlt] at hk
    exact .inl ⟨o', hk, hd⟩
  · rw [List.getElem?_append_right (by omega)] at hk
    have : k - ob.length = 0 := by
      have := (List.getElem?_eq_some_iff.1 hk).1
      simp at this; omega
    rw [this] at hk
    simp at hk
    subst hk
    exact .inr ⟨by omega, hd⟩
theorem live_add_old {ob : List OB} {o : OB} {k : Nat} (h : live ob k) : live (ob ++ [o]) k := by
  have := h.lt
  obtain ⟨o', hk, hd⟩ := h
  exact ⟨o', by rw [List.getElem?_append_left this]; exact hk, hd⟩

theorem dcv_add {O O' : Nat → Prop} (hs : Stays noB O O' w w') {o : OB} {g : Option Nat} {c : CV} {u : Value} (h : dcv w O ι σ.ob c u) :
    dcv w' O' (upd ι σ.ob.length g) (σ.ob ++ [o]) c u := by
  have hk : ∀ k, k < σ.ob.length → upd ι σ.ob.length g k = ι k := fun k hk => by exact upd_ne ι g (by omega)
  have ho : ∀ k x, σ.ob[k]? = some x → (σ.ob ++ [o])[k]? = some x := fun k x hx => by rw [List.getElem?_append_left (List.getElem?_eq_some_iff.1 hx).1]; exact hx
  cases c with
  | d x => exact den_mono hs x u h
  | op k off =>
    obtain ⟨g', hl, h1, h2⟩ := h
    exact ⟨g', live_add_old hl, (hk k hl.lt).trans h1, h2⟩
  | oe k i off =>
    obtain ⟨g', t, size, es, h1, h2, h3⟩ := h
    exact ⟨g', t, size, es, (hk k (List.getElem?_eq_some_iff.1 h2).1).trans h1, ho _ _ h2, h3⟩
  | os k =>
    obtain ⟨t, size, es, h1, h2⟩ := h
    refine ⟨t, size, es, ho _ _ h1, ?_⟩
    rw [hk k (List.getElem?_eq_some_iff.1 h1).1]
    exact hdr_ext hs.ext (fun _ _ => id) h2
  | om k =>
    obtain ⟨g', hl, h1, h2⟩ := h
    exact ⟨g', live_add_old hl, (hk k hl.lt).trans h1, h2⟩
  | any => exact h

/-- An object of one's own more: in a world that went on, at block g (new), or nowhere yet. -/
theorem StI.add (h : StI N w0 ι σ a w) (he : Ext noB w w') {o : OB} {g : Option Nat} (hg : ∀ b, g = some b → w.heap.size ≤ b) (hsm : ∀ (t : Nat) size es, o = .rw t size es → t < 1000000)
    (ho : dob w' (own (upd ι σ.ob.length g) (σ.ob ++ [o])) (upd ι σ.ob.length g) (σ.ob ++ [o]) σ.ob.length o) :
    StI N w0 (upd ι σ.ob.length g) (σ.add o) a w' := by
  have hk : ∀ k, k < σ.ob.length → upd ι σ.ob.length g k = ι k := fun k hk => by exact upd_ne ι g (by omega)
  have hkk : upd ι σ.ob.length g σ.ob.length = g := upd_same ι _ g
  have hs : Stays noB (own ι σ.ob) (own (upd ι σ.ob.length g) (σ.ob ++ [o])) w w' := ⟨he, fun _ _ h => h.elim, fun b hb ho => by
    rcases ho with ho | ⟨k, hl, hi⟩
    · exact .inl ho
    rcases live_add hl with hl | ⟨rfl, _⟩
    · exact .inr ⟨k, hl, (hk k hl.lt) ▸ hi⟩
    · rw [hkk] at hi
      have := hg b hi
      omega⟩
  refine ⟨h.defers, h.size, h.below.grow he (fun _ h => h.elim), fun p hp => ?_, fun k o' hk' => ?_, fun k k' b hl hl' hi hi' => ?_, fun k b hl hi => ?_, h.out, fun k t size es hk' ht => ?_⟩
  · obtain ⟨v, hv, hd⟩ := h.slots p hp
    exact ⟨v, hv, dlv_imp (fun c u hc => dcv_add hs hc) hd⟩
  · by_cases hlt : k < σ.ob.length
    · have hk'' : σ.ob[k]? = some o' := by
        have : (σ.ob ++ [o])[k]? = some o' := hk'
        rwa [List.getElem?_append_left hlt] at this
      have hd := h.objs k o' hk''
      cases o' with
      | bx t cs =>
        obtain ⟨b, us, h1, h2, h3⟩ := hd
        exact ⟨b, us, (hk k hlt).trans h1, (he.block b (Array.getElem?_eq_some_iff.1 h2).1 id).trans h2, dcvs_imp (R := fun _ _ => True) h3 (fun c u _ hc => dcv_add hs hc)⟩
      | rw t size es =>
        refine ⟨hd.1, ?_⟩
        rcases hd.2 with h1 | ⟨b, cur, cap, h1, h2, h3, h4, h5, h6⟩
        · exact .inl ⟨(hk k hlt).trans h1.1, h1.2⟩
        · have hb := he.block b (Array.getElem?_eq_some_iff.1 h2).1 id
          exact .inr ⟨b, cur, cap, (hk k hlt).trans h1, hb.trans h2, h3, h4, h5, rdEs_mono' hs size es _ _ (Nat.le_refl _) (fun j _ => World.cell?_of_block (by rw [add_block]; exact hb)) h6⟩
      | mp es =>
        obtain ⟨b, ents, clk, h1, h2, h3⟩ := hd
        exact ⟨b, ents, clk, (hk k hlt).trans h1, (he.block b (Array.getElem?_eq_some_iff.1 h2).1 id).trans h2, dents_mono hs h3⟩
      | dead => trivial
    · have : (σ.ob ++ [o])[k]? = some o' := hk'
      rw [List.getElem?_append_right (by omega)] at this
      have hz : k = σ.ob.length := by
        have := (List.getElem?_eq_some_iff.1 this).1
        simp at this; omega
      subst hz
      simp at this
      subst this
      exact ho
  · rcases live_add hl with hl | ⟨rfl, _⟩ <;> rcases live_add hl' with hl' | ⟨rfl, _⟩
    · exact h.inj k k' b hl hl' (hk k hl.lt ▸ hi) (hk k' hl'.lt ▸ hi')
    · have h1 := own_lt h (.inr ⟨k, hl, hk k hl.lt ▸ hi⟩)
      rw [hkk] at hi'
      have := hg b hi'
      omega
    · have h1 := own_lt h (.inr ⟨k', hl', hk k' hl'.lt ▸ hi'⟩)
      rw [hkk] at hi
      have := hg b hi
      omega
    · rfl
  · rcases live_add hl with hl | ⟨rfl, _⟩
    · exact h.base k b hl (hk k hl.lt ▸ hi)
    · rw [hkk] at hi
      exact .inl (Nat.le_trans h.below.size (hg b hi))
  · by_cases hlt : k < σ.ob.length
    · have : (σ.ob ++ [o])[k]? = some (.rw t size es) := hk'
      rw [List.getElem?_append_left hlt] at this
      exact (hk k hlt).trans (h.pin k t size es this ht)
    · have : (σ.ob ++ [o])[k]? = some (.rw t size es) := hk'
      rw [List.getElem?_append_right (by omega)] at this
      have hz : k = σ.ob.length := by
        have := (List.getElem?_eq_some_iff.1 this).1
        simp at this; omega
      subst hz
      simp at this
      have := hsm _ _ _ this
      omega
end new
end Go.LS
