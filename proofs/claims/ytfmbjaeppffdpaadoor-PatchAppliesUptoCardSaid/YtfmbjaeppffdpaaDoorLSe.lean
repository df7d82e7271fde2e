/- Slices, fields, indexes, literals, lengths, lookups. -/
import Derived.Test.YtfmbjaeppffdpaaDoorLSd
namespace Go.LS
open Go Go.RowKit

def qnil : LV → QR
  | .c (.d (.at_ cs)) => .ok True (.c (.d (.at_ cs)))
  | .c (.op k o) => .ok True (.c (.op k o))
  | .c (.oe k i o) => .ok True (.c (.oe k i o))
  | _ => .no

def fOff : TypeDesc → Nat → Option (Nat × Nat)
  | .struct fs, f => (fs[f]?).map fun x => (x.offset, x.type)
  | _, _ => none

def qfa (T : Tab) (s f : Nat) (x : LV) : QR :=
  match T s with
  | none => .no
  | some i =>
    match fOff i.desc f with
    | none => .no
    | some (off, ft) =>
      match T ft with
      | none => .no
      | some j =>
        if j.size = 0 then .no else
        match x with
        | .c (.d (.at_ cs)) => .ok (off ≤ cs.length) (.c (.d (.at_ (cs.drop off))))
        | .c (.op k o) => .ok True (.c (.op k (o + off)))
        | .c (.oe k i o) => .ok True (.c (.oe k i (o + off)))
        | _ => .no

/-- The cells of what a slot holds. -/
def LV.cellish : LV → Bool
  | .c .any => false
  | .c _ => true
  | .ag _ => true
  | .tu _ => false
def cellsL : LV → List CV
  | .c x => [x]
  | .ag cs => cs
  | .tu _ => []

/-- A part of an aggregate, of type ft at an offset. -/
def qpart (T : Tab) (ft : Nat) (cs : List CV) (off : Nat) : QR :=
  match T ft with
  | none => .no
  | some j => if isAggD j.desc then .ok True (.ag ((cs.drop off).take j.size)) else
    match cs.drop off with
    | [] => .no
    | c :: _ => .ok True (.c c)
def qfd (T : Tab) (s f : Nat) (x : LV) : QR :=
  match T s with
  | none => .no
  | some i =>
    match fOff i.desc f, x with
    | some (off, ft), .ag cs => qpart T ft cs off
    | _, _ => .no

def qia (T : Tab) (ob : List OB) (t : Nat) (x i : LV) : QR :=
  match T t, i with
  | some ⟨.slice e, _, _, _, _⟩, .c (.d (.v (.int _ n))) =>
    match T e, x with
    | some j, .c (.d (.sl size es)) => .ok (j.size = size ∧ 0 ≤ n ∧ n < es.length) (.c (.d (.at_ (es.getD n.toNat []))))
    | some j, .c (.os k) =>
      match ob[k]? with
      | some (.rw _ size es) => .ok (j.size = size ∧ 0 ≤ n ∧ n < es.length) (.c (.oe k n.toNat 0))
      | _ => .no
    | _, _ => .no
  | _, _ => .no

/-- Byte i of a string. -/
def sB (s : ByteArray) (i : Nat) : UInt8 := s.data.toList.getD i 0
def qix (T : Tab) (t : Nat) (x i : LV) : QR :=
  match T t, x, i with
  | some ⟨.string, _, _, _, _⟩, .c (.d (.v (.string s))), .c (.d (.v (.int _ n))) => .ok (0 ≤ n ∧ n < s.size) (i2 .u8 (sB s n.toNat).toNat)
  | _, _, _ => .no

def qext (i : Nat) : LV → QR
  | .tu vs => match vs[i]? with | some x => .ok True x | none => .no
  | _ => .no

def qslice (T : Tab) (t : Nat) (x : LV) (lo hi : Option LV) : QR :=
  match T t, x with
  | some ⟨.slice e, _, _, _, _⟩, .c (.d (.sl size es)) =>
    match T e with
    | none => .no
    | some j =>
    match lo, hi with
    | some (.c (.d (.v (.int _ l)))), none => .ok (j.size = size ∧ 0 ≤ l ∧ l ≤ es.length) (.c (.d (.sl size (es.drop l.toNat))))
    | none, some (.c (.d (.v (.int _ h)))) => .ok (j.size = size ∧ 0 ≤ h ∧ h ≤ es.length) (.c (.d (.sl size (es.take h.toNat))))
    | some (.c (.d (.v (.int _ l)))), some (.c (.d (.v (.int _ h)))) => .ok (j.size = size ∧ 0 ≤ l ∧ l ≤ h ∧ h ≤ es.length) (.c (.d (.sl size ((es.take h.toNat).drop l.toNat))))
    | _, _ => .no
  | some ⟨.string, _, _, _, _⟩, .c (.d (.v (.string s))) =>
    match lo, hi with
    | some (.c (.d (.v (.int _ l)))), none => .ok (0 ≤ l ∧ l ≤ s.size) (s2 (s.extract l.toNat s.size))
    | none, some (.c (.d (.v (.int _ h)))) => .ok (0 ≤ h ∧ h ≤ s.size) (s2 (s.extract 0 h.toNat))
    | some (.c (.d (.v (.int _ l)))), some (.c (.d (.v (.int _ h)))) => .ok (0 ≤ l ∧ l ≤ h ∧ h ≤ s.size) (s2 (s.extract l.toNat h.toNat))
    | _, _ => .no
  | _, _ => .no

/-- A zero value is made of cells. -/
def okZero (z : Value) : Bool := match z with
  | .agg us => us.toList.all Value.oneCell'
  | .tuple _ => false
  | _ => true
def zeroL : Value → List CV
  | .agg us => us.toList.map fun u => .d (.v u)
  | v => [.d (.v v)]
def putL (cs : List CV) (off : Nat) : List CV → List CV
  | [] => cs
  | x :: r => putL (cs.set off x) (off + 1) r
def fillL (T : Tab) (d : TypeDesc) (cs : List CV) : List (Nat × LV) → Option (List CV)
  | [] => some cs
  | (i, x) :: r =>
    match fOff d i with
    | none => none
    | some (off, ft) =>
      match T ft with
      | none => none
      | some j => if x.cellish = true ∧ (cellsL x).length = j.size ∧ off + j.size ≤ cs.length then fillL T d (putL cs off (cellsL x)) r else none
def qbuild (T : Tab) (t : Nat) (ps : List (Nat × LV)) : QR :=
  match T t with
  | some ⟨.struct fs, _, _, zero, _⟩ =>
    if okZero zero && fs.toList.all fun f => (T f.type).isSome then
      match fillL T (.struct fs) (zeroL zero) ps with
      | some cs => .ok True (.ag cs)
      | none => .no
    else .no
  | _ => .no

def mget : List (ByteArray × DV) → ByteArray → Option DV
  | [], _ => none
  | (k, x) :: r, i => if k = i then some x else mget r i

def qlen (T : Tab) (ob : List OB) (t : Nat) : LV → QR
  | .c (.d (.v (.string s))) => match T t with | some ⟨.string, _, _, _, _⟩ => .ok True (i2 .i64 s.size) | _ => .no
  | .c (.d (.v (.slice none 0 0))) => match T t with | some ⟨.slice _, _, _, _, _⟩ => .ok True (i2 .i64 0) | _ => .no
  | .c (.d (.sl _ es)) => match T t with | some ⟨.slice _, _, _, _, _⟩ => .ok True (i2 .i64 es.length) | _ => .no
  | .c (.os k) => match T t, ob[k]? with | some ⟨.slice _, _, _, _, _⟩, some (.rw _ _ es) => .ok True (i2 .i64 es.length) | _, _ => .no
  | _ => .no
def qmm (mx : Bool) : LV → LV → QR
  | .c (.d (.v (.int k x))), .c (.d (.v (.int k' y))) => if k = k' then .ok True (i2 k (if mx then max x y else min x y)) else .no
  | _, _ => .no
def qbi (T : Tab) (ob : List OB) (b : Builtin) (ts : List Nat) (xs : List LV) : QR :=
  match b, ts, xs with
  | .len, t :: _, [x] => qlen T ob t x
  | .min, _, [x, y] => qmm false x y
  | .max, _, [x, y] => qmm true x y
  | _, _, _ => .no

def qlook (T : Tab) (ob : List OB) (t : Nat) (m k : LV) (ok : Bool) : QR :=
  match T t, m, k with
  | some ⟨.map kt e, _, _, _, _⟩, .c (.om n), .c (.d (.v (.string s))) =>
    match T kt, T e, ob[n]? with
    | some ⟨.string, _, _, _, _⟩, some j, some (.mp es) =>
      if j.zero.oneCell' = false then .no else
      if ok then .ok True (.tu [.c (.d ((mget es s).getD (.v j.zero))), b2 (mget es s).isSome]) else .ok True (.c (.d ((mget es s).getD (.v j.zero))))
    | _, _, _ => .no
  | _, _, _ => .no

section
variable {P : Program} {T : Tab} {N : Nat} {w0 : W0} {ι : Io} {σ : LS} {a : Act} {w : World} {O : Nat → Prop} {ob : List OB}

theorem yl_nil (h : StI N w0 ι σ a w) {x : Operand} {p : Prop} {z : LV} (hq : qnil (ev σ x) = .ok p z) :
    ∃ v, dlv w (own ι σ.ob) ι σ.ob z v ∧ Yl P a.eval (.nilCheck x) w v := by
  have hx := h.ev x
  unfold qnil at hq
  split at hq <;> first
    | (cases hq; done)
    | (rename_i e1
       injection hq with h1 h2
       subst h1 h2
       rw [e1] at hx
       refine ⟨a.eval x, hx, fun o ho w' _ => ?_⟩
       obtain ⟨ad, hu⟩ : ∃ ad, a.eval x = .pointer (some ad) := by
         first
         | (obtain ⟨ad, hu, _⟩ := hx; exact ⟨ad, hu⟩)
         | (obtain ⟨g, _, _, hu⟩ := hx; exact ⟨_, hu⟩)
         | (obtain ⟨g, _, _, _, _, _, _, hu⟩ := hx; exact ⟨_, hu⟩)
       simp only [execOp, ho, hu, Sem.run_pure])

theorem fOff_spec {d : TypeDesc} {f off ft : Nat} (h : fOff d f = some (off, ft)) : ∃ fs x, d = .struct fs ∧ fs[f]? = some x ∧ x.offset = off ∧ x.type = ft := by
  unfold fOff at h
  split at h
  · rename_i fs
    cases hx : fs[f]? with
    | none => simp [hx] at h
    | some x => simp [hx] at h; exact ⟨fs, x, rfl, hx, h.1, h.2⟩
  · cases h

theorem run_fieldAt (hT : okT P T) {s f : Nat} {i : TI} (hi : T s = some i) {off ft : Nat} (hf : fOff i.desc f = some (off, ft)) {j : TI} (hj : T ft = some j) (hz : j.size ≠ 0) (ad : Addr) (w' : World) :
    (Instr.fieldAt s (.pointer (some ad)) f).run P w' = .ok (.pointer (some (ad.add off))) w' := by
  obtain ⟨fs, x, h1, h2, h3, h4⟩ := fOff_spec hf
  have hu := (hT s i hi).run_underlying (w := w')
  rw [h1] at hu
  subst h3 h4
  simp only [Instr.fieldAt, Sem.run_bind, hu, Result.andThen_ok, h2, Instr.sureAddr, Sem.run_pure, fieldPlace, (hT _ j hj).run_sizeOf, Sem.run_ite, if_neg hz]

theorem yl_fa (hT : okT P T) (h : StI N w0 ι σ a w) {s f : Nat} {x : Operand} {p : Prop} {z : LV} (hq : qfa T s f (ev σ x) = .ok p z) (hp : p) :
    ∃ v, dlv w (own ι σ.ob) ι σ.ob z v ∧ Yl P a.eval (.fieldAddr s x f) w v := by
  have hx := h.ev x
  unfold qfa at hq
  split at hq
  · cases hq
  rename_i i hi
  split at hq
  · cases hq
  rename_i off ft hf
  split at hq
  · cases hq
  rename_i j hj
  split at hq
  · cases hq
  rename_i hz
  have fin : ∀ ad, a.eval x = .pointer (some ad) → Yl P a.eval (.fieldAddr s x f) w (.pointer (some (ad.add off))) := by
    intro ad hu o ho w' _
    simp only [execOp, ho, hu, Sem.run_bind, run_fieldAt hT hi hf hj hz, Result.andThen_ok, Sem.run_pure]
  split at hq
  · rename_i cs e1
    injection hq with h1 h2
    subst h1 h2
    rw [e1] at hx
    obtain ⟨ad, hu, hb, ho, hr⟩ := hx
    exact ⟨_, ⟨ad.add off, rfl, by rw [add_block]; exact hb, by rw [add_block]; exact ho, denCs_drop hr off hp⟩, fin ad hu⟩
  · rename_i k o e1
    injection hq with h1 h2
    subst h1 h2
    rw [e1] at hx
    obtain ⟨g, hl, hg, hu⟩ := hx
    exact ⟨_, ⟨g, hl, hg, by rw [add_lit']⟩, fin _ hu⟩
  · rename_i k i' o e1
    injection hq with h1 h2
    subst h1 h2
    rw [e1] at hx
    obtain ⟨g, t', size, es, g1, g2, g3, hu⟩ := hx
    exact ⟨_, ⟨g, t', size, es, g1, g2, g3, by rw [add_lit', Nat.add_assoc]⟩, fin _ hu⟩
  · cases hq

theorem extract_toList (us : Array Value) (off n : Nat) : (us.extract off (off + n)) = ((us.toList.drop off).take n).toArray := by
  apply Array.toList_inj.1
  simp [Array.toList_extract, List.take_drop]

theorem part_sound (hT : okT P T) {ft off : Nat} {cs : List CV} {us : Array Value} (hc : dcvs w O ι ob cs us.toList) {p : Prop} {z : LV} (hq : qpart T ft cs off = .ok p z) :
    ∃ v, dlv w O ι ob z v ∧ ∀ w', (part ft us off).run P w' = .ok v w' := by
  unfold qpart at hq
  split at hq
  · cases hq
  rename_i j hj
  split at hq
  · rename_i hg
    injection hq with h1 h2
    subst h1 h2
    refine ⟨_, ⟨_, rfl, by simpa using dcvs_take j.size (dcvs_drop off hc)⟩, fun w' => ?_⟩
    simp only [part, Sem.run_bind, (hT _ j hj).run_isAgg, Result.andThen_ok, hg, if_true, (hT _ j hj).run_sizeOf, Sem.run_pure, extract_toList]
  · rename_i hg
    split at hq
    · cases hq
    rename_i c r hd
    injection hq with h1 h2
    subst h1 h2
    have h4 := dcvs_drop off hc
    rw [hd] at h4
    obtain ⟨u, r', h5, h6, _⟩ := h4
    have hu : us[off]? = some u := by
      have : (us.toList.drop off)[0]? = some u := by rw [h5]; rfl
      simpa using this
    refine ⟨u, by cases c <;> first | exact h6 | trivial, fun w' => ?_⟩
    simp only [part, Sem.run_bind, (hT _ j hj).run_isAgg, Result.andThen_ok, hg, Bool.false_eq_true, if_false, hu, Sem.run_pure]

theorem yl_fd (hT : okT P T) (h : StI N w0 ι σ a w) {s f : Nat} {x : Operand} {p : Prop} {z : LV} (hq : qfd T s f (ev σ x) = .ok p z) :
    ∃ v, dlv w (own ι σ.ob) ι σ.ob z v ∧ Yl P a.eval (.field s x f) w v := by
  have hx := h.ev x
  unfold qfd at hq
  split at hq
  · cases hq
  rename_i i hi
  split at hq
  · rename_i off ft cs hf e1
    rw [e1] at hx
    obtain ⟨us, hu, hc⟩ := hx
    obtain ⟨fs, y, h1, h2, h3, h4⟩ := fOff_spec hf
    obtain ⟨v, hv, hr⟩ := part_sound (P := P) hT hc hq
    refine ⟨v, hv, fun o ho w' _ => ?_⟩
    have hund := (hT s i hi).run_underlying (w := w')
    rw [h1] at hund
    subst h3 h4
    simp only [execOp, ho, hu, Instr.field, Sem.run_bind, hund, Result.andThen_ok, h2, asAgg, Sem.run_pure, hr]
  · cases hq

theorem den_sl_some {size : Nat} {es : List (List DV)} {u : Value} (h : den w O (.sl size es) u) (hl : 0 < es.length) : ∃ ad cap, u = .slice (some ad) es.length cap ∧ es.length ≤ cap ∧ cap ≤ maxLen ∧ ad.block < w.heap.size ∧ ¬ O ad.block ∧ rdEs w O size ad es := by
  obtain ⟨A, cap, rfl, h1, h2, h3⟩ := h
  obtain ⟨ad, rfl, hb, ho, hr⟩ := h3 hl
  exact ⟨ad, cap, rfl, h1, h2, hb, ho, hr⟩

theorem run_indexAt (hT : okT P T) {t e : Nat} {i j : TI} (hi : T t = some i) (hd : i.desc = .slice e) (hj : T e = some j) (ad : Addr) (len cap : Nat) (k : IntKind) (n : Int) (h0 : 0 ≤ n) (hn : n < len) (w' : World) :
    (Instr.indexAt t (.slice (some ad) len cap) (.int k n)).run P w' = .ok (.pointer (some (ad.add (n.toNat * j.size)))) w' := by
  have hu := (hT t i hi).run_underlying (w := w')
  rw [hd] at hu
  have hc : (0 ≤ n ∧ n < (len : Int)) := ⟨h0, hn⟩
  simp only [Instr.indexAt, asIntOf, Sem.run_bind, Sem.run_pure, Result.andThen_ok, hu]
  simp only [Sem.run_bind, if_pos hc, (hT e j hj).run_sizeOf, Result.andThen_ok, Sem.run_pure]

theorem yl_ia (hT : okT P T) (h : StI N w0 ι σ a w) {t : Nat} {x i : Operand} {p : Prop} {z : LV} (hq : qia T σ.ob t (ev σ x) (ev σ i) = .ok p z) (hp : p) :
    ∃ v, dlv w (own ι σ.ob) ι σ.ob z v ∧ Yl P a.eval (.indexAddr t x i) w v := by
  have hx := h.ev x
  have hi := h.ev i
  unfold qia at hq
  split at hq
  · rename_i e _ _ _ _ k n hTt e2
    rw [e2] at hi
    have ei : a.eval i = .int k n := hi.1
    split at hq
    · rename_i j size es hj e1
      injection hq with h1 h2
      subst h1 h2
      obtain ⟨hs, h0, hn⟩ := hp
      rw [e1] at hx
      have hl : n.toNat < es.length := by omega
      obtain ⟨ad, cap, hu, hc1, hc2, hb, ho, hr⟩ := den_sl_some hx (by omega)
      obtain ⟨_, hr2⟩ := rdEs_get hr hl
      refine ⟨.pointer (some (ad.add (n.toNat * j.size))), ⟨_, rfl, by rw [add_block]; exact hb, by rw [add_block]; exact ho, ?_⟩, fun o hoo w' _ => ?_⟩
      · rw [hs, show es.getD n.toNat [] = es[n.toNat] by simp [hl]]; exact hr2
      · simp only [execOp, hoo, hu, ei, Sem.run_bind, run_indexAt hT hTt rfl hj ad es.length cap k n h0 hn, Result.andThen_ok, Sem.run_pure]
    · rename_i j kk hj e1
      split at hq
      · rename_i t' size es hob
        injection hq with h1 h2
        subst h1 h2
        obtain ⟨hs, h0, hn⟩ := hp
        rw [e1] at hx
        obtain ⟨t'', size', es', hob', hh⟩ := hx
        rw [hob] at hob'
        injection hob' with hob'
        injection hob' with g1 g2 g3
        subst g1 g2 g3
        rcases hh with hh | ⟨b, cur, cap, t3, g1, g2, g3, g4, g5, hu⟩
        · have := hh.2.1; omega
        have hl : n.toNat < es.length := by omega
        refine ⟨.pointer (some ⟨b, n.toNat * size + 0, none⟩), ⟨b, t', size, es, g1, hob, hl, rfl⟩, fun o hoo w' _ => ?_⟩
        simp only [execOp, hoo, hu, ei, Sem.run_bind, run_indexAt hT hTt rfl hj ⟨b, 0, none⟩ es.length cap k n h0 hn, Result.andThen_ok, Sem.run_pure, add_lit', hs, Nat.zero_add, Nat.add_zero]
      · cases hq
    · cases hq
  · cases hq

theorem yl_ix (hT : okT P T) (h : StI N w0 ι σ a w) {t : Nat} {x i : Operand} {p : Prop} {z : LV} (hq : qix T t (ev σ x) (ev σ i) = .ok p z) (hp : p) :
    ∃ v, dlv w (own ι σ.ob) ι σ.ob z v ∧ Yl P a.eval (.index t x i) w v := by
  have hx := h.ev x
  have hi := h.ev i
  unfold qix at hq
  split at hq
  · rename_i s k n hTt e1 e2
    rw [e1] at hx; rw [e2] at hi
    have ex : a.eval x = .string s := hx.1
    have ei : a.eval i = .int k n := hi.1
    injection hq with h1 h2
    subst h1 h2
    obtain ⟨h0, hn⟩ := hp
    have hl : n.toNat < s.size := by omega
    refine ⟨_, ⟨rfl, rfl⟩, fun o ho w' _ => ?_⟩
    have hb : s[n.toNat]? = some (sB s n.toNat) := by
      have : s.data[n.toNat]? = some (sB s n.toNat) := by
        unfold sB
        rw [← Array.getElem?_toList, List.getD_eq_getElem?_getD]
        rw [List.getElem?_eq_getElem (by simpa using hl)]
        rfl
      have h2 : s[n.toNat]? = s.data[n.toNat]? := by
        rw [getElem?_pos s n.toNat hl, getElem?_pos s.data n.toNat hl]; rfl
      rw [h2, this]
    have hu := (hT t _ hTt).run_underlying (w := w')
    simp only [execOp, ho, ex, ei, Instr.index, asIntOf, Sem.run_bind, Sem.run_pure, Result.andThen_ok, hu, if_pos h0, hb]
  · cases hq

theorem dl1s_get : ∀ {xs : List LV} {us : List Value}, dl1s w O ι ob xs us → ∀ (i : Nat) x, xs[i]? = some x → ∃ u, us[i]? = some u ∧ dl1 w O ι ob x u
  | [], _, _, i, x, hx => by simp at hx
  | y :: xs, us, h, i, x, hx => by
    obtain ⟨u, r, rfl, hu, hr⟩ := h
    cases i with
    | zero => simp at hx; subst hx; exact ⟨u, rfl, hu⟩
    | succ i => simpa using dl1s_get hr i x (by simpa using hx)
theorem dlv_of_dl1 : ∀ {x : LV} {u : Value}, dl1 w O ι ob x u → dlv w O ι ob x u
  | .c _, _, h => h
  | .ag _, _, h => h
  | .tu _, _, h => h.elim

theorem yl_ext (h : StI N w0 ι σ a w) {x : Operand} {i : Nat} {p : Prop} {z : LV} (hq : qext i (ev σ x) = .ok p z) :
    ∃ v, dlv w (own ι σ.ob) ι σ.ob z v ∧ Yl P a.eval (.extract x i) w v := by
  have hx := h.ev x
  unfold qext at hq
  split at hq
  · rename_i vs e1
    rw [e1] at hx
    obtain ⟨us, hu, hd⟩ := hx
    cases hv : vs[i]? with
    | none => simp [hv] at hq
    | some y =>
      simp only [hv] at hq
      injection hq with h1 h2
      subst h1 h2
      obtain ⟨u, hu1, hu2⟩ := dl1s_get hd i y hv
      refine ⟨u, dlv_of_dl1 hu2, fun o ho w' _ => ?_⟩
      have : us[i]? = some u := by simpa using hu1
      simp only [execOp, ho, hu, Instr.extract, this, Sem.run_bind, Sem.run_pure, Result.andThen_ok]
  · cases hq

theorem run_sliceBound {x : Int} {k : IntKind} {y : Nat} {code : BoundsCode} (h0 : 0 ≤ x) (h1 : x ≤ y) (w' : World) : (Instr.sliceBound (.int k x) y code).run P w' = .ok x.toNat w' := by
  have hc : (0 ≤ x ∧ x ≤ (y : Int)) := ⟨h0, h1⟩
  simp only [Instr.sliceBound, asIntOf, Sem.run_bind, Sem.run_pure, Result.andThen_ok, Sem.run_ite, if_pos hc]

theorem den_cut {size : Nat} {es : List (List DV)} {A : Option Addr} {n cap : Nat} (h : den w O (.sl size es) (.slice A n cap)) {l m : Nat} (hl : l ≤ m) (hm : m ≤ es.length) :
    den w O (.sl size ((es.take m).drop l)) (.slice (if cap = l then A else A.map (·.add (l * size))) (m - l) (cap - l)) := by
  obtain ⟨A', cap', e, h1, h2, h3⟩ := h
  injection e with e1 e2 e3
  subst e1 e2 e3
  refine ⟨if cap = l then A else A.map (·.add (l * size)), cap - l, ?_, ?_, ?_, ?_⟩
  · congr 1
    simp; omega
  · simp; omega
  · omega
  · intro hlt
    simp at hlt
    obtain ⟨ad, rfl, hb, ho, hr⟩ := h3 (by omega)
    rw [if_neg (by omega)]
    exact ⟨ad.add (l * size), rfl, by rw [add_block]; exact hb, by rw [add_block]; exact ho, rdEs_drop (rdEs_take hr m) l (by simp; omega)⟩

theorem yl_slice (hT : okT P T) (h : StI N w0 ι σ a w) {t : Nat} {x : Operand} {lo hi : Option Operand} {p : Prop} {z : LV} (hq : qslice T t (ev σ x) (lo.map (ev σ)) (hi.map (ev σ)) = .ok p z) (hp : p) :
    ∃ v, dlv w (own ι σ.ob) ι σ.ob z v ∧ Yl P a.eval (.slice t x lo hi none) w v := by
  have hx := h.ev x
  have hlo : ∀ o, lo = some o → dlv w (own ι σ.ob) ι σ.ob (ev σ o) (a.eval o) := fun o _ => h.ev o
  have hhi : ∀ o, hi = some o → dlv w (own ι σ.ob) ι σ.ob (ev σ o) (a.eval o) := fun o _ => h.ev o
  have getI : ∀ {q : Option Operand} {k : IntKind} {n : Int}, q.map (ev σ) = some (.c (.d (.v (.int k n)))) → q.map a.eval = some (.int k n) := by
    intro q k n hqq
    cases q with
    | none => simp at hqq
    | some o =>
      simp only [Option.map_some, Option.some.injEq] at hqq ⊢
      have := h.ev o
      rw [hqq] at this
      exact this.1
  have getN : ∀ {q : Option Operand}, q.map (ev σ) = none → q.map a.eval = none := by
    intro q hqq
    cases q with
    | none => rfl
    | some o => simp at hqq
  unfold qslice at hq
  split at hq
  · rename_i e s1 s2' s3 s4 size es hTt e1
    rw [e1] at hx
    have hu := fun w' => (hT t _ hTt).run_underlying (w := w')
    split at hq
    · cases hq
    rename_i j hj
    have hden := hx
    obtain ⟨A, cap, hA, hc1, hc2, hc3⟩ := hx
    rw [hA] at hden
    have hden' : den w (own ι σ.ob) (.sl size es) (.slice A es.length cap) := hden
    split at hq <;> first | (cases hq; done) | skip
    · rename_i kk l el eh
      injection hq with h1 h2
      subst h1 h2
      obtain ⟨hs, h0, hl⟩ := hp
      have hd := den_cut hden' (l := l.toNat) (m := es.length) (by omega) (Nat.le_refl _)
      rw [List.take_length] at hd
      refine ⟨_, hd, fun o ho w' _ => ?_⟩
      simp only [execOp, ho, getI el, getN eh, hA, Option.map_none, Instr.sliceAt, Sem.run_bind, hu, Result.andThen_ok, Instr.slice, Instr.sliceBounds, Sem.run_pure, run_sliceBound h0 hl, (hT _ j hj).run_sizeOf, hs]
    · rename_i kk m el eh
      injection hq with h1 h2
      subst h1 h2
      obtain ⟨hs, h0, hl⟩ := hp
      have hd := den_cut hden' (l := 0) (m := m.toNat) (by omega) (by omega)
      rw [List.drop_zero] at hd
      refine ⟨_, hd, fun o ho w' _ => ?_⟩
      simp only [execOp, ho, getI eh, getN el, hA, Option.map_none, Instr.sliceAt, Sem.run_bind, hu, Result.andThen_ok, Instr.slice, Instr.sliceBounds, Sem.run_pure, run_sliceBound (y := cap) h0 (by omega), (hT _ j hj).run_sizeOf, hs]
    · rename_i kk l kk' m el eh
      injection hq with h1 h2
      subst h1 h2
      obtain ⟨hs, h0, hl, hm⟩ := hp
      have hd := den_cut hden' (l := l.toNat) (m := m.toNat) (by omega) (by omega)
      refine ⟨_, hd, fun o ho w' _ => ?_⟩
      simp only [execOp, ho, getI eh, getI el, hA, Option.map_none, Instr.sliceAt, Sem.run_bind, hu, Result.andThen_ok, Instr.slice, Instr.sliceBounds, Sem.run_pure, run_sliceBound (x := m) (y := cap) (by omega) (by omega), run_sliceBound (x := l) (y := m.toNat) (by omega) (by omega), (hT _ j hj).run_sizeOf, hs, Option.isSome_none]
  · rename_i s1 s2' s3 s4 s hTt e1
    rw [e1] at hx
    have ex : a.eval x = .string s := hx.1
    have hu := fun w' => (hT t _ hTt).run_underlying (w := w')
    split at hq <;> first | (cases hq; done) | skip
    · rename_i kk l el eh
      injection hq with h1 h2
      subst h1 h2
      obtain ⟨h0, hl⟩ := hp
      refine ⟨_, ⟨rfl, rfl⟩, fun o ho w' _ => ?_⟩
      simp [execOp, ho, getI el, getN eh, ex, Instr.sliceAt, hu, Instr.slice, Instr.sliceBounds, run_sliceBound h0 hl]
    · rename_i kk m el eh
      injection hq with h1 h2
      subst h1 h2
      obtain ⟨h0, hl⟩ := hp
      refine ⟨_, ⟨rfl, rfl⟩, fun o ho w' _ => ?_⟩
      simp [execOp, ho, getI eh, getN el, ex, Instr.sliceAt, hu, Instr.slice, Instr.sliceBounds, run_sliceBound h0 hl]
    · rename_i kk l kk' m el eh
      injection hq with h1 h2
      subst h1 h2
      obtain ⟨h0, hl, hm⟩ := hp
      refine ⟨_, ⟨rfl, rfl⟩, fun o ho w' _ => ?_⟩
      simp [execOp, ho, getI eh, getI el, ex, Instr.sliceAt, hu, Instr.slice, Instr.sliceBounds, run_sliceBound (x := m) (y := s.size) (by omega) (by omega), run_sliceBound (x := l) (y := m.toNat) (by omega) (by omega)]
  · cases hq

theorem yl_len (hT : okT P T) (h : StI N w0 ι σ a w) {t : Nat} {ts : Array Nat} {x : Operand} {p : Prop} {z : LV} (hts : ts[0]? = some t) (hq : qlen T σ.ob t (ev σ x) = .ok p z) :
    ∃ v, dlv w (own ι σ.ob) ι σ.ob z v ∧ Yl P a.eval (.call { callee := .builtin .len, args := #[x], argTypes := ts }) w v := by
  have hx := h.ev x
  have fin : ∀ (u : Value) (n : Int), a.eval x = u → (∀ w', (Builtin.len_ ts 0 #[u]).run P w' = .ok (.int .i64 n) w') → Yl P a.eval (.call { callee := .builtin .len, args := #[x], argTypes := ts }) w (.int .i64 n) := by
    intro u n hu hr o ho w' _
    have hr' := hr w'
    have e : ∀ ty, Builtin.len_ ts ty #[u] = Builtin.len_ ts 0 #[u] := fun _ => rfl
    simp only [execOp, ho, resolve, invoke, builtin, Sem.run_bind, Sem.run_pure, Result.andThen_ok, List.map_toArray, List.map_cons, List.map_nil, hu, e, hr']
  have hlen : ∀ {i : TI}, T t = some i → ∀ (u : Value) (n : Int), (∀ e, i.desc = .slice e → ∃ A m c, u = .slice A m c ∧ n = (m : Int)) → (i.desc = .string → ∃ s : ByteArray, u = .string s ∧ n = (s.size : Int)) → ((∃ e, i.desc = .slice e) ∨ i.desc = .string) →
      ∀ w', (Builtin.len_ ts 0 #[u]).run P w' = .ok (.int .i64 n) w' := by
    intro i hi u n h1 h2 h3 w'
    have hu := (hT t i hi).run_underlying (w := w')
    rcases h3 with ⟨e, h3⟩ | h3
    · obtain ⟨A, m, c, rfl, rfl⟩ := h1 e h3
      rw [h3] at hu
      simp [Builtin.len_, hts, hu, goInt]
    · obtain ⟨s, rfl, rfl⟩ := h2 h3
      rw [h3] at hu
      simp [Builtin.len_, hts, hu, goInt]
  unfold qlen at hq
  split at hq
  · rename_i s e1
    rw [e1] at hx
    split at hq <;> first | (cases hq; done) | skip
    rename_i hTt
    injection hq with h1 h2
    subst h1 h2
    exact ⟨_, ⟨rfl, rfl⟩, fin (.string s) s.size hx.1 (hlen hTt _ _ (fun _ h => by cases h) (fun _ => ⟨s, rfl, rfl⟩) (.inr rfl))⟩
  · rename_i e1
    rw [e1] at hx
    split at hq <;> first | (cases hq; done) | skip
    rename_i hTt
    injection hq with h1 h2
    subst h1 h2
    exact ⟨_, ⟨rfl, rfl⟩, fin (.slice none 0 0) 0 hx.1 (hlen hTt _ _ (fun _ _ => ⟨none, 0, 0, rfl, rfl⟩) (fun h => by cases h) (.inl ⟨_, rfl⟩))⟩
  · rename_i size es e1
    rw [e1] at hx
    split at hq <;> first | (cases hq; done) | skip
    rename_i hTt
    injection hq with h1 h2
    subst h1 h2
    obtain ⟨A, cap, hu, _⟩ := hx
    exact ⟨_, ⟨rfl, rfl⟩, fin _ es.length hu (hlen hTt _ _ (fun _ _ => ⟨A, _, cap, rfl, rfl⟩) (fun h => by cases h) (.inl ⟨_, rfl⟩))⟩
  · rename_i k e1
    rw [e1] at hx
    split at hq <;> first | (cases hq; done) | skip
    rename_i t0 size0 es0 hTt hob
    injection hq with h1 h2
    subst h1 h2
    obtain ⟨t', size', es', hob', hh⟩ := hx
    rw [hob] at hob'
    injection hob' with hob'
    injection hob' with g1 g2 g3
    subst g1 g2 g3
    have : ∃ A c, a.eval x = .slice A es0.length c := by
      rcases hh with ⟨_, h0, hu⟩ | ⟨b, cur, cap, t3, _, _, _, _, _, hu⟩
      · exact ⟨none, 0, by rw [hu, h0]⟩
      · exact ⟨_, _, hu⟩
    obtain ⟨A, c, hu⟩ := this
    exact ⟨_, ⟨rfl, rfl⟩, fin _ _ hu (hlen hTt _ _ (fun _ _ => ⟨A, _, c, rfl, rfl⟩) (fun h => by cases h) (.inl ⟨_, rfl⟩))⟩
  · cases hq

theorem yl_mm (h : StI N w0 ι σ a w) {mx : Bool} {ts : Array Nat} {x y : Operand} {p : Prop} {z : LV} (hq : qmm mx (ev σ x) (ev σ y) = .ok p z) :
    ∃ v, dlv w (own ι σ.ob) ι σ.ob z v ∧ Yl P a.eval (.call { callee := .builtin (if mx then .max else .min), args := #[x, y], argTypes := ts }) w v := by
  have hx := h.ev x
  have hy := h.ev y
  unfold qmm at hq
  split at hq
  · rename_i k n k' m e1 e2
    rw [e1] at hx; rw [e2] at hy
    have ex : a.eval x = .int k n := hx.1
    have ey : a.eval y = .int k' m := hy.1
    split at hq
    · rename_i hk
      subst hk
      injection hq with h1 h2
      subst h1 h2
      refine ⟨_, ⟨rfl, rfl⟩, fun o ho w' _ => ?_⟩
      cases mx
      · have : (if m < n then m else n) = min n m := by
          by_cases hlt : m < n
          · rw [if_pos hlt]; omega
          · rw [if_neg hlt]; omega
        simp [execOp, ho, resolve, invoke, builtin, ex, ey, Builtin.min_, Builtin.min2, this]
      · have : (if n < m then m else n) = max n m := by
          by_cases hlt : n < m
          · rw [if_pos hlt]; omega
          · rw [if_neg hlt]; omega
        have this' : (if m > n then m else n) = max n m := this
        simp [execOp, ho, resolve, invoke, builtin, ex, ey, Builtin.max_, Builtin.max2, this]
    · cases hq
  · cases hq

/-! #### literals -/
theorem dcvs_set : ∀ {cs : List CV} {us : List Value} {n : Nat} {c : CV} {u : Value}, dcvs w O ι ob cs us → dcv w O ι ob c u → dcvs w O ι ob (cs.set n c) (us.set n u)
  | [], us, n, c, u, h, _ => by simp only [dcvs] at h; subst h; simp [dcvs]
  | x :: cs, us, 0, c, u, h, hc => by
    obtain ⟨v, r, rfl, hv, hr⟩ := h
    exact ⟨u, r, rfl, hc, hr⟩
  | x :: cs, us, n + 1, c, u, h, hc => by
    obtain ⟨v, r, rfl, hv, hr⟩ := h
    exact ⟨v, r.set n u, rfl, hv, dcvs_set hr hc⟩

theorem foldl_put (off : Nat) : ∀ (vs : List Value) (j : Nat) (cs : Array Value) (us : List CV) (xs : List CV), dcvs w O ι ob us cs.toList → dcvs w O ι ob xs vs →
    dcvs w O ι ob (putL us (off + j) xs) ((vs.zipIdx j).foldl (fun cs p => cs.setIfInBounds (off + p.2) p.1) cs).toList
  | [], j, cs, us, xs, hu, hx => by
    cases xs with
    | nil => exact hu
    | cons x xs => obtain ⟨_, _, h, _⟩ := hx; cases h
  | v :: vs, j, cs, us, xs, hu, hx => by
    cases xs with
    | nil => simp [dcvs] at hx
    | cons x xs =>
      obtain ⟨v', r, h, hv, hr⟩ := hx
      injection h with h1 h2
      subst h1 h2
      simp only [List.zipIdx_cons, List.foldl_cons, putL]
      rw [show off + j + 1 = off + (j + 1) by omega]
      refine foldl_put off vs (j + 1) (cs.setIfInBounds (off + j) v) (us.set (off + j) x) xs ?_ hr
      rw [Array.toList_setIfInBounds]
      exact dcvs_set hu hv

theorem hdr_oneCell {g : Option Nat} {size n : Nat} {u : Value} (h : hdr w g size n u) : u.oneCell' = true := by
  rcases h with ⟨_, _, rfl⟩ | ⟨_, _, _, _, _, _, _, _, _, rfl⟩ <;> rfl
theorem dcv_oneCell {c : CV} {u : Value} (h : dcv w O ι ob c u) : u.oneCell' = true := by
  cases c with
  | d x => exact den_oneCell h
  | op k off => obtain ⟨_, _, _, rfl⟩ := h; rfl
  | oe k i off => obtain ⟨_, _, _, _, _, _, _, rfl⟩ := h; rfl
  | os k => obtain ⟨_, _, _, _, hh⟩ := h; exact hdr_oneCell hh
  | om k => obtain ⟨_, _, _, rfl⟩ := h; rfl
  | any => exact h
theorem cells_one {u : Value} (h : u.oneCell' = true) : u.cells = #[u] := by
  cases u <;> first | rfl | simp [Value.oneCell'] at h
theorem dl1_dcv {c : CV} {u : Value} (h : dl1 w O ι ob (.c c) u) (hc : (LV.c c).cellish = true) : dcv w O ι ob c u := by
  cases c <;> first | exact h | cases hc
theorem cells_dl1 {x : LV} {u : Value} (h : dlv w O ι ob x u) (hx : x.cellish = true) : dcvs w O ι ob (cellsL x) u.cells.toList := by
  cases x with
  | c c =>
    have h' := dl1_dcv h hx
    rw [cells_one (dcv_oneCell h')]
    exact ⟨u, [], rfl, h', rfl⟩
  | ag cs =>
    obtain ⟨us, rfl, hd⟩ := h
    exact hd
  | tu vs => cases hx
end
end Go.LS
