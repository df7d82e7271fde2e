/- The operations that leave the world alone, over logical states. -/
import Derived.Test.YtfmbjaeppffdpaaDoorLSb
namespace Go.LS
open Go Go.RowKit

/-! ### What is known of the types -/
structure TI where
  desc : TypeDesc
  size : Nat
  bytes : Nat
  zero : Value
  eqs : Option (List TypeDesc) := none

abbrev Tab := Nat → Option TI

structure okTI (P : Program) (t : Nat) (i : TI) : Prop where
  und : P.underlying t = some i.desc
  inf : ∃ x, P.info? t = some x ∧ x.size = i.size ∧ x.bytes = i.bytes ∧ x.zero = some i.zero
  eqs : ∀ ds, i.eqs = some ds → P.stoodInHeld t = false ∧ P.eqGuardType P.depth t = false ∧ ∃ fs, i.desc = .struct fs ∧ fs.size = ds.length ∧ ∀ (j : Nat) (f : Field), fs[j]? = some f → f.offset = j ∧ f.name ≠ "_" ∧ (P.underlying f.type = ds[j]?)
  small : t < 1000000

def okT (P : Program) (T : Tab) : Prop := ∀ t i, T t = some i → okTI P t i

def isAggD : TypeDesc → Bool
  | .struct _ | .array _ _ => true
  | _ => false

section tinfo
variable {P : Program} {T : Tab} {w : World}
theorem okTI.run_underlying {t : Nat} {i : TI} (h : okTI P t i) : (underlying t).run P w = .ok i.desc w := Go.run_underlying h.und w
theorem okTI.run_sizeOf {t : Nat} {i : TI} (h : okTI P t i) : (sizeOf t).run P w = .ok i.size w := by
  obtain ⟨x, hx, h1, _⟩ := h.inf
  simp [sizeOf, typeInfo, hx, h1]
theorem okTI.run_zero {t : Nat} {i : TI} (h : okTI P t i) : (zeroValue t).run P w = .ok i.zero w := by
  obtain ⟨x, hx, _, _, h3⟩ := h.inf
  simp [zeroValue, typeInfo, hx, h3]
theorem okTI.run_isAgg {t : Nat} {i : TI} (h : okTI P t i) : (isAgg t).run P w = .ok (isAggD i.desc) w := by
  simp only [isAgg, Sem.run_bind, h.run_underlying, Result.andThen_ok]
  cases i.desc <;> rfl
end tinfo

/-! ### Operands -/
def constL : Value → LV
  | .agg us => .ag (us.toList.map fun u => .d (.v u))
  | .tuple _ => .c .any
  | v => .c (.d (.v v))
def constL' (v : Value) : LV :=
  match v with
  | .agg us => bif us.toList.all Value.oneCell' then .ag (us.toList.map fun u => .d (.v u)) else .c .any
  | v => constL v
def ev (σ : LS) : Operand → LV
  | .tmp t => getS σ.sl t
  | .const v => constL' v
  | .func f => .c (.d (.clo f []))
  | .global _ => .c .any

section ev
variable {N : Nat} {w0 : W0} {ι : Io} {σ : LS} {a : Act} {w : World} {O : Nat → Prop} {ob : List OB}
def okCells (us : List Value) : Prop := ∀ u ∈ us, u.oneCell' = true
theorem dcvs_vals : ∀ (us : List Value), okCells us → dcvs w O ι ob (us.map fun u => .d (.v u)) us
  | [], _ => rfl
  | u :: us, h => ⟨u, us, rfl, ⟨rfl, h u (by simp)⟩, dcvs_vals us (fun x hx => h x (by simp [hx]))⟩
/-- A constant whose cells are cells. -/
def okV : Value → Bool
  | .agg us => us.toList.all Value.oneCell'
  | _ => true
theorem constL_den (v : Value) (h : okV v = true) : dlv w O ι ob (constL v) v := by
  cases v with
  | agg us => exact ⟨us, rfl, dcvs_vals us.toList (by simp only [okV, List.all_eq_true] at h; exact h)⟩
  | tuple us => trivial
  | _ => exact ⟨rfl, rfl⟩
theorem StI.ev (h : StI N w0 ι σ a w) (x : Operand) : dlv w (own ι σ.ob) ι σ.ob (ev σ x) (a.eval x) := by
  cases x with
  | tmp t =>
    simp only [LS.ev, Act.eval]
    rcases getS_mem (l := σ.sl) (i := t) with e | e
    · rw [e]; trivial
    · obtain ⟨v, hv, hd⟩ := h.slots _ e
      simp only at hv
      rw [Array.getD_eq_getD_getElem?, hv]
      exact hd
  | const v =>
    show dlv _ _ _ _ (constL' v) v
    cases v with
    | agg us =>
      simp only [constL']
      cases hk : us.toList.all Value.oneCell' with
      | true => exact constL_den (.agg us) hk
      | false => trivial
    | tuple us => trivial
    | _ => exact ⟨rfl, rfl⟩
  | func f => exact ⟨#[], rfl, rfl⟩
  | global g => trivial
end ev

/-- An operation yields this, in whatever world goes on from here. -/
def Yl (P : Program) (ρ : Operand → Value) (op : Op) (w : World) (v : Value) : Prop :=
  ∀ (o : Oper), o.op = op → ∀ w', Ext noB w w' → (execOp ρ o).run P w' = .ok (.value v) w'

inductive QR where
  | ok (p : Prop) (x : LV)
  | no

@[reducible] def i2 (k : IntKind) (n : Int) : LV := .c (.d (.v (.int k n)))
@[reducible] def b2 (b : Bool) : LV := .c (.d (.v (.bool b)))
@[reducible] def s2 (s : ByteArray) : LV := .c (.d (.v (.string s)))
def inK (k : IntKind) (n : Int) : Prop := k.min ≤ n ∧ n ≤ k.max

/-! ### Loads and addresses -/
def qload (T : Tab) (ob : List OB) (t : TypeId) : LV → QR
  | .c (.d (.at_ cs)) =>
    match T t with
    | none => .no
    | some i => if isAggD i.desc then .ok (i.size ≤ cs.length) (.ag ((cs.take i.size).map .d)) else
      match cs with
      | [] => .no
      | c :: _ => .ok True (.c (.d c))
  | .c (.op k off) =>
    match T t, ob[k]? with
    | some i, some (.bx _ cs) => if isAggD i.desc then .ok (off + i.size ≤ cs.length) (.ag ((cs.drop off).take i.size)) else
      match cs.drop off with
      | [] => .no
      | c :: _ => .ok True (.c c)
    | _, _ => .no
  | .c (.oe k j off) =>
    match T t, ob[k]? with
    | some i, some (.rw _ _ es) => if isAggD i.desc then .ok (off + i.size ≤ (es.getD j []).length) (.ag ((((es.getD j []).drop off).take i.size).map .d)) else
      match (es.getD j []).drop off with
      | [] => .no
      | c :: _ => .ok True (.c (.d c))
    | _, _ => .no
  | _ => .no

theorem run_load_some {P : Program} {w : World} {a : Addr} {u : Value} (h : w.cell? a = some u) : (load a).run P w = .ok u w := by simp [h]

theorem run_loadCellsFrom {P : Program} {w : World} (a : Addr) : ∀ (us : List Value) (i : Nat) (acc : Array Value), (∀ j u, us[j]? = some u → w.cell? (a.add (i + j)) = some u) →
    (loadCellsFrom a i us.length acc).run P w = .ok (acc ++ us.toArray) w
  | [], i, acc, _ => by simp [loadCellsFrom]
  | u :: us, i, acc, h => by
    simp only [List.length_cons, loadCellsFrom, Sem.run_bind]
    rw [run_load_some (show w.cell? (a.add i) = some u from h 0 u rfl), Result.andThen_ok, run_loadCellsFrom a us (i + 1) (acc.push u) (fun j v hj => by
      have := h (j + 1) v (by simpa using hj)
      rwa [show i + 1 + j = i + (j + 1) by omega])]
    simp
theorem run_loadCells {P : Program} {w : World} (a : Addr) (us : List Value) (h : ∀ j u, us[j]? = some u → w.cell? (a.add j) = some u) : (loadCells a us.length).run P w = .ok us.toArray w := by
  unfold loadCells
  rw [run_loadCellsFrom a us 0 #[] (by simpa using h)]
  simp

theorem run_loadVar_agg {P : Program} {w : World} {t : Nat} {i : TI} (h : okTI P t i) (hg : isAggD i.desc = true) (a : Addr) (us : List Value) (hl : us.length = i.size) (hc : ∀ j u, us[j]? = some u → w.cell? (a.add j) = some u) :
    (loadVar t a).run P w = .ok (.agg us.toArray) w := by
  simp only [loadVar, Sem.run_bind, h.run_isAgg, Result.andThen_ok, hg, if_true, h.run_sizeOf, ← hl]
  rw [run_loadCells a us hc]
  rfl
theorem run_loadVar_one {P : Program} {w : World} {t : Nat} {i : TI} (h : okTI P t i) (hg : isAggD i.desc = false) (a : Addr) (u : Value) (hc : w.cell? a = some u) :
    (loadVar t a).run P w = .ok u w := by
  simp only [loadVar, Sem.run_bind, h.run_isAgg, Result.andThen_ok, hg, Bool.false_eq_true, if_false]
  exact run_load_some hc

section
variable {P : Program} {T : Tab} {N : Nat} {w0 : W0} {ι : Io} {σ : LS} {a : Act} {w : World} {O : Nat → Prop} {ob : List OB}

theorem dcvs_get : ∀ {cs : List CV} {us : List Value}, dcvs w O ι ob cs us → ∀ j : Nat, (∀ u, us[j]? = some u → ∃ c, cs[j]? = some c ∧ dcv w O ι ob c u) ∧ (∀ c, cs[j]? = some c → ∃ u, us[j]? = some u ∧ dcv w O ι ob c u)
  | [], us, h, j => by simp only [dcvs] at h; subst h; simp
  | c :: cs, us, h, j => by
    obtain ⟨u, r, rfl, hu, hr⟩ := h
    cases j with
    | zero => exact ⟨fun v hv => by simp at hv; subst hv; exact ⟨c, rfl, hu⟩, fun c' hc => by simp at hc; subst hc; exact ⟨u, rfl, hu⟩⟩
    | succ j => simpa using dcvs_get hr j
theorem dcvs_length : ∀ {cs : List CV} {us : List Value}, dcvs w O ι ob cs us → us.length = cs.length
  | [], us, h => by simp only [dcvs] at h; simp [h]
  | c :: cs, us, h => by
    obtain ⟨u, r, rfl, _, hr⟩ := h
    simp [dcvs_length hr]
theorem dcvs_take : ∀ {cs : List CV} {us : List Value} (n : Nat), dcvs w O ι ob cs us → dcvs w O ι ob (cs.take n) (us.take n)
  | [], us, n, h => by simp only [dcvs] at h; subst h; simp [dcvs]
  | c :: cs, us, 0, h => by simp [dcvs]
  | c :: cs, us, n + 1, h => by
    obtain ⟨u, r, rfl, hu, hr⟩ := h
    exact ⟨u, r.take n, rfl, hu, dcvs_take n hr⟩
theorem dcvs_drop : ∀ {cs : List CV} {us : List Value} (n : Nat), dcvs w O ι ob cs us → dcvs w O ι ob (cs.drop n) (us.drop n)
  | [], us, n, h => by simp only [dcvs] at h; subst h; simp [dcvs]
  | c :: cs, us, 0, h => by simpa using h
  | c :: cs, us, n + 1, h => by
    obtain ⟨u, r, rfl, hu, hr⟩ := h
    simpa using dcvs_drop n hr
theorem dcvs_append : ∀ {xs ys : List CV} {us vs : List Value}, dcvs w O ι ob xs us → dcvs w O ι ob ys vs → dcvs w O ι ob (xs ++ ys) (us ++ vs)
  | [], ys, us, vs, h, h' => by simp only [dcvs] at h; subst h; simpa using h'
  | c :: xs, ys, us, vs, h, h' => by
    obtain ⟨u, r, rfl, hu, hr⟩ := h
    exact ⟨u, r ++ vs, rfl, hu, dcvs_append hr h'⟩
theorem dcvs_of_denVs : ∀ {cs : List DV} {us : List Value}, denVs w O cs us → dcvs w O ι ob (cs.map .d) us
  | [], us, h => h
  | c :: cs, us, h => by
    obtain ⟨u, r, rfl, hu, hr⟩ := h
    exact ⟨u, r, rfl, hu, dcvs_of_denVs hr⟩

/-- What a load of t at the address gives. -/
theorem qload_sound (hT : okT P T) (h : StI N w0 ι σ a w) {t : TypeId} {x : LV} {p : Prop} {y : LV} (hq : qload T σ.ob t x = .ok p y) (hp : p) {u : Value} (hx : dlv w (own ι σ.ob) ι σ.ob x u) :
    ∃ ad v, u = .pointer (some ad) ∧ ad.block < w.heap.size ∧ dlv w (own ι σ.ob) ι σ.ob y v ∧ ∀ w', (∀ j, w'.cell? (ad.add j) = w.cell? (ad.add j)) → (loadVar t ad).run P w' = .ok v w' := by
  unfold qload at hq
  split at hq
  · -- cells that are data
    rename_i cs
    obtain ⟨ad, rfl, hb, ho, hr⟩ := hx
    cases hTt : T t with
    | none => simp [hTt] at hq
    | some i =>
      have hi := hT t i hTt
      simp only [hTt] at hq
      split at hq
      · rename_i hg
        injection hq with h1 h2
        subst h1 h2
        obtain ⟨us, k1, k2, k3⟩ := denCs_vals (denCs_take hr i.size)
        have hl : us.length = i.size := by rw [k2, List.length_take, Nat.min_eq_left hp]
        exact ⟨ad, .agg us.toArray, rfl, hb, ⟨us.toArray, rfl, by simpa using dcvs_of_denVs k1⟩, fun w' hw => run_loadVar_agg hi hg ad us hl (fun j u hj => (hw j).trans (k3 j u hj))⟩
      · rename_i hg
        cases cs with
        | nil => simp at hq
        | cons c cs =>
          injection hq with h1 h2
          subst h1 h2
          obtain ⟨⟨u, hc, hu⟩, _⟩ := hr
          exact ⟨ad, u, rfl, hb, hu, fun w' hw => run_loadVar_one hi (by simpa using hg) ad u ((hw 0).trans hc)⟩
  · -- an object's cells
    rename_i k off
    obtain ⟨g, hl, hg, rfl⟩ := hx
    split at hq
    · rename_i i t' cs hTt hob
      have hi := hT t i hTt
      obtain ⟨g', us, h1, h2, h3⟩ := h.objs k _ hob
      rw [hg] at h1
      injection h1 with h1
      subst h1
      have hcell : ∀ j u, (us.toList.drop off)[j]? = some u → w.cell? ((⟨g, off, none⟩ : Addr).add j) = some u := by
        intro j u hj
        rw [add_lit', cell_of_row w g (off + j) us t' (0, 0) h2]
        simpa using hj
      split at hq
      · rename_i hgg
        injection hq with e1 e2
        subst e1 e2
        have hlen : us.size = cs.length := by simpa using dcvs_length h3
        refine ⟨⟨g, off, none⟩, .agg ((us.toList.drop off).take i.size).toArray, rfl, (Array.getElem?_eq_some_iff.1 h2).1, ⟨_, rfl, by simpa using dcvs_take i.size (dcvs_drop off h3)⟩, fun w' hw => run_loadVar_agg hi hgg _ _ ?_ ?_⟩
        · simp [hlen]; omega
        · intro j u hj
          rw [List.getElem?_take] at hj
          split at hj
          · exact (hw j).trans (hcell j u hj)
          · cases hj
      · rename_i hgg
        cases hd : cs.drop off with
        | nil => simp [hd] at hq
        | cons c r =>
          simp only [hd] at hq
          injection hq with e1 e2
          subst e1 e2
          have h4 := dcvs_drop off h3
          rw [hd] at h4
          obtain ⟨u, r', h5, h6, _⟩ := h4
          refine ⟨⟨g, off, none⟩, u, rfl, (Array.getElem?_eq_some_iff.1 h2).1, ?_, fun w' hw => run_loadVar_one hi (by simpa using hgg) _ u ((hw 0).trans (hcell 0 u (by rw [h5]; rfl)))⟩
          cases c <;> first | exact h6 | trivial
    · cases hq
  · -- an owned row's element
    rename_i k j off
    obtain ⟨g, t', size, es, hg, hob, hj, rfl⟩ := hx
    split at hq
    · rename_i i t'' size' es' hTt hob'
      rw [hob] at hob'
      injection hob' with hob'
      injection hob' with e1 e2 e3
      subst e1 e2 e3
      have hi := hT t i hTt
      obtain ⟨_, h1⟩ := h.objs k _ hob
      rcases h1 with h1 | ⟨g', cur, cap, h1, h2, h3, h4, h5, h6⟩
      · rw [hg] at h1; cases h1.1
      rw [hg] at h1
      injection h1 with h1
      subst h1
      obtain ⟨hel, hec⟩ := rdEs_get h6 hj
      have hgD : es.getD j [] = es[j] := by simp [hj]
      rw [hgD] at hq
      have hr := denCs_drop hec
      rw [add_lit'] at hec
      split at hq
      · rename_i hgg
        injection hq with e1 e2
        subst e1 e2
        have hr := denCs_drop hec off (by omega)
        obtain ⟨us, k1, k2, k3⟩ := denCs_vals (denCs_take hr i.size)
        have hl : us.length = i.size := by rw [k2, List.length_take, List.length_drop, Nat.min_eq_left (by omega)]
        rw [add_lit'] at k3
        simp only [Nat.zero_add] at k3
        exact ⟨_, .agg us.toArray, rfl, (Array.getElem?_eq_some_iff.1 h2).1, ⟨us.toArray, rfl, by simpa using dcvs_of_denVs k1⟩, fun w' hw => run_loadVar_agg hi hgg _ us hl (fun j u hj => (hw j).trans (k3 j u hj))⟩
      · rename_i hgg
        cases hd : es[j].drop off with
        | nil => simp [hd] at hq
        | cons c r =>
          simp only [hd] at hq
          injection hq with e1 e2
          subst e1 e2
          have hlt : off < es[j].length := by
            rcases Nat.lt_or_ge off es[j].length with hx | hx
            · exact hx
            · rw [List.drop_eq_nil_of_le hx] at hd; cases hd
          have hr := denCs_drop hec off (by omega)
          rw [hd, add_lit'] at hr
          simp only [Nat.zero_add] at hr
          obtain ⟨⟨u, hc, hu⟩, _⟩ := hr
          exact ⟨_, u, rfl, (Array.getElem?_eq_some_iff.1 h2).1, hu, fun w' hw => run_loadVar_one hi (by simpa using hgg) _ u ((hw 0).trans hc)⟩
    · cases hq
  · cases hq

theorem Ext.cells {w' : World} (he : Ext noB w w') {ad : Addr} (hb : ad.block < w.heap.size) (j : Nat) : w'.cell? (ad.add j) = w.cell? (ad.add j) :=
  he.cell (by rw [add_block]; exact hb) id

theorem yl_load (hT : okT P T) (h : StI N w0 ι σ a w) {t : TypeId} {x : Operand} {p : Prop} {y : LV} (hq : qload T σ.ob t (ev σ x) = .ok p y) (hp : p) :
    ∃ v, dlv w (own ι σ.ob) ι σ.ob y v ∧ Yl P a.eval (.load t x) w v := by
  obtain ⟨ad, v, hu, hb, hv, hr⟩ := qload_sound hT h hq hp (h.ev x)
  refine ⟨v, hv, fun o ho w' he => ?_⟩
  simp only [execOp, ho, Instr.loadAt, hu, Instr.sureAddr, Sem.run_bind, Sem.run_pure, Result.andThen_ok, hr w' (fun j => he.cells hb j)]
end
end Go.LS
