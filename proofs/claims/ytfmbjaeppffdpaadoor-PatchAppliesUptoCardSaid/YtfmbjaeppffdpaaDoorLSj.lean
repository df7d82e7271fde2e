/- The operations that make or write memory. -/
import Derived.Test.YtfmbjaeppffdpaaDoorLSi
namespace Go.LS
open Go Go.RowKit

inductive ER where
  | ok (p : Prop) (σ' : LS) (x : LV)
  | no

def elemsB (σ : LS) (sz : Nat) : Nat → List (Nat × Operand) → Option (List (List DV))
  | _, [] => some []
  | i, (j, x) :: r =>
    match (ev σ x).cellish, allD (cellsL (ev σ x)), elemsB σ sz (i + 1) r with
    | true, some ds, some es => if j = i ∧ ds.length = sz then some (ds :: es) else none
    | _, _, _ => none

def capsB (σ : LS) : List Operand → Option (List DV)
  | [] => some []
  | x :: r =>
    match ev σ x, capsB σ r with
    | .c (.d d), some ds => some (d :: ds)
    | _, _ => none

def mset : List (ByteArray × DV) → ByteArray → DV → List (ByteArray × DV)
  | [], k, x => [(k, x)]
  | (k', y) :: r, k, x => if k' = k then (k, x) :: r else (k', y) :: mset r k x

def zeroD : Value → List DV
  | .agg us => us.toList.map .v
  | v => [.v v]

/-! ### An empty slice, as a slice of elements -/
def nilsOf (T : Tab) : Nat → TypeId → List (Option Nat)
  | 0, _ => []
  | n + 1, t => match T t with
    | some i => match i.desc with
      | .slice e => match T e with | some j => [some j.size] | none => []
      | .struct fs => fs.toList.flatMap fun f => nilsOf T n f.type
      | _ => List.replicate i.size none
    | none => []
def nzD : Option Nat → DV → DV
  | some k, .v (.slice none 0 0) => .sl k []
  | _, d => d
def nzDs : List (Option Nat) → List DV → List DV
  | n :: ns, d :: ds => nzD n d :: nzDs ns ds
  | _, ds => ds
def nzC (n : Option Nat) : CV → CV
  | .d d => .d (nzD n d)
  | c => c
def nzCs : List (Option Nat) → List CV → List CV
  | n :: ns, d :: ds => nzC n d :: nzCs ns ds
  | _, ds => ds
def nzL (ns : List (Option Nat)) : LV → LV
  | .c c => match ns with | n :: _ => .c (nzC n c) | [] => .c c
  | .ag cs => .ag (nzCs ns cs)
  | .tu xs => .tu xs

def ebuildSlice (T : Tab) (σ : LS) (t n : Nat) (ps : List (Nat × Operand)) : ER :=
  match T t with
  | some ⟨.slice e, _, _, _, _⟩ =>
    match T e, fzs σ (ps.flatMap fun p => refL σ.ob (ev σ p.2)) with
    | some j, some σ1 =>
      match elemsB σ1 j.size 0 ps with
      | some es => .ok (n = es.length ∧ 0 < j.size ∧ n * j.size ≤ 16777216 ∧ j.zero.cells.size = j.size) (σ1.add (.rw e j.size (es.map (nzDs (nilsOf T 4 e))))) (.c (.os σ1.ob.length))
      | none => .no
    | _, _ => .no
  | _ => .no

def emakeSlice (T : Tab) (σ : LS) (t : Nat) (l c : LV) : ER :=
  match T t, l, c with
  | some ⟨.slice e, _, _, _, _⟩, .c (.d (.v (.int _ n))), .c (.d (.v (.int _ m))) =>
    match T e with
    | some j => .ok (n = m ∧ 0 ≤ n ∧ n ≤ 9223372036854775807 ∧ (j.bytes : Int) * n ≤ 281474976710656 ∧ 0 < j.size ∧ okZero j.zero = true ∧ j.zero.cells.size = j.size) (σ.add (.rw e j.size (List.replicate n.toNat (zeroD j.zero)))) (.c (.os σ.ob.length))
    | none => .no
  | _, _, _ => .no

def estore (T : Tab) (σ : LS) (t : Nat) (ad v : Operand) : ER :=
  match T t, ev σ ad with
  | some i, .c (.op k off) =>
    match σ.ob[k]? with
    | some (.bx t' cs) => if (ev σ v).cellish then .ok ((cellsL (ev σ v)).length = i.size ∧ off + i.size ≤ cs.length) { σ with ob := σ.ob.set k (.bx t' (putL cs off (cellsL (ev σ v)))) } (.c .any) else .no
    | _ => .no
  | some i, .c (.oe _ _ _) =>
    match fzs σ (refL σ.ob (ev σ v)) with
    | some σ1 =>
      match ev σ1 ad with
      | .c (.oe k n off) =>
        match σ1.ob[k]?, (ev σ1 v).cellish, allD (cellsL (ev σ1 v)) with
        | some (.rw t' size es), true, some ds => .ok (ds.length = i.size ∧ off + i.size ≤ size ∧ n < es.length) { σ1 with ob := σ1.ob.set k (.rw t' size (es.set n ((es.getD n []).take off ++ ds ++ (es.getD n []).drop (off + ds.length)))) } (.c .any)
        | _, _, _ => .no
      | _ => .no
    | none => .no
  | _, _ => .no

def eappend (T : Tab) (σ : LS) (ts : List Nat) (s x : Operand) : ER :=
  match ts with
  | [t, t'] =>
    if t' = t then
      match T t with
      | some ⟨.slice e, _, _, _, _⟩ =>
        match T e with
        | some j =>
          match ev σ s, elemsL σ.ob (ev σ x) with
          | .c (.os k), some (size, xs) =>
            match σ.ob[k]? with
            | some (.rw e' size' es) => .ok (e' = e ∧ size' = j.size ∧ (size = j.size ∨ xs = []) ∧ j.zero.cells.size = j.size ∧ es.length + xs.length ≤ maxLen ∧ (es.length + xs.length) * j.bytes ≤ 140737488355328)
                ⟨mapSl (klR k) σ.sl, setOB (klR k) (.rw e j.size (es ++ xs)) σ.ob k⟩ (.c (.os k))
            | _ => .no
          | .c (.d (.v (.slice none 0 0))), some (size, xs) => .ok (0 < j.size ∧ (size = j.size ∨ xs = []) ∧ j.zero.cells.size = j.size ∧ xs.length ≤ maxLen ∧ xs.length * j.bytes ≤ 140737488355328)
                (σ.add (.rw e j.size xs)) (.c (.os σ.ob.length))
          | _, _ => .no
        | none => .no
      | _ => .no
    else .no
  | _ => .no

/-- A string's bytes, as elements of a row. -/
def strD (s : ByteArray) : List (List DV) := s.data.toList.map bD
def eappendS (T : Tab) (σ : LS) (ts : List Nat) (s x : Operand) : ER :=
  match ts with
  | [t, t'] =>
    match T t, T t' with
    | some ⟨.slice e, _, _, _, _⟩, some ⟨.string, _, _, _, _⟩ =>
      match T e, ev σ s, ev σ x with
      | some j, .c (.os k), .c (.d (.v (.string str))) =>
        match σ.ob[k]? with
        | some (.rw e' size es) => .ok (e' = e ∧ size = 1 ∧ j.size = 1 ∧ j.bytes = 1 ∧ j.zero = .int .u8 0 ∧ es.length + str.size ≤ 140737488355328)
            ⟨mapSl (klR k) σ.sl, setOB (klR k) (.rw e 1 (es ++ strD str)) σ.ob k⟩ (.c (.os k))
        | _ => .no
      | _, _, _ => .no
    | _, _ => .no
  | _ => .no
/-- The first that may be; the second is held back till the first is known. -/
def orS (e : ER) (T : Tab) (σ : LS) (ts : List Nat) (s x : Operand) : ER := match e with
  | .ok p σ' y => .ok p σ' y
  | .no => eappendS T σ ts s x
theorem orS_ok {p : Prop} {σ' : LS} {y : LV} {T : Tab} {σ : LS} {ts : List Nat} {s x : Operand} : orS (.ok p σ' y) T σ ts s x = .ok p σ' y := rfl
theorem orS_no {T : Tab} {σ : LS} {ts : List Nat} {s x : Operand} : orS .no T σ ts s x = eappendS T σ ts s x := rfl
def mdel : List (ByteArray × DV) → ByteArray → List (ByteArray × DV)
  | [], _ => []
  | (k', y) :: r, k => if k' = k then r else (k', y) :: mdel r k
def emapDelete (T : Tab) (σ : LS) (ts : List Nat) (m k : Operand) : ER :=
  match ts with
  | t :: _ =>
    match T t with
    | some ⟨.map kt _, _, _, _, _⟩ =>
      match T kt with
      | some ⟨.string, _, _, _, _⟩ =>
        match ev σ m, ev σ k with
        | .c (.om n), .c (.d (.v (.string s))) =>
          match σ.ob[n]? with
          | some (.mp es) => .ok True { σ with ob := σ.ob.set n (.mp (mdel es s)) } (.tu [])
          | _ => .no
        | _, _ => .no
      | _ => .no
    | _ => .no
  | _ => .no

def emapUpdate (T : Tab) (σ : LS) (t : Nat) (m k v : Operand) : ER :=
  match T t with
  | some ⟨.map kt _, _, _, _, _⟩ =>
    match T kt, fzs σ (refL σ.ob (ev σ v)) with
    | some ⟨.string, _, _, _, _⟩, some σ1 =>
      match ev σ1 m, ev σ1 k, ev σ1 v with
      | .c (.om n), .c (.d (.v (.string s))), .c (.d d) =>
        match σ1.ob[n]? with
        | some (.mp es) => .ok True { σ1 with ob := σ1.ob.set n (.mp (mset es s d)) } (.c .any)
        | _ => .no
      | _, _, _ => .no
    | _, _ => .no
  | _ => .no

def emakeFunc (σ : LS) (f : FuncId) (caps : List Operand) : ER :=
  match fzs σ (caps.flatMap fun x => refL σ.ob (ev σ x)) with
  | some σ1 =>
    match capsB σ1 caps with
    | some ds => .ok True σ1 (.c (.d (.clo f ds)))
    | none => .no
  | none => .no

def ecall (T : Tab) (σ : LS) (c : Call) : ER :=
  match c.callee, c.args.toList with
  | .builtin .append, [s, x] => orS (eappend T σ c.argTypes.toList s x) T σ c.argTypes.toList s x
  | .builtin .delete, [m, k] => emapDelete T σ c.argTypes.toList m k
  | _, _ => .no

def eff (T : Tab) (σ : LS) : Op → ER
  | .box t v => if (ev σ v).cellish then .ok True (σ.add (.bx t (cellsL (ev σ v)))) (.c (.op σ.ob.length 0)) else .no
  | .alloc t => match T t with | some i => if okZero i.zero then .ok True (σ.add (.bx t (zeroL i.zero))) (.c (.op σ.ob.length 0)) else .no | none => .no
  | .buildSlice t n ps => ebuildSlice T σ t n ps.toList
  | .makeSlice t l c => emakeSlice T σ t (ev σ l) (ev σ c)
  | .makeMap _ none => .ok True (σ.add (.mp [])) (.c (.om σ.ob.length))
  | .store t a v => estore T σ t a v
  | .mapUpdate t m k v => emapUpdate T σ t m k v
  | .makeFunc (.func f) first caps => if first.size = 0 then emakeFunc σ f caps.toList else .no
  | .call c => ecall T σ c
  | _ => .no

/-- What an operation does: it yields, or leaves nothing; the world that it leaves. -/
def Does (P : Program) (ρ : Operand → Value) (op : Op) (w : World) (v : Value) (w' : World) : Prop :=
  ∀ (o : Oper), o.op = op → (execOp ρ o).run P w = .ok (.value v) w' ∨ ((execOp ρ o).run P w = .ok .skip w' ∧ v = undef)

section
variable {P : Program} {T : Tab} {N : Nat} {w0 : W0} {ι ι' : Io} {σ σ' : LS} {a : Act} {w w' : World} {O : Nat → Prop} {ob ob' : List OB}

/-- Those that leave alone what was there. -/
def newOp : Op → Bool
  | .box _ _ => true
  | .alloc _ => true
  | .buildSlice _ _ _ => true
  | .makeSlice _ _ _ => true
  | .makeMap _ _ => true
  | .makeFunc _ _ _ => true
  | _ => false
/-- What is claimed of each. -/
def Eok (P : Program) (N : Nat) (w0 : W0) (a : Act) (op : Op) (w : World) (σ' : LS) (x : LV) : Prop :=
  ∃ ι' v w', Does P a.eval op w v w' ∧ StI N w0 ι' σ' a w' ∧ dlv w' (own ι' σ'.ob) ι' σ'.ob x v ∧ (newOp op = true → Ext noB w w')

theorem live_new {ob : List OB} {o : OB} (hd : o.isDead = false) : live (ob ++ [o]) ob.length := ⟨o, by simp, hd⟩

theorem e_box (h : StI N w0 ι σ a w) {t : Nat} {v : Operand} (hc : (ev σ v).cellish = true) : Eok P N w0 a (.box t v) w (σ.add (.bx t (cellsL (ev σ v)))) (.c (.op σ.ob.length 0)) := by
  have hd := cells_dl1 (h.ev v) hc
  refine ⟨_, .pointer (some ⟨w.heap.size, 0, none⟩), _, fun o ho => .inl ?_, h.newBox hd, ?_, fun _ => Ext.alloc _ _ _⟩
  · simp [execOp, ho, Instr.box, newVar, newRow]
  · exact ⟨w.heap.size, live_new rfl, upd_same _ _ _, rfl⟩
theorem e_alloc (hT : okT P T) (h : StI N w0 ι σ a w) {t : Nat} {i : TI} (hi : T t = some i) (hz : okZero i.zero = true) : Eok P N w0 a (.alloc t) w (σ.add (.bx t (zeroL i.zero))) (.c (.op σ.ob.length 0)) := by
  refine ⟨_, .pointer (some ⟨w.heap.size, 0, none⟩), _, fun o ho => .inl ?_, h.newBox (us := i.zero.cells) (zeroL_den' hz), ?_, fun _ => Ext.alloc _ _ _⟩
  · simp [execOp, ho, Instr.alloc, newVar, newRow, (hT t i hi).run_zero]
  · exact ⟨w.heap.size, live_new rfl, upd_same _ _ _, rfl⟩

theorem e_makeMap (h : StI N w0 ι σ a w) {t : Nat} : Eok P N w0 a (.makeMap t none) w (σ.add (.mp [])) (.c (.om σ.ob.length)) := by
  refine ⟨upd ι σ.ob.length (some w.heap.size), .map (some w.heap.size), w.alloc (.map #[] 0), fun o ho => .inl ?_, h.add (Ext.alloc noB w _) (fun b hb => by injection hb with hb; omega) (fun _ _ _ e => by cases e) ?_, ?_, fun _ => Ext.alloc _ _ _⟩
  · simp [execOp, ho, Instr.makeMap]
  · exact ⟨w.heap.size, #[], 0, upd_same _ _ _, heap_alloc_new w _, rfl⟩
  · exact ⟨w.heap.size, live_new rfl, upd_same _ _ _, rfl⟩

theorem capsB_sound (h : StI N w0 ι σ a w) : ∀ {xs : List Operand} {ds : List DV}, capsB σ xs = some ds → denVs w (own ι σ.ob) ds (xs.map a.eval)
  | [], ds, hc => by simp only [capsB, Option.some.injEq] at hc; subst hc; rfl
  | x :: r, ds, hc => by
    simp only [capsB] at hc
    split at hc
    · rename_i d ds' e1 e2
      injection hc with hc
      subst hc
      have := h.ev x
      rw [e1] at this
      exact ⟨_, _, rfl, this, capsB_sound h e2⟩
    · cases hc

theorem e_makeFunc (h : StI N w0 ι σ a w) {f : FuncId} {caps : Array Operand} {p : Prop} {x : LV} (he : emakeFunc σ f caps.toList = .ok p σ' x) : Eok P N w0 a (.makeFunc (.func f) #[] caps) w σ' x := by
  unfold emakeFunc at he
  split at he
  · rename_i σ1 h1
    split at he
    · rename_i ds h2
      injection he with e1 e2 e3
      subst e1 e2 e3
      have hs := fzs_sound h h1
      have hd := capsB_sound hs h2
      refine ⟨ι, .func (.func f) #[] (caps.map a.eval), w, fun o ho => .inl ?_, hs, ⟨_, rfl, by simpa using hd⟩, fun _ => Ext.refl _ _⟩
      simp [execOp, ho, Instr.makeFunc]
    · cases he
  · cases he

theorem flatten_len {size : Nat} : ∀ {es : List (List DV)}, (∀ e ∈ es, e.length = size) → es.flatten.length = es.length * size
  | [], _ => by simp
  | e :: es, hl => by
    have h1 := hl e (by simp)
    have h2 := flatten_len (es := es) (fun x hx => hl x (by simp [hx]))
    simp only [List.flatten_cons, List.length_append, List.length_cons, Nat.add_mul, Nat.one_mul]
    omega
theorem rdEs_vals_len {size : Nat} {es : List (List DV)} {us : List Value} (h : denVs w O es.flatten us) (hl : ∀ e ∈ es, e.length = size) : us.length = es.length * size := by
  rw [denVs_length h, flatten_len hl]

theorem foldl_set (off : Nat) : ∀ (vs : List Value) (j : Nat) (cs : Array Value), off + j + vs.length ≤ cs.size →
    ((vs.zipIdx j).foldl (fun cs p => cs.setIfInBounds (off + p.2) p.1) cs).toList = cs.toList.take (off + j) ++ vs ++ cs.toList.drop (off + j + vs.length)
  | [], j, cs, _ => by simp
  | v :: vs, j, cs, h => by
    simp only [List.length_cons] at h
    simp only [List.zipIdx_cons, List.foldl_cons]
    rw [foldl_set off vs (j + 1) (cs.setIfInBounds (off + j) v) (by simp; omega)]
    have hlt : off + j < cs.toList.length := by simp; omega
    have e : (cs.setIfInBounds (off + j) v).toList = cs.toList.take (off + j) ++ v :: cs.toList.drop (off + j + 1) := by
      rw [Array.toList_setIfInBounds, List.set_eq_take_append_cons_drop, if_pos hlt]
    rw [e]
    have l1 : (cs.toList.take (off + j)).length = off + j := by rw [List.length_take]; omega
    have t1 : (cs.toList.take (off + j) ++ v :: cs.toList.drop (off + j + 1)).take (off + (j + 1)) = cs.toList.take (off + j) ++ [v] := by
      rw [List.take_append, l1, show off + (j + 1) - (off + j) = 1 by omega, List.take_of_length_le (by omega)]
      rfl
    have t2 : (cs.toList.take (off + j) ++ v :: cs.toList.drop (off + j + 1)).drop (off + (j + 1) + vs.length) = cs.toList.drop (off + j + (vs.length + 1)) := by
      rw [List.drop_append, l1, List.drop_of_length_le (by omega), show off + (j + 1) + vs.length - (off + j) = vs.length + 1 by omega, List.nil_append, List.drop_succ_cons, List.drop_drop]
      congr 1; omega
    rw [t1, t2]
    simp

theorem fill_row (size : Nat) : ∀ (vs : List Value) (i : Nat) (cur : Array Value), (∀ v ∈ vs, v.cells.size = size) → (i + vs.length) * size ≤ cur.size →
    ∃ cur', Instr.fill (fun i => some (i * size, size)) cur ((vs.zipIdx i).map fun p => (p.2, p.1)) = some cur' ∧ cur'.toList = cur.toList.take (i * size) ++ vs.flatMap (fun v => v.cells.toList) ++ cur.toList.drop ((i + vs.length) * size)
  | [], i, cur, _, _ => ⟨cur, rfl, by simp⟩
  | v :: vs, i, cur, hv, hc => by
    have hs : v.cells.size = size := hv v (by simp)
    simp only [List.length_cons] at hc
    have e1 : (i + (vs.length + 1)) * size = i * size + (vs.length * size + size) := by rw [Nat.add_mul, Nat.add_mul, Nat.one_mul]
    have hcond : (v.cells.size ≠ size || decide (i * size + v.cells.size > cur.size)) = false := by
      simp [hs]; omega
    have hfold := foldl_set (i * size) v.cells.toList 0 cur (by simp [hs]; omega)
    simp only [Nat.add_zero] at hfold
    have hcur : (Array.foldl (fun cs (x : Value × Nat) => cs.setIfInBounds (i * size + x.2) x.1) cur v.cells.zipIdx).toList = cur.toList.take (i * size) ++ v.cells.toList ++ cur.toList.drop (i * size + size) := by
      rw [← Array.foldl_toList, Array.toList_zipIdx, hfold]
      simp [hs]
    have e2 : (i + 1) * size = i * size + size := by rw [Nat.add_mul, Nat.one_mul]
    have e3 : (i + 1 + vs.length) * size = i * size + (vs.length * size + size) := by rw [show i + 1 + vs.length = i + (vs.length + 1) by omega, e1]
    have hsz : (Array.foldl (fun cs (x : Value × Nat) => cs.setIfInBounds (i * size + x.2) x.1) cur v.cells.zipIdx).size = cur.size := by
      rw [← Array.length_toList, hcur]
      simp [hs]
      omega
    obtain ⟨cur', h1, h2⟩ := fill_row size vs (i + 1) _ (fun x hx => hv x (by simp [hx])) (by rw [hsz, e3]; omega)
    refine ⟨cur', ?_, ?_⟩
    · simp only [List.zipIdx_cons, List.map_cons, Instr.fill]
      rw [if_neg (by simpa using hcond)]
      exact h1
    · rw [h2, hcur]
      have l1 : (cur.toList.take (i * size)).length = i * size := by rw [List.length_take]; simp; omega
      have l2 : (cur.toList.take (i * size) ++ v.cells.toList).length = i * size + size := by rw [List.length_append, l1]; simp [hs]
      rw [List.take_append, l2, e2, Nat.sub_self, List.take_zero, List.append_nil, List.take_of_length_le (by omega)]
      rw [List.drop_append, l2, e3, List.drop_of_length_le (by omega), List.nil_append, List.drop_drop]
      simp only [List.flatMap_cons, List.length_cons, List.append_assoc]
      congr 4
      rw [e1]; omega

theorem elemsB_sound (h : StI N w0 ι σ a w) {sz : Nat} : ∀ {ps : List (Nat × Operand)} {i : Nat} {es : List (List DV)}, elemsB σ sz i ps = some es →
    ps.map (fun p => (p.1, a.eval p.2)) = ((ps.map fun p => a.eval p.2).zipIdx i).map (fun p => (p.2, p.1)) ∧ (∀ v ∈ ps.map (fun p => a.eval p.2), v.cells.size = sz) ∧
      denVs w (own ι σ.ob) es.flatten ((ps.map fun p => a.eval p.2).flatMap fun v => v.cells.toList) ∧ (∀ e ∈ es, e.length = sz) ∧ es.length = ps.length
  | [], i, es, he => by
    simp only [elemsB, Option.some.injEq] at he
    subst he
    exact ⟨rfl, by simp, rfl, by simp, rfl⟩
  | (j, x) :: r, i, es, he => by
    simp only [elemsB] at he
    split at he
    · rename_i ds es' h1 h2 h3
      split at he
      · rename_i hc
        obtain ⟨rfl, hl⟩ := hc
        injection he with he
        subst he
        have hd := cells_dl1 (h.ev x) h1
        rw [allD_spec h2] at hd
        have hd' := denVs_of_dcvs hd
        have hsz : (a.eval x).cells.size = sz := by rw [← hl]; simpa using denVs_length hd'
        obtain ⟨k1, k2, k3, k4, k5⟩ := elemsB_sound h h3
        refine ⟨?_, ?_, ?_, ?_, by simp [k5]⟩
        · simp only [List.map_cons, List.zipIdx_cons, k1]
        · intro v hv
          simp only [List.map_cons, List.mem_cons] at hv
          rcases hv with rfl | hv
          · exact hsz
          · exact k2 v hv
        · simp only [List.map_cons, List.flatMap_cons, List.flatten_cons]
          exact denVs_append hd' k3
        · intro e he
          rcases List.mem_cons.1 he with rfl | he
          · exact hl
          · exact k4 e he
      · cases he
    · cases he

theorem nzD_den {n : Option Nat} {d : DV} {u : Value} (h : den w O d u) : den w O (nzD n d) u := by
  unfold nzD
  split
  · obtain ⟨rfl, _⟩ := h
    exact ⟨none, 0, rfl, by simp, by simp [maxLen], fun h => by simp at h⟩
  · exact h
theorem nzDs_den : ∀ {ns : List (Option Nat)} {ds : List DV} {us : List Value}, denVs w O ds us → denVs w O (nzDs ns ds) us
  | [], ds, us, h => by cases ds <;> exact h
  | n :: ns, [], us, h => h
  | n :: ns, d :: ds, us, h => by
    obtain ⟨u, r, rfl, h1, h2⟩ := h
    exact ⟨u, r, rfl, nzD_den h1, nzDs_den h2⟩
theorem nzDs_len : ∀ {ns : List (Option Nat)} {ds : List DV}, (nzDs ns ds).length = ds.length
  | [], ds => by cases ds <;> rfl
  | n :: ns, [] => rfl
  | n :: ns, d :: ds => by simp [nzDs, nzDs_len]
theorem denVs_split : ∀ {xs ys : List DV} {us : List Value}, denVs w O (xs ++ ys) us → ∃ a b, us = a ++ b ∧ denVs w O xs a ∧ denVs w O ys b
  | [], ys, us, h => ⟨[], us, rfl, rfl, h⟩
  | x :: xs, ys, us, h => by
    obtain ⟨u, r, rfl, h1, h2⟩ := h
    obtain ⟨a, b, rfl, h3, h4⟩ := denVs_split h2
    exact ⟨u :: a, b, rfl, ⟨u, a, rfl, h1, h3⟩, h4⟩
theorem nzEs_den {ns : List (Option Nat)} : ∀ {es : List (List DV)} {us : List Value}, denVs w O es.flatten us → denVs w O (es.map (nzDs ns)).flatten us
  | [], us, h => h
  | e :: es, us, h => by
    simp only [List.flatten_cons] at h
    obtain ⟨a, b, rfl, h1, h2⟩ := denVs_split h
    simp only [List.map_cons, List.flatten_cons]
    exact denVs_append (nzDs_den h1) (nzEs_den h2)
theorem nzC_dcv {n : Option Nat} {c : CV} {u : Value} {ob : List OB} (h : dcv w O ι ob c u) : dcv w O ι ob (nzC n c) u := by
  cases c with
  | d d => exact nzD_den h
  | _ => exact h
theorem nzCs_dcvs {ob : List OB} : ∀ {ns : List (Option Nat)} {cs : List CV} {us : List Value}, dcvs w O ι ob cs us → dcvs w O ι ob (nzCs ns cs) us
  | [], cs, us, h => by cases cs <;> exact h
  | n :: ns, [], us, h => h
  | n :: ns, c :: cs, us, h => by
    obtain ⟨u, r, rfl, h1, h2⟩ := h
    exact ⟨u, r, rfl, nzC_dcv h1, nzCs_dcvs h2⟩
theorem nzL_dl1 {ob : List OB} {ns : List (Option Nat)} {x : LV} {u : Value} (h : dl1 w O ι ob x u) : dl1 w O ι ob (nzL ns x) u := by
  cases x with
  | c c =>
    cases ns with
    | nil => exact h
    | cons n ns =>
      cases c with
      | d d => exact nzD_den (w := w) (O := O) h
      | _ => exact h
  | ag cs => obtain ⟨us, rfl, hd⟩ := h; exact ⟨us, rfl, nzCs_dcvs hd⟩
  | tu xs => exact h
theorem nzL_dlv {ob : List OB} {ns : List (Option Nat)} {x : LV} {u : Value} (h : dlv w O ι ob x u) : dlv w O ι ob (nzL ns x) u := by
  cases x with
  | c c =>
    have h1 : dl1 w O ι ob (nzL ns (.c c)) u := nzL_dl1 (x := .c c) h
    cases ns <;> exact h1
  | ag cs => exact nzL_dl1 (x := .ag cs) h
  | tu xs => exact h

theorem e_buildSlice (hT : okT P T) (h : StI N w0 ι σ a w) {t n : Nat} {ps : Array (Nat × Operand)} {p : Prop} {x : LV} (he : ebuildSlice T σ t n ps.toList = .ok p σ' x) (hp : p) : Eok P N w0 a (.buildSlice t n ps) w σ' x := by
  unfold ebuildSlice at he
  split at he
  · rename_i e _ _ _ _ hTt
    split at he
    · rename_i j σ1 hj hf
      split at he
      · rename_i es hes
        injection he with e1 e2 e3
        subst e1 e2 e3
        obtain ⟨hn, hsz, hbig, hz⟩ := hp
        have hs := fzs_sound h hf
        obtain ⟨k1, k2, k3, k4, k5⟩ := elemsB_sound hs hes
        have hnl : n = ps.toList.length := by rw [hn, k5]
        have hlen : (ps.toList.map fun p => a.eval p.2).length = n := by rw [List.length_map, hnl]
        obtain ⟨cur', f1, f2⟩ := fill_row j.size (ps.toList.map fun p => a.eval p.2) 0 ((Array.range (n * j.size)).map fun q => (if n * j.size = 0 then #[] else j.zero.cells)[q % (if n * j.size = 0 then #[] else j.zero.cells).size]!) k2 (by rw [hlen]; simp)
        have f2' : cur'.toList = (ps.toList.map fun p => a.eval p.2).flatMap fun v => v.cells.toList := by
          rw [f2]
          simp only [Nat.zero_mul, List.take_zero, List.nil_append, Nat.zero_add]
          rw [List.drop_of_length_le (by simp; rw [show ps.size = n by simpa using hnl.symm]; exact Nat.le_refl _), List.append_nil]
        have hcs : cur'.size = n * j.size := by
          have h1 := rdEs_vals_len k3 k4
          rw [← f2'] at h1
          rw [hn]
          simpa using h1
        have hadd := hs.newRow (t := e) (hT e j hj).small hsz (us := cur') (es := es.map (nzDs (nilsOf T 4 e))) (by rw [f2']; exact nzEs_den k3) (fun e he => by
          obtain ⟨e', h1, rfl⟩ := List.mem_map.1 he
          rw [nzDs_len]; exact k4 e' h1) (cap := n) hcs (by simp only [maxLen]; have : n ≤ n * j.size := Nat.le_mul_of_pos_right n hsz; omega) (by simp; omega) (by simp; exact hn.symm)
        refine ⟨_, .slice (some ⟨w.heap.size, 0, none⟩) n n, _, fun o ho => .inl ?_, hadd, ?_, fun _ => Ext.alloc _ _ _⟩
        · have hu := (hT t _ hTt).und
          have hfill : Instr.fill (fun i => some (i * j.size, j.size)) ((Array.range (n * j.size)).map fun q => (if n * j.size = 0 then #[] else j.zero.cells)[q % (if n * j.size = 0 then #[] else j.zero.cells).size]!) (Array.map (fun x => (x.1, a.eval x.2)) ps).toList = some cur' := by
            rw [Array.toList_map, k1]; exact f1
          have hnb : ¬ (n * j.size > 2 ^ 24) := by omega
          simp only [execOp, ho, Instr.buildSlice, Sem.run_bind, Go.run_underlying hu, Result.andThen_ok, (hT e j hj).run_sizeOf]
          by_cases h0 : n * j.size = 0
          · simp only [if_pos h0] at hfill
            simp only [if_neg hnb, if_pos h0, Sem.run_bind, Result.andThen_ok, hfill, newRow, run_newObj, World.alloc_eq, Sem.run_pure]
          · simp only [if_neg h0] at hfill
            simp only [if_neg hnb, if_neg h0, Sem.run_bind, (hT e j hj).run_zero, Result.andThen_ok, hfill, newRow, run_newObj, World.alloc_eq, Sem.run_pure]
        · refine ⟨e, j.size, es.map (nzDs (nilsOf T 4 e)), by simp [LS.add], .inr ⟨w.heap.size, cur', n, e, upd_same _ _ _, heap_alloc_new w _, hcs, by simp; omega, by simp only [maxLen]; have : n ≤ n * j.size := Nat.le_mul_of_pos_right n hsz; omega, by simp [hn]⟩⟩
      · cases he
    · cases he
  · cases he
end
end Go.LS
