/- Walking code over logical states: one function that says what is left to be shown, and that this is enough. -/
import Derived.Test.YtfmbjaeppffdpaaDoorLSl
namespace Go.LS
open Go Go.RowKit

/-- What a whole program gives. -/
structure Env where
  P : Program
  T : Tab
  G : World → Prop
  hT : okT P T
  gb : Nat
  gz : ∀ w, G w → gb ≤ w.heap.size
  gs : ∀ w w' : World, Below gb w w' → G w → G w'
  muts : FuncId → Bool
  grows : FuncId → Bool
  mixed : P.follows Departure.mixedOrders = true

/-- The world where a call began: what is given of all worlds; no table lies in what it may write to. -/
def GW (V : Env) (w0 : W0) : Prop := V.G w0.toWorld ∧ ∀ g, w0.M g → V.gb ≤ g
theorem GW.at {V : Env} {w0 : W0} {w : World} (h : GW V w0) (he : Ext w0.M w0.toWorld w) : V.G w :=
  V.gs _ _ ⟨he.os, he.tape, he.output, he.size, fun k hk => he.block k (Nat.lt_of_lt_of_le hk (V.gz _ h.1)) (fun hm => by have := h.2 k hm; omega)⟩ h.1
/-- What one function's walk is about: how many slots, what is to be shown at its end, which slots are still read behind a region. -/
structure Cx where
  E : Env
  N : Nat
  Q : LS → Prop
  L : Nat → Option (List Nat)

inductive Fr where
  | code (c : Code)
  | bl (id : Nat)
  | lp (R : LS → Prop)

def QS (X : Cx) (w0 : W0) : List Fr → Exit → Act → World → Prop
  | [], e, a, w => match e with
    | .normal => ∃ τ, St X.N w0 τ a w ∧ X.Q τ
    | .ret => ∃ τ, St X.N w0 τ a w ∧ X.Q τ
    | _ => False
  | .code y :: S, e, a, w => Exit.then (Code.wp X.E.P y (QS X w0 S)) (QS X w0 S) e a w
  | .bl id :: S, e, a, w => Exit.inBlock id (QS X w0 S) e a w
  | .lp R :: S, e, a, w => Exit.then (fun a w => ∃ τ, St X.N w0 τ a w ∧ R τ) (QS X w0 S) e a w

/-! ### What a function gives to its callers -/
def dataC : CV → Bool
  | .d _ => true
  | _ => false
def data1 : LV → Bool
  | .c c => dataC c
  | .ag cs => cs.all dataC
  | .tu _ => false
def dataL : LV → Bool
  | .tu xs => xs.all data1
  | x => data1 x
def pureC : CV → Bool
  | .d (.v _) => true
  | _ => false
def pure1 : LV → Bool
  | .c c => pureC c
  | .ag cs => cs.all pureC
  | .tu _ => false
def pureL : LV → Bool
  | .tu xs => xs.all pure1
  | x => pure1 x
def none0 (E : Nat → Prop) : Io := ⟨fun _ => none, E⟩
/-- A value that is data alone, no block of E. -/
def dat (w : World) (E : Nat → Prop) (x : LV) (u : Value) : Prop := dlv w E (none0 E) [] x u
def dats (w : World) (E : Nat → Prop) : List LV → List Value → Prop
  | [], us => us = []
  | x :: xs, us => ∃ u r, us = u :: r ∧ dat w E x u ∧ dats w E xs r

def callable (P : Program) (f : FuncId) : Prop := ∃ fn, P.funcs[f]? = some fn ∧ (fn.name == "runtime.NumGoroutine") = false ∧ fn.body.isNone = false

def Spec (V : Env) (f : FuncId) (args : List LV) (r : LV) : Prop :=
  callable V.P f ∧ dataL r = true ∧ ∀ (w : World) (E : Nat → Prop) (us : Array Value), V.G w → (∀ g, E g → g < w.heap.size) → dats w E args us.toList →
    Calls V.P f us w fun e w' => ∃ v, e = .returned v ∧ Ext noB w w' ∧ dat w' E r v

/-- A function that writes to the row that it is handed first, and to nothing else of its callers. -/
def SpecM (V : Env) (f : FuncId) (t size : Nat) (es : List (List DV)) (args : List LV) (es' : List (List DV)) (r : LV) : Prop :=
  callable V.P f ∧ dataL r = true ∧ es'.length = es.length ∧ ∀ (w : World) (E : Nat → Prop) (g : Option Nat) (u : Value) (us : Array Value), V.G w → (∀ b, E b → b < w.heap.size ∧ g ≠ some b) → (∀ b, g = some b → V.gb ≤ b) →
    dob w (fun b => E b ∨ g = some b) ⟨fun _ => g, E⟩ [] 0 (.rw t size es) → hdr w g size es.length u → dats w (fun b => E b ∨ g = some b) args us.toList →
    Calls V.P f (#[u] ++ us) w fun e w' => ∃ v, e = .returned v ∧ Ext (fun b => g = some b) w w' ∧ dob w' (fun b => E b ∨ g = some b) ⟨fun _ => g, E⟩ [] 0 (.rw t size es') ∧ hdr w' g size es'.length u ∧ dat w' (fun b => E b ∨ g = some b) r v

/-- A function that gives a new row of its own, that nobody else knows. -/
def SpecR (V : Env) (f : FuncId) (args : List LV) (t size : Nat) (es : List (List DV)) : Prop :=
  callable V.P f ∧ t < 1000000 ∧ ∀ (w : World) (E : Nat → Prop) (us : Array Value), V.G w → (∀ g, E g → g < w.heap.size) → dats w E args us.toList →
    Calls V.P f us w fun e w' => ∃ v g, e = .returned v ∧ Ext noB w w' ∧ (∀ b, g = some b → w.heap.size ≤ b) ∧ dob w' (fun b => E b ∨ g = some b) ⟨fun _ => g, E⟩ [] 0 (.rw t size es) ∧ hdr w' g size es.length v

/-- A function that appends to the row that it is handed first, and writes to nothing else of its callers. -/
def SpecA (V : Env) (f : FuncId) (t size : Nat) (es : List (List DV)) (args : List LV) (es' : List (List DV)) : Prop :=
  callable V.P f ∧ t < 1000000 ∧ ∀ (w : World) (E : Nat → Prop) (g : Option Nat) (u : Value) (us : Array Value), V.G w → (∀ b, E b → b < w.heap.size ∧ g ≠ some b) → (∀ b, g = some b → V.gb ≤ b) →
    dob w (fun b => E b ∨ g = some b) ⟨fun _ => g, E⟩ [] 0 (.rw t size es) → hdr w g size es.length u → dats w (fun b => E b ∨ g = some b) args us.toList →
    Calls V.P f (#[u] ++ us) w fun e w' => ∃ v g', e = .returned v ∧ Ext (fun b => g = some b) w w' ∧ (g' = g ∨ ∀ b, g' = some b → w.heap.size ≤ b) ∧ dob w' (fun b => E b ∨ g' = some b) ⟨fun _ => g', E⟩ [] 0 (.rw t size es') ∧ hdr w' g' size es'.length v

/-! ### The function -/
/-- One of two, by a truth; what is left to be done is held back till the truth is known. -/
def BrP {α β γ : Type} (b : Bool) (f : α → β → γ → Prop) (i : α) (S : β) (σ : γ) (g : α → β → γ → Prop) (j : α) (S' : β) (σ' : γ) : Prop := (b = true → f i S σ) ∧ (b = false → g j S' σ')
section
variable {α β γ : Type} {f : α → β → γ → Prop} {i : α} {S : β} {σ : γ} {g : α → β → γ → Prop} {j : α} {S' : β} {σ' : γ}
theorem BrP_true : BrP true f i S σ g j S' σ' = f i S σ := by simp [BrP]
theorem BrP_false : BrP false f i S σ g j S' σ' = g j S' σ' := by simp [BrP]
theorem BrP.mk {b : Bool} (h : b = true → f i S σ) (k : b = false → g j S' σ') : BrP b f i S σ g j S' σ' := ⟨h, k⟩
end

/-- What a guard's slot says. -/
inductive GB where
  | yes (b : Bool)
  | skip
  | bad
def gbOf : LV → GB
  | .c (.d (.v (.bool b))) => .yes b
  | .tu [] => .skip
  | _ => .bad
/-- By a guard: on with f, or past it with h; both are held back. -/
def GrP {α β γ : Type} (x : GB) (want : Bool) (f : α → β → γ → Prop) (i : α) (S : β) (σ : γ) (h : α → β → γ → Prop) (j : α) (S' : β) (σ' : γ) : Prop := match x with
  | .yes b => bif want then BrP b f i S σ h j S' σ' else BrP b h j S' σ' f i S σ
  | .skip => h j S' σ'
  | .bad => False
section
variable {α β γ : Type} {f : α → β → γ → Prop} {i : α} {S : β} {σ : γ} {h : α → β → γ → Prop} {j : α} {S' : β} {σ' : γ}
theorem GrP_yes_true {b : Bool} : GrP (.yes b) true f i S σ h j S' σ' = BrP b f i S σ h j S' σ' := rfl
theorem GrP_yes_false {b : Bool} : GrP (.yes b) false f i S σ h j S' σ' = BrP b h j S' σ' f i S σ := rfl
theorem GrP_skip {w : Bool} : GrP .skip w f i S σ h j S' σ' = h j S' σ' := rfl
theorem GrP_bad {w : Bool} : GrP .bad w f i S σ h j S' σ' = False := rfl
theorem GrP_eq {x : LV} {want : Bool} : GrP (gbOf x) want f i S σ h j S' σ' = (match x with
    | .c (.d (.v (.bool b))) => bif want then BrP b f i S σ h j S' σ' else BrP b h j S' σ' f i S σ
    | .tu [] => h j S' σ'
    | _ => False) := by
  unfold gbOf
  split <;> rfl
end
/-- What a quiet operation yields, held back; else e. -/
def QrP {α β : Type} (x : QR) (f : α → β → LS → Prop) (i : α) (S : β) (σ : LS) (dst : Option Nat) (e : LS → Prop) : Prop := match x with
  | .ok p z => p ∧ f i S (LS.putO σ dst z)
  | .no => e σ
theorem QrP_ok {α β : Type} {f : α → β → LS → Prop} {i : α} {S : β} {σ : LS} {dst : Option Nat} {e : LS → Prop} {p : Prop} {z : LV} : QrP (.ok p z) f i S σ dst e = (p ∧ f i S (LS.putO σ dst z)) := rfl
theorem QrP_no {α β : Type} {f : α → β → LS → Prop} {i : α} {S : β} {σ : LS} {dst : Option Nat} {e : LS → Prop} : QrP .no f i S σ dst e = e σ := rfl
def ErP {α β : Type} (x : ER) (f : α → β → LS → Prop) (i : α) (S : β) (dst : Option Nat) : Prop := match x with
  | .ok p σ z => p ∧ f i S (LS.putO σ dst z)
  | .no => False
theorem ErP_ok {α β : Type} {f : α → β → LS → Prop} {i : α} {S : β} {σ : LS} {dst : Option Nat} {p : Prop} {z : LV} : ErP (.ok p σ z) f i S dst = (p ∧ f i S (LS.putO σ dst z)) := rfl
theorem ErP_no {α β : Type} {f : α → β → LS → Prop} {i : α} {S : β} {dst : Option Nat} : ErP .no f i S dst = False := rfl
/-- One of two ways, both held back. -/
def WayP {γ : Type} (b : Bool) (f g : γ → Prop) (σ : γ) : Prop := bif b then f σ else g σ
theorem WayP_true {γ : Type} {f g : γ → Prop} {σ : γ} : WayP true f g σ = f σ := rfl
theorem WayP_false {γ : Type} {f g : γ → Prop} {σ : γ} : WayP false f g σ = g σ := rfl

inductive It where
  | code (c : Code)
  | ops (all : List Oper) (id : Nat) (rest : List Oper)
  | nrm
  | ex (id : Nat)
  | ret

def keepS (l : List (Nat × LV)) (ks : List Nat) : List (Nat × LV) := match l with
  | [] => []
  | (i, x) :: r => bif ks.contains i then (i, x) :: keepS r ks else keepS r ks
def LS.trim (σ : LS) : Option (List Nat) → LS
  | some ks => { σ with sl := keepS σ.sl ks }
  | none => σ
def okD (N : Nat) : Option Nat → Bool
  | some d => Nat.blt d N
  | none => true
def nth {α : Type} : List α → Nat → Option α
  | [], _ => none
  | x :: _, 0 => some x
  | _ :: r, n + 1 => nth r n
def gslot (all : List Oper) (j : Nat) : Option Nat := match nth all j with | some o => o.dst | none => none

/-- A call of a Go function: which one, with what; the state in which what is handed over is data alone. -/
def nzArgs (T : Tab) (σ : LS) : List Nat → List Operand → List LV
  | t :: ts, x :: xs => nzL (nilsOf T 4 t) (ev σ x) :: nzArgs T σ ts xs
  | _, xs => xs.map (ev σ)
def prep (T : Tab) (σ : LS) (fv : Operand) (as : List Operand) (ts : List Nat) : Option (FuncId × List LV × LS) :=
  match ev σ fv with
  | .c (.d (.clo f caps)) => match fzs σ (as.flatMap fun x => refL σ.ob (ev σ x)) with
    | some σf => some (f, nzArgs T σf ts as ++ caps.map fun d => .c (.d d), σf)
    | none => none
  | _ => none

/-- A contract is to be given. -/
def CallR (go : It → List Fr → LS → Prop) (X : Cx) (f : FuncId) (args : List LV) (dst : Option Nat) (all : List Oper) (id : Nat) (rest : List Oper) (S : List Fr) (σ σf : LS) : Prop :=
  ∃ r, Spec X.E f args r ∧ args.all dataL = true ∧ go (.ops all id rest) S (LS.putO (bif pureL r then σ else σf) dst r)

def mutC (m : FuncId → Bool) : Operand → Bool
  | .func f => m f
  | _ => false
/-- A call of a function that writes to a row: which one, the row, the other arguments. -/
def prepM (T : Tab) (σ : LS) (fv : Operand) (as : List Operand) (ts : List Nat) : Option (FuncId × Nat × List LV × LS) :=
  match as with
  | x :: xs => match ev σ fv, fzs σ (xs.flatMap fun y => refL σ.ob (ev σ y)) with
    | .c (.d (.clo f caps)), some σf => match ev σf x with
      | .c (.os k) => some (f, k, nzArgs T σf ts.tail xs ++ caps.map fun d => .c (.d d), σf)
      | _ => none
    | _, _ => none
  | [] => none
def CallM (go : It → List Fr → LS → Prop) (X : Cx) (f : FuncId) (k : Nat) (args : List LV) (dst : Option Nat) (all : List Oper) (id : Nat) (rest : List Oper) (S : List Fr) (σf : LS) : Prop :=
  match σf.ob[k]? with
  | some (.rw t size es) => ∃ es' r, SpecM X.E f (tyOf t) size es args es' r ∧ args.all dataL = true ∧ go (.ops all id rest) S (LS.putO { σf with ob := σf.ob.set k (.rw t size es') } dst r)
  | _ => False
def LoopK (X : Cx) (c : Code) (S : List Fr) (σ : LS) : Prop := ∀ w0 : W0, GW X.E w0 → ∀ a w, St X.N w0 σ a w → Code.wp X.E.P (.loop c) (QS X w0 S) a w
def DrawK (X : Cx) (id : Nat) (ops : Array Oper) (S : List Fr) (σ : LS) : Prop := ∀ w0 : W0, GW X.E w0 → ∀ a w, St X.N w0 σ a w → Code.wp X.E.P (.region id ops true) (QS X w0 S) a w

def stepE (go : It → List Fr → LS → Prop) (X : Cx) (all : List Oper) (id : Nat) (o : Oper) (rest : List Oper) (S : List Fr) (σ : LS) : Prop :=
  ErP (eff X.E.T σ o.op) go (.ops all id rest) S o.dst
def stepO (go : It → List Fr → LS → Prop) (X : Cx) (all : List Oper) (id : Nat) (o : Oper) (rest : List Oper) (S : List Fr) (σ : LS) : Prop :=
  match o.op with
  | .pick c x y => match ev σ c with
    | .c (.d (.v (.bool b))) => BrP b go (.ops all id rest) S (σ.putO o.dst (ev σ x)) go (.ops all id rest) S (σ.putO o.dst (ev σ y))
    | _ => False
  | .call ⟨.value fv, as, ts⟩ => match prep X.E.T σ fv as.toList ts.toList with
    | some (f, args, σf) => CallR go X f args o.dst all id rest S σ σf
    | none => False
  | op => QrP (q X.E.T σ op) go (.ops all id rest) S σ o.dst (stepE go X all id o rest S)
def stepOI (go : It → List Fr → LS → Prop) (X : Cx) (all : List Oper) (id : Nat) (o : Oper) (rest : List Oper) (_ : It) (S : List Fr) (σ : LS) : Prop := stepO go X all id o rest S σ
def stepG (go : It → List Fr → LS → Prop) (X : Cx) (all : List Oper) (id : Nat) (o : Oper) (rest : List Oper) (S : List Fr) (σ : LS) : Prop :=
  match o.guard with
  | none => stepO go X all id o rest S σ
  | some (j, want) => match gslot all j with
    | some d => GrP (gbOf (getS σ.sl d)) want (stepOI go X all id o rest) .nrm S σ go (.ops all id rest) S (σ.putO o.dst (.tu []))
    | none => False

/-- A slice against nil: what it holds; whether it's asked the other way round. -/
def nilQ (T : Tab) (op : BinOp) (xT : TypeId) : LV → LV → Option (List (List DV) × Bool)
  | .c (.d (.sl _ es)), .c (.d (.v (.slice none 0 0))) =>
    match T xT, op with
    | some ⟨.slice _, _, _, _, _⟩, .eql => some (es, false)
    | some ⟨.slice _, _, _, _, _⟩, .neq => some (es, true)
    | _, _ => none
  | _, _ => none
/-- Some truth: if it is nil, it is empty. -/
def NilK (go : It → List Fr → LS → Prop) (es : List (List DV)) (ng : Bool) (dst : Option Nat) (it : It) (S : List Fr) (σ : LS) : Prop :=
  ∀ b : Bool, (b = true → es = []) → go it S (LS.putO σ dst (b2 (bif ng then !b else b)))
def NrP (x : Option (List (List DV) × Bool)) (go : It → List Fr → LS → Prop) (dst : Option Nat) (it : It) (S : List Fr) (σ : LS) (e : LS → Prop) : Prop := match x with
  | some (es, ng) => NilK go es ng dst it S σ
  | none => e σ
theorem NrP_some {es : List (List DV)} {ng : Bool} {go : It → List Fr → LS → Prop} {dst : Option Nat} {it : It} {S : List Fr} {σ : LS} {e : LS → Prop} : NrP (some (es, ng)) go dst it S σ e = NilK go es ng dst it S σ := rfl
theorem NrP_none {go : It → List Fr → LS → Prop} {dst : Option Nat} {it : It} {S : List Fr} {σ : LS} {e : LS → Prop} : NrP none go dst it S σ e = e σ := rfl
/-- A contract is to be given: one that gives a new row, or one that gives data. -/
def CallF (go : It → List Fr → LS → Prop) (X : Cx) (f : FuncId) (args : List LV) (dst : Option Nat) (all : List Oper) (id : Nat) (rest : List Oper) (S : List Fr) (σ σf : LS) : Prop :=
  (∃ t size es, SpecR X.E f args t size es ∧ args.all dataL = true ∧ go (.ops all id rest) S (LS.putO ⟨σf.sl, σf.ob ++ [.rw t size es]⟩ dst (.c (.os σf.ob.length)))) ∨
  CallR go X f args dst all id rest S σ σf
/-- A contract is to be given: of a function that appends to the row. -/
def CallA (go : It → List Fr → LS → Prop) (X : Cx) (f : FuncId) (k : Nat) (args : List LV) (dst : Option Nat) (all : List Oper) (id : Nat) (rest : List Oper) (S : List Fr) (σf : LS) : Prop :=
  match σf.ob[k]? with
  | some (.rw t size es) => ∃ es', SpecA X.E f t size es args es' ∧ args.all dataL = true ∧ go (.ops all id rest) S (LS.putO ⟨mapSl (klR k) σf.sl, setOB (klR k) (.rw t size es') σf.ob k⟩ dst (.c (.os k)))
  | _ => False
/-- The types by which a nil that is handed over is an empty slice: none, where the nil itself is wanted. -/
def rawTs : Bool → List Nat → List Nat
  | true, _ => []
  | false, ts => ts
def stepM (go : It → List Fr → LS → Prop) (X : Cx) (fv : Operand) (as : List Operand) (ts : List Nat) (dst : Option Nat) (all : List Oper) (id : Nat) (rest : List Oper) (S : List Fr) (σ : LS) : Prop :=
  match prepM X.E.T σ fv as ts with
  | some (f, k, args, σf) => WayP (X.E.grows f) (CallA go X f k args dst all id rest S) (CallM go X f k args dst all id rest S) σf
  | none => match prep X.E.T σ fv as (rawTs (mutC X.E.grows fv) ts) with
    | some (f, args, σf) => CallF go X f args dst all id rest S σ σf
    | none => False
def stepN (go : It → List Fr → LS → Prop) (X : Cx) (all : List Oper) (id : Nat) (o : Oper) (rest : List Oper) (S : List Fr) (σ : LS) : Prop :=
  match o.guard, o.op with
  | none, .call ⟨.value fv, as, ts⟩ => WayP (mutC X.E.muts fv) (stepM go X fv as.toList ts.toList o.dst all id rest S) (stepG go X all id o rest S) σ
  | none, .binOp op xT x y _ => NrP (nilQ X.E.T op xT (ev σ x) (ev σ y)) go o.dst (.ops all id rest) S σ (stepG go X all id o rest S)
  | _, _ => stepG go X all id o rest S σ

def go : Nat → Cx → It → List Fr → LS → Prop
  | 0, _, _, _, _ => False
  | n + 1, X, .code c, S, σ => match c with
    | .seq x y => go n X (.code x) (.code y :: S) σ
    | .skip => go n X .nrm S σ
    | .region id ops false => go n X (.ops ops.toList id ops.toList) S σ
    | .region id ops true => DrawK X id ops S σ
    | .cond c x y => match ev σ c with
      | .c (.d (.v (.bool b))) => BrP b (go n X) (.code x) S σ (go n X) (.code y) S σ
      | _ => False
    | .block id c => go n X (.code c) (.bl id :: S) σ
    | .loop c => LoopK X c S σ
    | .exit id => go n X (.ex id) S σ
    | .ret => go n X .ret S σ
    | _ => False
  | n + 1, X, .ops _ id [], S, σ => go n X .nrm S (σ.trim (X.L id))
  | n + 1, X, .ops all id (o :: r), S, σ => okD X.N o.dst = true ∧ stepN (go n X) X all id o r S σ
  | n + 1, X, .nrm, S, σ => match S with
    | [] => X.Q σ
    | .code y :: S => go n X (.code y) S σ
    | .bl _ :: S => go n X .nrm S σ
    | .lp R :: _ => R σ
  | n + 1, X, .ex id, S, σ => match S with
    | [] => False
    | .bl k :: S => bif id == k then go n X .nrm S σ else go n X (.ex id) S σ
    | _ :: S => go n X (.ex id) S σ
  | n + 1, X, .ret, S, σ => match S with
    | [] => X.Q σ
    | _ :: S => go n X .ret S σ

/-! ### It is enough -/
def Sem' (X : Cx) (it : It) (S : List Fr) (w0 : W0) (a : Act) (w : World) : Prop := match it with
  | .code c => Code.wp X.E.P c (QS X w0 S) a w
  | .ops all _ rest => wpList X.E.P all.toArray (QS X w0 S) rest a w
  | .nrm => QS X w0 S .normal a w
  | .ex id => QS X w0 S (.exit id) a w
  | .ret => QS X w0 S .ret a w
def Holds (X : Cx) (it : It) (S : List Fr) (σ : LS) : Prop := ∀ w0 : W0, GW X.E w0 → ∀ a w, St X.N w0 σ a w → Sem' X it S w0 a w

section
variable {X : Cx} {S : List Fr} {σ σ' : LS} {w0 : W0} {a : Act} {w w' : World} {ι : Io}

theorem mem_keepS {ks : List Nat} {p : Nat × LV} : ∀ {l : List (Nat × LV)}, p ∈ keepS l ks → p ∈ l
  | [], h => by simp [keepS] at h
  | (i, x) :: r, h => by
    simp only [keepS] at h
    cases hc : ks.contains i with
    | true =>
      rw [hc, cond_true] at h
      rcases List.mem_cons.1 h with rfl | h
      · exact List.mem_cons_self
      · exact List.mem_cons_of_mem _ (mem_keepS h)
    | false => rw [hc, cond_false] at h; exact List.mem_cons_of_mem _ (mem_keepS h)
theorem St.trim (h : St X.N w0 σ a w) (k : Option (List Nat)) : St X.N w0 (σ.trim k) a w := by
  obtain ⟨ι, h⟩ := h
  cases k with
  | none => exact ⟨ι, h⟩
  | some ks => exact ⟨ι, h.sub fun p hp => mem_keepS hp⟩

theorem okD_lt {N : Nat} {d : Option Nat} (h : okD N d = true) : ∀ k, d = some k → k < N := by
  rintro k rfl
  simpa [okD, Nat.blt_eq] using h

theorem wanted_none {o : Oper} {y : Nat → Option Bool} (h : o.guard = none) : Region.wanted o y = true := by simp [Region.wanted, h]
theorem wpList_run {P : Program} {ops : Array Oper} {Q : Exit → Act → World → Prop} {o : Oper} {r : List Oper} (h : Region.wanted o (yielded ops a.tmps) = true) (hw : Oper.wp P o a w (fun a w => wpList P ops Q r a w) Q) : wpList P ops Q (o :: r) a w := by
  show (if Region.wanted o (yielded ops a.tmps) = true then _ else _)
  rw [if_pos h]
  exact .inl hw
theorem wpList_not {P : Program} {ops : Array Oper} {Q : Exit → Act → World → Prop} {o : Oper} {r : List Oper} (h : Region.wanted o (yielded ops a.tmps) = false) (hw : wpList P ops Q r (a.put o.dst undef) w) : wpList P ops Q (o :: r) a w := by
  show (if Region.wanted o (yielded ops a.tmps) = true then _ else _)
  rw [if_neg (by simp [h])]
  exact hw
theorem nth_get {α : Type} : ∀ (l : List α) (n : Nat), nth l n = l[n]?
  | [], n => by cases n <;> rfl
  | x :: r, 0 => rfl
  | x :: r, n + 1 => by simp only [nth, List.getElem?_cons_succ]; exact nth_get r n
theorem gslot_yielded (h : StI X.N w0 ι σ a w) {all : List Oper} {j d : Nat} (hg : gslot all j = some d) {b : Bool} (hs : getS σ.sl d = .c (.d (.v (.bool b)))) : yielded all.toArray a.tmps j = some b := by
  have hm : (d, getS σ.sl d) ∈ σ.sl := by
    rcases getS_mem (l := σ.sl) (i := d) with e | e
    · rw [hs] at e; cases e
    · exact e
  obtain ⟨v, hv, hd⟩ := h.slots _ hm
  rw [hs] at hd
  have : v = .bool b := hd.1
  subst this
  unfold gslot at hg
  cases ho : nth all j with
  | none => simp [ho] at hg
  | some o =>
    simp only [ho] at hg
    rw [nth_get] at ho
    simp [yielded, ho, hg, hv]

theorem gslot_undef (h : StI X.N w0 ι σ a w) {all : List Oper} {j d : Nat} (hg : gslot all j = some d) (hs : getS σ.sl d = .tu []) : yielded all.toArray a.tmps j = none := by
  have hm : (d, getS σ.sl d) ∈ σ.sl := by
    rcases getS_mem (l := σ.sl) (i := d) with e | e
    · rw [hs] at e; cases e
    · exact e
  obtain ⟨v, hv, hd⟩ := h.slots _ hm
  rw [hs] at hd
  obtain ⟨us, rfl, _⟩ := hd
  unfold gslot at hg
  cases ho : nth all j with
  | none => simp [ho] at hg
  | some o =>
    simp only [ho] at hg
    rw [nth_get] at ho
    simp [yielded, ho, hg, hv]
theorem undefL {O : Nat → Prop} {ob : List OB} : dlv w O ι ob (.tu []) undef := ⟨#[], rfl, rfl⟩
theorem wp_does {P : Program} {o : Oper} {v : Value} {K : Act → World → Prop} {Q : Exit → Act → World → Prop} (h : (execOp a.eval o).run P w = .ok (.value v) w' ∨ ((execOp a.eval o).run P w = .ok .skip w' ∧ v = undef)) (hk : K (a.put o.dst v) w') : Oper.wp P o a w K Q := by
  unfold Oper.wp
  rcases h with h | ⟨h, rfl⟩ <;> rw [h] <;> exact hk

/-! Data out of a state with objects, and into one. -/
theorem dcv_toData {O : Nat → Prop} {ob : List OB} {c : CV} {u : Value} (hc : dataC c = true) {ι ι' : Io} {ob' : List OB} (h : dcv w O ι ob c u) : dcv w O ι' ob' c u := by
  cases c with
  | d x => exact h
  | _ => cases hc
theorem dcvs_toData {O : Nat → Prop} {ob : List OB} {ι ι' : Io} {ob' : List OB} : ∀ {cs : List CV} {us : List Value}, cs.all dataC = true → dcvs w O ι ob cs us → dcvs w O ι' ob' cs us
  | [], us, _, h => h
  | c :: cs, us, hc, h => by
    simp only [List.all_cons, Bool.and_eq_true] at hc
    obtain ⟨u, r, rfl, h1, h2⟩ := h
    exact ⟨u, r, rfl, dcv_toData hc.1 h1, dcvs_toData hc.2 h2⟩
theorem dl1_toData {O : Nat → Prop} {ob : List OB} {ι ι' : Io} {ob' : List OB} {x : LV} {u : Value} (hc : data1 x = true) (h : dl1 w O ι ob x u) : dl1 w O ι' ob' x u := by
  cases x with
  | c c => cases c with
    | d x => exact h
    | _ => cases hc
  | ag cs => obtain ⟨us, rfl, hd⟩ := h; exact ⟨us, rfl, dcvs_toData hc hd⟩
  | tu xs => cases hc
theorem dl1s_toData {O : Nat → Prop} {ob : List OB} {ι ι' : Io} {ob' : List OB} : ∀ {xs : List LV} {us : List Value}, xs.all data1 = true → dl1s w O ι ob xs us → dl1s w O ι' ob' xs us
  | [], us, _, h => h
  | x :: xs, us, hc, h => by
    simp only [List.all_cons, Bool.and_eq_true] at hc
    obtain ⟨u, r, rfl, h1, h2⟩ := h
    exact ⟨u, r, rfl, dl1_toData hc.1 h1, dl1s_toData hc.2 h2⟩
theorem dlv_toData {O : Nat → Prop} {ob : List OB} {ι ι' : Io} {ob' : List OB} {x : LV} {u : Value} (hc : dataL x = true) (h : dlv w O ι ob x u) : dlv w O ι' ob' x u := by
  cases x with
  | tu xs => obtain ⟨us, rfl, hd⟩ := h; exact ⟨us, rfl, dl1s_toData hc hd⟩
  | c c => exact dl1_toData (x := .c c) hc h
  | ag cs => exact dl1_toData (x := .ag cs) hc h

/-! What is pure doesn't know of the world. -/
theorem dcv_pure {O O' : Nat → Prop} {ι ι' : Io} {ob ob' : List OB} {c : CV} {u : Value} (hc : pureC c = true) (h : dcv w O ι ob c u) : dcv w' O' ι' ob' c u := by
  cases c with
  | d x => cases x with
    | v x => exact h
    | _ => cases hc
  | _ => cases hc
theorem dcvs_pure {O O' : Nat → Prop} {ι ι' : Io} {ob ob' : List OB} : ∀ {cs : List CV} {us : List Value}, cs.all pureC = true → dcvs w O ι ob cs us → dcvs w' O' ι' ob' cs us
  | [], us, _, h => h
  | c :: cs, us, hc, h => by
    simp only [List.all_cons, Bool.and_eq_true] at hc
    obtain ⟨u, r, rfl, h1, h2⟩ := h
    exact ⟨u, r, rfl, dcv_pure hc.1 h1, dcvs_pure hc.2 h2⟩
theorem dl1_pure {O O' : Nat → Prop} {ι ι' : Io} {ob ob' : List OB} {x : LV} {u : Value} (hc : pure1 x = true) (h : dl1 w O ι ob x u) : dl1 w' O' ι' ob' x u := by
  cases x with
  | c c => cases c with
    | d x => exact dcv_pure (c := .d x) (ι := ι) (ob := ob) (ι' := ι') (ob' := ob') hc h
    | _ => cases hc
  | ag cs => obtain ⟨us, rfl, hd⟩ := h; exact ⟨us, rfl, dcvs_pure hc hd⟩
  | tu xs => cases hc
theorem dl1s_pure {O O' : Nat → Prop} {ι ι' : Io} {ob ob' : List OB} : ∀ {xs : List LV} {us : List Value}, xs.all pure1 = true → dl1s w O ι ob xs us → dl1s w' O' ι' ob' xs us
  | [], us, _, h => h
  | x :: xs, us, hc, h => by
    simp only [List.all_cons, Bool.and_eq_true] at hc
    obtain ⟨u, r, rfl, h1, h2⟩ := h
    exact ⟨u, r, rfl, dl1_pure hc.1 h1, dl1s_pure hc.2 h2⟩
theorem dlv_pure {O O' : Nat → Prop} {ι ι' : Io} {ob ob' : List OB} {x : LV} {u : Value} (hc : pureL x = true) (h : dlv w O ι ob x u) : dlv w' O' ι' ob' x u := by
  cases x with
  | tu xs => obtain ⟨us, rfl, hd⟩ := h; exact ⟨us, rfl, dl1s_pure hc hd⟩
  | c c => exact dl1_pure (x := .c c) hc h
  | ag cs => exact dl1_pure (x := .ag cs) hc h

theorem dats_append {E : Nat → Prop} : ∀ {xs ys : List LV} {us vs : List Value}, dats w E xs us → dats w E ys vs → dats w E (xs ++ ys) (us ++ vs)
  | [], ys, us, vs, h, k => by simp only [dats] at h; subst h; exact k
  | x :: xs, ys, us, vs, h, k => by
    obtain ⟨u, r, rfl, h1, h2⟩ := h
    exact ⟨u, r ++ vs, rfl, h1, dats_append h2 k⟩
theorem dats_evs (h : StI X.N w0 ι σ a w) : ∀ {as : List Operand}, (as.map (ev σ)).all dataL = true → dats w (own ι σ.ob) (as.map (ev σ)) (as.map a.eval)
  | [], _ => rfl
  | x :: xs, hc => by
    simp only [List.map_cons, List.all_cons, Bool.and_eq_true] at hc
    exact ⟨_, _, rfl, dlv_toData hc.1 (h.ev x), dats_evs h hc.2⟩
theorem dats_nz {T : Tab} (h : StI X.N w0 ι σ a w) : ∀ {ts : List Nat} {as : List Operand}, (nzArgs T σ ts as).all dataL = true → dats w (own ι σ.ob) (nzArgs T σ ts as) (as.map a.eval)
  | [], as, hc => by cases as <;> exact dats_evs h hc
  | t :: ts, [], hc => rfl
  | t :: ts, x :: xs, hc => by
    simp only [nzArgs, List.all_cons, Bool.and_eq_true] at hc
    exact ⟨_, _, rfl, dlv_toData hc.1 (nzL_dlv (h.ev x)), dats_nz h hc.2⟩
theorem dats_caps {E : Nat → Prop} : ∀ {caps : List DV} {us : List Value}, denVs w E caps us → dats w E (caps.map fun d => .c (.d d)) us
  | [], us, h => h
  | d :: ds, us, h => by
    obtain ⟨u, r, rfl, h1, h2⟩ := h
    exact ⟨u, r, rfl, h1, dats_caps h2⟩

theorem wp_callR {K : Act → World → Prop} {Q : Exit → Act → World → Prop} {o : Oper} {fv : Operand} {as : Array Operand} {ts : Array Nat} {tl : List Nat} {f : FuncId} {args : List LV} {σf : LS} {r : LV}
    (hG : GW X.E w0) (h : StI X.N w0 ι σ a w) (ho : o.op = .call ⟨.value fv, as, ts⟩) (hp : prep X.E.T σ fv as.toList tl = some (f, args, σf)) (hS : Spec X.E f args r) (hdat : args.all dataL = true) (hd : okD X.N o.dst = true)
    (hK : ∀ a w', Ext noB w w' → St X.N w0 (LS.putO (bif pureL r then σ else σf) o.dst r) a w' → K a w') : Oper.wp X.E.P o a w K Q := by
  unfold prep at hp
  split at hp
  · rename_i f' caps hev
    split at hp
    · rename_i σf' hf
      injection hp with hp
      injection hp with e1 hp
      injection hp with e2 e3
      subst e1 e2 e3
      have hfz := fzs_sound h hf
      have hfv := h.ev fv
      rw [hev] at hfv
      have hfv' : den w (own ι σ.ob) (.clo f' caps) (a.eval fv) := hfv
      obtain ⟨us, hus, hcaps⟩ := hfv'
      rw [List.all_append, Bool.and_eq_true] at hdat
      have hO : ∀ b, own ι σf'.ob b → own ι σ.ob b := by
        intro b hb
        rcases hb with hb | ⟨k, hl, hk⟩
        · exact .inl hb
        · refine .inr ⟨k, ?_, hk⟩
          exact live_fzs hf hl
      have hcaps' : denVs w (own ι σf'.ob) caps us.toList := denVs_mono (M := noB) ⟨Ext.refl _ _, fun _ _ h => h.elim, fun b _ hb => hO b hb⟩ _ _ hcaps
      have hargs := dats_append (dats_nz hfz hdat.1) (dats_caps hcaps')
      obtain ⟨⟨fn, hfn, hname, hbody⟩, hrd, hcall⟩ := hS
      have hGw : X.E.G w := hG.at h.below
      have hc := hcall w (own ι σf'.ob) (as.map a.eval ++ us) hGw (fun g hg => own_lt hfz hg) (by simpa using hargs)
      have hrun : (execOp a.eval o).run X.E.P w = .ok (.enter f' (as.map a.eval ++ us)) w := by
        have hname' : (fn.name == "runtime.NumGoroutine") = false := hname
        have hname'' : (fn.name == "runtime.NumGoroutine") ≠ true := by rw [hname']; exact Bool.false_ne_true
        have hname3 : ¬ fn.name = "runtime.NumGoroutine" := fun e => hname'' (by simp [e])
        have hbody' : ¬ fn.body = none := fun e => by simp [e] at hbody
        simp [execOp, ho, resolve, hus, Deferred.ofValue, invoke, callFunc, hfn, hname3, hbody']
      unfold Oper.wp
      rw [hrun]
      refine hc.mono ?_
      rintro e w' ⟨v, rfl, he, hv⟩
      refine hK _ _ he ?_
      cases hpu : pureL r with
      | true =>
        rw [cond_true]
        have h' := h.ext he
        exact ⟨ι, h'.putO (okD_lt hd) (dlv_pure hpu hv)⟩
      | false =>
        rw [cond_false]
        have h' := hfz.ext he
        exact ⟨ι, h'.putO (okD_lt hd) (dlv_toData hrd hv)⟩
    · cases hp
  · cases hp

theorem wp_callF {K : Act → World → Prop} {Q : Exit → Act → World → Prop} {o : Oper} {fv : Operand} {as : Array Operand} {ts : Array Nat} {tl : List Nat} {f : FuncId} {args : List LV} {σf : LS} {t size : Nat} {es : List (List DV)}
    (hG : GW X.E w0) (h : StI X.N w0 ι σ a w) (ho : o.op = .call ⟨.value fv, as, ts⟩) (hp : prep X.E.T σ fv as.toList tl = some (f, args, σf)) (hS : SpecR X.E f args t size es) (hdat : args.all dataL = true) (hd : okD X.N o.dst = true)
    (hK : ∀ a w', Ext noB w w' → St X.N w0 (LS.putO ⟨σf.sl, σf.ob ++ [.rw t size es]⟩ o.dst (.c (.os σf.ob.length))) a w' → K a w') : Oper.wp X.E.P o a w K Q := by
  unfold prep at hp
  split at hp
  · rename_i f' caps hev
    split at hp
    · rename_i σf' hf
      injection hp with hp
      injection hp with e1 hp
      injection hp with e2 e3
      subst e1 e2 e3
      have hfz := fzs_sound h hf
      have hfv := h.ev fv
      rw [hev] at hfv
      have hfv' : den w (own ι σ.ob) (.clo f' caps) (a.eval fv) := hfv
      obtain ⟨us, hus, hcaps⟩ := hfv'
      rw [List.all_append, Bool.and_eq_true] at hdat
      have hO : ∀ b, own ι σf'.ob b → own ι σ.ob b := by
        intro b hb
        rcases hb with hb | ⟨k, hl, hk⟩
        · exact .inl hb
        · refine .inr ⟨k, ?_, hk⟩
          exact live_fzs hf hl
      have hcaps' : denVs w (own ι σf'.ob) caps us.toList := denVs_mono (M := noB) ⟨Ext.refl _ _, fun _ _ h => h.elim, fun b _ hb => hO b hb⟩ _ _ hcaps
      have hargs := dats_append (dats_nz hfz hdat.1) (dats_caps hcaps')
      obtain ⟨⟨fn, hfn, hname, hbody⟩, ht, hcall⟩ := hS
      have hGw : X.E.G w := hG.at h.below
      have hc := hcall w (own ι σf'.ob) (as.map a.eval ++ us) hGw (fun g hg => own_lt hfz hg) (by simpa using hargs)
      have hrun : (execOp a.eval o).run X.E.P w = .ok (.enter f' (as.map a.eval ++ us)) w := by
        have hname' : (fn.name == "runtime.NumGoroutine") = false := hname
        have hname'' : (fn.name == "runtime.NumGoroutine") ≠ true := by rw [hname']; exact Bool.false_ne_true
        have hname3 : ¬ fn.name = "runtime.NumGoroutine" := fun e => hname'' (by simp [e])
        have hbody' : ¬ fn.body = none := fun e => by simp [e] at hbody
        simp [execOp, ho, resolve, hus, Deferred.ofValue, invoke, callFunc, hfn, hname3, hbody']
      unfold Oper.wp
      rw [hrun]
      refine hc.mono ?_
      rintro e w' ⟨v, g, rfl, he, hg, hob, hh⟩
      refine hK _ _ he ?_
      have hkk : upd ι σf'.ob.length g σf'.ob.length = g := upd_same ι _ g
      have hown : ∀ b, own (upd ι σf'.ob.length g) (σf'.ob ++ [OB.rw t size es]) b → own ι σf'.ob b ∨ g = some b := by
        rintro b (hb | ⟨k, hl, hi⟩)
        · exact .inl (.inl hb)
        · rcases live_add hl with hl | ⟨rfl, _⟩
          · have hk : upd ι σf'.ob.length g k = ι k := upd_ne ι g (by have := hl.lt; omega)
            rw [hk] at hi
            exact .inl (.inr ⟨k, hl, hi⟩)
          · rw [hkk] at hi; exact .inr hi
      have hadd : StI X.N w0 (upd ι σf'.ob.length g) (σf'.add (.rw t size es)) a w' := hfz.add he hg (fun t' s' e' e => by injection e with e1 e2 e3; exact e1 ▸ ht)
        (dob_rw (ob := []) (ι := ⟨fun _ => g, own ι σf'.ob⟩) (k := 0) (fun b hb => hown b hb) hkk rfl (fun _ h => h) hob)
      exact ⟨_, hadd.putO (okD_lt hd) (v := v) ⟨t, size, es, by simp [LS.add], by rw [hkk]; exact hh⟩⟩
    · cases hp
  · cases hp
def capU : Value → Nat
  | .slice _ _ c => c
  | _ => 0
theorem hdr_cap {g0 : Option Nat} {g size cap n : Nat} {cur : Array Value} {t : TypeId} {u : Value} (hs : 0 < size) (hg : g0 = some g) (h : w.heap[g]? = some (.cells cur t (0, 0))) (hc : cur.size = cap * size) (hu : hdr w g0 size n u) : capU u = cap := by
  subst hg
  rcases hu with ⟨hu, _⟩ | ⟨b, cur0, cap0, t0, p1, p2, p3, p4, p5, p6⟩
  · cases hu
  · injection p1 with p1
    subst p1
    rw [h] at p2
    injection p2 with p2
    injection p2 with p2
    subst p2 p6
    exact Nat.eq_of_mul_eq_mul_right hs (show cap0 * size = cap * size by rw [← p3, ← hc])
theorem hdr_same {g0 : Option Nat} {size n m : Nat} {u u' : Value} (hs : 0 < size) (h : hdr w g0 size n u) (h' : hdr w' g0 size n u) (hu : hdr w g0 size m u') : hdr w' g0 size m u' := by
  rcases hu with hu | ⟨b, cur0, cap0, t0, p1, p2, p3, p4, p5, p6⟩
  · exact .inl hu
  · have e1 := hdr_cap hs p1 p2 p3 h
    rcases h' with ⟨h', _⟩ | ⟨b', cur1, cap1, t1, q1, q2, q3, q4, q5, q6⟩
    · rw [p1] at h'; cases h'
    · rw [p1] at q1
      injection q1 with q1
      subst q1 q6
      simp only [capU] at e1
      subst e1
      exact .inr ⟨b, cur1, cap1, t1, p1, q2, q3, p4, q5, p6⟩
theorem tyOf_lt (t : Nat) : tyOf t < 1000000 := Nat.mod_lt _ (by decide)
theorem tyOf_tyOf (t : Nat) : tyOf (tyOf t) = tyOf t := Nat.mod_mod t 1000000

theorem wp_callM {K : Act → World → Prop} {Q : Exit → Act → World → Prop} {o : Oper} {fv : Operand} {as : Array Operand} {ts : Array Nat} {f : FuncId} {args : List LV} {σf : LS} {r : LV} {k : Nat} {t size : Nat} {es es' : List (List DV)}
    (hG : GW X.E w0) (h : StI X.N w0 ι σ a w) (ho : o.op = .call ⟨.value fv, as, ts⟩) (hp : prepM X.E.T σ fv as.toList ts.toList = some (f, k, args, σf)) (hk : σf.ob[k]? = some (.rw t size es)) (hS : SpecM X.E f (tyOf t) size es args es' r) (hdat : args.all dataL = true) (hd : okD X.N o.dst = true)
    (hK : ∀ a w', St X.N w0 (LS.putO { σf with ob := σf.ob.set k (.rw t size es') } o.dst r) a w' → K a w') : Oper.wp X.E.P o a w K Q := by
  unfold prepM at hp
  split at hp
  · rename_i x xs eas
    split at hp
    · rename_i f' caps σf' hev hf
      split at hp
      · rename_i k' hx
        injection hp with hp
        injection hp with e1 hp
        injection hp with e2 hp
        injection hp with e3 e4
        subst e1 e2 e3 e4
        have hfz := fzs_sound h hf
        have hfv := h.ev fv
        rw [hev] at hfv
        obtain ⟨us, hus, hcaps⟩ : den w (own ι σ.ob) (.clo f' caps) (a.eval fv) := hfv
        rw [List.all_append, Bool.and_eq_true] at hdat
        have hO : ∀ b, own ι σf'.ob b → own ι σ.ob b := by
          intro b hb
          rcases hb with hb | ⟨j, hl, hj⟩
          · exact .inl hb
          · exact .inr ⟨j, live_fzs hf hl, hj⟩
        have hcaps' : denVs w (own ι σf'.ob) caps us.toList := denVs_mono (M := noB) ⟨Ext.refl _ _, fun _ _ h => h.elim, fun b _ hb => hO b hb⟩ _ _ hcaps
        have hargs := dats_append (dats_nz hfz hdat.1) (dats_caps hcaps')
        have hxv := hfz.ev x
        rw [hx] at hxv
        obtain ⟨t1, s1, es1, hk1, hh⟩ : dcv w (own ι σf'.ob) ι σf'.ob (.os k') (a.eval x) := hxv
        rw [hk] at hk1
        injection hk1 with hk1
        injection hk1 with q1 q2 q3
        subst q1 q2 q3
        have hl : live σf'.ob k' := ⟨_, hk, rfl⟩
        have hob := hfz.objs k' _ hk
        have hsz := hob.1
        -- what others own; the row's own block
        have hOeq : (fun b => (own ι σf'.ob b ∧ ι k' ≠ some b) ∨ ι k' = some b) = own ι σf'.ob := by
          funext b
          apply propext
          constructor
          · rintro (hb | hb)
            · exact hb.1
            · exact .inr ⟨k', hl, hb⟩
          · intro hb
            by_cases e : ι k' = some b
            · exact .inr e
            · exact .inl ⟨hb, e⟩
        obtain ⟨⟨fn, hfn, hname, hbody⟩, hrd, hlen, hcall⟩ := hS
        have hGw : X.E.G w := hG.at h.below
        have hc := hcall w (fun b => own ι σf'.ob b ∧ ι k' ≠ some b) (ι k') (a.eval x) ((xs.map a.eval).toArray ++ us) hGw (fun b hb => ⟨own_lt hfz hb.1, hb.2⟩)
          (fun b hb => by
            rcases hfz.base k' b hl hb with h1 | h1
            · exact Nat.le_trans (X.E.gz _ hG.1) h1
            · exact hG.2 b h1)
          (dob_rw (ob := σf'.ob) (ι := ι) (k := k') (fun b hb => (congrFun hOeq b).mp hb) rfl (tyOf_tyOf t) (fun _ hc => capOK_small (tyOf_lt t) hc.1) hob) hh (by rw [hOeq]; simpa using hargs)
        rw [hOeq] at hc
        have hcv : a.eval fv = .func (.func f') #[] us := hus
        have hlist : as.map a.eval ++ us = #[a.eval x] ++ ((xs.map a.eval).toArray ++ us) := by
          apply Array.toList_inj.1
          simp [eas]
        have hrun : (execOp a.eval o).run X.E.P w = .ok (.enter f' (#[a.eval x] ++ ((xs.map a.eval).toArray ++ us))) w := by
          have hname' : (fn.name == "runtime.NumGoroutine") = false := hname
          have hname'' : (fn.name == "runtime.NumGoroutine") ≠ true := by rw [hname']; exact Bool.false_ne_true
          have hname3 : ¬ fn.name = "runtime.NumGoroutine" := fun e => hname'' (by simp [e])
          have hbody' : ¬ fn.body = none := fun e => by simp [e] at hbody
          rw [← hlist]
          simp [execOp, ho, resolve, hcv, Deferred.ofValue, invoke, callFunc, hfn, hname3, hbody']
        unfold Oper.wp
        rw [hrun]
        refine hc.mono ?_
        rintro e w' ⟨v, rfl, he, hob', hhd', hv⟩
        refine hK _ _ ?_
        have hset : StI X.N w0 ι { σf' with ob := σf'.ob.set k' (.rw t size es') } a w' := by
          cases hg : ι k' with
          | none =>
            have e0 : es = [] := by
              rcases hob.2 with h1 | ⟨g, cur, cap, h1, _⟩
              · exact h1.2
              · rw [hg] at h1; cases h1
            have e1 : es' = es := by subst e0; exact List.eq_nil_of_length_eq_zero (by simpa using hlen)
            have he' : Ext noB w w' := he.weaken (fun b _ hb => by rw [hg] at hb; cases hb)
            have := hfz.ext he'
            rw [e1]
            have hs : σf'.ob.set k' (.rw t size es) = σf'.ob := by
              have hlt := hl.lt
              have : σf'.ob[k'] = .rw t size es := by
                have := List.getElem?_eq_getElem hlt
                rw [hk] at this
                exact (Option.some.inj this).symm
              rw [← this, List.set_getElem_self]
            rw [hs]
            exact this
          | some g =>
            have he' : Ext (· = g) w w' := he.weaken (fun b _ hb => by rw [hg] at hb; injection hb with hb; exact hb.symm)
            refine hfz.set hk rfl rfl hg he' (fun t3 s3 e3 e => ?_) ?_ (fun t3 s3 e3 e => by injection e with q1 q2 q3; exact ⟨size, es, by rw [q1]⟩)
            · injection e with q1 q2 q3
              subst q1 q2 q3
              refine ⟨es', rfl, hlen, fun n u hu => ?_⟩
              rw [hlen] at hhd'
              exact hg ▸ hdr_same hsz hh hhd' (hg.symm ▸ hu)
            · refine ⟨hsz, ?_⟩
              rcases hob'.2 with h1' | ⟨g2, cur', cap', h1', h2', h3', h4', h5', h6'⟩
              · exact .inl h1'
              · refine .inr ⟨g2, cur', cap', h1', by rw [← tyOf_tyOf]; exact h2', h3', h4', ?_, h6'⟩
                rcases hob.2 with h1 | ⟨g1, cur, cap, h1, h2, h3, h4, h5, _⟩
                · rw [hg] at h1; cases h1.1
                · have e1 := hdr_cap hsz h1 h2 h3 hh
                  have e2 := hdr_cap hsz h1' h2' h3' hhd'
                  rw [e1] at e2
                  exact e2 ▸ h5
        exact ⟨ι, hset.putO (okD_lt hd) (by
          have hv' : dat w' (own ι σf'.ob) r v := hv
          have ho2 : own ι (σf'.ob.set k' (.rw t size es')) = own ι σf'.ob := own_set hk rfl rfl
          show dlv w' (own ι (σf'.ob.set k' (.rw t size es'))) ι _ r v
          rw [ho2]
          exact dlv_toData hrd hv')⟩
      · cases hp
    · cases hp
  · cases hp
theorem wp_callA {K : Act → World → Prop} {Q : Exit → Act → World → Prop} {o : Oper} {fv : Operand} {as : Array Operand} {ts : Array Nat} {f : FuncId} {args : List LV} {σf : LS} {k : Nat} {t size : Nat} {es es' : List (List DV)}
    (hG : GW X.E w0) (h : StI X.N w0 ι σ a w) (ho : o.op = .call ⟨.value fv, as, ts⟩) (hp : prepM X.E.T σ fv as.toList ts.toList = some (f, k, args, σf)) (hk : σf.ob[k]? = some (.rw t size es)) (hS : SpecA X.E f t size es args es') (hdat : args.all dataL = true) (hd : okD X.N o.dst = true)
    (hK : ∀ a w', St X.N w0 (LS.putO ⟨mapSl (klR k) σf.sl, setOB (klR k) (.rw t size es') σf.ob k⟩ o.dst (.c (.os k))) a w' → K a w') : Oper.wp X.E.P o a w K Q := by
  unfold prepM at hp
  split at hp
  · rename_i x xs eas
    split at hp
    · rename_i f' caps σf' hev hf
      split at hp
      · rename_i k' hx
        injection hp with hp
        injection hp with e1 hp
        injection hp with e2 hp
        injection hp with e3 e4
        subst e1 e2 e3 e4
        have hfz := fzs_sound h hf
        have hfv := h.ev fv
        rw [hev] at hfv
        obtain ⟨us, hus, hcaps⟩ : den w (own ι σ.ob) (.clo f' caps) (a.eval fv) := hfv
        rw [List.all_append, Bool.and_eq_true] at hdat
        have hO : ∀ b, own ι σf'.ob b → own ι σ.ob b := by
          intro b hb
          rcases hb with hb | ⟨j, hl, hj⟩
          · exact .inl hb
          · exact .inr ⟨j, live_fzs hf hl, hj⟩
        have hcaps' : denVs w (own ι σf'.ob) caps us.toList := denVs_mono (M := noB) ⟨Ext.refl _ _, fun _ _ h => h.elim, fun b _ hb => hO b hb⟩ _ _ hcaps
        have hargs := dats_append (dats_nz hfz hdat.1) (dats_caps hcaps')
        have hxv := hfz.ev x
        rw [hx] at hxv
        obtain ⟨t1, s1, es1, hk1, hh⟩ : dcv w (own ι σf'.ob) ι σf'.ob (.os k') (a.eval x) := hxv
        rw [hk] at hk1
        injection hk1 with hk1
        injection hk1 with q1 q2 q3
        subst q1 q2 q3
        have hl : live σf'.ob k' := ⟨_, hk, rfl⟩
        have hob := hfz.objs k' _ hk
        have hOeq : (fun b => (own ι σf'.ob b ∧ ι k' ≠ some b) ∨ ι k' = some b) = own ι σf'.ob := by
          funext b
          apply propext
          constructor
          · rintro (hb | hb)
            · exact hb.1
            · exact .inr ⟨k', hl, hb⟩
          · intro hb
            by_cases e : ι k' = some b
            · exact .inr e
            · exact .inl ⟨hb, e⟩
        obtain ⟨⟨fn, hfn, hname, hbody⟩, htt, hcall⟩ := hS
        have hGw : X.E.G w := hG.at h.below
        have hc := hcall w (fun b => own ι σf'.ob b ∧ ι k' ≠ some b) (ι k') (a.eval x) ((xs.map a.eval).toArray ++ us) hGw (fun b hb => ⟨own_lt hfz hb.1, hb.2⟩)
          (fun b hb => by
            rcases hfz.base k' b hl hb with h1 | h1
            · exact Nat.le_trans (X.E.gz _ hG.1) h1
            · exact hG.2 b h1)
          (dob_rw (ob := σf'.ob) (ι := ι) (k := k') (fun b hb => (congrFun hOeq b).mp hb) rfl rfl (fun _ hc => hc) hob) hh (by rw [hOeq]; simpa using hargs)
        have hcv : a.eval fv = .func (.func f') #[] us := hus
        have hlist : as.map a.eval ++ us = #[a.eval x] ++ ((xs.map a.eval).toArray ++ us) := by
          apply Array.toList_inj.1
          simp [eas]
        have hrun : (execOp a.eval o).run X.E.P w = .ok (.enter f' (#[a.eval x] ++ ((xs.map a.eval).toArray ++ us))) w := by
          have hname' : (fn.name == "runtime.NumGoroutine") = false := hname
          have hname'' : (fn.name == "runtime.NumGoroutine") ≠ true := by rw [hname']; exact Bool.false_ne_true
          have hname3 : ¬ fn.name = "runtime.NumGoroutine" := fun e => hname'' (by simp [e])
          have hbody' : ¬ fn.body = none := fun e => by simp [e] at hbody
          rw [← hlist]
          simp [execOp, ho, resolve, hcv, Deferred.ofValue, invoke, callFunc, hfn, hname3, hbody']
        unfold Oper.wp
        rw [hrun]
        refine hc.mono ?_
        rintro e w' ⟨v, g', rfl, he, hg', hob', hhd'⟩
        have hreg := hfz.regrow hk htt he hg' hob'
        exact hK _ _ ⟨_, hreg.putO (okD_lt hd) (v := v) ⟨_, _, es', by rw [setOB_get, if_pos rfl, hk]; rfl, by rw [upd_same]; exact hhd'⟩⟩
      · cases hp
    · cases hp
  · cases hp
end
end Go.LS
