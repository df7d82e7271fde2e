/- Part LC: 4 texts,one behind the other. -/
import Derived.Test.YtfmbjaeppffdpaaGreatDoorLB
import Derived.LoopN
import Derived.OrdersHeld
/- Walking code over logical states: one function that says what is left to be shown,and that this is enough. -/
namespace Go.LS
open Go Go.RowKit
structure Env where
 P:Program
 T:Tab
 G:World→Prop
 hT:okT P T
 gb:Nat
 gz:∀ w,G w→gb≤w.heap.size
 gs:∀ w w':World,Below gb w w'→G w→G w'
 muts:FuncId→Bool
 grows:FuncId→Bool
 px:Bool
 mixed:P.follows Departure.mixedOrders=true
def GW (V:Env) (w0:W0):Prop:=V.G w0.toWorld∧∀ g,w0.M g→V.gb≤g
theorem GW.at {V:Env} {w0:W0} {w:World} (h:GW V w0) (he:Ext w0.M w0.toWorld w):V.G w :=
 V.gs _ _ ⟨he.os,he.tape,he.output,he.size,fun k hk=>he.block k (Nat.lt_of_lt_of_le hk (V.gz _ h.1)) (fun hm=>by have:=h.2 k hm;omega)⟩ h.1
structure Cx where
 E:Env
 N:Nat
 Q:LS→Prop
 L:Nat→Option (List Nat)
inductive Fr where
 | code (c:Code)
 | bl (id:Nat)
 | lp (R:LS→Prop)
def QS (X:Cx) (w0:W0):List Fr→Exit→Act→World→Prop
 | [],e,a,w=>match e with
  | .normal=>∃ τ,St X.N w0 τ a w∧X.Q τ
  | .ret=>∃ τ,St X.N w0 τ a w∧X.Q τ
  | _=>False
 | .code y::S,e,a,w=>Exit.then (Code.wp X.E.P y (QS X w0 S)) (QS X w0 S) e a w
 | .bl id::S,e,a,w=>Exit.inBlock id (QS X w0 S) e a w
 | .lp R::S,e,a,w=>Exit.then (fun a w=>∃ τ,St X.N w0 τ a w∧R τ) (QS X w0 S) e a w
/-! ### What a function gives to its callers -/
def dataC:CV→Bool
 | .d _=>true
 | .any=>true
 | _=>false
def data1:LV→Bool
 | .c c=>dataC c
 | .ag cs=>cs.all dataC
 | .tu _=>false
def dataL:LV→Bool
 | .tu xs=>xs.all data1
 | x=>data1 x
def pureC:CV→Bool
 | .d (.v _)=>true
 | _=>false
def pure1:LV→Bool
 | .c c=>pureC c
 | .ag cs=>cs.all pureC
 | .tu _=>false
def pureL:LV→Bool
 | .tu xs=>xs.all pure1
 | x=>pure1 x
def none0 (E:Nat→Prop):Io:=⟨fun _=>none,E⟩
def dat (w:World) (E:Nat→Prop) (x:LV) (u:Value):Prop:=dlv w E (none0 E) [] x u
def dats (w:World) (E:Nat→Prop):List LV→List Value→Prop
 | [],us=>us=[]
 | x::xs,us=>∃ u r,us=u::r∧dat w E x u∧dats w E xs r
def callable (P:Program) (f:FuncId):Prop:=∃ fn,P.funcs[f]?=some fn∧(fn.name == "runtime.NumGoroutine")=false∧fn.body.isNone=false
def Spec (V:Env) (f:FuncId) (args:List LV) (r:LV):Prop :=
 callable V.P f∧dataL r=true∧∀ (w:World) (E:Nat→Prop) (us:Array Value),V.G w→(∀ g,E g→g<w.heap.size)→dats w E args us.toList →
  Calls V.P f us w fun e w'=>∃ v,e=.returned v∧Ext noB w w'∧dat w' E r v
def SpecM (V:Env) (f:FuncId) (t size:Nat) (es:List (List DV)) (args:List LV) (es':List (List DV)) (r:LV):Prop :=
 callable V.P f∧dataL r=true∧es'.length=es.length∧∀ (w:World) (E:Nat→Prop) (g:Option Nat) (u:Value) (us:Array Value),V.G w→(∀ b,E b→b<w.heap.size∧g≠some b)→(∀ b,g=some b→V.gb≤b) →
  dob w (fun b=>E b∨g=some b) ⟨fun _=>g,E⟩ [] 0 (.rw t size es)→hdr w g size es.length u→dats w (fun b=>E b∨g=some b) args us.toList →
  Calls V.P f (#[u]++us) w fun e w'=>∃ v,e=.returned v∧Ext (fun b=>g=some b) w w'∧dob w' (fun b=>E b∨g=some b) ⟨fun _=>g,E⟩ [] 0 (.rw t size es')∧hdr w' g size es'.length u∧dat w' (fun b=>E b∨g=some b) r v
def SpecR (V:Env) (f:FuncId) (args:List LV) (t size:Nat) (es:List (List DV)):Prop :=
 callable V.P f∧t<1000000∧∀ (w:World) (E:Nat→Prop) (us:Array Value),V.G w→(∀ g,E g→g<w.heap.size)→dats w E args us.toList →
  Calls V.P f us w fun e w'=>∃ v g,e=.returned v∧Ext noB w w'∧(∀ b,g=some b→w.heap.size≤b)∧dob w' (fun b=>E b∨g=some b) ⟨fun _=>g,E⟩ [] 0 (.rw t size es)∧hdr w' g size es.length v
def SpecA (V:Env) (f:FuncId) (t size:Nat) (es:List (List DV)) (args:List LV) (es':List (List DV)):Prop :=
 callable V.P f∧t<1000000∧∀ (w:World) (E:Nat→Prop) (g:Option Nat) (u:Value) (us:Array Value),V.G w→(∀ b,E b→b<w.heap.size∧g≠some b)→(∀ b,g=some b→V.gb≤b) →
  dob w (fun b=>E b∨g=some b) ⟨fun _=>g,E⟩ [] 0 (.rw t size es)→hdr w g size es.length u→dats w (fun b=>E b∨g=some b) args us.toList →
  Calls V.P f (#[u]++us) w fun e w'=>∃ v g',e=.returned v∧Ext (fun b=>g=some b) w w'∧(g'=g∨∀ b,g'=some b→w.heap.size≤b)∧dob w' (fun b=>E b∨g'=some b) ⟨fun _=>g',E⟩ [] 0 (.rw t size es')∧hdr w' g' size es'.length v
/-! ### The function -/
def BrP {α β γ:Type} (b:Bool) (f:α→β→γ→Prop) (i:α) (S:β) (σ:γ) (g:α→β→γ→Prop) (j:α) (S':β) (σ':γ):Prop:=(b=true→f i S σ)∧(b=false→g j S' σ')
section
variable {α β γ:Type} {f:α→β→γ→Prop} {i:α} {S:β} {σ:γ} {g:α→β→γ→Prop} {j:α} {S':β} {σ':γ}
theorem BrP_true:BrP true f i S σ g j S' σ'=f i S σ:=by simp [BrP]
theorem BrP_false:BrP false f i S σ g j S' σ'=g j S' σ':=by simp [BrP]
theorem BrP.mk {b:Bool} (h:b=true→f i S σ) (k:b=false→g j S' σ'):BrP b f i S σ g j S' σ':=⟨h,k⟩
end
inductive GB where
 | yes (b:Bool)
 | skip
 | bad
def gbOf:LV→GB
 | .c (.d (.v (.bool b)))=>.yes b
 | .tu []=>.skip
 | _=>.bad
def GrP {α β γ:Type} (x:GB) (want:Bool) (f:α→β→γ→Prop) (i:α) (S:β) (σ:γ) (h:α→β→γ→Prop) (j:α) (S':β) (σ':γ):Prop:=match x with
 | .yes b=>bif want then BrP b f i S σ h j S' σ' else BrP b h j S' σ' f i S σ
 | .skip=>h j S' σ'
 | .bad=>False
section
variable {α β γ:Type} {f:α→β→γ→Prop} {i:α} {S:β} {σ:γ} {h:α→β→γ→Prop} {j:α} {S':β} {σ':γ}
theorem GrP_yes_true {b:Bool}:GrP (.yes b) true f i S σ h j S' σ'=BrP b f i S σ h j S' σ':=rfl
theorem GrP_yes_false {b:Bool}:GrP (.yes b) false f i S σ h j S' σ'=BrP b h j S' σ' f i S σ:=rfl
theorem GrP_skip {w:Bool}:GrP .skip w f i S σ h j S' σ'=h j S' σ':=rfl
theorem GrP_bad {w:Bool}:GrP .bad w f i S σ h j S' σ'=False:=rfl
theorem GrP_eq {x:LV} {want:Bool}:GrP (gbOf x) want f i S σ h j S' σ'=(match x with
  | .c (.d (.v (.bool b)))=>bif want then BrP b f i S σ h j S' σ' else BrP b h j S' σ' f i S σ
  | .tu []=>h j S' σ'
  | _=>False):=by
 unfold gbOf
 split<;>rfl
end
def QrP {α β:Type} (x:QR) (f:α→β→LS→Prop) (i:α) (S:β) (σ:LS) (dst:Option Nat) (e:LS→Prop):Prop:=match x with
 | .ok p z=>p∧f i S (LS.putO σ dst z)
 | .no=>e σ
theorem QrP_ok {α β:Type} {f:α→β→LS→Prop} {i:α} {S:β} {σ:LS} {dst:Option Nat} {e:LS→Prop} {p:Prop} {z:LV}:QrP (.ok p z) f i S σ dst e=(p∧f i S (LS.putO σ dst z)):=rfl
theorem QrP_no {α β:Type} {f:α→β→LS→Prop} {i:α} {S:β} {σ:LS} {dst:Option Nat} {e:LS→Prop}:QrP .no f i S σ dst e=e σ:=rfl
def ErP {α β:Type} (x:ER) (f:α→β→LS→Prop) (i:α) (S:β) (dst:Option Nat):Prop:=match x with
 | .ok p σ z=>p∧f i S (LS.putO σ dst z)
 | .no=>False
theorem ErP_ok {α β:Type} {f:α→β→LS→Prop} {i:α} {S:β} {σ:LS} {dst:Option Nat} {p:Prop} {z:LV}:ErP (.ok p σ z) f i S dst=(p∧f i S (LS.putO σ dst z)):=rfl
theorem ErP_no {α β:Type} {f:α→β→LS→Prop} {i:α} {S:β} {dst:Option Nat}:ErP .no f i S dst=False:=rfl
def WayP {γ:Type} (b:Bool) (f g:γ→Prop) (σ:γ):Prop:=bif b then f σ else g σ
theorem WayP_true {γ:Type} {f g:γ→Prop} {σ:γ}:WayP true f g σ=f σ:=rfl
theorem WayP_false {γ:Type} {f g:γ→Prop} {σ:γ}:WayP false f g σ=g σ:=rfl
inductive It where
 | code (c:Code)
 | ops (all:List Oper) (id:Nat) (rest:List Oper)
 | nrm
 | ex (id:Nat)
 | ret
def keepS (l:List (Nat × LV)) (ks:List Nat):List (Nat × LV):=match l with
 | []=>[]
 | (i,x)::r=>bif ks.contains i then (i,x)::keepS r ks else keepS r ks
def LS.trim (σ:LS):Option (List Nat)→LS
 | some ks=>{ σ with sl:=keepS σ.sl ks }
 | none=>σ
def okD (N:Nat):Option Nat→Bool
 | some d=>Nat.blt d N
 | none=>true
def nth {α:Type}:List α→Nat→Option α
 | [],_=>none
 | x::_,0=>some x
 | _::r,n+1=>nth r n
def gslot (all:List Oper) (j:Nat):Option Nat:=match nth all j with|some o=>o.dst|none=>none
def nzArgs (T:Tab) (σ:LS):List Nat→List Operand→List LV
 | t::ts,x::xs=>nzL (nilsOf T 4 t) (ev σ x)::nzArgs T σ ts xs
 | _,xs=>xs.map (ev σ)
def prep (T:Tab) (σ:LS) (fv:Operand) (as:List Operand) (ts:List Nat):Option (FuncId × List LV × LS) :=
 match ev σ fv with
 | .c (.d (.clo f caps))=>match fzs σ (as.flatMap fun x=>refL σ.ob (ev σ x)) with
  | some σf=>some (f,nzArgs T σf ts as++caps.map fun d=>.c (.d d),σf)
  | none=>none
 | _=>none
def CallR (go:It→List Fr→LS→Prop) (X:Cx) (f:FuncId) (args:List LV) (dst:Option Nat) (all:List Oper) (id:Nat) (rest:List Oper) (S:List Fr) (σ σf:LS):Prop :=
 ∃ r,Spec X.E f args r∧args.all dataL=true∧go (.ops all id rest) S (LS.putO (bif pureL r then σ else σf) dst r)
def mutC (m:FuncId→Bool):Operand→Bool
 | .func f=>m f
 | _=>false
def prepM (T:Tab) (σ:LS) (fv:Operand) (as:List Operand) (ts:List Nat):Option (FuncId × Nat × List LV × LS) :=
 match as with
 | x::xs=>match ev σ fv,fzs σ (xs.flatMap fun y=>refL σ.ob (ev σ y)) with
  | .c (.d (.clo f caps)),some σf=>match ev σf x with
   | .c (.os k)=>some (f,k,nzArgs T σf ts.tail xs++caps.map fun d=>.c (.d d),σf)
   | _=>none
  | _,_=>none
 | []=>none
def CallM (go:It→List Fr→LS→Prop) (X:Cx) (f:FuncId) (k:Nat) (args:List LV) (dst:Option Nat) (all:List Oper) (id:Nat) (rest:List Oper) (S:List Fr) (σf:LS):Prop :=
 match σf.ob[k]? with
 | some (.rw t size es)=>∃ es' r,SpecM X.E f (tyOf t) size es args es' r∧args.all dataL=true∧go (.ops all id rest) S (LS.putO { σf with ob:=σf.ob.set k (.rw t size es') } dst r)
 | _=>False
def LoopK (X:Cx) (c:Code) (S:List Fr) (σ:LS):Prop:=∀ w0:W0,GW X.E w0→∀ a w,St X.N w0 σ a w→Code.wp X.E.P (.loop c) (QS X w0 S) a w
def DrawK (X:Cx) (id:Nat) (ops:Array Oper) (S:List Fr) (σ:LS):Prop:=∀ w0:W0,GW X.E w0→∀ a w,St X.N w0 σ a w→Code.wp X.E.P (.region id ops true) (QS X w0 S) a w
def stepE0 (go:It→List Fr→LS→Prop) (X:Cx) (all:List Oper) (id:Nat) (o:Oper) (rest:List Oper) (S:List Fr) (σ:LS):Prop :=
 ErP (eff X.E.T σ o.op) go (.ops all id rest) S o.dst
def stepX (go:It→List Fr→LS→Prop) (X:Cx) (all:List Oper) (id:Nat) (o:Oper) (rest:List Oper) (S:List Fr) (σ:LS):Prop :=
 PxP (effP X.E.T σ o.op) go (.ops all id rest) S σ o.dst (stepE0 go X all id o rest S)
def stepE (go:It→List Fr→LS→Prop) (X:Cx) (all:List Oper) (id:Nat) (o:Oper) (rest:List Oper) (S:List Fr) (σ:LS):Prop :=
 WayP X.E.px (stepX go X all id o rest S) (stepE0 go X all id o rest S) σ
def stepO (go:It→List Fr→LS→Prop) (X:Cx) (all:List Oper) (id:Nat) (o:Oper) (rest:List Oper) (S:List Fr) (σ:LS):Prop :=
 match o.op with
 | .pick c x y=>match ev σ c with
  | .c (.d (.v (.bool b)))=>BrP b go (.ops all id rest) S (σ.putO o.dst (ev σ x)) go (.ops all id rest) S (σ.putO o.dst (ev σ y))
  | _=>False
 | .call ⟨.value fv,as,ts⟩=>match prep X.E.T σ fv as.toList ts.toList with
  | some (f,args,σf)=>CallR go X f args o.dst all id rest S σ σf
  | none=>False
 | op=>QrP (q X.E.T σ op) go (.ops all id rest) S σ o.dst (stepE go X all id o rest S)
def stepOI (go:It→List Fr→LS→Prop) (X:Cx) (all:List Oper) (id:Nat) (o:Oper) (rest:List Oper) (_:It) (S:List Fr) (σ:LS):Prop:=stepO go X all id o rest S σ
def stepG (go:It→List Fr→LS→Prop) (X:Cx) (all:List Oper) (id:Nat) (o:Oper) (rest:List Oper) (S:List Fr) (σ:LS):Prop :=
 match o.guard with
 | none=>stepO go X all id o rest S σ
 | some (j,want)=>match gslot all j with
  | some d=>GrP (gbOf (getS σ.sl d)) want (stepOI go X all id o rest) .nrm S σ go (.ops all id rest) S (σ.putO o.dst (.tu []))
  | none=>False
def nilQ (T:Tab) (op:BinOp) (xT:TypeId):LV→LV→Option (List (List DV) × Bool)
 | .c (.d (.sl _ es)),.c (.d (.v (.slice none 0 0))) =>
  match T xT,op with
  | some ⟨.slice _,_,_,_,_⟩,.eql=>some (es,false)
  | some ⟨.slice _,_,_,_,_⟩,.neq=>some (es,true)
  | _,_=>none
 | _,_=>none
def NilK (go:It→List Fr→LS→Prop) (es:List (List DV)) (ng:Bool) (dst:Option Nat) (it:It) (S:List Fr) (σ:LS):Prop :=
 ∀ b:Bool,(b=true→es=[])→go it S (LS.putO σ dst (b2 (bif ng then !b else b)))
def NrP (x:Option (List (List DV) × Bool)) (go:It→List Fr→LS→Prop) (dst:Option Nat) (it:It) (S:List Fr) (σ:LS) (e:LS→Prop):Prop:=match x with
 | some (es,ng)=>NilK go es ng dst it S σ
 | none=>e σ
theorem NrP_some {es:List (List DV)} {ng:Bool} {go:It→List Fr→LS→Prop} {dst:Option Nat} {it:It} {S:List Fr} {σ:LS} {e:LS→Prop}:NrP (some (es,ng)) go dst it S σ e=NilK go es ng dst it S σ:=rfl
theorem NrP_none {go:It→List Fr→LS→Prop} {dst:Option Nat} {it:It} {S:List Fr} {σ:LS} {e:LS→Prop}:NrP none go dst it S σ e=e σ:=rfl
def CallF (go:It→List Fr→LS→Prop) (X:Cx) (f:FuncId) (args:List LV) (dst:Option Nat) (all:List Oper) (id:Nat) (rest:List Oper) (S:List Fr) (σ σf:LS):Prop :=
 (∃ t size es,SpecR X.E f args t size es∧args.all dataL=true∧go (.ops all id rest) S (LS.putO ⟨σf.sl,σf.ob++[.rw t size es]⟩ dst (.c (.os σf.ob.length)))) ∨
 CallR go X f args dst all id rest S σ σf
def CallA (go:It→List Fr→LS→Prop) (X:Cx) (f:FuncId) (k:Nat) (args:List LV) (dst:Option Nat) (all:List Oper) (id:Nat) (rest:List Oper) (S:List Fr) (σf:LS):Prop :=
 match σf.ob[k]? with
 | some (.rw t size es)=>∃ es',SpecA X.E f t size es args es'∧args.all dataL=true∧go (.ops all id rest) S (LS.putO ⟨mapSl (klR k) σf.sl,setOB (klR k) (.rw t size es') σf.ob k⟩ dst (.c (.os k)))
 | _=>False
def rawTs:Bool→List Nat→List Nat
 | true,_=>[]
 | false,ts=>ts
def stepM (go:It→List Fr→LS→Prop) (X:Cx) (fv:Operand) (as:List Operand) (ts:List Nat) (dst:Option Nat) (all:List Oper) (id:Nat) (rest:List Oper) (S:List Fr) (σ:LS):Prop :=
 match prepM X.E.T σ fv as ts with
 | some (f,k,args,σf)=>WayP (X.E.grows f) (CallA go X f k args dst all id rest S) (CallM go X f k args dst all id rest S) σf
 | none=>match prep X.E.T σ fv as (rawTs (mutC X.E.grows fv) ts) with
  | some (f,args,σf)=>CallF go X f args dst all id rest S σ σf
  | none=>False
def stepN (go:It→List Fr→LS→Prop) (X:Cx) (all:List Oper) (id:Nat) (o:Oper) (rest:List Oper) (S:List Fr) (σ:LS):Prop :=
 match o.guard,o.op with
 | none,.call ⟨.value fv,as,ts⟩=>WayP (mutC X.E.muts fv) (stepM go X fv as.toList ts.toList o.dst all id rest S) (stepG go X all id o rest S) σ
 | none,.binOp op xT x y _=>NrP (nilQ X.E.T op xT (ev σ x) (ev σ y)) go o.dst (.ops all id rest) S σ (stepG go X all id o rest S)
 | _,_=>stepG go X all id o rest S σ
def go:Nat→Cx→It→List Fr→LS→Prop
 | 0,_,_,_,_=>False
 | n+1,X,.code c,S,σ=>match c with
  | .seq x y=>go n X (.code x) (.code y::S) σ
  | .skip=>go n X .nrm S σ
  | .region id ops false=>go n X (.ops ops.toList id ops.toList) S σ
  | .region id ops true=>DrawK X id ops S σ
  | .cond c x y=>match ev σ c with
   | .c (.d (.v (.bool b)))=>BrP b (go n X) (.code x) S σ (go n X) (.code y) S σ
   | _=>False
  | .block id c=>go n X (.code c) (.bl id::S) σ
  | .loop c=>LoopK X c S σ
  | .exit id=>go n X (.ex id) S σ
  | .ret=>go n X .ret S σ
  | _=>False
 | n+1,X,.ops _ id [],S,σ=>go n X .nrm S (σ.trim (X.L id))
 | n+1,X,.ops all id (o::r),S,σ=>okD X.N o.dst=true∧stepN (go n X) X all id o r S σ
 | n+1,X,.nrm,S,σ=>match S with
  | []=>X.Q σ
  | .code y::S=>go n X (.code y) S σ
  | .bl _::S=>go n X .nrm S σ
  | .lp R::_=>R σ
 | n+1,X,.ex id,S,σ=>match S with
  | []=>False
  | .bl k::S=>bif id == k then go n X .nrm S σ else go n X (.ex id) S σ
  | _::S=>go n X (.ex id) S σ
 | n+1,X,.ret,S,σ=>match S with
  | []=>X.Q σ
  | _::S=>go n X .ret S σ
/-! ### It is enough -/
def Sem' (X:Cx) (it:It) (S:List Fr) (w0:W0) (a:Act) (w:World):Prop:=match it with
 | .code c=>Code.wp X.E.P c (QS X w0 S) a w
 | .ops all _ rest=>wpList X.E.P all.toArray (QS X w0 S) rest a w
 | .nrm=>QS X w0 S .normal a w
 | .ex id=>QS X w0 S (.exit id) a w
 | .ret=>QS X w0 S .ret a w
def Holds (X:Cx) (it:It) (S:List Fr) (σ:LS):Prop:=∀ w0:W0,GW X.E w0→∀ a w,St X.N w0 σ a w→Sem' X it S w0 a w
section
variable {X:Cx} {S:List Fr} {σ σ':LS} {w0:W0} {a:Act} {w w':World} {ι:Io}
theorem mem_keepS {ks:List Nat} {p:Nat × LV}:∀ {l:List (Nat × LV)},p∈keepS l ks→p∈l
 | [],h=>by simp [keepS] at h
 | (i,x)::r,h=>by
  simp only [keepS] at h
  cases hc:ks.contains i with
  | true =>
   rw [hc,cond_true] at h
   rcases List.mem_cons.1 h with rfl|h
   ·exact List.mem_cons_self
   ·exact List.mem_cons_of_mem _ (mem_keepS h)
  | false=>rw [hc,cond_false] at h;exact List.mem_cons_of_mem _ (mem_keepS h)
theorem St.trim (h:St X.N w0 σ a w) (k:Option (List Nat)):St X.N w0 (σ.trim k) a w:=by
 obtain ⟨ι,h⟩:=h
 cases k with
 | none=>exact ⟨ι,h⟩
 | some ks=>exact ⟨ι,h.sub fun p hp=>mem_keepS hp⟩
theorem okD_lt {N:Nat} {d:Option Nat} (h:okD N d=true):∀ k,d=some k→k<N:=by
 rintro k rfl
 simpa [okD,Nat.blt_eq] using h
theorem wanted_none {o:Oper} {y:Nat→Option Bool} (h:o.guard=none):Region.wanted o y=true:=by simp [Region.wanted,h]
theorem wpList_run {P:Program} {ops:Array Oper} {Q:Exit→Act→World→Prop} {o:Oper} {r:List Oper} (h:Region.wanted o (yielded ops a.tmps)=true) (hw:Oper.wp P o a w (fun a w=>wpList P ops Q r a w) Q):wpList P ops Q (o::r) a w:=by
 show (if Region.wanted o (yielded ops a.tmps)=true then _ else _)
 rw [if_pos h]
 exact .inl hw
theorem wpList_not {P:Program} {ops:Array Oper} {Q:Exit→Act→World→Prop} {o:Oper} {r:List Oper} (h:Region.wanted o (yielded ops a.tmps)=false) (hw:wpList P ops Q r (a.put o.dst undef) w):wpList P ops Q (o::r) a w:=by
 show (if Region.wanted o (yielded ops a.tmps)=true then _ else _)
 rw [if_neg (by simp [h])]
 exact hw
theorem nth_get {α:Type}:∀ (l:List α) (n:Nat),nth l n=l[n]?
 | [],n=>by cases n<;>rfl
 | x::r,0=>rfl
 | x::r,n+1=>by simp only [nth,List.getElem?_cons_succ];exact nth_get r n
theorem gslot_yielded (h:StI X.N w0 ι σ a w) {all:List Oper} {j d:Nat} (hg:gslot all j=some d) {b:Bool} (hs:getS σ.sl d=.c (.d (.v (.bool b)))):yielded all.toArray a.tmps j=some b:=by
 have hm:(d,getS σ.sl d)∈σ.sl:=by
  rcases getS_mem (l:=σ.sl) (i:=d) with e|e
  ·rw [hs] at e;cases e
  ·exact e
 obtain ⟨v,hv,hd⟩:=h.slots _ hm
 rw [hs] at hd
 have:v=.bool b:=hd.1
 subst this
 unfold gslot at hg
 cases ho:nth all j with
 | none=>simp [ho] at hg
 | some o =>
  simp only [ho] at hg
  rw [nth_get] at ho
  simp [yielded,ho,hg,hv]
theorem gslot_undef (h:StI X.N w0 ι σ a w) {all:List Oper} {j d:Nat} (hg:gslot all j=some d) (hs:getS σ.sl d=.tu []):yielded all.toArray a.tmps j=none:=by
 have hm:(d,getS σ.sl d)∈σ.sl:=by
  rcases getS_mem (l:=σ.sl) (i:=d) with e|e
  ·rw [hs] at e;cases e
  ·exact e
 obtain ⟨v,hv,hd⟩:=h.slots _ hm
 rw [hs] at hd
 obtain ⟨us,rfl,_⟩:=hd
 unfold gslot at hg
 cases ho:nth all j with
 | none=>simp [ho] at hg
 | some o =>
  simp only [ho] at hg
  rw [nth_get] at ho
  simp [yielded,ho,hg,hv]
theorem undefL {O:Nat→Prop} {ob:List OB}:dlv w O ι ob (.tu []) undef:=⟨#[],rfl,rfl⟩
theorem wp_does {P:Program} {o:Oper} {v:Value} {K:Act→World→Prop} {Q:Exit→Act→World→Prop} (h:(execOp a.eval o).run P w=.ok (.value v) w'∨((execOp a.eval o).run P w=.ok .skip w'∧v=undef)) (hk:K (a.put o.dst v) w'):Oper.wp P o a w K Q:=by
 unfold Oper.wp
 rcases h with h|⟨h,rfl⟩<;>rw [h]<;>exact hk
/-! Data out of a state with objects,and into one. -/
theorem dcv_toData {O:Nat→Prop} {ob:List OB} {c:CV} {u:Value} (hc:dataC c=true) {ι ι':Io} {ob':List OB} (h:dcv w O ι ob c u):dcv w O ι' ob' c u:=by
 cases c with
 | d x=>exact h
 | any=>exact h
 | _=>cases hc
theorem dcvs_toData {O:Nat→Prop} {ob:List OB} {ι ι':Io} {ob':List OB}:∀ {cs:List CV} {us:List Value},cs.all dataC=true→dcvs w O ι ob cs us→dcvs w O ι' ob' cs us
 | [],us,_,h=>h
 | c::cs,us,hc,h=>by
  simp only [List.all_cons,Bool.and_eq_true] at hc
  obtain ⟨u,r,rfl,h1,h2⟩:=h
  exact ⟨u,r,rfl,dcv_toData hc.1 h1,dcvs_toData hc.2 h2⟩
theorem dl1_toData {O:Nat→Prop} {ob:List OB} {ι ι':Io} {ob':List OB} {x:LV} {u:Value} (hc:data1 x=true) (h:dl1 w O ι ob x u):dl1 w O ι' ob' x u:=by
 cases x with
 | c c=>cases c with
  | d x=>exact h
  | any=>exact h
  | _=>cases hc
 | ag cs=>obtain ⟨us,rfl,hd⟩:=h;exact ⟨us,rfl,dcvs_toData hc hd⟩
 | tu xs=>cases hc
theorem dl1s_toData {O:Nat→Prop} {ob:List OB} {ι ι':Io} {ob':List OB}:∀ {xs:List LV} {us:List Value},xs.all data1=true→dl1s w O ι ob xs us→dl1s w O ι' ob' xs us
 | [],us,_,h=>h
 | x::xs,us,hc,h=>by
  simp only [List.all_cons,Bool.and_eq_true] at hc
  obtain ⟨u,r,rfl,h1,h2⟩:=h
  exact ⟨u,r,rfl,dl1_toData hc.1 h1,dl1s_toData hc.2 h2⟩
theorem dlv_toData {O:Nat→Prop} {ob:List OB} {ι ι':Io} {ob':List OB} {x:LV} {u:Value} (hc:dataL x=true) (h:dlv w O ι ob x u):dlv w O ι' ob' x u:=by
 cases x with
 | tu xs=>obtain ⟨us,rfl,hd⟩:=h;exact ⟨us,rfl,dl1s_toData hc hd⟩
 | c c=>exact dl1_toData (x:=.c c) hc h
 | ag cs=>exact dl1_toData (x:=.ag cs) hc h
/-! What is pure doesn't know of the world. -/
theorem dcv_pure {O O':Nat→Prop} {ι ι':Io} {ob ob':List OB} {c:CV} {u:Value} (hc:pureC c=true) (h:dcv w O ι ob c u):dcv w' O' ι' ob' c u:=by
 cases c with
 | d x=>cases x with
  | v x=>exact h
  | _=>cases hc
 | _=>cases hc
theorem dcvs_pure {O O':Nat→Prop} {ι ι':Io} {ob ob':List OB}:∀ {cs:List CV} {us:List Value},cs.all pureC=true→dcvs w O ι ob cs us→dcvs w' O' ι' ob' cs us
 | [],us,_,h=>h
 | c::cs,us,hc,h=>by
  simp only [List.all_cons,Bool.and_eq_true] at hc
  obtain ⟨u,r,rfl,h1,h2⟩:=h
  exact ⟨u,r,rfl,dcv_pure hc.1 h1,dcvs_pure hc.2 h2⟩
theorem dl1_pure {O O':Nat→Prop} {ι ι':Io} {ob ob':List OB} {x:LV} {u:Value} (hc:pure1 x=true) (h:dl1 w O ι ob x u):dl1 w' O' ι' ob' x u:=by
 cases x with
 | c c=>cases c with
  | d x=>exact dcv_pure (c:=.d x) (ι:=ι) (ob:=ob) (ι':=ι') (ob':=ob') hc h
  | _=>cases hc
 | ag cs=>obtain ⟨us,rfl,hd⟩:=h;exact ⟨us,rfl,dcvs_pure hc hd⟩
 | tu xs=>cases hc
theorem dl1s_pure {O O':Nat→Prop} {ι ι':Io} {ob ob':List OB}:∀ {xs:List LV} {us:List Value},xs.all pure1=true→dl1s w O ι ob xs us→dl1s w' O' ι' ob' xs us
 | [],us,_,h=>h
 | x::xs,us,hc,h=>by
  simp only [List.all_cons,Bool.and_eq_true] at hc
  obtain ⟨u,r,rfl,h1,h2⟩:=h
  exact ⟨u,r,rfl,dl1_pure hc.1 h1,dl1s_pure hc.2 h2⟩
theorem dlv_pure {O O':Nat→Prop} {ι ι':Io} {ob ob':List OB} {x:LV} {u:Value} (hc:pureL x=true) (h:dlv w O ι ob x u):dlv w' O' ι' ob' x u:=by
 cases x with
 | tu xs=>obtain ⟨us,rfl,hd⟩:=h;exact ⟨us,rfl,dl1s_pure hc hd⟩
 | c c=>exact dl1_pure (x:=.c c) hc h
 | ag cs=>exact dl1_pure (x:=.ag cs) hc h
theorem dats_append {E:Nat→Prop}:∀ {xs ys:List LV} {us vs:List Value},dats w E xs us→dats w E ys vs→dats w E (xs++ys) (us++vs)
 | [],ys,us,vs,h,k=>by simp only [dats] at h;subst h;exact k
 | x::xs,ys,us,vs,h,k=>by
  obtain ⟨u,r,rfl,h1,h2⟩:=h
  exact ⟨u,r++vs,rfl,h1,dats_append h2 k⟩
theorem dats_evs (h:StI X.N w0 ι σ a w):∀ {as:List Operand},(as.map (ev σ)).all dataL=true→dats w (own ι σ.ob) (as.map (ev σ)) (as.map a.eval)
 | [],_=>rfl
 | x::xs,hc=>by
  simp only [List.map_cons,List.all_cons,Bool.and_eq_true] at hc
  exact ⟨_,_,rfl,dlv_toData hc.1 (h.ev x),dats_evs h hc.2⟩
theorem dats_nz {T:Tab} (h:StI X.N w0 ι σ a w):∀ {ts:List Nat} {as:List Operand},(nzArgs T σ ts as).all dataL=true→dats w (own ι σ.ob) (nzArgs T σ ts as) (as.map a.eval)
 | [],as,hc=>by cases as<;>exact dats_evs h hc
 | t::ts,[],hc=>rfl
 | t::ts,x::xs,hc=>by
  simp only [nzArgs,List.all_cons,Bool.and_eq_true] at hc
  exact ⟨_,_,rfl,dlv_toData hc.1 (nzL_dlv (h.ev x)),dats_nz h hc.2⟩
theorem dats_caps {E:Nat→Prop}:∀ {caps:List DV} {us:List Value},denVs w E caps us→dats w E (caps.map fun d=>.c (.d d)) us
 | [],us,h=>h
 | d::ds,us,h=>by
  obtain ⟨u,r,rfl,h1,h2⟩:=h
  exact ⟨u,r,rfl,h1,dats_caps h2⟩
theorem wp_callR {K:Act→World→Prop} {Q:Exit→Act→World→Prop} {o:Oper} {fv:Operand} {as:Array Operand} {ts:Array Nat} {tl:List Nat} {f:FuncId} {args:List LV} {σf:LS} {r:LV}
  (hG:GW X.E w0) (h:StI X.N w0 ι σ a w) (ho:o.op=.call ⟨.value fv,as,ts⟩) (hp:prep X.E.T σ fv as.toList tl=some (f,args,σf)) (hS:Spec X.E f args r) (hdat:args.all dataL=true) (hd:okD X.N o.dst=true)
  (hK:∀ a w',Ext noB w w'→St X.N w0 (LS.putO (bif pureL r then σ else σf) o.dst r) a w'→K a w'):Oper.wp X.E.P o a w K Q:=by
 unfold prep at hp
 split at hp
 ·rename_i f' caps hev
  split at hp
  ·rename_i σf' hf
   injection hp with hp
   injection hp with e1 hp
   injection hp with e2 e3
   subst e1 e2 e3
   have hfz:=fzs_sound h hf
   have hfv:=h.ev fv
   rw [hev] at hfv
   have hfv':den w (own ι σ.ob) (.clo f' caps) (a.eval fv):=hfv
   obtain ⟨us,hus,hcaps⟩:=hfv'
   rw [List.all_append,Bool.and_eq_true] at hdat
   have hO:∀ b,own ι σf'.ob b→own ι σ.ob b:=by
    intro b hb
    rcases hb with hb|⟨k,hl,hk⟩
    ·exact .inl hb
    ·refine .inr ⟨k,?_,hk⟩
     exact live_fzs hf hl
   have hcaps':denVs w (own ι σf'.ob) caps us.toList:=denVs_mono (M:=noB) ⟨Ext.refl _ _,fun _ _ h=>h.elim,fun b _ hb=>hO b hb⟩ _ _ hcaps
   have hargs:=dats_append (dats_nz hfz hdat.1) (dats_caps hcaps')
   obtain ⟨⟨fn,hfn,hname,hbody⟩,hrd,hcall⟩:=hS
   have hGw:X.E.G w:=hG.at h.below
   have hc:=hcall w (own ι σf'.ob) (as.map a.eval++us) hGw (fun g hg=>own_lt hfz hg) (by simpa using hargs)
   have hrun:(execOp a.eval o).run X.E.P w=.ok (.enter f' (as.map a.eval++us)) w:=by
    have hname':(fn.name == "runtime.NumGoroutine")=false:=hname
    have hname'':(fn.name == "runtime.NumGoroutine")≠true:=by rw [hname'];exact Bool.false_ne_true
    have hname3:¬ fn.name = "runtime.NumGoroutine" := fun e=>hname'' (by simp [e])
    have hbody':¬ fn.body=none:=fun e=>by simp [e] at hbody
    simp [execOp,ho,resolve,hus,Deferred.ofValue,invoke,callFunc,hfn,hname3,hbody']
   unfold Oper.wp
   rw [hrun]
   refine hc.mono ?_
   rintro e w' ⟨v,rfl,he,hv⟩
   refine hK _ _ he ?_
   cases hpu:pureL r with
   | true =>
    rw [cond_true]
    have h':=h.ext he
    exact ⟨ι,h'.putO (okD_lt hd) (dlv_pure hpu hv)⟩
   | false =>
    rw [cond_false]
    have h':=hfz.ext he
    exact ⟨ι,h'.putO (okD_lt hd) (dlv_toData hrd hv)⟩
  ·cases hp
 ·cases hp
theorem wp_callF {K:Act→World→Prop} {Q:Exit→Act→World→Prop} {o:Oper} {fv:Operand} {as:Array Operand} {ts:Array Nat} {tl:List Nat} {f:FuncId} {args:List LV} {σf:LS} {t size:Nat} {es:List (List DV)}
  (hG:GW X.E w0) (h:StI X.N w0 ι σ a w) (ho:o.op=.call ⟨.value fv,as,ts⟩) (hp:prep X.E.T σ fv as.toList tl=some (f,args,σf)) (hS:SpecR X.E f args t size es) (hdat:args.all dataL=true) (hd:okD X.N o.dst=true)
  (hK:∀ a w',Ext noB w w'→St X.N w0 (LS.putO ⟨σf.sl,σf.ob++[.rw t size es]⟩ o.dst (.c (.os σf.ob.length))) a w'→K a w'):Oper.wp X.E.P o a w K Q:=by
 unfold prep at hp
 split at hp
 ·rename_i f' caps hev
  split at hp
  ·rename_i σf' hf
   injection hp with hp
   injection hp with e1 hp
   injection hp with e2 e3
   subst e1 e2 e3
   have hfz:=fzs_sound h hf
   have hfv:=h.ev fv
   rw [hev] at hfv
   have hfv':den w (own ι σ.ob) (.clo f' caps) (a.eval fv):=hfv
   obtain ⟨us,hus,hcaps⟩:=hfv'
   rw [List.all_append,Bool.and_eq_true] at hdat
   have hO:∀ b,own ι σf'.ob b→own ι σ.ob b:=by
    intro b hb
    rcases hb with hb|⟨k,hl,hk⟩
    ·exact .inl hb
    ·refine .inr ⟨k,?_,hk⟩
     exact live_fzs hf hl
   have hcaps':denVs w (own ι σf'.ob) caps us.toList:=denVs_mono (M:=noB) ⟨Ext.refl _ _,fun _ _ h=>h.elim,fun b _ hb=>hO b hb⟩ _ _ hcaps
   have hargs:=dats_append (dats_nz hfz hdat.1) (dats_caps hcaps')
   obtain ⟨⟨fn,hfn,hname,hbody⟩,ht,hcall⟩:=hS
   have hGw:X.E.G w:=hG.at h.below
   have hc:=hcall w (own ι σf'.ob) (as.map a.eval++us) hGw (fun g hg=>own_lt hfz hg) (by simpa using hargs)
   have hrun:(execOp a.eval o).run X.E.P w=.ok (.enter f' (as.map a.eval++us)) w:=by
    have hname':(fn.name == "runtime.NumGoroutine")=false:=hname
    have hname'':(fn.name == "runtime.NumGoroutine")≠true:=by rw [hname'];exact Bool.false_ne_true
    have hname3:¬ fn.name = "runtime.NumGoroutine" := fun e=>hname'' (by simp [e])
    have hbody':¬ fn.body=none:=fun e=>by simp [e] at hbody
    simp [execOp,ho,resolve,hus,Deferred.ofValue,invoke,callFunc,hfn,hname3,hbody']
   unfold Oper.wp
   rw [hrun]
   refine hc.mono ?_
   rintro e w' ⟨v,g,rfl,he,hg,hob,hh⟩
   refine hK _ _ he ?_
   have hkk:upd ι σf'.ob.length g σf'.ob.length=g:=upd_same ι _ g
   have hown:∀ b,own (upd ι σf'.ob.length g) (σf'.ob++[OB.rw t size es]) b→own ι σf'.ob b∨g=some b:=by
    rintro b (hb|⟨k,hl,hi⟩)
    ·exact .inl (.inl hb)
    ·rcases live_add hl with hl|⟨rfl,_⟩
     ·have hk:upd ι σf'.ob.length g k=ι k:=upd_ne ι g (by have:=hl.lt;omega)
      rw [hk] at hi
      exact .inl (.inr ⟨k,hl,hi⟩)
     ·rw [hkk] at hi;exact .inr hi
   have hadd:StI X.N w0 (upd ι σf'.ob.length g) (σf'.add (.rw t size es)) a w':=hfz.add he hg (fun t' s' e' e=>by injection e with e1 e2 e3;exact e1 ▸ ht)
    (dob_rw (ob:=[]) (ι:=⟨fun _=>g,own ι σf'.ob⟩) (k:=0) (fun b hb=>hown b hb) hkk rfl (fun _ h=>h) hob)
   exact ⟨_,hadd.putO (okD_lt hd) (v:=v) ⟨t,size,es,by simp [LS.add],by rw [hkk];exact hh⟩⟩
  ·cases hp
 ·cases hp
def capU:Value→Nat
 | .slice _ _ c=>c
 | _=>0
theorem hdr_cap {g0:Option Nat} {g size cap n:Nat} {cur:Array Value} {t:TypeId} {u:Value} (hs:0<size) (hg:g0=some g) (h:w.heap[g]?=some (.cells cur t (0,0))) (hc:cur.size=cap*size) (hu:hdr w g0 size n u):capU u=cap:=by
 subst hg
 rcases hu with ⟨hu,_⟩|⟨b,cur0,cap0,t0,p1,p2,p3,p4,p5,p6⟩
 ·cases hu
 ·injection p1 with p1
  subst p1
  rw [h] at p2
  injection p2 with p2
  injection p2 with p2
  subst p2 p6
  exact Nat.eq_of_mul_eq_mul_right hs (show cap0*size=cap*size by rw [← p3,← hc])
theorem hdr_same {g0:Option Nat} {size n m:Nat} {u u':Value} (hs:0<size) (h:hdr w g0 size n u) (h':hdr w' g0 size n u) (hu:hdr w g0 size m u'):hdr w' g0 size m u':=by
 rcases hu with hu|⟨b,cur0,cap0,t0,p1,p2,p3,p4,p5,p6⟩
 ·exact .inl hu
 ·have e1:=hdr_cap hs p1 p2 p3 h
  rcases h' with ⟨h',_⟩|⟨b',cur1,cap1,t1,q1,q2,q3,q4,q5,q6⟩
  ·rw [p1] at h';cases h'
  ·rw [p1] at q1
   injection q1 with q1
   subst q1 q6
   simp only [capU] at e1
   subst e1
   exact .inr ⟨b,cur1,cap1,t1,p1,q2,q3,p4,q5,p6⟩
theorem tyOf_lt (t:Nat):tyOf t<1000000:=Nat.mod_lt _ (by decide)
theorem tyOf_tyOf (t:Nat):tyOf (tyOf t)=tyOf t:=Nat.mod_mod t 1000000
theorem wp_callM {K:Act→World→Prop} {Q:Exit→Act→World→Prop} {o:Oper} {fv:Operand} {as:Array Operand} {ts:Array Nat} {f:FuncId} {args:List LV} {σf:LS} {r:LV} {k:Nat} {t size:Nat} {es es':List (List DV)}
  (hG:GW X.E w0) (h:StI X.N w0 ι σ a w) (ho:o.op=.call ⟨.value fv,as,ts⟩) (hp:prepM X.E.T σ fv as.toList ts.toList=some (f,k,args,σf)) (hk:σf.ob[k]?=some (.rw t size es)) (hS:SpecM X.E f (tyOf t) size es args es' r) (hdat:args.all dataL=true) (hd:okD X.N o.dst=true)
  (hK:∀ a w',St X.N w0 (LS.putO { σf with ob:=σf.ob.set k (.rw t size es') } o.dst r) a w'→K a w'):Oper.wp X.E.P o a w K Q:=by
 unfold prepM at hp
 split at hp
 ·rename_i x xs eas
  split at hp
  ·rename_i f' caps σf' hev hf
   split at hp
   ·rename_i k' hx
    injection hp with hp
    injection hp with e1 hp
    injection hp with e2 hp
    injection hp with e3 e4
    subst e1 e2 e3 e4
    have hfz:=fzs_sound h hf
    have hfv:=h.ev fv
    rw [hev] at hfv
    obtain ⟨us,hus,hcaps⟩:den w (own ι σ.ob) (.clo f' caps) (a.eval fv):=hfv
    rw [List.all_append,Bool.and_eq_true] at hdat
    have hO:∀ b,own ι σf'.ob b→own ι σ.ob b:=by
     intro b hb
     rcases hb with hb|⟨j,hl,hj⟩
     ·exact .inl hb
     ·exact .inr ⟨j,live_fzs hf hl,hj⟩
    have hcaps':denVs w (own ι σf'.ob) caps us.toList:=denVs_mono (M:=noB) ⟨Ext.refl _ _,fun _ _ h=>h.elim,fun b _ hb=>hO b hb⟩ _ _ hcaps
    have hargs:=dats_append (dats_nz hfz hdat.1) (dats_caps hcaps')
    have hxv:=hfz.ev x
    rw [hx] at hxv
    obtain ⟨t1,s1,es1,hk1,hh⟩:dcv w (own ι σf'.ob) ι σf'.ob (.os k') (a.eval x):=hxv
    rw [hk] at hk1
    injection hk1 with hk1
    injection hk1 with q1 q2 q3
    subst q1 q2 q3
    have hl:live σf'.ob k':=⟨_,hk,rfl⟩
    have hob:=hfz.objs k' _ hk
    have hsz:=hob.1
    have hOeq:(fun b=>(own ι σf'.ob b∧ι k'≠some b)∨ι k'=some b)=own ι σf'.ob:=by
     funext b
     apply propext
     constructor
     ·rintro (hb|hb)
      ·exact hb.1
      ·exact .inr ⟨k',hl,hb⟩
     ·intro hb
      by_cases e:ι k'=some b
      ·exact .inr e
      ·exact .inl ⟨hb,e⟩
    obtain ⟨⟨fn,hfn,hname,hbody⟩,hrd,hlen,hcall⟩:=hS
    have hGw:X.E.G w:=hG.at h.below
    have hc:=hcall w (fun b=>own ι σf'.ob b∧ι k'≠some b) (ι k') (a.eval x) ((xs.map a.eval).toArray++us) hGw (fun b hb=>⟨own_lt hfz hb.1,hb.2⟩)
     (fun b hb=>by
       rcases hfz.base k' b hl hb with h1|h1
       ·exact Nat.le_trans (X.E.gz _ hG.1) h1
       ·exact hG.2 b h1)
     (dob_rw (ob:=σf'.ob) (ι:=ι) (k:=k') (fun b hb=>(congrFun hOeq b).mp hb) rfl (tyOf_tyOf t) (fun _ hc=>capOK_small (tyOf_lt t) hc.1) hob) hh (by rw [hOeq];simpa using hargs)
    rw [hOeq] at hc
    have hcv:a.eval fv=.func (.func f') #[] us:=hus
    have hlist:as.map a.eval++us=#[a.eval x]++((xs.map a.eval).toArray++us):=by
     apply Array.toList_inj.1
     simp [eas]
    have hrun:(execOp a.eval o).run X.E.P w=.ok (.enter f' (#[a.eval x]++((xs.map a.eval).toArray++us))) w:=by
     have hname':(fn.name == "runtime.NumGoroutine")=false:=hname
     have hname'':(fn.name == "runtime.NumGoroutine")≠true:=by rw [hname'];exact Bool.false_ne_true
     have hname3:¬ fn.name = "runtime.NumGoroutine" := fun e=>hname'' (by simp [e])
     have hbody':¬ fn.body=none:=fun e=>by simp [e] at hbody
     rw [← hlist]
     simp [execOp,ho,resolve,hcv,Deferred.ofValue,invoke,callFunc,hfn,hname3,hbody']
    unfold Oper.wp
    rw [hrun]
    refine hc.mono ?_
    rintro e w' ⟨v,rfl,he,hob',hhd',hv⟩
    refine hK _ _ ?_
    have hset:StI X.N w0 ι { σf' with ob:=σf'.ob.set k' (.rw t size es') } a w':=by
     cases hg:ι k' with
     | none =>
      have e0:es=[]:=by
       rcases hob.2 with h1|⟨g,cur,cap,h1,_⟩
       ·exact h1.2
       ·rw [hg] at h1;cases h1
      have e1:es'=es:=by subst e0;exact List.eq_nil_of_length_eq_zero (by simpa using hlen)
      have he':Ext noB w w':=he.weaken (fun b _ hb=>by rw [hg] at hb;cases hb)
      have:=hfz.ext he'
      rw [e1]
      have hs:σf'.ob.set k' (.rw t size es)=σf'.ob:=by
       have hlt:=hl.lt
       have:σf'.ob[k']=.rw t size es:=by
        have:=List.getElem?_eq_getElem hlt
        rw [hk] at this
        exact (Option.some.inj this).symm
       rw [← this,List.set_getElem_self]
      rw [hs]
      exact this
     | some g =>
      have he':Ext (·=g) w w':=he.weaken (fun b _ hb=>by rw [hg] at hb;injection hb with hb;exact hb.symm)
      refine hfz.set hk rfl rfl hg he' (fun t3 s3 e3 e=>?_) ?_ (fun t3 s3 e3 e=>by injection e with q1 q2 q3;exact ⟨size,es,by rw [q1]⟩)
      ·injection e with q1 q2 q3
       subst q1 q2 q3
       refine ⟨es',rfl,hlen,fun n u hu=>?_⟩
       rw [hlen] at hhd'
       exact hg ▸ hdr_same hsz hh hhd' (hg.symm ▸ hu)
      ·refine ⟨hsz,?_⟩
       rcases hob'.2 with h1'|⟨g2,cur',cap',h1',h2',h3',h4',h5',h6'⟩
       ·exact .inl h1'
       ·refine .inr ⟨g2,cur',cap',h1',by rw [← tyOf_tyOf];exact h2',h3',h4',?_,h6'⟩
        rcases hob.2 with h1|⟨g1,cur,cap,h1,h2,h3,h4,h5,_⟩
        ·rw [hg] at h1;cases h1.1
        ·have e1:=hdr_cap hsz h1 h2 h3 hh
         have e2:=hdr_cap hsz h1' h2' h3' hhd'
         rw [e1] at e2
         exact e2 ▸ h5
    exact ⟨ι,hset.putO (okD_lt hd) (by
     have hv':dat w' (own ι σf'.ob) r v:=hv
     have ho2:own ι (σf'.ob.set k' (.rw t size es'))=own ι σf'.ob:=own_set hk rfl rfl
     show dlv w' (own ι (σf'.ob.set k' (.rw t size es'))) ι _ r v
     rw [ho2]
     exact dlv_toData hrd hv')⟩
   ·cases hp
  ·cases hp
 ·cases hp
theorem wp_callA {K:Act→World→Prop} {Q:Exit→Act→World→Prop} {o:Oper} {fv:Operand} {as:Array Operand} {ts:Array Nat} {f:FuncId} {args:List LV} {σf:LS} {k:Nat} {t size:Nat} {es es':List (List DV)}
  (hG:GW X.E w0) (h:StI X.N w0 ι σ a w) (ho:o.op=.call ⟨.value fv,as,ts⟩) (hp:prepM X.E.T σ fv as.toList ts.toList=some (f,k,args,σf)) (hk:σf.ob[k]?=some (.rw t size es)) (hS:SpecA X.E f t size es args es') (hdat:args.all dataL=true) (hd:okD X.N o.dst=true)
  (hK:∀ a w',St X.N w0 (LS.putO ⟨mapSl (klR k) σf.sl,setOB (klR k) (.rw t size es') σf.ob k⟩ o.dst (.c (.os k))) a w'→K a w'):Oper.wp X.E.P o a w K Q:=by
 unfold prepM at hp
 split at hp
 ·rename_i x xs eas
  split at hp
  ·rename_i f' caps σf' hev hf
   split at hp
   ·rename_i k' hx
    injection hp with hp
    injection hp with e1 hp
    injection hp with e2 hp
    injection hp with e3 e4
    subst e1 e2 e3 e4
    have hfz:=fzs_sound h hf
    have hfv:=h.ev fv
    rw [hev] at hfv
    obtain ⟨us,hus,hcaps⟩:den w (own ι σ.ob) (.clo f' caps) (a.eval fv):=hfv
    rw [List.all_append,Bool.and_eq_true] at hdat
    have hO:∀ b,own ι σf'.ob b→own ι σ.ob b:=by
     intro b hb
     rcases hb with hb|⟨j,hl,hj⟩
     ·exact .inl hb
     ·exact .inr ⟨j,live_fzs hf hl,hj⟩
    have hcaps':denVs w (own ι σf'.ob) caps us.toList:=denVs_mono (M:=noB) ⟨Ext.refl _ _,fun _ _ h=>h.elim,fun b _ hb=>hO b hb⟩ _ _ hcaps
    have hargs:=dats_append (dats_nz hfz hdat.1) (dats_caps hcaps')
    have hxv:=hfz.ev x
    rw [hx] at hxv
    obtain ⟨t1,s1,es1,hk1,hh⟩:dcv w (own ι σf'.ob) ι σf'.ob (.os k') (a.eval x):=hxv
    rw [hk] at hk1
    injection hk1 with hk1
    injection hk1 with q1 q2 q3
    subst q1 q2 q3
    have hl:live σf'.ob k':=⟨_,hk,rfl⟩
    have hob:=hfz.objs k' _ hk
    have hOeq:(fun b=>(own ι σf'.ob b∧ι k'≠some b)∨ι k'=some b)=own ι σf'.ob:=by
     funext b
     apply propext
     constructor
     ·rintro (hb|hb)
      ·exact hb.1
      ·exact .inr ⟨k',hl,hb⟩
     ·intro hb
      by_cases e:ι k'=some b
      ·exact .inr e
      ·exact .inl ⟨hb,e⟩
    obtain ⟨⟨fn,hfn,hname,hbody⟩,htt,hcall⟩:=hS
    have hGw:X.E.G w:=hG.at h.below
    have hc:=hcall w (fun b=>own ι σf'.ob b∧ι k'≠some b) (ι k') (a.eval x) ((xs.map a.eval).toArray++us) hGw (fun b hb=>⟨own_lt hfz hb.1,hb.2⟩)
     (fun b hb=>by
       rcases hfz.base k' b hl hb with h1|h1
       ·exact Nat.le_trans (X.E.gz _ hG.1) h1
       ·exact hG.2 b h1)
     (dob_rw (ob:=σf'.ob) (ι:=ι) (k:=k') (fun b hb=>(congrFun hOeq b).mp hb) rfl rfl (fun _ hc=>hc) hob) hh (by rw [hOeq];simpa using hargs)
    have hcv:a.eval fv=.func (.func f') #[] us:=hus
    have hlist:as.map a.eval++us=#[a.eval x]++((xs.map a.eval).toArray++us):=by
     apply Array.toList_inj.1
     simp [eas]
    have hrun:(execOp a.eval o).run X.E.P w=.ok (.enter f' (#[a.eval x]++((xs.map a.eval).toArray++us))) w:=by
     have hname':(fn.name == "runtime.NumGoroutine")=false:=hname
     have hname'':(fn.name == "runtime.NumGoroutine")≠true:=by rw [hname'];exact Bool.false_ne_true
     have hname3:¬ fn.name = "runtime.NumGoroutine" := fun e=>hname'' (by simp [e])
     have hbody':¬ fn.body=none:=fun e=>by simp [e] at hbody
     rw [← hlist]
     simp [execOp,ho,resolve,hcv,Deferred.ofValue,invoke,callFunc,hfn,hname3,hbody']
    unfold Oper.wp
    rw [hrun]
    refine hc.mono ?_
    rintro e w' ⟨v,g',rfl,he,hg',hob',hhd'⟩
    have hreg:=hfz.regrow hk htt he hg' hob'
    exact hK _ _ ⟨_,hreg.putO (okD_lt hd) (v:=v) ⟨_,_,es',by rw [setOB_get,if_pos rfl,hk];rfl,by rw [upd_same];exact hhd'⟩⟩
   ·cases hp
  ·cases hp
 ·cases hp
end
open Go Go.RowKit
section
variable {X:Cx} {S:List Fr} {σ σ' τ:LS} {w0:W0} {a:Act} {w w':World} {ι:Io} {G:It→List Fr→LS→Prop}
theorem holds_does (hG:∀ it S σ,G it S σ→Holds X it S σ) {all:List Oper} {id:Nat} {o:Oper} {r:List Oper} {x:LV} (hd:okD X.N o.dst=true)
  (hg:G (.ops all id r) S (σ'.putO o.dst x)) (hw0:GW X.E w0) {ι':Io} (h:StI X.N w0 ι' σ' a w') {v:Value} (hv:dlv w' (own ι' σ'.ob) ι' σ'.ob x v)
  (hr:(execOp a.eval o).run X.E.P w=.ok (.value v) w'∨((execOp a.eval o).run X.E.P w=.ok .skip w'∧v=undef)) :
  Oper.wp X.E.P o a w (fun a w=>wpList X.E.P all.toArray (QS X w0 S) r a w) (QS X w0 S) :=
 wp_does hr (hG _ _ _ hg w0 hw0 _ _ ⟨ι',h.putO (okD_lt hd) hv⟩)
theorem stepE0_sound (hG:∀ it S σ,G it S σ→Holds X it S σ) {all:List Oper} {id:Nat} {o:Oper} {r:List Oper} (hd:okD X.N o.dst=true) (hs:stepE0 G X all id o r S σ)
  (hw0:GW X.E w0) (h:StI X.N w0 ι σ a w):Oper.wp X.E.P o a w (fun a w=>wpList X.E.P all.toArray (QS X w0 S) r a w) (QS X w0 S):=by
 unfold stepE0 ErP at hs
 split at hs
 ·rename_i p σ' x he
  obtain ⟨hp,hg⟩:=hs
  obtain ⟨ι',v,w',h1,h2,h3,_⟩:=eff_sound X.E.hT h he hp
  exact holds_does hG hd hg hw0 h2 h3 (h1 o rfl)
 ·exact hs.elim
theorem stepE_sound (hG:∀ it S σ,G it S σ→Holds X it S σ) {all:List Oper} {id:Nat} {o:Oper} {r:List Oper} (hd:okD X.N o.dst=true) (hs:stepE G X all id o r S σ)
  (hw0:GW X.E w0) (h:StI X.N w0 ι σ a w):Oper.wp X.E.P o a w (fun a w=>wpList X.E.P all.toArray (QS X w0 S) r a w) (QS X w0 S):=by
 unfold stepE WayP at hs
 cases hpx:X.E.px with
 | false=>rw [hpx] at hs;exact stepE0_sound hG hd hs hw0 h
 | true =>
  rw [hpx] at hs
  replace hs:stepX G X all id o r S σ:=hs
  unfold stepX at hs
  cases hr:effP X.E.T σ o.op with
  | none=>rw [hr] at hs;exact stepE0_sound hG hd hs hw0 h
  | some r =>
   rw [hr] at hs
   obtain ⟨ι',v,w',σ',x,h1,h2,h3,h4,_⟩:=px_sound X.E.hT h hr hs
   exact holds_does hG hd h4 hw0 h2 h3 (h1 o rfl)
theorem stepO_sound (hG:∀ it S σ,G it S σ→Holds X it S σ) {all:List Oper} {id:Nat} {o:Oper} {r:List Oper} (hd:okD X.N o.dst=true) (hs:stepO G X all id o r S σ)
  (hw0:GW X.E w0) (h:StI X.N w0 ι σ a w):Oper.wp X.E.P o a w (fun a w=>wpList X.E.P all.toArray (QS X w0 S) r a w) (QS X w0 S):=by
 unfold stepO at hs
 split at hs
 ·rename_i c x y ho
  split at hs
  ·rename_i b hb
   have hc:=h.ev c
   rw [hb] at hc
   have hc':a.eval c=.bool b:=hc.1
   cases b with
   | true=>exact holds_does hG hd (hs.1 rfl) hw0 h (h.ev x) (.inl (by simp only [execOp,ho,hc',asBool,Sem.run_bind,Sem.run_pure,Result.andThen_ok,if_true]))
   | false=>exact holds_does hG hd (hs.2 rfl) hw0 h (h.ev y) (.inl (by simp [execOp,ho,hc',asBool]))
  ·exact hs.elim
 ·rename_i fv as ts ho
  split at hs
  ·rename_i f args σf hp
   obtain ⟨res,hS,hdat,hg⟩:=hs
   exact wp_callR hw0 h ho hp hS hdat hd (fun a w _ hst=>hG _ _ _ hg w0 hw0 _ _ hst)
  ·exact hs.elim
 ·unfold QrP at hs
  split at hs
  ·rename_i p z hq
   obtain ⟨hp,hg⟩:=hs
   obtain ⟨v,h1,h2⟩:=q_sound X.E.hT h hq hp
   exact holds_does hG hd hg hw0 h h1 (.inl (h2 o rfl w (Ext.refl _ _)))
  ·exact stepE_sound hG hd hs hw0 h
theorem stepG_sound (hG:∀ it S σ,G it S σ→Holds X it S σ) {all:List Oper} {id:Nat} {o:Oper} {r:List Oper} (hd:okD X.N o.dst=true) (hs:stepG G X all id o r S σ)
  (hw0:GW X.E w0) (h:StI X.N w0 ι σ a w):wpList X.E.P all.toArray (QS X w0 S) (o::r) a w:=by
 unfold stepG at hs
 split at hs
 ·rename_i hgd
  exact wpList_run (wanted_none hgd) (stepO_sound hG hd hs hw0 h)
 ·rename_i j want hgd
  split at hs
  ·rename_i d hgs
   rw [GrP_eq] at hs
   have hskip:G (.ops all id r) S (σ.putO o.dst (.tu []))→wpList X.E.P all.toArray (QS X w0 S) r (a.put o.dst undef) w:=fun hg=>hG _ _ _ hg w0 hw0 _ _ ⟨ι,h.putO (okD_lt hd) undefL⟩
   split at hs
   ·rename_i b hb
    have hy:=gslot_yielded h hgs hb
    have hw:Region.wanted o (yielded all.toArray a.tmps)=(b == want):=by simp only [Region.wanted,hgd,hy];rfl
    cases want<;>cases b<;>simp only [cond_true,cond_false,BrP_true,BrP_false] at hs
    ·exact wpList_run hw (stepO_sound hG hd hs hw0 h)
    ·exact wpList_not hw (hskip hs)
    ·exact wpList_not hw (hskip hs)
    ·exact wpList_run hw (stepO_sound hG hd hs hw0 h)
   ·rename_i hb
    have hy:=gslot_undef h hgs hb
    exact wpList_not (by simp only [Region.wanted,hgd,hy];rfl) (hskip hs)
   ·exact hs.elim
  ·exact hs.elim
theorem stepN_sound (hG:∀ it S σ,G it S σ→Holds X it S σ) {all:List Oper} {id:Nat} {o:Oper} {r:List Oper} (hd:okD X.N o.dst=true) (hs:stepN G X all id o r S σ)
  (hw0:GW X.E w0) (h:StI X.N w0 ι σ a w):wpList X.E.P all.toArray (QS X w0 S) (o::r) a w:=by
 unfold stepN at hs
 split at hs
 ·rename_i fv as ts hgd ho
  cases hm:mutC X.E.muts fv with
  | false=>rw [hm,WayP_false] at hs;exact stepG_sound hG hd hs hw0 h
  | true =>
   rw [hm,WayP_true] at hs
   unfold stepM at hs
   split at hs
   ·rename_i f k args σf hp
    cases hgr:X.E.grows f with
    | false =>
     rw [hgr,WayP_false] at hs
     unfold CallM at hs
     split at hs
     ·rename_i t size es hk
      obtain ⟨es',rr,hS,hdat,hg⟩:=hs
      exact wpList_run (wanted_none hgd) (wp_callM hw0 h ho hp hk hS hdat hd (fun a w hst=>hG _ _ _ hg w0 hw0 _ _ hst))
     ·exact hs.elim
    | true =>
     rw [hgr,WayP_true] at hs
     unfold CallA at hs
     split at hs
     ·rename_i t size es hk
      obtain ⟨es',hS,hdat,hg⟩:=hs
      exact wpList_run (wanted_none hgd) (wp_callA hw0 h ho hp hk hS hdat hd (fun a w hst=>hG _ _ _ hg w0 hw0 _ _ hst))
     ·exact hs.elim
   ·split at hs
    ·rename_i f args σf hp
     rcases hs with ⟨t,size,es,hS,hdat,hg⟩|⟨rr,hS,hdat,hg⟩
     ·exact wpList_run (wanted_none hgd) (wp_callF hw0 h ho hp hS hdat hd (fun a w _ hst=>hG _ _ _ hg w0 hw0 _ _ hst))
     ·exact wpList_run (wanted_none hgd) (wp_callR hw0 h ho hp hS hdat hd (fun a w _ hst=>hG _ _ _ hg w0 hw0 _ _ hst))
    ·exact hs.elim
 ·rename_i op xT x y yT hgd ho
  unfold NrP at hs
  split at hs
  ·rename_i es ng hq
   have hx:=h.ev x
   have hy:=h.ev y
   unfold nilQ at hq
   split at hq
   ·rename_i sz es' e1 e2
    rw [e1] at hx;rw [e2] at hy
    obtain ⟨A,cap,ex,h1,h2,h3⟩:den w (own ι σ.ob) (.sl sz es') (a.eval x):=hx
    have ey:a.eval y=.slice none 0 0:=hy.1
    have hb:es'=es→A.isNone=true→es=[]:=fun e hA=>by
     subst e
     cases es' with
     | nil=>rfl
     | cons e es' =>
      obtain ⟨ad,hA',_⟩:=h3 (by simp)
      rw [hA'] at hA;cases hA
    have heq:∀ {ti:TI} {e:TypeId},X.E.T xT=some ti→ti.desc=.slice e→(Op.equal xT (.slice A es'.length cap) (.slice none 0 0)).run X.E.P w=.ok A.isNone w:=fun {ti e} hT hd=>by
     have hu:=(X.E.hT xT ti hT).und
     rw [hd] at hu
     obtain ⟨n,hn⟩:∃ n,Op.maxDepth=n+1:=⟨Op.maxDepth - 1,rfl⟩
     cases A<;>simp [Op.equal,hn,Op.equalIn,Go.run_underlying hu]
    split at hq
    ·rename_i hT
     simp only [Option.some.injEq,Prod.mk.injEq] at hq
     obtain ⟨q1,q2⟩:=hq
     subst q2
     refine wpList_run (wanted_none hgd) (holds_does hG hd (hs A.isNone (hb q1)) hw0 h ⟨rfl,rfl⟩ (.inl ?_))
     have hg:(eqGuard .eql xT x y (.slice A es'.length cap) (.slice none 0 0)).run X.E.P w=.ok () w:=rfl
     simp only [execOp,ho,ex,ey,Sem.run_bind,hg,binOp,Result.andThen_ok,heq hT rfl,Sem.run_pure]
     rfl
    ·rename_i hT
     simp only [Option.some.injEq,Prod.mk.injEq] at hq
     obtain ⟨q1,q2⟩:=hq
     subst q2
     refine wpList_run (wanted_none hgd) (holds_does hG hd (hs A.isNone (hb q1)) hw0 h ⟨rfl,rfl⟩ (.inl ?_))
     have hg:(eqGuard .neq xT x y (.slice A es'.length cap) (.slice none 0 0)).run X.E.P w=.ok () w:=rfl
     simp only [execOp,ho,ex,ey,Sem.run_bind,hg,binOp,Result.andThen_ok,heq hT rfl,Sem.run_pure]
     rfl
    ·cases hq
   ·cases hq
  ·exact stepG_sound hG hd hs hw0 h
 ·exact stepG_sound hG hd hs hw0 h
theorem go_sound:∀ (n:Nat) {it:It} {S:List Fr} {σ:LS},go n X it S σ→Holds X it S σ:=by
 intro n
 induction n with
 | zero=>intro it S σ h;exact h.elim
 | succ n ih =>
  intro it S σ hg w0 hw0 a w hst
  obtain ⟨ι,hst'⟩:=id hst
  cases it with
  | code c =>
   cases c with
   | seq x y=>exact wp_seq (ih hg w0 hw0 a w hst)
   | skip=>exact wp_skip (ih hg w0 hw0 a w hst)
   | region id ops dr =>
    cases dr with
    | false=>exact wp_region_list (ih hg w0 hw0 a w hst)
    | true=>exact hg w0 hw0 a w hst
   | cond c x y =>
    simp only [go] at hg
    split at hg
    ·rename_i b hb
     have hc:=hst'.ev c
     rw [hb] at hc
     have hc':a.eval c=.bool b:=hc.1
     refine wp_cond hc' ?_
     cases b with
     | true=>exact ih (hg.1 rfl) w0 hw0 a w hst
     | false=>exact ih (hg.2 rfl) w0 hw0 a w hst
    ·exact hg.elim
   | block id c=>exact wp_block (ih hg w0 hw0 a w hst)
   | loop c=>exact hg w0 hw0 a w hst
   | exit id=>exact wp_exit (ih hg w0 hw0 a w hst)
   | ret=>exact wp_ret (ih hg w0 hw0 a w hst)
   | _=>exact hg.elim
  | ops all id rest =>
   cases rest with
   | nil=>exact ih hg w0 hw0 a w (hst.trim _)
   | cons o r=>exact stepN_sound (fun _ _ _=>ih) hg.1 hg.2 hw0 hst'
  | nrm =>
   cases S with
   | nil=>exact ⟨σ,hst,hg⟩
   | cons f S =>
    cases f with
    | code y=>exact ih hg w0 hw0 a w hst
    | bl id=>exact ih hg w0 hw0 a w hst
    | lp R=>exact ⟨σ,hst,hg⟩
  | ex id =>
   cases S with
   | nil=>exact hg.elim
   | cons f S =>
    cases f with
    | code y=>exact ih (it:=.ex id) (S:=S) hg w0 hw0 a w hst
    | bl k =>
     have hg':bif id == k then go n X .nrm S σ else go n X (.ex id) S σ:=hg
     show (if id=k then QS X w0 S .normal a w else QS X w0 S (.exit id) a w)
     by_cases e:id=k
     ·rw [if_pos e]
      rw [show (id == k)=true by simpa using e,cond_true] at hg'
      exact ih hg' w0 hw0 a w hst
     ·rw [if_neg e]
      rw [show (id == k)=false by simpa using e,cond_false] at hg'
      exact ih hg' w0 hw0 a w hst
    | lp R=>exact ih (it:=.ex id) (S:=S) hg w0 hw0 a w hst
  | ret =>
   cases S with
   | nil=>exact ⟨σ,hst,hg⟩
   | cons f S=>cases f<;>exact ih (it:=.ret) (S:=S) hg w0 hw0 a w hst
/-! ### Weaker states -/
def Le (σ τ:LS):Prop:=∀ N w0 a w,St N w0 σ a w→St N w0 τ a w
theorem Le.refl (σ:LS):Le σ σ:=fun _ _ _ _ h=>h
theorem Le.trans {σ τ υ:LS} (h:Le σ τ) (k:Le τ υ):Le σ υ:=fun N w0 a w x=>k N w0 a w (h N w0 a w x)
def memS:List (Nat × LV)→Nat→LV→Prop
 | [],_,_=>False
 | (j,y)::r,i,x=>bif j == i then y=x else memS r i x
def leS (l:List (Nat × LV)):List (Nat × LV)→Prop
 | []=>True
 | (i,x)::r=>memS l i x∧leS l r
theorem memS_mem:∀ {l:List (Nat × LV)} {i:Nat} {x:LV},memS l i x→(i,x)∈l
 | (j,y)::r,i,x,h=>by
  simp only [memS] at h
  by_cases e:j=i
  ·subst e;rw [beq_self_eq_true,cond_true] at h;subst h;exact List.mem_cons_self
  ·rw [show (j == i)=false by simpa using e,cond_false] at h;exact List.mem_cons_of_mem _ (memS_mem h)
theorem leS_mem {l:List (Nat × LV)}:∀ {l':List (Nat × LV)},leS l l'→∀ p∈l',p∈l
 | [],_,p,h=>by cases h
 | (i,x)::r,h,p,hp=>by
  rcases List.mem_cons.1 hp with rfl|hp
  ·exact memS_mem h.1
  ·exact leS_mem h.2 p hp
theorem Le.sub {sl sl':List (Nat × LV)} {ob:List OB} (h:leS sl sl'):Le ⟨sl,ob⟩ ⟨sl',ob⟩:=fun _ _ _ _ ⟨ι,k⟩=>⟨ι,k.sub (leS_mem h)⟩
def refsC (n:Nat):CV→Bool
 | .op k _=>Nat.blt k n
 | .oe k _ _=>Nat.blt k n
 | .os k=>Nat.blt k n
 | .om k=>Nat.blt k n
 | _=>true
def refs1 (n:Nat):LV→Bool
 | .c c=>refsC n c
 | .ag cs=>cs.all (refsC n)
 | .tu _=>false
def refsLV (n:Nat):LV→Bool
 | .tu xs=>xs.all (refs1 n)
 | x=>refs1 n x
def refsO (n:Nat):OB→Bool
 | .bx _ cs=>cs.all (refsC n)
 | _=>true
theorem live_take {ob:List OB} {n k:Nat} (h:live (ob.take n) k):live ob k:=by
 obtain ⟨o,h1,h2⟩:=h
 rw [List.getElem?_take] at h1
 split at h1
 ·exact ⟨o,h1,h2⟩
 ·cases h1
theorem live_take' {ob:List OB} {n k:Nat} (h:live ob k) (hk:k<n):live (ob.take n) k:=by
 obtain ⟨o,h1,h2⟩:=h
 exact ⟨o,by rw [List.getElem?_take,if_pos hk];exact h1,h2⟩
theorem dcv_take {ob:List OB} {n:Nat} {O O':Nat→Prop} (hO:∀ b,O' b→O b) {c:CV} {u:Value} (hr:refsC n c=true) (h:dcv w O ι ob c u):dcv w O' ι (ob.take n) c u:=by
 have hs:Stays noB O O' w w:=⟨Ext.refl _ _,fun _ _ h=>h.elim,fun b _ hb=>hO b hb⟩
 cases c with
 | d x=>exact den_mono hs x u h
 | op k off=>obtain ⟨g,h1,h2⟩:=h;exact ⟨g,live_take' h1 (by simpa [refsC,Nat.blt_eq] using hr),h2⟩
 | oe k i off=>obtain ⟨g,t,size,es,h1,h2,h3⟩:=h;exact ⟨g,t,size,es,h1,by rw [List.getElem?_take,if_pos (by simpa [refsC,Nat.blt_eq] using hr)];exact h2,h3⟩
 | os k=>obtain ⟨t,size,es,h2,h3⟩:=h;exact ⟨t,size,es,by rw [List.getElem?_take,if_pos (by simpa [refsC,Nat.blt_eq] using hr)];exact h2,h3⟩
 | om k=>obtain ⟨g,h1,h2⟩:=h;exact ⟨g,live_take' h1 (by simpa [refsC,Nat.blt_eq] using hr),h2⟩
 | any=>exact h
theorem dcvs_takeO {ob:List OB} {n:Nat} {O O':Nat→Prop} (hO:∀ b,O' b→O b):∀ {cs:List CV} {us:List Value},cs.all (refsC n)=true→dcvs w O ι ob cs us→dcvs w O' ι (ob.take n) cs us
 | [],us,_,h=>h
 | c::cs,us,hc,h=>by
  simp only [List.all_cons,Bool.and_eq_true] at hc
  obtain ⟨u,r,rfl,h1,h2⟩:=h
  exact ⟨u,r,rfl,dcv_take hO hc.1 h1,dcvs_takeO hO hc.2 h2⟩
theorem dl1_takeO {ob:List OB} {n:Nat} {O O':Nat→Prop} (hO:∀ b,O' b→O b) {x:LV} {u:Value} (hc:refs1 n x=true) (h:dl1 w O ι ob x u):dl1 w O' ι (ob.take n) x u:=by
 cases x with
 | c c =>
  cases c with
  | any=>trivial
  | d x=>exact dcv_take (w:=w) (ι:=ι) (ob:=ob) (n:=n) (c:=.d x) hO hc h
  | op k off=>exact dcv_take (w:=w) (ι:=ι) (ob:=ob) (n:=n) (c:=.op k off) hO hc h
  | oe k i off=>exact dcv_take (w:=w) (ι:=ι) (ob:=ob) (n:=n) (c:=.oe k i off) hO hc h
  | os k=>exact dcv_take (w:=w) (ι:=ι) (ob:=ob) (n:=n) (c:=.os k) hO hc h
  | om k=>exact dcv_take (w:=w) (ι:=ι) (ob:=ob) (n:=n) (c:=.om k) hO hc h
 | ag cs=>obtain ⟨us,rfl,hd⟩:=h;exact ⟨us,rfl,dcvs_takeO hO hc hd⟩
 | tu xs=>cases hc
theorem dl1s_takeO {ob:List OB} {n:Nat} {O O':Nat→Prop} (hO:∀ b,O' b→O b):∀ {xs:List LV} {us:List Value},xs.all (refs1 n)=true→dl1s w O ι ob xs us→dl1s w O' ι (ob.take n) xs us
 | [],us,_,h=>h
 | x::xs,us,hc,h=>by
  simp only [List.all_cons,Bool.and_eq_true] at hc
  obtain ⟨u,r,rfl,h1,h2⟩:=h
  exact ⟨u,r,rfl,dl1_takeO hO hc.1 h1,dl1s_takeO hO hc.2 h2⟩
theorem dlv_takeO {ob:List OB} {n:Nat} {O O':Nat→Prop} (hO:∀ b,O' b→O b) {x:LV} {u:Value} (hc:refsLV n x=true) (h:dlv w O ι ob x u):dlv w O' ι (ob.take n) x u:=by
 cases x with
 | tu xs=>obtain ⟨us,rfl,hd⟩:=h;exact ⟨us,rfl,dl1s_takeO hO hc hd⟩
 | c c=>exact dl1_takeO (x:=.c c) hO hc h
 | ag cs=>exact dl1_takeO (x:=.ag cs) hO hc h
theorem Le.take {sl:List (Nat × LV)} {ob:List OB} (n:Nat) (h1:(sl.all fun p=>refsLV n p.2)=true) (h2:(ob.take n).all (refsO n)=true):Le ⟨sl,ob⟩ ⟨sl,ob.take n⟩:=by
 rintro N w0 a w ⟨ι,h⟩
 have hO:∀ b,own ι (ob.take n) b→own ι ob b:=fun b hb=>hb.imp id fun ⟨k,hl,hk⟩=>⟨k,live_take hl,hk⟩
 have hs:Stays noB (own ι ob) (own ι (ob.take n)) w w:=⟨Ext.refl _ _,fun _ _ h=>h.elim,fun b _ hb=>hO b hb⟩
 refine ⟨ι,h.defers,h.size,h.below,fun p hp=>?_,fun k o hk=>?_,fun k k' g hl hl'=>h.inj k k' g (live_take hl) (live_take hl'),fun k g hl=>h.base k g (live_take hl),h.out,fun k t size es hk ht=>by
  have hk':(ob.take n)[k]?=some (.rw t size es):=hk
  rw [List.getElem?_take] at hk'
  split at hk'
  ·exact h.pin k t size es hk' ht
  ·cases hk'⟩
 ·obtain ⟨v,hv,hd⟩:=h.slots p hp
  exact ⟨v,hv,dlv_takeO hO (List.all_eq_true.1 h1 p hp) hd⟩
 ·have hm:o∈ob.take n:=List.mem_of_getElem? hk
  have hr:=List.all_eq_true.1 h2 o hm
  have hk':(ob.take n)[k]?=some o:=hk
  rw [List.getElem?_take] at hk'
  split at hk'
  ·have hd:=h.objs k o hk'
   cases o with
   | bx t cs=>obtain ⟨g,us,e1,e2,e3⟩:=hd;exact ⟨g,us,e1,e2,dcvs_takeO hO hr e3⟩
   | rw t size es =>
    refine ⟨hd.1,?_⟩
    rcases hd.2 with e1|⟨g,cur,cap,e1,e2,e3,e4,e5,e6⟩
    ·exact .inl e1
    ·exact .inr ⟨g,cur,cap,e1,e2,e3,e4,e5,rdEs_mono' hs size es _ _ (Nat.le_refl _) (fun _ _=>rfl) e6⟩
   | mp es=>obtain ⟨g,ents,clk,e1,e2,e3⟩:=hd;exact ⟨g,ents,clk,e1,e2,dents_mono hs e3⟩
   | px t size g cap es =>
    obtain ⟨h0,h1,cur,h2,h3,h4,h5,h6⟩:=hd
    exact ⟨h0,h1,cur,h2,h3,h4,h5,rdEs_mono' hs size es _ _ (Nat.le_refl _) (fun _ _=>rfl) h6⟩
   | dead=>trivial
  ·cases hk'
/-! ### Loops -/
theorem LoopK.of {α:Type} {c:Code} (I:α→LS) (ok:α→Prop) (μ:α→Nat) (n:Nat) (a0:α) (h0:ok a0) (hle:Le σ (I a0))
  (hb:∀ x,ok x→go n X (.code c) (.lp (fun τ=>∃ y,ok y∧μ y<μ x∧Le τ (I y))::S) (I x)):LoopK X c S σ:=by
 intro w0 hw0 a w hst
 have key:∀ (m:Nat) (x:α) (a:Act) (w:World),μ x<m→ok x→St X.N w0 (I x) a w→Code.rounds X.E.P c (QS X w0 S) m a w:=by
  intro m
  induction m with
  | zero=>intro x a w hm;omega
  | succ m ih =>
   intro x a w hm hx hst
   rw [rounds_succ]
   have hc:Code.wp X.E.P c (QS X w0 (.lp (fun τ=>∃ y,ok y∧μ y<μ x∧Le τ (I y))::S)) a w:=go_sound n (hb x hx) w0 hw0 a w hst
   refine wp_mono hc ?_
   intro e a' w' hq
   cases e with
   | normal =>
    obtain ⟨τ,h1,y,h2,h3,h4⟩:=hq
    exact ih y a' w' (by omega) h2 (h4 _ _ _ _ h1)
   | _=>exact hq
 exact wp_loop_rounds (μ a0+1) (key _ a0 a w (Nat.lt_succ_self _) h0 (hle _ _ _ _ hst))
end
open Go Go.RowKit
theorem dlv_O {w:World} {ι:Io} {ob:List OB} {O O':Nat→Prop} (h:∀ b,O' b→O b) {x:LV} {u:Value} (hd:dlv w O ι ob x u):dlv w O' ι ob x u :=
 dlv_imp (fun _ _ hc=>dcv_ext (O:=O) ⟨Ext.refl noB w,fun _ _ h=>h.elim,fun b _ hb=>h b hb⟩ hc) hd
/-! ### What is handed back -/
def out1 (T:Tab) (τ:LS):ResultVar→QR
 | .tmp t=>.ok True (getS τ.sl t)
 | .cell a t=>qload T τ.ob t (getS τ.sl a)
inductive QRs where
 | ok (p:Prop) (xs:List LV)
 | no
def outs (T:Tab) (τ:LS):List ResultVar→QRs
 | []=>.ok True []
 | r::rs=>match out1 T τ r,outs T τ rs with
  | .ok p x,.ok p' xs=>.ok (p∧p') (x::xs)
  | _,_=>.no
def pack:List LV→LV
 | [x]=>x
 | xs=>.tu xs
def nzOuts (T:Tab):List Nat→List LV→List LV
 | t::ts,x::xs=>nzL (nilsOf T 4 t) x::nzOuts T ts xs
 | _,xs=>xs
def outRefs (T:Tab) (τ:LS) (rs:List ResultVar):List Nat:=match outs T τ rs with
 | .ok _ xs=>xs.flatMap (refL τ.ob)
 | .no=>[]
def Res (T:Tab) (rs:List ResultVar) (ts:List Nat) (r:LV) (τ:LS):Prop :=
 match fzs τ (outRefs T τ rs) with
 | some τ'=>match outs T τ' rs with
  | .ok p xs=>p∧pack (nzOuts T ts xs)=r
  | .no=>False
 | none=>False
def numS:Nat→List LV→List (Nat × LV)
 | _,[]=>[]
 | i,x::xs=>(i,x)::numS (i+1) xs
section
variable {T:Tab} {σ σ' τ:LS} {w0:W0} {a:Act} {w w':World} {ι:Io}
theorem dats_slots {E:Nat→Prop}:∀ {xs:List LV} {us:List Value},dats w E xs us→∀ (i:Nat) (tm:List Value) (p:Nat × LV),p∈numS i xs→tm.length=i→∃ v,(tm++us)[p.1]?=some v∧dat w E p.2 v
 | [],us,_,i,tm,p,hp,_=>by simp [numS] at hp
 | x::xs,us,h,i,tm,p,hp,ht=>by
  obtain ⟨u,r,rfl,h1,h2⟩:=h
  rcases List.mem_cons.1 hp with rfl|hp
  ·exact ⟨u,by simp [← ht],h1⟩
  ·have:=dats_slots h2 (i+1) (tm++[u]) p hp (by simp [ht])
   simpa using this
theorem dats_length {E:Nat→Prop}:∀ {xs:List LV} {us:List Value},dats w E xs us→us.length=xs.length
 | [],us,h=>by simp only [dats] at h;subst h;rfl
 | x::xs,us,h=>by obtain ⟨u,r,rfl,h1,h2⟩:=h;simp [dats_length h2]
theorem entry {E:Nat→Prop} {N:Nat} {args:List LV} {us:Array Value} (hE:∀ g,E g→g<w.heap.size) (h:dats w E args us.toList) (hl:args.length≤N) :
  StI N ⟨w,E,noB,fun _=>none⟩ (none0 E) ⟨numS 0 args,[]⟩ { tmps:=us++Array.replicate (N - us.size) undef,defers:=[] } w:=by
 have hlen:us.size=args.length:=by simpa using dats_length h
 have ho:own (none0 E) []=E:=by
  funext g
  apply propext
  constructor
  ·rintro (h|⟨k,⟨o,hk,_⟩,_⟩)
   ·exact h
   ·simp at hk
  ·exact .inl
 refine ⟨rfl,by simp;omega,Ext.refl _ _,fun p hp=>?_,fun k o hk=>by simp at hk,fun k k' g hl=>?_,fun k g hl=>?_,⟨rfl,fun g hg=>⟨hE g hg,id⟩⟩,fun k t size es hk=>by simp at hk⟩
 ·obtain ⟨v,h1,h2⟩:=dats_slots h 0 [] p hp rfl
  refine ⟨v,?_,by rw [ho];exact h2⟩
  have hlt:=(List.getElem?_eq_some_iff.1 h1).1
  simp only [List.nil_append,Array.length_toList] at hlt
  show (us++Array.replicate (N - us.size) undef)[p.1]?=some v
  rw [Array.getElem?_append_left hlt]
  simpa using h1
 ·obtain ⟨o,hk,_⟩:=hl;simp at hk
 ·obtain ⟨o,hk,_⟩:=hl;simp at hk
theorem out1_sound {P:Program} {N:Nat} (hT:okT P T) (h:StI N w0 ι τ a w) {rv:ResultVar} {p:Prop} {x:LV} (hq:out1 T τ rv=.ok p x) (hp:p) (hN:∀ t,rv=.tmp t→t<N) (hN':∀ t ty,rv=.cell t ty→t<N) :
  ∃ v,(match rv with
   | .tmp t=>pure (a.tmps.getD t undef)
   | .cell a' t=>do
    let __do_lift ← asAddr (a.tmps.getD a' undef)
    loadVar t __do_lift:Sem Value).run P w=.ok v w∧dlv w (own ι τ.ob) ι τ.ob x v:=by
 cases rv with
 | tmp t =>
  injection hq with h1 h2
  subst h1 h2
  exact ⟨_,by simp,h.get (hN t rfl)⟩
 | cell t ty =>
  obtain ⟨ad,v,h1,_,h2,h3⟩:=qload_sound hT h hq hp (h.get (hN' t ty rfl))
  refine ⟨v,?_,h2⟩
  have h4:Array.getD a.tmps t undef=.pointer (some ad):=h1
  have h5:Sem.run P (loadVar ty ad) w=.ok v w:=h3 w (fun _=>rfl)
  show Sem.run P (do
    let __do_lift ← asAddr (Array.getD a.tmps t undef)
    loadVar ty __do_lift) w=_
  rw [h4]
  simpa [asAddr] using h5
def runOut (a:Act):ResultVar→Sem Value
 | .tmp t=>pure (a.tmps.getD t undef)
 | .cell a' t=>do loadVar t (← asAddr (a.tmps.getD a' undef))
theorem out1_run {P:Program} {N:Nat} (hT:okT P T) (h:StI N w0 ι τ a w) {rv:ResultVar} {p:Prop} {x:LV} (hq:out1 T τ rv=.ok p x) (hp:p) (hN:∀ t,rv=.tmp t→t<N) (hN':∀ t ty,rv=.cell t ty→t<N) :
  ∃ v,(runOut a rv).run P w=.ok v w∧dlv w (own ι τ.ob) ι τ.ob x v:=by
 obtain ⟨v,h1,h2⟩:=out1_sound hT h hq hp hN hN'
 refine ⟨v,?_,h2⟩
 cases rv<;>exact h1
def dlvs (w:World) (O:Nat→Prop) (ι:Io) (ob:List OB):List LV→List Value→Prop
 | [],us=>us=[]
 | c::cs,us=>∃ u r,us=u::r∧dlv w O ι ob c u∧dlvs w O ι ob cs r
def okRv (N:Nat):ResultVar→Bool
 | .tmp t=>Nat.blt t N
 | .cell t _=>Nat.blt t N
theorem outs_sound {P:Program} {N:Nat} (hT:okT P T) (h:StI N w0 ι τ a w):∀ {rs:List ResultVar} {p:Prop} {xs:List LV},outs T τ rs=.ok p xs→p→rs.all (okRv N)=true →
  ∃ vs:List Value,(rs.mapM (runOut a)).run P w=.ok vs w∧dlvs w (own ι τ.ob) ι τ.ob xs vs
 | [],p,xs,hq,hp,hN=>by
  injection hq with h1 h2
  subst h1 h2
  exact ⟨[],by simp,rfl⟩
 | rv::rs,p,xs,hq,hp,hN=>by
  simp only [outs] at hq
  split at hq
  ·rename_i p1 x1 p2 xs2 e1 e2
   injection hq with h1 h2
   subst h1 h2
   simp only [List.all_cons,Bool.and_eq_true] at hN
   obtain ⟨v,k1,k2⟩:=out1_run hT h e1 hp.1 (fun t e=>by subst e;simpa [okRv,Nat.blt_eq] using hN.1) (fun t ty e=>by subst e;simpa [okRv,Nat.blt_eq] using hN.1)
   obtain ⟨vs,k3,k4⟩:=outs_sound hT h e2 hp.2 hN.2
   exact ⟨v::vs,by simp [List.mapM_cons,k1,k3],v,vs,rfl,k2,k4⟩
  ·cases hq
theorem dlvs_length {O:Nat→Prop} {ob:List OB}:∀ {xs:List LV} {us:List Value},dlvs w O ι ob xs us→us.length=xs.length
 | [],us,h=>by simp only [dlvs] at h;subst h;rfl
 | x::xs,us,h=>by obtain ⟨u,r,rfl,h1,h2⟩:=h;simp [dlvs_length h2]
theorem nzOuts_dlvs {O:Nat→Prop} {ob:List OB}:∀ {ts:List Nat} {xs:List LV} {us:List Value},dlvs w O ι ob xs us→dlvs w O ι ob (nzOuts T ts xs) us
 | [],xs,us,h=>by cases xs<;>exact h
 | t::ts,[],us,h=>h
 | t::ts,x::xs,us,h=>by
  obtain ⟨u,r,rfl,h1,h2⟩:=h
  exact ⟨u,r,rfl,nzL_dlv h1,nzOuts_dlvs h2⟩
theorem dl1s_of_dlvs {O:Nat→Prop} {ob:List OB}:∀ {xs:List LV} {us:List Value},xs.all data1=true→dlvs w O ι ob xs us→dl1s w O ι ob xs us
 | [],us,_,h=>h
 | x::xs,us,hd,h=>by
  simp only [List.all_cons,Bool.and_eq_true] at hd
  obtain ⟨u,r,rfl,h1,h2⟩:=h
  refine ⟨u,r,rfl,?_,dl1s_of_dlvs hd.2 h2⟩
  cases x with
  | c c=>exact h1
  | ag cs=>exact h1
  | tu xs=>cases hd.1
theorem pack_sound {O:Nat→Prop} {ob:List OB} {xs:List LV} {vs:List Value} (hd:dataL (pack xs)=true) (h:dlvs w O ι ob xs vs) :
  dlv w O ι ob (pack xs) (if h:vs.length=1 then vs[0] else .tuple vs.toArray):=by
 have hl:=dlvs_length h
 match xs,h,hd,hl with
 | [x],h,hd,hl =>
  obtain ⟨u,r,rfl,h1,h2⟩:=h
  simp only [dlvs] at h2
  subst h2
  simpa [pack] using h1
 | [],h,hd,hl =>
  simp only [dlvs] at h
  subst h
  exact ⟨#[],rfl,rfl⟩
 | x::y::xs,h,hd,hl =>
  have:¬ vs.length=1:=by simp [hl]
  rw [dif_neg this]
  exact ⟨_,rfl,dl1s_of_dlvs hd (by simpa using h)⟩
theorem Spec.of_go {V:Env} {f:FuncId} {fn:Func} {c:Code} {args:List LV} {r:LV} {L:Nat→Option (List Nat)} (n:Nat)
  (hf:V.P.funcs[f]?=some fn) (hb:fn.body=some c) (hname:(fn.name == "runtime.NumGoroutine")=false)
  (hN:(args.length≤fn.ntmps)∧fn.results.toList.all (okRv fn.ntmps)=true) (hr:dataL r=true)
  (hg:go n ⟨V,fn.ntmps,Res V.T fn.results.toList fn.resultTypes.toList r,L⟩ (.code c) [] ⟨numS 0 args,[]⟩):Spec V f args r:=by
 refine ⟨⟨fn,hf,hname,by simp [hb]⟩,hr,fun w E us hG hE hd=>?_⟩
 refine calls_of_wp hf hb ?_
 have hst:=entry hE hd hN.1
 have hw:Code.wp V.P c (QS ⟨V,fn.ntmps,Res V.T fn.results.toList fn.resultTypes.toList r,L⟩ ⟨w,E,noB,fun _=>none⟩ []) _ w:=go_sound n hg ⟨w,E,noB,fun _=>none⟩ ⟨hG,fun _ h=>h.elim⟩ _ w ⟨_,hst⟩
 refine wp_mono hw ?_
 have key:∀ (a:Act) (w':World),(∃ τ,St fn.ntmps ⟨w,E,noB,fun _=>none⟩ τ a w'∧Res V.T fn.results.toList fn.resultTypes.toList r τ) →
   a.defers=[]∧∃ v,Sem.run V.P (results fn a.tmps) w'=.ok v w'∧∃ v',Ending.returned v=.returned v'∧Ext noB w w'∧dat w' E r v':=by
  rintro a w' ⟨τ,⟨ι,hτ⟩,hres⟩
  unfold Res at hres
  split at hres
  ·rename_i τ' hfz
   split at hres
   ·rename_i p xs hout
    obtain ⟨hp,rfl⟩:=hres
    have hτ':=fzs_sound hτ hfz
    obtain ⟨vs,k1,k2⟩:=outs_sound V.hT hτ' hout hp hN.2
    refine ⟨hτ.defers,if h:vs.length=1 then vs[0] else .tuple vs.toArray,?_,_,rfl,hτ.below,?_⟩
    ·have e:(results fn a.tmps)=(do
       let vs ← Array.mapM (runOut a) fn.results
       pure (if h:vs.size=1 then vs[0] else Value.tuple vs)):=by
      unfold results
      congr 1
     rw [e,Array.mapM_eq_mapM_toList]
     simp [k1]
    ·have k3:=pack_sound hr (nzOuts_dlvs (T:=V.T) (ts:=fn.resultTypes.toList) k2)
     have k4:dlv w' E (none0 E) [] (pack (nzOuts V.T fn.resultTypes.toList xs)) _:=dlv_toData hr (dlv_O (fun b hb=>.inl (by rw [hτ'.out.1];exact hb)) k3)
     exact k4
   ·exact hres.elim
  ·exact hres.elim
 intro e a w' hq
 cases e with
 | normal=>exact key a w' hq
 | ret=>exact key a w' hq
 | _=>exact hq.elim
/-! ### A function that gives a new row of its own -/
def ResR (T:Tab) (rs:List ResultVar) (t size:Nat) (es:List (List DV)) (τ:LS):Prop :=
 match outs T τ rs with
 | .ok p [.c (.os k)]=>p∧τ.ob[k]?=some (.rw t size es)
 | _=>False
theorem SpecR.of_go {V:Env} {f:FuncId} {fn:Func} {c:Code} {args:List LV} {t size:Nat} {es:List (List DV)} {L:Nat→Option (List Nat)} (n:Nat)
  (hf:V.P.funcs[f]?=some fn) (hb:fn.body=some c) (hname:(fn.name == "runtime.NumGoroutine")=false)
  (hN:(args.length≤fn.ntmps)∧fn.results.toList.all (okRv fn.ntmps)=true) (ht:t<1000000)
  (hg:go n ⟨V,fn.ntmps,ResR V.T fn.results.toList t size es,L⟩ (.code c) [] ⟨numS 0 args,[]⟩):SpecR V f args t size es:=by
 refine ⟨⟨fn,hf,hname,by simp [hb]⟩,ht,fun w E us hG hE hd=>?_⟩
 refine calls_of_wp hf hb ?_
 have hst:=entry hE hd hN.1
 have hw:Code.wp V.P c (QS ⟨V,fn.ntmps,ResR V.T fn.results.toList t size es,L⟩ ⟨w,E,noB,fun _=>none⟩ []) _ w:=go_sound n hg ⟨w,E,noB,fun _=>none⟩ ⟨hG,fun _ h=>h.elim⟩ _ w ⟨_,hst⟩
 refine wp_mono hw ?_
 have key:∀ (a:Act) (w':World),(∃ τ,St fn.ntmps ⟨w,E,noB,fun _=>none⟩ τ a w'∧ResR V.T fn.results.toList t size es τ) →
   a.defers=[]∧∃ v,Sem.run V.P (results fn a.tmps) w'=.ok v w'∧∃ v' g,Ending.returned v=.returned v'∧Ext noB w w'∧(∀ b,g=some b→w.heap.size≤b)∧dob w' (fun b=>E b∨g=some b) ⟨fun _=>g,E⟩ [] 0 (.rw t size es)∧hdr w' g size es.length v':=by
  rintro a w' ⟨τ,⟨ι,hτ⟩,hres⟩
  unfold ResR at hres
  split at hres
  ·rename_i p k hout
   obtain ⟨hp,hk⟩:=hres
   obtain ⟨vs,k1,k2⟩:=outs_sound V.hT hτ hout hp hN.2
   have hlen:=dlvs_length k2
   simp only [List.length_cons,List.length_nil] at hlen
   obtain ⟨v,r,rfl,hv,hr⟩:=k2
   simp only [dlvs] at hr
   subst hr
   obtain ⟨t1,s1,e1,hk1,hh⟩:=hv
   rw [hk] at hk1
   injection hk1 with hk1
   injection hk1 with q1 q2 q3
   subst q1 q2 q3
   have hl:live τ.ob k:=⟨_,hk,rfl⟩
   refine ⟨hτ.defers,v,?_,v,ι k,rfl,hτ.below,fun b hb=>?_,?_,hh⟩
   ·have e:(results fn a.tmps)=(do
       let vs ← Array.mapM (runOut a) fn.results
       pure (if h:vs.size=1 then vs[0] else Value.tuple vs)):=by
     unfold results
     congr 1
    rw [e,Array.mapM_eq_mapM_toList]
    simp [k1]
   ·rcases hτ.base k b hl hb with h1|h1
    ·exact h1
    ·exact h1.elim
   ·refine dob_rw (ob:=τ.ob) (ι:=ι) (k:=k) (fun b hb=>?_) rfl rfl (fun _ h=>h) (hτ.objs k _ hk)
    rcases hb with hb|hb
    ·exact .inl (by rw [hτ.out.1];exact hb)
    ·exact .inr ⟨k,hl,hb⟩
  ·exact hres.elim
 intro e a w' hq
 cases e with
 | normal=>exact key a w' hq
 | ret=>exact key a w' hq
 | _=>exact hq.elim
/-! ### A function that writes to the row that it is handed first -/
def pinT (c t:Nat):Nat:=1000000*(c+1)+t
theorem tyOf_pinT (c t:Nat):tyOf (pinT c t)=tyOf t:=by unfold tyOf pinT;omega
theorem pinT_le (c t:Nat):1000000≤pinT c t:=by unfold pinT;omega
def ResM (T:Tab) (rs:List ResultVar) (ts:List Nat) (t size:Nat) (es':List (List DV)) (r:LV) (τ:LS):Prop :=
 match fzs τ (outRefs T τ rs) with
 | some τ'=>τ'.ob[0]?=some (.rw t size es')∧(match outs T τ' rs with
  | .ok p xs=>p∧pack (nzOuts T ts xs)=r
  | .no=>False)
 | none=>False
theorem numS_fst {p:Nat × LV}:∀ {xs:List LV} {i:Nat},p∈numS i xs→i≤p.1
 | [],i,h=>by simp [numS] at h
 | x::xs,i,h=>by
  rcases List.mem_cons.1 h with rfl|h
  ·exact Nat.le_refl _
  ·have:=numS_fst (i:=i+1) h;omega
theorem SpecM.of_go {V:Env} {f:FuncId} {fn:Func} {c:Code} {t size:Nat} {es:List (List DV)} {args:List LV} {es':List (List DV)} {r:LV} {L:Nat→Option (List Nat)} (n:Nat)
  (hf:V.P.funcs[f]?=some fn) (hb:fn.body=some c) (hname:(fn.name == "runtime.NumGoroutine")=false)
  (hN:(args.length+1≤fn.ntmps)∧fn.results.toList.all (okRv fn.ntmps)=true) (hr:dataL r=true) (hlen:es'.length=es.length) (ht:t<1000000)
  (hg:∀ cp,go n ⟨V,fn.ntmps,ResM V.T fn.results.toList fn.resultTypes.toList (pinT cp t) size es' r,L⟩ (.code c) [] ⟨(0,.c (.os 0))::numS 1 args,[.rw (pinT cp t) size es]⟩):SpecM V f t size es args es' r:=by
 refine ⟨⟨fn,hf,hname,by simp [hb]⟩,hr,hlen,fun w E g u us hG hE hgb hob hh hd=>?_⟩
 refine calls_of_wp hf hb ?_
 have hsz:=hob.1
 have hty:=tyOf_small ht
 generalize hX:(fun cp=>(⟨V,fn.ntmps,ResM V.T fn.results.toList fn.resultTypes.toList (pinT cp t) size es' r,L⟩:Cx))=X
 have hXE:∀ cp,(X cp).E=V:=fun cp=>by rw [← hX]
 obtain ⟨cp,hcp⟩:∃ cp,∀ (w':World) (O:Nat→Prop) (ι:Io) (ob:List OB),ι 0=g→dob w' O ι ob 0 (.rw t size es)→hdr w' g size es.length u→dob w' O ι ob 0 (.rw (pinT cp t) size es):=by
  refine ⟨capU u,fun w' O ι ob hι hob hh=>⟨hsz,?_⟩⟩
  rcases hob.2 with h1|⟨b,cur,cap,h1,h2,h3,h4,h5,h6⟩
  ·exact .inl h1
  ·refine .inr ⟨b,cur,cap,h1,by rw [tyOf_pinT];exact h2,h3,h4,⟨h5.1,fun _=>?_⟩,h6⟩
   have:=hdr_cap hsz (hι.symm.trans h1) h2 h3 hh
   rw [this]
   unfold pinT
   omega
 have hO:own ⟨fun k=>if k=0 then g else none,E⟩ [OB.rw (pinT cp t) size es]=fun b=>E b∨g=some b:=by
  funext b
  apply propext
  constructor
  ·rintro (h|⟨k,⟨o,hk,_⟩,hi⟩)
   ·exact .inl h
   ·have:k=0:=by
     have:=(List.getElem?_eq_some_iff.1 hk).1
     simp at this;exact this
    subst this
    exact .inr (by simpa using hi)
  ·rintro (h|h)
   ·exact .inl h
   ·exact .inr ⟨0,⟨_,rfl,rfl⟩,by simpa using h⟩
 have hlen2:us.size=args.length:=by simpa using dats_length hd
 have hst:StI fn.ntmps ⟨w,E,fun b=>g=some b,fun _=>g⟩ ⟨fun k=>if k=0 then g else none,E⟩ ⟨(0,.c (.os 0))::numS 1 args,[.rw (pinT cp t) size es]⟩ { tmps:=(#[u]++us)++Array.replicate (fn.ntmps - (#[u]++us).size) undef,defers:=[] } w:=by
  refine ⟨rfl,by simp;omega,Ext.refl _ _,fun p hp=>?_,fun k o hk=>?_,fun k k' b hl hl' _ _=>?_,fun k b hl hi=>?_,⟨rfl,fun b hb=>⟨(hE b hb).1,(hE b hb).2⟩⟩,fun k t' s' e' hk ht'=>?_⟩
  ·rcases List.mem_cons.1 hp with rfl|hp
   ·refine ⟨u,(by rw [Array.append_assoc];exact (Array.getElem?_append_left (by simp)).trans rfl),pinT cp t,size,es,rfl,?_⟩
    exact hh
   ·obtain ⟨v,h1,h2⟩:=dats_slots hd 1 [u] p hp rfl
    have hge:=numS_fst hp
    have hlt:=(List.getElem?_eq_some_iff.1 h1).1
    refine ⟨v,?_,?_⟩
    ·show ((#[u]++us)++Array.replicate (fn.ntmps - (#[u]++us).size) undef)[p.1]?=some v
     rw [Array.getElem?_append_left (by simp at hlt ⊢;omega)]
     have:(#[u]++us)[p.1]?=(#[u]++us).toList[p.1]?:=(Array.getElem?_toList).symm
     rw [this]
     simpa using h1
    ·rw [hO]
     exact dlv_imp (fun c u hc=>by
      cases c with
      | d x=>exact hc
      | op k off=>obtain ⟨_,⟨o,hk,_⟩,_⟩:=hc;simp at hk
      | oe k i off=>obtain ⟨_,_,_,_,_,hk,_⟩:=hc;simp at hk
      | os k=>obtain ⟨_,_,_,hk,_⟩:=hc;simp at hk
      | om k=>obtain ⟨_,⟨o,hk,_⟩,_⟩:=hc;simp at hk
      | any=>exact hc) h2
  ·have:k=0:=by
    have:=(List.getElem?_eq_some_iff.1 hk).1
    simp at this;exact this
   subst this
   simp at hk
   subst hk
   rw [hO]
   exact hcp w _ _ _ (by simp) (dob_rw (ob:=[]) (ι:=⟨fun _=>g,E⟩) (k:=0) (fun _ h=>h) (by simp) rfl (fun _ h=>h) hob) hh
  ·have h1:=hl.lt;have h2:=hl'.lt;simp at h1 h2;omega
  ·have h1:=hl.lt;simp at h1;subst h1
   exact .inr (by simpa using hi)
  ·have:k=0:=by
    have:=(List.getElem?_eq_some_iff.1 hk).1
    simp at this;exact this
   subst this
   simp
 have hw:Code.wp V.P c (QS (X cp) ⟨w,E,fun b=>g=some b,fun _=>g⟩ []) { tmps:=(#[u]++us)++Array.replicate (fn.ntmps - (#[u]++us).size) undef,defers:=[] } w:=by
  have h0:=hg cp
  have:=go_sound n h0 ⟨w,E,fun b=>g=some b,fun _=>g⟩ ⟨hG,hgb⟩ _ w ⟨_,hst⟩
  rw [← hX]
  exact this
 refine wp_mono hw ?_
 have key:∀ (a:Act) (w':World),(∃ τ,St fn.ntmps ⟨w,E,fun b=>g=some b,fun _=>g⟩ τ a w'∧ResM V.T fn.results.toList fn.resultTypes.toList (pinT cp t) size es' r τ) →
   a.defers=[]∧∃ v,Sem.run V.P (results fn a.tmps) w'=.ok v w'∧∃ v',Ending.returned v=.returned v'∧Ext (fun b=>g=some b) w w'∧dob w' (fun b=>E b∨g=some b) ⟨fun _=>g,E⟩ [] 0 (.rw t size es')∧hdr w' g size es'.length u∧dat w' (fun b=>E b∨g=some b) r v':=by
  rintro a w' ⟨τ,⟨ι,hτ⟩,hres⟩
  unfold ResM at hres
  split at hres
  ·rename_i τ' hfz
   obtain ⟨hrow,hres⟩:=hres
   split at hres
   ·rename_i p xs hout
    obtain ⟨hp,rfl⟩:=hres
    have hτ':=fzs_sound hτ hfz
    obtain ⟨vs,k1,k2⟩:=outs_sound V.hT hτ' hout hp hN.2
    have hι:ι 0=g:=hτ'.pin 0 _ _ _ hrow (pinT_le _ _)
    have hown:∀ b,(E b∨g=some b)→own ι τ'.ob b:=by
     rintro b (hb|hb)
     ·exact .inl (by rw [hτ'.out.1];exact hb)
     ·exact .inr ⟨0,⟨_,hrow,rfl⟩,hι.trans hb⟩
    have hro:=hτ'.objs 0 _ hrow
    have hrow2:dob w' (fun b=>E b∨g=some b) ⟨fun _=>g,E⟩ [] 0 (.rw t size es') :=
     dob_rw (ob:=τ'.ob) (ι:=ι) (k:=0) hown hι.symm (by rw [tyOf_pinT]) (fun c hc=>capOK_small ht hc.1) hro
    refine ⟨hτ.defers,if h:vs.length=1 then vs[0] else .tuple vs.toArray,?_,_,rfl,hτ.below,hrow2,?_,?_⟩
    ·have e:(results fn a.tmps)=(do
       let vs ← Array.mapM (runOut a) fn.results
       pure (if h:vs.size=1 then vs[0] else Value.tuple vs)):=by
      unfold results
      congr 1
     rw [e,Array.mapM_eq_mapM_toList]
     simp [k1]
    ·have hobp:=hcp w _ ⟨fun _=>g,E⟩ [] rfl hob hh
     rcases hh with ⟨h1,h2,h3⟩|⟨b,cur,cap,t0,h1,h2,h3,h4,h5,h6⟩
     ·refine .inl ⟨h1,by omega,h3⟩
     ·rcases hro.2 with q1|⟨b',cur',cap',q1,q2,q3,q4,q5,q6⟩
      ·rw [hι,h1] at q1;cases q1.1
      ·have eb:b=b':=by
        have:ι 0=some b':=q1
        rw [hι,h1] at this
        exact Option.some.inj this
       subst eb
       have hc1:cap'+1=pinT cp t / 1000000:=q5.2 (pinT_le _ _)
       rcases hobp.2 with r1|⟨b2,cur2,cap2,r1,r2,r3,r4,r5,r6⟩
       ·have:g=none:=r1.1
        rw [h1] at this;cases this
       ·have hc2:cap2+1=pinT cp t / 1000000:=r5.2 (pinT_le _ _)
        have e2:cap2=cap:=by
         have:=hdr_cap (u:=u) (n:=es.length) hsz (show g=some b2 from r1) r2 r3 (.inr ⟨b,cur,cap,t0,h1,h2,h3,h4,h5,h6⟩)
         rw [h6] at this
         exact this.symm
        exact .inr ⟨b,cur',cap,_,h1,q2,by rw [q3];congr 1;omega,by omega,h5,by rw [hlen];exact h6⟩
    ·have k3:=pack_sound hr (nzOuts_dlvs (T:=V.T) (ts:=fn.resultTypes.toList) k2)
     exact dlv_toData hr (dlv_O hown k3)
   ·exact hres.elim
  ·exact hres.elim
 rw [← hX]
 intro e a w' hq
 cases e with
 | normal=>exact key a w' hq
 | ret=>exact key a w' hq
 | _=>exact hq.elim
/-! ### A function that appends to the row that it is handed first -/
def ResA (T:Tab) (rs:List ResultVar) (t size:Nat) (es':List (List DV)) (τ:LS):Prop :=
 match outs T τ rs with
 | .ok p [.c (.os 0)]=>p∧τ.ob[0]?=some (.rw t size es')
 | _=>False
theorem SpecA.of_go {V:Env} {f:FuncId} {fn:Func} {c:Code} {t size:Nat} {es:List (List DV)} {args:List LV} {es':List (List DV)} {L:Nat→Option (List Nat)} (n:Nat)
  (hf:V.P.funcs[f]?=some fn) (hb:fn.body=some c) (hname:(fn.name == "runtime.NumGoroutine")=false)
  (hN:(args.length+1≤fn.ntmps)∧fn.results.toList.all (okRv fn.ntmps)=true) (ht:t<1000000)
  (hg:go n ⟨V,fn.ntmps,ResA V.T fn.results.toList t size es',L⟩ (.code c) [] ⟨(0,.c (.os 0))::numS 1 args,[.rw t size es]⟩):SpecA V f t size es args es':=by
 refine ⟨⟨fn,hf,hname,by simp [hb]⟩,ht,fun w E g u us hG hE hgb hob hh hd=>?_⟩
 refine calls_of_wp hf hb ?_
 have hO:own ⟨fun k=>if k=0 then g else none,E⟩ [OB.rw t size es]=fun b=>E b∨g=some b:=by
  funext b
  apply propext
  constructor
  ·rintro (h|⟨k,⟨o,hk,_⟩,hi⟩)
   ·exact .inl h
   ·have:k=0:=by
     have:=(List.getElem?_eq_some_iff.1 hk).1
     simp at this;exact this
    subst this
    exact .inr (by simpa using hi)
  ·rintro (h|h)
   ·exact .inl h
   ·exact .inr ⟨0,⟨_,rfl,rfl⟩,by simpa using h⟩
 have hlen2:us.size=args.length:=by simpa using dats_length hd
 have hst:StI fn.ntmps ⟨w,E,fun b=>g=some b,fun _=>g⟩ ⟨fun k=>if k=0 then g else none,E⟩ ⟨(0,.c (.os 0))::numS 1 args,[.rw t size es]⟩ { tmps:=(#[u]++us)++Array.replicate (fn.ntmps - (#[u]++us).size) undef,defers:=[] } w:=by
  refine ⟨rfl,by simp;omega,Ext.refl _ _,fun p hp=>?_,fun k o hk=>?_,fun k k' b hl hl' _ _=>?_,fun k b hl hi=>?_,⟨rfl,fun b hb=>⟨(hE b hb).1,(hE b hb).2⟩⟩,fun k t' s' e' hk ht'=>?_⟩
  ·rcases List.mem_cons.1 hp with rfl|hp
   ·refine ⟨u,(by rw [Array.append_assoc];exact (Array.getElem?_append_left (by simp)).trans rfl),t,size,es,rfl,?_⟩
    exact hh
   ·obtain ⟨v,h1,h2⟩:=dats_slots hd 1 [u] p hp rfl
    have hge:=numS_fst hp
    have hlt:=(List.getElem?_eq_some_iff.1 h1).1
    refine ⟨v,?_,?_⟩
    ·show ((#[u]++us)++Array.replicate (fn.ntmps - (#[u]++us).size) undef)[p.1]?=some v
     rw [Array.getElem?_append_left (by simp at hlt ⊢;omega)]
     have:(#[u]++us)[p.1]?=(#[u]++us).toList[p.1]?:=(Array.getElem?_toList).symm
     rw [this]
     simpa using h1
    ·rw [hO]
     exact dlv_imp (fun c u hc=>by
      cases c with
      | d x=>exact hc
      | op k off=>obtain ⟨_,⟨o,hk,_⟩,_⟩:=hc;simp at hk
      | oe k i off=>obtain ⟨_,_,_,_,_,hk,_⟩:=hc;simp at hk
      | os k=>obtain ⟨_,_,_,hk,_⟩:=hc;simp at hk
      | om k=>obtain ⟨_,⟨o,hk,_⟩,_⟩:=hc;simp at hk
      | any=>exact hc) h2
  ·have:k=0:=by
    have:=(List.getElem?_eq_some_iff.1 hk).1
    simp at this;exact this
   subst this
   simp at hk
   subst hk
   rw [hO]
   exact dob_rw (ob:=[]) (ι:=⟨fun _=>g,E⟩) (k:=0) (fun _ h=>h) (by simp) rfl (fun _ h=>h) hob
  ·have h1:=hl.lt;have h2:=hl'.lt;simp at h1 h2;omega
  ·have h1:=hl.lt;simp at h1;subst h1
   exact .inr (by simpa using hi)
  ·have:k=0:=by
    have:=(List.getElem?_eq_some_iff.1 hk).1
    simp at this;exact this
   subst this
   have hk2:(some (OB.rw t size es))=some (OB.rw t' s' e'):=hk
   injection hk2 with hk2
   injection hk2 with q1 q2 q3
   subst q1
   exact absurd ht (Nat.not_lt.2 ht')
 have hw:Code.wp V.P c (QS ⟨V,fn.ntmps,ResA V.T fn.results.toList t size es',L⟩ ⟨w,E,fun b=>g=some b,fun _=>g⟩ []) { tmps:=(#[u]++us)++Array.replicate (fn.ntmps - (#[u]++us).size) undef,defers:=[] } w :=
  go_sound n hg ⟨w,E,fun b=>g=some b,fun _=>g⟩ ⟨hG,hgb⟩ _ w ⟨_,hst⟩
 refine wp_mono hw ?_
 have key:∀ (a:Act) (w':World),(∃ τ,St fn.ntmps ⟨w,E,fun b=>g=some b,fun _=>g⟩ τ a w'∧ResA V.T fn.results.toList t size es' τ) →
   a.defers=[]∧∃ v,Sem.run V.P (results fn a.tmps) w'=.ok v w'∧∃ v' g',Ending.returned v=.returned v'∧Ext (fun b=>g=some b) w w'∧(g'=g∨∀ b,g'=some b→w.heap.size≤b)∧dob w' (fun b=>E b∨g'=some b) ⟨fun _=>g',E⟩ [] 0 (.rw t size es')∧hdr w' g' size es'.length v':=by
  rintro a w' ⟨τ,⟨ι,hτ⟩,hres⟩
  unfold ResA at hres
  split at hres
  ·rename_i p hout
   obtain ⟨hp,hk⟩:=hres
   obtain ⟨vs,k1,k2⟩:=outs_sound V.hT hτ hout hp hN.2
   have hlen:=dlvs_length k2
   simp only [List.length_cons,List.length_nil] at hlen
   obtain ⟨v,r,rfl,hv,hr⟩:=k2
   simp only [dlvs] at hr
   subst hr
   obtain ⟨t1,s1,e1,hk1,hh⟩:=hv
   rw [hk] at hk1
   injection hk1 with hk1
   injection hk1 with q1 q2 q3
   subst q1 q2 q3
   have hl:live τ.ob 0:=⟨_,hk,rfl⟩
   refine ⟨hτ.defers,v,?_,v,ι 0,rfl,hτ.below,?_,?_,hh⟩
   ·have e:(results fn a.tmps)=(do
       let vs ← Array.mapM (runOut a) fn.results
       pure (if h:vs.size=1 then vs[0] else Value.tuple vs)):=by
      unfold results
      congr 1
    rw [e,Array.mapM_eq_mapM_toList]
    simp [k1]
   ·cases hi:ι 0 with
    | none=>exact .inr (fun b hb=>by cases hb)
    | some b =>
     rcases hτ.base 0 b hl hi with h1|h1
     ·exact .inr (fun b' hb=>by injection hb with hb;exact hb ▸ h1)
     ·exact .inl (Eq.symm h1)
   ·refine dob_rw (ob:=τ.ob) (ι:=ι) (k:=0) (fun b hb=>?_) rfl rfl (fun _ h=>h) (hτ.objs 0 _ hk)
    rcases hb with hb|hb
    ·exact .inl (by rw [hτ.out.1];exact hb)
    ·exact .inr ⟨0,hl,hb⟩
  ·exact hres.elim
 intro e a w' hq
 cases e with
 | normal=>exact key a w' hq
 | ret=>exact key a w' hq
 | _=>exact hq.elim
end
open Go Go.RowKit
/-! ### A drawn region under a relation between worlds -/
def reach (md:Region.Mode) (ops:Array Oper) (i:Nat):Nat→Nat→Bool
 | 0,_=>false
 | n+1,j=>match ops[j]? with
  | none=>false
  | some o=>o.after.any fun e=>Region.binds md e && (e.on == i || reach md ops i n e.on)
section any
variable {P:Program} {md:Region.Mode} {ops:Array Oper} {Q:Exit→Act→World→Prop} {isX:Nat→Bool}
def wpAnyR (P:Program) (md:Region.Mode) (ops:Array Oper) (Q:Exit→Act→World→Prop) (isX:Nat→Bool):Nat→Array Bool→Act→World→Prop
 | 0,listed,a,w=>Region.ready md ops listed=[]∧Q .normal a w
 | n+1,listed,a,w=>(Region.ready md ops listed=[]→Q .normal a w) ∧
   ∀ i,i∈Region.ready md ops listed→wpOp P ops Q i (fun a' w'=>(isX i=false→Ext noB w w')∧wpAnyR P md ops Q isX n (listed.setIfInBounds i true) a' w') a w
theorem wpAny_of_R:∀ (n:Nat) (listed:Array Bool) (a:Act) (w:World),wpAnyR P md ops Q isX n listed a w→wpAny P md ops Q n listed a w
 | 0,_,_,_,h=>h
 | n+1,_,_,_,h=>⟨h.1,fun i hi=>Go.wpOp_mono (fun a w hk=>wpAny_of_R n _ a w hk.2) (h.2 i hi)⟩
def DC (md:Region.Mode) (ops:Array Oper) (listed:Array Bool):Prop :=
 ∀ j o,ops[j]?=some o→listed.getD j false=true→∀ e∈o.after,Region.binds md e=true→listed.getD e.on false=true
theorem ready_mem {listed:Array Bool} {j:Nat} (h:j∈Region.ready md ops listed):j<ops.size∧listed.getD j true=false∧∃ o,ops[j]?=some o∧∀ e∈o.after,Region.binds md e=true→listed.getD e.on false=true:=by
 unfold Region.ready at h
 rw [List.mem_filter] at h
 obtain ⟨h1,h2⟩:=h
 have hlt:j<ops.size:=List.mem_range.1 h1
 refine ⟨hlt,?_,ops[j],by simp [hlt],?_⟩
 ·rw [Bool.and_eq_true] at h2
  simpa using h2.1
 ·rw [Bool.and_eq_true] at h2
  have h3:=h2.2
  simp only [hlt,getElem?_pos,Option.map_some,Option.getD_some,Array.all_eq_true'] at h3
  intro e he hb
  have:=h3 e he
  simpa [hb] using this
theorem getD_set {listed:Array Bool} {i j:Nat} {d:Bool} (h:listed.getD j d=true):(listed.setIfInBounds i true).getD j d=true:=by
 rw [Array.getD_eq_getD_getElem?] at h ⊢
 rw [Array.getElem?_setIfInBounds]
 split
 ·split
  ·rfl
  ·rename_i e hlt;subst e;simp [hlt] at h;simpa [hlt] using h
 ·exact h
theorem getD_set_ne {listed:Array Bool} {i j:Nat} {d:Bool} (h:j≠i):(listed.setIfInBounds i true).getD j d=listed.getD j d:=by
 rw [Array.getD_eq_getD_getElem?,Array.getD_eq_getD_getElem?,Array.getElem?_setIfInBounds_ne (Ne.symm h)]
theorem DC.step {listed:Array Bool} (h:DC md ops listed) {i:Nat} (hi:i∈Region.ready md ops listed):DC md ops (listed.setIfInBounds i true):=by
 intro j o ho hj e he hb
 by_cases e1:j=i
 ·subst e1
  obtain ⟨_,_,o',ho',h3⟩:=ready_mem hi
  rw [ho] at ho'
  injection ho' with ho'
  subst ho'
  exact getD_set (h3 e he hb)
 ·rw [getD_set_ne e1] at hj
  exact getD_set (h j o ho hj e he hb)
theorem reach_listed {listed:Array Bool} (h:DC md ops listed) {i:Nat}:∀ (n:Nat) (j:Nat),reach md ops i n j=true→(∀ o,ops[j]?=some o→∀ e∈o.after,Region.binds md e=true→listed.getD e.on false=true)→listed.getD i false=true
 | 0,j,hr,_=>by simp [reach] at hr
 | n+1,j,hr,hj=>by
  simp only [reach] at hr
  cases ho:ops[j]? with
  | none=>simp [ho] at hr
  | some o =>
   simp only [ho,Array.any_eq_true'] at hr
   obtain ⟨e,he,hc⟩:=hr
   rw [Bool.and_eq_true,Bool.or_eq_true] at hc
   have hl:=hj o ho e he hc.1
   rcases hc.2 with h1|h1
   ·rw [← eq_of_beq h1];exact hl
   ·exact reach_listed h n e.on h1 (fun o' ho' e' he' hb'=>h e.on o' ho' hl e' he' hb')
theorem wpAnyR_first {i:Nat} {oi:Oper} {v:Value} (wl:Bool) (hoi:ops[i]?=some oi)
  (hsel:∀ (j:Nat) (o:Oper) (cs:Array SelectCase) (b:Bool),ops[j]?=some o→o.op≠Op.select cs b)
  (hQ:∀ (c:List PanicEntry) (a:Act) (w:World),Q (Exit.panic c) (a.put oi.dst v) w→Q (Exit.panic c) a w)
  :
  ∀ (fuel:Nat) (listed:Array Bool) (a:Act) (w:World),DC md ops listed →
   (∀ (j:Nat) (oj:Oper),ops[j]?=some oj→j≠i→listed.getD j true=false→(∀ e∈oj.after,Region.binds md e=true→e.on≠i)→Oper.apart ops oi oj=true) →
   (wl=false→∀ j,isX j=true→j≠i→listed.getD j true=false→reach md ops i ops.size j=true) →
   i∈Region.ready md ops listed→YieldsIf P ops (fun w'=>wl=false→Ext noB w w') oi v a →
   wpAnyR P md ops Q isX fuel (listed.setIfInBounds i true) (a.put oi.dst v) w→wpAnyR P md ops Q isX (fuel+1) listed a w:=by
 intro fuel
 induction fuel with
 | zero =>
  intro listed a w hdc hap hX hi hy h
  refine ⟨fun e=>(by rw [e] at hi;cases hi),fun j hj=>?_⟩
  by_cases e:j=i
  ·subst e
   exact YieldsIf.wpOp hoi hy (fun _=>Ext.refl _ _) ⟨fun _=>Ext.refl _ _,h⟩
  ·have:=ready_mono hj e
   rw [h.1] at this
   cases this
 | succ fuel ih =>
  intro listed a w hdc hap hX hi hy h
  refine ⟨fun e=>(by rw [e] at hi;cases hi),fun j hj=>?_⟩
  by_cases e:j=i
  ·subst e
   exact YieldsIf.wpOp hoi hy (fun _=>Ext.refl _ _) ⟨fun _=>Ext.refl _ _,h⟩
  ·obtain ⟨hjl,hju,oj,hoj,hjd⟩:=ready_mem hj
   have hil:listed.getD i true=false:=(ready_mem hi).2.1
   have hilf:listed.getD i false=false:=by
    have hlt:=(ready_mem hi).1
    rw [Array.getD_eq_getD_getElem?] at hil ⊢
    cases hg:listed[i]? with
    | none=>rfl
    | some b=>rw [hg] at hil;simpa using hil
   have hXj:wl=false→isX j=false:=fun hwl=>by
    cases hx:isX j with
    | false=>rfl
    | true =>
     have:=reach_listed hdc ops.size j (hX hwl j hx e hju) (fun o ho e' he' hb'=>by rw [hoj] at ho;injection ho with ho;subst ho;exact hjd e' he' hb')
     rw [hilf] at this
     cases this
   have hapj:Oper.apart ops oi oj=true:=hap j oj hoj e hju (fun e' he' hb' hon=>by
    have:=hjd e' he' hb'
    rw [hon,hilf] at this
    cases this)
   have h2:=h.2 j (ready_mono hj e)
   have h3:=wpOp_putIf hoj hapj (hsel i oi · · hoi) (hsel j oj · · hoj) hQ hy h2
   refine Go.wpOp_mono ?_ h3
   rintro a' w' ⟨hy',hext,hk⟩
   refine ⟨hext,ih _ a' w' (hdc.step hj) (fun k ok hok hki hku hed=>hap k ok hok hki ?_ hed) ?_ (ready_mono hi (Ne.symm e)) ?_ ?_⟩
   ·by_cases e2:k=j
    ·subst e2;exact hju
    ·rwa [getD_set_ne e2] at hku
   ·intro hwl k hk1 hk2 hk3
    refine hX hwl k hk1 hk2 ?_
    by_cases e2:k=j
    ·subst e2;exact hju
    ·rwa [getD_set_ne e2] at hk3
   ·rcases hy' with ⟨k1,k2⟩|hy'
    ·exact .inl ⟨k1,fun w'' hw''=>k2 w'' (fun hwl=>(hext (hXj hwl)).trans (hw'' hwl))⟩
    ·exact .inr hy'
   ·rwa [Array.setIfInBounds_comm _ _ e]
end any
/-! ### Over logical states -/
inductive Sch where
 | done
 | take (i:Nat) (r:Sch)
 | one (i:Nat) (r:Sch)
 | two (i:Nat) (r:Sch) (j:Nat) (s:Sch)
 | three (i:Nat) (r:Sch) (j:Nat) (s:Sch) (k:Nat) (t:Sch)
def badOp:Op→Bool
 | .store _ _ _=>true
 | .mapUpdate _ _ _ _=>true
 | .call ⟨.builtin .append,_,_⟩=>true
 | .call ⟨.builtin .delete,_,_⟩=>true
 | _=>false
def isXo (ops:Array Oper) (i:Nat):Bool:=match ops[i]? with
 | some o=>badOp o.op
 | none=>false
def isMvO (o:Oper):Bool:=match o.op,o.guard with
 | .move _,none=>true
 | _,_=>false
def isMv (ops:Array Oper) (i:Nat):Bool:=match ops[i]? with
 | some o=>isMvO o
 | none=>false
def okTake (ops:Array Oper) (listed:Array Bool) (i:Nat):Bool :=
 (Region.ready .any ops listed).contains i && Region.free .any ops listed i && (isMv ops i || (List.range ops.size).all fun j=>!isXo ops j || j == i || listed.getD j true || reach .any ops i ops.size j)
def okSch (ops:Array Oper):Nat→Array Bool→Sch→Bool
 | _,listed,.done=>(Region.ready .any ops listed).isEmpty
 | n+1,listed,.take i r=>okTake ops listed i && okSch ops n (listed.setIfInBounds i true) r
 | n+1,listed,.one i r=>Region.ready .any ops listed == [i] && okSch ops n (listed.setIfInBounds i true) r
 | n+1,listed,.two i r j s=>Region.ready .any ops listed == [i,j] && okSch ops n (listed.setIfInBounds i true) r && okSch ops n (listed.setIfInBounds j true) s
 | n+1,listed,.three i r j s k t=>Region.ready .any ops listed == [i,j,k] && okSch ops n (listed.setIfInBounds i true) r && okSch ops n (listed.setIfInBounds j true) s && okSch ops n (listed.setIfInBounds k true) t
 | 0,_,_=>false
def stepQ (f:Sch→Unit→LS→Prop) (X:Cx) (o:Oper) (r:Sch) (u:Unit) (σ:LS):Prop :=
 match o.op with
 | .pick c x y=>match ev σ c with
  | .c (.d (.v (.bool b)))=>BrP b f r u (σ.putO o.dst (ev σ x)) f r u (σ.putO o.dst (ev σ y))
  | _=>False
 | op=>QrP (q X.E.T σ op) f r u σ o.dst (fun _=>False)
def stepQG (f:Sch→Unit→LS→Prop) (X:Cx) (all:List Oper) (o:Oper) (r:Sch) (u:Unit) (σ:LS):Prop :=
 match o.guard with
 | none=>stepQ f X o r u σ
 | some (j,want)=>match gslot all j with
  | some d=>GrP (gbOf (getS σ.sl d)) want (stepQ f X o) r u σ f r u (σ.putO o.dst (.tu []))
  | none=>False
def gOf (f:Sch→Unit→LS→Prop) (r:Sch) (_:It) (_:List Fr) (σ:LS):Prop:=f r () σ
def dgo:Nat→Cx→List Oper→(LS→Prop)→Sch→Unit→LS→Prop
 | 0,_,_,_,_,_,_=>False
 | _+1,_,_,K,.done,_,σ=>K σ
 | n+1,X,ops,K,.take i r,u,σ=>match nth ops i with
  | some o=>okD X.N o.dst=true∧stepQG (dgo n X ops K) X ops o r u σ
  | none=>False
 | n+1,X,ops,K,.one i r,_,σ=>match nth ops i with
  | some o=>okD X.N o.dst=true∧stepG (gOf (dgo n X ops K) r) X ops 0 o [] [] σ
  | none=>False
 | n+1,X,ops,K,.two i r j s,_,σ=>match nth ops i,nth ops j with
  | some o,some o'=>(okD X.N o.dst=true∧stepG (gOf (dgo n X ops K) r) X ops 0 o [] [] σ)∧(okD X.N o'.dst=true∧stepG (gOf (dgo n X ops K) s) X ops 0 o' [] [] σ)
  | _,_=>False
 | n+1,X,ops,K,.three i r j s k t,_,σ=>match nth ops i,nth ops j,nth ops k with
  | some o,some o',some o''=>(okD X.N o.dst=true∧stepG (gOf (dgo n X ops K) r) X ops 0 o [] [] σ)∧(okD X.N o'.dst=true∧stepG (gOf (dgo n X ops K) s) X ops 0 o' [] [] σ)∧(okD X.N o''.dst=true∧stepG (gOf (dgo n X ops K) t) X ops 0 o'' [] [] σ)
  | _,_,_=>False
def DEnd (n:Nat) (X:Cx) (S:List Fr) (id:Nat) (σ':LS):Prop:=go n X .nrm S (σ'.trim (X.L id))
def DLe (τ σ':LS):Prop:=Le σ' τ
section
variable {X:Cx} {S:List Fr} {σ σ' τ:LS} {w0:W0} {a:Act} {w w':World} {ι:Io} {K:LS→Prop}
def Then (X:Cx) (w0:W0) (K:LS→Prop) (w:World) (bad:Bool) (a':Act) (w':World):Prop:=(bad=false→Ext noB w w')∧∃ σ',K σ'∧St X.N w0 σ' a' w'
theorem then_does {bad:Bool} {o:Oper} {x:LV} {Q:Exit→Act→World→Prop} (hd:okD X.N o.dst=true) (hk:K (σ'.putO o.dst x)) {ι':Io} (h:StI X.N w0 ι' σ' a w') {v:Value} (hv:dlv w' (own ι' σ'.ob) ι' σ'.ob x v) (he:bad=false→Ext noB w w')
  (hr:(execOp a.eval o).run X.E.P w=.ok (.value v) w'∨((execOp a.eval o).run X.E.P w=.ok .skip w'∧v=undef)):Oper.wp X.E.P o a w (Then X w0 K w bad) Q :=
 wp_does hr ⟨he,_,hk,ι',h.putO (okD_lt hd) hv⟩
theorem stepE0_then {f:Sch→Unit→LS→Prop} {rr:Sch} {all:List Oper} {o:Oper} {Q:Exit→Act→World→Prop} (hd:okD X.N o.dst=true) (hs:stepE0 (gOf f rr) X all 0 o [] [] σ)
  (h:StI X.N w0 ι σ a w):Oper.wp X.E.P o a w (Then X w0 (f rr ()) w (badOp o.op)) Q:=by
 unfold stepE0 ErP at hs
 split at hs
 ·rename_i hq p σ' x he
  obtain ⟨hp,hg⟩:=hs
  obtain ⟨ι',v,w',h1,h2,h3,h4⟩:=eff_sound X.E.hT h he hp
  refine then_does hd hg h2 h3 (fun hb=>h4 ?_) (h1 o rfl)
  generalize o.op=op at he hb
  unfold eff at he
  split at he
  ·rfl
  ·rfl
  ·rfl
  ·rfl
  ·rfl
  ·rfl
  ·cases hb
  ·cases hb
  ·rfl
  ·rename_i c
   unfold ecall at he
   split at he
   ·rename_i s x e1 e2
    obtain ⟨callee,args,ts⟩:=c
    simp only at e1
    subst e1
    cases hb
   ·rename_i s x e1 e2
    obtain ⟨callee,args,ts⟩:=c
    simp only at e1
    subst e1
    cases hb
   ·cases he
  ·cases he
 ·exact hs.elim
theorem stepE_then {f:Sch→Unit→LS→Prop} {rr:Sch} {all:List Oper} {o:Oper} {Q:Exit→Act→World→Prop} (hd:okD X.N o.dst=true) (hs:stepE (gOf f rr) X all 0 o [] [] σ)
  (h:StI X.N w0 ι σ a w):Oper.wp X.E.P o a w (Then X w0 (f rr ()) w (badOp o.op)) Q:=by
 unfold stepE WayP at hs
 cases hpx:X.E.px with
 | false=>rw [hpx] at hs;exact stepE0_then hd hs h
 | true =>
  rw [hpx] at hs
  replace hs:stepX (gOf f rr) X all 0 o [] [] σ:=hs
  unfold stepX at hs
  cases hr:effP X.E.T σ o.op with
  | none=>rw [hr] at hs;exact stepE0_then hd hs h
  | some r =>
   rw [hr] at hs
   obtain ⟨ι',v,w',σ',x,h1,h2,h3,h4,as,ts,h5⟩:=px_sound X.E.hT h hr hs
   exact then_does hd h4 h2 h3 (fun hb=>by rw [h5] at hb;cases hb) (h1 o rfl)
theorem stepO_then {f:Sch→Unit→LS→Prop} {rr:Sch} {all:List Oper} {o:Oper} {Q:Exit→Act→World→Prop} (hd:okD X.N o.dst=true) (hs:stepO (gOf f rr) X all 0 o [] [] σ)
  (hw0:GW X.E w0) (h:StI X.N w0 ι σ a w):Oper.wp X.E.P o a w (Then X w0 (f rr ()) w (badOp o.op)) Q:=by
 unfold stepO at hs
 split at hs
 ·rename_i c x y ho
  split at hs
  ·rename_i b hb
   have hc:=h.ev c
   rw [hb] at hc
   have hc':a.eval c=.bool b:=hc.1
   cases b with
   | true=>exact then_does hd (hs.1 rfl) h (h.ev x) (fun _=>Ext.refl _ _) (.inl (by simp only [execOp,ho,hc',asBool,Sem.run_bind,Sem.run_pure,Result.andThen_ok,if_true]))
   | false=>exact then_does hd (hs.2 rfl) h (h.ev y) (fun _=>Ext.refl _ _) (.inl (by simp [execOp,ho,hc',asBool]))
  ·exact hs.elim
 ·rename_i fv as ts ho
  split at hs
  ·rename_i f args σf hp
   obtain ⟨res,hS,hdat,hg⟩:=hs
   exact wp_callR hw0 h ho hp hS hdat hd (fun a w he hst=>⟨fun _=>he,_,hg,hst⟩)
  ·exact hs.elim
 ·unfold QrP at hs
  split at hs
  ·rename_i p z hq
   obtain ⟨hp,hg⟩:=hs
   obtain ⟨v,h1,h2⟩:=q_sound X.E.hT h hq hp
   exact then_does hd hg h h1 (fun _=>Ext.refl _ _) (.inl (h2 o rfl w (Ext.refl _ _)))
  ·exact stepE_then hd hs h
theorem stepG_then {f:Sch→Unit→LS→Prop} {rr:Sch} {all:List Oper} {i:Nat} {o:Oper} {Q:Exit→Act→World→Prop} (ho:all.toArray[i]?=some o) (hd:okD X.N o.dst=true) (hs:stepG (gOf f rr) X all 0 o [] [] σ)
  (hw0:GW X.E w0) (h:StI X.N w0 ι σ a w):wpOp X.E.P all.toArray Q i (Then X w0 (f rr ()) w (isXo all.toArray i)) a w:=by
 have hx:isXo all.toArray i=badOp o.op:=by simp only [isXo,ho]
 rw [hx]
 unfold wpOp
 simp only [ho]
 have hrun:Region.wanted o (yielded all.toArray a.tmps)=true→stepO (gOf f rr) X all 0 o [] [] σ→(if Region.wanted o (yielded all.toArray a.tmps)=true then Oper.wp X.E.P o a w (Then X w0 (f rr ()) w (badOp o.op)) Q∨Oper.asks X.E.P o a w∧LetsOut Q else Then X w0 (f rr ()) w (badOp o.op) (a.put o.dst undef) w):=fun h1 h2=>by
  rw [if_pos h1];exact .inl (stepO_then hd h2 hw0 h)
 have hnot:Region.wanted o (yielded all.toArray a.tmps)=false→f rr () (σ.putO o.dst (.tu []))→(if Region.wanted o (yielded all.toArray a.tmps)=true then Oper.wp X.E.P o a w (Then X w0 (f rr ()) w (badOp o.op)) Q∨Oper.asks X.E.P o a w∧LetsOut Q else Then X w0 (f rr ()) w (badOp o.op) (a.put o.dst undef) w):=fun h1 h2=>by
  rw [if_neg (by simp [h1])];exact ⟨fun _=>Ext.refl _ _,_,h2,ι,h.putO (okD_lt hd) undefL⟩
 unfold stepG at hs
 split at hs
 ·rename_i hgd
  exact hrun (wanted_none hgd) hs
 ·rename_i j want hgd
  split at hs
  ·rename_i d hgs
   rw [GrP_eq] at hs
   split at hs
   ·rename_i b hb
    have hy:=gslot_yielded h hgs hb
    have hw:Region.wanted o (yielded all.toArray a.tmps)=(b == want):=by simp only [Region.wanted,hgd,hy];rfl
    cases want<;>cases b<;>simp only [cond_true,cond_false,BrP_true,BrP_false] at hs
    ·exact hrun hw hs
    ·exact hnot hw hs
    ·exact hnot hw hs
    ·exact hrun hw hs
   ·rename_i hb
    have hy:=gslot_undef h hgs hb
    exact hnot (by simp only [Region.wanted,hgd,hy];rfl) hs
   ·exact hs.elim
  ·exact hs.elim
theorem stepQ_then {f:Sch→Unit→LS→Prop} {rr:Sch} {o:Oper} (hd:okD X.N o.dst=true) (hs:stepQ f X o rr () σ) (h:StI X.N w0 ι σ a w) :
  ∃ v,(∀ w',Ext noB w w'→(execOp a.eval o).run X.E.P w'=.ok (.value v) w')∧∃ σ',f rr () σ'∧St X.N w0 σ' (a.put o.dst v) w:=by
 unfold stepQ at hs
 split at hs
 ·rename_i c x y ho
  split at hs
  ·rename_i b hb
   have hc:=h.ev c
   rw [hb] at hc
   have hc':a.eval c=.bool b:=hc.1
   cases b with
   | true=>exact ⟨a.eval x,fun w' _=>by simp only [execOp,ho,hc',asBool,Sem.run_bind,Sem.run_pure,Result.andThen_ok,if_true],_,hs.1 rfl,ι,h.putO (okD_lt hd) (h.ev x)⟩
   | false=>exact ⟨a.eval y,fun w' _=>by simp [execOp,ho,hc',asBool],_,hs.2 rfl,ι,h.putO (okD_lt hd) (h.ev y)⟩
  ·exact hs.elim
 ·unfold QrP at hs
  split at hs
  ·rename_i p z hq
   obtain ⟨hp,hg⟩:=hs
   obtain ⟨v,h1,h2⟩:=q_sound X.E.hT h hq hp
   exact ⟨v,fun w' he=>h2 o rfl w' he,_,hg,ι,h.putO (okD_lt hd) h1⟩
  ·exact hs.elim
theorem stepQG_then {f:Sch→Unit→LS→Prop} {rr:Sch} {all:List Oper} {o:Oper} (hd:okD X.N o.dst=true) (hs:stepQG f X all o rr () σ) (h:StI X.N w0 ι σ a w) :
  ∃ v,YieldsIf X.E.P all.toArray (fun w'=>Ext noB w w') o v a∧∃ σ',f rr () σ'∧St X.N w0 σ' (a.put o.dst v) w:=by
 have hrun:Region.wanted o (yielded all.toArray a.tmps)=true→stepQ f X o rr () σ→∃ v,YieldsIf X.E.P all.toArray (fun w'=>Ext noB w w') o v a∧∃ σ',f rr () σ'∧St X.N w0 σ' (a.put o.dst v) w:=fun h1 h2=>by
  obtain ⟨v,h3,h4⟩:=stepQ_then hd h2 h
  exact ⟨v,.inl ⟨h1,h3⟩,h4⟩
 have hnot:Region.wanted o (yielded all.toArray a.tmps)=false→f rr () (σ.putO o.dst (.tu []))→∃ v,YieldsIf X.E.P all.toArray (fun w'=>Ext noB w w') o v a∧∃ σ',f rr () σ'∧St X.N w0 σ' (a.put o.dst v) w:=fun h1 h2 =>
  ⟨undef,.inr ⟨h1,rfl⟩,_,h2,ι,h.putO (okD_lt hd) undefL⟩
 unfold stepQG at hs
 split at hs
 ·rename_i hgd
  exact hrun (wanted_none hgd) hs
 ·rename_i j want hgd
  split at hs
  ·rename_i d hgs
   rw [GrP_eq] at hs
   split at hs
   ·rename_i b hb
    have hy:=gslot_yielded h hgs hb
    have hw:Region.wanted o (yielded all.toArray a.tmps)=(b == want):=by simp only [Region.wanted,hgd,hy];rfl
    cases want<;>cases b<;>simp only [cond_true,cond_false,BrP_true,BrP_false] at hs
    ·exact hrun hw hs
    ·exact hnot hw hs
    ·exact hnot hw hs
    ·exact hrun hw hs
   ·rename_i hb
    have hy:=gslot_undef h hgs hb
    exact hnot (by simp only [Region.wanted,hgd,hy];rfl) hs
   ·exact hs.elim
  ·exact hs.elim
theorem QS_panic {c:List PanicEntry}:∀ {S:List Fr} {a:Act} {w:World},QS X w0 S (.panic c) a w→False
 | [],_,_,h=>h
 | .code _::S,_,_,h=>QS_panic (S:=S) h
 | .bl _::S,_,_,h=>QS_panic (S:=S) h
 | .lp _::S,_,_,h=>QS_panic (S:=S) h
theorem yields_imp {P:Program} {ops:Array Oper} {R R':World→Prop} {o:Oper} {v:Value} {a:Act} (h:∀ w,R' w→R w):YieldsIf P ops R o v a→YieldsIf P ops R' o v a
 | .inl ⟨h1,h2⟩=>.inl ⟨h1,fun w hw=>h2 w (h w hw)⟩
 | .inr h1=>.inr h1
theorem yields_mv {P:Program} {ops:Array Oper} {R:World→Prop} {o:Oper} {v:Value} {a:Act} {w:World} (hm:isMvO o=true):YieldsIf P ops (fun w'=>Ext noB w w') o v a→YieldsIf P ops R o v a:=by
 rintro (⟨h1,h2⟩|h1)
 ·refine .inl ⟨h1,fun w' _=>?_⟩
  have h3:=h2 w (Ext.refl _ _)
  unfold isMvO at hm
  split at hm
  ·rename_i x e1 e2
   simp only [execOp,e1,Sem.run_pure] at h3 ⊢
   injection h3 with h3
   rw [h3]
  ·cases hm
 ·exact .inr h1
theorem dgo_sound {ops:List Oper} (hns:Region.noSelect ops.toArray=true) (hw0:GW X.E w0) (hK:∀ σ' a w,K σ'→St X.N w0 σ' a w→QS X w0 S .normal a w) :
  ∀ (m:Nat) (sch:Sch) (n:Nat) (listed:Array Bool) (σ:LS) (a:Act) (w:World),okSch ops.toArray n listed sch=true→DC .any ops.toArray listed→dgo m X ops K sch () σ→St X.N w0 σ a w →
   wpAnyR X.E.P .any ops.toArray (QS X w0 S) (isXo ops.toArray) n listed a w:=by
 have hsel:∀ (j:Nat) (o:Oper) (cs:Array SelectCase) (b:Bool),ops.toArray[j]?=some o→o.op≠Op.select cs b:=by
  intro j o cs b ho e
  unfold Region.noSelect at hns
  rw [Array.all_eq_true'] at hns
  have:=hns o (Array.mem_of_getElem? ho)
  simp [e] at this
 have hbr:∀ (m n i:Nat) (r:Sch) (o:Oper) (listed:Array Bool) (σ:LS) (a:Act) (w:World),
   (∀ (listed:Array Bool) (σ:LS) (a:Act) (w:World),okSch ops.toArray n listed r=true→DC .any ops.toArray listed→dgo m X ops K r () σ→St X.N w0 σ a w→wpAnyR X.E.P .any ops.toArray (QS X w0 S) (isXo ops.toArray) n listed a w) →
   i∈Region.ready .any ops.toArray listed→okSch ops.toArray n (listed.setIfInBounds i true) r=true→DC .any ops.toArray listed→nth ops i=some o→(okD X.N o.dst=true∧stepG (gOf (dgo m X ops K) r) X ops 0 o [] [] σ)→St X.N w0 σ a w →
   wpOp X.E.P ops.toArray (QS X w0 S) i (fun a' w'=>(isXo ops.toArray i=false→Ext noB w w')∧wpAnyR X.E.P .any ops.toArray (QS X w0 S) (isXo ops.toArray) n (listed.setIfInBounds i true) a' w') a w:=by
  intro m n i r o listed σ a w ih hi hok hdc ho hs ⟨ι,hst⟩
  rw [nth_get] at ho
  have h1:=stepG_then (Q:=QS X w0 S) (i:=i) (all:=ops) (by simpa using ho) hs.1 hs.2 hw0 hst
  refine Go.wpOp_mono ?_ h1
  rintro a' w' ⟨h2,σ',h3,h4⟩
  exact ⟨h2,ih _ _ _ _ hok (hdc.step hi) h3 h4⟩
 intro m
 induction m with
 | zero=>intro sch n listed σ a w _ _ hd;cases sch<;>exact hd.elim
 | succ m ih =>
 intro sch
 cases sch with
 | done =>
  intro n listed σ a w hok hdc hd hst
  have hr:Region.ready .any ops.toArray listed=[]:=by
   have:(Region.ready .any ops.toArray listed).isEmpty=true:=by cases n<;>exact hok
   simpa using this
  have hq:=hK σ a w hd hst
  cases n with
  | zero=>exact ⟨hr,hq⟩
  | succ n=>exact ⟨fun _=>hq,fun i hi=>by rw [hr] at hi;cases hi⟩
 | take i r =>
  intro n listed σ a w hok hdc hd hst
  cases n with
  | zero=>cases hok
  | succ n =>
   simp only [okSch,okTake,Bool.and_eq_true] at hok
   obtain ⟨⟨⟨h1,h2⟩,h3⟩,h4⟩:=hok
   have hi:i∈Region.ready .any ops.toArray listed:=by simpa using h1
   simp only [dgo] at hd
   cases ho:nth ops i with
   | none=>simp [ho] at hd
   | some o =>
    simp only [ho] at hd
    obtain ⟨ι,hst'⟩:=hst
    obtain ⟨v,k1,σ',k2,k3⟩:=stepQG_then hd.1 hd.2 hst'
    have ho':ops.toArray[i]?=some o:=by rw [nth_get] at ho;simpa using ho
    have k1':YieldsIf X.E.P ops.toArray (fun w'=>isMv ops.toArray i=false→Ext noB w w') o v a:=by
     cases hmv:isMv ops.toArray i with
     | false=>exact yields_imp (fun w' h=>h rfl) k1
     | true =>
      simp only [isMv,ho'] at hmv
      exact yields_mv hmv k1
    refine wpAnyR_first (isMv ops.toArray i) ho' hsel (fun c a w h=>(QS_panic h).elim) n listed a w hdc (fun j oj hoj hne hl hed=>?_) (fun hmv j hj hne hlj=>?_) hi k1' (ih r n _ σ' _ w h4 (hdc.step hi) k2 k3)
    rotate_left
    ·rw [hmv,Bool.false_or] at h3
     rw [List.all_eq_true] at h3
     have hlt:j<ops.toArray.size:=by
      unfold isXo at hj
      cases hg:ops.toArray[j]? with
      | none=>simp [hg] at hj
      | some o=>exact (Array.getElem?_eq_some_iff.1 hg).1
     have:=h3 j (List.mem_range.2 hlt)
     simpa [hj,hne,hlj] using this
    ·unfold Region.free at h2
     simp only [ho'] at h2
     rw [List.all_eq_true] at h2
     have hlt:=(Array.getElem?_eq_some_iff.1 hoj).1
     have:=h2 j (List.mem_range.2 hlt)
     simp only [hoj,Bool.or_eq_true] at this
     rcases this with (h5|h5)|h5|h5
     ·exact absurd (by simpa using h5) hne
     ·rw [hl] at h5;cases h5
     ·rw [Array.any_eq_true'] at h5
      obtain ⟨e,he,hb⟩:=h5
      rw [Bool.and_eq_true] at hb
      exact absurd (by simpa using hb.2) (hed e he hb.1)
     ·exact h5
 | one i r =>
  intro n listed σ a w hok hdc hd hst
  cases n with
  | zero=>cases hok
  | succ n =>
   simp only [okSch,Bool.and_eq_true,beq_iff_eq] at hok
   simp only [dgo] at hd
   cases ho:nth ops i with
   | none=>simp [ho] at hd
   | some o =>
    simp only [ho] at hd
    refine ⟨fun e=>(by rw [hok.1] at e;cases e),fun j hj=>?_⟩
    have hji:=hj
    rw [hok.1] at hji
    obtain rfl:j=i:=by simpa using hji
    exact hbr m n j r o listed σ a w (ih r n) hj hok.2 hdc ho hd hst
 | two i r j s =>
  intro n listed σ a w hok hdc hd hst
  cases n with
  | zero=>cases hok
  | succ n =>
   simp only [okSch,Bool.and_eq_true,beq_iff_eq] at hok
   simp only [dgo] at hd
   cases ho:nth ops i with
   | none=>simp [ho] at hd
   | some o =>
   cases ho2:nth ops j with
   | none=>simp [ho,ho2] at hd
   | some o2 =>
    simp only [ho,ho2] at hd
    refine ⟨fun e=>(by rw [hok.1.1] at e;cases e),fun k hk=>?_⟩
    have hki:=hk
    rw [hok.1.1] at hki
    simp only [List.mem_cons,List.not_mem_nil,or_false] at hki
    rcases hki with rfl|rfl
    ·exact hbr m n k r o listed σ a w (ih r n) hk hok.1.2 hdc ho hd.1 hst
    ·exact hbr m n k s o2 listed σ a w (ih s n) hk hok.2 hdc ho2 hd.2 hst
 | three i r j s k t =>
  intro n listed σ a w hok hdc hd hst
  cases n with
  | zero=>cases hok
  | succ n =>
   simp only [okSch,Bool.and_eq_true,beq_iff_eq] at hok
   simp only [dgo] at hd
   cases ho:nth ops i with
   | none=>simp [ho] at hd
   | some o =>
   cases ho2:nth ops j with
   | none=>simp [ho,ho2] at hd
   | some o2 =>
   cases ho3:nth ops k with
   | none=>simp [ho,ho2,ho3] at hd
   | some o3 =>
    simp only [ho,ho2,ho3] at hd
    refine ⟨fun e=>(by rw [hok.1.1.1] at e;cases e),fun l hl=>?_⟩
    have hki:=hl
    rw [hok.1.1.1] at hki
    simp only [List.mem_cons,List.not_mem_nil,or_false] at hki
    rcases hki with rfl|rfl|rfl
    ·exact hbr m n l r o listed σ a w (ih r n) hl hok.1.1.2 hdc ho hd.1 hst
    ·exact hbr m n l s o2 listed σ a w (ih s n) hl hok.1.2 hdc ho2 hd.2.1 hst
    ·exact hbr m n l t o3 listed σ a w (ih t n) hl hok.2 hdc ho3 hd.2.2 hst
theorem DC_start {md:Region.Mode} {ops:Array Oper}:DC md ops (Array.replicate ops.size false):=by
 intro j o _ hj
 rw [Array.getD_eq_getD_getElem?,Array.getElem?_replicate] at hj
 split at hj<;>simp at hj
theorem DrawK.of {id:Nat} {ops:Array Oper} (sch:Sch) (n:Nat) (hok:(Region.noSelect ops && okSch ops ops.size (Array.replicate ops.size false) sch)=true)
  (hd:dgo 200 X ops.toList (DEnd n X S id) sch () σ):DrawK X id ops S σ:=by
 intro w0 hw0 a w hst
 rw [Bool.and_eq_true] at hok
 refine wp_region_any X.E.mixed (wpAny_of_R _ _ _ _ (isX:=isXo ops) ?_)
 obtain ⟨ι,hst⟩:=hst
 exact dgo_sound (ops:=ops.toList) (K:=DEnd n X S id) (S:=S) hok.1 hw0 (fun σ' a w hk hst=>go_sound n (it:=.nrm) hk w0 hw0 a w (hst.trim (X.L id))) 200 sch ops.size _ σ a _ hok.2 DC_start hd ⟨ι,hst.ext (Ext.drew noB w)⟩
theorem DrawK.cut {id:Nat} {ops:Array Oper} (sch:Sch) (n:Nat) (hok:(Region.noSelect ops && okSch ops ops.size (Array.replicate ops.size false) sch)=true) (τ:LS)
  (hd:dgo 200 X ops.toList (DLe τ) sch () σ) (hg:go n X .nrm S (τ.trim (X.L id))):DrawK X id ops S σ:=by
 intro w0 hw0 a w hst
 rw [Bool.and_eq_true] at hok
 refine wp_region_any X.E.mixed (wpAny_of_R _ _ _ _ (isX:=isXo ops) ?_)
 obtain ⟨ι,hst⟩:=hst
 exact dgo_sound (ops:=ops.toList) (K:=DLe τ) (S:=S) hok.1 hw0 (fun σ' a w hk hst=>go_sound n (it:=.nrm) hg w0 hw0 a w ((hk _ _ _ _ hst).trim (X.L id))) 200 sch ops.size _ σ a _ hok.2 DC_start hd ⟨ι,hst.ext (Ext.drew noB w)⟩
end
end Go.LS
