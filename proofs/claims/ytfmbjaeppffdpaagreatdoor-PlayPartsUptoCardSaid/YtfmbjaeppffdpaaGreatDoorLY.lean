/- Part LY: 2 texts,one behind the other. -/
import Derived.Test.YtfmbjaeppffdpaaGreatDoorLD
/- An operation that only reads may be taken ahead of a store to a variable that is yet to be made. -/
namespace Go.LS
open Go Go.RowKit
set_option linter.unusedVariables false
set_option linter.unusedSimpArgs false
def isCells (w:World) (b:Nat):Prop:=∃ cs t fz,w.heap[b]?=some (.cells cs t fz)
theorem store_cells {P:Program} {m:Mode} {a:Addr} {v:Value} {w w':World} (hc:isCells w a.block) (h:(store a v m).run P w=.ok () w'):Ext (·=a.block) w w'∧isCells w' a.block:=by
 obtain ⟨cs,t,fz,hb⟩:=hc
 have key:∀ {r:Result Unit},(match w.cell? a with
   | some _=>if w.frozen? a then .halt (.unsupported (.unsafePointer "a write to bytes that a string shares")) w else .ok () (w.setCell a v)
   | none=>match w.farStore P a v (m == .atomic) with
    | .ok (w',_)=>.ok () w'
    | .error h=>.halt h w)=r→r=.ok () w'→Ext (·=a.block) w w'∧isCells w' a.block:=by
  intro r hr he
  subst hr
  split at he
  ·split at he
   ·cases he
   ·injection he with _ he
    subst he
    refine ⟨⟨rfl,rfl,rfl,by simp [World.setCell],fun k hk hn=>?_⟩,?_⟩
    ·simp only [World.setCell]
     rw [Array.getElem?_modify,if_neg (fun e=>hn e.symm)]
    ·refine ⟨if a.spot.isSome then cs else cs.setIfInBounds a.off v,t,fz,?_⟩
     simp only [World.setCell]
     rw [Array.getElem?_modify,if_pos rfl,hb]
     rfl
  ·rename_i hnone
   have:w.farStore P a v (m == .atomic)=.error (w.noCell a "store: no such cell"):=by
    unfold World.farStore
    rw [hb]
   rw [this] at he
   cases he
 cases v with
 | agg x=>simp only [store,Sem.run] at h;cases h
 | tuple x=>simp only [store,Sem.run] at h;cases h
 | _=>exact key (run_store P w a _ m rfl).symm h
theorem add_blockW (a:Addr) (i:Nat):(a.add i).block=a.block:=by
 unfold Addr.add
 split<;>rfl
theorem storeCells_cells {P:Program} {a:Addr}:∀ (vs:List Value) (i:Nat) (w w':World),isCells w a.block→(storeCells a vs i).run P w=.ok () w'→Ext (·=a.block) w w'∧isCells w' a.block
 | [],i,w,w',hc,h=>by
  simp only [storeCells,Sem.run_pure] at h
  injection h with _ h
  subst h
  exact ⟨Ext.refl _ _,hc⟩
 | v::vs,i,w,w',hc,h=>by
  simp only [storeCells,Sem.run_bind] at h
  cases hr:(store (a.add i) v).run P w with
  | halt x w1=>rw [hr] at h;cases h
  | ok u w1 =>
   rw [hr,Result.andThen_ok] at h
   have h1:=store_cells (a:=a.add i) (by rw [add_blockW];exact hc) hr
   rw [add_blockW] at h1
   have h2:=storeCells_cells vs (i+1) w1 w' h1.2 h
   exact ⟨h1.1.trans h2.1,h2.2⟩
theorem storeAt_cells {P:Program} {t:TypeId} {A:Addr} {v:Value} {w w':World} {u:Unit} (hc:isCells w A.block) (h:(Instr.storeAt t (.pointer (some A)) v).run P w=.ok u w'):Ext (·=A.block) w w'∧isCells w' A.block:=by
 simp only [Instr.storeAt,Instr.sureAddr,storeVar,Sem.run_bind,Sem.run_pure,Result.andThen_ok] at h
 cases hs:(sizeOf t).run P w with
 | halt x w1=>rw [hs] at h;cases h
 | ok n w1 =>
  have:w1=w:=by
   simp only [sizeOf,typeInfo,program,Sem.run_bind,Sem.run] at hs
   cases hi:P.info? t with
   | none=>simp [hi,Result.andThen,stuck,Sem.run] at hs
   | some x=>simp [hi,Result.andThen,Sem.run] at hs;exact hs.2.symm
  subst this
  rw [hs,Result.andThen_ok,Sem.run_ite] at h
  split at h
  ·simp [stuck,Sem.run,Result.andThen] at h
  ·cases u
   exact storeCells_cells _ 0 _ _ hc (by simpa [Sem.run_bind,Sem.run_pure,Result.andThen] using h)
theorem alloc_run {P:Program} {t:TypeId} {ρ:Operand→Value} {o:Oper} (ho:o.op=.alloc t) {w w':World} {n:Next} (h:(execOp ρ o).run P w=.ok n w'):n=.value (.pointer (some ⟨w.heap.size,0,none⟩))∧isCells w' w.heap.size:=by
 simp only [execOp,ho,Instr.alloc,newVar,newRow,newObj,Sem.run_bind] at h
 cases hz:(zeroValue t).run P w with
 | halt x w1=>rw [hz] at h;cases h
 | ok z w1 =>
  have:w1=w:=by
   simp only [zeroValue,typeInfo,program,Sem.run_bind,Sem.run] at hz
   cases hi:P.info? t with
   | none=>simp [hi,Result.andThen,stuck,Sem.run] at hz
   | some x =>
    simp only [hi,Sem.run_pure,Result.andThen_ok] at hz
    cases hx:x.zero with
    | none=>simp [hx,unsupported,Sem.run] at hz
    | some v=>simp [hx,Sem.run] at hz;exact hz.2.symm
  subst this
  rw [hz] at h
  simp [Result.andThen,Sem.run] at h
  obtain ⟨rfl,rfl⟩:=h
  refine ⟨rfl,?_⟩
  exact ⟨_,_,_,heap_alloc_new w1 _⟩
section any
variable {P:Program} {md:Region.Mode} {ops:Array Oper} {Q:Exit→Act→World→Prop} {isX:Nat→Bool}
structure StepF (o:Oper) (a:Act) (w:World) (a':Act) (w':World):Prop where
 keep:∀ p,o.dst≠some p→a'.eval (.tmp p)=a.eval (.tmp p)
 made:∀ t p,o.op=.alloc t→o.guard=none→o.dst=some p→∀ ad,a'.eval (.tmp p)=.pointer (some ad)→w.heap.size≤ad.block∧isCells w' ad.block
 put:∀ t x y,o.op=.store t x y→∀ ad,a.eval x=.pointer (some ad)→isCells w ad.block→Ext (·=ad.block) w w'∧isCells w' ad.block
 none:∀ t x y,o.op=.store t x y→(¬ ∃ ad,a.eval x=.pointer (some ad))→w'=w
theorem eval_put_other {a:Act} {d:Option Tmp} {v:Value} {p:Tmp} (h:d≠some p):(a.put d v).eval (.tmp p)=a.eval (.tmp p) :=
 Act.eval_put fun e he hx=>by injection hx with hx;subst hx;exact h he
theorem eval_put_ptr {a:Act} {p:Tmp} {v:Value} {ad:Addr} (h:(a.put (some p) v).eval (.tmp p)=.pointer (some ad)):v=.pointer (some ad):=by
 simp only [Act.eval,Act.put,Array.getD_eq_getD_getElem?,Array.getElem?_setIfInBounds] at h
 split at h
 ·split at h
  ·simpa using h
  ·simp [undef] at h
 ·rename_i e;exact (e trivial).elim
theorem storeAt_ptr {t:TypeId} {x y:Value} {w w':World} {u:Unit} (h:(Instr.storeAt t x y).run P w=.ok u w'):∃ ad,x=.pointer (some ad):=by
 cases x with
 | pointer p=>cases p with
  | none=>simp [Instr.storeAt,Instr.sureAddr,stuck,Sem.run_bind,Sem.run,Result.andThen] at h
  | some ad=>exact ⟨ad,rfl⟩
 | _=>simp [Instr.storeAt,Instr.sureAddr,stuck,Sem.run_bind,Sem.run,Result.andThen] at h
theorem wpOp_facts {j:Nat} {o:Oper} (hj:ops[j]?=some o) {K:Act→World→Prop} {a:Act} {w:World} (h:wpOp P ops Q j K a w):wpOp P ops Q j (fun a' w'=>StepF o a w a' w'∧K a' w') a w:=by
 unfold wpOp at *
 simp only [hj] at *
 split
 ·rename_i hw
  simp only [hw,if_true] at h
  refine h.imp (fun h=>?_) id
  unfold Oper.wp at *
  cases hr:(execOp a.eval o).run P w with
  | halt x w'=>rw [hr] at h;cases x<;>simp only [Oper.upon] at h ⊢<;>exact h
  | ok n w' =>
   rw [hr] at h
   have hal:∀ t,o.op=.alloc t→n=.value (.pointer (some ⟨w.heap.size,0,none⟩))∧isCells w' w.heap.size:=fun t ho=>alloc_run ho hr
   have hst:∀ t x y,o.op=.store t x y→n=.skip∧(∃ ad,a.eval x=.pointer (some ad))∧∀ ad,a.eval x=.pointer (some ad)→isCells w ad.block→Ext (·=ad.block) w w'∧isCells w' ad.block:=by
    intro t x y ho
    simp only [execOp,ho,Sem.run_bind] at hr
    cases hs:(Instr.storeAt t (a.eval x) (a.eval y)).run P w with
    | halt z w1=>rw [hs] at hr;cases hr
    | ok u w1 =>
     rw [hs] at hr
     simp only [Result.andThen_ok,Sem.run_pure] at hr
     injection hr with h1 h2
     subst h1 h2
     refine ⟨rfl,storeAt_ptr hs,fun ad had hc=>?_⟩
     rw [had] at hs
     exact storeAt_cells hc hs
   have hst0:∀ t x y,o.op=.store t x y→∀ ad,a.eval x=.pointer (some ad)→isCells w ad.block→Ext (·=ad.block) w w'∧isCells w' ad.block:=fun t x y ho=>(hst t x y ho).2.2
   have hst1:∀ t x y,o.op=.store t x y→(¬ ∃ ad,a.eval x=.pointer (some ad))→w'=w:=fun t x y ho hn=>(hn (hst t x y ho).2.1).elim
   have hno:(∀ v,n≠.value v)→∀ t,o.op≠.alloc t:=fun hn t ho=>hn _ (hal t ho).1
   have hns:n≠.skip→∀ t x y,o.op≠.store t x y:=fun hn t x y ho=>hn (hst t x y ho).1
   cases n with
   | value v =>
    simp only [Oper.upon] at h ⊢
    refine ⟨⟨fun p hp=>eval_put_other hp,fun t p ho _ hd ad had=>?_,hst0,hst1⟩,h⟩
    obtain ⟨h1,h2⟩:=hal t ho
    rw [hd] at had
    have h3:=eval_put_ptr had
    injection h1 with h1
    rw [h1] at h3
    injection h3 with h3
    injection h3 with h3
    subst h3
    exact ⟨Nat.le_refl _,h2⟩
   | skip =>
    simp only [Oper.upon] at h ⊢
    exact ⟨⟨fun p hp=>eval_put_other hp,fun t p ho=>(hno (fun v e=>by cases e) t ho).elim,hst0,hst1⟩,h⟩
   | defer d =>
    simp only [Oper.upon] at h ⊢
    exact ⟨⟨fun p hp=>eval_put_other (a:={ a with defers:=d::a.defers }) hp,fun t p ho=>(hno (fun v e=>by cases e) t ho).elim,hst0,hst1⟩,h⟩
   | enter f args =>
    simp only [Oper.upon] at h ⊢
    refine Calls.mono h fun e w'' he=>?_
    cases e with
    | returned u=>exact ⟨⟨fun p hp=>eval_put_other hp,fun t p ho=>(hno (fun v e=>by cases e) t ho).elim,fun t x y ho=>(hns (fun e=>by cases e) t x y ho).elim,fun t x y ho=>(hns (fun e=>by cases e) t x y ho).elim⟩,he⟩
    | panicked c=>exact he
    | outgrown=>exact he
   | row row args =>
    simp only [Oper.upon] at h ⊢
    exact Rows.mono h fun u w'' he=>⟨⟨fun p hp=>eval_put_other hp,fun t p ho=>(hno (fun v e=>by cases e) t ho).elim,fun t x y ho=>(hns (fun e=>by cases e) t x y ho).elim,fun t x y ho=>(hns (fun e=>by cases e) t x y ho).elim⟩,he⟩
   | _=>simp only [Oper.upon] at h
 ·rename_i hw
  rw [if_neg hw] at h
  refine ⟨⟨fun p hp=>eval_put_other hp,fun t p ho hg=>?_,fun t x y ho ad had hc=>⟨Ext.refl _ _,hc⟩,fun _ _ _ _ _=>rfl⟩,h⟩
  exact (hw (wanted_none hg)).elim
structure XFresh (md:Region.Mode) (ops:Array Oper) (j A:Nat) (p:Tmp):Prop where
 store:∃ oj t x,ops[j]?=some oj∧oj.op=.store t (.tmp p) x∧∃ e∈oj.after,Region.binds md e=true∧e.on=A
 alloc:∃ oA t,ops[A]?=some oA∧oA.op=.alloc t∧oA.guard=none∧oA.dst=some p
 only:∀ (k:Nat) (ok:Oper),ops[k]?=some ok→ok.dst=some p→k=A
def FreshT (n0:Nat) (p:Tmp) (a:Act) (w:World):Prop:=∀ ad,a.eval (.tmp p)=.pointer (some ad)→n0≤ad.block∧isCells w ad.block
theorem isCells.lt {w:World} {b:Nat} (h:isCells w b):b<w.heap.size:=by
 obtain ⟨_,_,_,h⟩:=h
 exact (Array.getElem?_eq_some_iff.1 h).1
theorem isCells.ext {M:Nat→Prop} {w w':World} {b:Nat} (h:isCells w b) (he:Ext M w w') (hm:¬ M b):isCells w' b:=by
 have:=he.block b h.lt hm
 obtain ⟨x,y,z,h⟩:=h
 exact ⟨x,y,z,this.trans h⟩
theorem wpAnyR_firstX {i:Nat} {oi:Oper} {v:Value} {w0:World} (hoi:ops[i]?=some oi)
  (hsel:∀ (j:Nat) (o:Oper) (cs:Array SelectCase) (b:Bool),ops[j]?=some o→o.op≠Op.select cs b)
  (hQ:∀ (c:List PanicEntry) (a:Act) (w:World),Q (Exit.panic c) (a.put oi.dst v) w→Q (Exit.panic c) a w) :
  ∀ (fuel:Nat) (listed:Array Bool) (a:Act) (w:World),DC md ops listed →
   (∀ (j:Nat) (oj:Oper),ops[j]?=some oj→j≠i→listed.getD j true=false→(∀ e∈oj.after,Region.binds md e=true→e.on≠i)→Oper.apart ops oi oj=true) →
   (∀ j,isX j=true→j≠i→listed.getD j true=false→reach md ops i ops.size j=true∨∃ A p,XFresh md ops j A p∧(listed.getD A false=true→FreshT w0.heap.size p a w)) →
   i∈Region.ready md ops listed→YieldsIf P ops (fun w'=>Ext noB w0 w') oi v a→Ext noB w0 w →
   wpAnyR P md ops Q isX fuel (listed.setIfInBounds i true) (a.put oi.dst v) w→wpAnyR P md ops Q isX (fuel+1) listed a w:=by
 intro fuel
 induction fuel with
 | zero =>
  intro listed a w hdc hap hX hi hy h0 h
  refine ⟨fun e=>(by rw [e] at hi;cases hi),fun j hj=>?_⟩
  by_cases e:j=i
  ·subst e
   exact YieldsIf.wpOp hoi hy h0 ⟨fun _=>Ext.refl _ _,h⟩
  ·have:=ready_mono hj e
   rw [h.1] at this
   cases this
 | succ fuel ih =>
  intro listed a w hdc hap hX hi hy h0 h
  refine ⟨fun e=>(by rw [e] at hi;cases hi),fun j hj=>?_⟩
  by_cases e:j=i
  ·subst e
   exact YieldsIf.wpOp hoi hy h0 ⟨fun _=>Ext.refl _ _,h⟩
  ·obtain ⟨hjl,hju,oj,hoj,hjd⟩:=ready_mem hj
   have hil:listed.getD i true=false:=(ready_mem hi).2.1
   have hilf:listed.getD i false=false:=by
    have hlt:=(ready_mem hi).1
    rw [Array.getD_eq_getD_getElem?] at hil ⊢
    cases hg:listed[i]? with
    | none=>rfl
    | some b=>rw [hg] at hil;simpa using hil
   have hXj:isX j=true→∃ A p,XFresh md ops j A p∧(listed.getD A false=true→FreshT w0.heap.size p a w):=fun hx=>by
    rcases hX j hx e hju with hr|hr
    ·have:=reach_listed hdc ops.size j hr (fun o ho e' he' hb'=>by rw [hoj] at ho;injection ho with ho;subst ho;exact hjd e' he' hb')
     rw [hilf] at this
     cases this
    ·exact hr
   have hapj:Oper.apart ops oi oj=true:=hap j oj hoj e hju (fun e' he' hb' hon=>by
    have:=hjd e' he' hb'
    rw [hon,hilf] at this
    cases this)
   have h2:=h.2 j (ready_mono hj e)
   have h3:=wpOp_facts hoj (wpOp_putIf hoj hapj (hsel i oi · · hoi) (hsel j oj · · hoj) hQ hy h2)
   refine Go.wpOp_mono ?_ h3
   rintro a' w' ⟨hF,hy',hext,hk⟩
   have hM:∃ M:Nat→Prop,Ext M w w'∧(∀ b,M b→w0.heap.size≤b)∧∀ b,isCells w b→isCells w' b:=by
    cases hx:isX j with
    | false=>exact ⟨noB,hext hx,fun b hb=>hb.elim,fun b hb=>hb.ext (hext hx) id⟩
    | true =>
     obtain ⟨A,p,hXF,hfr⟩:=hXj hx
     obtain ⟨oj',t,x,g1,g2,ee,g3,g4,g5⟩:=hXF.store
     rw [hoj] at g1
     injection g1 with g1
     subst g1
     have hAl:listed.getD A false=true:=by rw [← g5];exact hjd ee g3 g4
     have hfr:=hfr hAl
     by_cases hp:∃ ad,a.eval (.tmp p)=.pointer (some ad)
     ·obtain ⟨ad,had⟩:=hp
      obtain ⟨n1,n2⟩:=hfr ad had
      obtain ⟨m1,m2⟩:=hF.put t (.tmp p) x g2 ad had n2
      refine ⟨_,m1,fun b hb=>by rw [hb];exact n1,fun b hb=>?_⟩
      by_cases hbe:b=ad.block
      ·rw [hbe];exact m2
      ·exact hb.ext m1 hbe
     ·have:=hF.none t (.tmp p) x g2 hp
      subst this
      exact ⟨noB,Ext.refl _ _,fun b hb=>hb.elim,fun b hb=>hb⟩
   obtain ⟨M,hM1,hM2,hM3⟩:=hM
   have h0':Ext noB w0 w':=⟨hM1.os.trans h0.os,hM1.tape.trans h0.tape,hM1.output.trans h0.output,Nat.le_trans h0.size hM1.size,fun k hk hn=>by
    rw [hM1.block k (Nat.lt_of_lt_of_le hk h0.size) (fun hm=>by have:=hM2 k hm;omega)]
    exact h0.block k hk hn⟩
   refine ⟨hext,ih _ a' w' (hdc.step hj) (fun k ok hok hki hku hed=>hap k ok hok hki ?_ hed) ?_ (ready_mono hi (Ne.symm e)) hy' h0' ?_⟩
   ·by_cases e2:k=j
    ·subst e2;exact hju
    ·rwa [getD_set_ne e2] at hku
   ·intro k hk1 hk2 hk3
    have hku:listed.getD k true=false:=by
     by_cases e2:k=j
     ·subst e2;exact hju
     ·rwa [getD_set_ne e2] at hk3
    rcases hX k hk1 hk2 hku with hr|⟨A,p,hXF,hfr⟩
    ·exact .inl hr
    ·refine .inr ⟨A,p,hXF,fun hA ad had=>?_⟩
     obtain ⟨oA,t,q1,q2,q3,q4⟩:=hXF.alloc
     by_cases eA:j=A
     ·subst eA
      rw [hoj] at q1
      injection q1 with q1
      subst q1
      obtain ⟨n1,n2⟩:=hF.made t p q2 q3 q4 ad had
      exact ⟨Nat.le_trans h0.size n1,n2⟩
     ·rw [getD_set_ne (fun e=>eA e.symm)] at hA
      rw [hF.keep p (fun hd=>eA (hXF.only j oj hoj hd))] at had
      obtain ⟨n1,n2⟩:=hfr hA ad had
      exact ⟨n1,hM3 _ n2⟩
   ·rwa [Array.setIfInBounds_comm _ _ e]
end any
end Go.LS
/- Regions of which four operations may be drawn at once. -/
namespace Go.LS.F4
open Go Go.RowKit Go.LS
/-! ### Over logical states -/
inductive Sch where
 | done
 | take (i:Nat) (r:Sch)
 | one (i:Nat) (r:Sch)
 | two (i:Nat) (r:Sch) (j:Nat) (s:Sch)
 | three (i:Nat) (r:Sch) (j:Nat) (s:Sch) (k:Nat) (t:Sch)
 | four (i:Nat) (r:Sch) (j:Nat) (s:Sch) (k:Nat) (t:Sch) (l:Nat) (u:Sch)
def badOp:Op→Bool
 | .store _ _ _=>true
 | .mapUpdate _ _ _ _=>true
 | .call ⟨.builtin .append,_,_⟩=>true
 | .call ⟨.builtin .delete,_,_⟩=>true
 | _=>false
def isXo (ops:Array Oper) (i:Nat):Bool:=match ops[i]? with
 | some o=>badOp o.op
 | none=>false
def isMvO (o:Oper):Bool:=match o.op,o.guard with
 | .move _,none=>true
 | _,_=>false
def isMv (ops:Array Oper) (i:Nat):Bool:=match ops[i]? with
 | some o=>isMvO o
 | none=>false
def isAl (ops:Array Oper) (A:Nat) (p:Tmp):Bool:=match ops[A]? with
 | some o=>match o.op,o.guard,o.dst with
  | .alloc _,none,some d=>d == p
  | _,_,_=>false
 | none=>false
def dstIs (ops:Array Oper) (k:Nat) (p:Tmp):Bool:=match ops[k]? with
 | some o=>match o.dst with
  | some d=>d == p
  | none=>false
 | none=>false
def freshB (ops:Array Oper) (listed:Array Bool) (j:Nat):Bool:=match ops[j]? with
 | some o=>match o.op with
  | .store _ (.tmp p) _=>(List.range ops.size).any fun A=>!listed.getD A true && (isAl ops A p && (o.after.any (fun e=>Region.binds .any e && e.on == A) && (List.range ops.size).all fun k=>k == A || !dstIs ops k p))
  | _=>false
 | none=>false
theorem freshB_spec {ops:Array Oper} {listed:Array Bool} {j:Nat} (h:freshB ops listed j=true):∃ A p,XFresh .any ops j A p∧listed.getD A false=false:=by
 unfold freshB at h
 split at h
 ·rename_i o ho
  split at h
  ·rename_i t p x hop
   rw [List.any_eq_true] at h
   obtain ⟨A,_,h⟩:=h
   simp only [Bool.and_eq_true,Bool.not_eq_true',List.all_eq_true,Array.any_eq_true',beq_iff_eq] at h
   obtain ⟨h1,h2,⟨e,he,hb,hon⟩,h4⟩:=h
   refine ⟨A,p,⟨⟨o,t,x,ho,hop,e,he,hb,hon⟩,?_,fun k ok hk hd=>?_⟩,?_⟩
   ·unfold isAl at h2
    split at h2
    ·rename_i oA hA
     split at h2
     ·rename_i t' d e1 e2 e3
      exact ⟨oA,t',hA,e1,e2,by rw [e3,eq_of_beq h2]⟩
     ·cases h2
    ·cases h2
   ·have hlt:=(Array.getElem?_eq_some_iff.1 hk).1
    have:=h4 k (List.mem_range.2 hlt)
    rw [Bool.or_eq_true] at this
    rcases this with h5|h5
    ·exact eq_of_beq h5
    ·simp [dstIs,hk,hd] at h5
   ·rw [Array.getD_eq_getD_getElem?] at h1 ⊢
    cases hg:listed[A]? with
    | none=>rfl
    | some b=>rw [hg] at h1;simpa using h1
  ·cases h
 ·cases h
def okTake (ops:Array Oper) (listed:Array Bool) (i:Nat):Bool :=
 (Region.ready .any ops listed).contains i && Region.free .any ops listed i && (isMv ops i || (List.range ops.size).all fun j=>!isXo ops j || j == i || listed.getD j true || reach .any ops i ops.size j || freshB ops listed j)
def okSch (ops:Array Oper):Nat→Array Bool→Sch→Bool
 | _,listed,.done=>(Region.ready .any ops listed).isEmpty
 | n+1,listed,.take i r=>okTake ops listed i && okSch ops n (listed.setIfInBounds i true) r
 | n+1,listed,.one i r=>Region.ready .any ops listed == [i] && okSch ops n (listed.setIfInBounds i true) r
 | n+1,listed,.two i r j s=>Region.ready .any ops listed == [i,j] && okSch ops n (listed.setIfInBounds i true) r && okSch ops n (listed.setIfInBounds j true) s
 | n+1,listed,.three i r j s k t=>Region.ready .any ops listed == [i,j,k] && okSch ops n (listed.setIfInBounds i true) r && okSch ops n (listed.setIfInBounds j true) s && okSch ops n (listed.setIfInBounds k true) t
 | n+1,listed,.four i r j s k t l u=>Region.ready .any ops listed == [i,j,k,l] && okSch ops n (listed.setIfInBounds i true) r && okSch ops n (listed.setIfInBounds j true) s && okSch ops n (listed.setIfInBounds k true) t && okSch ops n (listed.setIfInBounds l true) u
 | 0,_,_=>false
def stepQ (f:Sch→Unit→LS→Prop) (X:Cx) (o:Oper) (r:Sch) (u:Unit) (σ:LS):Prop :=
 match o.op with
 | .pick c x y=>match ev σ c with
  | .c (.d (.v (.bool b)))=>BrP b f r u (σ.putO o.dst (ev σ x)) f r u (σ.putO o.dst (ev σ y))
  | _=>False
 | op=>QrP (q X.E.T σ op) f r u σ o.dst (fun _=>False)
def stepQG (f:Sch→Unit→LS→Prop) (X:Cx) (all:List Oper) (o:Oper) (r:Sch) (u:Unit) (σ:LS):Prop :=
 match o.guard with
 | none=>stepQ f X o r u σ
 | some (j,want)=>match gslot all j with
  | some d=>GrP (gbOf (getS σ.sl d)) want (stepQ f X o) r u σ f r u (σ.putO o.dst (.tu []))
  | none=>False
def gOf (f:Sch→Unit→LS→Prop) (r:Sch) (_:It) (_:List Fr) (σ:LS):Prop:=f r () σ
def dgo:Nat→Cx→List Oper→(LS→Prop)→Sch→Unit→LS→Prop
 | 0,_,_,_,_,_,_=>False
 | _+1,_,_,K,.done,_,σ=>K σ
 | n+1,X,ops,K,.take i r,u,σ=>match nth ops i with
  | some o=>okD X.N o.dst=true∧stepQG (dgo n X ops K) X ops o r u σ
  | none=>False
 | n+1,X,ops,K,.one i r,_,σ=>match nth ops i with
  | some o=>okD X.N o.dst=true∧stepG (gOf (dgo n X ops K) r) X ops 0 o [] [] σ
  | none=>False
 | n+1,X,ops,K,.two i r j s,_,σ=>match nth ops i,nth ops j with
  | some o,some o'=>(okD X.N o.dst=true∧stepG (gOf (dgo n X ops K) r) X ops 0 o [] [] σ)∧(okD X.N o'.dst=true∧stepG (gOf (dgo n X ops K) s) X ops 0 o' [] [] σ)
  | _,_=>False
 | n+1,X,ops,K,.three i r j s k t,_,σ=>match nth ops i,nth ops j,nth ops k with
  | some o,some o',some o''=>(okD X.N o.dst=true∧stepG (gOf (dgo n X ops K) r) X ops 0 o [] [] σ)∧(okD X.N o'.dst=true∧stepG (gOf (dgo n X ops K) s) X ops 0 o' [] [] σ)∧(okD X.N o''.dst=true∧stepG (gOf (dgo n X ops K) t) X ops 0 o'' [] [] σ)
  | _,_,_=>False
 | n+1,X,ops,K,.four i r j s k t l u,_,σ=>match nth ops i,nth ops j,nth ops k,nth ops l with
  | some o,some o',some o'',some o3=>(okD X.N o.dst=true∧stepG (gOf (dgo n X ops K) r) X ops 0 o [] [] σ)∧(okD X.N o'.dst=true∧stepG (gOf (dgo n X ops K) s) X ops 0 o' [] [] σ)∧(okD X.N o''.dst=true∧stepG (gOf (dgo n X ops K) t) X ops 0 o'' [] [] σ)∧(okD X.N o3.dst=true∧stepG (gOf (dgo n X ops K) u) X ops 0 o3 [] [] σ)
  | _,_,_,_=>False
def DEnd (n:Nat) (X:Cx) (S:List Fr) (id:Nat) (σ':LS):Prop:=go n X .nrm S (σ'.trim (X.L id))
def DLe (τ σ':LS):Prop:=Le σ' τ
section
variable {X:Cx} {S:List Fr} {σ σ' τ:LS} {w0:W0} {a:Act} {w w':World} {ι:Io} {K:LS→Prop}
def Then (X:Cx) (w0:W0) (K:LS→Prop) (w:World) (bad:Bool) (a':Act) (w':World):Prop:=(bad=false→Ext noB w w')∧∃ σ',K σ'∧St X.N w0 σ' a' w'
theorem then_does {bad:Bool} {o:Oper} {x:LV} {Q:Exit→Act→World→Prop} (hd:okD X.N o.dst=true) (hk:K (σ'.putO o.dst x)) {ι':Io} (h:StI X.N w0 ι' σ' a w') {v:Value} (hv:dlv w' (own ι' σ'.ob) ι' σ'.ob x v) (he:bad=false→Ext noB w w')
  (hr:(execOp a.eval o).run X.E.P w=.ok (.value v) w'∨((execOp a.eval o).run X.E.P w=.ok .skip w'∧v=undef)):Oper.wp X.E.P o a w (Then X w0 K w bad) Q :=
 wp_does hr ⟨he,_,hk,ι',h.putO (okD_lt hd) hv⟩
theorem stepE0_then {f:Sch→Unit→LS→Prop} {rr:Sch} {all:List Oper} {o:Oper} {Q:Exit→Act→World→Prop} (hd:okD X.N o.dst=true) (hs:stepE0 (gOf f rr) X all 0 o [] [] σ)
  (h:StI X.N w0 ι σ a w):Oper.wp X.E.P o a w (Then X w0 (f rr ()) w (badOp o.op)) Q:=by
 unfold stepE0 ErP at hs
 split at hs
 ·rename_i hq p σ' x he
  obtain ⟨hp,hg⟩:=hs
  obtain ⟨ι',v,w',h1,h2,h3,h4⟩:=eff_sound X.E.hT h he hp
  refine then_does hd hg h2 h3 (fun hb=>h4 ?_) (h1 o rfl)
  generalize o.op=op at he hb
  unfold eff at he
  split at he
  ·rfl
  ·rfl
  ·rfl
  ·rfl
  ·rfl
  ·rfl
  ·cases hb
  ·cases hb
  ·rfl
  ·rename_i c
   unfold ecall at he
   split at he
   ·rename_i s x e1 e2
    obtain ⟨callee,args,ts⟩:=c
    simp only at e1
    subst e1
    cases hb
   ·rename_i s x e1 e2
    obtain ⟨callee,args,ts⟩:=c
    simp only at e1
    subst e1
    cases hb
   ·cases he
  ·cases he
 ·exact hs.elim
theorem stepE_then {f:Sch→Unit→LS→Prop} {rr:Sch} {all:List Oper} {o:Oper} {Q:Exit→Act→World→Prop} (hd:okD X.N o.dst=true) (hs:stepE (gOf f rr) X all 0 o [] [] σ)
  (h:StI X.N w0 ι σ a w):Oper.wp X.E.P o a w (Then X w0 (f rr ()) w (badOp o.op)) Q:=by
 unfold stepE WayP at hs
 cases hpx:X.E.px with
 | false=>rw [hpx] at hs;exact stepE0_then hd hs h
 | true =>
  rw [hpx] at hs
  replace hs:stepX (gOf f rr) X all 0 o [] [] σ:=hs
  unfold stepX at hs
  cases hr:effP X.E.T σ o.op with
  | none=>rw [hr] at hs;exact stepE0_then hd hs h
  | some r =>
   rw [hr] at hs
   obtain ⟨ι',v,w',σ',x,h1,h2,h3,h4,as,ts,h5⟩:=px_sound X.E.hT h hr hs
   exact then_does hd h4 h2 h3 (fun hb=>by rw [h5] at hb;cases hb) (h1 o rfl)
theorem stepO_then {f:Sch→Unit→LS→Prop} {rr:Sch} {all:List Oper} {o:Oper} {Q:Exit→Act→World→Prop} (hd:okD X.N o.dst=true) (hs:stepO (gOf f rr) X all 0 o [] [] σ)
  (hw0:GW X.E w0) (h:StI X.N w0 ι σ a w):Oper.wp X.E.P o a w (Then X w0 (f rr ()) w (badOp o.op)) Q:=by
 unfold stepO at hs
 split at hs
 ·rename_i c x y ho
  split at hs
  ·rename_i b hb
   have hc:=h.ev c
   rw [hb] at hc
   have hc':a.eval c=.bool b:=hc.1
   cases b with
   | true=>exact then_does hd (hs.1 rfl) h (h.ev x) (fun _=>Ext.refl _ _) (.inl (by simp only [execOp,ho,hc',asBool,Sem.run_bind,Sem.run_pure,Result.andThen_ok,if_true]))
   | false=>exact then_does hd (hs.2 rfl) h (h.ev y) (fun _=>Ext.refl _ _) (.inl (by simp [execOp,ho,hc',asBool]))
  ·exact hs.elim
 ·rename_i fv as ts ho
  split at hs
  ·rename_i f args σf hp
   obtain ⟨res,hS,hdat,hg⟩:=hs
   exact wp_callR hw0 h ho hp hS hdat hd (fun a w he hst=>⟨fun _=>he,_,hg,hst⟩)
  ·exact hs.elim
 ·unfold QrP at hs
  split at hs
  ·rename_i p z hq
   obtain ⟨hp,hg⟩:=hs
   obtain ⟨v,h1,h2⟩:=q_sound X.E.hT h hq hp
   exact then_does hd hg h h1 (fun _=>Ext.refl _ _) (.inl (h2 o rfl w (Ext.refl _ _)))
  ·exact stepE_then hd hs h
theorem stepG_then {f:Sch→Unit→LS→Prop} {rr:Sch} {all:List Oper} {i:Nat} {o:Oper} {Q:Exit→Act→World→Prop} (ho:all.toArray[i]?=some o) (hd:okD X.N o.dst=true) (hs:stepG (gOf f rr) X all 0 o [] [] σ)
  (hw0:GW X.E w0) (h:StI X.N w0 ι σ a w):wpOp X.E.P all.toArray Q i (Then X w0 (f rr ()) w (isXo all.toArray i)) a w:=by
 have hx:isXo all.toArray i=badOp o.op:=by simp only [isXo,ho]
 rw [hx]
 unfold wpOp
 simp only [ho]
 have hrun:Region.wanted o (yielded all.toArray a.tmps)=true→stepO (gOf f rr) X all 0 o [] [] σ→(if Region.wanted o (yielded all.toArray a.tmps)=true then Oper.wp X.E.P o a w (Then X w0 (f rr ()) w (badOp o.op)) Q∨Oper.asks X.E.P o a w∧LetsOut Q else Then X w0 (f rr ()) w (badOp o.op) (a.put o.dst undef) w):=fun h1 h2=>by
  rw [if_pos h1];exact .inl (stepO_then hd h2 hw0 h)
 have hnot:Region.wanted o (yielded all.toArray a.tmps)=false→f rr () (σ.putO o.dst (.tu []))→(if Region.wanted o (yielded all.toArray a.tmps)=true then Oper.wp X.E.P o a w (Then X w0 (f rr ()) w (badOp o.op)) Q∨Oper.asks X.E.P o a w∧LetsOut Q else Then X w0 (f rr ()) w (badOp o.op) (a.put o.dst undef) w):=fun h1 h2=>by
  rw [if_neg (by simp [h1])];exact ⟨fun _=>Ext.refl _ _,_,h2,ι,h.putO (okD_lt hd) undefL⟩
 unfold stepG at hs
 split at hs
 ·rename_i hgd
  exact hrun (wanted_none hgd) hs
 ·rename_i j want hgd
  split at hs
  ·rename_i d hgs
   rw [GrP_eq] at hs
   split at hs
   ·rename_i b hb
    have hy:=gslot_yielded h hgs hb
    have hw:Region.wanted o (yielded all.toArray a.tmps)=(b == want):=by simp only [Region.wanted,hgd,hy];rfl
    cases want<;>cases b<;>simp only [cond_true,cond_false,BrP_true,BrP_false] at hs
    ·exact hrun hw hs
    ·exact hnot hw hs
    ·exact hnot hw hs
    ·exact hrun hw hs
   ·rename_i hb
    have hy:=gslot_undef h hgs hb
    exact hnot (by simp only [Region.wanted,hgd,hy];rfl) hs
   ·exact hs.elim
  ·exact hs.elim
theorem stepQ_then {f:Sch→Unit→LS→Prop} {rr:Sch} {o:Oper} (hd:okD X.N o.dst=true) (hs:stepQ f X o rr () σ) (h:StI X.N w0 ι σ a w) :
  ∃ v,(∀ w',Ext noB w w'→(execOp a.eval o).run X.E.P w'=.ok (.value v) w')∧∃ σ',f rr () σ'∧St X.N w0 σ' (a.put o.dst v) w:=by
 unfold stepQ at hs
 split at hs
 ·rename_i c x y ho
  split at hs
  ·rename_i b hb
   have hc:=h.ev c
   rw [hb] at hc
   have hc':a.eval c=.bool b:=hc.1
   cases b with
   | true=>exact ⟨a.eval x,fun w' _=>by simp only [execOp,ho,hc',asBool,Sem.run_bind,Sem.run_pure,Result.andThen_ok,if_true],_,hs.1 rfl,ι,h.putO (okD_lt hd) (h.ev x)⟩
   | false=>exact ⟨a.eval y,fun w' _=>by simp [execOp,ho,hc',asBool],_,hs.2 rfl,ι,h.putO (okD_lt hd) (h.ev y)⟩
  ·exact hs.elim
 ·unfold QrP at hs
  split at hs
  ·rename_i p z hq
   obtain ⟨hp,hg⟩:=hs
   obtain ⟨v,h1,h2⟩:=q_sound X.E.hT h hq hp
   exact ⟨v,fun w' he=>h2 o rfl w' he,_,hg,ι,h.putO (okD_lt hd) h1⟩
  ·exact hs.elim
theorem stepQG_then {f:Sch→Unit→LS→Prop} {rr:Sch} {all:List Oper} {o:Oper} (hd:okD X.N o.dst=true) (hs:stepQG f X all o rr () σ) (h:StI X.N w0 ι σ a w) :
  ∃ v,YieldsIf X.E.P all.toArray (fun w'=>Ext noB w w') o v a∧∃ σ',f rr () σ'∧St X.N w0 σ' (a.put o.dst v) w:=by
 have hrun:Region.wanted o (yielded all.toArray a.tmps)=true→stepQ f X o rr () σ→∃ v,YieldsIf X.E.P all.toArray (fun w'=>Ext noB w w') o v a∧∃ σ',f rr () σ'∧St X.N w0 σ' (a.put o.dst v) w:=fun h1 h2=>by
  obtain ⟨v,h3,h4⟩:=stepQ_then hd h2 h
  exact ⟨v,.inl ⟨h1,h3⟩,h4⟩
 have hnot:Region.wanted o (yielded all.toArray a.tmps)=false→f rr () (σ.putO o.dst (.tu []))→∃ v,YieldsIf X.E.P all.toArray (fun w'=>Ext noB w w') o v a∧∃ σ',f rr () σ'∧St X.N w0 σ' (a.put o.dst v) w:=fun h1 h2 =>
  ⟨undef,.inr ⟨h1,rfl⟩,_,h2,ι,h.putO (okD_lt hd) undefL⟩
 unfold stepQG at hs
 split at hs
 ·rename_i hgd
  exact hrun (wanted_none hgd) hs
 ·rename_i j want hgd
  split at hs
  ·rename_i d hgs
   rw [GrP_eq] at hs
   split at hs
   ·rename_i b hb
    have hy:=gslot_yielded h hgs hb
    have hw:Region.wanted o (yielded all.toArray a.tmps)=(b == want):=by simp only [Region.wanted,hgd,hy];rfl
    cases want<;>cases b<;>simp only [cond_true,cond_false,BrP_true,BrP_false] at hs
    ·exact hrun hw hs
    ·exact hnot hw hs
    ·exact hnot hw hs
    ·exact hrun hw hs
   ·rename_i hb
    have hy:=gslot_undef h hgs hb
    exact hnot (by simp only [Region.wanted,hgd,hy];rfl) hs
   ·exact hs.elim
  ·exact hs.elim
theorem QS_panic {c:List PanicEntry}:∀ {S:List Fr} {a:Act} {w:World},QS X w0 S (.panic c) a w→False
 | [],_,_,h=>h
 | .code _::S,_,_,h=>QS_panic (S:=S) h
 | .bl _::S,_,_,h=>QS_panic (S:=S) h
 | .lp _::S,_,_,h=>QS_panic (S:=S) h
theorem yields_imp {P:Program} {ops:Array Oper} {R R':World→Prop} {o:Oper} {v:Value} {a:Act} (h:∀ w,R' w→R w):YieldsIf P ops R o v a→YieldsIf P ops R' o v a
 | .inl ⟨h1,h2⟩=>.inl ⟨h1,fun w hw=>h2 w (h w hw)⟩
 | .inr h1=>.inr h1
theorem yields_mv {P:Program} {ops:Array Oper} {R:World→Prop} {o:Oper} {v:Value} {a:Act} {w:World} (hm:isMvO o=true):YieldsIf P ops (fun w'=>Ext noB w w') o v a→YieldsIf P ops R o v a:=by
 rintro (⟨h1,h2⟩|h1)
 ·refine .inl ⟨h1,fun w' _=>?_⟩
  have h3:=h2 w (Ext.refl _ _)
  unfold isMvO at hm
  split at hm
  ·rename_i x e1 e2
   simp only [execOp,e1,Sem.run_pure] at h3 ⊢
   injection h3 with h3
   rw [h3]
  ·cases hm
 ·exact .inr h1
theorem dgo_sound {ops:List Oper} (hns:Region.noSelect ops.toArray=true) (hw0:GW X.E w0) (hK:∀ σ' a w,K σ'→St X.N w0 σ' a w→QS X w0 S .normal a w) :
  ∀ (m:Nat) (sch:Sch) (n:Nat) (listed:Array Bool) (σ:LS) (a:Act) (w:World),okSch ops.toArray n listed sch=true→DC .any ops.toArray listed→dgo m X ops K sch () σ→St X.N w0 σ a w →
   wpAnyR X.E.P .any ops.toArray (QS X w0 S) (isXo ops.toArray) n listed a w:=by
 have hsel:∀ (j:Nat) (o:Oper) (cs:Array SelectCase) (b:Bool),ops.toArray[j]?=some o→o.op≠Op.select cs b:=by
  intro j o cs b ho e
  unfold Region.noSelect at hns
  rw [Array.all_eq_true'] at hns
  have:=hns o (Array.mem_of_getElem? ho)
  simp [e] at this
 have hbr:∀ (m n i:Nat) (r:Sch) (o:Oper) (listed:Array Bool) (σ:LS) (a:Act) (w:World),
   (∀ (listed:Array Bool) (σ:LS) (a:Act) (w:World),okSch ops.toArray n listed r=true→DC .any ops.toArray listed→dgo m X ops K r () σ→St X.N w0 σ a w→wpAnyR X.E.P .any ops.toArray (QS X w0 S) (isXo ops.toArray) n listed a w) →
   i∈Region.ready .any ops.toArray listed→okSch ops.toArray n (listed.setIfInBounds i true) r=true→DC .any ops.toArray listed→nth ops i=some o→(okD X.N o.dst=true∧stepG (gOf (dgo m X ops K) r) X ops 0 o [] [] σ)→St X.N w0 σ a w →
   wpOp X.E.P ops.toArray (QS X w0 S) i (fun a' w'=>(isXo ops.toArray i=false→Ext noB w w')∧wpAnyR X.E.P .any ops.toArray (QS X w0 S) (isXo ops.toArray) n (listed.setIfInBounds i true) a' w') a w:=by
  intro m n i r o listed σ a w ih hi hok hdc ho hs ⟨ι,hst⟩
  rw [nth_get] at ho
  have h1:=stepG_then (Q:=QS X w0 S) (i:=i) (all:=ops) (by simpa using ho) hs.1 hs.2 hw0 hst
  refine Go.wpOp_mono ?_ h1
  rintro a' w' ⟨h2,σ',h3,h4⟩
  exact ⟨h2,ih _ _ _ _ hok (hdc.step hi) h3 h4⟩
 intro m
 induction m with
 | zero=>intro sch n listed σ a w _ _ hd;cases sch<;>exact hd.elim
 | succ m ih =>
 intro sch
 cases sch with
 | done =>
  intro n listed σ a w hok hdc hd hst
  have hr:Region.ready .any ops.toArray listed=[]:=by
   have:(Region.ready .any ops.toArray listed).isEmpty=true:=by cases n<;>exact hok
   simpa using this
  have hq:=hK σ a w hd hst
  cases n with
  | zero=>exact ⟨hr,hq⟩
  | succ n=>exact ⟨fun _=>hq,fun i hi=>by rw [hr] at hi;cases hi⟩
 | take i r =>
  intro n listed σ a w hok hdc hd hst
  cases n with
  | zero=>cases hok
  | succ n =>
   simp only [okSch,okTake,Bool.and_eq_true] at hok
   obtain ⟨⟨⟨h1,h2⟩,h3⟩,h4⟩:=hok
   have hi:i∈Region.ready .any ops.toArray listed:=by simpa using h1
   simp only [dgo] at hd
   cases ho:nth ops i with
   | none=>simp [ho] at hd
   | some o =>
    simp only [ho] at hd
    obtain ⟨ι,hst'⟩:=hst
    obtain ⟨v,k1,σ',k2,k3⟩:=stepQG_then hd.1 hd.2 hst'
    have ho':ops.toArray[i]?=some o:=by rw [nth_get] at ho;simpa using ho
    have hap:∀ (j:Nat) (oj:Oper),ops.toArray[j]?=some oj→j≠i→listed.getD j true=false→(∀ e∈oj.after,Region.binds .any e=true→e.on≠i)→Oper.apart ops.toArray o oj=true:=fun j oj hoj hne hl hed=>by
     unfold Region.free at h2
     simp only [ho'] at h2
     rw [List.all_eq_true] at h2
     have hlt:=(Array.getElem?_eq_some_iff.1 hoj).1
     have:=h2 j (List.mem_range.2 hlt)
     simp only [hoj,Bool.or_eq_true] at this
     rcases this with (h5|h5)|h5|h5
     ·exact absurd (by simpa using h5) hne
     ·rw [hl] at h5;cases h5
     ·rw [Array.any_eq_true'] at h5
      obtain ⟨e,he,hb⟩:=h5
      rw [Bool.and_eq_true] at hb
      exact absurd (by simpa using hb.2) (hed e he hb.1)
     ·exact h5
    cases hmv:isMv ops.toArray i with
    | true =>
     have k1':YieldsIf X.E.P ops.toArray (fun w'=>true=false→Ext noB w w') o v a:=by
      simp only [isMv,ho'] at hmv
      exact yields_mv hmv k1
     exact wpAnyR_first true ho' hsel (fun c a w h=>(QS_panic h).elim) n listed a w hdc hap (fun h=>by cases h) hi k1' (ih r n _ σ' _ w h4 (hdc.step hi) k2 k3)
    | false =>
     refine wpAnyR_firstX (w0:=w) ho' hsel (fun c a w h=>(QS_panic h).elim) n listed a w hdc hap (fun j hj hne hlj=>?_) hi k1 (Ext.refl _ _) (ih r n _ σ' _ w h4 (hdc.step hi) k2 k3)
     rw [hmv,Bool.false_or] at h3
     rw [List.all_eq_true] at h3
     have hlt:j<ops.toArray.size:=by
      unfold isXo at hj
      cases hg:ops.toArray[j]? with
      | none=>simp [hg] at hj
      | some o=>exact (Array.getElem?_eq_some_iff.1 hg).1
     have:=h3 j (List.mem_range.2 hlt)
     simp only [hj,hlj,Bool.not_true,Bool.false_or,Bool.or_eq_true,beq_iff_eq,hne,false_or,Bool.false_eq_true] at this
     rcases this with h5|h5
     ·exact .inl h5
     ·obtain ⟨A,p,hX,hA⟩:=freshB_spec h5
      exact .inr ⟨A,p,hX,fun h=>by rw [hA] at h;cases h⟩
 | one i r =>
  intro n listed σ a w hok hdc hd hst
  cases n with
  | zero=>cases hok
  | succ n =>
   simp only [okSch,Bool.and_eq_true,beq_iff_eq] at hok
   simp only [dgo] at hd
   cases ho:nth ops i with
   | none=>simp [ho] at hd
   | some o =>
    simp only [ho] at hd
    refine ⟨fun e=>(by rw [hok.1] at e;cases e),fun j hj=>?_⟩
    have hji:=hj
    rw [hok.1] at hji
    obtain rfl:j=i:=by simpa using hji
    exact hbr m n j r o listed σ a w (ih r n) hj hok.2 hdc ho hd hst
 | two i r j s =>
  intro n listed σ a w hok hdc hd hst
  cases n with
  | zero=>cases hok
  | succ n =>
   simp only [okSch,Bool.and_eq_true,beq_iff_eq] at hok
   simp only [dgo] at hd
   cases ho:nth ops i with
   | none=>simp [ho] at hd
   | some o =>
   cases ho2:nth ops j with
   | none=>simp [ho,ho2] at hd
   | some o2 =>
    simp only [ho,ho2] at hd
    refine ⟨fun e=>(by rw [hok.1.1] at e;cases e),fun k hk=>?_⟩
    have hki:=hk
    rw [hok.1.1] at hki
    simp only [List.mem_cons,List.not_mem_nil,or_false] at hki
    rcases hki with rfl|rfl
    ·exact hbr m n k r o listed σ a w (ih r n) hk hok.1.2 hdc ho hd.1 hst
    ·exact hbr m n k s o2 listed σ a w (ih s n) hk hok.2 hdc ho2 hd.2 hst
 | three i r j s k t =>
  intro n listed σ a w hok hdc hd hst
  cases n with
  | zero=>cases hok
  | succ n =>
   simp only [okSch,Bool.and_eq_true,beq_iff_eq] at hok
   simp only [dgo] at hd
   cases ho:nth ops i with
   | none=>simp [ho] at hd
   | some o =>
   cases ho2:nth ops j with
   | none=>simp [ho,ho2] at hd
   | some o2 =>
   cases ho3:nth ops k with
   | none=>simp [ho,ho2,ho3] at hd
   | some o3 =>
    simp only [ho,ho2,ho3] at hd
    refine ⟨fun e=>(by rw [hok.1.1.1] at e;cases e),fun l hl=>?_⟩
    have hki:=hl
    rw [hok.1.1.1] at hki
    simp only [List.mem_cons,List.not_mem_nil,or_false] at hki
    rcases hki with rfl|rfl|rfl
    ·exact hbr m n l r o listed σ a w (ih r n) hl hok.1.1.2 hdc ho hd.1 hst
    ·exact hbr m n l s o2 listed σ a w (ih s n) hl hok.1.2 hdc ho2 hd.2.1 hst
    ·exact hbr m n l t o3 listed σ a w (ih t n) hl hok.2 hdc ho3 hd.2.2 hst
 | four i r j s k t q u =>
  intro n listed σ a w hok hdc hd hst
  cases n with
  | zero=>cases hok
  | succ n =>
   simp only [okSch,Bool.and_eq_true,beq_iff_eq] at hok
   simp only [dgo] at hd
   cases ho:nth ops i with
   | none=>simp [ho] at hd
   | some o =>
   cases ho2:nth ops j with
   | none=>simp [ho,ho2] at hd
   | some o2 =>
   cases ho3:nth ops k with
   | none=>simp [ho,ho2,ho3] at hd
   | some o3 =>
   cases ho4:nth ops q with
   | none=>simp [ho,ho2,ho3,ho4] at hd
   | some o4 =>
    simp only [ho,ho2,ho3,ho4] at hd
    refine ⟨fun e=>(by rw [hok.1.1.1.1] at e;cases e),fun l hl=>?_⟩
    have hki:=hl
    rw [hok.1.1.1.1] at hki
    simp only [List.mem_cons,List.not_mem_nil,or_false] at hki
    rcases hki with rfl|rfl|rfl|rfl
    ·exact hbr m n l r o listed σ a w (ih r n) hl hok.1.1.1.2 hdc ho hd.1 hst
    ·exact hbr m n l s o2 listed σ a w (ih s n) hl hok.1.1.2 hdc ho2 hd.2.1 hst
    ·exact hbr m n l t o3 listed σ a w (ih t n) hl hok.1.2 hdc ho3 hd.2.2.1 hst
    ·exact hbr m n l u o4 listed σ a w (ih u n) hl hok.2 hdc ho4 hd.2.2.2 hst
theorem DC_start {md:Region.Mode} {ops:Array Oper}:DC md ops (Array.replicate ops.size false):=by
 intro j o _ hj
 rw [Array.getD_eq_getD_getElem?,Array.getElem?_replicate] at hj
 split at hj<;>simp at hj
theorem DrawK.of {id:Nat} {ops:Array Oper} (sch:Sch) (n:Nat) (hok:(Region.noSelect ops && okSch ops ops.size (Array.replicate ops.size false) sch)=true)
  (hd:dgo 200 X ops.toList (DEnd n X S id) sch () σ):DrawK X id ops S σ:=by
 intro w0 hw0 a w hst
 rw [Bool.and_eq_true] at hok
 refine wp_region_any X.E.mixed (wpAny_of_R _ _ _ _ (isX:=isXo ops) ?_)
 obtain ⟨ι,hst⟩:=hst
 exact dgo_sound (ops:=ops.toList) (K:=DEnd n X S id) (S:=S) hok.1 hw0 (fun σ' a w hk hst=>go_sound n (it:=.nrm) hk w0 hw0 a w (hst.trim (X.L id))) 200 sch ops.size _ σ a _ hok.2 DC_start hd ⟨ι,hst.ext (Ext.drew noB w)⟩
theorem DrawK.cut {id:Nat} {ops:Array Oper} (sch:Sch) (n:Nat) (hok:(Region.noSelect ops && okSch ops ops.size (Array.replicate ops.size false) sch)=true) (τ:LS)
  (hd:dgo 200 X ops.toList (DLe τ) sch () σ) (hg:go n X .nrm S (τ.trim (X.L id))):DrawK X id ops S σ:=by
 intro w0 hw0 a w hst
 rw [Bool.and_eq_true] at hok
 refine wp_region_any X.E.mixed (wpAny_of_R _ _ _ _ (isX:=isXo ops) ?_)
 obtain ⟨ι,hst⟩:=hst
 exact dgo_sound (ops:=ops.toList) (K:=DLe τ) (S:=S) hok.1 hw0 (fun σ' a w hk hst=>go_sound n (it:=.nrm) hg w0 hw0 a w ((hk _ _ _ _ hst).trim (X.L id))) 200 sch ops.size _ σ a _ hok.2 DC_start hd ⟨ι,hst.ext (Ext.drew noB w)⟩
end
attribute [push_cast] DEnd gOf dgo stepQ stepQG
end Go.LS.F4
