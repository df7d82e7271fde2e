/- Part LD: 4 texts,one behind the other. -/
import Derived.Test.YtfmbjaeppffdpaaGreatDoorLC
/- What reckons the walk's function out: a set of rewriting rules. -/
namespace Go.LS
open Go
attribute [push_cast] DEnd gOf stepOI dgo stepQ stepQG go stepG stepO stepE stepE0 stepX stepN PxP_old PxP_new PxP_none appP effP noC noCs no1 no1s noL noS noOb noO stepM mutC prepM CallM CallA CallF ResR nilQ gbOf GrP_yes_true GrP_yes_false GrP_skip GrP_bad QrP_ok QrP_no ErP_ok ErP_no WayP_true WayP_false NrP_some NrP_none okD gslot nth getS delS LS.put LS.putO LS.del keepS LS.trim prep nzArgs rawTs
attribute [push_cast] q qcall ev constL' constL qload qnil qfa qfd qpart qia qix qext qslice fillL qbuild putL zeroL okZero qlen qmm qlook qbin qint qstr qun qconv qconvB numsOf okNums eqV eqVs
attribute [push_cast] eff ebuildSlice emakeSlice estore eappend eappendS emapDelete orS_ok orS_no emapUpdate emakeFunc ecall elemsB capsB elemsL LV.cellish cellsL allD LS.add fz fzK fzs refC refC1 refL setDead mapOB fzR fzB mapSl mapLV klR setOB
attribute [push_cast] nzP nzL nzC nzCs nzD nzDs isAggD data1 dataC dataL pure1 pureC pureL Res outs out1 outRefs nzOuts pack numS memS leS refsLV refs1 refsC refsO
theorem one_int (k:IntKind) (n:Int):(Value.int k n).oneCell'=true:=rfl
theorem one_str (s:ByteArray):(Value.string s).oneCell'=true:=rfl
theorem one_bool (b:Bool):(Value.bool b).oneCell'=true:=rfl
theorem one_sl (a:Option Addr) (n m:Nat):(Value.slice a n m).oneCell'=true:=rfl
theorem one_map (a:Option Nat):(Value.map a).oneCell'=true:=rfl
theorem one_ptr (a:Option Addr):(Value.pointer a).oneCell'=true:=rfl
theorem one_fn:(Value.nilFunc).oneCell'=true:=rfl
theorem cells_agg (us:Array Value):(Value.agg us).cells=us:=rfl
theorem cells_int (k:IntKind) (n:Int):(Value.int k n).cells=#[.int k n]:=rfl
theorem cells_str (s:ByteArray):(Value.string s).cells=#[.string s]:=rfl
theorem cells_bool (b:Bool):(Value.bool b).cells=#[.bool b]:=rfl
theorem cells_sl (a:Option Addr) (n m:Nat):(Value.slice a n m).cells=#[.slice a n m]:=rfl
attribute [push_cast] one_int one_str one_bool one_sl one_map one_ptr one_fn cells_agg cells_int cells_str cells_bool cells_sl List.all_toArray List.size_toArray
attribute [push_cast] BrP_true BrP_false Nat.blt_eq decide_true decide_false
attribute [push_cast] List.map_cons List.map_nil List.flatMap_cons List.flatMap_nil List.all_cons List.all_nil List.append_nil List.nil_append List.cons_append List.length_cons List.length_nil List.take_succ_cons List.take_zero List.take_nil List.drop_succ_cons List.drop_zero List.drop_nil List.getElem?_cons_zero List.getElem?_cons_succ List.set_cons_zero List.set_cons_succ List.headD_cons List.contains_cons List.contains_nil
attribute [push_cast] cond_true cond_false and_true true_and Bool.and_true Bool.true_and Bool.and_false Bool.false_and Bool.not_true Bool.not_false Bool.or_true Bool.or_false Bool.true_or Bool.false_or if_true if_false ite_true ite_false Option.map_some Option.map_none Option.isSome_some Option.isSome_none Option.getD_some Option.getD_none eq_self ne_eq not_true_eq_false not_false_eq_true Bool.false_eq_true Bool.true_eq_false
theorem tyOf_lit (t:Nat):tyOf t=t % 1000000:=rfl
attribute [push_cast] tyOf_pinT tyOf_lit ResM ResA List.tail_cons List.tail_nil
attribute [push_cast] List.getElem?_toArray i2 b2 s2
open Go Go.RowKit
def zipS:List Nat→List LV→List (Nat × LV)
 | k::ks,x::xs=>(k,x)::zipS ks xs
 | _,_=>[]
def dels (l:List (Nat × LV)):List Nat→List (Nat × LV)
 | []=>l
 | k::ks=>dels (delS l k) ks
theorem mem_dels {p:Nat × LV}:∀ {ks:List Nat} {l:List (Nat × LV)},p∈dels l ks→p∈l
 | [],_,h=>h
 | _::ks,_,h=>(mem_delS (mem_dels (ks:=ks) h)).1
section
variable {X:Cx} {S:List Fr} {σ τ:LS} {w0:W0} {a:Act} {w:World} {c:Code} {sl sl':List (Nat × LV)} {ob ob':List OB}
theorem Le.st (h:leS sl sl'∧ob.take ob'.length=ob'∧(sl'.all fun p=>refsLV ob'.length p.2)=true∧ob'.all (refsO ob'.length)=true):Le ⟨sl,ob⟩ ⟨sl',ob'⟩:=by
 obtain ⟨h1,h2,h3,h4⟩:=h
 refine (Le.sub h1).trans ?_
 have:=Le.take (sl:=sl') (ob:=ob) ob'.length h3 (by rw [h2];exact h4)
 rwa [h2] at this
theorem LoopK.le (h:Le σ τ) (hk:LoopK X c S τ):LoopK X c S σ:=fun w0 hw0 a w hst=>hk w0 hw0 a w (h _ _ _ _ hst)
theorem LoopK.ov {α:Type} (ks:List Nat) (vs:α→List LV) (obs:α→List OB) (ok:α→Prop) (μ:α→Nat) (n:Nat) (a0:α) (h0:ok a0) (hl:leS sl (zipS ks (vs a0))∧ob=obs a0)
  (hb:∀ x,ok x→go n X (.code c) (.lp (fun τ=>∃ y,ok y∧μ y<μ x∧Le τ ⟨zipS ks (vs y)++dels sl ks,obs y⟩)::S) ⟨zipS ks (vs x)++dels sl ks,obs x⟩):LoopK X c S ⟨sl,ob⟩:=by
 refine LoopK.of (fun x=>⟨zipS ks (vs x)++dels sl ks,obs x⟩) ok μ n a0 h0 ?_ hb
 rw [hl.2]
 rintro N w0 a w ⟨ι,h⟩
 refine ⟨ι,h.sub fun p hp=>?_⟩
 rcases List.mem_append.1 hp with hp|hp
 ·exact leS_mem hl.1 p hp
 ·exact mem_dels hp
theorem LoopK.s1 {α:Type} (ks:List Nat) (vs:α→List LV) (ok:α→Prop) (μ:α→Nat) (n:Nat) (a0:α) (h0:ok a0) (hl:leS sl (zipS ks (vs a0)))
  (hb:∀ x,ok x→go n X (.code c) (.lp (fun τ=>∃ y,ok y∧μ y<μ x∧Le τ ⟨zipS ks (vs y)++dels sl ks,ob⟩)::S) ⟨zipS ks (vs x)++dels sl ks,ob⟩):LoopK X c S ⟨sl,ob⟩ :=
 LoopK.ov ks vs (fun _=>ob) ok μ n a0 h0 ⟨hl,rfl⟩ hb
theorem Le.nil (d:Nat) (t size:Nat) (hs:0<size) (h:memS sl d (.c (.d (.v (.slice none 0 0))))) (ht:t<1000000:=by decide):Le ⟨sl,ob⟩ ⟨(d,.c (.os ob.length))::delS sl d,ob++[.rw t size []]⟩:=by
 rintro N w0 a w ⟨ι,h'⟩
 have hm:=memS_mem h
 obtain ⟨v,hv,hd⟩:=h'.slots _ hm
 have hv':v=.slice none 0 0:=hd.1
 have hadd:=h'.add (Ext.refl _ _) (o:=.rw t size []) (g:=none) (fun b hb=>by cases hb) (fun _ _ _ e=>by injection e with e;exact e ▸ ht) ⟨hs,.inl ⟨upd_same _ _ _,rfl⟩⟩
 refine ⟨_,hadd.defers,hadd.size,hadd.below,fun p hp=>?_,hadd.objs,hadd.inj,hadd.base,hadd.out,hadd.pin⟩
 rcases List.mem_cons.1 hp with rfl|hp
 ·refine ⟨v,hv,?_⟩
  exact ⟨t,size,[],by simp,.inl ⟨upd_same _ _ _,rfl,hv'⟩⟩
 ·exact hadd.slots p (mem_delS hp).1
theorem dcvs_set_at {O:Nat→Prop} {ι:Io} {x y:CV} (hxy:∀ u,dcv w O ι ob x u→dcv w O ι ob y u):∀ {cs:List CV} {us:List Value} (j:Nat),cs[j]?=some x→dcvs w O ι ob cs us→dcvs w O ι ob (cs.set j y) us
 | [],_,j,h,_=>by simp at h
 | c::cs,us,0,h,hd=>by
  obtain ⟨u,r,rfl,h1,h2⟩:=hd
  simp only [List.getElem?_cons_zero,Option.some.injEq] at h
  subst h
  exact ⟨u,r,rfl,hxy u h1,h2⟩
 | c::cs,us,j+1,h,hd=>by
  obtain ⟨u,r,rfl,h1,h2⟩:=hd
  exact ⟨u,r,rfl,h1,dcvs_set_at hxy j (by simpa using h) h2⟩
theorem Le.nilB (k j:Nat) (t size:Nat) (hs:0<size) {t':TypeId} {cs:List CV} (hk:ob[k]?=some (.bx t' cs)) (hj:cs[j]?=some (.d (.v (.slice none 0 0)))) (ht:t<1000000:=by decide) :
  Le ⟨sl,ob⟩ ⟨sl,ob.set k (.bx t' (cs.set j (.os ob.length)))++[.rw t size []]⟩:=by
 rintro N w0 a w ⟨ι,h⟩
 have hlt:=(List.getElem?_eq_some_iff.1 hk).1
 have hadd:=h.add (Ext.refl _ _) (o:=.rw t size []) (g:=none) (fun b hb=>by cases hb) (fun _ _ _ e=>by injection e with e;exact e ▸ ht) ⟨hs,.inl ⟨upd_same _ _ _,rfl⟩⟩
 have hk':(LS.add ⟨sl,ob⟩ (.rw t size [])).ob[k]?=some (.bx t' cs):=by
  simp only [LS.add]
  rw [List.getElem?_append_left hlt];exact hk
 have hob:(LS.add ⟨sl,ob⟩ (.rw t size [])).ob.set k (.bx t' (cs.set j (.os ob.length)))=ob.set k (.bx t' (cs.set j (.os ob.length)))++[.rw t size []]:=by
  simp only [LS.add]
  rw [List.set_append_left _ _ hlt]
 obtain ⟨g,us,h1,h2,h3⟩:=hadd.objs k _ hk'
 have hset:=hadd.set (o':=.bx t' (cs.set j (.os ob.length))) hk' rfl rfl h1 (Ext.refl _ _) (fun _ _ _ e=>by cases e) ?_ (fun _ _ _ e=>by cases e)
 ·rw [hob] at hset
  exact ⟨_,hset⟩
 ·refine ⟨g,us,h1,h2,?_⟩
  have hlv:∀ c u,dcv w (own (upd ι ob.length none) (LS.add ⟨sl,ob⟩ (.rw t size [])).ob) (upd ι ob.length none) (LS.add ⟨sl,ob⟩ (.rw t size [])).ob c u →
    dcv w (own (upd ι ob.length none) (LS.add ⟨sl,ob⟩ (.rw t size [])).ob) (upd ι ob.length none) ((LS.add ⟨sl,ob⟩ (.rw t size [])).ob.set k (.bx t' (cs.set j (.os ob.length)))) c u:=by
   intro c u hc
   cases c with
   | d x=>exact hc
   | op i off=>obtain ⟨b,q1,q2⟩:=hc;exact ⟨b,(live_set hk' rfl rfl i).2 q1,q2⟩
   | oe i n off =>
    obtain ⟨b,t2,s2,es,q1,q2,q3⟩:=hc
    have e:k≠i:=fun e=>by subst e;rw [hk'] at q2;cases q2
    exact ⟨b,t2,s2,es,q1,by rw [List.getElem?_set_ne e];exact q2,q3⟩
   | os i =>
    obtain ⟨t2,s2,es,q1,q2⟩:=hc
    have e:k≠i:=fun e=>by subst e;rw [hk'] at q1;cases q1
    exact ⟨t2,s2,es,by rw [List.getElem?_set_ne e];exact q1,q2⟩
   | om i=>obtain ⟨b,q1,q2⟩:=hc;exact ⟨b,(live_set hk' rfl rfl i).2 q1,q2⟩
   | any=>exact hc
  have h4:=dcvs_imp (R:=fun _ _=>True) h3 (fun c u _ hc=>hlv c u hc)
  refine dcvs_set_at (x:=.d (.v (.slice none 0 0))) (fun u hu=>?_) j hj h4
  have hu':u=.slice none 0 0:=hu.1
  have e:k≠ob.length:=by omega
  exact ⟨t,size,[],by rw [List.getElem?_set_ne e];simp [LS.add],.inl ⟨upd_same _ _ _,rfl,hu'⟩⟩
end
attribute [push_cast] Int.toNat_natCast zipS dels LV.c.injEq LV.ag.injEq LV.tu.injEq CV.d.injEq CV.op.injEq CV.os.injEq CV.oe.injEq CV.om.injEq DV.v.injEq DV.sl.injEq DV.at_.injEq DV.clo.injEq Value.int.injEq Value.string.injEq Value.bool.injEq OB.bx.injEq OB.rw.injEq OB.mp.injEq List.cons.injEq Prod.mk.injEq
theorem getD_map {α:Type} {f:α→List DV} {l:List α} {i:Nat} {x:α} (h:l[i]?=some x):(l.map f).getD i []=f x:=by
 simp [List.getD,h]
set_option linter.unusedVariables false
def ResR2 (T:Tab) (rs:List ResultVar) (t size:Nat) (es:List (List DV)) (τ:LS):Prop :=
 match outs T τ rs with
 | .ok p [.c (.os k)]=>p∧τ.ob[k]?=some (.rw t size es)
 | .ok p [.c (.d (.v (.slice none 0 0)))]=>p∧es=[]∧0<size
 | _=>False
attribute [push_cast] ResR2
section
variable {ι:Io}
theorem SpecR.of_go2 {V:Env} {f:FuncId} {fn:Func} {c:Code} {args:List LV} {t size:Nat} {es:List (List DV)} {L:Nat→Option (List Nat)} (n:Nat)
  (hf:V.P.funcs[f]?=some fn) (hb:fn.body=some c) (hname:(fn.name == "runtime.NumGoroutine")=false)
  (hN:(args.length≤fn.ntmps)∧fn.results.toList.all (okRv fn.ntmps)=true) (ht:t<1000000)
  (hg:go n ⟨V,fn.ntmps,ResR2 V.T fn.results.toList t size es,L⟩ (.code c) [] ⟨numS 0 args,[]⟩):SpecR V f args t size es:=by
 refine ⟨⟨fn,hf,hname,by simp [hb]⟩,ht,fun w E us hG hE hd=>?_⟩
 refine calls_of_wp hf hb ?_
 have hst:=entry hE hd hN.1
 have hw:Code.wp V.P c (QS ⟨V,fn.ntmps,ResR2 V.T fn.results.toList t size es,L⟩ ⟨w,E,noB,fun _=>none⟩ []) _ w:=go_sound n hg ⟨w,E,noB,fun _=>none⟩ ⟨hG,fun _ h=>h.elim⟩ _ w ⟨_,hst⟩
 refine wp_mono hw ?_
 have key:∀ (a:Act) (w':World),(∃ τ,St fn.ntmps ⟨w,E,noB,fun _=>none⟩ τ a w'∧ResR2 V.T fn.results.toList t size es τ) →
   a.defers=[]∧∃ v,Sem.run V.P (results fn a.tmps) w'=.ok v w'∧∃ v' g,Ending.returned v=.returned v'∧Ext noB w w'∧(∀ b,g=some b→w.heap.size≤b)∧dob w' (fun b=>E b∨g=some b) ⟨fun _=>g,E⟩ [] 0 (.rw t size es)∧hdr w' g size es.length v':=by
  rintro a w' ⟨τ,⟨ι,hτ⟩,hres⟩
  unfold ResR2 at hres
  split at hres
  ·rename_i p k hout
   obtain ⟨hp,hk⟩:=hres
   obtain ⟨vs,k1,k2⟩:=outs_sound V.hT hτ hout hp hN.2
   have hlen:=dlvs_length k2
   simp only [List.length_cons,List.length_nil] at hlen
   obtain ⟨v,r,rfl,hv,hr⟩:=k2
   simp only [dlvs] at hr
   subst hr
   obtain ⟨t1,s1,e1,hk1,hh⟩:=hv
   rw [hk] at hk1
   injection hk1 with hk1
   injection hk1 with q1 q2 q3
   subst q1 q2 q3
   have hl:live τ.ob k:=⟨_,hk,rfl⟩
   refine ⟨hτ.defers,v,?_,v,ι k,rfl,hτ.below,fun b hb=>?_,?_,hh⟩
   ·have e:(results fn a.tmps)=(do
       let vs ← Array.mapM (runOut a) fn.results
       pure (if h:vs.size=1 then vs[0] else Value.tuple vs)):=by
      unfold results
      congr 1
    rw [e,Array.mapM_eq_mapM_toList]
    simp [k1]
   ·rcases hτ.base k b hl hb with h1|h1
    ·exact h1
    ·exact h1.elim
   ·refine dob_rw (ob:=τ.ob) (ι:=ι) (k:=k) (fun b hb=>?_) rfl rfl (fun _ h=>h) (hτ.objs k _ hk)
    rcases hb with hb|hb
    ·exact .inl (by rw [hτ.out.1];exact hb)
    ·exact .inr ⟨k,hl,hb⟩
  ·rename_i p hout
   obtain ⟨hp,rfl,hsz⟩:=hres
   obtain ⟨vs,k1,k2⟩:=outs_sound V.hT hτ hout hp hN.2
   have hlen:=dlvs_length k2
   simp only [List.length_cons,List.length_nil] at hlen
   obtain ⟨v,r,rfl,hv,hr⟩:=k2
   simp only [dlvs] at hr
   subst hr
   have hv':v=.slice none 0 0:=hv.1
   subst hv'
   refine ⟨hτ.defers,.slice none 0 0,?_,.slice none 0 0,none,rfl,hτ.below,(fun b hb=>by cases hb),⟨hsz,.inl ⟨rfl,rfl⟩⟩,.inl ⟨rfl,rfl,rfl⟩⟩
   have e:(results fn a.tmps)=(do
       let vs ← Array.mapM (runOut a) fn.results
       pure (if h:vs.size=1 then vs[0] else Value.tuple vs)):=by
      unfold results
      congr 1
   rw [e,Array.mapM_eq_mapM_toList]
   simp [k1]
  ·exact hres.elim
 intro e a w' hq
 cases e with
 | normal=>exact key a w' hq
 | ret=>exact key a w' hq
 | _=>exact hq.elim
theorem Le.fz {σ σ':LS} {k:Nat} (h:fz σ k=some σ'):Le σ σ':=fun _ _ _ _ ⟨ι,hst⟩=>⟨ι,fz_sound hst h⟩
theorem LoopK.fz {X:Cx} {c:Code} {S:List Fr} {σ σ':LS} (k:Nat) (h:fz σ k=some σ') (hk:LoopK X c S σ'):LoopK X c S σ:=LoopK.le (Le.fz h) hk
end
def FzD (ob:List OB) (d d':DV):Prop:=d'=d∨∃ (k t size g cap:Nat) (es:List (List DV)),ob[k]?=some (OB.px t size g cap es)∧d=.v (.slice (some ⟨g,0,none⟩) es.length cap)∧d'=.sl size es
inductive Fz2 {α:Type} (R:α→α→Prop):List α→List α→Prop
 | nil:Fz2 R [] []
 | cons {a b:α} {l m:List α}:R a b→Fz2 R l m→Fz2 R (a::l) (b::m)
def FzR (ob:List OB):List (List DV)→List (List DV)→Prop:=Fz2 (Fz2 (FzD ob))
def FzM (ob:List OB):List (ByteArray × DV)→List (ByteArray × DV)→Prop:=Fz2 fun p q=>p.1=q.1∧FzD ob p.2 q.2
def FzO (ob:List OB) (o o':OB):Prop:=(∃ t s es es',o=.rw t s es∧o'=.rw t s es'∧FzR ob es es')∨∃ es es',o=.mp es∧o'=.mp es'∧FzM ob es es'
theorem Fz2.length {α:Type} {R:α→α→Prop}:∀ {l m:List α},Fz2 R l m→m.length=l.length
 | _,_,.nil=>rfl
 | _,_,.cons _ h=>by simp [h.length]
theorem Fz2.of_map {α β:Type} {R:α→α→Prop} {f g:β→α}:∀ {l:List β},(∀ x∈l,R (f x) (g x))→Fz2 R (l.map f) (l.map g)
 | [],_=>.nil
 | x::l,h=>.cons (h x (by simp)) (Fz2.of_map fun y hy=>h y (by simp [hy]))
theorem Fz2.of_get {α:Type} {R:α→α→Prop}:∀ {l m:List α},m.length=l.length→(∀ (i:Nat) a b,l[i]?=some a→m[i]?=some b→R a b)→Fz2 R l m
 | [],[],_,_=>.nil
 | [],_::_,h,_=>by simp at h
 | _::_,[],h,_=>by simp at h
 | a::l,b::m,h,hr=>.cons (hr 0 a b rfl rfl) (Fz2.of_get (by simpa using h) fun i x y hx hy=>hr (i+1) x y (by simpa using hx) (by simpa using hy))
def isPx:Option OB→Bool
 | some (.px _ _ _ _ _)=>true
 | _=>false
def klP (ob:List OB):CV→CV
 | .op j off=>bif isPx ob[j]? then .any else .op j off
 | .om j=>bif isPx ob[j]? then .any else .om j
 | c=>c
def kilO (f:CV→CV):OB→OB
 | .bx t cs=>.bx t (cs.map f)
 | .px _ _ _ _ _=>.dead
 | o=>o
section
variable {P:Program} {T:Tab} {N:Nat} {w0:W0} {ι ι':Io} {σ σ':LS} {a:Act} {w w':World} {O O':Nat→Prop} {ob ob':List OB} {sl:List (Nat × LV)}
def PxOut (w:World) (O':Nat→Prop) (ob:List OB):Prop:=∀ (k t size g cap:Nat) (es:List (List DV)),ob[k]?=some (OB.px t size g cap es)→g<w.heap.size∧¬ O' g∧es.length≤cap∧cap≤maxLen∧rdEs w O' size ⟨g,0,none⟩ es
theorem FzD.den {d d':DV} {u:Value} (h:FzD ob d d') (hs:Stays noB O O' w w) (hp:PxOut w O' ob) (hd:den w O d u):den w O' d' u:=by
 rcases h with rfl|⟨k,t,size,g,cap,es,hk,rfl,rfl⟩
 ·exact den_mono hs _ _ hd
 ·obtain ⟨rfl,_⟩:=hd
  obtain ⟨h1,h2,h3,h4,h5⟩:=hp k t size g cap es hk
  exact ⟨_,cap,rfl,h3,h4,fun _=>⟨_,rfl,h1,h2,h5⟩⟩
theorem Fz2.denCs (hs:Stays noB O O' w w) (hp:PxOut w O' ob):∀ {cs cs':List DV} {ad:Addr},Fz2 (FzD ob) cs cs'→LS.denCs w O ad cs→LS.denCs w O' ad cs'
 | _,_,_,.nil,_=>trivial
 | _,_,_,.cons h r,hd=>by
  obtain ⟨⟨u,hc,hu⟩,hr⟩:=hd
  exact ⟨⟨u,hc,h.den hs hp hu⟩,Fz2.denCs hs hp r hr⟩
theorem Fz2.rdEs (hs:Stays noB O O' w w) (hp:PxOut w O' ob) {size:Nat}:∀ {es es':List (List DV)} {ad:Addr},FzR ob es es'→LS.rdEs w O size ad es→LS.rdEs w O' size ad es'
 | _,_,_,.nil,_=>trivial
 | _,_,_,.cons h r,hd=>by
  obtain ⟨hl,hc,hr⟩:=hd
  exact ⟨by rw [h.length];exact hl,h.denCs hs hp hc,Fz2.rdEs hs hp r hr⟩
theorem Fz2.dents (hs:Stays noB O O' w w) (hp:PxOut w O' ob):∀ {es es':List (ByteArray × DV)} {l:List MapEntry},FzM ob es es'→LS.dents w O es l→LS.dents w O' es' l
 | _,_,_,.nil,hd=>hd
 | (k,x)::_,(k',x')::_,_,.cons h r,hd=>by
  obtain ⟨e,l',rfl,hk,hx,hr⟩:=hd
  obtain ⟨h1,h2⟩:=h
  simp only at h1 h2
  exact ⟨e,l',rfl,by rw [hk,h1],h2.den hs hp hx,Fz2.dents hs hp r hr⟩
theorem Le.outx (m:Nat) {o o':OB} (hm:ob[m]?=some o) (hfz:FzO ob o o'):Le ⟨sl,ob⟩ ⟨mapSl (klP ob) sl,(ob.map (kilO (klP ob))).set m o'⟩:=by
 rintro N w0 a w ⟨ι,h⟩
 have hmlt:=(List.getElem?_eq_some_iff.1 hm).1
 have hget:∀ j,((ob.map (kilO (klP ob))).set m o')[j]?=if m=j then some o' else (ob[j]?).map (kilO (klP ob)):=by
  intro j
  by_cases e:m=j
  ·subst e;rw [if_pos rfl,List.getElem?_set_self (by simpa using hmlt)]
  ·rw [if_neg e,List.getElem?_set_ne e,List.getElem?_map]
 have hod:o.isDead=false∧o'.isDead=false:=by
  rcases hfz with ⟨t,s,es,es',rfl,rfl,_⟩|⟨es,es',rfl,rfl,_⟩<;>exact ⟨rfl,rfl⟩
 have hopx:isPx ob[m]?=false:=by
  rw [hm]
  rcases hfz with ⟨t,s,es,es',rfl,rfl,_⟩|⟨es,es',rfl,rfl,_⟩<;>rfl
 have hlive:∀ j,live ((ob.map (kilO (klP ob))).set m o') j↔live ob j∧isPx ob[j]?=false:=by
  intro j
  unfold live
  rw [hget]
  by_cases e:m=j
  ·subst e
   rw [if_pos rfl]
   exact ⟨fun _=>⟨⟨o,hm,hod.1⟩,hopx⟩,fun _=>⟨o',rfl,hod.2⟩⟩
  ·rw [if_neg e]
   cases hj:ob[j]? with
   | none=>simp
   | some x=>cases x<;>simp [kilO,isPx,OB.isDead]
 obtain ⟨ob',hob'⟩:∃ ob',ob'=(ob.map (kilO (klP ob))).set m o':=⟨_,rfl⟩
 rw [← hob'] at hget hlive ⊢
 have hO:∀ b,own ι ob' b→own ι ob b:=fun b hb=>hb.imp id fun ⟨k,hl,hk⟩=>⟨k,((hlive k).1 hl).1,hk⟩
 have hs:Stays noB (own ι ob) (own ι ob') w w:=⟨Ext.refl _ _,fun _ _ h=>h.elim,fun b _ hb=>hO b hb⟩
 have hout:PxOut w (own ι ob') ob:=by
  intro k t size g cap es hk
  obtain ⟨h0,h1,cur,h2,h3,h4,h5,h6⟩:=h.objs k _ hk
  have hl:live ob k:=⟨_,hk,rfl⟩
  refine ⟨(Array.getElem?_eq_some_iff.1 h2).1,?_,h4,h5,rdEs_mono' hs size es _ _ (Nat.le_refl _) (fun _ _=>rfl) h6⟩
  rintro (he|⟨j,hj,hg⟩)
  ·have q1:=h.out.2 g (h.out.1 ▸ he)
   rcases h.base k g hl h1 with q2|q2
   ·omega
   ·exact q1.2 q2
  ·have q3:=(hlive j).1 hj
   have:j=k:=h.inj j k g q3.1 hl hg h1
   subst this
   rw [hk] at q3
   cases q3.2
 have hcv:∀ c u,dcv w (own ι ob) ι ob c u→dcv w (own ι ob') ι ob' (klP ob c) u:=by
  intro c u hc
  have hone:=dcv_oneCell hc
  have hrow:∀ (j t s:Nat) es,ob[j]?=some (.rw t s es)→∃ es',ob'[j]?=some (.rw t s es')∧es'.length=es.length:=by
   intro j t s es hj
   by_cases e:m=j
   ·subst e
    rw [hm] at hj
    injection hj with hj
    rcases hfz with ⟨t2,s2,es2,es2',rfl,rfl,hr⟩|⟨es2,es2',rfl,rfl,_⟩
    ·injection hj with q1 q2 q3
     subst q1 q2 q3
     exact ⟨es2',by rw [hget,if_pos rfl],hr.length⟩
    ·cases hj
   ·exact ⟨es,by rw [hget,if_neg e,hj];rfl,rfl⟩
  cases c with
  | d x=>exact den_mono hs x u hc
  | op j off =>
   obtain ⟨g,h1,h2⟩:=hc
   cases e:isPx ob[j]? with
   | true=>simp only [klP,e,cond_true];exact hone
   | false=>simp only [klP,e,cond_false];exact ⟨g,(hlive j).2 ⟨h1,e⟩,h2⟩
  | oe j i off =>
   obtain ⟨g,t,s,es,h1,h2,h3,h4⟩:=hc
   obtain ⟨es',q1,q2⟩:=hrow j t s es h2
   exact ⟨g,t,s,es',h1,q1,by omega,h4⟩
  | os j =>
   obtain ⟨t,s,es,h1,h2⟩:=hc
   obtain ⟨es',q1,q2⟩:=hrow j t s es h1
   exact ⟨t,s,es',q1,by rw [q2];exact h2⟩
  | om j =>
   obtain ⟨g,h1,h2⟩:=hc
   cases e:isPx ob[j]? with
   | true=>simp only [klP,e,cond_true];exact hone
   | false=>simp only [klP,e,cond_false];exact ⟨g,(hlive j).2 ⟨h1,e⟩,h2⟩
  | any=>exact hc
 refine ⟨ι,h.turn (klP ob) hcv ?_ (fun j j' g hl hl'=>h.inj j j' g ((hlive j).1 hl).1 ((hlive j').1 hl').1) (fun j g hl=>h.base j g ((hlive j).1 hl).1) h.below ?_⟩
 ·intro j x hj
  rw [hget] at hj
  by_cases e:m=j
  ·subst e
   rw [if_pos rfl] at hj
   injection hj with hj
   subst hj
   have hd:=h.objs m o hm
   rcases hfz with ⟨t,s,es,es',rfl,rfl,hr⟩|⟨es,es',rfl,rfl,hr⟩
   ·refine ⟨hd.1,?_⟩
    rcases hd.2 with ⟨h1,h2⟩|⟨g,cur,cap,h1,h2,h3,h4,h5,h6⟩
    ·subst h2
     cases hr
     exact .inl ⟨h1,rfl⟩
    ·exact .inr ⟨g,cur,cap,h1,h2,h3,by rw [hr.length];exact h4,h5,Fz2.rdEs hs hout hr h6⟩
   ·obtain ⟨g,ents,clk,h1,h2,h3⟩:=hd
    exact ⟨g,ents,clk,h1,h2,Fz2.dents hs hout hr h3⟩
  ·rw [if_neg e] at hj
   cases ho:ob[j]? with
   | none=>simp [ho] at hj
   | some y =>
    simp only [ho,Option.map_some,Option.some.injEq] at hj
    subst hj
    have hd:=h.objs j y ho
    cases y with
    | bx t cs =>
     obtain ⟨g,us,h1,h2,h3⟩:=hd
     exact ⟨g,us,h1,h2,dcvs_map hcv h3⟩
    | rw t s es =>
     refine ⟨hd.1,?_⟩
     rcases hd.2 with h1|⟨g,cur,cap,h1,h2,h3,h4,h5,h6⟩
     ·exact .inl h1
     ·exact .inr ⟨g,cur,cap,h1,h2,h3,h4,h5,rdEs_mono' hs s es _ _ (Nat.le_refl _) (fun _ _=>rfl) h6⟩
    | mp es =>
     obtain ⟨g,ents,clk,h1,h2,h3⟩:=hd
     exact ⟨g,ents,clk,h1,h2,dents_mono hs h3⟩
    | px t s g cap es=>trivial
    | dead=>trivial
 ·intro j t s es hj ht
  rw [hget] at hj
  by_cases e:m=j
  ·subst e
   rw [if_pos rfl] at hj
   injection hj with hj
   rcases hfz with ⟨t2,s2,es2,es2',rfl,rfl,hr⟩|⟨es2,es2',rfl,rfl,_⟩
   ·injection hj with q1 q2 q3
    subst q1 q2 q3
    exact h.pin m _ _ _ hm ht
   ·cases hj
  ·rw [if_neg e] at hj
   cases ho:ob[j]? with
   | none=>simp [ho] at hj
   | some y =>
    simp only [ho,Option.map_some,Option.some.injEq] at hj
    cases y<;>simp only [kilO,reduceCtorEq,OB.rw.injEq] at hj
    obtain ⟨rfl,rfl,rfl⟩:=hj
    exact h.pin j _ _ _ ho ht
theorem LoopK.ovl {X:Cx} {S:List Fr} {c:Code} {α:Type} (ks:List Nat) (vs:α→List LV) (obs:α→List OB) (ok:α→Prop) (μ:α→Nat) (n:Nat) (a0:α) (h0:ok a0) (hl:leS sl (zipS ks (vs a0))∧ob=obs a0)
  (hb:∀ x,ok x→∃ τ,Le ⟨zipS ks (vs x)++dels sl ks,obs x⟩ τ∧go n X (.code c) (.lp (fun τ=>∃ y,ok y∧μ y<μ x∧Le τ ⟨zipS ks (vs y)++dels sl ks,obs y⟩)::S) τ):LoopK X c S ⟨sl,ob⟩:=by
 have hle:Le ⟨sl,ob⟩ ⟨zipS ks (vs a0)++dels sl ks,obs a0⟩:=by
  rw [hl.2]
  rintro N w0 a w ⟨ι,h⟩
  refine ⟨ι,h.sub fun p hp=>?_⟩
  rcases List.mem_append.1 hp with hp|hp
  ·exact leS_mem hl.1 p hp
  ·exact mem_dels hp
 intro w0 hw0 a w hst
 have key:∀ (m:Nat) (x:α) (a:Act) (w:World),μ x<m→ok x→St X.N w0 ⟨zipS ks (vs x)++dels sl ks,obs x⟩ a w→Code.rounds X.E.P c (QS X w0 S) m a w:=by
  intro m
  induction m with
  | zero=>intro x a w hm;omega
  | succ m ih =>
   intro x a w hm hx hst
   rw [rounds_succ]
   obtain ⟨τ,hτ,hg⟩:=hb x hx
   have hc:=go_sound n hg w0 hw0 a w (hτ _ _ _ _ hst)
   refine wp_mono hc ?_
   intro e a' w' hq
   cases e with
   | normal =>
    obtain ⟨τ,h1,y,h2,h3,h4⟩:=hq
    exact ih y a' w' (by omega) h2 (h4 _ _ _ _ h1)
   | _=>exact hq
 exact wp_loop_rounds (μ a0+1) (key _ a0 a w (Nat.lt_succ_self _) h0 (hle _ _ _ _ hst))
end
attribute [push_cast] klP kilO isPx
end Go.LS
