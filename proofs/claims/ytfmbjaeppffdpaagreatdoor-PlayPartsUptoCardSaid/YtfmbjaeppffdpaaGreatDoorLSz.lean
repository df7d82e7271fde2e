/- From what an argument reads as,to logical data;from a contract,to the given form of a statement. -/
import Derived.Test.YtfmbjaeppffdpaaGreatDoorLD
import Derived.Carry
import Derived.OpenShut
import Derived.OpenVars
import Derived.JoinedCond
namespace Go.LS
open Go Go.RowKit Go.ChangeShapes
set_option maxRecDepth 100000
mutual
def blk {H:Type}:DataW H→Nat
 | .lit (.string bytes)=>bytes.length+1
 | .lit _=>1
 | .nil=>1
 | .ptr d=>blk d+1
 | .slice elems spare=>blks elems+blks spare+1
 | .agg parts=>blks parts+1
 | .iface _ d=>blk d+1
 | .map entries=>blkEs entries+1
 | .held _=>1
def blks {H:Type}:List (DataW H)→Nat
 | []=>0
 | d::r=>blk d+blks r
def blkEs {H:Type}:List (Lit × DataW H)→Nat
 | []=>0
 | x::r=>blkE x+blkEs r
def blkE {H:Type}:Lit × DataW H→Nat
 | (.string bytes,d)=>bytes.length+blk d+1
 | (_,d)=>blk d+1
end
abbrev nob:Nat→Prop:=fun _=>False
def Rd (P:Program) (n:Nat) (t:TypeId) {A:Type} (e:A→List DV) (μ:A→Nat) (inv:A→Prop):Prop :=
 ∀ (H:Type) (enc:TypeId × Value→H) (w:World) (fuel:Nat) (cs:List Value) (x:DataW H × List MemPlace),fuel≤n →
  DataW.trod enc P w 0 (fun _=>true) true fuel t cs=some x→∃ a,denVs w nob (e a) cs∧μ a≤blk x.1∧inv a
def RdF (P:Program) (n:Nat) (fs:List Field) (off tot:Nat) {A:Type} (e:A→List DV) (μ:A→Nat) (inv:A→Prop):Prop :=
 ∀ (H:Type) (enc:TypeId × Value→H) (w:World) (fuel:Nat) (cs:List Value) (xs:List (DataW H × List MemPlace)),fuel≤n→cs.length=tot→xs.length=fs.length →
  (∀ (i:Nat) (f:Field),fs[i]?=some f→DataW.trod enc P w 0 (fun _=>true) true fuel f.type ((cs.drop f.offset).take (P.cellsOf f.type))=xs[i]?) →
  ∃ a,denVs w nob (e a) (cs.drop off)∧μ a≤blks (xs.map (·.1))∧inv a
section
variable {P:Program} {n:Nat} {t:TypeId} {A B:Type} {e:A→List DV} {μ:A→Nat} {inv:A→Prop}
theorem denVs_one {w:World} {O:Nat→Prop} {d:DV} {u:Value} (h:den w O d u):denVs w O [d] [u]:=⟨u,[],rfl,h,rfl⟩
theorem Rd.map (h:Rd P n t e μ inv) {e':B→List DV} {μ':B→Nat} {inv':B→Prop} (g:A→B) (he:∀ a,e' (g a)=e a) (hm:∀ a,inv a→μ' (g a)≤μ a) (hi:∀ a,inv a→inv' (g a)):Rd P n t e' μ' inv':=by
 intro H enc w fuel cs x hf hx
 obtain ⟨a,h1,h2,h3⟩:=h H enc w fuel cs x hf hx
 exact ⟨g a,by rw [he];exact h1,Nat.le_trans (hm a h3) h2,hi a h3⟩
theorem Rd.int {k:IntKind} (ht:P.underlying t=some (.int k)):Rd P n t (fun i:Int=>[DV.v (.int k i)]) (fun _=>1) (inK k):=by
 intro H enc w fuel cs x _ hx
 obtain ⟨i,rfl,rfl,hwf⟩:=DataW.trod_int ht hx
 refine ⟨i,denVs_one ⟨rfl,rfl⟩,by simp [blk],?_⟩
 simp only [Lit.wf,Bool.and_eq_true,decide_eq_true_eq] at hwf
 exact hwf
theorem Rd.bool (ht:P.underlying t=some .bool):Rd P n t (fun b:Bool=>[DV.v (.bool b)]) (fun _=>1) (fun _=>True):=by
 intro H enc w fuel cs x _ hx
 obtain ⟨i,rfl,rfl⟩:=DataW.trod_bool ht hx
 exact ⟨i,denVs_one ⟨rfl,rfl⟩,by simp [blk],trivial⟩
theorem Rd.string (ht:P.underlying t=some .string):Rd P n t (fun s:ByteArray=>[DV.v (.string s)]) (fun s=>s.size+1) (fun _=>True):=by
 intro H enc w fuel cs x _ hx
 obtain ⟨s,rfl,rfl,_⟩:=DataW.trod_string ht hx
 refine ⟨s,denVs_one ⟨rfl,rfl⟩,?_,trivial⟩
 simp only [blk,Array.length_toList]
 exact Nat.le_refl _
def sumOf (μ:A→Nat):List A→Nat
 | []=>0
 | a::l=>μ a+sumOf μ l
theorem rd_elems {H:Type} {enc:TypeId × Value→H} {w:World} {fuel sz:Nat} (h:Rd P n t e μ inv) (hf:fuel≤n) (hsz:P.cellsOf t=sz) (hpos:0<sz) (hlen:∀ a,(e a).length=sz) :
  ∀ (elems:List (DataW H × List MemPlace)) (a:Addr),(∀ i,i<elems.length→(w.cells? 0 (a.add (i*sz)) sz).bind (DataW.trod enc P w 0 (fun _=>true) true fuel t)=elems[i]?) →
   ∃ l:List A,rdEs w nob sz a (l.map e)∧l.length=elems.length∧sumOf μ l≤blks (elems.map (·.1))∧(∀ a∈l,inv a)∧(0<elems.length→a.block<w.heap.size)
 | [],a,_=>⟨[],trivial,rfl,by simp [sumOf,blks],by simp,by simp⟩
 | x::elems,a,hel=>by
  have h0:=hel 0 (by simp)
  simp only [Nat.zero_mul,List.getElem?_cons_zero,Option.bind_eq_some_iff] at h0
  obtain ⟨cs,hc,hx⟩:=h0
  obtain ⟨_,hl,hcell⟩:=World.cells?_some hc
  obtain ⟨a0,k1,k2,k3⟩:=h H enc w fuel cs x hf hx
  obtain ⟨l,q1,q2,q3,q4,q5⟩:=rd_elems h hf hsz hpos hlen elems (a.add sz) (fun i hi=>by
   have:=hel (i+1) (by simpa using hi)
   rw [add_add,show sz+i*sz=(i+1)*sz by rw [Nat.add_mul];omega]
   simpa using this)
  have hb:=World.cells?_block hc hpos
  refine ⟨a0::l,⟨hlen a0,denCs_of_vals k1 (fun j u hj=>?_),q1⟩,by simp [q2],?_,?_,fun _=>by simpa [add_block] using hb⟩
  ·have hj':j<cs.length:=(List.getElem?_eq_some_iff.1 hj).1
   have:=hcell j (by omega)
   rw [hj] at this
   exact this
  ·simp only [sumOf,List.map_cons,blks];omega
  ·intro b hb
   rcases List.mem_cons.1 hb with rfl|hb
   ·exact k3
   ·exact q4 b hb
theorem Rd.slice {s:TypeId} {sz:Nat} (hs:P.underlying s=some (.slice t)) (hsz:P.cellsOf t=sz) (hpos:0<sz) (hlen:∀ a,(e a).length=sz) (h:Rd P n t e μ inv) :
  Rd P n s (fun l:List A=>[DV.sl sz (l.map e)]) (fun l=>sumOf μ l+1) (fun l=>∀ a∈l,inv a):=by
 intro H enc w fuel cs x hf hx
 rcases DataW.trod_slice hs hx with ⟨rfl,rfl⟩|⟨a,len,cap,elems,rest,m,rfl,rfl,rfl,_,hlc,hcm,hel,hget,_,_⟩
 ·exact ⟨[],denVs_one ⟨none,0,rfl,Nat.le_refl _,by simp [maxLen],fun h=>by simp at h⟩,by simp [sumOf,blk],by simp⟩
 ·rw [hsz] at hget
  obtain ⟨l,q1,q2,q3,q4,q5⟩:=rd_elems h (by omega:m≤n) hsz hpos hlen elems a (by rw [hel];exact hget)
  refine ⟨l,denVs_one ⟨some a,cap,by simp [q2,hel],by simp;omega,hcm,fun hl=>⟨a,rfl,q5 (by simpa [q2] using hl),id,q1⟩⟩,?_,q4⟩
  simp only [blk];omega
theorem RdF.nil (tot:Nat):RdF P n [] tot tot (fun _:Unit=>[]) (fun _=>0) (fun _=>True):=by
 intro H enc w fuel cs xs _ hc _ _
 refine ⟨(),?_,by simp,trivial⟩
 rw [List.drop_eq_nil_of_le (by omega)]
 rfl
theorem RdF.cons {f:Field} {fs:List Field} {off sz tot:Nat} {e':B→List DV} {μ':B→Nat} {inv':B→Prop} (ho:f.offset=off) (hsz:P.cellsOf f.type=sz) (_hlen:∀ a,(e a).length=sz) (h:Rd P n f.type e μ inv)
  (hr:RdF P n fs (off+sz) tot e' μ' inv'):RdF P n (f::fs) off tot (fun x:A × B=>e x.1++e' x.2) (fun x=>μ x.1+μ' x.2) (fun x=>inv x.1∧inv' x.2):=by
 intro H enc w fuel cs xs hf hc hl hx
 cases xs with
 | nil=>simp at hl
 | cons x xs =>
  have h0:=hx 0 f rfl
  rw [List.getElem?_cons_zero,ho,hsz] at h0
  obtain ⟨a,k1,k2,k3⟩:=h H enc w fuel _ x hf h0
  obtain ⟨b,q1,q2,q3⟩:=hr H enc w fuel cs xs hf hc (by simpa using hl) (fun i g hg=>by simpa using hx (i+1) g (by simpa using hg))
  refine ⟨(a,b),?_,?_,k3,q3⟩
  ·have:=denVs_append k1 q1
   rwa [← List.drop_drop,List.take_append_drop] at this
  ·simp only [List.map_cons,blks];omega
theorem Rd.struct {fs:Array Field} {tot:Nat} (ht:P.underlying t=some (.struct fs)) (htot:P.cellsOf t=tot) (h:RdF P n fs.toList 0 tot e μ inv):Rd P (n+1) t e (fun a=>μ a+1) inv:=by
 intro H enc w fuel cs x hf hx
 obtain ⟨xs,m,rfl,rfl,hl,hlen,hget⟩:=DataW.trod_struct ht hx
 obtain ⟨a,k1,k2,k3⟩:=h H enc w m cs xs (by omega) (by omega) (by simpa using hlen) (fun i f hi=>hget i f (by simpa using hi))
 exact ⟨a,by simpa using k1,by simp only [blk];omega,k3⟩
theorem Rd.zero:Rd P 0 t e μ inv:=by
 intro H enc w fuel cs x hf hx
 obtain rfl:fuel=0:=by omega
 simp [DataW.trod] at hx
theorem Rd.mono {m:Nat} (h:Rd P m t e μ inv) (hn:n≤m):Rd P n t e μ inv:=fun H enc w fuel cs x hf=>h H enc w fuel cs x (by omega)
end
/-! ### Arguments -/
section
variable {H:Type} {enc:TypeId × Value→H} {P:Program} {W W':World}
theorem dat_one {t:TypeId} {A:Type} {e:A→List DV} {μ:A→Nat} {inv:A→Prop} (h:∀ n,Rd P n t e μ inv) {v:Value} {d:DataW H} {ps:List MemPlace} (hd:DataW.Trod enc P W 0 (fun _=>true) true t v d ps) :
  ∃ a,denVs W nob (e a) v.cells.toList∧μ a≤blk d∧inv a:=by
 obtain ⟨fuel,hf⟩:=hd
 exact h fuel H enc W fuel _ _ (Nat.le_refl _) hf
theorem dat_cell {v:Value} {d:DV} (hv:v.cells=#[v]) (h:denVs W nob [d] v.cells.toList):dat W nob (.c (.d d)) v:=by
 rw [hv] at h
 obtain ⟨u,r,h1,h2,h3⟩:=h
 simp only [List.cons.injEq] at h1
 obtain ⟨rfl,_⟩:=h1
 exact h2
theorem dcvs_of {w:World} {O:Nat→Prop} {ι:Io} {ob:List OB}:∀ {cs:List DV} {us:List Value},denVs w O cs us→dcvs w O ι ob (cs.map .d) us
 | [],us,h=>h
 | c::cs,us,h=>by
  obtain ⟨u,r,rfl,hu,hr⟩:=h
  exact ⟨u,r,rfl,hu,dcvs_of hr⟩
theorem dat_agg {us:Array Value} {ds:List DV} (h:denVs W nob ds (Value.agg us).cells.toList):dat W nob (.ag (ds.map .d)) (.agg us) :=
 ⟨us,rfl,dcvs_of h⟩
/-! ### The post -/
theorem trodAll_below (hl:laidOutB P=true) (hb:Below W.heap.size W W'):∀ {ts:List TypeId} {vs:List Value} {ds:List (DataW H)} {ps:List MemPlace},(ts.all fun t=>P.readableRec t && decide (t<P.types.size))=true →
  DataW.TrodAll enc P W 0 (fun _=>true) true ts vs ds ps→(∀ x∈ps,x.block<W.heap.size)→DataW.TrodAll enc P W' 0 (fun b=>decide (b<W.heap.size)) true ts vs ds ps
 | [],_,_,_,_,h,_=>by
  obtain ⟨rfl,rfl,rfl⟩:=trodAll_nil h
  exact trodAll_mk0
 | t::ts,_,_,_,ht,h,hlt=>by
  obtain ⟨v,vs,d,ds,p,q,rfl,rfl,rfl,h1,h2⟩:=trodAll_cons h
  simp only [List.all_cons,Bool.and_eq_true,decide_eq_true_eq] at ht
  exact trodAll_cons_mk (Below.trod hl ht.1.1 ht.1.2 h1 hb (fun x hx=>hlt x (by simp [hx]))) (trodAll_below hl hb ht.2 h2 (fun x hx=>hlt x (by simp [hx])))
theorem keptBut_below (hb:Below W.heap.size W W') (may:MemPlace→Prop):W.keptBut W' may:=by
 refine ⟨hb.os,hb.output,fun i hi=>?_⟩
 rw [hb.block i hi]
 cases h:W.heap[i]? with
 | none=>rfl
 | some o=>cases o<;>simp
theorem contract_of_spec {V:Env} (hP:V.P=P) {f:FuncId} {fn:Func} {s:ChangeSpec} {xs:List LV} {args:Array Value} {ds gs:List (DataW H)} {before:List MemPlace} {tb:TypeId}
  (hG:V.G W) (hspec:Spec V f xs (b2 true)) (hd:dats W nob xs args.toList) (hW:DataW.Whole enc P fn.params.toList s.vars false W args.toList ds gs before)
  (hres:fn.resultTypes=#[tb]) (hb:P.underlying tb=some .bool) (hl:laidOutB P=true) (hts:(fn.params.toList.all fun t=>P.readableRec t && decide (t<P.types.size))=true)
  (hvars:varsRowed P s.vars=true) (hfn:s.fn H (ds++gs)={ results:=[.lit (.bool true)],args:=ds,vars:=gs }) :
  Calls P f args W fun e W'=>∃ v,e=.returned v∧s.post enc P fn false true false false W args v W':=by
 subst hP
 refine (hspec.2.2 W nob args hG (fun _ h=>h.elim) hd).mono ?_
 rintro e W' ⟨v,rfl,hext,hv⟩
 obtain ⟨rfl,_⟩:v=.bool true∧_:=hv
 refine ⟨_,rfl,?_⟩
 have hbel:=hext.below
 have hW':=hW
 obtain ⟨pa,pv,hA,hV,rfl,hz,hn⟩:=hW
 have hlt:=hW'.lt
 refine ⟨ds,gs,pa++pv,[],pa,pv,hW',?_,?_,?_,keptBut_below hbel _,fun h=>by cases h⟩
 ·rw [hres,hfn]
  exact trodAll_cons_mk (p':=[]) (shut_bool hb true) trodAll_mk0
 ·rw [hfn]
  exact trodAll_below hl hbel hts hA (fun x hx=>hlt x (by simp [hx]))
 ·rw [hfn]
  exact Below.trodVars hl hbel hvars hV
end
end Go.LS
