/- Part LA: 6 texts,one behind the other. -/
import Derived.WalkKit
/- Logical data,and what it is to hold it in a world. -/
namespace Go.LS
def mS:Nat:=1000000
open Go Go.RowKit
/-! ### Worlds -/
structure Ext (M:Nat→Prop) (w w':World):Prop where
 os:w'.os=w.os
 tape:w'.tape=w.tape
 output:w'.output=w.output
 size:w.heap.size≤w'.heap.size
 block:∀ k,k<w.heap.size→¬ M k→w'.heap[k]?=w.heap[k]?
def noB:Nat→Prop:=fun _=>False
theorem Ext.refl (M:Nat→Prop) (w:World):Ext M w w:=⟨rfl,rfl,rfl,Nat.le_refl _,fun _ _ _=>rfl⟩
theorem Ext.trans {M:Nat→Prop} {a b c:World} (h:Ext M a b) (k:Ext M b c):Ext M a c :=
 ⟨k.os.trans h.os,k.tape.trans h.tape,k.output.trans h.output,Nat.le_trans h.size k.size,fun i hi hm=>(k.block i (Nat.lt_of_lt_of_le hi h.size) hm).trans (h.block i hi hm)⟩
theorem Ext.weaken {M M':Nat→Prop} {a b:World} (h:Ext M a b) (hm:∀ k,k<a.heap.size→M k→M' k):Ext M' a b :=
 ⟨h.os,h.tape,h.output,h.size,fun i hi hn=>h.block i hi (fun e=>hn (hm i hi e))⟩
theorem Ext.drew (M:Nat→Prop) (w:World):Ext M w w.drew:=⟨rfl,rfl,rfl,Nat.le_refl _,fun _ _ _=>rfl⟩
theorem Ext.alloc (M:Nat→Prop) (w:World) (o:Obj):Ext M w (w.alloc o) :=
 ⟨rfl,rfl,rfl,by simp,fun k hk _=>Below.heap_alloc w o k hk⟩
theorem Ext.setCell {M:Nat→Prop} (w:World) (p:Addr) (u:Value) (hp:M p.block):Ext M w (w.setCell p u) :=
 ⟨rfl,rfl,rfl,by simp [World.setCell],fun k _ hn=>Below.heap_setCell _ _ _ _ (fun e=>hn (e ▸ hp))⟩
theorem Ext.of_below {w w':World} (h:Below w.heap.size w w'):Ext noB w w':=⟨h.os,h.tape,h.output,h.size,fun k hk _=>h.block k hk⟩
theorem Ext.below {w w':World} (h:Ext noB w w'):Below w.heap.size w w':=⟨h.os,h.tape,h.output,h.size,fun k hk=>h.block k hk id⟩
theorem Ext.of_grown {M:Nat→Prop} {w w':World} {row:Option Nat} (h:w.grownBy w' row) (hr:∀ g,row=some g→M g):Ext M w w' :=
 ⟨h.os,h.tape,h.output,h.size,fun k hk hn=>h.block k hk (fun e=>hn (hr k e.symm))⟩
theorem Ext.grow {M M':Nat→Prop} {w0 w w':World} (h:Ext M w0 w) (he:Ext M' w w') (hm:∀ k,M' k→w0.heap.size≤k∨M k):Ext M w0 w' :=
 ⟨he.os.trans h.os,he.tape.trans h.tape,he.output.trans h.output,Nat.le_trans h.size he.size,fun k hk hn=>(he.block k (by have:=h.size;omega) (fun e=>(hm k e).elim (fun x=>by omega) hn)).trans (h.block k hk hn)⟩
theorem Ext.cell {M:Nat→Prop} {w w':World} (h:Ext M w w') {p:Addr} (hp:p.block<w.heap.size) (hn:¬ M p.block):w'.cell? p=w.cell? p :=
 World.cell?_of_block (h.block p.block hp hn)
theorem add_block (a:Addr) (n:Nat):(a.add n).block=a.block:=by unfold Addr.add;split<;>rfl
theorem add_add (a:Addr) (i j:Nat):(a.add i).add j=a.add (i+j):=by
 unfold Addr.add
 by_cases hi:i=0<;>by_cases hj:j=0<;>simp [hi,hj,Nat.add_assoc]
theorem add_zero' (a:Addr):a.add 0=a:=rfl
theorem add_lit' (g o n:Nat):(⟨g,o,none⟩:Addr).add n=⟨g,o+n,none⟩:=by unfold Addr.add;split<;>simp_all
/-! ### Logical data -/
inductive DV where
 | v (x:Value)
 | sl (size:Nat) (es:List (List DV))
 | at_ (cs:List DV)
 | clo (f:FuncId) (caps:List DV)
deriving Inhabited
mutual
def den (w:World) (O:Nat→Prop):DV→Value→Prop
 | .v x,u=>u=x∧x.oneCell'=true
 | .sl size es,u=>∃ A cap,u=.slice A es.length cap∧es.length≤cap∧cap≤maxLen ∧
   (0<es.length→∃ a,A=some a∧a.block<w.heap.size∧¬ O a.block∧rdEs w O size a es)
 | .at_ cs,u=>∃ a:Addr,u=.pointer (some a)∧a.block<w.heap.size∧¬ O a.block∧denCs w O a cs
 | .clo f caps,u=>∃ us:Array Value,u=.func (.func f) #[] us∧denVs w O caps us.toList
def denCs (w:World) (O:Nat→Prop) (a:Addr):List DV→Prop
 | []=>True
 | c::cs=>(∃ u,w.cell? a=some u∧den w O c u)∧denCs w O (a.add 1) cs
def denVs (w:World) (O:Nat→Prop):List DV→List Value→Prop
 | [],us=>us=[]
 | c::cs,us=>∃ u r,us=u::r∧den w O c u∧denVs w O cs r
def rdEs (w:World) (O:Nat→Prop) (size:Nat) (a:Addr):List (List DV)→Prop
 | []=>True
 | e::es=>e.length=size∧denCs w O a e∧rdEs w O size (a.add size) es
end
section mono
variable {M O O':Nat→Prop} {w w':World}
structure Stays (M O O':Nat→Prop) (w w':World):Prop where
 ext:Ext M w w'
 muts:∀ k,k<w.heap.size→M k→O k
 own:∀ k,k<w.heap.size→O' k→O k
theorem Stays.cell (h:Stays M O O' w w') {a:Addr} (hb:a.block<w.heap.size) (ho:¬ O a.block):w'.cell? a=w.cell? a :=
 h.ext.cell hb (fun e=>ho (h.muts _ hb e))
mutual
theorem den_mono (h:Stays M O O' w w'):∀ (d:DV) (u:Value),den w O d u→den w' O' d u
 | .v x,u,hd=>hd
 | .sl size es,u,hd=>by
  obtain ⟨A,cap,rfl,h1,h2,h3⟩:=hd
  refine ⟨A,cap,rfl,h1,h2,fun hl=>?_⟩
  obtain ⟨a,rfl,hb,ho,hr⟩:=h3 hl
  exact ⟨a,rfl,Nat.lt_of_lt_of_le hb h.ext.size,fun e=>ho (h.own _ hb e),rdEs_mono h size es a hb ho hr⟩
 | .at_ cs,u,hd=>by
  obtain ⟨a,rfl,hb,ho,hr⟩:=hd
  exact ⟨a,rfl,Nat.lt_of_lt_of_le hb h.ext.size,fun e=>ho (h.own _ hb e),denCs_mono h cs a hb ho hr⟩
 | .clo f caps,u,hd=>by
  obtain ⟨us,rfl,hv⟩:=hd
  exact ⟨us,rfl,denVs_mono h caps us.toList hv⟩
theorem denCs_mono (h:Stays M O O' w w'):∀ (cs:List DV) (a:Addr),a.block<w.heap.size→¬ O a.block→denCs w O a cs→denCs w' O' a cs
 | [],_,_,_,_=>trivial
 | c::cs,a,hb,ho,hd=>by
  obtain ⟨⟨u,hc,hu⟩,hr⟩:=hd
  exact ⟨⟨u,(h.cell hb ho).trans hc,den_mono h c u hu⟩,denCs_mono h cs (a.add 1) (by rw [add_block];exact hb) (by rw [add_block];exact ho) hr⟩
theorem denVs_mono (h:Stays M O O' w w'):∀ (cs:List DV) (us:List Value),denVs w O cs us→denVs w' O' cs us
 | [],_,hd=>hd
 | c::cs,us,hd=>by
  obtain ⟨u,r,rfl,hu,hr⟩:=hd
  exact ⟨u,r,rfl,den_mono h c u hu,denVs_mono h cs r hr⟩
theorem rdEs_mono (h:Stays M O O' w w') (size:Nat):∀ (es:List (List DV)) (a:Addr),a.block<w.heap.size→¬ O a.block→rdEs w O size a es→rdEs w' O' size a es
 | [],_,_,_,_=>trivial
 | e::es,a,hb,ho,hd=>by
  obtain ⟨hl,hc,hr⟩:=hd
  exact ⟨hl,denCs_mono h e a hb ho hc,rdEs_mono h size es (a.add size) (by rw [add_block];exact hb) (by rw [add_block];exact ho) hr⟩
end
theorem denCs_mono' (h:Stays M O O' w w'):∀ (cs:List DV) (a:Addr) (n:Nat),cs.length≤n→(∀ j,j<n→w'.cell? (a.add j)=w.cell? (a.add j))→denCs w O a cs→denCs w' O' a cs
 | [],_,_,_,_,_=>trivial
 | c::cs,a,0,hn,_,_=>by simp at hn
 | c::cs,a,n+1,hn,hcell,hd=>by
  obtain ⟨⟨u,hc,hu⟩,hr⟩:=hd
  refine ⟨⟨u,(hcell 0 (by omega)).trans hc,den_mono h c u hu⟩,denCs_mono' h cs (a.add 1) n (by simpa using hn) (fun j hj=>?_) hr⟩
  rw [add_add]
  exact hcell (1+j) (by omega)
theorem rdEs_mono' (h:Stays M O O' w w') (size:Nat):∀ (es:List (List DV)) (a:Addr) (n:Nat),es.length*size≤n→(∀ j,j<n→w'.cell? (a.add j)=w.cell? (a.add j))→rdEs w O size a es→rdEs w' O' size a es
 | [],_,_,_,_,_=>trivial
 | e::es,a,n,hn,hcell,hd=>by
  obtain ⟨hl,hc,hr⟩:=hd
  simp only [List.length_cons,Nat.add_mul,Nat.one_mul] at hn
  refine ⟨hl,denCs_mono' h e a n (by omega) hcell hc,rdEs_mono' h size es (a.add size) (n - size) (by omega) (fun j hj=>?_) hr⟩
  rw [add_add]
  exact hcell (size+j) (by omega)
end mono
section reads
variable {O:Nat→Prop} {w:World}
theorem denCs_append:∀ (xs ys:List DV) (a:Addr),denCs w O a (xs++ys)↔denCs w O a xs∧denCs w O (a.add xs.length) ys
 | [],ys,a=>by simp [denCs,add_zero']
 | x::xs,ys,a=>by
  simp only [List.cons_append,denCs,List.length_cons]
  rw [denCs_append xs ys (a.add 1),add_add,Nat.add_comm 1]
  exact ⟨fun ⟨h1,h2,h3⟩=>⟨⟨h1,h2⟩,h3⟩,fun ⟨⟨h1,h2⟩,h3⟩=>⟨h1,h2,h3⟩⟩
theorem rdEs_append (size:Nat):∀ (xs ys:List (List DV)) (a:Addr),rdEs w O size a (xs++ys)↔rdEs w O size a xs∧rdEs w O size (a.add (xs.length*size)) ys
 | [],ys,a=>by simp [rdEs,add_zero']
 | x::xs,ys,a=>by
  simp only [List.cons_append,rdEs,List.length_cons]
  rw [rdEs_append size xs ys (a.add size),add_add,show size+xs.length*size=(xs.length+1)*size by rw [Nat.add_mul];omega]
  exact ⟨fun ⟨h1,h2,h3,h4⟩=>⟨⟨h1,h2,h3⟩,h4⟩,fun ⟨⟨h1,h2,h3⟩,h4⟩=>⟨h1,h2,h3,h4⟩⟩
theorem rdEs_get {size:Nat} {es:List (List DV)} {a:Addr} (h:rdEs w O size a es) {i:Nat} (hi:i<es.length):es[i].length=size∧denCs w O (a.add (i*size)) es[i]:=by
 have e:es=es.take i++es[i]::es.drop (i+1):=by simp
 rw [e,rdEs_append] at h
 obtain ⟨_,h2⟩:=h
 rw [List.length_take,Nat.min_eq_left (by omega)] at h2
 exact ⟨h2.1,h2.2.1⟩
theorem rdEs_drop {size:Nat} {es:List (List DV)} {a:Addr} (h:rdEs w O size a es) (k:Nat) (hk:k≤es.length):rdEs w O size (a.add (k*size)) (es.drop k):=by
 have e:es=es.take k++es.drop k:=by simp
 rw [e,rdEs_append,List.length_take,Nat.min_eq_left hk] at h
 exact h.2
theorem rdEs_take {size:Nat} {es:List (List DV)} {a:Addr} (h:rdEs w O size a es) (k:Nat):rdEs w O size a (es.take k):=by
 have e:es=es.take k++es.drop k:=by simp
 rw [e,rdEs_append] at h
 exact h.1
theorem denCs_drop {cs:List DV} {a:Addr} (h:denCs w O a cs) (k:Nat) (hk:k≤cs.length):denCs w O (a.add k) (cs.drop k):=by
 have e:cs=cs.take k++cs.drop k:=by simp
 rw [e,denCs_append,List.length_take,Nat.min_eq_left hk] at h
 exact h.2
theorem denCs_take {cs:List DV} {a:Addr} (h:denCs w O a cs) (k:Nat):denCs w O a (cs.take k):=by
 have e:cs=cs.take k++cs.drop k:=by simp
 rw [e,denCs_append] at h
 exact h.1
theorem denCs_vals:∀ {cs:List DV} {a:Addr},denCs w O a cs→∃ us:List Value,denVs w O cs us∧us.length=cs.length∧∀ j u,us[j]?=some u→w.cell? (a.add j)=some u
 | [],a,_=>⟨[],rfl,rfl,fun j u h=>by simp at h⟩
 | c::cs,a,h=>by
  obtain ⟨⟨u,hc,hu⟩,hr⟩:=h
  obtain ⟨us,h1,h2,h3⟩:=denCs_vals hr
  refine ⟨u::us,⟨u,us,rfl,hu,h1⟩,by simp [h2],fun j v hj=>?_⟩
  cases j with
  | zero=>simp at hj;subst hj;exact hc
  | succ j =>
   have:=h3 j v (by simpa using hj)
   rw [add_add,Nat.add_comm 1] at this
   exact this
theorem denCs_of_vals:∀ {cs:List DV} {us:List Value} {a:Addr},denVs w O cs us→(∀ j u,us[j]?=some u→w.cell? (a.add j)=some u)→denCs w O a cs
 | [],us,a,_,_=>trivial
 | c::cs,us,a,h,hc=>by
  obtain ⟨u,r,rfl,hu,hr⟩:=h
  refine ⟨⟨u,hc 0 u rfl,hu⟩,denCs_of_vals hr (fun j v hj=>?_)⟩
  rw [add_add,Nat.add_comm 1]
  exact hc (j+1) v (by simpa using hj)
theorem denVs_length:∀ {cs:List DV} {us:List Value},denVs w O cs us→us.length=cs.length
 | [],us,h=>by simp only [denVs] at h;simp [h]
 | c::cs,us,h=>by
  obtain ⟨u,r,rfl,_,hr⟩:=h
  simp [denVs_length hr]
theorem denVs_append:∀ {xs ys:List DV} {us vs:List Value},denVs w O xs us→denVs w O ys vs→denVs w O (xs++ys) (us++vs)
 | [],ys,us,vs,h,h'=>by simp only [denVs] at h;subst h;simpa using h'
 | c::xs,ys,us,vs,h,h'=>by
  obtain ⟨u,r,rfl,hu,hr⟩:=h
  exact ⟨u,r++vs,rfl,hu,denVs_append hr h'⟩
theorem rdEs_vals (size:Nat):∀ {es:List (List DV)} {a:Addr},rdEs w O size a es→∃ us:List Value,denVs w O es.flatten us∧us.length=es.length*size∧(∀ e∈es,e.length=size)∧∀ j u,us[j]?=some u→w.cell? (a.add j)=some u
 | [],a,_=>⟨[],rfl,by simp,by simp,fun j u h=>by simp at h⟩
 | e::es,a,h=>by
  obtain ⟨hl,hc,hr⟩:=h
  obtain ⟨us,h1,h2,h3⟩:=denCs_vals hc
  obtain ⟨vs,k1,k2,k3,k4⟩:=rdEs_vals size hr
  refine ⟨us++vs,denVs_append h1 k1,by simp [h2,hl,k2,Nat.add_mul];omega,by simpa [hl] using k3,fun j v hj=>?_⟩
  rw [List.getElem?_append] at hj
  split at hj
  ·exact h3 j v hj
  ·have:=k4 _ v hj
   rw [add_add] at this
   rwa [show size+(j - us.length)=j by omega] at this
theorem rdEs_of_vals (size:Nat):∀ {es:List (List DV)} {us:List Value} {a:Addr},denVs w O es.flatten us→(∀ e∈es,e.length=size)→(∀ j u,us[j]?=some u→w.cell? (a.add j)=some u)→rdEs w O size a es
 | [],us,a,_,_,_=>trivial
 | e::es,us,a,h,hl,hc=>by
  have hle:e.length=size:=hl e (by simp)
  have key:∀ {xs ys:List DV} {us:List Value},denVs w O (xs++ys) us→denVs w O xs (us.take xs.length)∧denVs w O ys (us.drop xs.length):=by
   intro xs
   induction xs with
   | nil=>intro ys us h;exact ⟨by simp [denVs],by simpa using h⟩
   | cons x xs ih =>
    intro ys us h
    obtain ⟨u,r,rfl,hu,hr⟩:=h
    obtain ⟨i1,i2⟩:=ih hr
    exact ⟨⟨u,_,rfl,hu,i1⟩,by simpa using i2⟩
  rw [List.flatten_cons] at h
  obtain ⟨h1,h2⟩:=key h
  refine ⟨hle,denCs_of_vals h1 (fun j u hj=>?_),rdEs_of_vals size h2 (fun e' he'=>hl e' (by simp [he'])) (fun j u hj=>?_)⟩
  ·rw [List.getElem?_take] at hj
   split at hj
   ·exact hc j u hj
   ·cases hj
  ·rw [add_add]
   rw [List.getElem?_drop,hle] at hj
   exact hc _ u hj
theorem den_oneCell {d:DV} {u:Value} (h:den w O d u):u.oneCell'=true:=by
 cases d with
 | v x=>obtain ⟨rfl,h⟩:=h;exact h
 | sl size es=>obtain ⟨A,cap,rfl,_⟩:=h;rfl
 | at_ cs=>obtain ⟨a,rfl,_⟩:=h;rfl
 | clo f caps=>obtain ⟨us,rfl,_⟩:=h;rfl
end reads
open Go Go.RowKit
inductive CV where
 | d (x:DV)
 | op (k off:Nat)
 | oe (k i off:Nat)
 | os (k:Nat)
 | om (k:Nat)
 | any
deriving Inhabited
inductive LV where
 | c (x:CV)
 | ag (cs:List CV)
 | tu (vs:List LV)
deriving Inhabited
inductive OB where
 | bx (t:TypeId) (cs:List CV)
 | rw (t:TypeId) (size:Nat) (es:List (List DV))
 | mp (es:List (ByteArray × DV))
 | px (t size g cap:Nat) (es:List (List DV))
 | dead
deriving Inhabited
def OB.isDead:OB→Bool
 | .dead=>true
 | _=>false
structure LS where
 sl:List (Nat × LV)
 ob:List OB
def live (ob:List OB) (k:Nat):Prop:=∃ o,ob[k]?=some o∧o.isDead=false
structure Io where
 f:Nat→Option Nat
 E:Nat→Prop
instance:CoeFun Io (fun _=>Nat→Option Nat):=⟨Io.f⟩
structure W0 extends World where
 E:Nat→Prop
 M:Nat→Prop
 at_:Nat→Option Nat
def tyOf (t:Nat):Nat:=t % 1000000
def capOK (t cap:Nat):Prop:=cap≤maxLen∧(1000000≤t→cap+1=t / 1000000)
theorem capOK_small {t cap:Nat} (h:t<1000000) (hc:cap≤maxLen):capOK t cap:=⟨hc,fun h'=>by omega⟩
theorem tyOf_small {t:Nat} (h:t<1000000):tyOf t=t:=Nat.mod_eq_of_lt h
def own (ι:Io) (ob:List OB) (g:Nat):Prop:=ι.E g∨∃ k,live ob k∧ι k=some g
theorem live.lt {ob:List OB} {k:Nat} (h:live ob k):k<ob.length:=by
 obtain ⟨o,h,_⟩:=h
 exact (List.getElem?_eq_some_iff.1 h).1
def hdr (w:World) (g:Option Nat) (size n:Nat) (u:Value):Prop :=
 (g=none∧n=0∧u=.slice none 0 0)∨∃ b cur cap t,g=some b∧w.heap[b]?=some (.cells cur t (0,0))∧cur.size=cap*size∧n≤cap∧cap≤maxLen∧u=.slice (some ⟨b,0,none⟩) n cap
def dcv (w:World) (O:Nat→Prop) (ι:Io) (ob:List OB):CV→Value→Prop
 | .d x,u=>den w O x u
 | .op k off,u=>∃ g,live ob k∧ι k=some g∧u=.pointer (some ⟨g,off,none⟩)
 | .oe k i off,u=>∃ g t size es,ι k=some g∧ob[k]?=some (.rw t size es)∧i<es.length∧u=.pointer (some ⟨g,i*size+off,none⟩)
 | .os k,u=>∃ t size es,ob[k]?=some (.rw t size es)∧hdr w (ι k) size es.length u
 | .om k,u=>∃ g,live ob k∧ι k=some g∧u=.map (some g)
 | .any,u=>u.oneCell'=true
def dcvs (w:World) (O:Nat→Prop) (ι:Io) (ob:List OB):List CV→List Value→Prop
 | [],us=>us=[]
 | c::cs,us=>∃ u r,us=u::r∧dcv w O ι ob c u∧dcvs w O ι ob cs r
def dl1 (w:World) (O:Nat→Prop) (ι:Io) (ob:List OB):LV→Value→Prop
 | .c .any,_=>True
 | .c x,u=>dcv w O ι ob x u
 | .ag cs,u=>∃ us:Array Value,u=.agg us∧dcvs w O ι ob cs us.toList
 | .tu _,_=>False
def dl1s (w:World) (O:Nat→Prop) (ι:Io) (ob:List OB):List LV→List Value→Prop
 | [],us=>us=[]
 | c::cs,us=>∃ u r,us=u::r∧dl1 w O ι ob c u∧dl1s w O ι ob cs r
def dlv (w:World) (O:Nat→Prop) (ι:Io) (ob:List OB):LV→Value→Prop
 | .tu vs,u=>∃ us:Array Value,u=.tuple us∧dl1s w O ι ob vs us.toList
 | x,u=>dl1 w O ι ob x u
def dents (w:World) (O:Nat→Prop):List (ByteArray × DV)→List MapEntry→Prop
 | [],l=>l=[]
 | (k,x)::r,l=>∃ e l',l=e::l'∧e.key=.string k∧den w O x e.val∧dents w O r l'
def dob (w:World) (O:Nat→Prop) (ι:Io) (ob:List OB) (k:Nat):OB→Prop
 | .bx t cs=>∃ g us,ι k=some g∧w.heap[g]?=some (.cells us t (0,0))∧dcvs w O ι ob cs us.toList
 | .rw t size es=>0<size∧((ι k=none∧es=[])∨∃ g cur cap,ι k=some g∧w.heap[g]?=some (.cells cur (tyOf t) (0,0))∧cur.size=cap*size∧es.length≤cap∧capOK t cap∧rdEs w O size ⟨g,0,none⟩ es)
 | .mp es=>∃ g ents clk,ι k=some g∧w.heap[g]?=some (.map ents clk)∧dents w O es ents.toList
 | .px t size g cap es=>(0<size∧t<1000000)∧ι k=some g∧∃ cur,w.heap[g]?=some (.cells cur t (0,0))∧cur.size=cap*size∧es.length≤cap∧cap≤maxLen∧rdEs w O size ⟨g,0,none⟩ es
 | .dead=>True
structure StI (N:Nat) (w0:W0) (ι:Io) (σ:LS) (a:Act) (w:World):Prop where
 defers:a.defers=[]
 size:a.tmps.size=N
 below:Ext w0.M w0.toWorld w
 slots:∀ p∈σ.sl,∃ v,a.tmps[p.1]?=some v∧dlv w (own ι σ.ob) ι σ.ob p.2 v
 objs:∀ k o,σ.ob[k]?=some o→dob w (own ι σ.ob) ι σ.ob k o
 inj:∀ k k' g,live σ.ob k→live σ.ob k'→ι k=some g→ι k'=some g→k=k'
 base:∀ k g,live σ.ob k→ι k=some g→w0.heap.size≤g∨w0.M g
 out:ι.E=w0.E∧∀ g,w0.E g→g<w0.heap.size∧¬ w0.M g
 pin:∀ k (t:Nat) size es,σ.ob[k]?=some (.rw t size es)→1000000≤t→ι k=w0.at_ k
def St (N:Nat) (w0:W0) (σ:LS) (a:Act) (w:World):Prop:=∃ ι,StI N w0 ι σ a w
/-! ### What a state says of a slot -/
def getS:List (Nat × LV)→Nat→LV
 | [],_=>.c .any
 | (j,x)::r,i=>bif j == i then x else getS r i
def delS:List (Nat × LV)→Nat→List (Nat × LV)
 | [],_=>[]
 | (j,x)::r,i=>bif j == i then delS r i else (j,x)::delS r i
def LS.put (σ:LS) (d:Nat) (x:LV):LS:={ σ with sl:=(d,x)::delS σ.sl d }
def LS.putO (σ:LS):Option Nat→LV→LS
 | some d,x=>σ.put d x
 | none,_=>σ
def LS.del (σ:LS):Option Nat→LS
 | some d=>{ σ with sl:=delS σ.sl d }
 | none=>σ
theorem mem_delS {p:Nat × LV} {i:Nat}:∀ {l:List (Nat × LV)},p∈delS l i→p∈l∧p.1≠i
 | [],h=>by simp [delS] at h
 | (j,x)::r,h=>by
  simp only [delS] at h
  by_cases e:j=i
  ·subst e
   simp only [beq_self_eq_true,cond_true] at h
   have:=mem_delS h
   exact ⟨by simp [this.1],this.2⟩
  ·rw [show (j == i)=false by simpa using e,cond_false] at h
   rcases List.mem_cons.1 h with rfl|h
   ·exact ⟨by simp,e⟩
   ·have:=mem_delS h
    exact ⟨by simp [this.1],this.2⟩
theorem getS_mem:∀ {l:List (Nat × LV)} {i:Nat},getS l i=.c .any∨(i,getS l i)∈l
 | [],i=>.inl rfl
 | (j,x)::r,i=>by
  simp only [getS]
  by_cases e:j=i
  ·subst e;simp
  ·rw [show (j == i)=false by simpa using e,cond_false]
   rcases getS_mem (l:=r) (i:=i) with h|h
   ·exact .inl h
   ·exact .inr (by simp [h])
section
variable {N:Nat} {w0:W0} {ι:Io} {σ:LS} {a:Act} {w:World}
theorem StI.get (h:StI N w0 ι σ a w) {i:Nat} (_hi:i<N):dlv w (own ι σ.ob) ι σ.ob (getS σ.sl i) (a.tmps.getD i undef):=by
 rcases getS_mem (l:=σ.sl) (i:=i) with e|e
 ·rw [e];trivial
 ·obtain ⟨v,hv,hd⟩:=h.slots _ e
  simp only at hv
  rw [Array.getD_eq_getD_getElem?,hv]
  exact hd
theorem put_tmps (a:Act) (d:Nat) (v:Value):(a.put (some d) v).tmps=a.tmps.setIfInBounds d v:=rfl
theorem put_size (a:Act) (d:Option Nat) (v:Value):(a.put d v).tmps.size=a.tmps.size:=by cases d<;>simp [Act.put]
theorem StI.put (h:StI N w0 ι σ a w) {d:Nat} (hd:d<N) {x:LV} {v:Value} (hv:dlv w (own ι σ.ob) ι σ.ob x v):StI N w0 ι (σ.put d x) (a.put (some d) v) w where
 defers:=h.defers
 size:=by rw [put_size];exact h.size
 below:=h.below
 slots:=by
  intro p hp
  rw [put_tmps]
  rcases List.mem_cons.1 hp with rfl|hp
  ·exact ⟨v,by simp [h.size,hd],hv⟩
  ·obtain ⟨h1,h2⟩:=mem_delS hp
   obtain ⟨u,hu,hdu⟩:=h.slots p h1
   exact ⟨u,by rw [Array.getElem?_setIfInBounds_ne (Ne.symm h2)];exact hu,hdu⟩
 objs:=h.objs
 inj:=h.inj
 base:=h.base
 out:=h.out
 pin:=h.pin
theorem StI.putO (h:StI N w0 ι σ a w) {d:Option Nat} (hd:∀ k,d=some k→k<N) {x:LV} {v:Value} (hv:dlv w (own ι σ.ob) ι σ.ob x v):StI N w0 ι (σ.putO d x) (a.put d v) w:=by
 cases d with
 | none=>exact h
 | some d=>exact h.put (hd d rfl) hv
theorem StI.del (h:StI N w0 ι σ a w) (d:Option Nat) (v:Value):StI N w0 ι (σ.del d) (a.put d v) w:=by
 cases d with
 | none=>exact h
 | some d =>
  refine ⟨h.defers,by rw [put_size];exact h.size,h.below,?_,h.objs,h.inj,h.base,h.out,h.pin⟩
  intro p hp
  obtain ⟨h1,h2⟩:=mem_delS hp
  obtain ⟨u,hu,hdu⟩:=h.slots p h1
  exact ⟨u,by rw [put_tmps,Array.getElem?_setIfInBounds_ne (Ne.symm h2)];exact hu,hdu⟩
theorem StI.sub (h:StI N w0 ι σ a w) {sl:List (Nat × LV)} (hs:∀ p∈sl,p∈σ.sl):StI N w0 ι { σ with sl } a w :=
 ⟨h.defers,h.size,h.below,fun p hp=>h.slots p (hs p hp),h.objs,h.inj,h.base,h.out,h.pin⟩
end
/-! ### When the world goes on -/
section mono
variable {M O O':Nat→Prop} {w w':World} {ι ι':Io} {ob ob':List OB}
theorem dcvs_imp {R:CV→Value→Prop}:∀ {cs:List CV} {us:List Value},dcvs w O ι ob cs us→(∀ c u,c∈cs→dcv w O ι ob c u→dcv w' O' ι' ob' c u)→dcvs w' O' ι' ob' cs us
 | [],us,h,_=>h
 | c::cs,us,h,hi=>by
  obtain ⟨u,r,rfl,hu,hr⟩:=h
  exact ⟨u,r,rfl,hi c u (by simp) hu,dcvs_imp (R:=R) hr (fun c u hc=>hi c u (by simp [hc]))⟩
theorem hdr_ext (h:Ext M w w') {g:Option Nat} {size n:Nat} {u:Value} (hg:∀ b,g=some b→¬ M b) (hh:hdr w g size n u):hdr w' g size n u:=by
 rcases hh with hh|⟨b,cur,cap,t,rfl,hb,hr⟩
 ·exact .inl hh
 ·exact .inr ⟨b,cur,cap,t,rfl,(h.block b (Array.getElem?_eq_some_iff.1 hb).1 (hg b rfl)).trans hb,hr⟩
theorem dents_mono (h:Stays M O O' w w'):∀ {es:List (ByteArray × DV)} {l:List MapEntry},dents w O es l→dents w' O' es l
 | [],l,hd=>hd
 | (k,x)::r,l,hd=>by
  obtain ⟨e,l',rfl,hk,hx,hr⟩:=hd
  exact ⟨e,l',rfl,hk,den_mono h _ _ hx,dents_mono h hr⟩
theorem dcv_ext (h:Stays noB O O' w w') {c:CV} {u:Value} (hd:dcv w O ι ob c u):dcv w' O' ι ob c u:=by
 cases c with
 | d x=>exact den_mono h x u hd
 | os k =>
  obtain ⟨t,size,es,ho,hh⟩:=hd
  exact ⟨t,size,es,ho,hdr_ext h.ext (fun _ _=>id) hh⟩
 | _=>exact hd
theorem dl1_imp (hi:∀ c u,dcv w O ι ob c u→dcv w' O' ι' ob' c u):∀ {x:LV} {u:Value},dl1 w O ι ob x u→dl1 w' O' ι' ob' x u
 | .c .any,_,_=>trivial
 | .c (.d x),u,h=>hi (.d x) u h
 | .c (.op k off),u,h=>hi (.op k off) u h
 | .c (.oe k i off),u,h=>hi (.oe k i off) u h
 | .c (.os k),u,h=>hi (.os k) u h
 | .c (.om k),u,h=>hi (.om k) u h
 | .ag cs,u,h=>by
  obtain ⟨us,rfl,hd⟩:=h
  exact ⟨us,rfl,dcvs_imp (R:=fun _ _=>True) hd (fun c u _=>hi c u)⟩
 | .tu _,_,h=>h.elim
theorem dl1s_imp (hi:∀ c u,dcv w O ι ob c u→dcv w' O' ι' ob' c u):∀ {xs:List LV} {us:List Value},dl1s w O ι ob xs us→dl1s w' O' ι' ob' xs us
 | [],_,h=>h
 | x::xs,us,h=>by
  obtain ⟨u,r,rfl,hu,hr⟩:=h
  exact ⟨u,r,rfl,dl1_imp hi hu,dl1s_imp hi hr⟩
theorem dlv_imp (hi:∀ c u,dcv w O ι ob c u→dcv w' O' ι' ob' c u):∀ {x:LV} {u:Value},dlv w O ι ob x u→dlv w' O' ι' ob' x u
 | .c x,u,h=>dl1_imp (x:=.c x) hi h
 | .ag cs,u,h=>dl1_imp (x:=.ag cs) hi h
 | .tu xs,u,h=>by
  obtain ⟨us,rfl,hd⟩:=h
  exact ⟨us,rfl,dl1s_imp hi hd⟩
theorem own_lt {w0:W0} {N:Nat} {σ:LS} {a:Act} (h:StI N w0 ι σ a w) {g:Nat} (ho:own ι σ.ob g):g<w.heap.size:=by
 rcases ho with ho|⟨k,⟨o,hk,hd⟩,hg⟩
 ·exact Nat.lt_of_lt_of_le (h.out.2 g (h.out.1 ▸ ho)).1 h.below.size
 have:=h.objs k o hk
 cases o with
 | bx t cs =>
  obtain ⟨g',us,h1,h2,_⟩:=this
  rw [hg] at h1;cases h1
  exact (Array.getElem?_eq_some_iff.1 h2).1
 | rw t size es =>
  obtain ⟨_,h1|⟨g',cur,cap,h1,h2,_⟩⟩:=this
  ·rw [hg] at h1;cases h1.1
  ·rw [hg] at h1;cases h1
   exact (Array.getElem?_eq_some_iff.1 h2).1
 | mp es =>
  obtain ⟨g',ents,clk,h1,h2,_⟩:=this
  rw [hg] at h1;cases h1
  exact (Array.getElem?_eq_some_iff.1 h2).1
 | px t size g' cap es =>
  obtain ⟨_,h1,cur,h2,_⟩:=this
  rw [hg] at h1;cases h1
  exact (Array.getElem?_eq_some_iff.1 h2).1
 | dead=>cases hd
theorem dob_ext (h:Stays noB O O' w w') {k:Nat} {o:OB} (hd:dob w O ι ob k o):dob w' O' ι ob k o:=by
 cases o with
 | bx t cs =>
  obtain ⟨g,us,h1,h2,h3⟩:=hd
  exact ⟨g,us,h1,(h.ext.block g (Array.getElem?_eq_some_iff.1 h2).1 id).trans h2,dcvs_imp (R:=fun _ _=>True) h3 (fun c u _=>dcv_ext h)⟩
 | rw t size es =>
  refine ⟨hd.1,?_⟩
  rcases hd.2 with h1|⟨g,cur,cap,h1,h2,h3,h4,h5,h6⟩
  ·exact .inl h1
  ·have hb:=h.ext.block g (Array.getElem?_eq_some_iff.1 h2).1 id
   refine .inr ⟨g,cur,cap,h1,hb.trans h2,h3,h4,h5,rdEs_mono' h size es _ _ (Nat.le_refl _) (fun j _=>?_) h6⟩
   exact World.cell?_of_block (by rw [add_block];exact hb)
 | mp es =>
  obtain ⟨g,ents,clk,h1,h2,h3⟩:=hd
  exact ⟨g,ents,clk,h1,(h.ext.block g (Array.getElem?_eq_some_iff.1 h2).1 id).trans h2,dents_mono h h3⟩
 | px t size g cap es =>
  obtain ⟨h0,h1,cur,h2,h3,h4,h5,h6⟩:=hd
  have hb:=h.ext.block g (Array.getElem?_eq_some_iff.1 h2).1 id
  exact ⟨h0,h1,cur,hb.trans h2,h3,h4,h5,rdEs_mono' h size es _ _ (Nat.le_refl _) (fun j _=>World.cell?_of_block (by rw [add_block];exact hb)) h6⟩
 | dead=>trivial
theorem StI.ext {w0:W0} {N:Nat} {σ:LS} {a:Act} (h:StI N w0 ι σ a w) (he:Ext noB w w'):StI N w0 ι σ a w':=by
 have hs:Stays noB (own ι σ.ob) (own ι σ.ob) w w':=⟨he,fun _ _ h=>h.elim,fun _ _ h=>h⟩
 exact ⟨h.defers,h.size,h.below.grow he (fun _ h=>h.elim),fun p hp=>by
  obtain ⟨v,hv,hd⟩:=h.slots p hp
  exact ⟨v,hv,dlv_imp (fun c u=>dcv_ext hs) hd⟩,fun k o hk=>dob_ext hs (h.objs k o hk),h.inj,h.base,h.out,h.pin⟩
end mono
/-! ### A new object -/
section new
variable {N:Nat} {w0:W0} {ι:Io} {σ:LS} {a:Act} {w w':World}
def upd (ι:Io) (k:Nat) (g:Option Nat):Io:=⟨fun j=>if j=k then g else ι j,ι.E⟩
theorem upd_same (ι:Io) (k:Nat) (g:Option Nat):upd ι k g k=g:=by unfold upd;exact if_pos rfl
theorem upd_ne (ι:Io) {j k:Nat} (g:Option Nat) (h:j≠k):upd ι k g j=ι j:=by unfold upd;exact if_neg h
def LS.add (σ:LS) (o:OB):LS:={ σ with ob:=σ.ob++[o] }
theorem live_add {ob:List OB} {o:OB} {k:Nat} (h:live (ob++[o]) k):live ob k∨(k=ob.length∧o.isDead=false):=by
 obtain ⟨o',hk,hd⟩:=h
 by_cases hlt:k<ob.length
 ·rw [List.getElem?_append_left hlt] at hk
  exact .inl ⟨o',hk,hd⟩
 ·rw [List.getElem?_append_right (by omega)] at hk
  have:k - ob.length=0:=by
   have:=(List.getElem?_eq_some_iff.1 hk).1
   simp at this;omega
  rw [this] at hk
  simp at hk
  subst hk
  exact .inr ⟨by omega,hd⟩
theorem live_add_old {ob:List OB} {o:OB} {k:Nat} (h:live ob k):live (ob++[o]) k:=by
 have:=h.lt
 obtain ⟨o',hk,hd⟩:=h
 exact ⟨o',by rw [List.getElem?_append_left this];exact hk,hd⟩
theorem dcv_add {O O':Nat→Prop} (hs:Stays noB O O' w w') {o:OB} {g:Option Nat} {c:CV} {u:Value} (h:dcv w O ι σ.ob c u) :
  dcv w' O' (upd ι σ.ob.length g) (σ.ob++[o]) c u:=by
 have hk:∀ k,k<σ.ob.length→upd ι σ.ob.length g k=ι k:=fun k hk=>by exact upd_ne ι g (by omega)
 have ho:∀ k x,σ.ob[k]?=some x→(σ.ob++[o])[k]?=some x:=fun k x hx=>by rw [List.getElem?_append_left (List.getElem?_eq_some_iff.1 hx).1];exact hx
 cases c with
 | d x=>exact den_mono hs x u h
 | op k off =>
  obtain ⟨g',hl,h1,h2⟩:=h
  exact ⟨g',live_add_old hl,(hk k hl.lt).trans h1,h2⟩
 | oe k i off =>
  obtain ⟨g',t,size,es,h1,h2,h3⟩:=h
  exact ⟨g',t,size,es,(hk k (List.getElem?_eq_some_iff.1 h2).1).trans h1,ho _ _ h2,h3⟩
 | os k =>
  obtain ⟨t,size,es,h1,h2⟩:=h
  refine ⟨t,size,es,ho _ _ h1,?_⟩
  rw [hk k (List.getElem?_eq_some_iff.1 h1).1]
  exact hdr_ext hs.ext (fun _ _=>id) h2
 | om k =>
  obtain ⟨g',hl,h1,h2⟩:=h
  exact ⟨g',live_add_old hl,(hk k hl.lt).trans h1,h2⟩
 | any=>exact h
theorem StI.add (h:StI N w0 ι σ a w) (he:Ext noB w w') {o:OB} {g:Option Nat} (hg:∀ b,g=some b→w.heap.size≤b) (hsm:∀ (t:Nat) size es,o=.rw t size es→t<1000000)
  (ho:dob w' (own (upd ι σ.ob.length g) (σ.ob++[o])) (upd ι σ.ob.length g) (σ.ob++[o]) σ.ob.length o) :
  StI N w0 (upd ι σ.ob.length g) (σ.add o) a w':=by
 have hk:∀ k,k<σ.ob.length→upd ι σ.ob.length g k=ι k:=fun k hk=>by exact upd_ne ι g (by omega)
 have hkk:upd ι σ.ob.length g σ.ob.length=g:=upd_same ι _ g
 have hs:Stays noB (own ι σ.ob) (own (upd ι σ.ob.length g) (σ.ob++[o])) w w':=⟨he,fun _ _ h=>h.elim,fun b hb ho=>by
  rcases ho with ho|⟨k,hl,hi⟩
  ·exact .inl ho
  rcases live_add hl with hl|⟨rfl,_⟩
  ·exact .inr ⟨k,hl,(hk k hl.lt) ▸ hi⟩
  ·rw [hkk] at hi
   have:=hg b hi
   omega⟩
 refine ⟨h.defers,h.size,h.below.grow he (fun _ h=>h.elim),fun p hp=>?_,fun k o' hk'=>?_,fun k k' b hl hl' hi hi'=>?_,fun k b hl hi=>?_,h.out,fun k t size es hk' ht=>?_⟩
 ·obtain ⟨v,hv,hd⟩:=h.slots p hp
  exact ⟨v,hv,dlv_imp (fun c u hc=>dcv_add hs hc) hd⟩
 ·by_cases hlt:k<σ.ob.length
  ·have hk'':σ.ob[k]?=some o':=by
    have:(σ.ob++[o])[k]?=some o':=hk'
    rwa [List.getElem?_append_left hlt] at this
   have hd:=h.objs k o' hk''
   cases o' with
   | bx t cs =>
    obtain ⟨b,us,h1,h2,h3⟩:=hd
    exact ⟨b,us,(hk k hlt).trans h1,(he.block b (Array.getElem?_eq_some_iff.1 h2).1 id).trans h2,dcvs_imp (R:=fun _ _=>True) h3 (fun c u _ hc=>dcv_add hs hc)⟩
   | rw t size es =>
    refine ⟨hd.1,?_⟩
    rcases hd.2 with h1|⟨b,cur,cap,h1,h2,h3,h4,h5,h6⟩
    ·exact .inl ⟨(hk k hlt).trans h1.1,h1.2⟩
    ·have hb:=he.block b (Array.getElem?_eq_some_iff.1 h2).1 id
     exact .inr ⟨b,cur,cap,(hk k hlt).trans h1,hb.trans h2,h3,h4,h5,rdEs_mono' hs size es _ _ (Nat.le_refl _) (fun j _=>World.cell?_of_block (by rw [add_block];exact hb)) h6⟩
   | mp es =>
    obtain ⟨b,ents,clk,h1,h2,h3⟩:=hd
    exact ⟨b,ents,clk,(hk k hlt).trans h1,(he.block b (Array.getElem?_eq_some_iff.1 h2).1 id).trans h2,dents_mono hs h3⟩
   | px t size b cap es =>
    obtain ⟨h0,h1,cur,h2,h3,h4,h5,h6⟩:=hd
    have hb:=he.block b (Array.getElem?_eq_some_iff.1 h2).1 id
    exact ⟨h0,(hk k hlt).trans h1,cur,hb.trans h2,h3,h4,h5,rdEs_mono' hs size es _ _ (Nat.le_refl _) (fun j _=>World.cell?_of_block (by rw [add_block];exact hb)) h6⟩
   | dead=>trivial
  ·have:(σ.ob++[o])[k]?=some o':=hk'
   rw [List.getElem?_append_right (by omega)] at this
   have hz:k=σ.ob.length:=by
    have:=(List.getElem?_eq_some_iff.1 this).1
    simp at this;omega
   subst hz
   simp at this
   subst this
   exact ho
 ·rcases live_add hl with hl|⟨rfl,_⟩<;>rcases live_add hl' with hl'|⟨rfl,_⟩
  ·exact h.inj k k' b hl hl' (hk k hl.lt ▸ hi) (hk k' hl'.lt ▸ hi')
  ·have h1:=own_lt h (.inr ⟨k,hl,hk k hl.lt ▸ hi⟩)
   rw [hkk] at hi'
   have:=hg b hi'
   omega
  ·have h1:=own_lt h (.inr ⟨k',hl',hk k' hl'.lt ▸ hi'⟩)
   rw [hkk] at hi
   have:=hg b hi
   omega
  ·rfl
 ·rcases live_add hl with hl|⟨rfl,_⟩
  ·exact h.base k b hl (hk k hl.lt ▸ hi)
  ·rw [hkk] at hi
   exact .inl (Nat.le_trans h.below.size (hg b hi))
 ·by_cases hlt:k<σ.ob.length
  ·have:(σ.ob++[o])[k]?=some (.rw t size es):=hk'
   rw [List.getElem?_append_left hlt] at this
   exact (hk k hlt).trans (h.pin k t size es this ht)
  ·have:(σ.ob++[o])[k]?=some (.rw t size es):=hk'
   rw [List.getElem?_append_right (by omega)] at this
   have hz:k=σ.ob.length:=by
    have:=(List.getElem?_eq_some_iff.1 this).1
    simp at this;omega
   subst hz
   simp at this
   have:=hsm _ _ _ this
   omega
end new
open Go Go.RowKit
/-! ### What is known of the types -/
structure TI where
 desc:TypeDesc
 size:Nat
 bytes:Nat
 zero:Value
 eqs:Option (List TypeDesc):=none
abbrev Tab:=Nat→Option TI
structure okTI (P:Program) (t:Nat) (i:TI):Prop where
 und:P.underlying t=some i.desc
 inf:∃ x,P.info? t=some x∧x.size=i.size∧x.bytes=i.bytes∧x.zero=some i.zero
 eqs:∀ ds,i.eqs=some ds→P.stoodInHeld t=false∧P.eqGuardType P.depth t=false∧∃ fs,i.desc=.struct fs∧fs.size=ds.length∧∀ (j:Nat) (f:Field),fs[j]?=some f→f.offset=j∧f.name ≠ "_" ∧ (P.underlying f.type=ds[j]?)
 small:t<1000000
def okT (P:Program) (T:Tab):Prop:=∀ t i,T t=some i→okTI P t i
def isAggD:TypeDesc→Bool
 | .struct _|.array _ _=>true
 | _=>false
section tinfo
variable {P:Program} {T:Tab} {w:World}
theorem okTI.run_underlying {t:Nat} {i:TI} (h:okTI P t i):(underlying t).run P w=.ok i.desc w:=Go.run_underlying h.und w
theorem okTI.run_sizeOf {t:Nat} {i:TI} (h:okTI P t i):(sizeOf t).run P w=.ok i.size w:=by
 obtain ⟨x,hx,h1,_⟩:=h.inf
 simp [sizeOf,typeInfo,hx,h1]
theorem okTI.run_zero {t:Nat} {i:TI} (h:okTI P t i):(zeroValue t).run P w=.ok i.zero w:=by
 obtain ⟨x,hx,_,_,h3⟩:=h.inf
 simp [zeroValue,typeInfo,hx,h3]
theorem okTI.run_isAgg {t:Nat} {i:TI} (h:okTI P t i):(isAgg t).run P w=.ok (isAggD i.desc) w:=by
 simp only [isAgg,Sem.run_bind,h.run_underlying,Result.andThen_ok]
 cases i.desc<;>rfl
end tinfo
/-! ### Operands -/
def constL:Value→LV
 | .agg us=>.ag (us.toList.map fun u=>.d (.v u))
 | .tuple _=>.c .any
 | v=>.c (.d (.v v))
def constL' (v:Value):LV :=
 match v with
 | .agg us=>bif us.toList.all Value.oneCell' then .ag (us.toList.map fun u=>.d (.v u)) else .c .any
 | v=>constL v
def ev (σ:LS):Operand→LV
 | .tmp t=>getS σ.sl t
 | .const v=>constL' v
 | .func f=>.c (.d (.clo f []))
 | .global _=>.c .any
section ev
variable {N:Nat} {w0:W0} {ι:Io} {σ:LS} {a:Act} {w:World} {O:Nat→Prop} {ob:List OB}
def okCells (us:List Value):Prop:=∀ u∈us,u.oneCell'=true
theorem dcvs_vals:∀ (us:List Value),okCells us→dcvs w O ι ob (us.map fun u=>.d (.v u)) us
 | [],_=>rfl
 | u::us,h=>⟨u,us,rfl,⟨rfl,h u (by simp)⟩,dcvs_vals us (fun x hx=>h x (by simp [hx]))⟩
def okV:Value→Bool
 | .agg us=>us.toList.all Value.oneCell'
 | _=>true
theorem constL_den (v:Value) (h:okV v=true):dlv w O ι ob (constL v) v:=by
 cases v with
 | agg us=>exact ⟨us,rfl,dcvs_vals us.toList (by simp only [okV,List.all_eq_true] at h;exact h)⟩
 | tuple us=>trivial
 | _=>exact ⟨rfl,rfl⟩
theorem StI.ev (h:StI N w0 ι σ a w) (x:Operand):dlv w (own ι σ.ob) ι σ.ob (ev σ x) (a.eval x):=by
 cases x with
 | tmp t =>
  simp only [LS.ev,Act.eval]
  rcases getS_mem (l:=σ.sl) (i:=t) with e|e
  ·rw [e];trivial
  ·obtain ⟨v,hv,hd⟩:=h.slots _ e
   simp only at hv
   rw [Array.getD_eq_getD_getElem?,hv]
   exact hd
 | const v =>
  show dlv _ _ _ _ (constL' v) v
  cases v with
  | agg us =>
   simp only [constL']
   cases hk:us.toList.all Value.oneCell' with
   | true=>exact constL_den (.agg us) hk
   | false=>trivial
  | tuple us=>trivial
  | _=>exact ⟨rfl,rfl⟩
 | func f=>exact ⟨#[],rfl,rfl⟩
 | global g=>trivial
end ev
def Yl (P:Program) (ρ:Operand→Value) (op:Op) (w:World) (v:Value):Prop :=
 ∀ (o:Oper),o.op=op→∀ w',Ext noB w w'→(execOp ρ o).run P w'=.ok (.value v) w'
inductive QR where
 | ok (p:Prop) (x:LV)
 | no
@[reducible] def i2 (k:IntKind) (n:Int):LV:=.c (.d (.v (.int k n)))
@[reducible] def b2 (b:Bool):LV:=.c (.d (.v (.bool b)))
@[reducible] def s2 (s:ByteArray):LV:=.c (.d (.v (.string s)))
def inK (k:IntKind) (n:Int):Prop:=k.min≤n∧n≤k.max
/-! ### Loads and addresses -/
def qload (T:Tab) (ob:List OB) (t:TypeId):LV→QR
 | .c (.d (.at_ cs)) =>
  match T t with
  | none=>.no
  | some i=>if isAggD i.desc then .ok (i.size≤cs.length) (.ag ((cs.take i.size).map .d)) else
   match cs with
   | []=>.no
   | c::_=>.ok True (.c (.d c))
 | .c (.op k off) =>
  match T t,ob[k]? with
  | some i,some (.bx _ cs)=>if isAggD i.desc then .ok (off+i.size≤cs.length) (.ag ((cs.drop off).take i.size)) else
   match cs.drop off with
   | []=>.no
   | c::_=>.ok True (.c c)
  | _,_=>.no
 | .c (.oe k j off) =>
  match T t,ob[k]? with
  | some i,some (.rw _ _ es)=>if isAggD i.desc then .ok (off+i.size≤(es.getD j []).length) (.ag ((((es.getD j []).drop off).take i.size).map .d)) else
   match (es.getD j []).drop off with
   | []=>.no
   | c::_=>.ok True (.c (.d c))
  | _,_=>.no
 | _=>.no
theorem run_load_some {P:Program} {w:World} {a:Addr} {u:Value} (h:w.cell? a=some u):(load a).run P w=.ok u w:=by simp [h]
theorem run_loadCellsFrom {P:Program} {w:World} (a:Addr):∀ (us:List Value) (i:Nat) (acc:Array Value),(∀ j u,us[j]?=some u→w.cell? (a.add (i+j))=some u) →
  (loadCellsFrom a i us.length acc).run P w=.ok (acc++us.toArray) w
 | [],i,acc,_=>by simp [loadCellsFrom]
 | u::us,i,acc,h=>by
  simp only [List.length_cons,loadCellsFrom,Sem.run_bind]
  rw [run_load_some (show w.cell? (a.add i)=some u from h 0 u rfl),Result.andThen_ok,run_loadCellsFrom a us (i+1) (acc.push u) (fun j v hj=>by
   have:=h (j+1) v (by simpa using hj)
   rwa [show i+1+j=i+(j+1) by omega])]
  simp
theorem run_loadCells {P:Program} {w:World} (a:Addr) (us:List Value) (h:∀ j u,us[j]?=some u→w.cell? (a.add j)=some u):(loadCells a us.length).run P w=.ok us.toArray w:=by
 unfold loadCells
 rw [run_loadCellsFrom a us 0 #[] (by simpa using h)]
 simp
theorem run_loadVar_agg {P:Program} {w:World} {t:Nat} {i:TI} (h:okTI P t i) (hg:isAggD i.desc=true) (a:Addr) (us:List Value) (hl:us.length=i.size) (hc:∀ j u,us[j]?=some u→w.cell? (a.add j)=some u) :
  (loadVar t a).run P w=.ok (.agg us.toArray) w:=by
 simp only [loadVar,Sem.run_bind,h.run_isAgg,Result.andThen_ok,hg,if_true,h.run_sizeOf,← hl]
 rw [run_loadCells a us hc]
 rfl
theorem run_loadVar_one {P:Program} {w:World} {t:Nat} {i:TI} (h:okTI P t i) (hg:isAggD i.desc=false) (a:Addr) (u:Value) (hc:w.cell? a=some u) :
  (loadVar t a).run P w=.ok u w:=by
 simp only [loadVar,Sem.run_bind,h.run_isAgg,Result.andThen_ok,hg,Bool.false_eq_true,if_false]
 exact run_load_some hc
section
variable {P:Program} {T:Tab} {N:Nat} {w0:W0} {ι:Io} {σ:LS} {a:Act} {w:World} {O:Nat→Prop} {ob:List OB}
theorem dcvs_length:∀ {cs:List CV} {us:List Value},dcvs w O ι ob cs us→us.length=cs.length
 | [],us,h=>by simp only [dcvs] at h;simp [h]
 | c::cs,us,h=>by
  obtain ⟨u,r,rfl,_,hr⟩:=h
  simp [dcvs_length hr]
theorem dcvs_take:∀ {cs:List CV} {us:List Value} (n:Nat),dcvs w O ι ob cs us→dcvs w O ι ob (cs.take n) (us.take n)
 | [],us,n,h=>by simp only [dcvs] at h;subst h;simp [dcvs]
 | c::cs,us,0,h=>by simp [dcvs]
 | c::cs,us,n+1,h=>by
  obtain ⟨u,r,rfl,hu,hr⟩:=h
  exact ⟨u,r.take n,rfl,hu,dcvs_take n hr⟩
theorem dcvs_drop:∀ {cs:List CV} {us:List Value} (n:Nat),dcvs w O ι ob cs us→dcvs w O ι ob (cs.drop n) (us.drop n)
 | [],us,n,h=>by simp only [dcvs] at h;subst h;simp [dcvs]
 | c::cs,us,0,h=>by simpa using h
 | c::cs,us,n+1,h=>by
  obtain ⟨u,r,rfl,hu,hr⟩:=h
  simpa using dcvs_drop n hr
theorem dcvs_of_denVs:∀ {cs:List DV} {us:List Value},denVs w O cs us→dcvs w O ι ob (cs.map .d) us
 | [],us,h=>h
 | c::cs,us,h=>by
  obtain ⟨u,r,rfl,hu,hr⟩:=h
  exact ⟨u,r,rfl,hu,dcvs_of_denVs hr⟩
theorem qload_sound (hT:okT P T) (h:StI N w0 ι σ a w) {t:TypeId} {x:LV} {p:Prop} {y:LV} (hq:qload T σ.ob t x=.ok p y) (hp:p) {u:Value} (hx:dlv w (own ι σ.ob) ι σ.ob x u) :
  ∃ ad v,u=.pointer (some ad)∧ad.block<w.heap.size∧dlv w (own ι σ.ob) ι σ.ob y v∧∀ w',(∀ j,w'.cell? (ad.add j)=w.cell? (ad.add j))→(loadVar t ad).run P w'=.ok v w':=by
 unfold qload at hq
 split at hq
 ·-- cells that are data
  rename_i cs
  obtain ⟨ad,rfl,hb,ho,hr⟩:=hx
  cases hTt:T t with
  | none=>simp [hTt] at hq
  | some i =>
   have hi:=hT t i hTt
   simp only [hTt] at hq
   split at hq
   ·rename_i hg
    injection hq with h1 h2
    subst h1 h2
    obtain ⟨us,k1,k2,k3⟩:=denCs_vals (denCs_take hr i.size)
    have hl:us.length=i.size:=by rw [k2,List.length_take,Nat.min_eq_left hp]
    exact ⟨ad,.agg us.toArray,rfl,hb,⟨us.toArray,rfl,by simpa using dcvs_of_denVs k1⟩,fun w' hw=>run_loadVar_agg hi hg ad us hl (fun j u hj=>(hw j).trans (k3 j u hj))⟩
   ·rename_i hg
    cases cs with
    | nil=>simp at hq
    | cons c cs =>
     injection hq with h1 h2
     subst h1 h2
     obtain ⟨⟨u,hc,hu⟩,_⟩:=hr
     exact ⟨ad,u,rfl,hb,hu,fun w' hw=>run_loadVar_one hi (by simpa using hg) ad u ((hw 0).trans hc)⟩
 ·-- an object's cells
  rename_i k off
  obtain ⟨g,hl,hg,rfl⟩:=hx
  split at hq
  ·rename_i i t' cs hTt hob
   have hi:=hT t i hTt
   obtain ⟨g',us,h1,h2,h3⟩:=h.objs k _ hob
   rw [hg] at h1
   injection h1 with h1
   subst h1
   have hcell:∀ j u,(us.toList.drop off)[j]?=some u→w.cell? ((⟨g,off,none⟩:Addr).add j)=some u:=by
    intro j u hj
    rw [add_lit',cell_of_row w g (off+j) us t' (0,0) h2]
    simpa using hj
   split at hq
   ·rename_i hgg
    injection hq with e1 e2
    subst e1 e2
    have hlen:us.size=cs.length:=by simpa using dcvs_length h3
    refine ⟨⟨g,off,none⟩,.agg ((us.toList.drop off).take i.size).toArray,rfl,(Array.getElem?_eq_some_iff.1 h2).1,⟨_,rfl,by simpa using dcvs_take i.size (dcvs_drop off h3)⟩,fun w' hw=>run_loadVar_agg hi hgg _ _ ?_ ?_⟩
    ·simp [hlen];omega
    ·intro j u hj
     rw [List.getElem?_take] at hj
     split at hj
     ·exact (hw j).trans (hcell j u hj)
     ·cases hj
   ·rename_i hgg
    cases hd:cs.drop off with
    | nil=>simp [hd] at hq
    | cons c r =>
     simp only [hd] at hq
     injection hq with e1 e2
     subst e1 e2
     have h4:=dcvs_drop off h3
     rw [hd] at h4
     obtain ⟨u,r',h5,h6,_⟩:=h4
     refine ⟨⟨g,off,none⟩,u,rfl,(Array.getElem?_eq_some_iff.1 h2).1,?_,fun w' hw=>run_loadVar_one hi (by simpa using hgg) _ u ((hw 0).trans (hcell 0 u (by rw [h5];rfl)))⟩
     cases c<;>first|exact h6|trivial
  ·cases hq
 ·-- an owned row's element
  rename_i k j off
  obtain ⟨g,t',size,es,hg,hob,hj,rfl⟩:=hx
  split at hq
  ·rename_i i t'' size' es' hTt hob'
   rw [hob] at hob'
   injection hob' with hob'
   injection hob' with e1 e2 e3
   subst e1 e2 e3
   have hi:=hT t i hTt
   obtain ⟨_,h1⟩:=h.objs k _ hob
   rcases h1 with h1|⟨g',cur,cap,h1,h2,h3,h4,h5,h6⟩
   ·rw [hg] at h1;cases h1.1
   rw [hg] at h1
   injection h1 with h1
   subst h1
   obtain ⟨hel,hec⟩:=rdEs_get h6 hj
   have hgD:es.getD j []=es[j]:=by simp [hj]
   rw [hgD] at hq
   have hr:=denCs_drop hec
   rw [add_lit'] at hec
   split at hq
   ·rename_i hgg
    injection hq with e1 e2
    subst e1 e2
    have hr:=denCs_drop hec off (by omega)
    obtain ⟨us,k1,k2,k3⟩:=denCs_vals (denCs_take hr i.size)
    have hl:us.length=i.size:=by rw [k2,List.length_take,List.length_drop,Nat.min_eq_left (by omega)]
    rw [add_lit'] at k3
    simp only [Nat.zero_add] at k3
    exact ⟨_,.agg us.toArray,rfl,(Array.getElem?_eq_some_iff.1 h2).1,⟨us.toArray,rfl,by simpa using dcvs_of_denVs k1⟩,fun w' hw=>run_loadVar_agg hi hgg _ us hl (fun j u hj=>(hw j).trans (k3 j u hj))⟩
   ·rename_i hgg
    cases hd:es[j].drop off with
    | nil=>simp [hd] at hq
    | cons c r =>
     simp only [hd] at hq
     injection hq with e1 e2
     subst e1 e2
     have hlt:off<es[j].length:=by
      rcases Nat.lt_or_ge off es[j].length with hx|hx
      ·exact hx
      ·rw [List.drop_eq_nil_of_le hx] at hd;cases hd
     have hr:=denCs_drop hec off (by omega)
     rw [hd,add_lit'] at hr
     simp only [Nat.zero_add] at hr
     obtain ⟨⟨u,hc,hu⟩,_⟩:=hr
     exact ⟨_,u,rfl,(Array.getElem?_eq_some_iff.1 h2).1,hu,fun w' hw=>run_loadVar_one hi (by simpa using hgg) _ u ((hw 0).trans hc)⟩
  ·cases hq
 ·cases hq
theorem Ext.cells {w':World} (he:Ext noB w w') {ad:Addr} (hb:ad.block<w.heap.size) (j:Nat):w'.cell? (ad.add j)=w.cell? (ad.add j) :=
 he.cell (by rw [add_block];exact hb) id
theorem yl_load (hT:okT P T) (h:StI N w0 ι σ a w) {t:TypeId} {x:Operand} {p:Prop} {y:LV} (hq:qload T σ.ob t (ev σ x)=.ok p y) (hp:p) :
  ∃ v,dlv w (own ι σ.ob) ι σ.ob y v∧Yl P a.eval (.load t x) w v:=by
 obtain ⟨ad,v,hu,hb,hv,hr⟩:=qload_sound hT h hq hp (h.ev x)
 refine ⟨v,hv,fun o ho w' he=>?_⟩
 simp only [execOp,ho,Instr.loadAt,hu,Instr.sureAddr,Sem.run_bind,Sem.run_pure,Result.andThen_ok,hr w' (fun j=>he.cells hb j)]
end
open Go Go.RowKit
/-! ### Tests and arithmetic -/
theorem strEq (a b:ByteArray):(a.toList == b.toList)=decide (a=b):=by
 by_cases h:a=b
 ·subst h;simp
 ·rw [decide_eq_false h,beq_eq_false_iff_ne]
  intro e
  rw [ByteArray.toList_eq,ByteArray.toList_eq] at e
  exact h (by cases a;cases b;simpa [Array.toList_inj] using e)
theorem baEq (a b:ByteArray):(a == b)=decide (a=b):=(beq_toListBytes a b).trans (strEq a b)
@[reducible] def strLt (a b:ByteArray):Bool:=Op.bytesLess a.toList b.toList
def eqV:TypeDesc→CV→CV→Option Bool
 | .int _,.d (.v (.int k a)),.d (.v (.int k' b))=>if k=k' then some (decide (a=b)) else none
 | .string,.d (.v (.string a)),.d (.v (.string b))=>some (decide (a=b))
 | .bool,.d (.v (.bool a)),.d (.v (.bool b))=>some (a == b)
 | _,_,_=>none
def eqVs:List TypeDesc→List CV→List CV→Option Bool
 | [],[],[]=>some true
 | t::ts,x::xs,y::ys =>
  match eqV t x y,eqVs ts xs ys with
  | some a,some b=>some (a && b)
  | _,_=>none
 | _,_,_=>none
def qint (op:BinOp) (k:IntKind) (a b:Int):QR :=
 match op with
 | .add=>.ok (inK k (a+b)) (i2 k (a+b))
 | .sub=>.ok (inK k (a - b)) (i2 k (a - b))
 | .mul=>.ok (inK k (a*b)) (i2 k (a*b))
 | .quo=>.ok (b≠0∧inK k (a.tdiv b)) (i2 k (a.tdiv b))
 | .rem=>.ok (b≠0) (i2 k (a.tmod b))
 | .eql=>.ok True (b2 (decide (a=b)))
 | .neq=>.ok True (b2 (!decide (a=b)))
 | .lss=>.ok True (b2 (decide (a<b)))
 | .leq=>.ok True (b2 (decide (a≤b)))
 | .gtr=>.ok True (b2 (decide (b<a)))
 | .geq=>.ok True (b2 (decide (b≤a)))
 | .shr=>.ok (b=1) (i2 k (a / 2))
 | _=>.no
def qstr (op:BinOp) (a b:ByteArray):QR :=
 match op with
 | .add=>.ok (a.size+b.size≤9223372036854775807) (s2 (a++b))
 | .eql=>.ok True (b2 (decide (a=b)))
 | .neq=>.ok True (b2 (!decide (a=b)))
 | .lss=>.ok True (b2 (strLt a b))
 | .gtr=>.ok True (b2 (strLt b a))
 | .geq=>.ok True (b2 (!strLt a b))
 | .leq=>.ok True (b2 (!strLt b a))
 | _=>.no
def qbin (T:Tab) (op:BinOp) (xT:TypeId):LV→LV→QR
 | .c (.d (.v (.int k a))),.c (.d (.v (.int k' b)))=>if k=k' then qint op k a b else .no
 | .c (.d (.v (.string a))),.c (.d (.v (.string b)))=>qstr op a b
 | .c (.d (.v (.bool a))),.c (.d (.v (.bool b))) =>
  match T xT,op with
  | some ⟨.bool,_,_,_,_⟩,.eql=>.ok True (b2 (a == b))
  | some ⟨.bool,_,_,_,_⟩,.neq=>.ok True (b2 (!(a == b)))
  | _,_=>.no
 | .ag xs,.ag ys =>
  match T xT,op with
  | some ⟨_,_,_,_,some ds⟩,.eql=>match eqVs ds xs ys with|some b=>.ok True (b2 b)|none=>.no
  | some ⟨_,_,_,_,some ds⟩,.neq=>match eqVs ds xs ys with|some b=>.ok True (b2 (!b))|none=>.no
  | _,_=>.no
 | _,_=>.no
def qun (op:UnOp):LV→QR
 | .c (.d (.v (.int k a)))=>match op with|.neg=>.ok (inK k (-a)) (i2 k (-a))|_=>.no
 | .c (.d (.v (.bool a)))=>match op with|.not=>.ok True (b2 (!a))|_=>.no
 | _=>.no
def qconv (T:Tab) (src dst:TypeId):LV→QR
 | .c (.d (.v (.int _ n)))=>match T src,T dst with|some _,some ⟨.int k,_,_,_,_⟩=>.ok (inK k n) (i2 k n)|_,_=>.no
 | .c (.d (.v (.string s)))=>match T src,T dst with|some _,some ⟨.string,_,_,_,_⟩=>.ok True (s2 s)|_,_=>.no
 | _=>.no
section
variable {P:Program} {T:Tab} {N:Nat} {w0:W0} {ι:Io} {σ:LS} {a:Act} {w:World} {O:Nat→Prop} {ob:List OB}
theorem wrap_in {k:IntKind} {n:Int} (h:inK k n):k.wrap n=n:=by
 unfold inK at h
 cases k
 ·exact IntWalk.i8_in n (by simpa [IntKind.min,IntKind.max,IntKind.signed,IntKind.bits] using h)
 ·exact IntWalk.i16_in n (by simpa [IntKind.min,IntKind.max,IntKind.signed,IntKind.bits] using h)
 ·exact IntWalk.i32_in n (by simpa [IntKind.min,IntKind.max,IntKind.signed,IntKind.bits] using h)
 ·exact IntWalk.i64_in n (by simpa [IntKind.min,IntKind.max,IntKind.signed,IntKind.bits] using h)
 ·exact IntWalk.u8_in n (by simpa [IntKind.min,IntKind.max,IntKind.signed,IntKind.bits] using h)
 ·exact IntWalk.u16_in n (by simpa [IntKind.min,IntKind.max,IntKind.signed,IntKind.bits] using h)
 ·exact IntWalk.u32_in n (by simpa [IntKind.min,IntKind.max,IntKind.signed,IntKind.bits] using h)
 ·exact IntWalk.u64_in n (by simpa [IntKind.min,IntKind.max,IntKind.signed,IntKind.bits] using h)
theorem eqGuard_ag (hT:okT P T) {xT:TypeId} {i:TI} (hi:T xT=some i) {ds:List TypeDesc} (hd:i.eqs=some ds) (op:BinOp) (x y:Operand) (xs ys:Array Value) (w:World) :
  (eqGuard op xT x y (.agg xs) (.agg ys)).run P w=.ok () w:=run_eqGuard_agg w op xT x y xs ys ((hT xT i hi).eqs ds hd).2.1
theorem eqV_sound {t:TypeDesc} {x y:CV} {b:Bool} (h:eqV t x y=some b) {u v:Value} (hu:dcv w O ι ob x u) (hv:dcv w O ι ob y v) {ft:TypeId} (hf:P.underlying ft=some t) (d:Nat) (w':World) :
  (Op.equalIn (d+1) ft u v).run P w'=.ok b w'∧∀ (cs:Array Value) (j:Nat),cs[j]?=some u→(part ft cs j).run P w'=.ok u w':=by
 unfold eqV at h
 split at h
 ·rename_i k0 k a k' b'
  split at h
  ·rename_i hk
   subst hk
   injection h with h
   obtain rfl:u=.int k a:=hu.1
   obtain rfl:v=.int k b':=hv.1
   refine ⟨?_,fun cs j hj=>?_⟩
   ·rw [run_equalIn_int w' d ft k k0 a b' hf,← h]
    congr 1
   ·simp [part,isAgg,Go.run_underlying hf,hj]
  ·cases h
 ·injection h with h
  rename_i a b'
  obtain rfl:u=.string a:=hu.1
  obtain rfl:v=.string b':=hv.1
  refine ⟨?_,fun cs j hj=>?_⟩
  ·rw [run_equalIn_string w' d ft a b' hf,strEq,h]
  ·simp [part,isAgg,Go.run_underlying hf,hj]
 ·injection h with h
  rename_i a b'
  obtain rfl:u=.bool a:=hu.1
  obtain rfl:v=.bool b':=hv.1
  refine ⟨?_,fun cs j hj=>?_⟩
  ·rw [run_equalIn_bool' w' d ft a b' hf,h]
  ·simp [part,isAgg,Go.run_underlying hf,hj]
 ·cases h
theorem eqVs_sound (d:Nat) (X Y:Array Value) (w':World):∀ (fs:List Field) (ds:List TypeDesc) (xs ys:List CV) (us vs:List Value) (b:Bool) (n:Nat),eqVs ds xs ys=some b→dcvs w O ι ob xs us→dcvs w O ι ob ys vs →
  fs.length=ds.length→(∀ (j:Nat) (f:Field),fs[j]?=some f→f.offset=n+j∧f.name ≠ "_" ∧ P.underlying f.type=ds[j]?) →
  (∀ j u,us[j]?=some u→X[n+j]?=some u)→(∀ j v,vs[j]?=some v→Y[n+j]?=some v)→(Op.eqFields (d+1) X Y fs).run P w'=.ok b w'
 | [],[],xs,ys,us,vs,b,n,h,_,_,_,_,_,_=>by
  cases xs<;>cases ys<;>simp [eqVs] at h
  subst h
  rfl
 | [],_::_,_,_,_,_,_,_,_,_,_,hl,_,_,_=>by simp at hl
 | _::_,[],_,_,_,_,_,_,_,_,_,hl,_,_,_=>by simp at hl
 | f::fs,t::ts,xs,ys,us,vs,b,n,h,hx,hy,hl,hf,hX,hY=>by
  cases xs with
  | nil=>simp [eqVs] at h
  | cons x xs =>
   cases ys with
   | nil=>simp [eqVs] at h
   | cons y ys =>
    simp only [eqVs] at h
    split at h
    ·rename_i a b' h1 h2
     injection h with h
     subst h
     obtain ⟨u,r,rfl,hu,hr⟩:=hx
     obtain ⟨v,s,rfl,hv,hs⟩:=hy
     obtain ⟨g1,g2,g3⟩:=hf 0 f rfl
     simp only [List.getElem?_cons_zero] at g3
     obtain ⟨e1,e2⟩:=eqV_sound (P:=P) h1 hu hv g3 d w'
     have hvv:∀ (cs:Array Value) (j:Nat),cs[j]?=some v→(part f.type cs j).run P w'=.ok v w':=by
      intro cs j hj
      have:=(eqV_sound (P:=P) (w:=w) (O:=O) (ι:=ι) (ob:=ob) (x:=y) (y:=y) (t:=t) (b:=true) (by
       unfold eqV at h1 ⊢
       split at h1<;>simp_all) hv hv g3 d w').2 cs j hj
      exact this
     simp only [Nat.add_zero] at g1
     have hX0:=hX 0 u rfl
     have hY0:=hY 0 v rfl
     simp only [Nat.add_zero] at hX0 hY0
     simp only [Op.eqFields,if_pos g2,Sem.run_bind,g1,e2 X n hX0,hvv Y n hY0,Result.andThen_ok,e1,Sem.run_ite]
     have ih:=eqVs_sound d X Y w' fs ts xs ys r s b' (n+1) h2 hr hs (by simpa using hl) (fun j f' hj=>by
      have:=hf (j+1) f' (by simpa using hj)
      rw [show n+1+j=n+(j+1) by omega]
      simpa using this) (fun j u' hj=>by
      rw [show n+1+j=n+(j+1) by omega]
      exact hX (j+1) u' (by simpa using hj)) (fun j v' hj=>by
      rw [show n+1+j=n+(j+1) by omega]
      exact hY (j+1) v' (by simpa using hj))
     cases a
     ·simp
     ·simp [ih]
    ·cases h
theorem qint_sound {op:BinOp} {k:IntKind} {a b:Int} {p:Prop} {y:LV} (h:qint op k a b=.ok p y) (hp:p) (xT:TypeId):∃ v,dlv w O ι ob y v∧∀ w',(binOp op xT (.int k a) (.int k b)).run P w'=.ok v w':=by
 unfold qint at h
 split at h
 all_goals first|(cases h;done)|(injection h with h1 h2;subst h1 h2;refine ⟨_,⟨rfl,rfl⟩,fun w'=>?_⟩)
 ·simp [binOp,Op.intArith,wrap_in hp]
 ·simp [binOp,Op.intArith,wrap_in hp]
 ·simp [binOp,Op.intArith,wrap_in hp]
 ·simp [binOp,Op.intDiv,hp.1,wrap_in hp.2]
 ·simp [binOp,Op.intDiv,hp]
 all_goals first|(subst hp;simp only [binOp,Op.shift];rw [if_neg (by decide)];have e:min (Int.toNat 1) k.bits=1:=(by cases k<;>rfl);rw [e];simp [Int.fdiv_eq_ediv_of_nonneg];done)|(simp [binOp,Op.intCmp];try rfl)
theorem bytesLess_gt:∀ (x y:List UInt8),(!(Op.bytesLess x y || x == y))=Op.bytesLess y x
 | [],[]=>rfl
 | [],b::y=>rfl
 | a::x,[]=>rfl
 | a::x,b::y=>by
  have ih:=bytesLess_gt x y
  simp only [Op.bytesLess,List.cons_beq_cons]
  rw [← ih]
  by_cases h1:a<b
  ·have h2:¬ b<a:=by rw [UInt8.lt_iff_toNat_lt] at *;omega
   have h3:(b == a)=false:=by rw [beq_eq_false_iff_ne];rintro rfl;exact h2 h1
   simp [h1,h2,h3]
  ·by_cases h2:a=b
   ·subst h2;simp
   ·have h3:b<a:=by
     rw [UInt8.lt_iff_toNat_lt] at *
     have:a.toNat≠b.toNat:=fun e=>h2 (UInt8.toNat_inj.1 e)
     omega
    have h4:(a == b)=false:=by simpa using h2
    simp [h1,h3,h4]
theorem qstr_sound {op:BinOp} {a b:ByteArray} {p:Prop} {y:LV} (h:qstr op a b=.ok p y) (hp:p) (xT:TypeId):∃ v,dlv w O ι ob y v∧∀ w',(binOp op xT (.string a) (.string b)).run P w'=.ok v w':=by
 unfold qstr at h
 split at h
 all_goals first|(cases h;done)|(injection h with h1 h2;subst h1 h2;refine ⟨_,⟨rfl,rfl⟩,fun w'=>?_⟩)
 ·have:¬ ((a.size+b.size:Nat):Int) > IntKind.i64.max:=by
   have:IntKind.i64.max=9223372036854775807:=rfl
   omega
  simp only [binOp,Op.stringOp,if_neg this];rfl
 ·simp [binOp,Op.stringOp,strEq]
 ·simp [binOp,Op.stringOp,strEq]
 ·simp [binOp,Op.stringOp]
 ·simp only [binOp,Op.stringOp,bytesLess_gt,strLt];rfl
 ·simp [binOp,Op.stringOp]
 ·simp only [binOp,Op.stringOp,strLt,← bytesLess_gt a.toList b.toList,Bool.not_not];rfl
theorem yl_bin (hT:okT P T) (h:StI N w0 ι σ a w) {op:BinOp} {xT yT:TypeId} {x y:Operand} {p:Prop} {z:LV} (hq:qbin T op xT (ev σ x) (ev σ y)=.ok p z) (hp:p) :
  ∃ v,dlv w (own ι σ.ob) ι σ.ob z v∧Yl P a.eval (.binOp op xT x y yT) w v:=by
 have hx:=h.ev x
 have hy:=h.ev y
 unfold qbin at hq
 have fin:∀ v,(∀ w',(eqGuard op xT x y (a.eval x) (a.eval y)).run P w'=.ok () w')→(∀ w',(binOp op xT (a.eval x) (a.eval y)).run P w'=.ok v w')→Yl P a.eval (.binOp op xT x y yT) w v:=by
  intro v h1 h2 o ho w' _
  simp only [execOp,ho,Sem.run_bind,h1,h2,Result.andThen_ok,Sem.run_pure]
 split at hq
 ·rename_i k n k' m e1 e2
  rw [e1] at hx;rw [e2] at hy
  split at hq
  ·rename_i hk
   subst hk
   obtain ⟨v,hv,hr⟩:=qint_sound (P:=P) (w:=w) (O:=own ι σ.ob) (ι:=ι) (ob:=σ.ob) hq hp xT
   have ex:a.eval x=.int k n:=hx.1
   have ey:a.eval y=.int k m:=hy.1
   exact ⟨v,hv,fin v (fun w'=>by rw [ex,eqGuard_at_int];rfl) (fun w'=>by rw [ex,ey];exact hr w')⟩
  ·cases hq
 ·rename_i s t e1 e2
  rw [e1] at hx;rw [e2] at hy
  obtain ⟨v,hv,hr⟩:=qstr_sound (P:=P) (w:=w) (O:=own ι σ.ob) (ι:=ι) (ob:=σ.ob) hq hp xT
  have ex:a.eval x=.string s:=hx.1
  have ey:a.eval y=.string t:=hy.1
  exact ⟨v,hv,fin v (fun w'=>by rw [ex,eqGuard_at_string];rfl) (fun w'=>by rw [ex,ey];exact hr w')⟩
 ·rename_i s t e1 e2
  rw [e1] at hx;rw [e2] at hy
  have ex:a.eval x=.bool s:=hx.1
  have ey:a.eval y=.bool t:=hy.1
  split at hq
  ·rename_i hTx
   injection hq with h1 h2
   subst h1 h2
   refine ⟨.bool (s == t),⟨rfl,rfl⟩,fin _ (fun w'=>by rw [ex,eqGuard_at_bool];rfl) (fun w'=>?_)⟩
   rw [ex,ey]
   simp [binOp,Op.equal,Op.maxDepth,run_equalIn_bool' w' 9999 xT s t (hT xT _ hTx).und]
  ·rename_i hTx
   injection hq with h1 h2
   subst h1 h2
   refine ⟨.bool (!(s == t)),⟨rfl,rfl⟩,fin _ (fun w'=>by rw [ex,eqGuard_at_bool];rfl) (fun w'=>?_)⟩
   rw [ex,ey]
   simp [binOp,Op.equal,Op.maxDepth,run_equalIn_bool' w' 9999 xT s t (hT xT _ hTx).und]
  ·cases hq
 ·rename_i xs ys e1 e2
  rw [e1] at hx;rw [e2] at hy
  obtain ⟨us,ex,hxs⟩:=hx
  obtain ⟨vs,ey,hys⟩:=hy
  have key:∀ (i:TI) (ds:List TypeDesc),T xT=some i→i.eqs=some ds→∀ b,eqVs ds xs ys=some b→∀ w',(Op.equalIn 10000 xT (.agg us) (.agg vs)).run P w'=.ok b w':=by
   intro i ds hTx hd b hb w'
   obtain ⟨g1,_,fs,g3,g4,g5⟩:=(hT xT i hTx).eqs ds hd
   have hu:P.underlying xT=some (.struct (P.fieldsOf xT)):=by
    have:=(hT xT i hTx).und
    rw [g3] at this
    rw [this];simp [Program.fieldsOf,this]
   have hfs:P.fieldsOf xT=fs:=by
    have:=(hT xT i hTx).und
    rw [g3] at this
    simp [Program.fieldsOf,this]
   rw [run_equalIn_agg w' 9999 xT us vs hu g1,hfs]
   exact eqVs_sound 9998 us vs w' fs.toList ds xs ys us.toList vs.toList b 0 hb hxs hys (by simpa using g4) (fun j f hj=>by simpa using g5 j f (by simpa using hj)) (fun j u hj=>by simpa using hj) (fun j u hj=>by simpa using hj)
  split at hq
  ·rename_i hTx
   split at hq
   ·rename_i b hb
    injection hq with h1 h2
    subst h1 h2
    refine ⟨.bool b,⟨rfl,rfl⟩,fin _ (fun w'=>by rw [ex,ey];exact eqGuard_ag hT hTx rfl .eql x y us vs w') (fun w'=>?_)⟩
    rw [ex,ey,run_eql_struct,key _ _ hTx rfl b hb w'];rfl
   ·cases hq
  ·rename_i hTx
   split at hq
   ·rename_i b hb
    injection hq with h1 h2
    subst h1 h2
    refine ⟨.bool (!b),⟨rfl,rfl⟩,fin _ (fun w'=>by rw [ex,ey];exact eqGuard_ag hT hTx rfl .neq x y us vs w') (fun w'=>?_)⟩
    rw [ex,ey,run_neq_struct,key _ _ hTx rfl b hb w'];rfl
   ·cases hq
  ·cases hq
 ·cases hq
theorem yl_un (h:StI N w0 ι σ a w) {op:UnOp} {xT:TypeId} {x:Operand} {p:Prop} {z:LV} (hq:qun op (ev σ x)=.ok p z) (hp:p) :
  ∃ v,dlv w (own ι σ.ob) ι σ.ob z v∧Yl P a.eval (.unOp op xT x) w v:=by
 have hx:=h.ev x
 unfold qun at hq
 split at hq
 ·rename_i k n e1
  rw [e1] at hx
  have ex:a.eval x=.int k n:=hx.1
  split at hq
  ·injection hq with h1 h2
   subst h1 h2
   exact ⟨_,⟨rfl,rfl⟩,fun o ho w' _=>by simp [execOp,ho,ex,Op.unary,Op.intArith,wrap_in hp]⟩
  ·cases hq
 ·rename_i b e1
  rw [e1] at hx
  have ex:a.eval x=.bool b:=hx.1
  split at hq
  ·injection hq with h1 h2
   subst h1 h2
   exact ⟨_,⟨rfl,rfl⟩,fun o ho w' _=>by simp [execOp,ho,ex,Op.unary]⟩
  ·cases hq
 ·cases hq
theorem yl_conv (hT:okT P T) (h:StI N w0 ι σ a w) {src dst:TypeId} {x:Operand} {p:Prop} {z:LV} (hq:qconv T src dst (ev σ x)=.ok p z) (hp:p) :
  ∃ v,dlv w (own ι σ.ob) ι σ.ob z v∧Yl P a.eval (.convert src dst x) w v:=by
 have hx:=h.ev x
 unfold qconv at hq
 split at hq
 ·rename_i k n e1
  rw [e1] at hx
  have ex:a.eval x=.int k n:=hx.1
  split at hq
  ·rename_i i k' _ _ _ _ h1 h2
   injection hq with g1 g2
   subst g1 g2
   refine ⟨_,⟨rfl,rfl⟩,fun o ho w' _=>?_⟩
   simp only [execOp,ho,ex,convert,Sem.run_bind,(hT _ _ h1).run_underlying,(hT _ _ h2).run_underlying,Result.andThen_ok,Conv.intToInt,wrap_in hp,Sem.run_pure]
  ·cases hq
 ·rename_i s e1
  rw [e1] at hx
  have ex:a.eval x=.string s:=hx.1
  split at hq
  ·rename_i i _ _ _ _ h1 h2
   injection hq with g1 g2
   subst g1 g2
   refine ⟨_,⟨rfl,rfl⟩,fun o ho w' _=>?_⟩
   simp only [execOp,ho,ex,convert,Sem.run_bind,(hT _ _ h1).run_underlying,(hT _ _ h2).run_underlying,Result.andThen_ok,Sem.run_pure]
  ·cases hq
 ·cases hq
end
open Go Go.RowKit
def qnil:LV→QR
 | .c (.d (.at_ cs))=>.ok True (.c (.d (.at_ cs)))
 | .c (.op k o)=>.ok True (.c (.op k o))
 | .c (.oe k i o)=>.ok True (.c (.oe k i o))
 | _=>.no
def fOff:TypeDesc→Nat→Option (Nat × Nat)
 | .struct fs,f=>(fs[f]?).map fun x=>(x.offset,x.type)
 | _,_=>none
def qfa (T:Tab) (s f:Nat) (x:LV):QR :=
 match T s with
 | none=>.no
 | some i =>
  match fOff i.desc f with
  | none=>.no
  | some (off,ft) =>
   match T ft with
   | none=>.no
   | some j =>
    if j.size=0 then .no else
    match x with
    | .c (.d (.at_ cs))=>.ok (off≤cs.length) (.c (.d (.at_ (cs.drop off))))
    | .c (.op k o)=>.ok True (.c (.op k (o+off)))
    | .c (.oe k i o)=>.ok True (.c (.oe k i (o+off)))
    | _=>.no
def LV.cellish:LV→Bool
 | .c .any=>false
 | .c _=>true
 | .ag _=>true
 | .tu _=>false
def cellsL:LV→List CV
 | .c x=>[x]
 | .ag cs=>cs
 | .tu _=>[]
def qpart (T:Tab) (ft:Nat) (cs:List CV) (off:Nat):QR :=
 match T ft with
 | none=>.no
 | some j=>if isAggD j.desc then .ok True (.ag ((cs.drop off).take j.size)) else
  match cs.drop off with
  | []=>.no
  | c::_=>.ok True (.c c)
def qfd (T:Tab) (s f:Nat) (x:LV):QR :=
 match T s with
 | none=>.no
 | some i =>
  match fOff i.desc f,x with
  | some (off,ft),.ag cs=>qpart T ft cs off
  | _,_=>.no
def qia (T:Tab) (ob:List OB) (t:Nat) (x i:LV):QR :=
 match T t,i with
 | some ⟨.slice e,_,_,_,_⟩,.c (.d (.v (.int _ n))) =>
  match T e,x with
  | some j,.c (.d (.sl size es))=>.ok (j.size=size∧0≤n∧n<es.length) (.c (.d (.at_ (es.getD n.toNat []))))
  | some j,.c (.os k) =>
   match ob[k]? with
   | some (.rw _ size es)=>.ok (j.size=size∧0≤n∧n<es.length) (.c (.oe k n.toNat 0))
   | _=>.no
  | _,_=>.no
 | some ⟨.array len e,_,_,_,_⟩,.c (.d (.v (.int _ n))) =>
  match T e,x with
  | some j,.c (.op k o)=>.ok (0≤n∧n<len) (.c (.op k (o+n.toNat*j.size)))
  | _,_=>.no
 | _,_=>.no
def sB (s:ByteArray) (i:Nat):UInt8:=s.data.toList.getD i 0
def qix (T:Tab) (t:Nat) (x i:LV):QR :=
 match T t,x,i with
 | some ⟨.string,_,_,_,_⟩,.c (.d (.v (.string s))),.c (.d (.v (.int _ n)))=>.ok (0≤n∧n<s.size) (i2 .u8 (sB s n.toNat).toNat)
 | _,_,_=>.no
def qext (i:Nat):LV→QR
 | .tu vs=>match vs[i]? with|some x=>.ok True x|none=>.no
 | _=>.no
def qslice (T:Tab) (t:Nat) (x:LV) (lo hi:Option LV):QR :=
 match T t,x with
 | some ⟨.slice e,_,_,_,_⟩,.c (.d (.sl size es)) =>
  match T e with
  | none=>.no
  | some j =>
  match lo,hi with
  | some (.c (.d (.v (.int _ l)))),none=>.ok (j.size=size∧0≤l∧l≤es.length) (.c (.d (.sl size (es.drop l.toNat))))
  | none,some (.c (.d (.v (.int _ h))))=>.ok (j.size=size∧0≤h∧h≤es.length) (.c (.d (.sl size (es.take h.toNat))))
  | some (.c (.d (.v (.int _ l)))),some (.c (.d (.v (.int _ h))))=>.ok (j.size=size∧0≤l∧l≤h∧h≤es.length) (.c (.d (.sl size ((es.take h.toNat).drop l.toNat))))
  | _,_=>.no
 | some ⟨.string,_,_,_,_⟩,.c (.d (.v (.string s))) =>
  match lo,hi with
  | some (.c (.d (.v (.int _ l)))),none=>.ok (0≤l∧l≤s.size) (s2 (s.extract l.toNat s.size))
  | none,some (.c (.d (.v (.int _ h))))=>.ok (0≤h∧h≤s.size) (s2 (s.extract 0 h.toNat))
  | some (.c (.d (.v (.int _ l)))),some (.c (.d (.v (.int _ h))))=>.ok (0≤l∧l≤h∧h≤s.size) (s2 (s.extract l.toNat h.toNat))
  | _,_=>.no
 | _,_=>.no
def okZero (z:Value):Bool:=match z with
 | .agg us=>us.toList.all Value.oneCell'
 | .tuple _=>false
 | _=>true
def zeroL:Value→List CV
 | .agg us=>us.toList.map fun u=>.d (.v u)
 | v=>[.d (.v v)]
def putL (cs:List CV) (off:Nat):List CV→List CV
 | []=>cs
 | x::r=>putL (cs.set off x) (off+1) r
def fillL (T:Tab) (d:TypeDesc) (cs:List CV):List (Nat × LV)→Option (List CV)
 | []=>some cs
 | (i,x)::r =>
  match fOff d i with
  | none=>none
  | some (off,ft) =>
   match T ft with
   | none=>none
   | some j=>if x.cellish=true∧(cellsL x).length=j.size∧off+j.size≤cs.length then fillL T d (putL cs off (cellsL x)) r else none
def qbuild (T:Tab) (t:Nat) (ps:List (Nat × LV)):QR :=
 match T t with
 | some ⟨.struct fs,_,_,zero,_⟩ =>
  if okZero zero && fs.toList.all fun f=>(T f.type).isSome then
   match fillL T (.struct fs) (zeroL zero) ps with
   | some cs=>.ok True (.ag cs)
   | none=>.no
  else .no
 | _=>.no
def mget:List (ByteArray × DV)→ByteArray→Option DV
 | [],_=>none
 | (k,x)::r,i=>if k=i then some x else mget r i
def qlen (T:Tab) (ob:List OB) (t:Nat):LV→QR
 | .c (.d (.v (.string s)))=>match T t with|some ⟨.string,_,_,_,_⟩=>.ok True (i2 .i64 s.size)|_=>.no
 | .c (.d (.v (.slice none 0 0)))=>match T t with|some ⟨.slice _,_,_,_,_⟩=>.ok True (i2 .i64 0)|_=>.no
 | .c (.d (.sl _ es))=>match T t with|some ⟨.slice _,_,_,_,_⟩=>.ok True (i2 .i64 es.length)|_=>.no
 | .c (.os k)=>match T t,ob[k]? with|some ⟨.slice _,_,_,_,_⟩,some (.rw _ _ es)=>.ok True (i2 .i64 es.length)|_,_=>.no
 | _=>.no
def qmm (mx:Bool):LV→LV→QR
 | .c (.d (.v (.int k x))),.c (.d (.v (.int k' y)))=>if k=k' then .ok True (i2 k (if mx then max x y else min x y)) else .no
 | _,_=>.no
def qbi (T:Tab) (ob:List OB) (b:Builtin) (ts:List Nat) (xs:List LV):QR :=
 match b,ts,xs with
 | .len,t::_,[x]=>qlen T ob t x
 | .min,_,[x,y]=>qmm false x y
 | .max,_,[x,y]=>qmm true x y
 | _,_,_=>.no
def qlook (T:Tab) (ob:List OB) (t:Nat) (m k:LV) (ok:Bool):QR :=
 match T t,m,k with
 | some ⟨.map kt e,_,_,_,_⟩,.c (.om n),.c (.d (.v (.string s))) =>
  match T kt,T e,ob[n]? with
  | some ⟨.string,_,_,_,_⟩,some j,some (.mp es) =>
   if j.zero.oneCell'=false then .no else
   if ok then .ok True (.tu [.c (.d ((mget es s).getD (.v j.zero))),b2 (mget es s).isSome]) else .ok True (.c (.d ((mget es s).getD (.v j.zero))))
  | _,_,_=>.no
 | _,_,_=>.no
section
variable {P:Program} {T:Tab} {N:Nat} {w0:W0} {ι:Io} {σ:LS} {a:Act} {w:World} {O:Nat→Prop} {ob:List OB}
theorem yl_nil (h:StI N w0 ι σ a w) {x:Operand} {p:Prop} {z:LV} (hq:qnil (ev σ x)=.ok p z) :
  ∃ v,dlv w (own ι σ.ob) ι σ.ob z v∧Yl P a.eval (.nilCheck x) w v:=by
 have hx:=h.ev x
 unfold qnil at hq
 split at hq<;>first
  | (cases hq;done)
  | (rename_i e1
     injection hq with h1 h2
     subst h1 h2
     rw [e1] at hx
     refine ⟨a.eval x,hx,fun o ho w' _=>?_⟩
     obtain ⟨ad,hu⟩:∃ ad,a.eval x=.pointer (some ad):=by
      first
      | (obtain ⟨ad,hu,_⟩:=hx;exact ⟨ad,hu⟩)
      | (obtain ⟨g,_,_,hu⟩:=hx;exact ⟨_,hu⟩)
      | (obtain ⟨g,_,_,_,_,_,_,hu⟩:=hx;exact ⟨_,hu⟩)
     simp only [execOp,ho,hu,Sem.run_pure])
theorem fOff_spec {d:TypeDesc} {f off ft:Nat} (h:fOff d f=some (off,ft)):∃ fs x,d=.struct fs∧fs[f]?=some x∧x.offset=off∧x.type=ft:=by
 unfold fOff at h
 split at h
 ·rename_i fs
  cases hx:fs[f]? with
  | none=>simp [hx] at h
  | some x=>simp [hx] at h;exact ⟨fs,x,rfl,hx,h.1,h.2⟩
 ·cases h
theorem run_fieldAt (hT:okT P T) {s f:Nat} {i:TI} (hi:T s=some i) {off ft:Nat} (hf:fOff i.desc f=some (off,ft)) {j:TI} (hj:T ft=some j) (hz:j.size≠0) (ad:Addr) (w':World) :
  (Instr.fieldAt s (.pointer (some ad)) f).run P w'=.ok (.pointer (some (ad.add off))) w':=by
 obtain ⟨fs,x,h1,h2,h3,h4⟩:=fOff_spec hf
 have hu:=(hT s i hi).run_underlying (w:=w')
 rw [h1] at hu
 subst h3 h4
 simp only [Instr.fieldAt,Sem.run_bind,hu,Result.andThen_ok,h2,Instr.sureAddr,Sem.run_pure,fieldPlace,(hT _ j hj).run_sizeOf,Sem.run_ite,if_neg hz]
theorem yl_fa (hT:okT P T) (h:StI N w0 ι σ a w) {s f:Nat} {x:Operand} {p:Prop} {z:LV} (hq:qfa T s f (ev σ x)=.ok p z) (hp:p) :
  ∃ v,dlv w (own ι σ.ob) ι σ.ob z v∧Yl P a.eval (.fieldAddr s x f) w v:=by
 have hx:=h.ev x
 unfold qfa at hq
 split at hq
 ·cases hq
 rename_i i hi
 split at hq
 ·cases hq
 rename_i off ft hf
 split at hq
 ·cases hq
 rename_i j hj
 split at hq
 ·cases hq
 rename_i hz
 have fin:∀ ad,a.eval x=.pointer (some ad)→Yl P a.eval (.fieldAddr s x f) w (.pointer (some (ad.add off))):=by
  intro ad hu o ho w' _
  simp only [execOp,ho,hu,Sem.run_bind,run_fieldAt hT hi hf hj hz,Result.andThen_ok,Sem.run_pure]
 split at hq
 ·rename_i cs e1
  injection hq with h1 h2
  subst h1 h2
  rw [e1] at hx
  obtain ⟨ad,hu,hb,ho,hr⟩:=hx
  exact ⟨_,⟨ad.add off,rfl,by rw [add_block];exact hb,by rw [add_block];exact ho,denCs_drop hr off hp⟩,fin ad hu⟩
 ·rename_i k o e1
  injection hq with h1 h2
  subst h1 h2
  rw [e1] at hx
  obtain ⟨g,hl,hg,hu⟩:=hx
  exact ⟨_,⟨g,hl,hg,by rw [add_lit']⟩,fin _ hu⟩
 ·rename_i k i' o e1
  injection hq with h1 h2
  subst h1 h2
  rw [e1] at hx
  obtain ⟨g,t',size,es,g1,g2,g3,hu⟩:=hx
  exact ⟨_,⟨g,t',size,es,g1,g2,g3,by rw [add_lit',Nat.add_assoc]⟩,fin _ hu⟩
 ·cases hq
theorem extract_toList (us:Array Value) (off n:Nat):(us.extract off (off+n))=((us.toList.drop off).take n).toArray:=by
 apply Array.toList_inj.1
 simp [Array.toList_extract,List.take_drop]
theorem part_sound (hT:okT P T) {ft off:Nat} {cs:List CV} {us:Array Value} (hc:dcvs w O ι ob cs us.toList) {p:Prop} {z:LV} (hq:qpart T ft cs off=.ok p z) :
  ∃ v,dlv w O ι ob z v∧∀ w',(part ft us off).run P w'=.ok v w':=by
 unfold qpart at hq
 split at hq
 ·cases hq
 rename_i j hj
 split at hq
 ·rename_i hg
  injection hq with h1 h2
  subst h1 h2
  refine ⟨_,⟨_,rfl,by simpa using dcvs_take j.size (dcvs_drop off hc)⟩,fun w'=>?_⟩
  simp only [part,Sem.run_bind,(hT _ j hj).run_isAgg,Result.andThen_ok,hg,if_true,(hT _ j hj).run_sizeOf,Sem.run_pure,extract_toList]
 ·rename_i hg
  split at hq
  ·cases hq
  rename_i c r hd
  injection hq with h1 h2
  subst h1 h2
  have h4:=dcvs_drop off hc
  rw [hd] at h4
  obtain ⟨u,r',h5,h6,_⟩:=h4
  have hu:us[off]?=some u:=by
   have:(us.toList.drop off)[0]?=some u:=by rw [h5];rfl
   simpa using this
  refine ⟨u,by cases c<;>first|exact h6|trivial,fun w'=>?_⟩
  simp only [part,Sem.run_bind,(hT _ j hj).run_isAgg,Result.andThen_ok,hg,Bool.false_eq_true,if_false,hu,Sem.run_pure]
theorem yl_fd (hT:okT P T) (h:StI N w0 ι σ a w) {s f:Nat} {x:Operand} {p:Prop} {z:LV} (hq:qfd T s f (ev σ x)=.ok p z) :
  ∃ v,dlv w (own ι σ.ob) ι σ.ob z v∧Yl P a.eval (.field s x f) w v:=by
 have hx:=h.ev x
 unfold qfd at hq
 split at hq
 ·cases hq
 rename_i i hi
 split at hq
 ·rename_i off ft cs hf e1
  rw [e1] at hx
  obtain ⟨us,hu,hc⟩:=hx
  obtain ⟨fs,y,h1,h2,h3,h4⟩:=fOff_spec hf
  obtain ⟨v,hv,hr⟩:=part_sound (P:=P) hT hc hq
  refine ⟨v,hv,fun o ho w' _=>?_⟩
  have hund:=(hT s i hi).run_underlying (w:=w')
  rw [h1] at hund
  subst h3 h4
  simp only [execOp,ho,hu,Instr.field,Sem.run_bind,hund,Result.andThen_ok,h2,asAgg,Sem.run_pure,hr]
 ·cases hq
theorem den_sl_some {size:Nat} {es:List (List DV)} {u:Value} (h:den w O (.sl size es) u) (hl:0<es.length):∃ ad cap,u=.slice (some ad) es.length cap∧es.length≤cap∧cap≤maxLen∧ad.block<w.heap.size∧¬ O ad.block∧rdEs w O size ad es:=by
 obtain ⟨A,cap,rfl,h1,h2,h3⟩:=h
 obtain ⟨ad,rfl,hb,ho,hr⟩:=h3 hl
 exact ⟨ad,cap,rfl,h1,h2,hb,ho,hr⟩
theorem run_indexAt (hT:okT P T) {t e:Nat} {i j:TI} (hi:T t=some i) (hd:i.desc=.slice e) (hj:T e=some j) (ad:Addr) (len cap:Nat) (k:IntKind) (n:Int) (h0:0≤n) (hn:n<len) (w':World) :
  (Instr.indexAt t (.slice (some ad) len cap) (.int k n)).run P w'=.ok (.pointer (some (ad.add (n.toNat*j.size)))) w':=by
 have hu:=(hT t i hi).run_underlying (w:=w')
 rw [hd] at hu
 have hc:(0≤n∧n<(len:Int)):=⟨h0,hn⟩
 simp only [Instr.indexAt,asIntOf,Sem.run_bind,Sem.run_pure,Result.andThen_ok,hu]
 simp only [Sem.run_bind,if_pos hc,(hT e j hj).run_sizeOf,Result.andThen_ok,Sem.run_pure]
theorem run_indexArr (hT:okT P T) {t len e:Nat} {i j:TI} (hi:T t=some i) (hd:i.desc=.array len e) (hj:T e=some j) (ad:Addr) (k:IntKind) (n:Int) (h0:0≤n) (hn:n<len) (w':World) :
  (Instr.indexAt t (.pointer (some ad)) (.int k n)).run P w'=.ok (.pointer (some (ad.add (n.toNat*j.size)))) w':=by
 have hu:=(hT t i hi).run_underlying (w:=w')
 rw [hd] at hu
 have hc:(0≤n∧n<(len:Int)):=⟨h0,hn⟩
 simp only [Instr.indexAt,asIntOf,Instr.sureAddr,Sem.run_bind,Sem.run_pure,Result.andThen_ok,hu]
 simp only [Sem.run_bind,if_pos hc,(hT e j hj).run_sizeOf,Result.andThen_ok,Sem.run_pure]
theorem yl_ia (hT:okT P T) (h:StI N w0 ι σ a w) {t:Nat} {x i:Operand} {p:Prop} {z:LV} (hq:qia T σ.ob t (ev σ x) (ev σ i)=.ok p z) (hp:p) :
  ∃ v,dlv w (own ι σ.ob) ι σ.ob z v∧Yl P a.eval (.indexAddr t x i) w v:=by
 have hx:=h.ev x
 have hi:=h.ev i
 unfold qia at hq
 split at hq
 ·rename_i e _ _ _ _ k n hTt e2
  rw [e2] at hi
  have ei:a.eval i=.int k n:=hi.1
  split at hq
  ·rename_i j size es hj e1
   injection hq with h1 h2
   subst h1 h2
   obtain ⟨hs,h0,hn⟩:=hp
   rw [e1] at hx
   have hl:n.toNat<es.length:=by omega
   obtain ⟨ad,cap,hu,hc1,hc2,hb,ho,hr⟩:=den_sl_some hx (by omega)
   obtain ⟨_,hr2⟩:=rdEs_get hr hl
   refine ⟨.pointer (some (ad.add (n.toNat*j.size))),⟨_,rfl,by rw [add_block];exact hb,by rw [add_block];exact ho,?_⟩,fun o hoo w' _=>?_⟩
   ·rw [hs,show es.getD n.toNat []=es[n.toNat] by simp [hl]];exact hr2
   ·simp only [execOp,hoo,hu,ei,Sem.run_bind,run_indexAt hT hTt rfl hj ad es.length cap k n h0 hn,Result.andThen_ok,Sem.run_pure]
  ·rename_i j kk hj e1
   split at hq
   ·rename_i t' size es hob
    injection hq with h1 h2
    subst h1 h2
    obtain ⟨hs,h0,hn⟩:=hp
    rw [e1] at hx
    obtain ⟨t'',size',es',hob',hh⟩:=hx
    rw [hob] at hob'
    injection hob' with hob'
    injection hob' with g1 g2 g3
    subst g1 g2 g3
    rcases hh with hh|⟨b,cur,cap,t3,g1,g2,g3,g4,g5,hu⟩
    ·have:=hh.2.1;omega
    have hl:n.toNat<es.length:=by omega
    refine ⟨.pointer (some ⟨b,n.toNat*size+0,none⟩),⟨b,t',size,es,g1,hob,hl,rfl⟩,fun o hoo w' _=>?_⟩
    simp only [execOp,hoo,hu,ei,Sem.run_bind,run_indexAt hT hTt rfl hj ⟨b,0,none⟩ es.length cap k n h0 hn,Result.andThen_ok,Sem.run_pure,add_lit',hs,Nat.zero_add,Nat.add_zero]
   ·cases hq
  ·cases hq
 ·rename_i len e _ _ _ _ k n hTt e2
  rw [e2] at hi
  have ei:a.eval i=.int k n:=hi.1
  split at hq
  ·rename_i j kk o hj e1
   injection hq with h1 h2
   subst h1 h2
   obtain ⟨h0,hn⟩:=hp
   rw [e1] at hx
   obtain ⟨g,hl,hg,hu⟩:=hx
   refine ⟨_,⟨g,hl,hg,rfl⟩,fun o' hoo w' _=>?_⟩
   simp only [execOp,hoo,hu,ei,Sem.run_bind,run_indexArr hT hTt rfl hj _ k n h0 hn,Result.andThen_ok,Sem.run_pure,add_lit']
  ·cases hq
 ·cases hq
theorem yl_ix (hT:okT P T) (h:StI N w0 ι σ a w) {t:Nat} {x i:Operand} {p:Prop} {z:LV} (hq:qix T t (ev σ x) (ev σ i)=.ok p z) (hp:p) :
  ∃ v,dlv w (own ι σ.ob) ι σ.ob z v∧Yl P a.eval (.index t x i) w v:=by
 have hx:=h.ev x
 have hi:=h.ev i
 unfold qix at hq
 split at hq
 ·rename_i s k n hTt e1 e2
  rw [e1] at hx;rw [e2] at hi
  have ex:a.eval x=.string s:=hx.1
  have ei:a.eval i=.int k n:=hi.1
  injection hq with h1 h2
  subst h1 h2
  obtain ⟨h0,hn⟩:=hp
  have hl:n.toNat<s.size:=by omega
  refine ⟨_,⟨rfl,rfl⟩,fun o ho w' _=>?_⟩
  have hb:s[n.toNat]?=some (sB s n.toNat):=by
   have:s.data[n.toNat]?=some (sB s n.toNat):=by
    unfold sB
    rw [← Array.getElem?_toList,List.getD_eq_getElem?_getD]
    rw [List.getElem?_eq_getElem (by simpa using hl)]
    rfl
   have h2:s[n.toNat]?=s.data[n.toNat]?:=by
    rw [getElem?_pos s n.toNat hl,getElem?_pos s.data n.toNat hl];rfl
   rw [h2,this]
  have hu:=(hT t _ hTt).run_underlying (w:=w')
  simp only [execOp,ho,ex,ei,Instr.index,asIntOf,Sem.run_bind,Sem.run_pure,Result.andThen_ok,hu,if_pos h0,hb]
 ·cases hq
theorem dl1s_get:∀ {xs:List LV} {us:List Value},dl1s w O ι ob xs us→∀ (i:Nat) x,xs[i]?=some x→∃ u,us[i]?=some u∧dl1 w O ι ob x u
 | [],_,_,i,x,hx=>by simp at hx
 | y::xs,us,h,i,x,hx=>by
  obtain ⟨u,r,rfl,hu,hr⟩:=h
  cases i with
  | zero=>simp at hx;subst hx;exact ⟨u,rfl,hu⟩
  | succ i=>simpa using dl1s_get hr i x (by simpa using hx)
theorem dlv_of_dl1:∀ {x:LV} {u:Value},dl1 w O ι ob x u→dlv w O ι ob x u
 | .c _,_,h=>h
 | .ag _,_,h=>h
 | .tu _,_,h=>h.elim
theorem yl_ext (h:StI N w0 ι σ a w) {x:Operand} {i:Nat} {p:Prop} {z:LV} (hq:qext i (ev σ x)=.ok p z) :
  ∃ v,dlv w (own ι σ.ob) ι σ.ob z v∧Yl P a.eval (.extract x i) w v:=by
 have hx:=h.ev x
 unfold qext at hq
 split at hq
 ·rename_i vs e1
  rw [e1] at hx
  obtain ⟨us,hu,hd⟩:=hx
  cases hv:vs[i]? with
  | none=>simp [hv] at hq
  | some y =>
   simp only [hv] at hq
   injection hq with h1 h2
   subst h1 h2
   obtain ⟨u,hu1,hu2⟩:=dl1s_get hd i y hv
   refine ⟨u,dlv_of_dl1 hu2,fun o ho w' _=>?_⟩
   have:us[i]?=some u:=by simpa using hu1
   simp only [execOp,ho,hu,Instr.extract,this,Sem.run_bind,Sem.run_pure,Result.andThen_ok]
 ·cases hq
theorem run_sliceBound {x:Int} {k:IntKind} {y:Nat} {code:BoundsCode} (h0:0≤x) (h1:x≤y) (w':World):(Instr.sliceBound (.int k x) y code).run P w'=.ok x.toNat w':=by
 have hc:(0≤x∧x≤(y:Int)):=⟨h0,h1⟩
 simp only [Instr.sliceBound,asIntOf,Sem.run_bind,Sem.run_pure,Result.andThen_ok,Sem.run_ite,if_pos hc]
theorem den_cut {size:Nat} {es:List (List DV)} {A:Option Addr} {n cap:Nat} (h:den w O (.sl size es) (.slice A n cap)) {l m:Nat} (hl:l≤m) (hm:m≤es.length) :
  den w O (.sl size ((es.take m).drop l)) (.slice (if cap=l then A else A.map (·.add (l*size))) (m - l) (cap - l)):=by
 obtain ⟨A',cap',e,h1,h2,h3⟩:=h
 injection e with e1 e2 e3
 subst e1 e2 e3
 refine ⟨if cap=l then A else A.map (·.add (l*size)),cap - l,?_,?_,?_,?_⟩
 ·congr 1
  simp;omega
 ·simp;omega
 ·omega
 ·intro hlt
  simp at hlt
  obtain ⟨ad,rfl,hb,ho,hr⟩:=h3 (by omega)
  rw [if_neg (by omega)]
  exact ⟨ad.add (l*size),rfl,by rw [add_block];exact hb,by rw [add_block];exact ho,rdEs_drop (rdEs_take hr m) l (by simp;omega)⟩
theorem yl_slice (hT:okT P T) (h:StI N w0 ι σ a w) {t:Nat} {x:Operand} {lo hi:Option Operand} {p:Prop} {z:LV} (hq:qslice T t (ev σ x) (lo.map (ev σ)) (hi.map (ev σ))=.ok p z) (hp:p) :
  ∃ v,dlv w (own ι σ.ob) ι σ.ob z v∧Yl P a.eval (.slice t x lo hi none) w v:=by
 have hx:=h.ev x
 have hlo:∀ o,lo=some o→dlv w (own ι σ.ob) ι σ.ob (ev σ o) (a.eval o):=fun o _=>h.ev o
 have hhi:∀ o,hi=some o→dlv w (own ι σ.ob) ι σ.ob (ev σ o) (a.eval o):=fun o _=>h.ev o
 have getI:∀ {q:Option Operand} {k:IntKind} {n:Int},q.map (ev σ)=some (.c (.d (.v (.int k n))))→q.map a.eval=some (.int k n):=by
  intro q k n hqq
  cases q with
  | none=>simp at hqq
  | some o =>
   simp only [Option.map_some,Option.some.injEq] at hqq ⊢
   have:=h.ev o
   rw [hqq] at this
   exact this.1
 have getN:∀ {q:Option Operand},q.map (ev σ)=none→q.map a.eval=none:=by
  intro q hqq
  cases q with
  | none=>rfl
  | some o=>simp at hqq
 unfold qslice at hq
 split at hq
 ·rename_i e s1 s2' s3 s4 size es hTt e1
  rw [e1] at hx
  have hu:=fun w'=>(hT t _ hTt).run_underlying (w:=w')
  split at hq
  ·cases hq
  rename_i j hj
  have hden:=hx
  obtain ⟨A,cap,hA,hc1,hc2,hc3⟩:=hx
  rw [hA] at hden
  have hden':den w (own ι σ.ob) (.sl size es) (.slice A es.length cap):=hden
  split at hq<;>first|(cases hq;done)|skip
  ·rename_i kk l el eh
   injection hq with h1 h2
   subst h1 h2
   obtain ⟨hs,h0,hl⟩:=hp
   have hd:=den_cut hden' (l:=l.toNat) (m:=es.length) (by omega) (Nat.le_refl _)
   rw [List.take_length] at hd
   refine ⟨_,hd,fun o ho w' _=>?_⟩
   simp only [execOp,ho,getI el,getN eh,hA,Option.map_none,Instr.sliceAt,Sem.run_bind,hu,Result.andThen_ok,Instr.slice,Instr.sliceBounds,Sem.run_pure,run_sliceBound h0 hl,(hT _ j hj).run_sizeOf,hs]
  ·rename_i kk m el eh
   injection hq with h1 h2
   subst h1 h2
   obtain ⟨hs,h0,hl⟩:=hp
   have hd:=den_cut hden' (l:=0) (m:=m.toNat) (by omega) (by omega)
   rw [List.drop_zero] at hd
   refine ⟨_,hd,fun o ho w' _=>?_⟩
   simp only [execOp,ho,getI eh,getN el,hA,Option.map_none,Instr.sliceAt,Sem.run_bind,hu,Result.andThen_ok,Instr.slice,Instr.sliceBounds,Sem.run_pure,run_sliceBound (y:=cap) h0 (by omega),(hT _ j hj).run_sizeOf,hs]
  ·rename_i kk l kk' m el eh
   injection hq with h1 h2
   subst h1 h2
   obtain ⟨hs,h0,hl,hm⟩:=hp
   have hd:=den_cut hden' (l:=l.toNat) (m:=m.toNat) (by omega) (by omega)
   refine ⟨_,hd,fun o ho w' _=>?_⟩
   simp only [execOp,ho,getI eh,getI el,hA,Option.map_none,Instr.sliceAt,Sem.run_bind,hu,Result.andThen_ok,Instr.slice,Instr.sliceBounds,Sem.run_pure,run_sliceBound (x:=m) (y:=cap) (by omega) (by omega),run_sliceBound (x:=l) (y:=m.toNat) (by omega) (by omega),(hT _ j hj).run_sizeOf,hs,Option.isSome_none]
 ·rename_i s1 s2' s3 s4 s hTt e1
  rw [e1] at hx
  have ex:a.eval x=.string s:=hx.1
  have hu:=fun w'=>(hT t _ hTt).run_underlying (w:=w')
  split at hq<;>first|(cases hq;done)|skip
  ·rename_i kk l el eh
   injection hq with h1 h2
   subst h1 h2
   obtain ⟨h0,hl⟩:=hp
   refine ⟨_,⟨rfl,rfl⟩,fun o ho w' _=>?_⟩
   simp [execOp,ho,getI el,getN eh,ex,Instr.sliceAt,hu,Instr.slice,Instr.sliceBounds,run_sliceBound h0 hl]
  ·rename_i kk m el eh
   injection hq with h1 h2
   subst h1 h2
   obtain ⟨h0,hl⟩:=hp
   refine ⟨_,⟨rfl,rfl⟩,fun o ho w' _=>?_⟩
   simp [execOp,ho,getI eh,getN el,ex,Instr.sliceAt,hu,Instr.slice,Instr.sliceBounds,run_sliceBound h0 hl]
  ·rename_i kk l kk' m el eh
   injection hq with h1 h2
   subst h1 h2
   obtain ⟨h0,hl,hm⟩:=hp
   refine ⟨_,⟨rfl,rfl⟩,fun o ho w' _=>?_⟩
   simp [execOp,ho,getI eh,getI el,ex,Instr.sliceAt,hu,Instr.slice,Instr.sliceBounds,run_sliceBound (x:=m) (y:=s.size) (by omega) (by omega),run_sliceBound (x:=l) (y:=m.toNat) (by omega) (by omega)]
 ·cases hq
theorem yl_len (hT:okT P T) (h:StI N w0 ι σ a w) {t:Nat} {ts:Array Nat} {x:Operand} {p:Prop} {z:LV} (hts:ts[0]?=some t) (hq:qlen T σ.ob t (ev σ x)=.ok p z) :
  ∃ v,dlv w (own ι σ.ob) ι σ.ob z v∧Yl P a.eval (.call { callee:=.builtin .len,args:=#[x],argTypes:=ts }) w v:=by
 have hx:=h.ev x
 have fin:∀ (u:Value) (n:Int),a.eval x=u→(∀ w',(Builtin.len_ ts 0 #[u]).run P w'=.ok (.int .i64 n) w')→Yl P a.eval (.call { callee:=.builtin .len,args:=#[x],argTypes:=ts }) w (.int .i64 n):=by
  intro u n hu hr o ho w' _
  have hr':=hr w'
  have e:∀ ty,Builtin.len_ ts ty #[u]=Builtin.len_ ts 0 #[u]:=fun _=>rfl
  simp only [execOp,ho,resolve,invoke,builtin,Sem.run_bind,Sem.run_pure,Result.andThen_ok,List.map_toArray,List.map_cons,List.map_nil,hu,e,hr']
 have hlen:∀ {i:TI},T t=some i→∀ (u:Value) (n:Int),(∀ e,i.desc=.slice e→∃ A m c,u=.slice A m c∧n=(m:Int))→(i.desc=.string→∃ s:ByteArray,u=.string s∧n=(s.size:Int))→((∃ e,i.desc=.slice e)∨i.desc=.string) →
   ∀ w',(Builtin.len_ ts 0 #[u]).run P w'=.ok (.int .i64 n) w':=by
  intro i hi u n h1 h2 h3 w'
  have hu:=(hT t i hi).run_underlying (w:=w')
  rcases h3 with ⟨e,h3⟩|h3
  ·obtain ⟨A,m,c,rfl,rfl⟩:=h1 e h3
   rw [h3] at hu
   simp [Builtin.len_,hts,hu,goInt]
  ·obtain ⟨s,rfl,rfl⟩:=h2 h3
   rw [h3] at hu
   simp [Builtin.len_,hts,hu,goInt]
 unfold qlen at hq
 split at hq
 ·rename_i s e1
  rw [e1] at hx
  split at hq<;>first|(cases hq;done)|skip
  rename_i hTt
  injection hq with h1 h2
  subst h1 h2
  exact ⟨_,⟨rfl,rfl⟩,fin (.string s) s.size hx.1 (hlen hTt _ _ (fun _ h=>by cases h) (fun _=>⟨s,rfl,rfl⟩) (.inr rfl))⟩
 ·rename_i e1
  rw [e1] at hx
  split at hq<;>first|(cases hq;done)|skip
  rename_i hTt
  injection hq with h1 h2
  subst h1 h2
  exact ⟨_,⟨rfl,rfl⟩,fin (.slice none 0 0) 0 hx.1 (hlen hTt _ _ (fun _ _=>⟨none,0,0,rfl,rfl⟩) (fun h=>by cases h) (.inl ⟨_,rfl⟩))⟩
 ·rename_i size es e1
  rw [e1] at hx
  split at hq<;>first|(cases hq;done)|skip
  rename_i hTt
  injection hq with h1 h2
  subst h1 h2
  obtain ⟨A,cap,hu,_⟩:=hx
  exact ⟨_,⟨rfl,rfl⟩,fin _ es.length hu (hlen hTt _ _ (fun _ _=>⟨A,_,cap,rfl,rfl⟩) (fun h=>by cases h) (.inl ⟨_,rfl⟩))⟩
 ·rename_i k e1
  rw [e1] at hx
  split at hq<;>first|(cases hq;done)|skip
  rename_i t0 size0 es0 hTt hob
  injection hq with h1 h2
  subst h1 h2
  obtain ⟨t',size',es',hob',hh⟩:=hx
  rw [hob] at hob'
  injection hob' with hob'
  injection hob' with g1 g2 g3
  subst g1 g2 g3
  have:∃ A c,a.eval x=.slice A es0.length c:=by
   rcases hh with ⟨_,h0,hu⟩|⟨b,cur,cap,t3,_,_,_,_,_,hu⟩
   ·exact ⟨none,0,by rw [hu,h0]⟩
   ·exact ⟨_,_,hu⟩
  obtain ⟨A,c,hu⟩:=this
  exact ⟨_,⟨rfl,rfl⟩,fin _ _ hu (hlen hTt _ _ (fun _ _=>⟨A,_,c,rfl,rfl⟩) (fun h=>by cases h) (.inl ⟨_,rfl⟩))⟩
 ·cases hq
theorem yl_mm (h:StI N w0 ι σ a w) {mx:Bool} {ts:Array Nat} {x y:Operand} {p:Prop} {z:LV} (hq:qmm mx (ev σ x) (ev σ y)=.ok p z) :
  ∃ v,dlv w (own ι σ.ob) ι σ.ob z v∧Yl P a.eval (.call { callee:=.builtin (if mx then .max else .min),args:=#[x,y],argTypes:=ts }) w v:=by
 have hx:=h.ev x
 have hy:=h.ev y
 unfold qmm at hq
 split at hq
 ·rename_i k n k' m e1 e2
  rw [e1] at hx;rw [e2] at hy
  have ex:a.eval x=.int k n:=hx.1
  have ey:a.eval y=.int k' m:=hy.1
  split at hq
  ·rename_i hk
   subst hk
   injection hq with h1 h2
   subst h1 h2
   refine ⟨_,⟨rfl,rfl⟩,fun o ho w' _=>?_⟩
   cases mx
   ·have:(if m<n then m else n)=min n m:=by
     by_cases hlt:m<n
     ·rw [if_pos hlt];omega
     ·rw [if_neg hlt];omega
    simp [execOp,ho,resolve,invoke,builtin,ex,ey,Builtin.min_,Builtin.min2,this]
   ·have:(if n<m then m else n)=max n m:=by
     by_cases hlt:n<m
     ·rw [if_pos hlt];omega
     ·rw [if_neg hlt];omega
    have this':(if m > n then m else n)=max n m:=this
    simp [execOp,ho,resolve,invoke,builtin,ex,ey,Builtin.max_,Builtin.max2,this]
  ·cases hq
 ·cases hq
/-! #### literals -/
theorem dcvs_set:∀ {cs:List CV} {us:List Value} {n:Nat} {c:CV} {u:Value},dcvs w O ι ob cs us→dcv w O ι ob c u→dcvs w O ι ob (cs.set n c) (us.set n u)
 | [],us,n,c,u,h,_=>by simp only [dcvs] at h;subst h;simp [dcvs]
 | x::cs,us,0,c,u,h,hc=>by
  obtain ⟨v,r,rfl,hv,hr⟩:=h
  exact ⟨u,r,rfl,hc,hr⟩
 | x::cs,us,n+1,c,u,h,hc=>by
  obtain ⟨v,r,rfl,hv,hr⟩:=h
  exact ⟨v,r.set n u,rfl,hv,dcvs_set hr hc⟩
theorem foldl_put (off:Nat):∀ (vs:List Value) (j:Nat) (cs:Array Value) (us:List CV) (xs:List CV),dcvs w O ι ob us cs.toList→dcvs w O ι ob xs vs →
  dcvs w O ι ob (putL us (off+j) xs) ((vs.zipIdx j).foldl (fun cs p=>cs.setIfInBounds (off+p.2) p.1) cs).toList
 | [],j,cs,us,xs,hu,hx=>by
  cases xs with
  | nil=>exact hu
  | cons x xs=>obtain ⟨_,_,h,_⟩:=hx;cases h
 | v::vs,j,cs,us,xs,hu,hx=>by
  cases xs with
  | nil=>simp [dcvs] at hx
  | cons x xs =>
   obtain ⟨v',r,h,hv,hr⟩:=hx
   injection h with h1 h2
   subst h1 h2
   simp only [List.zipIdx_cons,List.foldl_cons,putL]
   rw [show off+j+1=off+(j+1) by omega]
   refine foldl_put off vs (j+1) (cs.setIfInBounds (off+j) v) (us.set (off+j) x) xs ?_ hr
   rw [Array.toList_setIfInBounds]
   exact dcvs_set hu hv
theorem hdr_oneCell {g:Option Nat} {size n:Nat} {u:Value} (h:hdr w g size n u):u.oneCell'=true:=by
 rcases h with ⟨_,_,rfl⟩|⟨_,_,_,_,_,_,_,_,_,rfl⟩<;>rfl
theorem dcv_oneCell {c:CV} {u:Value} (h:dcv w O ι ob c u):u.oneCell'=true:=by
 cases c with
 | d x=>exact den_oneCell h
 | op k off=>obtain ⟨_,_,_,rfl⟩:=h;rfl
 | oe k i off=>obtain ⟨_,_,_,_,_,_,_,rfl⟩:=h;rfl
 | os k=>obtain ⟨_,_,_,_,hh⟩:=h;exact hdr_oneCell hh
 | om k=>obtain ⟨_,_,_,rfl⟩:=h;rfl
 | any=>exact h
theorem cells_one {u:Value} (h:u.oneCell'=true):u.cells=#[u]:=by
 cases u<;>first|rfl|simp [Value.oneCell'] at h
theorem dl1_dcv {c:CV} {u:Value} (h:dl1 w O ι ob (.c c) u) (hc:(LV.c c).cellish=true):dcv w O ι ob c u:=by
 cases c<;>first|exact h|cases hc
theorem cells_dl1 {x:LV} {u:Value} (h:dlv w O ι ob x u) (hx:x.cellish=true):dcvs w O ι ob (cellsL x) u.cells.toList:=by
 cases x with
 | c c =>
  have h':=dl1_dcv h hx
  rw [cells_one (dcv_oneCell h')]
  exact ⟨u,[],rfl,h',rfl⟩
 | ag cs =>
  obtain ⟨us,rfl,hd⟩:=h
  exact hd
 | tu vs=>cases hx
end
open Go Go.RowKit
section
variable {P:Program} {T:Tab} {N:Nat} {w0:W0} {ι:Io} {σ:LS} {a:Act} {w:World} {O:Nat→Prop} {ob:List OB}
theorem fill_sound (hT:okT P T) (h:StI N w0 ι σ a w) (fs:Array Field) (place:Nat→Option (Nat × Nat)) (hpl:∀ (i:Nat) (f:Field) (j:TI),fs[i]?=some f→T f.type=some j→place i=some (f.offset,j.size)) :
  ∀ (ps:List (Nat × Operand)) (cs:List CV) (us:Array Value) (cs':List CV),dcvs w (own ι σ.ob) ι σ.ob cs us.toList→fillL T (.struct fs) cs (ps.map fun p=>(p.1,ev σ p.2))=some cs' →
   ∃ us',Instr.fill place us (ps.map fun p=>(p.1,a.eval p.2))=some us'∧dcvs w (own ι σ.ob) ι σ.ob cs' us'.toList
 | [],cs,us,cs',hd,hf=>by
  simp only [List.map_nil,fillL,Option.some.injEq] at hf
  subst hf
  exact ⟨us,rfl,hd⟩
 | (i,x)::ps,cs,us,cs',hd,hf=>by
  simp only [List.map_cons,fillL] at hf
  split at hf
  ·cases hf
  rename_i off ft hof
  split at hf
  ·cases hf
  rename_i j hj
  split at hf
  ·rename_i hc
   obtain ⟨hc0,hc1,hc2⟩:=hc
   obtain ⟨fs',f,e1,e2,e3,e4⟩:=fOff_spec hof
   injection e1 with e1
   subst e1 e3 e4
   have hcells:=cells_dl1 (h.ev x) hc0
   have hlen:(a.eval x).cells.size=j.size:=by rw [← hc1];simpa using dcvs_length hcells
   have hsz:us.size=cs.length:=by simpa using dcvs_length hd
   have hcond:((a.eval x).cells.size≠j.size || decide (f.offset+(a.eval x).cells.size > us.size))=false:=by
    simp [hlen];omega
   have hfold:=foldl_put f.offset (a.eval x).cells.toList 0 us cs (cellsL (ev σ x)) hd hcells
   simp only [Nat.add_zero] at hfold
   obtain ⟨us',h1,h2⟩:=fill_sound hT h fs place hpl ps _ _ cs' hfold hf
   refine ⟨us',?_,h2⟩
   simp only [List.map_cons,Instr.fill,hpl i f j e2 hj]
   rw [if_neg (by simpa using hcond)]
   rw [← h1]
   congr 1
   rw [← Array.foldl_toList,Array.toList_zipIdx]
  ·cases hf
theorem run_mapM_fields (hT:okT P T) (w':World):∀ (fs:List Field),(∀ f∈fs,(T f.type).isSome=true) →
  ∃ ps:List (Nat × Nat),(fs.mapM (m:=Sem) fun f=>do pure (f.offset,← sizeOf f.type)).run P w'=.ok ps w'∧∀ (i:Nat) f j,fs[i]?=some f→T f.type=some j→ps[i]?=some (f.offset,j.size)
 | [],_=>⟨[],by simp,fun i f j h=>by simp at h⟩
 | f::fs,h=>by
  obtain ⟨j,hj⟩:=Option.isSome_iff_exists.1 (h f (by simp))
  obtain ⟨ps,h1,h2⟩:=run_mapM_fields hT w' fs (fun g hg=>h g (by simp [hg]))
  refine ⟨(f.offset,j.size)::ps,?_,fun i g j' hi hj'=>?_⟩
  ·simp only [List.mapM_cons,Sem.run_bind,(hT _ j hj).run_sizeOf,Result.andThen_ok,Sem.run_pure,h1]
  ·cases i with
   | zero=>simp at hi;subst hi;rw [hj] at hj';injection hj' with hj';subst hj';rfl
   | succ i=>simpa using h2 i g j' (by simpa using hi) hj'
theorem zeroL_den' {z:Value} (h:okZero z=true):dcvs w O ι ob (zeroL z) z.cells.toList:=by
 cases z with
 | agg us=>exact dcvs_vals us.toList (by simp only [okZero,List.all_eq_true] at h;exact h)
 | tuple us=>cases h
 | _=>exact ⟨_,[],rfl,⟨rfl,rfl⟩,rfl⟩
theorem yl_build (hT:okT P T) (h:StI N w0 ι σ a w) {t:Nat} {ps:Array (Nat × Operand)} {p:Prop} {z:LV} (hq:qbuild T t (ps.toList.map fun p=>(p.1,ev σ p.2))=.ok p z) :
  ∃ v,dlv w (own ι σ.ob) ι σ.ob z v∧Yl P a.eval (.build t ps) w v:=by
 unfold qbuild at hq
 split at hq
 ·rename_i fs size bytes zero eqs hTt
  split at hq
  ·rename_i hall
   simp only [Bool.and_eq_true] at hall
   obtain ⟨hz,hall⟩:=hall
   cases hf:fillL T (.struct fs) (zeroL zero) (ps.toList.map fun p=>(p.1,ev σ p.2)) with
   | none=>simp [hf] at hq
   | some cs =>
    simp only [hf] at hq
    injection hq with h1 h2
    subst h1 h2
    have hall':∀ f∈fs.toList,(T f.type).isSome=true:=by
     intro f hf'
     exact (List.all_eq_true.1 hall) f hf'
    have hpl:∀ w',∃ pl:List (Nat × Nat),(fs.toList.mapM (m:=Sem) fun f=>do pure (f.offset,← sizeOf f.type)).run P w'=.ok pl w'∧∀ (i:Nat) f j,fs[i]?=some f→T f.type=some j→pl[i]?=some (f.offset,j.size):=fun w'=>by
     obtain ⟨pl,h1,h2⟩:=run_mapM_fields hT w' fs.toList hall'
     exact ⟨pl,h1,fun i f j hi hj=>h2 i f j (by simpa using hi) hj⟩
    obtain ⟨pl,_,hp2⟩:=hpl w
    obtain ⟨us,hu,hd⟩:=fill_sound hT h fs (fun i=>pl[i]?) hp2 ps.toList (zeroL zero) zero.cells cs (zeroL_den' hz) hf
    refine ⟨.agg us,⟨us,rfl,hd⟩,fun o ho w' _=>?_⟩
    obtain ⟨pl',hp1',hp2'⟩:=hpl w'
    have hple:∀ (l:List (Nat × Value)) (cells:Array Value),(∀ x∈l,x.1<fs.size)→Instr.fill (fun i=>pl'[i]?) cells l=Instr.fill (fun i=>pl[i]?) cells l:=by
     intro l
     induction l with
     | nil=>intro _ _;rfl
     | cons x l ih =>
      intro cells hx
      obtain ⟨i,v⟩:=x
      have hi:i<fs.size:=hx (i,v) (by simp)
      have hm:=hall' fs[i] (by simp)
      obtain ⟨j,hj⟩:=Option.isSome_iff_exists.1 hm
      have e1:=hp2 i fs[i] j (by simp [hi]) hj
      have e2:=hp2' i fs[i] j (by simp [hi]) hj
      simp only [Instr.fill,e1,e2]
      split
      ·rfl
      ·exact ih _ (fun y hy=>hx y (by simp [hy]))
    have hbound:∀ x∈ps.toList.map (fun p=>(p.1,a.eval p.2)),x.1<fs.size:=by
     intro x hx
     obtain ⟨y,hy,rfl⟩:=List.mem_map.1 hx
     have key:∀ (l:List (Nat × Operand)) (c:List CV) c',fillL T (.struct fs) c (l.map fun p=>(p.1,ev σ p.2))=some c'→∀ y∈l,y.1<fs.size:=by
      intro l
      induction l with
      | nil=>intro _ _ _ y hy;cases hy
      | cons q l ih =>
       intro c c' hc y hy
       simp only [List.map_cons,fillL] at hc
       split at hc
       ·cases hc
       rename_i off ft hof
       split at hc
       ·cases hc
       split at hc
       ·rcases List.mem_cons.1 hy with rfl|hy
        ·obtain ⟨fs',f,e1,e2,_⟩:=fOff_spec hof
         injection e1 with e1
         subst e1
         exact (Array.getElem?_eq_some_iff.1 e2).1
        ·exact ih _ _ hc y hy
       ·cases hc
     exact key ps.toList _ _ hf y hy
    have hund:=(hT t _ hTt).run_underlying (w:=w')
    have hzr:=(hT t _ hTt).run_zero (w:=w')
    have hmap:(fs.mapM (m:=Sem) fun f=>do pure (f.offset,← sizeOf f.type)).run P w'=.ok pl'.toArray w':=by
     rw [← Array.toArray_toList (xs:=fs)]
     rw [List.mapM_toArray]
     simp only [Sem.run_map,hp1',Result.andThen_ok]
    have hfill:Instr.fill (fun i=>pl'.toArray[i]?) zero.cells (Array.map (fun x=>(x.1,a.eval x.2)) ps).toList=some us:=by
     rw [← hu,Array.toList_map]
     have:(fun i:Nat=>pl'.toArray[i]?)=fun i:Nat=>pl'[i]?:=by funext i;simp
     rw [this,hple _ _ hbound]
    simp only [execOp,ho,Instr.build,Sem.run_bind,hzr,hund,Result.andThen_ok,hmap,hfill,Sem.run_pure]
  ·cases hq
 ·cases hq
/-! ### Maps -/
theorem find_dents {s:ByteArray}:∀ {es:List (ByteArray × DV)} {l:List MapEntry},dents w O es l→∀ i,
  (mget es s=none∧Instr.findNow .string (.string s) l i=some none) ∨
  ∃ d v j,mget es s=some d∧den w O d v∧Instr.findNow .string (.string s) l i=some (some (i+j,v))∧∃ e,l[j]?=some e∧e.key=.string s∧e.val=v
 | [],l,h,i=>by
  simp only [dents] at h
  subst h
  exact .inl ⟨rfl,rfl⟩
 | (k,x)::r,l,h,i=>by
  obtain ⟨e,l',rfl,hk,hx,hr⟩:=h
  by_cases hks:k=s
  ·subst hks
   refine .inr ⟨x,e.val,0,by simp [mget],hx,?_,e,rfl,hk,rfl⟩
   simp [Instr.findNow,hk,Instr.sameNow,baEq]
  ·have hne:(s == k)=false:=by rw [baEq];exact decide_eq_false (fun e=>hks e.symm)
   rcases find_dents (s:=s) hr (i+1) with ⟨h1,h2⟩|⟨d,v,j,h1,h2,h3,e',h4,h5⟩
   ·refine .inl ⟨by simp [mget,hks,h1],?_⟩
    simp [Instr.findNow,hk,Instr.sameNow,hne,h2]
   ·refine .inr ⟨d,v,j+1,by simp [mget,hks,h1],h2,?_,e',by simpa using h4,h5⟩
    simp [Instr.findNow,hk,Instr.sameNow,hne,h3]
    omega
theorem run_getObj_map {w':World} {g:Nat} {ents:Array MapEntry} {clk:Nat} (h:w'.heap[g]?=some (.map ents clk)):(getObj g).run P w'=.ok (.map ents clk) w':=by
 simp [getObj,Sem.run,h]
theorem run_checkKey_string {kt:Nat} (hk:P.underlying kt=some .string) (b:Bool) (n:Nat) (s:ByteArray) (w':World):(Instr.checkKey b (n+1) kt (.string s)).run P w'=.ok () w':=by
 simp [Instr.checkKey,Go.run_underlying hk]
theorem run_findKey_string {kt:Nat} (hk:P.underlying kt=some .string) {s:ByteArray} {l:List MapEntry} {r:Option (Nat × Value)} (h:Instr.findNow .string (.string s) l 0=some r) (w':World):(Instr.findKey kt (.string s) l).run P w'=.ok r w':=by
 simp [Instr.findKey,Go.run_underlying hk,h]
theorem yl_look (hT:okT P T) (h:StI N w0 ι σ a w) {t:Nat} {m k:Operand} {okk:Bool} {p:Prop} {z:LV} (hq:qlook T σ.ob t (ev σ m) (ev σ k) okk=.ok p z) :
  ∃ v,dlv w (own ι σ.ob) ι σ.ob z v∧Yl P a.eval (.lookup t m k okk) w v:=by
 have hm:=h.ev m
 have hk:=h.ev k
 unfold qlook at hq
 split at hq
 ·rename_i kt e _ _ _ _ n s hTt e1 e2
  rw [e1] at hm;rw [e2] at hk
  obtain ⟨g,hl,hg,em⟩:=hm
  have ek:a.eval k=.string s:=hk.1
  split at hq
  ·rename_i _ _ _ _ j es hTk hTe hob
   split at hq
   ·cases hq
   rename_i hag
   have hone:j.zero.oneCell'=true:=by simpa using hag
   obtain ⟨g',ents,clk,h1,h2,h3⟩:=h.objs n _ hob
   rw [hg] at h1
   injection h1 with h1
   subst h1
   have hund:=(hT t _ hTt).und
   have hundk:=(hT kt _ hTk).und
   rcases find_dents (s:=s) h3 0 with ⟨f1,f2⟩|⟨d,v,jj,f1,f2,f3,_⟩
   ·have hr:∀ w',Ext noB w w'→(Instr.lookup t (.map (some g)) (.string s) okk).run P w'=.ok (if okk then .tuple #[j.zero,.bool false] else j.zero) w':=by
     intro w' he
     have hgo:=(he.block g (Array.getElem?_eq_some_iff.1 h2).1 id).trans h2
     cases okk<;>simp [Instr.lookup,Go.run_underlying hund,run_getObj_map hgo,run_checkKey_string hundk _ 9999,run_findKey_string hundk f2,(hT e _ hTe).run_zero]
    split at hq
    ·rename_i hok
     injection hq with g1 g2
     subst g1 g2
     refine ⟨.tuple #[j.zero,.bool false],⟨_,rfl,?_⟩,fun o ho w' he=>?_⟩
     ·rw [f1]
      exact ⟨_,_,rfl,⟨rfl,hone⟩,_,_,rfl,⟨rfl,rfl⟩,rfl⟩
     ·have:=hr w' he
      rw [if_pos hok] at this
      simp only [execOp,ho,em,ek,Sem.run_bind,this,Result.andThen_ok,Sem.run_pure]
    ·rename_i hok
     injection hq with g1 g2
     subst g1 g2
     refine ⟨j.zero,?_,fun o ho w' he=>?_⟩
     ·rw [f1];exact ⟨rfl,hone⟩
     ·have:=hr w' he
      rw [if_neg hok] at this
      simp only [execOp,ho,em,ek,Sem.run_bind,this,Result.andThen_ok,Sem.run_pure]
   ·have hr:∀ w',Ext noB w w'→(Instr.lookup t (.map (some g)) (.string s) okk).run P w'=.ok (if okk then .tuple #[v,.bool true] else v) w':=by
     intro w' he
     have hgo:=(he.block g (Array.getElem?_eq_some_iff.1 h2).1 id).trans h2
     cases okk<;>simp [Instr.lookup,Go.run_underlying hund,run_getObj_map hgo,run_checkKey_string hundk _ 9999,run_findKey_string hundk f3]
    split at hq
    ·rename_i hok
     injection hq with g1 g2
     subst g1 g2
     refine ⟨.tuple #[v,.bool true],⟨_,rfl,?_⟩,fun o ho w' he=>?_⟩
     ·rw [f1]
      exact ⟨_,_,rfl,f2,_,_,rfl,⟨rfl,rfl⟩,rfl⟩
     ·have:=hr w' he
      rw [if_pos hok] at this
      simp only [execOp,ho,em,ek,Sem.run_bind,this,Result.andThen_ok,Sem.run_pure]
    ·rename_i hok
     injection hq with g1 g2
     subst g1 g2
     refine ⟨v,?_,fun o ho w' he=>?_⟩
     ·rw [f1];exact f2
     ·have:=hr w' he
      rw [if_neg hok] at this
      simp only [execOp,ho,em,ek,Sem.run_bind,this,Result.andThen_ok,Sem.run_pure]
  ·cases hq
 ·cases hq
end
end Go.LS
