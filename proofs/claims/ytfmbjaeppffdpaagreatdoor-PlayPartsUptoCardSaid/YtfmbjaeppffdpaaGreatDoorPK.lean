/- Part PK: 6 texts,one behind the other. -/
import Derived.Test.YtfmbjaeppffdpaaGreatDoorPA
/- Rows in order,by definition. -/
namespace Go.LS
open Go
set_option maxRecDepth 100000
set_option linter.unusedSimpArgs false
set_option linter.unusedVariables false
theorem getD_rowR {r:List Vl} {i:Nat} (h:i<r.length):(r.map eRV).getD i []=eRV (r.getD i vl0):=by
 rw [List.getD_eq_getElem?_getD,List.getD_eq_getElem?_getD,List.getElem?_map,List.getElem?_eq_getElem h]
 rfl
def insF {α:Type} (f:α→α→Int) (r:α):List α→List α
 | []=>[r]
 | x::l=>if f x r≤0 then x::insF f r l else r::x::l
def sortL {α:Type} (f:α→α→Int):List α→List α→List α
 | out,[]=>out
 | out,r::rs=>sortL f (insF f r out) rs
def sortF {α:Type} (f:α→α→Int) (rows:List α):List α:=sortL f [] rows
def aheadF {α:Type} (f:α→α→Int) (r:α):List α→Nat
 | []=>0
 | x::l=>if f x r≤0 then aheadF f r l+1 else 0
theorem insF_eq {α:Type} (f:α→α→Int) (r:α):∀ l:List α,insF f r l=l.take (aheadF f r l)++[r]++l.drop (aheadF f r l)
 | []=>rfl
 | x::l=>by
  simp only [insF,aheadF]
  split
  ·rw [insF_eq f r l];simp
  ·simp
theorem ahead_le {α:Type} (f:α→α→Int) (r:α):∀ l:List α,aheadF f r l≤l.length
 | []=>by simp [aheadF]
 | x::l=>by
  have:=ahead_le f r l
  simp only [aheadF,List.length_cons]
  split<;>omega
theorem insF_len {α:Type} (f:α→α→Int) (r:α) (l:List α):(insF f r l).length=l.length+1:=by
 have:=ahead_le f r l
 rw [insF_eq];simp;omega
theorem insF_mem {α:Type} (f:α→α→Int) (r:α) (l:List α) (x:α):x∈insF f r l↔x=r∨x∈l:=by
 rw [insF_eq]
 constructor
 ·intro h
  simp only [List.mem_append,List.mem_singleton] at h
  rcases h with (h|h)|h
  ·exact .inr (List.mem_of_mem_take h)
  ·exact .inl h
  ·exact .inr (List.mem_of_mem_drop h)
 ·rintro (rfl|h)
  ·simp
  ·rw [← List.take_append_drop (aheadF f r l) l] at h
   simp only [List.mem_append,List.mem_singleton] at h ⊢
   rcases h with h|h
   ·exact .inl (.inl h)
   ·exact .inr h
theorem sortL_len {α:Type} (f:α→α→Int):∀ (rs out:List α),(sortL f out rs).length=out.length+rs.length
 | [],out=>by simp [sortL]
 | r::rs,out=>by rw [sortL,sortL_len f rs,insF_len];simp;omega
theorem sortL_mem {α:Type} (f:α→α→Int) (x:α):∀ (rs out:List α),x∈sortL f out rs↔x∈out∨x∈rs
 | [],out=>by simp [sortL]
 | r::rs,out=>by
  rw [sortL,sortL_mem f x rs,insF_mem]
  simp only [List.mem_cons]
  constructor
  ·rintro ((rfl|h)|h)
   ·exact .inr (.inl rfl)
   ·exact .inl h
   ·exact .inr (.inr h)
  ·rintro (h|rfl|h)
   ·exact .inl (.inr h)
   ·exact .inl (.inl rfl)
   ·exact .inr h
theorem sortF_mem {α:Type} (f:α→α→Int) (x:α) (rows:List α):x∈sortF f rows↔x∈rows:=by
 rw [sortF,sortL_mem];simp
theorem sortF_len {α:Type} (f:α→α→Int) (rows:List α):(sortF f rows).length=rows.length:=by
 rw [sortF,sortL_len];simp
open Go
set_option maxRecDepth 100000
set_option linter.unusedSimpArgs false
set_option linter.unusedVariables false
def posR {α:Type} (f:α→α→Int) (d:α) (r:α) (out:List α):Nat→Nat
 | 0=>0
 | m+1=>if f r (out.getD m d)<0 then posR f d r out m else m+1
def insR {α:Type} (f:α→α→Int) (d:α) (r:α) (out:List α):List α:=out.take (posR f d r out out.length)++[r]++out.drop (posR f d r out out.length)
def sortR {α:Type} (f:α→α→Int) (d:α):List α→List α→List α
 | out,[]=>out
 | out,r::rs=>sortR f d (insR f d r out) rs
theorem posR_le {α:Type} (f:α→α→Int) (d r:α) (out:List α):∀ m,posR f d r out m≤m
 | 0=>Nat.le_refl 0
 | m+1=>by
  have:=posR_le f d r out m
  simp only [posR]
  split<;>omega
theorem insR_len {α:Type} (f:α→α→Int) (d r:α) (l:List α):(insR f d r l).length=l.length+1:=by
 have:=posR_le f d r l l.length
 simp [insR];omega
theorem insR_mem {α:Type} (f:α→α→Int) (d r:α) (l:List α) (x:α):x∈insR f d r l↔x=r∨x∈l:=by
 have h:=List.take_append_drop (posR f d r l l.length) l
 constructor
 ·intro h
  simp only [insR,List.mem_append,List.mem_singleton] at h
  rcases h with (h|h)|h
  ·exact .inr (List.mem_of_mem_take h)
  ·exact .inl h
  ·exact .inr (List.mem_of_mem_drop h)
 ·rintro (rfl|hx)
  ·simp [insR]
  ·rw [← h,List.mem_append] at hx
   simp only [insR,List.mem_append,List.mem_singleton]
   rcases hx with hx|hx
   ·exact .inl (.inl hx)
   ·exact .inr hx
theorem sortR_len {α:Type} (f:α→α→Int) (d:α):∀ (rs out:List α),(sortR f d out rs).length=out.length+rs.length
 | [],out=>by simp [sortR]
 | r::rs,out=>by rw [sortR,sortR_len f d rs,insR_len];simp;omega
def wayL {α:Type} (out:List α) (r:α) (m:Nat):List α:=out.take m++[r]++out.drop m
theorem wayL_len {α:Type} (out:List α) (r:α) (m:Nat) (h:m≤out.length):(wayL out r m).length=out.length+1:=by
 simp [wayL];omega
theorem wayL_at {α:Type} {out:List α} {r:α} {m:Nat} (h:m≤out.length):(wayL out r m)[m]?=some r:=by
 unfold wayL
 rw [List.append_assoc,List.getElem?_append_right (by simp;omega)]
 simp [Nat.min_eq_left h]
theorem wayL_pre {α:Type} {out:List α} {r:α} {m:Nat} (h:m+1≤out.length):(wayL out r (m+1))[m]?=out[m]?:=by
 unfold wayL
 rw [List.append_assoc,List.getElem?_append_left (by simp;omega)]
 rw [List.getElem?_take];simp
theorem wayL_step {α:Type} {out:List α} {r x:α} {m:Nat} (h:out[m]?=some x):((wayL out r (m+1)).set (m+1) x).set m r=wayL out r m:=by
 have hlt:=(List.getElem?_eq_some_iff.1 h).1
 have hx:out[m]=x:=(List.getElem?_eq_some_iff.1 h).2
 have e1:out.take (m+1)=out.take m++[x]:=by rw [List.take_add_one,h];rfl
 have e2:out.drop m=x::out.drop (m+1):=by rw [List.drop_eq_getElem_cons hlt,hx]
 unfold wayL
 rw [e1,e2]
 have hl:(out.take m).length=m:=by simp;omega
 rw [List.append_assoc,List.append_assoc,List.set_append_right _ _ (by simp;omega),List.set_append_right _ _ (by simp;omega)]
 simp only [hl,List.length_append,List.length_singleton]
 simp
open Go
set_option maxRecDepth 100000
set_option linter.unusedSimpArgs false
set_option linter.unusedVariables false
structure Ord3 {α:Type} (f:α→α→Int):Prop where
 anti:∀ a b,f a b=- f b a
 tr:∀ a b c,f a b≤0→f b c≤0→f a c≤0
theorem Ord3.zero {α:Type} {f:α→α→Int} (h:Ord3 f) {a b c:α} (h1:f a b≤0) (h2:f b c≤0) (h3:f a c=0):f a b=0∧f b c=0:=by
 have a1:=h.anti a b;have a2:=h.anti b c;have a3:=h.anti a c
 have t1:=h.tr b c a h2 (by omega)
 have t2:=h.tr c a b (by omega) h1
 omega
theorem Ord3.lex {α:Type} {f g:α→α→Int} (hf:Ord3 f) (hg:Ord3 g):Ord3 (fun a b=>if f a b=0 then g a b else f a b) where
 anti a b:=by
  have a1:=hf.anti a b;have a2:=hg.anti a b
  by_cases h:f a b=0
  ·have h':f b a=0:=by omega
   simp only [h,h',if_true,a2]
  ·have h':¬ f b a=0:=by omega
   simp only [if_neg h,if_neg h']
   exact a1
 tr a b c h1 h2:=by
  have e1:f a b≤0:=by
   by_cases h:f a b=0
   ·omega
   ·simpa only [h,if_false] using h1
  have e2:f b c≤0:=by
   by_cases h:f b c=0
   ·omega
   ·simpa only [h,if_false] using h2
  have e3:=hf.tr a b c e1 e2
  by_cases h:f a c=0
  ·obtain ⟨k1,k2⟩:=hf.zero e1 e2 h
   simp only [h,k1,k2,if_true] at h1 h2 ⊢
   exact hg.tr a b c h1 h2
  ·simpa only [h,if_false] using e3
theorem Ord3.neg {α:Type} {f:α→α→Int} (hf:Ord3 f):Ord3 (fun a b=>- f a b) where
 anti a b:=by have:=hf.anti a b;omega
 tr a b c h1 h2:=by
  have a1:=hf.anti a b;have a2:=hf.anti b c;have a3:=hf.anti a c
  have:=hf.tr c b a (by omega) (by omega)
  omega
theorem Ord3.on {α β:Type} {f:α→α→Int} (hf:Ord3 f) (p:β→α):Ord3 (fun a b=>f (p a) (p b)):=⟨fun a b=>hf.anti _ _,fun a b c=>hf.tr _ _ _⟩
theorem ord_cmpI:Ord3 cmpI:=⟨fun a b=>by unfold cmpI;split<;>split<;>omega,fun a b c=>by unfold cmpI;split<;>split<;>split<;>(try split)<;>(try split)<;>(try split)<;>omega⟩
theorem bytesLess_tr:∀ a b c:List UInt8,Op.bytesLess a b=true→Op.bytesLess b c=true→Op.bytesLess a c=true
 | _,[],_,h,_=>by simp [Op.bytesLess] at h
 | _,_::_,[],_,h=>by simp [Op.bytesLess] at h
 | [],_::_,_::_,_,_=>by simp [Op.bytesLess]
 | a::x,b::y,c::z,h1,h2=>by
  simp only [Op.bytesLess,Bool.or_eq_true,Bool.and_eq_true,decide_eq_true_eq,beq_iff_eq] at h1 h2 ⊢
  rcases h1 with h1|⟨rfl,h1⟩<;>rcases h2 with h2|⟨rfl,h2⟩
  ·exact .inl (UInt8.lt_trans h1 h2)
  ·exact .inl h1
  ·exact .inl h2
  ·exact .inr ⟨rfl,bytesLess_tr x y z h1 h2⟩
theorem strLt_tr {a b c:ByteArray} (h1:strLt a b=true) (h2:strLt b c=true):strLt a c=true:=bytesLess_tr _ _ _ h1 h2
theorem ord_cmpS:Ord3 cmpS:=by
 have asy:∀ a b,strLt a b=true→strLt b a=false:=fun a b h=>by rw [strLt_gt a b,h];simp
 refine ⟨fun a b=>?_,fun a b c h1 h2=>?_⟩
 ·unfold cmpS
  cases h:strLt a b with
  | true=>simp [asy a b h]
  | false=>cases h':strLt b a<;>simp
 ·have key:∀ a b,cmpS a b≤0→strLt a b=true∨a=b:=fun a b h=>by
   unfold cmpS at h
   cases h1:strLt a b with
   | true=>exact .inl rfl
   | false =>
    right
    have h2:=strLt_gt a b
    rw [h1] at h2
    cases h3:strLt b a with
    | true=>rw [h1,h3] at h;simp at h
    | false=>rw [h3] at h2;simpa using h2
  rcases key a b h1 with k1|rfl
  ·rcases key b c h2 with k2|rfl
   ·simp [cmpS,strLt_tr k1 k2]
   ·exact h1
  ·exact h2
def cmpB (a b:Bool):Int:=if a=b then 0 else if b then -1 else 1
theorem ord_cmpB:Ord3 cmpB:=⟨fun a b=>by cases a<;>cases b<;>decide,fun a b c=>by cases a<;>cases b<;>cases c<;>decide⟩
theorem ord_cmpF:Ord3 cmpF:=by
 have h:=((ord_cmpI.on Vl.k).lex ((ord_cmpS.on Vl.s).lex ((ord_cmpI.on Vl.n).lex (ord_cmpB.on Vl.b))))
 have e:(fun a b:Vl=>if cmpI a.k b.k=0 then (if cmpS a.s b.s=0 then (if cmpI a.n b.n=0 then cmpB a.b b.b else cmpI a.n b.n) else cmpS a.s b.s) else cmpI a.k b.k)=cmpF:=by
  funext a b
  simp only [cmpF,orF,cmpB]
  by_cases h1:cmpI a.k b.k=0<;>by_cases h2:cmpS a.s b.s=0<;>by_cases h3:cmpI a.n b.n=0<;>by_cases h4:a.b=b.b<;>simp [h1,h2,h3,h4]
 rw [← e]
 exact h
theorem ord_ordF:∀ p:List Pl,Ord3 (ordF p)
 | []=>⟨fun _ _=>rfl,fun _ _ _ _ _=>Int.le_refl 0⟩
 | p::ps=>by
  have h0:Ord3 (fun a b:List Vl=>cmpF (a.getD p.at_ vl0) (b.getD p.at_ vl0)):=ord_cmpF.on fun a:List Vl=>a.getD p.at_ vl0
  cases hd:p.down with
  | true =>
   have h:=h0.neg.lex (ord_ordF ps)
   have e:ordF (p::ps)=fun a b=>if - cmpF (a.getD p.at_ vl0) (b.getD p.at_ vl0)=0 then ordF ps a b else - cmpF (a.getD p.at_ vl0) (b.getD p.at_ vl0):=by
    funext a b
    simp only [ordF,hd,if_true]
    by_cases h:cmpF (a.getD p.at_ vl0) (b.getD p.at_ vl0)=0
    ·simp [h]
    ·have:¬ - cmpF (a.getD p.at_ vl0) (b.getD p.at_ vl0)=0:=by omega
     simp [h]
   rw [e];exact h
  | false =>
   have h:=h0.lex (ord_ordF ps)
   have e:ordF (p::ps)=fun a b=>if cmpF (a.getD p.at_ vl0) (b.getD p.at_ vl0)=0 then ordF ps a b else cmpF (a.getD p.at_ vl0) (b.getD p.at_ vl0):=by
    funext a b
    simp only [ordF,hd]
    simp
   rw [e];exact h
def ordL {α:Type} (f:α→α→Int) (l:List α):Prop:=l.Pairwise fun x y=>f x y≤0
theorem ahead_all {α:Type} (f:α→α→Int) (r:α):∀ (l:List α) (m:Nat),m≤l.length→(∀ x∈l.take m,f x r≤0)→(∀ x,l[m]?=some x→¬ f x r≤0)→aheadF f r l=m
 | [],m,hm,_,_=>by simp at hm;subst hm;rfl
 | x::l,0,_,_,h2=>by
  simp only [aheadF]
  rw [if_neg (h2 x rfl)]
 | x::l,m+1,hm,h1,h2=>by
  simp only [aheadF]
  rw [if_pos (h1 x (by simp)),ahead_all f r l m (by simpa using hm) (fun y hy=>h1 y (by simp [hy])) (fun y hy=>h2 y (by simpa using hy))]
theorem posR_spec {α:Type} (f:α→α→Int) (d r:α) (out:List α):∀ m,m≤out.length →
  (∀ j,posR f d r out m≤j→j<m→f r (out.getD j d)<0)∧(∀ j,posR f d r out m=j+1→¬ f r (out.getD j d)<0)
 | 0,_=>⟨fun j h1 h2=>by omega,fun j h=>by simp [posR] at h⟩
 | m+1,hm=>by
  have ih:=posR_spec f d r out m (by omega)
  simp only [posR]
  by_cases h:f r (out.getD m d)<0
  ·rw [if_pos h]
   refine ⟨fun j h1 h2=>?_,ih.2⟩
   by_cases e:j=m
   ·subst e;exact h
   ·exact ih.1 j h1 (by omega)
  ·rw [if_neg h]
   refine ⟨fun j h1 h2=>by omega,fun j hj=>?_⟩
   have:j=m:=by omega
   subst this;exact h
theorem pos_ahead {α:Type} {f:α→α→Int} (hf:Ord3 f) (d r:α) {out:List α} (ho:ordL f out):posR f d r out out.length=aheadF f r out:=by
 have hle:=posR_le f d r out out.length
 obtain ⟨h1,h2⟩:=posR_spec f d r out out.length (Nat.le_refl _)
 refine (ahead_all f r out _ hle (fun x hx=>?_) (fun x hx=>?_)).symm
 ·obtain ⟨j,hj,hx⟩:=List.mem_iff_getElem.1 hx
  have hjp:j<posR f d r out out.length:=by simp at hj;omega
  have hjl:j<out.length:=by omega
  rw [List.getElem_take] at hx
  obtain ⟨q,hq⟩:∃ q,posR f d r out out.length=q+1:=⟨posR f d r out out.length - 1,by omega⟩
  have hql:q<out.length:=by omega
  have hn:=h2 q hq
  have hg:out.getD q d=out[q]:=by simp [List.getD_eq_getElem?_getD,List.getElem?_eq_getElem hql]
  rw [hg] at hn
  have hxq:f x out[q]≤0∨x=out[q]:=by
   by_cases e:j=q
   ·subst e;exact .inr hx.symm
   ·left
    have:=List.pairwise_iff_getElem.1 ho j q hjl hql (by omega)
    rwa [hx] at this
  have ha:=hf.anti r out[q]
  rcases hxq with h|h
  ·exact hf.tr x out[q] r h (by omega)
  ·rw [h];omega
 ·have hlt:=(List.getElem?_eq_some_iff.1 hx).1
  have hn:=h1 _ (Nat.le_refl _) hlt
  have hg:out.getD (posR f d r out out.length) d=x:=by simp [List.getD_eq_getElem?_getD,hx]
  rw [hg] at hn
  have ha:=hf.anti x r
  omega
theorem insR_insF {α:Type} {f:α→α→Int} (hf:Ord3 f) (d r:α) {out:List α} (ho:ordL f out):insR f d r out=insF f r out:=by
 rw [insF_eq,insR,pos_ahead hf d r ho]
theorem insF_ord {α:Type} {f:α→α→Int} (hf:Ord3 f) (r:α):∀ {out:List α},ordL f out→ordL f (insF f r out)
 | [],_=>by simp [insF,ordL]
 | x::l,ho=>by
  obtain ⟨h1,h2⟩:=List.pairwise_cons.1 ho
  simp only [insF]
  split
  ·rename_i h
   refine List.pairwise_cons.2 ⟨fun y hy=>?_,insF_ord hf r h2⟩
   rcases (insF_mem f r l y).1 hy with rfl|hy
   ·exact h
   ·exact h1 y hy
  ·rename_i h
   have ha:=hf.anti x r
   refine List.pairwise_cons.2 ⟨fun y hy=>?_,ho⟩
   rcases List.mem_cons.1 hy with rfl|hy
   ·omega
   ·exact hf.tr r x y (by omega) (h1 y hy)
theorem sortR_sortL {α:Type} {f:α→α→Int} (hf:Ord3 f) (d:α):∀ (rs:List α) {out:List α},ordL f out→sortR f d out rs=sortL f out rs
 | [],out,_=>rfl
 | r::rs,out,ho=>by
  rw [sortR,sortL,insR_insF hf d r ho]
  exact sortR_sortL hf d rs (insF_ord hf r ho)
theorem sortR_F {α:Type} {f:α→α→Int} (hf:Ord3 f) (d:α) (rs:List α):sortR f d [] rs=sortF f rs:=sortR_sortL hf d rs List.Pairwise.nil
theorem sortL_ord {α:Type} {f:α→α→Int} (hf:Ord3 f):∀ (rs:List α) {out:List α},ordL f out→ordL f (sortL f out rs)
 | [],out,ho=>ho
 | r::rs,out,ho=>sortL_ord hf rs (insF_ord hf r ho)
theorem sortF_ord {α:Type} {f:α→α→Int} (hf:Ord3 f) (rs:List α):ordL f (sortF f rs):=sortL_ord hf rs List.Pairwise.nil
open Go
set_option maxRecDepth 100000
set_option linter.unusedSimpArgs false
set_option linter.unusedVariables false
def ixs (p:Nat→Bool):Nat→Bool
 | 0=>true
 | n+1=>p n && ixs p n
theorem ixs_iff {p:Nat→Bool}:∀ {n:Nat},ixs p n=true↔∀ j,j<n→p j=true
 | 0=>by simp [ixs]
 | n+1=>by
  simp only [ixs,Bool.and_eq_true,ixs_iff (n:=n)]
  constructor
  ·rintro ⟨h1,h2⟩ j hj
   by_cases e:j=n
   ·subst e;exact h1
   ·exact h2 j (by omega)
  ·exact fun h=>⟨h n (by omega),fun j hj=>h j (by omega)⟩
def sortedF {α:Type} (f:α→α→Int) (d:α) (rows:List α):Bool:=ixs (fun j=>decide (f (rows.getD j d) (rows.getD (j+1) d)≤0)) (rows.length - 1)
def mergeF {α:Type} (f:α→α→Int):List α→List α→List α
 | [],b=>b
 | a,[]=>a
 | x::a,y::b=>if f x y≤0 then x::mergeF f a (y::b) else y::mergeF f (x::a) b
termination_by a b=>a.length+b.length
theorem mergeF_nil {α:Type} (f:α→α→Int) (a:List α):mergeF f a []=a:=by cases a<;>simp [mergeF]
theorem nil_mergeF {α:Type} (f:α→α→Int) (b:List α):mergeF f [] b=b:=by cases b<;>simp [mergeF]
theorem mergeF_cons {α:Type} (f:α→α→Int) (x y:α) (a b:List α):mergeF f (x::a) (y::b)=if f x y≤0 then x::mergeF f a (y::b) else y::mergeF f (x::a) b:=by rw [mergeF]
theorem mergeF_len {α:Type} (f:α→α→Int):∀ (n:Nat) (a b:List α),a.length+b.length≤n→(mergeF f a b).length=a.length+b.length
 | _,[],b,_=>by rw [nil_mergeF];simp
 | _,x::a,[],_=>by rw [mergeF_nil];simp
 | 0,x::a,y::b,h=>by simp at h
 | n+1,x::a,y::b,h=>by
  rw [mergeF_cons]
  simp only [List.length_cons] at h
  split
  ·rw [List.length_cons,mergeF_len f n a (y::b) (by simp;omega)];simp;omega
  ·rw [List.length_cons,mergeF_len f n (x::a) b (by simp;omega)];simp;omega
theorem sortL_append {α:Type} (f:α→α→Int):∀ (a out b:List α),sortL f out (a++b)=sortL f (sortL f out a) b
 | [],out,b=>rfl
 | r::a,out,b=>by rw [List.cons_append,sortL,sortL,sortL_append f a]
def uniqF {α:Type} (f:α→α→Int):List α→List α→List α
 | _,[]=>[]
 | seen,r::rs=>if (seen.all fun x=>!decide (f x r=0))=true then r::uniqF f (seen++[r]) rs else uniqF f (seen++[r]) rs
open Go
set_option maxRecDepth 100000
set_option linter.unusedSimpArgs false
set_option linter.unusedVariables false
theorem ins_merge {α:Type} {f:α→α→Int} (hf:Ord3 f) (r:α):∀ (n:Nat) (X Y:List α),X.length+Y.length≤n→insF f r (mergeF f X Y)=mergeF f X (insF f r Y)
 | _,[],Y,_=>by rw [nil_mergeF,nil_mergeF]
 | _,x::X,[],h=>by
  have:∀ X:List α,insF f r X=mergeF f X [r]
   := fun X=>by
    induction X with
    | nil=>rw [nil_mergeF];rfl
    | cons x X ih=>rw [mergeF_cons,mergeF_nil,insF,ih]
  rw [mergeF_nil,this];rfl
 | 0,x::X,y::Y,h=>by simp at h
 | n+1,x::X,y::Y,h=>by
  simp only [List.length_cons] at h
  have ih1:=ins_merge hf r n X (y::Y) (by simp only [List.length_cons];omega)
  have ih2:=ins_merge hf r n (x::X) Y (by simp only [List.length_cons];omega)
  have axy:=hf.anti x y
  have ayr:=hf.anti y r
  have axr:=hf.anti x r
  rw [mergeF_cons]
  by_cases hxy:f x y≤0
  ·rw [if_pos hxy,insF,ih1]
   simp only [insF]
   by_cases hyr:f y r≤0
   ·have hxr:=hf.tr x y r hxy hyr
    rw [if_pos hxr,if_pos hyr,mergeF_cons,if_pos hxy]
   ·rw [if_neg hyr,mergeF_cons]
    by_cases hxr:f x r≤0
    ·rw [if_pos hxr,if_pos hxr]
    ·rw [if_neg hxr,if_neg hxr,mergeF_cons,if_pos hxy]
  ·rw [if_neg hxy,insF,ih2]
   simp only [insF]
   by_cases hyr:f y r≤0
   ·rw [if_pos hyr,if_pos hyr,mergeF_cons,if_neg hxy]
   ·have hxr:¬ f x r≤0:=fun hxr=>by
     have:=hf.tr y x r (by omega) hxr
     omega
    rw [if_neg hyr,if_neg hyr,mergeF_cons,if_neg hxr,mergeF_cons,if_neg hxy]
theorem sortL_mergeF {α:Type} {f:α→α→Int} (hf:Ord3 f) (X:List α):∀ (B Y:List α),sortL f (mergeF f X Y) B=mergeF f X (sortL f Y B)
 | [],Y=>rfl
 | r::B,Y=>by rw [sortL,sortL,ins_merge hf r _ X Y (Nat.le_refl _),sortL_mergeF hf X B]
theorem merge_sorts {α:Type} {f:α→α→Int} (hf:Ord3 f) (A B:List α):mergeF f (sortF f A) (sortF f B)=sortF f (A++B):=by
 have:=sortL_mergeF hf (sortF f A) B []
 rw [mergeF_nil] at this
 rw [← sortF] at this
 rw [← this,sortF,sortF,sortL_append]
open Go
set_option maxRecDepth 100000
set_option linter.unusedSimpArgs false
set_option linter.unusedVariables false
def firstB {α:Type} (f:α→α→Int) (d:α) (rows:List α) (m:Nat):Bool:=ixs (fun j=>!decide (f (rows.getD j d) (rows.getD m d)=0)) m
def uniqK {α:Type} (f:α→α→Int) (d:α) (rows:List α):Nat→List α
 | 0=>[]
 | k+1=>if firstB f d rows k=true then uniqK f d rows k++[rows.getD k d] else uniqK f d rows k
theorem uniqK_len {α:Type} (f:α→α→Int) (d:α) (rows:List α):∀ k,(uniqK f d rows k).length≤k
 | 0=>Nat.le_refl 0
 | k+1=>by
  have:=uniqK_len f d rows k
  simp only [uniqK]
  split
  ·simp;omega
  ·omega
theorem uniqK_mem {α:Type} (f:α→α→Int) (d:α) (rows:List α):∀ k,k≤rows.length→∀ x∈uniqK f d rows k,x∈rows
 | 0,_,x,h=>by simp [uniqK] at h
 | k+1,hk,x,h=>by
  simp only [uniqK] at h
  split at h
  ·rcases List.mem_append.1 h with h|h
   ·exact uniqK_mem f d rows k (by omega) x h
   ·rw [List.mem_singleton.1 h,List.getD_eq_getElem?_getD,List.getElem?_eq_getElem (by omega:k<rows.length)]
    exact List.getElem_mem _
  ·exact uniqK_mem f d rows k (by omega) x h
def byNo {α:Type} (f:α→α→Int) (d:α) (rows:List α) (a b:Nat):Int:=f (rows.getD a d) (rows.getD b d)
def strictS (g:Nat→Nat→Int) (x y:Nat):Prop:=g x y<0∨(g x y=0∧x<y)
theorem insF_strict {g:Nat→Nat→Int} (hg:Ord3 g) (r:Nat):∀ {out:List Nat},out.Pairwise (strictS g)→(∀ x∈out,x<r)→(insF g r out).Pairwise (strictS g)
 | [],_,_=>by simp [insF]
 | x::l,ho,hlt=>by
  obtain ⟨h1,h2⟩:=List.pairwise_cons.1 ho
  simp only [insF]
  split
  ·rename_i h
   refine List.pairwise_cons.2 ⟨fun y hy=>?_,insF_strict hg r h2 (fun y hy=>hlt y (by simp [hy]))⟩
   rcases (insF_mem g r l y).1 hy with rfl|hy
   ·have:=hlt x (by simp)
    by_cases e:g x y=0
    ·exact .inr ⟨e,this⟩
    ·exact .inl (by omega)
   ·exact h1 y hy
  ·rename_i h
   have ha:=hg.anti x r
   refine List.pairwise_cons.2 ⟨fun y hy=>.inl ?_,ho⟩
   rcases List.mem_cons.1 hy with rfl|hy
   ·omega
   ·have hxy:g x y≤0:=by rcases h1 y hy with h|h<;>omega
    have hle:=hg.tr r x y (by omega) hxy
    by_cases e:g r y=0
    ·have:=(hg.zero (by omega) hxy e).1
     omega
    ·omega
theorem sortL_strict {g:Nat→Nat→Int} (hg:Ord3 g):∀ (rs:List Nat) {out:List Nat},out.Pairwise (strictS g)→rs.Pairwise (·<·)→(∀ x∈out,∀ r∈rs,x<r)→(sortL g out rs).Pairwise (strictS g)
 | [],out,ho,_,_=>ho
 | r::rs,out,ho,hr,hx=>by
  obtain ⟨h1,h2⟩:=List.pairwise_cons.1 hr
  refine sortL_strict hg rs (insF_strict hg r ho (fun x hxo=>hx x hxo r (by simp))) h2 (fun x hxi y hy=>?_)
  rcases (insF_mem g r out x).1 hxi with rfl|hxo
  ·exact h1 y hy
  ·exact hx x hxo y (by simp [hy])
theorem flag_first {α:Type} {f:α→α→Int} (hf:Ord3 f) (d:α) (rows:List α) {L:List Nat} (hL:L=sortF (byNo f d rows) (List.range rows.length)) {i:Nat} (hi:i<L.length) :
  (decide (i=0) || !decide (byNo f d rows (L.getD (i - 1) 0) L[i]=0))=firstB f d rows L[i]:=by
 have hg:Ord3 (byNo f d rows):=hf.on fun a=>rows.getD a d
 generalize hgd:byNo f d rows=g at *
 have hS:L.Pairwise (strictS g):=by
  rw [hL]
  exact sortL_strict hg _ List.Pairwise.nil List.pairwise_lt_range (fun x hx=>by simp at hx)
 have hmem:∀ x,x∈L↔x<rows.length:=fun x=>by rw [hL,sortF_mem,List.mem_range]
 have hm:L[i]<rows.length:=(hmem _).1 (List.getElem_mem hi)
 have hp:∀ a b (ha:a<L.length) (hb:b<L.length),a<b→strictS g L[a] L[b]:=fun a b ha hb hab=>List.pairwise_iff_getElem.1 hS a b ha hb hab
 cases hfb:firstB f d rows L[i] with
 | true =>
  rcases Nat.eq_zero_or_pos i with h0|h0
  ·simp [h0]
  ·have hi1:i - 1<L.length:=by omega
   have e:L.getD (i - 1) 0=L[i - 1]:=by simp [List.getD_eq_getElem?_getD,List.getElem?_eq_getElem hi1]
   have hs:=hp (i - 1) i hi1 hi (by omega)
   rw [e]
   have hne:¬ g L[i - 1] L[i]=0:=fun hz=>by
    rcases hs with h|⟨_,hlt⟩
    ·omega
    ·have:=ixs_iff.1 hfb L[i - 1] hlt
     rw [← hgd] at hz
     simp only [byNo] at hz
     rw [decide_eq_true hz] at this
     cases this
   simp [hne]
 | false =>
  have hne:¬ ∀ j,j<L[i]→(!decide (f (rows.getD j d) (rows.getD L[i] d)=0))=true:=fun h=>by
   rw [firstB,ixs_iff.2 h] at hfb;cases hfb
  have hex:∃ j,j<L[i]∧f (rows.getD j d) (rows.getD L[i] d)=0:=by
   apply Classical.byContradiction
   intro hno
   refine hne fun j hj=>?_
   cases hd:decide (f (rows.getD j d) (rows.getD L[i] d)=0) with
   | false=>rfl
   | true=>exact absurd ⟨j,hj,of_decide_eq_true hd⟩ hno
  obtain ⟨j,hj,hz⟩:=hex
  have hz':g j L[i]=0:=by rw [← hgd];exact hz
  obtain ⟨i',hi',hji⟩:=List.mem_iff_getElem.1 ((hmem j).2 (by omega))
  have hii:i'<i:=by
   rcases Nat.lt_trichotomy i' i with h|h|h
   ·exact h
   ·subst h;omega
   ·exfalso
    have hs:=hp i i' hi hi' h
    have ha:=hg.anti j L[i]
    rw [hji] at hs
    rcases hs with h|⟨_,hlt⟩<;>omega
  have hi1:i - 1<L.length:=by omega
  have e:L.getD (i - 1) 0=L[i - 1]:=by simp [List.getD_eq_getElem?_getD,List.getElem?_eq_getElem hi1]
  have hs:=hp (i - 1) i hi1 hi (by omega)
  have hle:g L[i - 1] L[i]≤0:=by rcases hs with h|h<;>omega
  have hz2:g L[i - 1] L[i]=0:=by
   by_cases e2:i'=i - 1
   ·subst e2;rw [hji];exact hz'
   ·have hs2:=hp i' (i - 1) hi' hi1 (by omega)
    rw [hji] at hs2
    have hle2:g j L[i - 1]≤0:=by rcases hs2 with h|h<;>omega
    exact (hg.zero hle2 hle hz').2
  have h0:¬ i=0:=by omega
  rw [e,hz2]
  simp [h0]
end Go.LS
