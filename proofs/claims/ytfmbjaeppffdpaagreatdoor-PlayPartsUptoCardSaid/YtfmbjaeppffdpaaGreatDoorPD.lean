/- Part PD: 6 texts,one behind the other. -/
import Derived.Test.YtfmbjaeppffdpaaGreatDoorPA
import Derived.Lib.ItoaNum
/- Marks: texts that tell values apart;maps that are read by their keys. -/
namespace Go.LS
open Go
set_option linter.unusedSimpArgs false
set_option linter.unusedVariables false
/-! ### Maps -/
theorem mget_mset (k:ByteArray) (x:DV) (k':ByteArray):∀ es:List (ByteArray × DV),mget (mset es k x) k'=if k=k' then some x else mget es k'
 | []=>by simp only [mset,mget]
 | (i,y)::r=>by
  have ih:=mget_mset k x k' r
  by_cases h:i=k
  ·subst h
   simp only [mset,if_true,mget]
   split<;>rfl
  ·simp only [mset,if_neg h,mget]
   by_cases h2:i=k'
   ·subst h2
    rw [if_pos rfl,if_neg (fun e=>h e.symm),if_pos rfl]
   ·rw [if_neg h2,if_neg h2,ih]
def keysM (es:List (ByteArray × DV)):List ByteArray:=es.map Prod.fst
theorem mset_keys (k:ByteArray) (x:DV):∀ es:List (ByteArray × DV),∀ i,i∈keysM (mset es k x)↔i=k∨i∈keysM es
 | [],i=>by simp [mset,keysM]
 | (j,y)::r,i=>by
  have ih:=mset_keys k x r i
  by_cases h:j=k
  ·subst h;simp [mset,keysM]
  ·simp only [mset,if_neg h,keysM,List.map_cons,List.mem_cons] at ih ⊢
   rw [ih]
   constructor
   ·rintro (h|h|h)<;>simp [h]
   ·rintro (h|h|h)<;>simp [h]
theorem mset_nodup (k:ByteArray) (x:DV):∀ {es:List (ByteArray × DV)},(keysM es).Nodup→(keysM (mset es k x)).Nodup
 | [],_=>by simp [mset,keysM]
 | (j,y)::r,h=>by
  simp only [keysM,List.map_cons,List.nodup_cons] at h
  by_cases e:j=k
  ·subst e
   simp only [mset,if_true,keysM,List.map_cons,List.nodup_cons]
   exact h
  ·simp only [mset,if_neg e,keysM,List.map_cons,List.nodup_cons]
   refine ⟨fun hm=>?_,mset_nodup k x h.2⟩
   rcases (mset_keys k x r j).1 hm with h1|h1
   ·exact e h1
   ·exact h.1 h1
/-! ### Numerals -/
theorem toNat_ofNat8 {n:Nat} (h:n<256):(UInt8.ofNat n).toNat=n:=by
 simp;omega
theorem dec_range:∀ (u:Nat),∀ c∈Lib.decDigits u,48≤c.toNat∧c.toNat≤57
 | u,c,hc=>by
  rw [Lib.decDigits] at hc
  split at hc
  ·simp only [List.mem_cons,List.not_mem_nil,or_false] at hc
   subst hc
   rw [toNat_ofNat8 (by omega)];omega
  ·rcases List.mem_append.1 hc with hc|hc
   ·exact dec_range (u / 10) c hc
   ·simp only [List.mem_cons,List.not_mem_nil,or_false] at hc
    subst hc
    rw [toNat_ofNat8 (by omega)];omega
termination_by u=>u
decreasing_by omega
def valD (l:List UInt8):Nat:=l.foldl (fun a c=>10*a+(c.toNat - 48)) 0
theorem val_dec:∀ (u:Nat),valD (Lib.decDigits u)=u
 | u=>by
  rw [Lib.decDigits]
  split
  ·simp only [valD,List.foldl_cons,List.foldl_nil]
   rw [toNat_ofNat8 (by omega)];omega
  ·have ih:=val_dec (u / 10)
   unfold valD at ih ⊢
   rw [List.foldl_append,ih]
   simp only [List.foldl_cons,List.foldl_nil]
   rw [toNat_ofNat8 (by omega)];omega
termination_by u=>u
decreasing_by omega
theorem dec_inj {u v:Nat} (h:Lib.decDigits u=Lib.decDigits v):u=v:=by
 have:=congrArg valD h
 rwa [val_dec,val_dec] at this
theorem split_digits:∀ {a b:List UInt8} {x y:UInt8} {r s:List UInt8},(∀ c∈a,c≠x)→(∀ c∈b,c≠x)→x=y→a++x::r=b++y::s→a=b∧r=s
 | [],[],x,y,r,s,_,_,e,h=>by simp at h;exact ⟨rfl,h.2⟩
 | [],c::b,x,y,r,s,_,hb,e,h=>by
  simp only [List.nil_append,List.cons_append,List.cons.injEq] at h
  exact absurd h.1.symm (hb c (by simp))
 | c::a,[],x,y,r,s,ha,_,e,h=>by
  simp only [List.nil_append,List.cons_append,List.cons.injEq] at h
  exact absurd (h.1.trans e.symm) (ha c (by simp))
 | c::a,d::b,x,y,r,s,ha,hb,e,h=>by
  simp only [List.cons_append,List.cons.injEq] at h
  obtain ⟨h1,h2⟩:=h
  obtain ⟨h3,h4⟩:=split_digits (fun z hz=>ha z (by simp [hz])) (fun z hz=>hb z (by simp [hz])) e h2
  exact ⟨by rw [h1,h3],h4⟩
theorem itoa_ne {n:Int} {x:UInt8} (hx:x.toNat=58∨x.toNat=59):∀ c∈Lib.itoa n,c≠x:=by
 intro c hc e
 subst e
 unfold Lib.itoa at hc
 split at hc
 ·rcases List.mem_cons.1 hc with h|h
  ·subst h;simp at hx
  ·have:=dec_range _ _ h;omega
 ·have:=dec_range _ _ hc;omega
theorem itoa_inj {n m:Int} (h:Lib.itoa n=Lib.itoa m):n=m:=by
 unfold Lib.itoa at h
 have hne:∀ u v:Nat,45::Lib.decDigits u≠Lib.decDigits v:=fun u v e=>by
  have:=dec_range v 45 (by rw [← e];simp)
  simp at this
 split at h<;>split at h
 ·injection h with _ h
  have:=dec_inj h;omega
 ·exact absurd h (hne _ _)
 ·exact absurd h.symm (hne _ _)
 ·have:=dec_inj h;omega
theorem dec_len:∀ (n u:Nat),u<10 ^ (n+1)→(Lib.decDigits u).length≤n+1
 | 0,u,h=>by rw [Lib.decDigits,dif_pos (by simpa using h)];simp
 | n+1,u,h=>by
  rw [Lib.decDigits]
  split
  ·simp
  ·have:=dec_len n (u / 10) (by rw [Nat.pow_succ] at h;omega)
   simp only [List.length_append,List.length_cons,List.length_nil]
   omega
theorem itoa_len (n:Int) (h0:-9223372036854775808≤n) (h1:n≤9223372036854775807):(Lib.itoa n).length≤21:=by
 unfold Lib.itoa
 split
 ·have:=dec_len 19 n.natAbs (by omega)
  simp only [List.length_cons];omega
 ·have:=dec_len 19 n.toNat (by omega)
  omega
/-! ### Marks -/
@[reducible] def truB:List UInt8:=[116,114,117,101]
@[reducible] def flsB:List UInt8:=[102,97,108,115,101]
def tokF (nul:List UInt8) (v:Vl):List UInt8 :=
 if v.k=0 then nul
 else if v.k=1 then 116::(Lib.itoa v.s.size++58::v.s.data.toList)
 else if v.k=2 then 105::(Lib.itoa v.n++[59])
 else if v.k=3 then 98::((if v.b then truB else flsB)++[59])
 else []
abbrev v0:Vl:=vl0
def vAt (r:List Vl) (p:Nat):Vl:=r.getD p v0
def toksF (nul:List UInt8) (r:List Vl):List Nat→List UInt8
 | []=>[]
 | p::ps=>tokF nul (vAt r p)++toksF nul r ps
def markF (nul:List UInt8) (r:List Vl) (ps:List Nat):ByteArray:=⟨(toksF nul r ps).toArray⟩
theorem ba_ext {a b:ByteArray} (h:a.data.toList=b.data.toList):a=b:=by
 cases a;cases b
 simp only at h
 congr 1
 exact Array.toList_inj.1 h
theorem right_eq {v w:Vl} (hv:rightF v=true) (hw:rightF w=true) (hk:v.k=w.k) (hs:v.k=1→v.s=w.s) (hn:v.k=2→v.n=w.n) (hb:v.k=3→v.b=w.b):v=w:=by
 obtain ⟨k,s,n,b⟩:=v
 obtain ⟨k',s',n',b'⟩:=w
 simp only at hk hs hn hb
 subst hk
 unfold rightF at hv hw
 simp only at hv hw
 by_cases h0:k=0
 ·simp only [h0,if_true,Bool.and_eq_true,decide_eq_true_eq,beq_iff_eq] at hv hw
  simp [hv,hw]
 ·by_cases h1:k=1
  ·subst h1
   simp only [if_neg h0,if_true,Bool.and_eq_true,decide_eq_true_eq,beq_iff_eq] at hv hw
   have:=hs rfl
   simp [hv,hw,this]
  ·by_cases h2:k=2
   ·subst h2
    simp only [if_neg h0,if_neg h1,if_true,Bool.and_eq_true,decide_eq_true_eq,beq_iff_eq] at hv hw
    have:=hn rfl
    simp [hv,hw,this]
   ·by_cases h3:k=3
    ·subst h3
     simp only [if_neg h0,if_neg h1,if_neg h2,if_true,Bool.and_eq_true,decide_eq_true_eq,beq_iff_eq] at hv hw
     have:=hb rfl
     simp [hv,hw,this]
    ·simp [h0,h1,h2,h3] at hv
theorem right_k {v:Vl} (hv:rightF v=true):v.k=0∨v.k=1∨v.k=2∨v.k=3:=by
 unfold rightF at hv
 by_cases h0:v.k=0
 ·exact .inl h0
 ·by_cases h1:v.k=1
  ·exact .inr (.inl h1)
  ·by_cases h2:v.k=2
   ·exact .inr (.inr (.inl h2))
   ·by_cases h3:v.k=3
    ·exact .inr (.inr (.inr h3))
    ·simp [h0,h1,h2,h3] at hv
theorem tok_0 (nul:List UInt8) {v:Vl} (h:v.k=0):tokF nul v=nul:=by simp [tokF,h]
theorem tok_1 (nul:List UInt8) {v:Vl} (h:v.k=1):tokF nul v=116::(Lib.itoa v.s.size++58::v.s.data.toList):=by simp [tokF,h]
theorem tok_2 (nul:List UInt8) {v:Vl} (h:v.k=2):tokF nul v=105::(Lib.itoa v.n++[59]):=by simp [tokF,h]
theorem tok_3 (nul:List UInt8) {v:Vl} (h:v.k=3):tokF nul v=98::((if v.b then truB else flsB)++[59]):=by simp [tokF,h]
def kbF (k:Int):UInt8:=if k=0 then 110 else if k=1 then 116 else if k=2 then 105 else 98
theorem tok_head {nul:List UInt8} {v:Vl} (hv:rightF v=true) (h:nul=[110]∨v.k≠0):∃ r,tokF nul v=kbF v.k::r:=by
 rcases right_k hv with k|k|k|k
 ·rcases h with rfl|h
  ·exact ⟨[],by rw [tok_0 _ k,k];rfl⟩
  ·exact absurd k h
 ·exact ⟨_,by rw [tok_1 _ k,k];rfl⟩
 ·exact ⟨_,by rw [tok_2 _ k,k];rfl⟩
 ·exact ⟨_,by rw [tok_3 _ k,k];rfl⟩
theorem kb_inj {a b:Int} (ha:a=0∨a=1∨a=2∨a=3) (hb:b=0∨b=1∨b=2∨b=3) (h:kbF a=kbF b):a=b:=by
 rcases ha with rfl|rfl|rfl|rfl<;>rcases hb with rfl|rfl|rfl|rfl<;>first|rfl|(exfalso;revert h;decide)
theorem tok_inj {nul:List UInt8} {v w:Vl} (hv:rightF v=true) (hw:rightF w=true) (h0:nul=[110]∨(v.k≠0∧w.k≠0)) {r s:List UInt8} (h:tokF nul v++r=tokF nul w++s):v=w∧r=s:=by
 obtain ⟨a,ha⟩:=tok_head (nul:=nul) hv (h0.imp id And.left)
 obtain ⟨b,hb⟩:=tok_head (nul:=nul) hw (h0.imp id And.right)
 have hkk:v.k=w.k:=by
  rw [ha,hb] at h
  simp only [List.cons_append,List.cons.injEq] at h
  exact kb_inj (right_k hv) (right_k hw) h.1
 clear ha hb
 rcases right_k hv with k|k|k|k
 ·rw [tok_0 _ k,tok_0 _ (hkk ▸ k)] at h
  exact ⟨right_eq hv hw hkk (fun e=>by omega) (fun e=>by omega) (fun e=>by omega),List.append_cancel_left h⟩
 ·rw [tok_1 _ k,tok_1 _ (hkk ▸ k)] at h
  simp only [List.cons_append,List.append_assoc,List.cons.injEq,true_and] at h
  obtain ⟨h1,h2⟩:=split_digits (itoa_ne (.inl rfl)) (itoa_ne (.inl rfl)) rfl h
  have hsz:=itoa_inj h1
  have hlen:v.s.data.toList.length=w.s.data.toList.length:=by
   simp only [Array.length_toList]
   exact Int.ofNat.inj hsz
  obtain ⟨h3,h4⟩:=List.append_inj h2 hlen
  exact ⟨right_eq hv hw hkk (fun _=>ba_ext h3) (fun e=>by omega) (fun e=>by omega),h4⟩
 ·rw [tok_2 _ k,tok_2 _ (hkk ▸ k)] at h
  simp only [List.cons_append,List.append_assoc,List.nil_append,List.cons.injEq,true_and] at h
  obtain ⟨h1,h2⟩:=split_digits (itoa_ne (.inr rfl)) (itoa_ne (.inr rfl)) rfl h
  exact ⟨right_eq hv hw hkk (fun e=>by omega) (fun _=>itoa_inj h1) (fun e=>by omega),h2⟩
 ·rw [tok_3 _ k,tok_3 _ (hkk ▸ k)] at h
  have hbb:v.b=w.b∧r=s:=by
   cases hvb:v.b<;>cases hwb:w.b<;>simp [hvb,hwb] at h
   ·exact ⟨rfl,h⟩
   ·exact ⟨rfl,h⟩
  exact ⟨right_eq hv hw hkk (fun e=>by omega) (fun e=>by omega) (fun _=>hbb.1),hbb.2⟩
theorem toks_eq {nul:List UInt8} {a b:List Vl}:∀ {ps:List Nat},(∀ p∈ps,rightF (vAt a p)=true∧rightF (vAt b p)=true∧(nul=[110]∨((vAt a p).k≠0∧(vAt b p).k≠0))) →
  (toksF nul a ps=toksF nul b ps↔∀ p∈ps,vAt a p=vAt b p)
 | [],_=>by simp [toksF]
 | p::ps,h=>by
  obtain ⟨h1,h2,h3⟩:=h p (by simp)
  have ih:=toks_eq (nul:=nul) (a:=a) (b:=b) (ps:=ps) (fun q hq=>h q (by simp [hq]))
  simp only [toksF,List.forall_mem_cons]
  constructor
  ·intro e
   obtain ⟨e1,e2⟩:=tok_inj h1 h2 h3 e
   exact ⟨e1,ih.1 e2⟩
  ·rintro ⟨e1,e2⟩
   rw [e1,ih.2 e2]
theorem mark_eq {nul:List UInt8} {a b:List Vl} {ps:List Nat} (h:∀ p∈ps,rightF (vAt a p)=true∧rightF (vAt b p)=true∧(nul=[110]∨((vAt a p).k≠0∧(vAt b p).k≠0))) :
  markF nul a ps=markF nul b ps↔∀ p∈ps,vAt a p=vAt b p:=by
 rw [← toks_eq h]
 constructor
 ·intro e
  have:=congrArg (fun x:ByteArray=>x.data.toList) e
  simpa [markF] using this
 ·intro e;simp only [markF,e]
theorem toks_append (nul:List UInt8) (r:List Vl):∀ (ps qs:List Nat),toksF nul r (ps++qs)=toksF nul r ps++toksF nul r qs
 | [],qs=>rfl
 | p::ps,qs=>by simp only [List.cons_append,toksF,toks_append nul r ps qs,List.append_assoc]
theorem toks_take_succ {nul:List UInt8} {r:List Vl} {ps:List Nat} {k:Nat} {p:Nat} (h:ps[k]?=some p):toksF nul r (ps.take (k+1))=toksF nul r (ps.take k)++tokF nul (vAt r p):=by
 rw [List.take_add_one,h]
 simp [toks_append,toksF]
theorem vAt_get {r:List Vl} {p:Nat} {v:Vl} (h:r[p]?=some v):vAt r p=v:=by simp [vAt,h]
/-! ### Bytes as elements of a row -/
theorem numsOf_map:∀ bs:List UInt8,numsOf (bs.map bD)=some (bs.map fun b=>(b.toNat:Int))
 | []=>rfl
 | b::bs=>by simp only [List.map_cons,numsOf,bD,numsOf_map bs]
theorem okNums_map:∀ bs:List UInt8,okNums (bs.map fun b=>(b.toNat:Int))
 | []=>trivial
 | b::bs=>⟨⟨Int.natCast_nonneg _,by have:=b.toNat_lt;show (b.toNat:Int)≤255;omega⟩,okNums_map bs⟩
theorem strN_map (bs:List UInt8):strN (bs.map fun b=>(b.toNat:Int))=⟨bs.toArray⟩:=by
 unfold strN
 congr 2
 rw [List.map_map]
 conv=>rhs;rw [← List.map_id bs]
 refine List.map_congr_left fun b _=>?_
 simp
theorem strD_map (s:ByteArray):strD s=s.data.toList.map bD:=rfl
open Go
set_option linter.unusedSimpArgs false
set_option linter.unusedVariables false
structure Tb where
 L:List Cl
 R:List (List Vl)
def eT (t:Tb):List DV:=[.sl 3 (t.L.map eC),.sl 1 (t.R.map eR)]
@[push_cast] theorem eT_eq (t:Tb):eT t=[.sl 3 (t.L.map eC),.sl 1 (t.R.map eR)]:=rfl
def eRT (t:Tb):List DV:=[.sl 3 (t.L.map eRC),.sl 1 (t.R.map eRR)]
@[push_cast] theorem eRT_eq (t:Tb):eRT t=[.sl 3 (t.L.map eRC),.sl 1 (t.R.map eRR)]:=rfl
theorem sameV_iff {a b:Vl}:sameV a b=true↔a=b:=by
 obtain ⟨k,s,n,x⟩:=a
 obtain ⟨k',s',n',x'⟩:=b
 simp only [sameV,Bool.and_eq_true,decide_eq_true_eq,Vl.mk.injEq,bi_inj]
def okV2 (v:Vl):Prop:=v.s.size≤1099511627776∧inK .i64 v.n
def okR2 (r:List Vl):Prop:=okLen r∧∀ v∈r,okV2 v
structure okT2 (t:Tb):Prop where
 l:okCl t.L
 r:okLen t.R
 v:∀ r∈t.R,okR2 r
 right:∀ r∈t.R,∀ v∈r,rightF v=true
theorem okT2.rs {t:Tb} (h:okT2 t):okRs t.R:=⟨h.r,fun r hr=>⟨(h.v r hr).1,fun v hv=>((h.v r hr).2 v hv).1⟩⟩
def okKeys (ks:List ByteArray):Prop:=ks.length≤64
def placeN (l:List Cl) (n:ByteArray):Nat:=(findF n l 0).2.1
def foundN (l:List Cl) (n:ByteArray):Prop:=(findF n l 0).2.2=true
def keyF (l:List Cl):List ByteArray→List ByteArray→Nat→Nat × Int
 | _,[],k=>(k,0)
 | seen,n::ks,k=>if (findF n l 0).2.2=false then (k,16) else if memB n seen=true then (k,15) else keyF l (seen++[n]) ks (k+1)
def alikeF (ps:List Nat) (a b:List Vl):Bool:=ps.all fun p=>sameV (vAt a p) (vAt b p)
def nullF (ps:List Nat) (r:List Vl):Bool:=ps.any fun p=>decide ((vAt r p).k=0)
def rowsF (n:Nat) (ps:List Nat):List (List Vl)→List (List Vl)→Nat→Nat × Int
 | _,[],k=>(k,0)
 | seen,r::rs,k=>if r.length≠n then (k,10) else if nullF ps r=true then (k,20) else if (seen.any fun x=>alikeF ps x r)=true then (k,15) else rowsF n ps (seen++[r]) rs (k+1)
def placesN (l:List Cl) (ks:List ByteArray):List Nat:=ks.map (placeN l)
def tabF (t:Tb) (ks:List ByteArray):Nat × Int :=
 if (checkC t.L).2≠0 then (0,(checkC t.L).2) else if ks.length=0 then (0,13)
 else if (keyF t.L [] ks 0).2≠0 then keyF t.L [] ks 0 else rowsF t.L.length (placesN t.L ks) [] t.R 0
theorem found_name {n:ByteArray}:∀ {l:List Cl} {k:Nat},(findF n l k).2.2=true→(findF n l k).1.name=n∧k≤(findF n l k).2.1∧l[(findF n l k).2.1 - k]?=some (findF n l k).1
 | [],k,h=>by simp [findF] at h
 | c::l,k,h=>by
  by_cases e:c.name=n
  ·simp [findF,e]
  ·simp only [findF,if_neg e] at h ⊢
   obtain ⟨h1,h2,h3⟩:=found_name h
   refine ⟨h1,by omega,?_⟩
   have:(findF n l (k+1)).2.1 - k=((findF n l (k+1)).2.1 - (k+1))+1:=by omega
   rw [this,List.getElem?_cons_succ]
   exact h3
theorem placeN_get {l:List Cl} {n:ByteArray} (h:foundN l n):l[placeN l n]?=some (findF n l 0).1∧(findF n l 0).1.name=n:=by
 obtain ⟨h1,_,h3⟩:=found_name h
 exact ⟨by simpa [placeN] using h3,h1⟩
theorem placeN_lt {l:List Cl} {n:ByteArray} (h:foundN l n):placeN l n<l.length:=(List.getElem?_eq_some_iff.1 (placeN_get h).1).1
theorem placeN_inj {l:List Cl} {n m:ByteArray} (hn:foundN l n) (hm:foundN l m) (h:placeN l n=placeN l m):n=m:=by
 obtain ⟨h1,h2⟩:=placeN_get hn
 obtain ⟨h3,h4⟩:=placeN_get hm
 rw [h,h3] at h1
 injection h1 with h1
 rw [← h2,← h4,h1]
theorem place_mem {l:List Cl} {n:ByteArray} {seen:List ByteArray} (hn:foundN l n) (hs:∀ m∈seen,foundN l m):decide (placeN l n∈placesN l seen)=memB n seen:=by
 rw [Bool.eq_iff_iff,decide_eq_true_eq,memB_iff,placesN,List.mem_map]
 exact ⟨fun ⟨m,hm,e⟩=>placeN_inj (hs m hm) hn e ▸ hm,fun h=>⟨n,h,rfl⟩⟩
theorem key_found (l:List Cl):∀ (ks seen:List ByteArray) (k:Nat),(keyF l seen ks k).2=0→∀ n∈ks,foundN l n
 | [],_,_,_,n,hn=>by cases hn
 | m::ks,seen,k,h,n,hn=>by
  simp only [keyF] at h
  split at h
  ·cases h
  ·rename_i hf
   split at h
   ·cases h
   ·rcases List.mem_cons.1 hn with rfl|hn
    ·simpa [foundN] using hf
    ·exact key_found l ks _ _ h n hn
theorem placesN_lt {l:List Cl} {ks:List ByteArray} (h:∀ n∈ks,foundN l n):∀ p∈placesN l ks,p<l.length:=by
 intro p hp
 obtain ⟨n,hn,rfl⟩:=List.mem_map.1 hp
 exact placeN_lt (h n hn)
theorem alike_iff {ps:List Nat} {a b:List Vl}:alikeF ps a b=true↔∀ p∈ps,vAt a p=vAt b p:=by
 simp only [alikeF,List.all_eq_true,sameV_iff]
theorem vAt_right {r:List Vl} (h:∀ v∈r,rightF v=true) (p:Nat):rightF (vAt r p)=true:=by
 unfold vAt
 rw [List.getD_eq_getElem?_getD]
 cases hp:r[p]? with
 | none=>rfl
 | some v=>exact h v (List.mem_of_getElem? hp)
theorem null_not {ps:List Nat} {r:List Vl} (h:nullF ps r=false):∀ p∈ps,(vAt r p).k≠0:=by
 intro p hp e
 have:=List.any_eq_false.1 h p hp
 simp [e] at this
theorem mark_alikeN {ps:List Nat} {a b:List Vl} (ha:∀ v∈a,rightF v=true) (hb:∀ v∈b,rightF v=true) :
  markF [110] a ps=markF [110] b ps↔alikeF ps a b=true:=by
 rw [mark_eq (fun p hp=>⟨vAt_right ha p,vAt_right hb p,.inl rfl⟩),alike_iff]
def namesN (l:List Cl):List ByteArray:=l.map (·.name)
theorem at_place {l:List Cl} {n:ByteArray} (h:foundN l n):atF n (namesN l) 0=(placeN l n:Int):=(find_lt h).2.2.symm
theorem at_found (l:List Cl) (n:ByteArray):decide (atF n (namesN l) 0<0)=!(findF n l 0).2.2:=by
 have:=(find_at n l 0).1
 rw [this]
 show decide (atF n (l.map fun x=>x.name) 0<0)=!decide (0≤atF n (l.map fun x=>x.name) 0)
 by_cases h:0≤atF n (l.map fun x=>x.name) 0
 ·rw [decide_eq_true h,decide_eq_false (by omega)];rfl
 ·rw [decide_eq_false h,decide_eq_true (by omega)];rfl
def fewT (t:Tb):Bool:=(!longC t.L && decide (t.L.length≤12)) && (smallF t.R && t.R.all fun r=>r.all rightF)
def shortK (ks:List ByteArray):Bool:=ks.all fun k=>decide (k.size≤100)
structure okT0 (t:Tb):Prop where
 l:okCl t.L
 r:okLen t.R
 v:∀ r∈t.R,okR2 r
theorem okT0.right {t:Tb} (h:okT0 t) (hf:fewT t=true):okT2 t :=
 ⟨h.l,h.r,h.v,fun r hr v hv=>by
   simp only [fewT,Bool.and_eq_true,List.all_eq_true] at hf
   exact hf.2.2 r hr v hv⟩
theorem okT0.rs {t:Tb} (h:okT0 t):okRs t.R:=⟨h.r,fun r hr=>⟨(h.v r hr).1,fun v hv=>((h.v r hr).2 v hv).1⟩⟩
theorem fewT_len {t:Tb} (h:fewT t=true):t.L.length≤12∧t.R.length≤12:=by
 simp only [fewT,smallF,Bool.and_eq_true,decide_eq_true_eq] at h
 exact ⟨h.1.2,h.2.1.2⟩
structure Dc where
 A:Tb
 B:Tb
 K:List ByteArray
def eD (z:Dc):List DV:=[.sl 3 (z.A.L.map eC),.sl 1 (z.A.R.map eR),.sl 3 (z.B.L.map eC),.sl 1 (z.B.R.map eR),.sl 1 (z.K.map eS)]
@[push_cast] theorem eD_eq (z:Dc):eD z=[.sl 3 (z.A.L.map eC),.sl 1 (z.A.R.map eR),.sl 3 (z.B.L.map eC),.sl 1 (z.B.R.map eR),.sl 1 (z.K.map eS)]:=rfl
def fitsD (z:Dc):Bool:=shortK z.K && (fewT z.A && (fewT z.B && decide (z.K.length≤12)))
open Go
set_option linter.unusedSimpArgs false
set_option linter.unusedVariables false
structure Ch where
 k:Int
 o:List Vl
 n:List Vl
def eCh (c:Ch):List DV:=[.v (.int .i64 c.k),.sl 4 (c.o.map eV),.sl 4 (c.n.map eV)]
@[push_cast] theorem eCh_eq (c:Ch):eCh c=[.v (.int .i64 c.k),.sl 4 (c.o.map eV),.sl 4 (c.n.map eV)]:=rfl
def eRCh (c:Ch):List DV:=[.v (.int .i64 c.k),.sl 4 (c.o.map eRV),.sl 4 (c.n.map eRV)]
@[push_cast] theorem eRCh_eq (c:Ch):eRCh c=[.v (.int .i64 c.k),.sl 4 (c.o.map eRV),.sl 4 (c.n.map eRV)]:=rfl
def sameC (a b:Cl):Bool:=decide (a.name=b.name) && (decide (a.kind=b.kind) && (a.null == b.null))
def sameCL:List Cl→List Cl→Bool
 | [],_=>true
 | a::l,m=>match m with
  | []=>true
  | b::m=>if sameC a b=false then false else sameCL l m
def sameCs (a b:List Cl):Bool:=decide (a.length=b.length) && sameCL a b
theorem sameC_iff {a b:Cl}:sameC a b=true↔a=b:=by
 obtain ⟨n,k,z⟩:=a
 obtain ⟨n',k',z'⟩:=b
 simp only [sameC,Bool.and_eq_true,decide_eq_true_eq,beq_iff_eq,Cl.mk.injEq]
theorem sameCL_iff:∀ {a b:List Cl},a.length=b.length→(sameCL a b=true↔a=b)
 | [],[],_=>by simp [sameCL]
 | x::a,y::b,h=>by
  have ih:=sameCL_iff (a:=a) (b:=b) (by simpa using h)
  simp only [sameCL,List.cons.injEq,← sameC_iff,← ih]
  cases sameC x y<;>simp
theorem sameCs_iff {a b:List Cl}:sameCs a b=true↔a=b:=by
 unfold sameCs
 constructor
 ·intro h
  simp only [Bool.and_eq_true,decide_eq_true_eq] at h
  exact (sameCL_iff h.1).1 h.2
 ·rintro rfl
  simp [(sameCL_iff rfl).2 rfl]
theorem sameC_r (a b:Cl):(decide (a.name=b.name) && (decide (a.kind=b.kind) && decide (bi a.null=bi b.null)))=sameC a b:=by
 simp only [sameC]
 congr 2
 cases a.null<;>cases b.null<;>rfl
def chgF (ps:List Nat) (B:List (List Vl)) (r:List Vl):List Ch:=match B.find? (fun x=>alikeF ps r x) with
 | none=>[⟨1,r,[]⟩]
 | some x=>if sameR r x=true then [] else [⟨2,r,x⟩]
def goneF (ps:List Nat) (A B:List (List Vl)):List Ch:=A.flatMap (chgF ps B)
def newF (ps:List Nat) (A:List (List Vl)) (B:List (List Vl)):List Ch:=(B.filter fun r=>!(A.any fun x=>alikeF ps x r)).map fun r=>⟨3,[],r⟩
def diffF (ps:List Nat) (A B:List (List Vl)):List Ch:=goneF ps A B++newF ps A B
def diffC (a b:Tb) (ks:List ByteArray):List Ch × Int :=
 if sameCs a.L b.L=false then ([],21) else if (tabF a ks).2≠0 then ([],(tabF a ks).2) else if (tabF b ks).2≠0 then ([],(tabF b ks).2)
 else (diffF (placesN a.L ks) a.R b.R,0)
theorem alike_symm (ps:List Nat) (a b:List Vl):alikeF ps a b=alikeF ps b a:=by
 rw [Bool.eq_iff_iff,alike_iff,alike_iff]
 exact ⟨fun h p hp=>(h p hp).symm,fun h p hp=>(h p hp).symm⟩
theorem alike_trans {ps:List Nat} {a b c:List Vl} (h:alikeF ps a b=true) (k:alikeF ps b c=true):alikeF ps a c=true :=
 alike_iff.2 fun p hp=>(alike_iff.1 h p hp).trans (alike_iff.1 k p hp)
/-! ### Rows by their marks -/
def byMark (ps:List Nat) (B:List (List Vl)):List (ByteArray × DV):=B.map fun x=>(markF [] x ps,.sl 4 (x.map eV))
/-! ### Lists of changes -/
def oneC (a b:Ch):Bool:=decide (a.k=b.k) && (sameR a.o b.o && sameR a.n b.n)
def oneCL:List Ch→List Ch→Bool
 | [],_=>true
 | a::l,m=>match m with
  | []=>true
  | b::m=>if oneC a b=false then false else oneCL l m
def oneCs (a b:List Ch):Bool:=decide (a.length=b.length) && oneCL a b
def chgR (ps:List Nat) (B:List (List Vl)) (r:List Vl):List Ch:=(B.flatMap fun x=>if alikeF ps r x=true then (if sameR r x=true then [] else [⟨2,r,x⟩]) else [])++(if (B.any fun x=>alikeF ps r x)=true then [] else [⟨1,r,[]⟩])
theorem flatMap_nil {α β:Type} {f:α→List β}:∀ {l:List α},(∀ x∈l,f x=[])→l.flatMap f=[]
 | [],_=>rfl
 | x::l,h=>by rw [List.flatMap_cons,h x (by simp),flatMap_nil fun y hy=>h y (by simp [hy])];rfl
def goneR (ps:List Nat) (A B:List (List Vl)):List Ch:=A.flatMap (chgR ps B)
def newR (ps:List Nat) (A B:List (List Vl)):List Ch:=(B.filter fun r=>!(A.any fun x=>alikeF ps r x)).map fun r=>⟨3,[],r⟩
def midR (ps:List Nat) (r:List Vl) (B:List (List Vl)):List Ch:=B.flatMap fun x=>if alikeF ps r x=true then (if sameR r x=true then [] else [⟨2,r,x⟩]) else []
theorem any_succ {α:Type} {p:α→Bool} {l:List α} {k:Nat} {x:α} (h:l[k]?=some x):(l.take (k+1)).any p=((l.take k).any p || p x):=by
 rw [List.take_add_one,h,List.any_append]
 simp
def withinF (a b:List Ch):Bool:=a.all fun x=>b.any fun y=>oneC x y
def turnA (l:List Ch):List Ch:=l.flatMap fun c=>if c.k=1 then [] else if c.k=3 then [⟨1,c.n,c.o⟩] else [⟨c.k,c.n,c.o⟩]
def turnB (l:List Ch):List Ch:=l.flatMap fun c=>if c.k=1 then [⟨3,c.n,c.o⟩] else []
def turnF (l:List Ch):List Ch:=turnA l++turnB l
def okChs (l:List Ch):Prop:=okLen l∧∀ c∈l,okR2 c.o∧okR2 c.n
/-! ### Tables that are given -/
def okV2b (v:Vl):Bool:=decide (v.s.size≤1099511627776) && (decide (-9223372036854775808≤v.n) && decide (v.n≤9223372036854775807))
def okR2b (r:List Vl):Bool:=decide (r.length≤1099511627776) && r.all okV2b
def okT0b (t:Tb):Bool:=decide (t.L.length≤1099511627776) && ((t.L.all fun c=>decide (c.name.size≤1099511627776)) && (decide (t.R.length≤1099511627776) && t.R.all okR2b))
def okT2b (t:Tb):Bool:=okT0b t && t.R.all fun r=>r.all rightF
theorem okV2_of {v:Vl} (h:okV2b v=true):okV2 v:=by
 simp only [okV2b,Bool.and_eq_true,decide_eq_true_eq] at h
 exact ⟨h.1,h.2.1,h.2.2⟩
theorem okR2_of {r:List Vl} (h:okR2b r=true):okR2 r:=by
 simp only [okR2b,Bool.and_eq_true,decide_eq_true_eq,List.all_eq_true] at h
 exact ⟨h.1,fun v hv=>okV2_of (h.2 v hv)⟩
theorem okT0_of {t:Tb} (h:okT0b t=true):okT0 t:=by
 simp only [okT0b,Bool.and_eq_true,decide_eq_true_eq,List.all_eq_true] at h
 exact ⟨⟨h.1,h.2.1⟩,h.2.2.1,fun r hr=>okR2_of (h.2.2.2 r hr)⟩
theorem okT2_of {t:Tb} (h:okT2b t=true):okT2 t:=by
 simp only [okT2b,Bool.and_eq_true,List.all_eq_true] at h
 have h0:=okT0_of h.1
 exact ⟨h0.l,h0.r,h0.v,h.2⟩
open Go
set_option linter.unusedSimpArgs false
set_option linter.unusedVariables false
def lostF (ps:List Nat) (A B:List (List Vl)):List (List Vl):=A.filter fun r=>!(B.any fun x=>alikeF ps r x)
def pairF (ps:List Nat) (r x:List Vl):List Ch:=if alikeF ps r x=true then (if sameR r x=true then [] else [⟨2,r,x⟩]) else []
open Go
set_option linter.unusedSimpArgs false
set_option linter.unusedVariables false
def oneP (n:Nat) (ps:List Nat) (c:Ch):Int :=
 if (c.k<1∨3<c.k)∨(c.k=3∧0<c.o.length)∨(c.k=1∧0<c.n.length) then 22
 else if (c.k≠3∧c.o.length≠n)∨(c.k≠1∧c.n.length≠n) then 10
 else if (c.k≠3∧nullF ps c.o=true)∨(c.k≠1∧nullF ps c.n=true) then 20
 else if c.k=2∧alikeF ps c.o c.n=false then 21 else 0
def onesP (n:Nat) (ps:List Nat):List Ch→Nat→Nat × Int
 | [],k=>(k,0)
 | c::cs,k=>if oneP n ps c≠0 then (k,oneP n ps c) else onesP n ps cs (k+1)
def checkP (l:List Cl) (ks:List ByteArray) (cs:List Ch):Nat × Int :=
 if (tabF ⟨l,[]⟩ ks).2≠0 then (0,(tabF ⟨l,[]⟩ ks).2) else onesP l.length (placesN l ks) cs 0
structure RightC (n:Nat) (ps:List Nat) (c:Ch):Prop where
 k:c.k=1∨c.k=2∨c.k=3
 o3:c.k=3→c.o=[]
 n1:c.k=1→c.n=[]
 o:c.k≠3→c.o.length=n∧nullF ps c.o=false
 n':c.k≠1→c.n.length=n∧nullF ps c.n=false
 two:c.k=2→alikeF ps c.o c.n=true
def keyC (c:Ch):List Vl:=if c.k=3 then c.n else c.o
theorem RightC.key {n:Nat} {ps:List Nat} {c:Ch} (h:RightC n ps c):(keyC c).length=n∧nullF ps (keyC c)=false:=by
 unfold keyC
 split
 ·rename_i e;exact h.n' (by omega)
 ·rename_i e;exact h.o e
def errP (ps:List Nat) (rows:List (List Vl)) (c:Ch):Int:=match rows.find? fun r=>alikeF ps r (keyC c) with
 | some r=>if c.k=3 then 15 else if sameR r c.o=true then 0 else 23
 | none=>if c.k=3 then 0 else 25
def nextP (ps:List Nat) (rows:List (List Vl)) (c:Ch):List (List Vl) :=
 if c.k=3 then rows++[c.n] else rows.flatMap fun r=>if alikeF ps r c.o=true then (if c.k=2 then [c.n] else []) else [r]
def runP (ps:List Nat):List Ch→List (List Vl)→Nat→List (List Vl) × Nat × Int
 | [],rows,k=>(rows,k,0)
 | c::cs,rows,k=>if errP ps rows c≠0 then ([],k,errP ps rows c) else runP ps cs (nextP ps rows c) (k+1)
def applyF (t:Tb) (ks:List ByteArray) (cs:List Ch):List (List Vl) × Nat × Int :=
 if (tabF t ks).2≠0 then ([],0,(tabF t ks).2) else if (checkP t.L ks cs).2≠0 then ([],checkP t.L ks cs) else runP (placesN t.L ks) cs t.R 0
def togF (s:Bool × Ch) (c:Ch):Option (Bool × Ch) :=
 if s.1=false then some (true,c)
 else if sameR s.2.n c.o=false then none
 else if (s.2.k=1∧c.k=3)∨(s.2.k=2∧c.k=2) then (if sameR s.2.o c.n=true then some (false,⟨0,[],[]⟩) else some (true,⟨2,s.2.o,c.n⟩))
 else if s.2.k=2∧c.k=1 then some (true,⟨1,s.2.o,[]⟩)
 else if s.2.k=3∧c.k=2 then some (true,⟨3,[],c.n⟩)
 else if s.2.k=3∧c.k=1 then some (false,⟨0,[],[]⟩)
 else none
def twoF (x y:Ch):Ch × Int :=
 if x.k=1∧y.k=3 then (if sameR x.o y.n=true then (⟨0,[],[]⟩,0) else (⟨2,x.o,y.n⟩,0))
 else if (x.k=1∨y.k=3)∨sameR x.n y.o=false then (⟨0,[],[]⟩,23)
 else if x.k=3∧y.k=1 then (⟨0,[],[]⟩,0)
 else if x.k=3 then (⟨3,[],y.n⟩,0)
 else if y.k=1 then (⟨1,x.o,[]⟩,0)
 else if sameR x.o y.n=true then (⟨0,[],[]⟩,0)
 else (⟨2,x.o,y.n⟩,0)
abbrev Sl:=List Vl × Bool × Ch
def slotI (ps:List Nat) (r:List Vl):List Sl→Option Nat
 | []=>none
 | s::zs=>if alikeF ps s.1 r=true then some 0 else (slotI ps r zs).map (·+1)
def sl0:Sl:=([],false,⟨0,[],[]⟩)
def slotF (ps:List Nat) (zs:List Sl) (c:Ch):Option (List Sl):=match slotI ps (keyC c) zs with
 | some i=>(togF (zs.getD i sl0).2 c).map fun s=>zs.set i ((zs.getD i sl0).1,s)
 | none=>some (zs++[(keyC c,true,c)])
def slotsF (ps:List Nat):List Sl→List Ch→Nat→List Sl × Nat × Int
 | zs,[],k=>(zs,k,0)
 | zs,c::cs,k=>match slotF ps zs c with
  | none=>([],k,23)
  | some zs=>slotsF ps zs cs (k+1)
def outS (zs:List Sl):List Ch:=(zs.flatMap fun s=>if s.2.1=true∧s.2.2.k≠3 then [s.2.2] else [])++zs.flatMap fun s=>if s.2.1=true∧s.2.2.k=3 then [s.2.2] else []
def compF (l:List Cl) (ks:List ByteArray) (x y:List Ch):List Ch × Nat × Int :=
 if (checkP l ks x).2≠0 then ([],checkP l ks x)
 else if (checkP l ks y).2≠0 then ([],x.length+(checkP l ks y).1,(checkP l ks y).2)
 else if (slotsF (placesN l ks) [] (x++y) 0).2.2≠0 then ([],(slotsF (placesN l ks) [] (x++y) 0).2)
 else (outS (slotsF (placesN l ks) [] (x++y) 0).1,(outS (slotsF (placesN l ks) [] (x++y) 0).1).length,0)
def rightC (c:Ch):Prop:=(∀ v∈c.o,rightF v=true)∧∀ v∈c.n,rightF v=true
def shortC (c:Ch):Bool:=smallF [c.o,c.n] && fewT ⟨[],[c.o,c.n]⟩
def shortCs (cs:List Ch):Bool:=cs.all shortC && decide (cs.length≤12)
structure Pc where
 T:Tb
 K:List ByteArray
 X:List Ch
 Y:List Ch
def ePc (z:Pc):List DV:=[.sl 3 (z.T.L.map eC),.sl 1 (z.T.R.map eR),.sl 1 (z.K.map eS),.sl 3 (z.X.map eCh),.sl 3 (z.Y.map eCh)]
@[push_cast] theorem ePc_eq (z:Pc):ePc z=[.sl 3 (z.T.L.map eC),.sl 1 (z.T.R.map eR),.sl 1 (z.K.map eS),.sl 3 (z.X.map eCh),.sl 3 (z.Y.map eCh)]:=rfl
def fitsP (z:Pc):Bool:=(fitsD ⟨z.T,⟨[],[]⟩,z.K⟩ && shortCs z.X) && shortCs z.Y
open Go
set_option linter.unusedSimpArgs false
set_option linter.unusedVariables false
abbrev Zr:=List Vl × Bool
def liveR (zs:List Zr):List (List Vl):=zs.flatMap fun z=>if z.2=true then [] else [z.1]
def AtZ (ps:List Nat) (zs:List Zr) (x:List Vl) (i:Nat):Prop:=∃ r,zs[i]?=some (r,false)∧alikeF ps r x=true
def ApZ (ps:List Nat) (zs:List Zr):Prop:=∀ (i j:Nat) (r s:List Vl),zs[i]?=some (r,false)→zs[j]?=some (s,false)→alikeF ps r s=true→i=j
theorem ApZ.at {ps:List Nat} {zs:List Zr} (h:ApZ ps zs) {x:List Vl} {i j:Nat} (hi:AtZ ps zs x i) (hj:AtZ ps zs x j):i=j:=by
 obtain ⟨r,h1,h2⟩:=hi
 obtain ⟨s,h3,h4⟩:=hj
 exact h i j r s h1 h3 (alike_trans h2 (by rw [alike_symm];exact h4))
theorem AtZ.congr {ps:List Nat} {zs:List Zr} {x y:List Vl} {i:Nat} (h:AtZ ps zs x i) (hxy:alikeF ps x y=true):AtZ ps zs y i:=by
 obtain ⟨r,h1,h2⟩:=h
 exact ⟨r,h1,alike_trans h2 hxy⟩
def eIx (i:Nat):DV:=.v (.int .i64 i)
structure MapZ (ps:List Nat) (zs:List Zr) (es:List (ByteArray × DV)):Prop where
 nodup:(keysM es).Nodup
 yes:∀ x,(∀ v∈x,rightF v=true)→∀ i,AtZ ps zs x i→mget es (markF [110] x ps)=some (eIx i)
 no:∀ x,(∀ v∈x,rightF v=true)→(∀ i,¬ AtZ ps zs x i)→mget es (markF [110] x ps)=none
section
variable {ps:List Nat} {zs:List Zr} {es:List (ByteArray × DV)}
end
def eZ (zs:List Zr):List (List DV):=zs.map fun z=>eR z.1
def gZ (zs:List Zr):List (List DV):=zs.map fun z=>[.v (.bool z.2)]
end Go.LS
