/- Part DE: 4 texts,one behind the other. -/
import Derived.Test.YtfmbjaeppffdpaaGreatDoorDC
import Derived.Test.YtfmbjaeppffdpaaGreatDoorDS
import Derived.Test.YtfmbjaeppffdpaaGreatDoorE3
import Derived.Test.YtfmbjaeppffdpaaGreatDoorPG
namespace Go.LS.Tryz
open Go Go.LS
set_option maxRecDepth 100000
@[push_cast] def lv0DE:Nat→Option (List Nat):=fun|0=>some [0,1,4]|1=>some [0,1,4,9]|2=>some [0,1,4]|3=>some [0,1,4,5]|4=>some [0,1,4,5,6]|5=>some [0,1,4,5,6,17]|6=>some [0,1,4,5,6]|7=>some [0,1,4,5,6,27]|8=>some [0,1,4,5,6]|9=>some [4]|_=>none
set_option linter.unusedSimpArgs false
set_option linter.unusedVariables false
set_option maxHeartbeats 2000000 in
theorem d112 (B:List (List Vl)) (ps:List Nat) (hB:B.length≤100000) (hr:∀ r∈B,∀ v∈r,okV2 v) (hp:ps.length≤64) (hlt:∀ r∈B,∀ p∈ps,p<r.length) :
  Spec V 99 [.c (.d (.sl 1 (B.map eR))),.c (.d (.sl 1 (ps.map eJ)))] (.c (.d (.sl 1 ((partC ps B).map eRs)))):=by
 have h126:=fun r (h:r∈B)=>d126 r ps (fun v hv=>(hr r h v hv).1) (fun v hv=>(hr r h v hv).2) hp (hlt r h)
 (refine of3 ?_;refine Spec.of_go (V:=V3) (L:=fun|0=>some [0,1]|1=>some [0,1,14]|2=>some [4]|3=>some [0,1,5]|4=>some [0,1,5,6]|5=>some [1,5,6,18,19,20]|6=>some [1,5,6,18,19,20,21]|7=>some [1,5,6,8,18,19,20]|8=>some [1,5,6,8,9,18,19,20]|9=>some [1,5,6,8,9,10,11,18,19,20]|10=>some [1,5,6,8,9,10,18,19,20,34]|11=>some [1,5,6,8,9,10,18,19,20]|12=>some [1,5,6,8,10,18,19,20]|13=>some [1,5,6,8,10,18,19,20]|14=>some [1,5,6,18,19,20]|15=>some [1,5,6,18,19,20]|16=>some [4]|_=>none) 1000 Go.Proofs.Tryz.func99 rfl rfl ⟨Nat.le_of_ble_eq_true rfl,rfl⟩ rfl ?_;unfold Go.Proofs.Tryz.f99;push_cast (maxSteps:=mS))
 by_cases h0:ps.length=0
 ·rw [show partC ps B=[B] by unfold partC;rw [if_pos h0]]
  (try push_cast (maxSteps:=mS) [h0])
 ·rw [show partC ps B=partG ps B by unfold partC;rw [if_neg h0]]
  have h0':decide ((ps.length:Int)=0)=false:=decide_eq_false (by omega)
  (try push_cast (maxSteps:=mS) [h0'])
  refine LoopK.le (Le.nil 5 23 1 (by decide) (by (try push_cast (maxSteps:=mS)))) ?_
  (try push_cast (maxSteps:=mS))
  refine LoopK.ovl (α:=Nat × List (List DV) × List OB × (Nat→Nat)) [20] (fun s=>[i2 .i64 s.1]) (fun s=>.mp (ixM (marksG ps (B.take s.1)) 0)::.rw 23 1 s.2.1::s.2.2.1) (fun s=>s.1≤B.length∧HdP 28 ps (B.take s.1) s.2.1 s.2.2.1 s.2.2.2) (fun s=>B.length - s.1) 1000 (0,[],[],fun _=>0) ⟨by simp,HdP.start 28 ps⟩ (by (try push_cast (maxSteps:=mS))<;>first|rfl|exact ⟨rfl,rfl⟩|exact ⟨rfl,rfl,rfl⟩|trivial) ?_
  rintro ⟨k,hs,rs,J⟩ ⟨hk1,hM⟩
  simp only at hk1 hM
  by_cases hltk:k<B.length
  ·refine ⟨_,Le.refl _,?_⟩
   have hv:=List.getElem?_eq_getElem hltk
   have hd:decide ((k:Int)<(B.length:Int))=true:=decide_eq_true (by omega)
   have htk:B.take (k+1)=B.take k++[B[k]]:=by rw [List.take_add_one,hv];rfl
   have hlk:(B.take k).length=k:=by rw [List.length_take];omega
   have h126k:=h126 _ (List.getElem_mem hltk)
   generalize B[k]=y at *
   have fM:=flat_mapOB hM.flat
   have fN:=fun k=>flat_noO (k:=k) hM.flat
   have hml:=marks_len ps (B.take k)
   rw [hlk] at hml
   have hmg:=mget_ixM (mkG ps y) (marksG ps (B.take k)) 0
   (try push_cast (maxSteps:=mS) [hd,getD_map hv])
   ((repeat' with_reducible refine And.intro ?_ ?_)<;>try exact sz)
   refine ⟨_,to3 h126k,rfl,?_⟩
   cases hm:memB (mkG ps y) (marksG ps (B.take k)) with
   | false =>
    rw [hm,if_neg (by simp)] at hmg
    have hms:=mset_ixM (mkG ps y) (marksG ps (B.take k)) 0 (hs.length:Int) hm (by rw [hM.len];simp)
    have hgl:(hs++[[DV.v (.slice none 0 0)]]).getD hs.length []=[.v (.slice none 0 0)]:=by simp
    have hst:∀ x y:List DV,(hs++[y]).set hs.length x=hs++[x]:=fun x y=>by simp
    have hlx:((hs++[[DV.v (.slice none 0 0)]]).length:Int)=(hs.length:Int)+1:=by simp
    have hT1:flatR (rs++[OB.rw 23 1 [[DV.v (.slice none 0 0)]]]):=flat_append hM.flat (fun o ho=>by rw [List.mem_singleton.1 ho];trivial)
    have hq1:∀ g,(rs++[OB.rw 23 1 [[DV.v (.slice none 0 0)]]]).map (mapOB g)=rs++[OB.rw 23 1 [[DV.v (.slice none 0 0)]]]:=fun g=>flat_mapOB hT1 g
    have hhl:=hM.len
    (try push_cast (maxSteps:=mS) [hmg,hms,List.getElem?_concat_length,hgl,hst,hq1,hlx])
    ((repeat' with_reducible refine And.intro ?_ ?_)<;>try exact sz)
    all_goals (try omega)
    intro g' cap'
    have hfl:flatR [OB.rw 23 1 [[DV.v (.slice none 0 0)]],OB.rw 28 1 [[.sl 4 (y.map eV)]]]:=by
     intro o ho
     rcases List.mem_cons.1 ho with rfl|ho
     ·trivial
     ·rw [List.mem_singleton.1 ho];trivial
    have hM2:=hM.new hm [.rw 23 1 [[.v (.slice none 0 0)]],.rw 28 1 [[.sl 4 (y.map eV)]]] hfl g' cap'
    have hmk:=marks_snoc ps (B.take k) y
    rw [if_neg (by simp [hm])] at hmk
    rw [← htk] at hM2 hmk
    have hlx':hs.length<(hs++[[DV.v (.slice none 0 0)]]).length:=by simp
    (try push_cast (maxSteps:=mS) [hst,hlx])
    refine ⟨⟨by omega,by omega⟩,hlx',inK64 (by omega) (by omega),?_⟩
    refine ⟨(k+1,_,_,_),⟨by simp only;omega,hM2⟩,by simp only;omega,Le.st ?_⟩
    (try push_cast (maxSteps:=mS) [hmk,List.append_assoc])
    refine ⟨List.take_length,?_,flat_refs hM2.flat⟩
    simp only [Bool.and_eq_true,Nat.blt_eq];omega
   | true =>
    rw [hm,if_pos rfl] at hmg
    obtain ⟨i,hil,hat,hi⟩:=atI_mem (k:=0) hm
    obtain ⟨g,cap,hg,hj⟩:=hM.at_ i _ hi
    have hgi:hs.getD i []=[hdD g (selG ps (B.take k) (mkG ps y)).length cap]:=by rw [List.getD_eq_getElem?_getD,hg];rfl
    rw [hat,Nat.zero_add] at hmg
    have hil':i<hs.length:=by rw [hM.len];exact hil
    have hhl:=hM.len
    have hjl:=hM.lt hil
    have hml:=sel_len ps (B.take k) (mkG ps y)
    rw [hlk] at hml
    (try push_cast (maxSteps:=mS) [hmg,hgi,List.getElem?_concat_length])
    ((repeat' with_reducible refine And.intro ?_ ?_)<;>try exact sz)
    all_goals (try (simp only [maxLen];omega))
    refine ⟨J i+2,_,by simp only [List.getElem?_cons_succ];rw [List.getElem?_append_left hjl];exact hj,by rw [List.length_map],by omega,flat_noO (flat_append hM.flat (fun o ho=>by rw [List.mem_singleton.1 ho];trivial)),fun g' cap'=>?_⟩
    have hM2:=hM.old hi [.rw 28 1 [[.sl 4 (y.map eV)]]] (fun o ho=>by rw [List.mem_singleton.1 ho];trivial) g' cap'
    have hmk:=marks_snoc ps (B.take k) y
    rw [if_pos hm] at hmk
    rw [← htk] at hM2 hmk
    (try push_cast (maxSteps:=mS) [hgi,List.length_map,List.length_append])
    ((repeat' with_reducible refine And.intro ?_ ?_)<;>try exact sz)
    refine ⟨(k+1,_,_,_),⟨by simp only;omega,hM2⟩,by simp only;omega,Le.st ?_⟩
    (try push_cast (maxSteps:=mS) [hmk,List.length_map,List.length_append])
    refine ⟨List.take_length,?_,flat_refs hM2.flat⟩
    simp only [Bool.and_eq_true,Nat.blt_eq];omega
  ·obtain rfl:k=B.length:=by omega
   rw [List.take_length] at hM
   refine ⟨⟨[(20,i2 .i64 B.length),(5,.c (.os 1)),(19,i2 .i64 B.length),(18,.c (.d (.sl 1 (B.map eR)))),(6,.c (.om 0)),(1,.c (.d (.sl 1 (ps.map eJ))))],[.mp (ixM (marksG ps B) 0),.rw 23 1 ((partG ps B).map eRs)]⟩,?_,?_⟩
   ·refine Le.trans (Le.outx 1 (o:=.rw 23 1 hs) (o':=.rw 23 1 ((partG ps B).map eRs)) rfl (.inl ⟨23,1,hs,_,rfl,rfl,hM.fz (fun j o h=>⟨j+2,by simpa using h⟩)⟩)) (Le.st ?_)
    (try push_cast (maxSteps:=mS))
    rw [List.take_length]
    exact ⟨rfl,rfl⟩
   ·have hdk:decide ((B.length:Int)<(B.length:Int))=false:=decide_eq_false (by omega)
    (try push_cast (maxSteps:=mS) [hdk])
    all_goals trace_state
theorem d129 (a b:Vl):Spec V 121 [.ag ((eV a).map .d),.ag ((eV b).map .d)] (i2 .i64 (cmpF a b)):=f75 a b
theorem d128 (v:Vl) (l:List Vl) (hl:l.length≤1000000):Spec V 137 [.c (.d (.sl 4 ((v::l).map eV))),.c (.d (.clo 121 []))] (.ag ((eV (bestV (1) l v)).map .d)):=by
 have hd0:decide (((v::l).length:Int)<1)=false:=decide_eq_false (by simp only [List.length_cons];omega)
 obtain ⟨q,hq⟩:∃ q,q=v::l:=⟨_,rfl⟩
 have hql:q.length=l.length+1:=by rw [hq];rfl
 have hq0:q[0]?=some v:=by rw [hq];rfl
 rw [← hq] at hd0 ⊢
 (refine Spec.of_go (L:=lv0DE) 1000 Go.Proofs.Tryz.func137 rfl rfl ⟨Nat.le_of_ble_eq_true rfl,rfl⟩ rfl ?_;unfold Go.Proofs.Tryz.f137;push_cast (maxSteps:=mS))
 (try push_cast (maxSteps:=mS) [hd0,getD_map hq0])
 ((repeat' with_reducible refine And.intro ?_ ?_)<;>try exact sz)
 refine LoopK.ov (α:=Nat × Vl) [6] (fun s=>[i2 .i64 ((s.1:Int)+1)]) (fun s=>[.bx 27 [.d (.v (.int .i64 0)),.d (.v (.string ByteArray.empty)),.d (.v (.int .i64 0)),.d (.v (.bool false))],.bx 27 ((eV s.2).map .d)]) (fun s=>s.1≤l.length∧bestV (1) (l.drop s.1) s.2=bestV (1) l v) (fun s=>l.length - s.1) 1000 (0,v) ⟨by simp,rfl⟩ (by (try push_cast (maxSteps:=mS))<;>first|rfl|exact ⟨rfl,rfl⟩|trace_state) ?_
 rintro ⟨k,m⟩ ⟨hk,hc⟩
 simp only at hk hc
 by_cases hlt:k<l.length
 ·have hv:=List.getElem?_eq_getElem hlt
  have hd:decide ((k:Int)+1<(q.length:Int))=true:=decide_eq_true (by omega)
  have hqk:q[k+1]?=some l[k]:=by rw [hq,List.getElem?_cons_succ];exact hv
  rw [drop_cons hv] at hc
  simp only [bestV] at hc
  have h129:=d129 l[k] m
  generalize l[k]=x at *
  have hci:(q.map eV).getD (k+1) []=eV x:=getD_map hqk
  have hT:((k:Int)+1).toNat=k+1:=by omega
  obtain ⟨xk,xs,xn,xb⟩:=x
  obtain ⟨mk,ms,mn,mb⟩:=m
  simp only [eV_eq] at h129 hci hc ⊢
  generalize hcm:cmpF ⟨xk,xs,xn,xb⟩ ⟨mk,ms,mn,mb⟩=c at *
  cases hb:decide (c<0) with
  | true =>
   rw [if_pos (by have:=of_decide_eq_true hb;omega)] at hc
   (try push_cast (maxSteps:=mS) [hd,hT,hci])
   (refine DrawK.of (.take 0 (.take 1 (.take 2 (.take 3 (.take 4 (.take 5 (.one 6 (.take 7 .done)))))))) 1000 (by decide +kernel) ?_;try (push_cast (maxSteps:=mS)))
   (try push_cast (maxSteps:=mS) [hT,hci])
   ((repeat' with_reducible refine And.intro ?_ ?_)<;>try exact sz)
   all_goals (refine ⟨_,h129,rfl,?_⟩)
   all_goals (try push_cast (maxSteps:=mS) [hT,hci,hb])
   all_goals ((repeat' with_reducible refine And.intro ?_ ?_)<;>try exact sz)
   all_goals (try push_cast (maxSteps:=mS) [hT,hci])
   all_goals ((repeat' with_reducible refine And.intro ?_ ?_)<;>try exact sz)
   all_goals (first|omega|(refine ⟨(k+1,⟨xk,xs,xn,xb⟩),⟨by simp only;omega,hc⟩,by simp only;omega,Le.st ?_⟩;(try push_cast (maxSteps:=mS) [hT,hci])))
   all_goals rfl
  | false =>
   rw [if_neg (by have:=of_decide_eq_false hb;omega)] at hc
   (try push_cast (maxSteps:=mS) [hd,hT,hci])
   (refine DrawK.of (.take 0 (.take 1 (.take 2 (.take 3 (.take 4 (.take 5 (.one 6 (.take 7 .done)))))))) 1000 (by decide +kernel) ?_;try (push_cast (maxSteps:=mS)))
   (try push_cast (maxSteps:=mS) [hT,hci])
   ((repeat' with_reducible refine And.intro ?_ ?_)<;>try exact sz)
   all_goals (refine ⟨_,h129,rfl,?_⟩)
   all_goals (try push_cast (maxSteps:=mS) [hT,hci,hb])
   all_goals ((repeat' with_reducible refine And.intro ?_ ?_)<;>try exact sz)
   all_goals (first|omega|(refine ⟨(k+1,⟨mk,ms,mn,mb⟩),⟨by simp only;omega,hc⟩,by simp only;omega,Le.st ?_⟩;(try push_cast (maxSteps:=mS) [hT,hci])))
   all_goals rfl
 ·have hd:decide ((k:Int)+1<(q.length:Int))=false:=decide_eq_false (by omega)
  rw [List.drop_eq_nil_of_le (by omega)] at hc
  simp only [bestV] at hc
  (try push_cast (maxSteps:=mS) [hd])
  rw [← hc]
  exact ⟨rfl,rfl,rfl,rfl⟩
theorem d130 (v:Vl) (l:List Vl) (hl:l.length≤1000000):Spec V 138 [.c (.d (.sl 4 ((v::l).map eV))),.c (.d (.clo 121 []))] (.ag ((eV (bestV (-1) l v)).map .d)):=by
 have hd0:decide (((v::l).length:Int)<1)=false:=decide_eq_false (by simp only [List.length_cons];omega)
 obtain ⟨q,hq⟩:∃ q,q=v::l:=⟨_,rfl⟩
 have hql:q.length=l.length+1:=by rw [hq];rfl
 have hq0:q[0]?=some v:=by rw [hq];rfl
 rw [← hq] at hd0 ⊢
 (refine Spec.of_go (L:=lv0DE) 1000 Go.Proofs.Tryz.func138 rfl rfl ⟨Nat.le_of_ble_eq_true rfl,rfl⟩ rfl ?_;unfold Go.Proofs.Tryz.f138;push_cast (maxSteps:=mS))
 (try push_cast (maxSteps:=mS) [hd0,getD_map hq0])
 ((repeat' with_reducible refine And.intro ?_ ?_)<;>try exact sz)
 refine LoopK.ov (α:=Nat × Vl) [6] (fun s=>[i2 .i64 ((s.1:Int)+1)]) (fun s=>[.bx 27 [.d (.v (.int .i64 0)),.d (.v (.string ByteArray.empty)),.d (.v (.int .i64 0)),.d (.v (.bool false))],.bx 27 ((eV s.2).map .d)]) (fun s=>s.1≤l.length∧bestV (-1) (l.drop s.1) s.2=bestV (-1) l v) (fun s=>l.length - s.1) 1000 (0,v) ⟨by simp,rfl⟩ (by (try push_cast (maxSteps:=mS))<;>first|rfl|exact ⟨rfl,rfl⟩|trace_state) ?_
 rintro ⟨k,m⟩ ⟨hk,hc⟩
 simp only at hk hc
 by_cases hlt:k<l.length
 ·have hv:=List.getElem?_eq_getElem hlt
  have hd:decide ((k:Int)+1<(q.length:Int))=true:=decide_eq_true (by omega)
  have hqk:q[k+1]?=some l[k]:=by rw [hq,List.getElem?_cons_succ];exact hv
  rw [drop_cons hv] at hc
  simp only [bestV] at hc
  have h129:=d129 l[k] m
  generalize l[k]=x at *
  have hci:(q.map eV).getD (k+1) []=eV x:=getD_map hqk
  have hT:((k:Int)+1).toNat=k+1:=by omega
  obtain ⟨xk,xs,xn,xb⟩:=x
  obtain ⟨mk,ms,mn,mb⟩:=m
  simp only [eV_eq] at h129 hci hc ⊢
  generalize hcm:cmpF ⟨xk,xs,xn,xb⟩ ⟨mk,ms,mn,mb⟩=c at *
  cases hb:decide (0<c) with
  | true =>
   rw [if_pos (by have:=of_decide_eq_true hb;omega)] at hc
   (try push_cast (maxSteps:=mS) [hd,hT,hci])
   (refine DrawK.of (.take 0 (.take 1 (.take 2 (.take 3 (.take 4 (.take 5 (.one 6 (.take 7 .done)))))))) 1000 (by decide +kernel) ?_;try (push_cast (maxSteps:=mS)))
   (try push_cast (maxSteps:=mS) [hT,hci])
   ((repeat' with_reducible refine And.intro ?_ ?_)<;>try exact sz)
   all_goals (refine ⟨_,h129,rfl,?_⟩)
   all_goals (try push_cast (maxSteps:=mS) [hT,hci,hb])
   all_goals ((repeat' with_reducible refine And.intro ?_ ?_)<;>try exact sz)
   all_goals (try push_cast (maxSteps:=mS) [hT,hci])
   all_goals ((repeat' with_reducible refine And.intro ?_ ?_)<;>try exact sz)
   all_goals (first|omega|(refine ⟨(k+1,⟨xk,xs,xn,xb⟩),⟨by simp only;omega,hc⟩,by simp only;omega,Le.st ?_⟩;(try push_cast (maxSteps:=mS) [hT,hci])))
   all_goals rfl
  | false =>
   rw [if_neg (by have:=of_decide_eq_false hb;omega)] at hc
   (try push_cast (maxSteps:=mS) [hd,hT,hci])
   (refine DrawK.of (.take 0 (.take 1 (.take 2 (.take 3 (.take 4 (.take 5 (.one 6 (.take 7 .done)))))))) 1000 (by decide +kernel) ?_;try (push_cast (maxSteps:=mS)))
   (try push_cast (maxSteps:=mS) [hT,hci])
   ((repeat' with_reducible refine And.intro ?_ ?_)<;>try exact sz)
   all_goals (refine ⟨_,h129,rfl,?_⟩)
   all_goals (try push_cast (maxSteps:=mS) [hT,hci,hb])
   all_goals ((repeat' with_reducible refine And.intro ?_ ?_)<;>try exact sz)
   all_goals (first|omega|(refine ⟨(k+1,⟨mk,ms,mn,mb⟩),⟨by simp only;omega,hc⟩,by simp only;omega,Le.st ?_⟩;(try push_cast (maxSteps:=mS) [hT,hci])))
   all_goals rfl
 ·have hd:decide ((k:Int)+1<(q.length:Int))=false:=decide_eq_false (by omega)
  rw [List.drop_eq_nil_of_le (by omega)] at hc
  simp only [bestV] at hc
  (try push_cast (maxSteps:=mS) [hd])
  rw [← hc]
  exact ⟨rfl,rfl,rfl,rfl⟩
theorem some_take {p:Nat} {g:List (List Vl)} {k:Nat} {r:List Vl} {v:Vl} (h:g[k]?=some r) (hv:r[p]?=some v):someV p (g.take (k+1))=someV p (g.take k)++if v.k=0 then [] else [v]:=by
 unfold someV
 rw [List.take_add_one,h,Option.toList_some,List.map_append,List.filter_append,List.map_cons,List.map_nil,vAt_get hv,List.filter_cons,List.filter_nil]
 by_cases e:v.k=0<;>simp [e]
theorem some_len (p:Nat) (g:List (List Vl)):(someV p g).length≤g.length:=by
 unfold someV
 have:=List.length_filter_le (fun v:Vl=>!decide (v.k=0)) (g.map fun r=>vAt r p)
 rwa [List.length_map] at this
theorem some_mem {p:Nat} {g:List (List Vl)} {v:Vl} (hp:∀ r∈g,p<r.length) (h:v∈someV p g):∃ r∈g,v∈r:=by
 unfold someV at h
 obtain ⟨r,hr,rfl⟩:=List.mem_map.1 (List.mem_filter.1 h).1
 refine ⟨r,hr,?_⟩
 have:=hp r hr
 rw [vAt_get (List.getElem?_eq_getElem this)]
 exact List.getElem_mem this
def intsV (l:List Vl):List Int:=(l.filter fun v=>decide (v.k=2)).map fun v=>v.n
theorem ints_take {l:List Vl} {k:Nat} {v:Vl} (h:l[k]?=some v):intsV (l.take (k+1))=intsV (l.take k)++if v.k=2 then [v.n] else []:=by
 unfold intsV
 rw [List.take_add_one,h,Option.toList_some,List.filter_append,List.map_append,List.filter_cons,List.filter_nil]
 by_cases e:v.k=2<;>simp [e]
theorem ints_len (l:List Vl):(intsV l).length≤l.length:=by
 unfold intsV
 rw [List.length_map]
 exact List.length_filter_le _ _
set_option maxHeartbeats 2000000 in
theorem d113 (L:List Cl) (a:Ag) (g:List (List Vl)) (hL:okLen L) (hg:g.length≤100000) (hr:∀ r∈g,∀ v∈r,okV2 v) (hw:a.op≠1→∀ r∈g,placeN L a.col<r.length) :
  Spec V 100 [.ag ((eAg a).map .d),.c (.d (.sl 3 (L.map eC))),.c (.d (.sl 1 (g.map eR)))] (.tu [.ag ((eV (tellG L a g).1).map .d),i2 .i64 (tellG L a g).2]):=by
 have h64:=f62 L a.col hL
 obtain ⟨F,hF⟩:∃ F,F=tellG L a g:=⟨_,rfl⟩
 rw [← hF]
 unfold tellG at hF
 have hpd:(findF a.col L 0).2.1=placeN L a.col:=rfl
 generalize hff:findF a.col L 0=ff at *
 obtain ⟨⟨cn,ck,cz⟩,fp,fo⟩:=ff
 simp only at hpd
 subst hpd
 obtain ⟨op,col,nm⟩:=a
 simp only [eC_eq,eAg_eq] at h64 hF hw ⊢
 have hc127:=fun n=>d127 n
 simp only [eV_eq,intV] at hc127
 (refine Spec.of_go (L:=fun|0=>some [1,2,3,6]|1=>some [1,2,3,6,21]|2=>some [6,7]|3=>some [2,3,6,9]|4=>some [2,3,6,9,35]|5=>some [2,6,9,38]|6=>some [6,7]|7=>some [6,7]|8=>some [2,3,6,9,11]|9=>some [3,6,9,11,46,47,48]|10=>some [3,6,9,11,46,47,48,49]|11=>some [3,6,9,11,13,46,47,48]|12=>some [3,6,9,11,13,46,47,48,57]|13=>some [3,6,9,11,46,47,48]|14=>some [3,6,9,11,46,47,48]|15=>some [3,6,11,66]|16=>some [6,7]|17=>some [3,6,11,73]|18=>some [6,7]|19=>some [3,6,11,78]|20=>some [6,7]|21=>some [6,11,84]|22=>some [6,7]|23=>some [6,11,14]|24=>some [6,14,90,91,92]|25=>some [6,14,90,91,92,93]|26=>some [6,14,16,90,91,92]|27=>some [6,14,16,90,91,92,98]|28=>some [6,14,90,91,92]|29=>some [6,14,90,91,92]|30=>some [6,17,18]|31=>some [6,17,18,111]|32=>some [6,7]|33=>some [6,7]|_=>none) 1000 Go.Proofs.Tryz.func100 rfl rfl ⟨Nat.le_of_ble_eq_true rfl,rfl⟩ rfl ?_;unfold Go.Proofs.Tryz.f100;push_cast (maxSteps:=mS))
 by_cases o1:op=1
 ·rw [if_pos o1] at hF
  subst hF
  (try push_cast (maxSteps:=mS) [o1])
  ((repeat' with_reducible refine And.intro ?_ ?_)<;>try exact sz)
  refine ⟨_,hc127 _,rfl,?_⟩
  (try push_cast (maxSteps:=mS))
  all_goals exact ⟨rfl,rfl,rfl,rfl⟩
 ·rw [if_neg o1] at hF
  have hw:=hw o1
  generalize placeN L col=p at *
  (try push_cast (maxSteps:=mS) [o1])
  refine ⟨_,h64,rfl,?_⟩
  by_cases o6:op=6
  ·rw [if_pos o6] at hF
   by_cases g0:g.length=0
   ·rw [if_pos g0] at hF
    subst hF
    have hd:decide ((g.length:Int)=0)=true:=decide_eq_true (by omega)
    (try push_cast (maxSteps:=mS) [o6,hd])
    all_goals exact ⟨rfl,rfl,rfl,rfl⟩
   ·rw [if_neg g0] at hF
    subst hF
    have hd:decide ((g.length:Int)=0)=false:=decide_eq_false (by omega)
    have hg0:0<g.length:=by omega
    have hv:=List.getElem?_eq_getElem hg0
    have hrm:=List.getElem_mem hg0
    have hrp:=List.getElem?_eq_getElem (hw _ hrm)
    have hrl:=hw _ hrm
    have hva:=vAt_get hrp
    have hh:g.headD []=g[0]:=by cases g with|nil=>exact absurd rfl g0|cons r g=>rfl
    rw [hh,hva]
    generalize g[0][p]=v at *
    generalize g[0]=r at *
    have hci:(r.map eV).getD p []=eV v:=getD_map hrp
    obtain ⟨vk,vs,vn,vb⟩:=v
    simp only [eV_eq] at hci
    (try push_cast (maxSteps:=mS) [o6,hd,getD_map hv,hci])
    ((repeat' with_reducible refine And.intro ?_ ?_)<;>try exact sz)
  ·rw [if_neg o6] at hF
   (try push_cast (maxSteps:=mS) [o6])
   refine LoopK.le (Le.nil 11 27 4 (by decide) (by (try push_cast (maxSteps:=mS)))) ?_
   (try push_cast (maxSteps:=mS))
   refine LoopK.ov (α:=Nat) [48] (fun k=>[i2 .i64 k]) (fun k=>[.bx 60 [.d (.v (.int .i64 op)),.d (.v (.string col)),.d (.v (.string nm))],.bx 27 [.d (.v (.int .i64 0)),.d (.v (.string ByteArray.empty)),.d (.v (.int .i64 0)),.d (.v (.bool false))],.bx 52 [.d (.v (.string cn)),.d (.v (.int .i64 ck)),.d (.v (.bool cz))],.rw 27 4 ((someV p (g.take k)).map eV)]) (fun k=>k≤g.length) (fun k=>g.length - k) 1000 0 (by omega) (by (try push_cast (maxSteps:=mS))<;>first|rfl|exact ⟨rfl,rfl⟩|trace_state) ?_
   rintro k hk
   by_cases hlt:k<g.length
   ·have hv:=atT hlt;have hd:=ltT hlt
    have hrm:=List.getElem_mem hlt
    have hrp:=List.getElem?_eq_getElem (hw _ hrm)
    have hrl:=hw _ hrm
    have hsl:=some_len p (g.take k)
    rw [List.length_take] at hsl
    have hst:=some_take hv hrp
    generalize g[k][p]=v at *
    generalize g[k]=r at *
    obtain ⟨vk,vs,vn,vb⟩:=v
    have hci:(r.map eV).getD p []=eV ⟨vk,vs,vn,vb⟩:=getD_map hrp
    simp only [eV_eq] at hci hst
    by_cases v0:vk=0
    ·rw [if_pos v0,List.append_nil] at hst
     (try push_cast (maxSteps:=mS) [hd,getD_map hv,hci,v0])
     ((repeat' with_reducible refine And.intro ?_ ?_)<;>try exact sz)
     refine ⟨k+1,by omega,by omega,Le.st ?_⟩
     rw [hst]
     (try push_cast (maxSteps:=mS));(all_goals first|rfl|skip)
    ·rw [if_neg v0] at hst
     (try push_cast (maxSteps:=mS) [hd,getD_map hv,hci,v0,List.length_map])
     ((repeat' with_reducible refine And.intro ?_ ?_)<;>try exact sz)
     all_goals (try (simp only [maxLen];omega))
     refine ⟨k+1,by omega,by omega,Le.st ?_⟩
     rw [hst]
     (try push_cast (maxSteps:=mS))
     all_goals (first|rfl|(simp;done)|(simp;rfl)|trace_state)
   ·have hd:=geF hlt
    rw [show g.take k=g from List.take_of_length_le (by omega)]
    have hsl:=some_len p g
    have hsm:=fun v (h:v∈someV p g)=>some_mem hw h
    have hv2:∀ v∈someV p g,okV2 v:=fun v h=>by obtain ⟨r,h1,h2⟩:=hsm v h;exact hr r h1 v h2
    generalize someV p g=vs at *
    by_cases o2:op=2
    ·rw [if_pos o2] at hF
     subst hF
     (try push_cast (maxSteps:=mS) [hd,o2,List.length_map])
     ((repeat' with_reducible refine And.intro ?_ ?_)<;>try exact sz)
     refine ⟨_,hc127 _,rfl,?_⟩
     (try push_cast (maxSteps:=mS))
     all_goals exact ⟨rfl,rfl,rfl,rfl⟩
    ·rw [if_neg o2] at hF
     obtain ⟨q,hq⟩:∃ q,q=vs:=⟨_,rfl⟩
     cases vs with
     | nil =>
      simp only at hF
      subst hF
      rw [← hq]
      have hln:decide ((q.length:Int)=0)=true:=decide_eq_true (by rw [hq];rfl)
      (try push_cast (maxSteps:=mS) [hd,o2,hln,List.length_map])
      all_goals exact ⟨rfl,rfl,rfl,rfl⟩
     | cons v vs =>
      simp only at hF
      have hln:decide ((q.length:Int)=0)=false:=decide_eq_false (by rw [hq];simp only [List.length_cons];omega)
      by_cases o4:op=4
      ·rw [if_pos o4] at hF
       subst hF
       have h128:=d128 v vs (by simp only [List.length_cons] at hsl;omega)
       simp only [eV_eq] at h128
       rw [← hq] at h128 hsl hv2 ⊢
       generalize bestV 1 vs v=m at *
       obtain ⟨mk,ms,mn,mb⟩:=m
       (try push_cast (maxSteps:=mS) [hd,o2,o4,hln,List.length_map])
       all_goals (refine ⟨_,h128,rfl,?_⟩)
       all_goals (try push_cast (maxSteps:=mS))
       all_goals trace_state
      ·rw [if_neg o4] at hF
       by_cases o5:op=5
       ·rw [if_pos o5] at hF
        subst hF
        have h130:=d130 v vs (by simp only [List.length_cons] at hsl;omega)
        simp only [eV_eq] at h130
        rw [← hq] at h130 hsl hv2 ⊢
        generalize bestV (-1) vs v=m at *
        obtain ⟨mk,ms,mn,mb⟩:=m
        (try push_cast (maxSteps:=mS) [hd,o2,o4,o5,hln,List.length_map])
        all_goals (refine ⟨_,h130,rfl,?_⟩)
        all_goals (try push_cast (maxSteps:=mS))
        all_goals trace_state
       ·rw [if_neg o5] at hF
        rw [show ((v::vs).filter fun v=>decide (v.k=2)).map (fun v=>v.n)=intsV (v::vs) from rfl,← hq] at hF
        rw [← hq] at hsl hv2 ⊢
        clear hq
        (try push_cast (maxSteps:=mS) [hd,o2,o4,o5,hln,List.length_map])
        refine LoopK.le (Le.nil 14 2 1 (by decide) (by (try push_cast (maxSteps:=mS)))) ?_
        (try push_cast (maxSteps:=mS))
        refine LoopK.fz 3 rfl ?_
        (try push_cast (maxSteps:=mS))
        have h131:=d131 (intsV q) (by have:=ints_len q;simp only [okLen];omega) (fun n hn=>by
         obtain ⟨v,hv,rfl⟩:=List.mem_map.1 hn
         exact (hv2 v (List.mem_filter.1 hv).1).2)
        refine LoopK.ov (α:=Nat) [92] (fun k=>[i2 .i64 k]) (fun k=>[.bx 60 [.d (.v (.int .i64 op)),.d (.v (.string col)),.d (.v (.string nm))],.bx 27 [.d (.v (.int .i64 0)),.d (.v (.string ByteArray.empty)),.d (.v (.int .i64 0)),.d (.v (.bool false))],.bx 52 [.d (.v (.string cn)),.d (.v (.int .i64 ck)),.d (.v (.bool cz))],.dead,.rw 2 1 ((intsV (q.take k)).map eI)]) (fun k=>k≤q.length) (fun k=>q.length - k) 1000 0 (by omega) (by (try push_cast (maxSteps:=mS))<;>first|rfl|exact ⟨rfl,rfl⟩|trace_state) ?_
        rintro k hk
        clear hd hlt
        by_cases hlt:k<q.length
        ·have hv:=atT hlt;have hd:=ltT hlt
         have hil:=ints_len (q.take k)
         rw [List.length_take] at hil
         have hit:=ints_take hv
         generalize q[k]=v at *
         obtain ⟨vk,vs,vn,vb⟩:=v
         have hci:(q.map eV).getD k []=eV ⟨vk,vs,vn,vb⟩:=getD_map hv
         simp only [eV_eq] at hci hit
         by_cases v2:vk=2
         ·rw [if_pos v2] at hit
          (try push_cast (maxSteps:=mS) [hd,hci,v2,List.length_map])
          ((repeat' with_reducible refine And.intro ?_ ?_)<;>try exact sz)
          all_goals (try (simp only [maxLen];omega))
          refine ⟨k+1,by omega,by omega,Le.st ?_⟩
          rw [hit]
          (try push_cast (maxSteps:=mS))
          all_goals (first|rfl|(simp;done)|(simp;rfl)|trace_state)
         ·rw [if_neg v2,List.append_nil] at hit
          (try push_cast (maxSteps:=mS) [hd,hci,v2,List.length_map])
          ((repeat' with_reducible refine And.intro ?_ ?_)<;>try exact sz)
          refine ⟨k+1,by omega,by omega,Le.st ?_⟩
          rw [hit]
          (try push_cast (maxSteps:=mS));(all_goals first|rfl|skip)
        ·have hd:=geF hlt
         rw [show q.take k=q from List.take_of_length_le (by omega)]
         generalize sumG (intsV q)=S at *
         obtain ⟨s1,s2⟩:=S
         simp only at h131 hF
         (try push_cast (maxSteps:=mS) [hd])
         refine ⟨_,h131,rfl,?_⟩
         by_cases s0:s2=0
         ·rw [if_neg (by simp [s0])] at hF
          subst hF
          (try push_cast (maxSteps:=mS) [s0])
          refine ⟨_,hc127 _,rfl,?_⟩
          (try push_cast (maxSteps:=mS))
          all_goals exact ⟨rfl,rfl,rfl,rfl⟩
         ·rw [if_pos s0] at hF
          subst hF
          (try push_cast (maxSteps:=mS) [s0])
          all_goals exact ⟨rfl,rfl,rfl,rfl⟩
theorem tells_len (L:List Cl) (g:List (List Vl)):∀ (ag:List Ag) (w:List Vl),(tellsG L g ag w).1.length≤w.length+ag.length
 | [],w=>by simp [tellsG]
 | a::ag,w=>by
  have:=tells_len L g ag (w++[(tellG L a g).1])
  simp only [tellsG,List.length_append,List.length_cons,List.length_nil] at this ⊢
  split
  ·simp
  ·omega
theorem column_place {L:List Cl} {a:Ag} (h:(columnG L a).2=0) (h1:a.op≠1):placeN L a.col<L.length:=by
 unfold columnG at h
 split at h
 ·cases h
 ·split at h
  ·cases h
  ·rename_i hf
   exact placeN_lt (by simpa [foundN] using hf)
theorem find_ok {L:List Cl} {ks:List ByteArray} (h:(keyF L [] ks 0).2=0):findG L ks=(placesN L ks,ks.length,0):=by
 unfold findG
 rw [if_neg (by simp [h])]
set_option maxHeartbeats 2000000 in
theorem d60 (t:Tb) (ks:List ByteArray) (ag:List Ag) (ht:okT2 t) (hk:okKeys ks) (ha:ag.length≤1000) (hn:∀ a∈ag,a.nm.size≤1099511627776) (hR:t.R.length≤90000) :
  Spec V 52 [.ag ((eT t).map .d),.c (.d (.sl 1 (ks.map eS))),.c (.d (.sl 3 (ag.map eAg)))] (.tu [.ag ((eT (groupC t ks ag).1).map .d),i2 .i64 (groupC t ks ag).2]):=by
 have hk':ks.length≤64:=hk
 obtain ⟨L,A⟩:=t
 obtain ⟨hL,hAl,hAv,hAr⟩:=ht
 simp only at hL hAl hAv hAr hR
 have h51:=d51 L ks ag hL hk ha hn
 have h111:=d111 ⟨L,A⟩ hAl (fun r hr=>(hAv r hr).1)
 have h94:=d94 L ks hL hk
 obtain ⟨F,hF⟩:∃ F,F=groupC ⟨L,A⟩ ks ag:=⟨_,rfl⟩
 rw [← hF]
 unfold groupC at hF
 simp only at hF
 simp only [eT_eq] at h111
 (refine Spec.of_go (L:=fun|0=>some [1,2,3,6]|1=>some [1,2,3,6,8,10]|2=>some [1,2,3,6,8,10,34]|3=>some [6,7]|4=>some [1,2,3,6,8,39]|5=>some [6,7]|6=>some [2,3,6,8,11]|7=>some [2,3,6,11,14]|8=>some [2,3,6,11,14,54,55,56]|9=>some [2,3,6,11,14,54,55,56,57]|10=>some [2,3,6,11,14,16,54,55,56]|11=>some [2,3,6,11,14,16,17,54,55,56]|12=>some [2,3,6,11,14,16,17,54,55,56,60,61,62]|13=>some [2,3,6,11,14,16,17,54,55,56,60,61,62,63]|14=>some [2,3,6,11,14,16,17,19,54,55,56,60,61,62]|15=>some [2,3,6,11,14,16,17,54,55,56,60,61,62]|16=>some [2,3,6,11,14,16,17,54,55,56,60,61,62]|17=>some [2,3,6,11,14,16,17,54,55,56,76,77,78]|18=>some [2,3,6,11,14,16,17,54,55,56,76,77,78,79]|19=>some [2,3,6,11,14,16,17,21,54,55,56,76,77,78]|20=>some [2,3,6,11,14,16,17,22,23,54,55,56,76,77,78]|21=>some [2,3,6,11,14,16,17,22,23,54,55,56,76,77,78,91]|22=>some [6,7]|23=>some [2,3,6,11,14,16,17,54,55,56,76,77,78]|24=>some [2,3,6,11,14,16,17,54,55,56,76,77,78]|25=>some [2,3,6,11,14,54,55,56]|26=>some [2,3,6,11,14,54,55,56]|27=>some [6,7]|_=>none) 1000 Go.Proofs.Tryz.func52 rfl rfl ⟨Nat.le_of_ble_eq_true rfl,rfl⟩ rfl ?_;unfold Go.Proofs.Tryz.f52;push_cast (maxSteps:=mS))
 refine ⟨_,h51,rfl,?_⟩
 by_cases c1:(colsG L ks ag).2.2=0
 ·rw [if_neg (by simp [c1])] at hF
  obtain ⟨q1,q2,q3,q4,q5⟩:=colsG_ok c1
  have hfound:=key_found L ks [] 0 q2
  rw [find_ok q2] at h94
  (try push_cast (maxSteps:=mS) [c1])
  refine ⟨_,h111,rfl,?_⟩
  cases ea:evenF ⟨L,A⟩ with
  | false =>
   rw [ea,if_pos rfl] at hF
   subst hF
   (try push_cast (maxSteps:=mS))
  | true =>
   rw [ea,if_neg (by simp)] at hF
   have hrow:∀ x∈A,x.length=L.length:=by simpa [evenF] using ea
   have hplt:=placesN_lt hfound
   have hpl:(placesN L ks).length≤64:=by rw [placesN,List.length_map];exact hk'
   generalize placesN L ks=ps at *
   have h112:=d112 A ps (by omega) (fun r hr v hv=>(hAv r hr).2 v hv) hpl (fun r hr p hp=>by rw [hrow r hr];exact hplt p hp)
   have hgm:=fun g (h:g∈partC ps A)=>partC_mem h
   have hgl:=partC_len ps A
   generalize partC ps A=gs at *
   generalize (colsG L ks ag).1=L' at *
   (try push_cast (maxSteps:=mS))
   refine ⟨_,h94,rfl,?_⟩
   (try push_cast (maxSteps:=mS))
   refine ⟨_,h112,rfl,?_⟩
   (try push_cast (maxSteps:=mS))
   refine LoopK.le (Le.nilB 2 1 28 1 (by decide) rfl rfl) ?_
   (try push_cast (maxSteps:=mS))
   refine LoopK.ov (α:=Nat × List (List Vl)) [56] (fun s=>[i2 .i64 s.1]) (fun s=>[.bx 25 [.d (.sl 3 (L.map eC)),.d (.sl 1 (A.map eR))],.bx 25 [.d (.v (.slice none 0 0)),.d (.v (.slice none 0 0))],.bx 25 [.d (.sl 3 (L'.map eC)),.os 3],.rw 28 1 (s.2.map eR)]) (fun s=>s.1≤gs.length∧s.2.length=s.1∧rowsG L ps ag (gs.drop s.1) s.2=rowsG L ps ag gs []) (fun s=>gs.length - s.1) 1000 (0,[]) ⟨by simp,rfl,rfl⟩ (by (try push_cast (maxSteps:=mS))<;>first|rfl|exact ⟨rfl,rfl⟩|exact ⟨rfl,rfl,rfl⟩|trivial) ?_
   rintro ⟨k,out⟩ ⟨hk1,hol,hrun⟩
   simp only at hk1 hol hrun
   by_cases hlt:k<gs.length
   ·have hv:=atT hlt;have hd:=ltT hlt
    rw [drop_cons hv] at hrun
    simp only [rowsG] at hrun
    obtain ⟨g1,g2,g3⟩:=hgm _ (List.getElem_mem hlt)
    generalize gs[k]=g at *
    have hgi:(gs.map eRs).getD k []=eRs g:=getD_map hv
    simp only [eRs_eq] at hgi
    (try push_cast (maxSteps:=mS) [hd,hgi])
    ((repeat' with_reducible refine And.intro ?_ ?_)<;>try exact sz)
    refine LoopK.le (Le.nil 17 27 4 (by decide) (by (try push_cast (maxSteps:=mS)))) ?_
    (try push_cast (maxSteps:=mS))
    refine LoopK.ov (α:=Nat) [62] (fun j=>[i2 .i64 j]) (fun j=>[.bx 25 [.d (.sl 3 (L.map eC)),.d (.sl 1 (A.map eR))],.bx 25 [.d (.v (.slice none 0 0)),.d (.v (.slice none 0 0))],.bx 25 [.d (.sl 3 (L'.map eC)),.os 3],.rw 28 1 (out.map eR),.rw 27 4 ((keysV (ps.take j) g).map eV)]) (fun j=>j≤ps.length) (fun j=>ps.length - j) 1000 0 (by omega) (by (try push_cast (maxSteps:=mS))<;>first|rfl|exact ⟨rfl,rfl⟩|exact ⟨rfl,rfl,rfl⟩|trivial) ?_
    rintro j hj
    by_cases hlt2:j<ps.length
    ·have hv2:=List.getElem?_eq_getElem hlt2
     have hd2:decide ((j:Int)<(ps.length:Int))=true:=decide_eq_true (by omega)
     have hg0:0<g.length:=Nat.pos_of_ne_zero fun e=>g1 (by omega) (List.eq_nil_of_length_eq_zero e)
     have hv3:=List.getElem?_eq_getElem hg0
     have hh:g.headD []=g[0]:=by cases g with|nil=>simp at hg0|cons r g=>rfl
     have hrm:=g3 _ (List.getElem_mem hg0)
     have hpr:=hplt ps[j] (List.getElem_mem hlt2)
     rw [← hrow _ hrm] at hpr
     have hv4:=List.getElem?_eq_getElem hpr
     have hkt:keysV (ps.take (j+1)) g=keysV (ps.take j) g++[g[0][ps[j]]]:=by
      unfold keysV
      rw [List.take_add_one,hv2,Option.toList_some,List.map_append,List.map_cons,List.map_nil,hh,vAt_get hv4]
     have hkl:(keysV (ps.take j) g).length=j:=by unfold keysV;rw [List.length_map,List.length_take];omega
     generalize g[0][ps[j]]=v at *
     generalize g[0]=r at *
     generalize ps[j]=p at *
     obtain ⟨vk,vs,vn,vb⟩:=v
     have hci:(r.map eV).getD p []=eV ⟨vk,vs,vn,vb⟩:=getD_map hv4
     simp only [eV_eq] at hci hkt
     (try push_cast (maxSteps:=mS) [hd2,getD_map hv2,getD_map hv3,hci,List.length_map,hkl])
     ((repeat' with_reducible refine And.intro ?_ ?_)<;>try exact sz)
     all_goals (try (simp only [maxLen];omega))
     refine ⟨j+1,by omega,by omega,Le.st ?_⟩
     rw [hkt]
     (try push_cast (maxSteps:=mS))
     all_goals (first|rfl|(simp;done)|(simp;rfl)|trace_state)
    ·have hd2:decide ((j:Int)<(ps.length:Int))=false:=decide_eq_false (by omega)
     rw [show ps.take j=ps from List.take_of_length_le (by omega)]
     have hkl:(keysV ps g).length=ps.length:=by simp [keysV]
     (try push_cast (maxSteps:=mS) [hd2])
     clear hd2 hlt2 hj
     refine LoopK.ov (α:=Nat × List Vl) [78] (fun s=>[i2 .i64 s.1]) (fun s=>[.bx 25 [.d (.sl 3 (L.map eC)),.d (.sl 1 (A.map eR))],.bx 25 [.d (.v (.slice none 0 0)),.d (.v (.slice none 0 0))],.bx 25 [.d (.sl 3 (L'.map eC)),.os 3],.rw 28 1 (out.map eR),.rw 27 4 (s.2.map eV)]) (fun s=>s.1≤ag.length∧s.2.length=ps.length+s.1∧tellsG L g (ag.drop s.1) s.2=tellsG L g ag (keysV ps g)) (fun s=>ag.length - s.1) 1000 (0,keysV ps g) ⟨by simp,by simp [hkl],rfl⟩ (by (try push_cast (maxSteps:=mS))<;>first|rfl|exact ⟨rfl,rfl⟩|exact ⟨rfl,rfl,rfl⟩|trivial) ?_
     rintro ⟨j,w⟩ ⟨hj,hwl,htr⟩
     simp only at hj hwl htr
     by_cases hlt2:j<ag.length
     ·have hv2:=List.getElem?_eq_getElem hlt2
      have hd2:decide ((j:Int)<(ag.length:Int))=true:=decide_eq_true (by omega)
      rw [drop_cons hv2] at htr
      simp only [tellsG] at htr
      have hcp:=fun h1=>column_place (q3 _ (List.getElem_mem hlt2)) h1
      generalize ag[j]=a at *
      have h113:=d113 L a g hL.1 (by omega) (fun r hr v hv=>(hAv r (g3 r hr)).2 v hv) (fun h1 r hr=>by rw [hrow r (g3 r hr)];exact hcp h1)
      obtain ⟨op,col,nm⟩:=a
      generalize tellG L ⟨op,col,nm⟩ g=T at *
      obtain ⟨⟨tk,ts,tn,tb⟩,te⟩:=T
      simp only [eV_eq,eAg_eq] at h113 htr
      (try push_cast (maxSteps:=mS) [hd2,getD_map hv2])
      ((repeat' with_reducible refine And.intro ?_ ?_)<;>try exact sz)
      refine ⟨_,h113,rfl,?_⟩
      by_cases t0:te=0
      ·rw [if_neg (by simp [t0])] at htr
       (try push_cast (maxSteps:=mS) [t0,List.length_map])
       ((repeat' with_reducible refine And.intro ?_ ?_)<;>try exact sz)
       all_goals (try (simp only [maxLen];omega))
       refine ⟨(j+1,w++[⟨tk,ts,tn,tb⟩]),⟨by simp only;omega,by simp only [List.length_append,List.length_cons,List.length_nil];omega,by simp only;exact htr⟩,by simp only;omega,Le.st ?_⟩
       (try push_cast (maxSteps:=mS))
       all_goals (first|rfl|(simp;done)|(simp;rfl)|trace_state)
      ·rw [if_pos t0] at htr
       rw [← htr,if_pos t0] at hrun
       rw [← hrun,if_pos t0] at hF
       subst hF
       (try push_cast (maxSteps:=mS) [t0])
     ·have hd2:decide ((j:Int)<(ag.length:Int))=false:=decide_eq_false (by omega)
      rw [List.drop_eq_nil_of_le (by omega)] at htr
      simp only [tellsG] at htr
      rw [← htr,if_neg (by simp)] at hrun
      simp only at hrun
      (try push_cast (maxSteps:=mS) [hd2,List.length_map])
      ((repeat' with_reducible refine And.intro ?_ ?_)<;>try exact sz)
      all_goals (try (simp only [maxLen];omega))
      refine ⟨(k+1,out++[w]),⟨by simp only;omega,by simp only [List.length_append,List.length_cons,List.length_nil];omega,by simp only;exact hrun⟩,by simp only;omega,Le.st ?_⟩
      (try push_cast (maxSteps:=mS))
      all_goals (first|rfl|exact ⟨rfl,rfl⟩|(simp;done)|(simp;rfl)|trace_state)
   ·have hd:=geF hlt
    rw [List.drop_eq_nil_of_le (by omega)] at hrun
    simp only [rowsG] at hrun
    rw [← hrun,if_neg (by simp)] at hF
    subst hF
    (try push_cast (maxSteps:=mS) [hd])
    all_goals trace_state
 ·rw [if_pos c1] at hF
  subst hF
  (try push_cast (maxSteps:=mS) [c1])
def gK:ByteArray:={ data:=#[107] }
def gN:ByteArray:={ data:=#[110] }
def gS:ByteArray:={ data:=#[115] }
def gA1:ByteArray:={ data:=#[97] }
def gB1:ByteArray:={ data:=#[98] }
def gaRow (s:ByteArray) (n:Int):List Vl:=[⟨1,s,0,false⟩,⟨2,ByteArray.empty,n,false⟩]
def gaT:Tb:=⟨[⟨gK,1,false⟩,⟨gN,2,false⟩],[gaRow gA1 1,gaRow gB1 2,gaRow gA1 3]⟩
def shortA (ag:List Ag):Bool:=ag.all fun a=>decide (a.col.size≤100) && decide (a.nm.size≤100)
structure Gc where
 T:Tb
 K:List ByteArray
 A:List Ag
def eGc (z:Gc):List DV:=[.sl 3 (z.T.L.map eC),.sl 1 (z.T.R.map eR),.sl 1 (z.K.map eS),.sl 3 (z.A.map eAg)]
@[push_cast] theorem eGc_eq (z:Gc):eGc z=[.sl 3 (z.T.L.map eC),.sl 1 (z.T.R.map eR),.sl 1 (z.K.map eS),.sl 3 (z.A.map eAg)]:=rfl
def fitsG (z:Gc):Bool:=shortK z.K && (shortA z.A && (fewT z.T && (decide (z.K.length≤12) && decide (z.A.length≤12))))
structure okGc (z:Gc):Prop where
 t:okT0 z.T
 k:okLen z.K
 a:okLen z.A
end Go.LS.Tryz
