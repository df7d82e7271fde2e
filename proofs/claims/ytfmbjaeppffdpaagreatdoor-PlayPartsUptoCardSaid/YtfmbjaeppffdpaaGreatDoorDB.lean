/- Part DB: 6 texts,one behind the other. -/
import Derived.Test.YtfmbjaeppffdpaaGreatDoorPD
import Derived.Test.YtfmbjaeppffdpaaGreatDoorDA
import Derived.Test.YtfmbjaeppffdpaaGreatDoorE2
import Derived.Test.YtfmbjaeppffdpaaGreatDoorPJ
namespace Go.LS.Tryz
open Go Go.LS
set_option maxRecDepth 100000
@[push_cast] def lv0DB:Nat→Option (List Nat):=fun|0=>some [0]|1=>some [0,4]|2=>some [2]|3=>some [2]|_=>none
set_option linter.unusedSimpArgs false
set_option linter.unusedVariables false
def eSl (s:Bool × Ch):List DV:=[.v (.bool s.1),.v (.int .i64 s.2.k),.sl 4 (s.2.o.map eV),.sl 4 (s.2.n.map eV)]
@[push_cast] theorem eSl_eq (s:Bool × Ch):eSl s=[.v (.bool s.1),.v (.int .i64 s.2.k),.sl 4 (s.2.o.map eV),.sl 4 (s.2.n.map eV)]:=rfl
def togR (s:Bool × Ch) (c:Ch):(Bool × Ch) × Bool:=match togF s c with
 | some x=>(x,true)
 | none=>((false,⟨0,[],[]⟩),false)
def fillJ (n k:Nat):List (List DV):=(List.range n).map fun i=>if i<k then eJ i else eJ 0
end Go.LS.Tryz
namespace Go.LS.Tryz
open Go Go.LS
set_option maxRecDepth 100000
set_option linter.unusedSimpArgs false
set_option linter.unusedVariables false
end Go.LS.Tryz
namespace Go.LS.Tryz
open Go Go.LS
set_option maxRecDepth 100000
set_option linter.unusedSimpArgs false
set_option linter.unusedVariables false
theorem d77 (l:List Jo) (n:ByteArray) (hl:okLen l):Spec V 106 [.c (.d (.sl 2 (l.map eJo))),s2 n] (b2 (isR l n)):=by
 (refine Spec.of_go (L:=fun|0=>some [0,1]|1=>some [1,7,8,9]|2=>some [1,7,8,9,10]|3=>some [1,6,7,8,9]|4=>some [1,7,8,9,16]|5=>some [4]|6=>some [1,7,8,9]|7=>some [4]|_=>none) 1000 Go.Proofs.Tryz.func106 rfl rfl ⟨Nat.le_of_ble_eq_true rfl,rfl⟩ rfl ?_;unfold Go.Proofs.Tryz.f106;push_cast (maxSteps:=mS))
 refine LoopK.s1 (α:=Nat) [9] (fun k=>[i2 .i64 k]) (fun k=>k≤l.length∧isR (l.drop k) n=isR l n) (fun k=>l.length - k) 1000 0 ⟨by omega,rfl⟩ (by (try push_cast (maxSteps:=mS))) ?_
 rintro k ⟨hk,hc⟩
 by_cases hlt:k<l.length
 ·have hv:=atT hlt;have hd:=ltT hlt
  rw [drop_cons hv,isR_cons] at hc
  generalize l[k]=o at *
  (try push_cast (maxSteps:=mS) [hd,getD_map hv])
  ((repeat' with_reducible refine And.intro ?_ ?_)<;>try exact sz)
  refine BrP.mk (fun h=>?_) (fun h=>?_)<;>try (push_cast (maxSteps:=mS) [h])
  ·rw [← hc]
   simp [of_decide_eq_true h]
  ·rw [h,Bool.false_or] at hc
   ((repeat' with_reducible refine And.intro ?_ ?_)<;>try exact sz)
   refine ⟨k+1,⟨by omega,hc⟩,by omega,Le.st ?_⟩
   (try push_cast (maxSteps:=mS));(all_goals first|rfl|skip)
 ·have hd:=geF hlt
  rw [List.drop_eq_nil_of_le (by omega)] at hc
  (try push_cast (maxSteps:=mS) [hd])
  exact hc
theorem d80 (t:Tb) (ht:okLen t.R) (hr:∀ r∈t.R,okLen r):Spec V 92 [.ag ((eT t).map .d)] (b2 (evenF t)):=by
 obtain ⟨L,A⟩:=t
 simp only at ht hr
 (refine Spec.of_go (L:=fun|0=>some [1]|1=>some [1,6,7,8]|2=>some [1,6,7,8,9]|3=>some [1,4,6,7,8]|4=>some [1,6,7,8,17]|5=>some [2]|6=>some [1,6,7,8]|7=>some [2]|_=>none) 1000 Go.Proofs.Tryz.func92 rfl rfl ⟨Nat.le_of_ble_eq_true rfl,rfl⟩ rfl ?_;unfold Go.Proofs.Tryz.f92;push_cast (maxSteps:=mS))
 refine LoopK.s1 (α:=Nat) [8] (fun k=>[i2 .i64 k]) (fun k=>k≤A.length∧((A.drop k).all fun r=>decide (r.length=L.length))=evenF ⟨L,A⟩) (fun k=>A.length - k) 1000 0 ⟨by omega,rfl⟩ (by (try push_cast (maxSteps:=mS))) ?_
 rintro k ⟨hk,hc⟩
 by_cases hlt:k<A.length
 ·have hv:=atT hlt;have hd:=ltT hlt
  rw [drop_cons hv,List.all_cons] at hc
  generalize A[k]=r at *
  (try push_cast (maxSteps:=mS) [hd,getD_map hv])
  ((repeat' with_reducible refine And.intro ?_ ?_)<;>try exact sz)
  refine BrP.mk (fun h=>?_) (fun h=>?_)<;>try (push_cast (maxSteps:=mS) [h])
  ·have hw:¬ r.length=L.length:=by simp at h;omega
   rw [← hc]
   simp [hw]
  ·have hw:r.length=L.length:=by simp at h;omega
   rw [decide_eq_true hw,Bool.true_and] at hc
   ((repeat' with_reducible refine And.intro ?_ ?_)<;>try exact sz)
   refine ⟨k+1,⟨by omega,hc⟩,by omega,Le.st ?_⟩
   (try push_cast (maxSteps:=mS));(all_goals first|rfl|skip)
 ·have hd:=geF hlt
  rw [List.drop_eq_nil_of_le (by omega),List.all_nil] at hc
  (try push_cast (maxSteps:=mS) [hd])
  exact hc
def markJ (r:List Vl) (ps:List Nat):ByteArray:=if nullF ps r=true then { data:=#[] } else markF [] r ps
theorem null_drop {ps:List Nat} {r:List Vl} {k p:Nat} {v:Vl} (h:ps[k]?=some p) (hv:vAt r p=v):nullF (ps.drop k) r=(decide (v.k=0) || nullF (ps.drop (k+1)) r):=by
 rw [drop_cons h]
 simp [nullF,hv]
theorem d81 (r:List Vl) (ps:List Nat) (hr:∀ v∈r,okVl v) (hn:∀ v∈r,inK .i64 v.n) (hp:ps.length≤64) (hlt:∀ p∈ps,p<r.length):Spec V 93 [.c (.d (.sl 4 (r.map eV))),.c (.d (.sl 1 (ps.map eJ)))] (.tu [s2 (markJ r ps),b2 (!nullF ps r)]):=by
 obtain ⟨R,hR⟩:∃ R,R=markJ r ps:=⟨_,rfl⟩
 obtain ⟨N,hN⟩:∃ N,N=nullF ps r:=⟨_,rfl⟩
 rw [← hR,← hN]
 unfold markJ at hR
 rw [← hN] at hR
 (refine Spec.of_go (L:=fun|0=>some [0,1]|1=>some [0,1,6]|2=>some [0,6,10,11,12]|3=>some [0,6,10,11,12,13]|4=>some [0,6,8,10,11,12]|5=>some [0,6,9,10,11,12]|6=>some [0,6,9,10,11,12,21]|7=>some [0,6,9,10,11,12,21,22]|8=>some [4,5]|9=>some [0,6,9,10,11,12,21,24]|10=>some [0,6,9,10,11,12]|11=>some [0,6,9,10,11,12]|12=>some [0,6,9,10,11,12]|13=>some [0,6,10,11,12]|14=>some [0,6,9,10,11,12,21,41]|15=>some [0,6,9,10,11,12]|16=>some [0,6,10,11,12]|17=>some [0,6,10,11,12]|18=>some [0,6,9,10,11,12,53]|19=>some [0,6,9,10,11,12]|20=>some [0,6,10,11,12]|21=>some [0,6,10,11,12]|22=>some [0,6,10,11,12]|23=>some [4,5]|_=>none) 1000 Go.Proofs.Tryz.func93 rfl rfl ⟨Nat.le_of_ble_eq_true rfl,rfl⟩ rfl ?_;unfold Go.Proofs.Tryz.f93;push_cast (maxSteps:=mS))
 refine LoopK.le (Le.nil 6 5 1 (by decide) (by (try push_cast (maxSteps:=mS)))) ?_
 (try push_cast (maxSteps:=mS))
 refine LoopK.ov (α:=Nat) [12] (fun k=>[i2 .i64 k]) (fun k=>[.rw 5 1 ((toksF [] r (ps.take k)).map bD)]) (fun k=>k≤ps.length∧(toksF [] r (ps.take k)).length≤k*1099511627840∧nullF (ps.drop k) r=N) (fun k=>ps.length - k) 1000 0 ⟨by omega,by simp [toksF],hN.symm⟩ (by (try push_cast (maxSteps:=mS));rfl) ?_
 rintro k ⟨hk,hlen,hnull⟩
 by_cases hlt':k<ps.length
 ·have hv0:=List.getElem?_eq_getElem hlt'
  have hpr0:=hlt ps[k] (List.getElem_mem hlt')
  rw [null_drop hv0 (vAt_get (List.getElem?_eq_getElem hpr0))] at hnull
  have hv:=List.getElem?_eq_getElem hlt'
  have hd:decide ((k:Int)<(ps.length:Int))=true:=decide_eq_true (by omega)
  have hpr:=hlt ps[k] (List.getElem_mem hlt')
  have hv2:=List.getElem?_eq_getElem hpr
  have hts:=toks_take_succ (nul:=[]) (r:=r) hv
  rw [vAt_get hv2] at hts
  have hm:=List.getElem_mem hpr
  generalize r[ps[k]]=v at *
  have htl:=tok_len [] (hr v hm) (hn v hm) (by simp)
  have hlen2:(toksF [] r (ps.take (k+1))).length≤(k+1)*1099511627840:=by rw [hts,List.length_append];omega
  have hvs:v.s.size≤1099511627776:=hr v hm
  have hvn:=hn v hm
  generalize toksF [] r (ps.take k)=bs at *
  (try push_cast (maxSteps:=mS) [hd,getD_map hv,getD_map hv2])
  ((repeat' with_reducible refine And.intro ?_ ?_)<;>try exact sz)
  refine BrP.mk (fun h=>?_) (fun h=>?_)<;>try (push_cast (maxSteps:=mS) [h])
  ·have hk0:=of_decide_eq_true h
   rw [decide_eq_true hk0,Bool.true_or] at hnull
   subst hnull
   simp only [if_true] at hR
   subst hR
   (try push_cast (maxSteps:=mS))
  ·have hk0:=of_decide_eq_false h
   rw [decide_eq_false hk0,Bool.false_or] at hnull
   replace hlen2:=And.intro hlen2 hnull
   (try push_cast (maxSteps:=mS))
   refine BrP.mk (fun h=>?_) (fun h=>?_)<;>try (push_cast (maxSteps:=mS) [h])
   ·have hk1:=of_decide_eq_true h
    rw [tok_1 _ hk1] at hts
    (try push_cast (maxSteps:=mS))
    ((repeat' with_reducible refine And.intro ?_ ?_)<;>try exact sz)
    have h117:=d117 (bs++[116]) v.s.size (inK64 (by omega) (by omega)) (by simp only [List.length_append,List.length_cons,List.length_nil];omega)
    have hil:=itoa_len (v.s.size:Int) (by omega) (by omega)
    refine ⟨_,(by have h:=h117;rw [List.map_append] at h;exact h),⟨.inl trivial,(by simp only [List.length_map,List.length_append,List.length_cons,List.length_nil,maxLen];omega),(by simp only [List.length_map,List.length_append,List.length_cons,List.length_nil];omega)⟩,(by simp only [List.length_map,List.length_append,List.length_cons,List.length_nil];omega),inK64 (by omega) (by omega),k+1,⟨by omega,hlen2⟩,by omega,Le.st ?_⟩
    rw [hts]
    (try push_cast (maxSteps:=mS))
    simp [strD_map]
   ·have hk1:=of_decide_eq_false h
    (try push_cast (maxSteps:=mS))
    refine BrP.mk (fun h=>?_) (fun h=>?_)<;>try (push_cast (maxSteps:=mS) [h])
    ·have hk2:=of_decide_eq_true h
     rw [tok_2 _ hk2] at hts
     (try push_cast (maxSteps:=mS))
     ((repeat' with_reducible refine And.intro ?_ ?_)<;>try exact sz)
     have h117:=d117 (bs++[105]) v.n hvn (by simp only [List.length_append,List.length_cons,List.length_nil];omega)
     have hil:=itoa_len v.n hvn.1 hvn.2
     refine ⟨_,(by have h:=h117;rw [List.map_append] at h;exact h),⟨.inl trivial,(by simp only [List.length_map,List.length_append,List.length_cons,List.length_nil,maxLen];omega),(by simp only [List.length_map,List.length_append,List.length_cons,List.length_nil];omega)⟩,inK64 (by omega) (by omega),k+1,⟨by omega,hlen2⟩,by omega,Le.st ?_⟩
     rw [hts]
     (try push_cast (maxSteps:=mS))
     simp
    ·have hk2:=of_decide_eq_false h
     (try push_cast (maxSteps:=mS))
     refine BrP.mk (fun h=>?_) (fun h=>?_)<;>try (push_cast (maxSteps:=mS) [h])
     ·have hk3:=of_decide_eq_true h
      rw [tok_3 _ hk3] at hts
      (try push_cast (maxSteps:=mS))
      ((repeat' with_reducible refine And.intro ?_ ?_)<;>try exact sz)
      have h118:=d118 (bs++[98]) v.b (by simp only [List.length_append,List.length_cons,List.length_nil];omega)
      have hil:(if v.b then truB else flsB).length≤5:=by cases v.b<;>simp
      refine ⟨_,(by have h:=h118;rw [List.map_append] at h;exact h),⟨.inl trivial,(by simp only [List.length_map,List.length_append,List.length_cons,List.length_nil,maxLen];omega),(by simp only [List.length_map,List.length_append,List.length_cons,List.length_nil];omega)⟩,inK64 (by omega) (by omega),k+1,⟨by omega,hlen2⟩,by omega,Le.st ?_⟩
      rw [hts]
      (try push_cast (maxSteps:=mS))
      simp
     ·have hk3:=of_decide_eq_false h
      have e0:tokF [] v=[]:=by simp [tokF,hk1,hk2,hk3]
      rw [e0,List.append_nil] at hts
      (try push_cast (maxSteps:=mS))
      refine ⟨inK64 (by omega) (by omega),k+1,⟨by omega,hlen2⟩,by omega,Le.st ?_⟩
      rw [hts]
      (try push_cast (maxSteps:=mS))
 ·rw [List.drop_eq_nil_of_le (by omega)] at hnull
  have hN0:N=false:=hnull.symm
  subst hN0
  simp only [Bool.false_eq_true,if_false] at hR
  have hd:decide ((k:Int)<(ps.length:Int))=false:=decide_eq_false (by omega)
  (try push_cast (maxSteps:=mS) [hd,numsOf_map,okNums_map,strN_map])
  rw [List.take_of_length_le (by omega),hR]
  rfl
theorem d72R (r:List Vl) (hr:okLen r):SpecR V 82 [.c (.d (.sl 4 (r.map eV)))] 27 4 (r.map eV):=by
 (refine SpecR.of_go2 (L:=lv0DB) 1000 Go.Proofs.Tryz.func82 rfl rfl ⟨Nat.le_of_ble_eq_true rfl,rfl⟩ (by decide) ?_;unfold Go.Proofs.Tryz.f82;push_cast (maxSteps:=mS))
 intro b hb
 (try push_cast (maxSteps:=mS))
 refine BrP.mk (fun h=>?_) (fun h=>?_)<;>try (push_cast (maxSteps:=mS) [h])
 ·have:=hb h
  simp at this
  simp [this]
 ·((repeat' with_reducible refine And.intro ?_ ?_)<;>try exact sz)
  all_goals trace_state
theorem d78R (r:List Cl) (hr:okLen r):SpecR V 83 [.c (.d (.sl 3 (r.map eC)))] 52 3 (r.map eC):=by
 (refine SpecR.of_go2 (L:=lv0DB) 1000 Go.Proofs.Tryz.func83 rfl rfl ⟨Nat.le_of_ble_eq_true rfl,rfl⟩ (by decide) ?_;unfold Go.Proofs.Tryz.f83;push_cast (maxSteps:=mS))
 intro b hb
 (try push_cast (maxSteps:=mS))
 refine BrP.mk (fun h=>?_) (fun h=>?_)<;>try (push_cast (maxSteps:=mS) [h])
 ·have:=hb h
  simp at this
  simp [this]
 ·((repeat' with_reducible refine And.intro ?_ ?_)<;>try exact sz)
  all_goals trace_state
theorem d82 (r x:List Vl) (ps:List Nat) (hr:r.length≤100000) (hp:ps.length≤1000) (hlt:∀ p∈ps,p<x.length):Spec V 95 [.c (.d (.sl 4 (r.map eV))),.c (.d (.sl 4 (x.map eV))),.c (.d (.sl 1 (ps.map eJ)))] (.c (.d (.sl 4 ((besideF ps r x).map eV)))):=by
 have h72:=d72R r (by simp only [okLen];omega)
 (refine to1 ?_;refine Spec.of_go (V:=V2) (L:=fun|0=>some [0,1,2]|1=>some [1,2,7]|2=>some [1,7,12,13,14]|3=>some [1,7,12,13,14,15]|4=>some [1,7,9,12,13,14]|5=>some [1,7,12,13,14]|6=>some [1,7,12,13,14]|7=>some [6]|_=>none) 1000 Go.Proofs.Tryz.func95 rfl rfl ⟨Nat.le_of_ble_eq_true rfl,rfl⟩ rfl ?_;unfold Go.Proofs.Tryz.f95;push_cast (maxSteps:=mS))
 refine .inl ⟨_,_,_,toR2 h72,?_⟩
 (try push_cast (maxSteps:=mS))
 refine LoopK.ov (α:=Nat) [14] (fun k=>[i2 .i64 k]) (fun k=>[.rw 27 4 ((besideF (ps.take k) r x).map eV)]) (fun k=>k≤ps.length) (fun k=>ps.length - k) 1000 0 (by omega) (by ((try push_cast (maxSteps:=mS)));simp [besideF]) ?_
 rintro k hk
 by_cases hltk:k<ps.length
 ·have hv:=List.getElem?_eq_getElem hltk
  have hd:decide ((k:Int)<(ps.length:Int))=true:=decide_eq_true (by omega)
  have hpr:=hlt ps[k] (List.getElem_mem hltk)
  have hv2:=List.getElem?_eq_getElem hpr
  have hbs:besideF (ps.take (k+1)) r x=besideF (ps.take k) r x++[x[ps[k]]]:=by
   unfold besideF
   rw [List.take_add_one,hv,Option.toList_some,List.map_append,List.append_assoc,List.map_cons,List.map_nil,vAt_get hv2]
  have hbl:(besideF (ps.take k) r x).length=r.length+k:=by
   unfold besideF
   rw [List.length_append,List.length_map,List.length_take];omega
  generalize x[ps[k]]=v at *
  generalize ps[k]=p at *
  (try push_cast (maxSteps:=mS) [hd,getD_map hv,getD_map hv2])
  ((repeat' with_reducible refine And.intro ?_ ?_)<;>try exact sz)
  all_goals (try refine ⟨⟨.inl trivial,(by simp only [maxLen];omega),(by omega)⟩,?_⟩)
  ((repeat' with_reducible refine And.intro ?_ ?_)<;>try exact sz)
  refine ⟨k+1,by omega,by omega,Le.st ?_⟩
  rw [hbs]
  (try push_cast (maxSteps:=mS))
  all_goals (first|rfl|(simp;done)|(simp;rfl))
 ·have hd:decide ((k:Int)<(ps.length:Int))=false:=decide_eq_false (by omega)
  rw [List.take_of_length_le (by omega)]
  (try push_cast (maxSteps:=mS) [hd])
theorem d122 (c:Cl) (o:Jo):Spec V 131 [.ag ((eJo o).map .d),.c (.d (.at_ (eC c)))] (b2 (decide (o.r=c.name))):=by
 (refine Spec.of_go (L:=fun|0=>some [1,2]|1=>some [3]|_=>none) 1000 Go.Proofs.Tryz.func131 rfl rfl ⟨Nat.le_of_ble_eq_true rfl,rfl⟩ rfl ?_;unfold Go.Proofs.Tryz.f131;push_cast (maxSteps:=mS))
theorem d136 (l:List Jo) (g:FuncId) (caps:List DV) (p:Jo→Bool) (hl:okLen l) (hp:∀ v∈l,Spec V g ([.ag ((eJo v).map .d)]++caps.map fun d=>.c (.d d)) (b2 (p v))) :
  Spec V 164 [.c (.d (.sl 2 (l.map eJo))),.c (.d (.clo g caps))] (i2 .i64 (idxG p l 0)):=by
 (refine Spec.of_go (L:=fun|0=>some [0,1]|1=>some [0,1,7,8]|2=>some [0,1,7,8,9]|3=>some [0,1,5,7,8]|4=>some [0,1,5,7,8,16]|5=>some [4]|6=>some [0,1,7,8]|7=>some [4]|_=>none) 1000 Go.Proofs.Tryz.func164 rfl rfl ⟨Nat.le_of_ble_eq_true rfl,rfl⟩ rfl ?_;unfold Go.Proofs.Tryz.f164;push_cast (maxSteps:=mS))
 refine LoopK.s1 (α:=Nat) [8] (fun k=>[i2 .i64 k]) (fun k=>k≤l.length∧idxG p (l.drop k) k=idxG p l 0) (fun k=>l.length - k) 1000 0 ⟨by omega,rfl⟩ (by (try push_cast (maxSteps:=mS))) ?_
 rintro k ⟨hk,hc⟩
 by_cases hlt:k<l.length
 ·have hv:=atT hlt;have hd:=ltT hlt
  rw [drop_cons hv] at hc;simp only [idxG] at hc
  (try push_cast (maxSteps:=mS) [hd,getD_map hv])
  ((repeat' with_reducible refine And.intro ?_ ?_)<;>try exact sz)
  have hS:=hp l[k] (List.getElem_mem hlt)
  simp only [eJo_eq,List.map_cons,List.map_nil,List.cons_append,List.nil_append] at hS
  refine ⟨_,hS,by simp [dataL,data1,dataC],?_⟩
  clear hS
  (try push_cast (maxSteps:=mS))
  refine BrP.mk (fun h=>?_) (fun h=>?_)<;>try (push_cast (maxSteps:=mS) [h])
  ·rw [if_pos h] at hc
   exact hc
  ·rw [if_neg (by simp [h])] at hc
   ((repeat' with_reducible refine And.intro ?_ ?_)<;>try exact sz)
   refine ⟨k+1,⟨by omega,hc⟩,by omega,Le.st ?_⟩
   (try push_cast (maxSteps:=mS))
 ·have hd:=geF hlt
  rw [List.drop_eq_nil_of_le (by omega)] at hc;simp only [idxG] at hc
  (try push_cast (maxSteps:=mS) [hd,hc])
theorem d121 (l:List Jo) (g:FuncId) (caps:List DV) (p:Jo→Bool) (hl:okLen l) (hp:∀ v∈l,Spec V g ([.ag ((eJo v).map .d)]++caps.map fun d=>.c (.d d)) (b2 (p v))) :
  Spec V 130 [.c (.d (.sl 2 (l.map eJo))),.c (.d (.clo g caps))] (b2 (l.any p)):=by
 have h:=d136 l g caps p hl hp
 have e:=idxG_any p l 0
 (refine Spec.of_go (L:=fun|0=>some [0,1]|1=>some [4]|_=>none) 1000 Go.Proofs.Tryz.func130 rfl rfl ⟨Nat.le_of_ble_eq_true rfl,rfl⟩ rfl ?_;unfold Go.Proofs.Tryz.f130;push_cast (maxSteps:=mS))
 refine ⟨_,h,by simp [dataL,data1,dataC],?_⟩
 (try push_cast (maxSteps:=mS) [e])
theorem d79 (b:List Cl) (on:List Jo) (hb:b.length≤1000) (ho:okLen on):Spec V 94 [.c (.d (.sl 3 (b.map eC))),.c (.d (.sl 2 (on.map eJo)))] (.c (.d (.sl 1 ((othersN b on).map eJ)))):=by
 (refine Spec.of_go (L:=fun|0=>some [0,1]|1=>some [0,1,5]|2=>some [1,5,8,9,10]|3=>some [1,5,8,9,10,11]|4=>some [1,5,6,7,8,9,10]|5=>some [1,5,6,8,9,10,18]|6=>some [1,5,8,9,10]|7=>some [1,5,8,9,10]|8=>some [4]|_=>none) 1000 Go.Proofs.Tryz.func94 rfl rfl ⟨Nat.le_of_ble_eq_true rfl,rfl⟩ rfl ?_;unfold Go.Proofs.Tryz.f94;push_cast (maxSteps:=mS))
 refine LoopK.le (Le.nil 5 3 1 (by decide) (by (try push_cast (maxSteps:=mS)))) ?_
 (try push_cast (maxSteps:=mS))
 refine LoopK.ov (α:=Nat) [10] (fun k=>[i2 .i64 k]) (fun k=>[.rw 3 1 ((othersN (b.take k) on).map eJ)]) (fun k=>k≤b.length) (fun k=>b.length - k) 1000 0 (by omega) (by ((try push_cast (maxSteps:=mS)));simp [othersN]) ?_
 rintro k hk
 have hol:=others_len (b.take k) on
 rw [List.length_take] at hol
 by_cases hlt:k<b.length
 ·have hv:=atT hlt;have hd:=ltT hlt
  have hot:=others_take (on:=on) hv
  generalize b[k]=c at *
  have h121:=d121 on 131 [.at_ (eC c)] (fun o=>decide (o.r=c.name)) ho (fun o _=>d122 c o)
  rw [show (on.any fun o=>decide (o.r=c.name))=isR on c.name from rfl] at h121
  simp only [eC_eq] at h121
  (try push_cast (maxSteps:=mS) [hd,getD_map hv])
  ((repeat' with_reducible refine And.intro ?_ ?_)<;>try exact sz)
  refine ⟨_,h121,rfl,?_⟩
  cases hr:isR on c.name with
  | true =>
   rw [hr] at hot
   simp only [if_true,List.append_nil] at hot
   (try push_cast (maxSteps:=mS))
   ((repeat' with_reducible refine And.intro ?_ ?_)<;>try exact sz)
   refine ⟨k+1,by omega,by omega,Le.st ?_⟩
   rw [hot]
   (try push_cast (maxSteps:=mS));(all_goals first|rfl|skip)
  | false =>
   rw [hr] at hot
   simp only [Bool.false_eq_true,if_false] at hot
   (try push_cast (maxSteps:=mS))
   ((repeat' with_reducible refine And.intro ?_ ?_)<;>try exact sz)
   all_goals (try refine ⟨⟨.inl trivial,(by simp only [maxLen];omega),(by omega)⟩,?_⟩)
   ((repeat' with_reducible refine And.intro ?_ ?_)<;>try exact sz)
   refine ⟨k+1,by omega,by omega,Le.st ?_⟩
   rw [hot]
   (try push_cast (maxSteps:=mS))
   all_goals (first|rfl|(simp;done)|(simp;rfl))
 ·have hd:=geF hlt
  rw [List.take_of_length_le (by omega)]
  (try push_cast (maxSteps:=mS) [hd])
set_option maxHeartbeats 1000000 in
theorem d33 (a b:List Cl) (on:List Jo) (kind:Int) (ha:okCl a) (hb:okCl b) (ho:on.length≤1000) (hk:inK .i64 kind) :
  Spec V 127 [.c (.d (.sl 3 (a.map eC))),.c (.d (.sl 3 (b.map eC))),.c (.d (.sl 2 (on.map eJo))),i2 .i64 kind] (.tu [i2 .i64 ((checkJ a b on kind).1:Int),i2 .i64 (checkJ a b on kind).2]):=by
 have h63a:=f47 a ha
 have h63b:=f47 b hb
 have hla:a.length≤1099511627776:=ha.1
 have hlb:b.length≤1099511627776:=hb.1
 obtain ⟨R,hR⟩:∃ R,R=checkJ a b on kind:=⟨_,rfl⟩
 rw [← hR]
 simp only [checkJ] at hR
 (refine Spec.of_go (L:=fun|0=>some [0,1,2,3]|1=>some [0,1,2,3,11]|2=>some [0,1,2,3,11,35]|3=>some [8,9]|4=>some [0,1,2,3,13]|5=>some [0,1,2,3,13,43]|6=>some [8,9]|7=>some [0,1,2,3,50]|8=>some [8,9]|9=>some [0,1,2,3,53]|10=>some [8,9]|11=>some [0,1,2,3,14,15]|12=>some [0,1,2,3,14,15,56,57,58]|13=>some [0,1,2,3,14,15,56,57,58,59]|14=>some [0,1,2,3,14,15,16,17,56,57,58]|15=>some [0,1,2,3,14,15,16,17,18,20,56,57,58]|16=>some [0,1,2,3,14,15,16,17,18,20,21,23,56,57,58]|17=>some [0,1,2,3,14,15,16,17,18,21,56,57,58,79]|18=>some [8,9]|19=>some [0,1,2,3,14,15,16,17,56,57,58,87]|20=>some [8,9]|21=>some [0,1,2,3,14,15,16,17,56,57,58,94]|22=>some [8,9]|23=>some [0,1,2,3,14,15,17,56,57,58]|24=>some [0,1,2,3,14,15,56,57,58]|25=>some [0,1,2,3,14,15,56,57,58]|26=>some [0,1,2,15,118]|27=>some [0,2,15,119,120,121]|28=>some [0,2,15,119,120,121,122]|29=>some [0,2,15,25,119,120,121]|30=>some [0,2,15,25,28,119,120,121]|31=>some [0,2,15,119,120,121,140]|32=>some [8,9]|33=>some [0,2,15,119,120,121]|34=>some [8,9]|_=>none) 1000 Go.Proofs.Tryz.func127 rfl rfl ⟨Nat.le_of_ble_eq_true rfl,rfl⟩ rfl ?_;unfold Go.Proofs.Tryz.f127;push_cast (maxSteps:=mS))
 refine ⟨_,h63a,rfl,?_⟩
 (try push_cast (maxSteps:=mS))
 by_cases c1:(checkC a).2=0
 ·rw [if_neg (by simp [c1])] at hR
  (try push_cast (maxSteps:=mS) [c1])
  refine ⟨_,h63b,rfl,?_⟩
  by_cases c2:(checkC b).2=0
  ·rw [if_neg (by simp [c2])] at hR
   (try push_cast (maxSteps:=mS) [c2])
   by_cases k1:kind<1
   ·rw [if_pos (.inl k1)] at hR
    subst hR
    (try push_cast (maxSteps:=mS) [k1])
   ·by_cases k4:4<kind
    ·rw [if_pos (.inr k4)] at hR
     subst hR
     (try push_cast (maxSteps:=mS) [k1,k4])
    ·rw [if_neg (by omega)] at hR
     (try push_cast (maxSteps:=mS) [k1,k4])
     by_cases o0:on.length=0
     ·rw [if_pos o0] at hR
      subst hR
      (try push_cast (maxSteps:=mS) [o0])
     ·rw [if_neg o0] at hR
      have do0:decide ((on.length:Int)=0)=false:=decide_eq_false (by omega)
      (try push_cast (maxSteps:=mS) [do0])
      refine LoopK.ov (α:=Nat) [58] (fun k=>[i2 .i64 k]) (fun k=>[.mp (truS ((on.take k).map fun o=>o.l)),.mp (truS ((on.take k).map fun o=>o.r))]) (fun k=>k≤on.length∧pairJ a b ((on.take k).map fun o=>o.l) ((on.take k).map fun o=>o.r) (on.drop k) k=pairJ a b [] [] on 0) (fun k=>on.length - k) 1000 0 ⟨by omega,rfl⟩ (by (try push_cast (maxSteps:=mS))<;>first|rfl|exact ⟨rfl,rfl⟩|exact ⟨rfl,rfl,rfl⟩|trivial) ?_
      rintro k ⟨hk1,hrun⟩
      by_cases hlt:k<on.length
      ·have hv:=atT hlt;have hd:=ltT hlt
       rw [drop_cons hv] at hrun
       simp only [pairJ] at hrun
       have htk:on.take (k+1)=on.take k++[on[k]]:=by rw [List.take_add_one,hv];rfl
       have e1:(on.take (k+1)).map (fun o=>o.l)=(on.take k).map (fun o=>o.l)++[on[k].l]:=by rw [htk,List.map_append];rfl
       have e2:(on.take (k+1)).map (fun o=>o.r)=(on.take k).map (fun o=>o.r)++[on[k].r]:=by rw [htk,List.map_append];rfl
       rw [← e1,← e2] at hrun
       generalize on[k]=o at *
       have h64a:=f62 a o.l ha.1
       have h64b:=f62 b o.r hb.1
       have m1:=mset_truS o.l ((on.take k).map fun o=>o.l)
       have m2:=mset_truS o.r ((on.take k).map fun o=>o.r)
       generalize findF o.l a 0=Fa at *
       generalize findF o.r b 0=Fb at *
       obtain ⟨ca,na,oa⟩:=Fa
       obtain ⟨cb,nb,ob⟩:=Fb
       simp only [eC_eq] at hrun h64a h64b
       (try push_cast (maxSteps:=mS) [hd,getD_map hv])
       ((repeat' with_reducible refine And.intro ?_ ?_)<;>try exact sz)
       refine ⟨_,h64a,rfl,?_⟩
       (try push_cast (maxSteps:=mS))
       refine ⟨_,h64b,rfl,?_⟩
       cases oa with
       | false =>
        simp only [true_or,if_true] at hrun
        rw [hR,if_pos (by rw [← hrun];simp),← hrun]
        (try push_cast (maxSteps:=mS))
       | true =>
        cases ob with
        | false =>
         simp only [or_true,if_true] at hrun
         rw [hR,if_pos (by rw [← hrun];simp),← hrun]
         (try push_cast (maxSteps:=mS))
        | true =>
         simp only [Bool.true_eq_false,or_self,if_false] at hrun
         by_cases hkd:ca.kind=cb.kind
         ·rw [if_neg (by simp [hkd])] at hrun
          (try push_cast (maxSteps:=mS) [hkd])
          cases hm1:memB o.l ((on.take k).map fun o=>o.l) with
          | true =>
           rw [if_pos (.inl hm1)] at hrun
           rw [hR,if_pos (by rw [← hrun];simp),← hrun]
           (try push_cast (maxSteps:=mS) [hm1])
          | false =>
           cases hm2:memB o.r ((on.take k).map fun o=>o.r) with
           | true =>
            rw [if_pos (.inr hm2)] at hrun
            rw [hR,if_pos (by rw [← hrun];simp),← hrun]
            (try push_cast (maxSteps:=mS) [hm1,hm2])
           | false =>
            rw [if_neg (by rw [hm1,hm2];simp)] at hrun
            rw [hm1] at m1
            rw [hm2] at m2
            (try push_cast (maxSteps:=mS) [hm1,hm2,m1,m2])
            ((repeat' with_reducible refine And.intro ?_ ?_)<;>try exact sz)
            refine ⟨k+1,⟨by omega,hrun⟩,by omega,Le.st ?_⟩
            rw [e1,e2]
            (try push_cast (maxSteps:=mS));(all_goals first|rfl|skip)
         ·rw [if_pos hkd] at hrun
          rw [hR,if_pos (by rw [← hrun];simp),← hrun]
          (try push_cast (maxSteps:=mS) [hkd])
      ·obtain rfl:k=on.length:=by omega
       have hdk:decide ((on.length:Int)<(on.length:Int))=false:=decide_eq_false (by omega)
       rw [List.drop_eq_nil_of_le (by omega)] at hrun
       simp only [pairJ] at hrun
       rw [← hrun,List.take_length]
       rw [← hrun,if_neg (by simp)] at hR
       have hmr:∀ n,memB n (on.map fun o=>o.r)=isR on n:=fun n=>(isR_mem on n).symm
       (try push_cast (maxSteps:=mS) [hdk])
       have fin:¬ (kind=1∨kind=2)→R=(on.length,0):=fun h=>by rw [hR,if_neg (fun x=>h x.1)]
       by_cases k1':kind=1∨kind=2
       ·have kb:(decide (kind=1) || decide (kind=2))=true:=by simpa using k1'
        have key:∀ τ:Prop,τ→τ:=fun _ h=>h
        have hR2:R=if clashF a on b=true then (on.length,15) else (on.length,0):=by
         rw [hR]
         by_cases hc:clashF a on b=true<;>simp [hc,k1']
        clear hR fin
        by_cases k1:kind=1
        ·(try push_cast (maxSteps:=mS) [k1])
         refine LoopK.s1 (α:=Nat) [121] (fun k=>[i2 .i64 k]) (fun k=>k≤b.length∧clashF a on (b.drop k)=clashF a on b) (fun k=>b.length - k) 1000 0 ⟨by omega,rfl⟩ (by (try push_cast (maxSteps:=mS))) ?_
         rintro k ⟨hk2,hcl⟩
         by_cases hlt2:k<b.length
         ·have hv2:=List.getElem?_eq_getElem hlt2
          have hd2:decide ((k:Int)<(b.length:Int))=true:=decide_eq_true (by omega)
          rw [drop_cons hv2] at hcl
          simp only [clashF,List.any_cons] at hcl
          generalize b[k]=c at *
          have h64:=f62 a c.name ha.1
          generalize findF c.name a 0=Fa at *
          obtain ⟨ca,na,oa⟩:=Fa
          simp only [eC_eq] at hcl h64
          (try push_cast (maxSteps:=mS) [hd2,getD_map hv2])
          ((repeat' with_reducible refine And.intro ?_ ?_)<;>try exact sz)
          refine ⟨_,h64,rfl,?_⟩
          cases oa with
          | false =>
           rw [Bool.false_and,Bool.false_or] at hcl
           (try push_cast (maxSteps:=mS))
           ((repeat' with_reducible refine And.intro ?_ ?_)<;>try exact sz)
           refine ⟨k+1,⟨by omega,hcl⟩,by omega,Le.st ?_⟩
           (try push_cast (maxSteps:=mS));(all_goals first|rfl|skip)
          | true =>
           cases hr:isR on c.name with
           | false =>
            rw [hr] at hcl
            simp only [Bool.not_false,Bool.and_true,Bool.true_or] at hcl
            have hcb:clashF a on b=true:=hcl.symm
            rw [hR2,if_pos hcb]
            (try push_cast (maxSteps:=mS) [hmr,hr])
           | true =>
            rw [hr] at hcl
            simp only [Bool.not_true,Bool.and_false,Bool.false_or] at hcl
            (try push_cast (maxSteps:=mS) [hmr,hr])
            ((repeat' with_reducible refine And.intro ?_ ?_)<;>try exact sz)
            refine ⟨k+1,⟨by omega,hcl⟩,by omega,Le.st ?_⟩
            (try push_cast (maxSteps:=mS));(all_goals first|rfl|skip)
         ·have hd2:decide ((k:Int)<(b.length:Int))=false:=decide_eq_false (by omega)
          rw [List.drop_eq_nil_of_le (by omega)] at hcl
          have hcb:clashF a on b=false:=hcl.symm
          rw [hR2,if_neg (by simp [hcb])]
          (try push_cast (maxSteps:=mS) [hd2])
        ·have k2:kind=2:=by omega
         (try push_cast (maxSteps:=mS) [k1,k2])
         refine LoopK.s1 (α:=Nat) [121] (fun k=>[i2 .i64 k]) (fun k=>k≤b.length∧clashF a on (b.drop k)=clashF a on b) (fun k=>b.length - k) 1000 0 ⟨by omega,rfl⟩ (by (try push_cast (maxSteps:=mS))) ?_
         rintro k ⟨hk2,hcl⟩
         by_cases hlt2:k<b.length
         ·have hv2:=List.getElem?_eq_getElem hlt2
          have hd2:decide ((k:Int)<(b.length:Int))=true:=decide_eq_true (by omega)
          rw [drop_cons hv2] at hcl
          simp only [clashF,List.any_cons] at hcl
          generalize b[k]=c at *
          have h64:=f62 a c.name ha.1
          generalize findF c.name a 0=Fa at *
          obtain ⟨ca,na,oa⟩:=Fa
          simp only [eC_eq] at hcl h64
          (try push_cast (maxSteps:=mS) [hd2,getD_map hv2])
          ((repeat' with_reducible refine And.intro ?_ ?_)<;>try exact sz)
          refine ⟨_,h64,rfl,?_⟩
          cases oa with
          | false =>
           rw [Bool.false_and,Bool.false_or] at hcl
           (try push_cast (maxSteps:=mS))
           ((repeat' with_reducible refine And.intro ?_ ?_)<;>try exact sz)
           refine ⟨k+1,⟨by omega,hcl⟩,by omega,Le.st ?_⟩
           (try push_cast (maxSteps:=mS));(all_goals first|rfl|skip)
          | true =>
           cases hr:isR on c.name with
           | false =>
            rw [hr] at hcl
            simp only [Bool.not_false,Bool.and_true,Bool.true_or] at hcl
            have hcb:clashF a on b=true:=hcl.symm
            rw [hR2,if_pos hcb]
            (try push_cast (maxSteps:=mS) [hmr,hr])
           | true =>
            rw [hr] at hcl
            simp only [Bool.not_true,Bool.and_false,Bool.false_or] at hcl
            (try push_cast (maxSteps:=mS) [hmr,hr])
            ((repeat' with_reducible refine And.intro ?_ ?_)<;>try exact sz)
            refine ⟨k+1,⟨by omega,hcl⟩,by omega,Le.st ?_⟩
            (try push_cast (maxSteps:=mS));(all_goals first|rfl|skip)
         ·have hd2:decide ((k:Int)<(b.length:Int))=false:=decide_eq_false (by omega)
          rw [List.drop_eq_nil_of_le (by omega)] at hcl
          have hcb:clashF a on b=false:=hcl.symm
          rw [hR2,if_neg (by simp [hcb])]
          (try push_cast (maxSteps:=mS) [hd2])
       ·have k1:¬ kind=1:=fun h=>k1' (.inl h)
        have k2:¬ kind=2:=fun h=>k1' (.inr h)
        rw [fin k1']
        (try push_cast (maxSteps:=mS) [k1,k2])
  ·rw [if_pos c2] at hR
   subst hR
   (try push_cast (maxSteps:=mS) [c2])
 ·rw [if_pos c1] at hR
  subst hR
  (try push_cast (maxSteps:=mS) [c1])
end Go.LS.Tryz
