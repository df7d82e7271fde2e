/- Part SA: 16 texts,one behind the other. -/
import Derived.Test.YtfmbjaeppffdpaaGreatDoorPA
import Derived.Test.YtfmbjaeppffdpaaGreatDoorE
namespace Go.LS.Tryz
open Go Go.LS
set_option maxRecDepth 100000
@[push_cast] def lv0SA:Nat→Option (List Nat):=fun|0=>some [0,1]|1=>some [0,1,5]|2=>some [0,1,5,6]|3=>some [0,1,6,11]|4=>some [12]|5=>some [4]|6=>some [4]|7=>some [0,1,13]|8=>some [4]|9=>some [0,1,16]|10=>some [4]|11=>some [19]|12=>some [4]|13=>some [4]|_=>none
@[push_cast] def lv1SA:Nat→Option (List Nat):=fun|0=>some [0,2]|1=>some [2]|_=>none
@[push_cast] def lv2SA:Nat→Option (List Nat):=fun|0=>some [0]|1=>some [0,3]|2=>some [3,6,7,8]|3=>some [3,6,7,8,9]|4=>some [3,5,6,7,8]|5=>some [3,6,7,8]|6=>some [3,6,7,8]|7=>some [2]|_=>none
@[push_cast] def lv3SA:Nat→Option (List Nat):=fun|0=>some [0]|1=>some [2]|_=>none
@[push_cast] def lv4SA:Nat→Option (List Nat):=fun|0=>some [1,2,3]|1=>some [1,2,3,16]|2=>some [1,2,3,16,17]|3=>some [6]|4=>some [1,2,3,16,27]|5=>some [1,2,30,31,32]|6=>some [1,2,30,31,32,33]|7=>some [1,2,8,30,31,32]|8=>some [1,2,30,31,32,40]|9=>some [6]|10=>some [1,2,30,31,32]|11=>some [6]|12=>some [1,2,3,16,42]|13=>some [1,2,45,46,47]|14=>some [1,2,45,46,47,48]|15=>some [1,2,10,45,46,47]|16=>some [1,2,45,46,47,54]|17=>some [6]|18=>some [1,2,45,46,47]|19=>some [6]|20=>some [1,2,3,56]|21=>some [6]|22=>some [2,3,12]|23=>some [3,14]|24=>some [3,14,71]|25=>some [3,14,71,72]|26=>some [6]|27=>some [3,14,71,79]|28=>some [6]|29=>some [3,14,71,97]|30=>some [6]|31=>some [3,14,115]|32=>some [6]|33=>some [6]|_=>none
@[push_cast] def lv5SA:Nat→Option (List Nat):=fun|0=>some [1,2,3]|1=>some [1,2,3,17]|2=>some [1,2,3,17,18]|3=>some [6]|4=>some [1,2,3,17,20]|5=>some [6]|6=>some [1,2,3,17,30]|7=>some [1,2,33,34,35]|8=>some [1,2,33,34,35,36]|9=>some [1,2,8,33,34,35]|10=>some [1,2,33,34,35,43]|11=>some [6]|12=>some [1,2,33,34,35]|13=>some [6]|14=>some [1,2,3,45]|15=>some [1,2,48,49,50]|16=>some [1,2,48,49,50,51]|17=>some [1,2,10,48,49,50]|18=>some [1,2,48,49,50,57]|19=>some [6]|20=>some [1,2,48,49,50]|21=>some [6]|22=>some [3,11]|23=>some [3,11,12]|24=>some [3,11,12,13]|25=>some [3,11,12,13,81]|26=>some [3,11,12,13,81,82]|27=>some [6]|28=>some [3,11,12,13,81,86]|29=>some [6]|30=>some [3,11,12,13,81,93]|31=>some [6]|32=>some [3,11,100]|33=>some [6]|34=>some [11,106,107,108]|35=>some [11,106,107,108,109]|36=>some [11,15,106,107,108]|37=>some [11,106,107,108,115]|38=>some [6]|39=>some [11,106,107,108]|40=>some [6]|_=>none
@[push_cast] def lv6SA:Nat→Option (List Nat):=fun|0=>some [1,2]|1=>some [1,2,5,6,7,8]|2=>some [1,2,5,6,7,8,15]|3=>some [4]|4=>some [1,2,5,6,7,8,15,16]|5=>some [1,2,5,6,7,8,15,18]|6=>some [1,2,5,6,7,8,15,18]|7=>some [1,2,5,6,7,8,15,18]|8=>some [1,2,5,6,7,8]|9=>some [1,2,5,6,7,8,15,22]|10=>some [1,2,5,6,7,8]|11=>some [1,2,5,6,7,8,15,24]|12=>some [1,2,5,6,7,8,15,24]|13=>some [1,2,5,6,7,8,15,24]|14=>some [1,2,5,6,7,8]|15=>some [1,2,6,8,28]|16=>some [1,2,5,6,7,8]|17=>some [1,2,5,77]|18=>some [4]|19=>some [1,2,79]|20=>some [4]|21=>some [2,9,11]|22=>some [2,9,89]|23=>some [4]|24=>some [2,9,94]|25=>some [4]|26=>some [9,96,97,98]|27=>some [9,96,97,98,99]|28=>some [9,13,96,97,98]|29=>some [9,96,97,98,105]|30=>some [4]|31=>some [9,96,97,98]|32=>some [4]|_=>none
@[push_cast] def lv7SA:Nat→Option (List Nat):=fun|0=>some [1,2]|1=>some [1,2,5]|2=>some [1,2,5,13]|3=>some [4]|4=>some [1,16,17,18]|5=>some [1,16,17,18,19]|6=>some [1,7,16,17,18]|7=>some [1,8,16,17,18]|8=>some [1,8,16,17,18,26]|9=>some [4]|10=>some [1,16,17,18]|11=>some [4]|_=>none
@[push_cast] def lv8SA:Nat→Option (List Nat):=fun|0=>some [1,2]|1=>some [1,2,5]|2=>some [1,2,6,7,8,9]|3=>some [1,2,6,7,8,9,30]|4=>some [4]|5=>some [1,2,6,7,8,9,30,31]|6=>some [43]|7=>some [4]|8=>some [4]|9=>some [1,2,6,7,8,9,30,44]|10=>some [1,2,6,7,8,9,30,44]|11=>some [1,2,6,7,8,9,30,44]|12=>some [1,2,52]|13=>some [4]|14=>some [1,2,6,7,8,9,30,53]|15=>some [1,2,62]|16=>some [4]|17=>some [1,2,6,7,8,9,30,63]|18=>some [75]|19=>some [4]|20=>some [4]|21=>some [1,2,6,7,8,9,30,76]|22=>some [1,2,6,7,8,9,30,76]|23=>some [85]|24=>some [4]|25=>some [4]|26=>some [1,2,6,9,86]|27=>some [1,2,92]|28=>some [4]|29=>some [1,2,10]|30=>some [1,2,10,99]|31=>some [4]|32=>some [1,2,10,11]|33=>some [1,10,11]|34=>some [1,10,108,109,110]|35=>some [1,10,108,109,110,111]|36=>some [1,10,13,108,109,110]|37=>some [1,10,108,109,110,131]|38=>some [4]|39=>some [1,10,108,109,110]|40=>some [4]|_=>none
set_option linter.unusedSimpArgs false
set_option linter.unusedVariables false
theorem f71 (k:Int):Spec V 74 [i2 .i64 k] (s2 (wordF k)):=by
 (refine Spec.of_go (L:=fun|0=>some [0]|1=>some [3]|2=>some [3,4]|3=>some [2]|4=>some [3,6]|5=>some [2]|6=>some [8]|7=>some [2]|8=>some [2]|_=>none) 1000 Go.Proofs.Tryz.func74 rfl rfl ⟨Nat.le_of_ble_eq_true rfl,rfl⟩ rfl ?_;unfold Go.Proofs.Tryz.f74;push_cast (maxSteps:=mS))
 (repeat' (first|(simp (maxSteps:=mS) only [push_cast,Nat.reduceBEq,Nat.reduceBNe,Nat.reduceAdd,Nat.reduceSub,Nat.reduceMul,Nat.reduceLT,Nat.reduceLeDiff,Nat.reduceEqDiff,Nat.blt_eq,Int.reduceLT,Int.reduceLE,Int.reduceEq,Int.reduceToNat,Int.reduceNeg,Int.reduceAdd,Int.reduceSub,Int.reduceMul,Int.reducePow,reduceIte,decide_true,decide_false,reduceCtorEq])|(refine BrP.mk (fun h=>?_) (fun h=>?_)<;>(try simp only [h]))))
 all_goals simp_all [wordF,lit]<;>rfl
theorem f98 (k:Int):Spec V 178 [i2 .i64 k] (b2 false):=by
 (refine Spec.of_go (L:=lv3SA) 1000 Go.Proofs.Tryz.func178 rfl rfl ⟨Nat.le_of_ble_eq_true rfl,rfl⟩ rfl ?_;unfold Go.Proofs.Tryz.f178;push_cast (maxSteps:=mS))
 all_goals simp
theorem f99 (k:ByteArray):Spec V 179 [s2 k] (b2 false):=by
 (refine Spec.of_go (L:=lv3SA) 1000 Go.Proofs.Tryz.func179 rfl rfl ⟨Nat.le_of_ble_eq_true rfl,rfl⟩ rfl ?_;unfold Go.Proofs.Tryz.f179;push_cast (maxSteps:=mS))
 all_goals simp
theorem f100 (k:Int):Spec V 180 [i2 .i64 k] (b2 false):=by
 (refine Spec.of_go (L:=lv3SA) 1000 Go.Proofs.Tryz.func180 rfl rfl ⟨Nat.le_of_ble_eq_true rfl,rfl⟩ rfl ?_;unfold Go.Proofs.Tryz.f180;push_cast (maxSteps:=mS))
 all_goals simp
theorem f87 (a b:Int):Spec V 156 [i2 .i64 a,i2 .i64 b] (i2 .i64 (cmpI a b)):=by
 (refine Spec.of_go (L:=lv0SA) 1000 Go.Proofs.Tryz.func156 rfl rfl ⟨Nat.le_of_ble_eq_true rfl,rfl⟩ rfl ?_;unfold Go.Proofs.Tryz.f156;push_cast (maxSteps:=mS))
 (refine ⟨_,f98 _,rfl,?_⟩;try (push_cast (maxSteps:=mS)))
 (refine ⟨_,f98 _,rfl,?_⟩;try (push_cast (maxSteps:=mS)))
 (repeat' (first|(simp (maxSteps:=mS) only [push_cast,Nat.reduceBEq,Nat.reduceBNe,Nat.reduceAdd,Nat.reduceSub,Nat.reduceMul,Nat.reduceLT,Nat.reduceLeDiff,Nat.reduceEqDiff,Nat.blt_eq,Int.reduceLT,Int.reduceLE,Int.reduceEq,Int.reduceToNat,Int.reduceNeg,Int.reduceAdd,Int.reduceSub,Int.reduceMul,Int.reducePow,reduceIte,decide_true,decide_false,reduceCtorEq])|(refine BrP.mk (fun h=>?_) (fun h=>?_)<;>(try simp only [h]))))
 all_goals (simp_all [cmpI]<;>omega)
theorem f89 (a b:Int):Spec V 158 [i2 .i64 a,i2 .i64 b] (i2 .i64 (cmpI a b)):=by
 (refine Spec.of_go (L:=lv0SA) 1000 Go.Proofs.Tryz.func158 rfl rfl ⟨Nat.le_of_ble_eq_true rfl,rfl⟩ rfl ?_;unfold Go.Proofs.Tryz.f158;push_cast (maxSteps:=mS))
 (refine ⟨_,f100 _,rfl,?_⟩;try (push_cast (maxSteps:=mS)))
 (refine ⟨_,f100 _,rfl,?_⟩;try (push_cast (maxSteps:=mS)))
 (repeat' (first|(simp (maxSteps:=mS) only [push_cast,Nat.reduceBEq,Nat.reduceBNe,Nat.reduceAdd,Nat.reduceSub,Nat.reduceMul,Nat.reduceLT,Nat.reduceLeDiff,Nat.reduceEqDiff,Nat.blt_eq,Int.reduceLT,Int.reduceLE,Int.reduceEq,Int.reduceToNat,Int.reduceNeg,Int.reduceAdd,Int.reduceSub,Int.reduceMul,Int.reducePow,reduceIte,decide_true,decide_false,reduceCtorEq])|(refine BrP.mk (fun h=>?_) (fun h=>?_)<;>(try simp only [h]))))
 all_goals (simp_all [cmpI]<;>omega)
theorem f88 (a b:ByteArray):Spec V 157 [s2 a,s2 b] (i2 .i64 (cmpS a b)):=by
 (refine Spec.of_go (L:=lv0SA) 1000 Go.Proofs.Tryz.func157 rfl rfl ⟨Nat.le_of_ble_eq_true rfl,rfl⟩ rfl ?_;unfold Go.Proofs.Tryz.f157;push_cast (maxSteps:=mS))
 (refine ⟨_,f99 _,rfl,?_⟩;try (push_cast (maxSteps:=mS)))
 (refine ⟨_,f99 _,rfl,?_⟩;try (push_cast (maxSteps:=mS)))
 (repeat' (first|(simp (maxSteps:=mS) only [push_cast,Nat.reduceBEq,Nat.reduceBNe,Nat.reduceAdd,Nat.reduceSub,Nat.reduceMul,Nat.reduceLT,Nat.reduceLeDiff,Nat.reduceEqDiff,Nat.blt_eq,Int.reduceLT,Int.reduceLE,Int.reduceEq,Int.reduceToNat,Int.reduceNeg,Int.reduceAdd,Int.reduceSub,Int.reduceMul,Int.reducePow,reduceIte,decide_true,decide_false,reduceCtorEq])|(refine BrP.mk (fun h=>?_) (fun h=>?_)<;>(try simp only [h]))))
 all_goals simp_all [cmpS]
theorem f105 (s:ByteArray):Spec V 171 [s2 s] (.ag ((aV 1 s 0 false).map .d)):=by
 (refine Spec.of_go (L:=lv1SA) 1000 Go.Proofs.Tryz.func171 rfl rfl ⟨Nat.le_of_ble_eq_true rfl,rfl⟩ rfl ?_;unfold Go.Proofs.Tryz.f171;push_cast (maxSteps:=mS))
 trace_state
theorem f106 (n:Int):Spec V 136 [i2 .i64 n] (.ag ((aV 2 ByteArray.empty n false).map .d)):=by
 (refine Spec.of_go (L:=lv1SA) 1000 Go.Proofs.Tryz.func136 rfl rfl ⟨Nat.le_of_ble_eq_true rfl,rfl⟩ rfl ?_;unfold Go.Proofs.Tryz.f136;push_cast (maxSteps:=mS))
theorem f107 (b:Bool):Spec V 172 [b2 b] (.ag ((aV 3 ByteArray.empty 0 b).map .d)):=by
 (refine Spec.of_go (L:=lv1SA) 1000 Go.Proofs.Tryz.func172 rfl rfl ⟨Nat.le_of_ble_eq_true rfl,rfl⟩ rfl ?_;unfold Go.Proofs.Tryz.f172;push_cast (maxSteps:=mS))
theorem f46:∀ (m:Nat) (n:Nd),bN n≤m→bN n≤1099511627776→Spec V 33 [.ag ((eN n).map .d)] (i2 .i64 (cnt n))
 | 0,.mk _ _ _ _ _,h,_=>by simp only [bN] at h;omega
 | m+1,.mk op col v l ks,hm,hb=>by
  have IH:∀ k∈ks,Spec V 33 [.ag ((eN k).map .d)] (i2 .i64 (cnt k)):=fun k hk=>by
   have:=bN_mem hk
   simp only [bN] at hm hb
   exact f46 m k (by omega) (by omega)
  have h1:=td col.size 40
  have h2:=td v.s.size 40
  have h3:=td l.length 4
  have h4:=bVs_len l
  have h5:=cntL_bd l (1+(col.size:Int).tdiv 40+(v.s.size:Int).tdiv 40+(l.length:Int).tdiv 4)
  simp only [bN] at hm hb
  push_cast at h1 h2 h3
  (refine Spec.of_go (L:=fun|0=>some [1]|1=>some [1,3]|2=>some [1,3,25,26,27]|3=>some [1,3,25,26,27,28]|4=>some [1,3,5,25,26,27]|5=>some [1,3,25,26,27]|6=>some [1,3,25,26,27]|7=>some [3,39,40,41]|8=>some [3,39,40,41,42]|9=>some [3,7,39,40,41]|10=>some [3,7,39,40,41,46]|11=>some [2]|12=>some [3,39,40,41]|13=>some [3,39,40,41]|14=>some [2]|_=>none) 1000 Go.Proofs.Tryz.func33 rfl rfl ⟨Nat.le_of_ble_eq_true rfl,rfl⟩ rfl ?_;unfold Go.Proofs.Tryz.f33;push_cast (maxSteps:=mS))
  refine ⟨inK64 (by omega) (by omega),inK64 (by omega) (by omega),inK64 (by omega) (by omega),inK64 (by omega) (by omega),inK64 (by omega) (by omega),inK64 (by omega) (by omega),?_⟩
  refine LoopK.s1 (α:=Nat × Int) [3,27] (fun x=>[i2 .i64 x.2,i2 .i64 x.1]) (fun x=>x.1≤l.length∧0≤x.2∧cntL x.2 (l.drop x.1)=cntL (1+(col.size:Int).tdiv 40+(v.s.size:Int).tdiv 40+(l.length:Int).tdiv 4) l) (fun x=>l.length - x.1) 1000 (0,_) ⟨by omega,?_,rfl⟩ (by (try push_cast (maxSteps:=mS))) ?_
  ·omega
  rintro ⟨k,out⟩ ⟨hk,h0,hc⟩
  by_cases hlt:k<l.length
  ·have hv:=List.getElem?_eq_getElem hlt
   have hd:decide ((k:Int)<(l.length:Int))=true:=decide_eq_true (by omega)
   rw [drop_cons hv] at hc
   have g1:=td l[k].s.size 40
   have g2:=cntL_bd (l.drop (k+1)) (out+(l[k].s.size:Int).tdiv 40)
   simp only [cntL] at hc
   push_cast at g1
   (try push_cast (maxSteps:=mS) [hd,getD_map hv])
   refine ⟨by omega,inK64 (by omega) (by omega),inK64 (by omega) (by omega),inK64 (by omega) (by omega),(k+1,out+(l[k].s.size:Int).tdiv 40),⟨by omega,by omega,hc⟩,by omega,Le.st ?_⟩
   (try push_cast (maxSteps:=mS))
  ·have hd:=geF hlt
   rw [List.drop_eq_nil_of_le (by omega)] at hc
   simp only [cntL] at hc
   subst hc
   (try push_cast (maxSteps:=mS) [hd])
   have hcnt:cnt (.mk op col v l ks)=cntK (cntL (1+(col.size:Int).tdiv 40+(v.s.size:Int).tdiv 40+(l.length:Int).tdiv 4) l) ks:=rfl
   rw [hcnt]
   clear hcnt h0 hk
   generalize cntL (1+(col.size:Int).tdiv 40+(v.s.size:Int).tdiv 40+(l.length:Int).tdiv 4) l=B at *
   refine LoopK.s1 (α:=Nat × Int) [3,41] (fun x=>[i2 .i64 x.2,i2 .i64 x.1]) (fun x=>x.1≤ks.length∧0≤x.2∧x.2+bNs (ks.drop x.1)≤B+bNs ks∧cntK x.2 (ks.drop x.1)=cntK B ks) (fun x=>ks.length - x.1) 1000 (0,B) ⟨by omega,by omega,by simp,rfl⟩ (by (try push_cast (maxSteps:=mS))) ?_
   rintro ⟨i,out⟩ ⟨hi,h0,hbd,hc⟩
   by_cases hlt:i<ks.length
   ·have hv:=List.getElem?_eq_getElem hlt
    have hd:decide ((i:Int)<(ks.length:Int))=true:=decide_eq_true (by omega)
    have hbk:=cnt_bd ks[i]
    have hkl:=bNs_len ks
    rw [drop_cons hv] at hc hbd
    simp only [cntK,bNs] at hc hbd
    (try push_cast (maxSteps:=mS) [hd,getD_map hv])
    (repeat ((with_reducible refine And.intro ?_ ?_);focus (first|trivial|omega|exact ix|exact inKu8 (by omega) (by omega))))
    refine BrP.mk (fun h=>?_) (fun h=>?_)<;>try (push_cast (maxSteps:=mS) [h])
    ·rw [if_pos (by simpa using h)] at hc
     exact hc
    ·rw [if_neg (by simpa using h)] at hc
     (have hS:=IH ks[i] (List.getElem_mem hlt);simp only [eS_eq,eN_eq,eV_eq,eRN_eq,eRV_eq,eC_eq,eRC_eq,List.map_cons,List.map_nil,i2,b2,s2] at hS;refine ⟨_,hS,rfl,?_⟩;clear hS;try (push_cast (maxSteps:=mS)))
     refine ⟨inK64 (by omega) (by omega),inK64 (by omega) (by omega),(i+1,out+cnt ks[i]),⟨by omega,by omega,by simp only at hbd ⊢;omega,hc⟩,by simp only;omega,Le.st ?_⟩
     (try push_cast (maxSteps:=mS))
   ·have hd:=geF hlt
    rw [List.drop_eq_nil_of_le (by simp only at hi ⊢;omega)] at hc
    simp only [cntK] at hc
    (try push_cast (maxSteps:=mS) [hd])
    exact hc
theorem f12 (n:Nd) (h:bN n≤1099511627776):Spec V 11 [.ag ((eN n).map .d)] (b2 (decide (cnt n≤120))):=by
 (refine Spec.of_go (L:=fun|0=>some [1]|1=>some [2]|_=>none) 1000 Go.Proofs.Tryz.func11 rfl rfl ⟨Nat.le_of_ble_eq_true rfl,rfl⟩ rfl ?_;unfold Go.Proofs.Tryz.f11;push_cast (maxSteps:=mS))
 (have hS:=f46 (bN n) n (Nat.le_refl _) h;simp only [eS_eq,eN_eq,eV_eq,eRN_eq,eRV_eq,eC_eq,eRC_eq,List.map_cons,List.map_nil,i2,b2,s2] at hS;refine ⟨_,hS,rfl,?_⟩;clear hS;try (push_cast (maxSteps:=mS)))
theorem f13 (l:List Cl) (hl:okLen l):Spec V 71 [.c (.d (.sl 3 (l.map eC)))] (b2 (!longC l && decide (l.length≤12))):=by
 (refine Spec.of_go (L:=fun|0=>some [0]|1=>some [0,5,6,7]|2=>some [0,5,6,7,8]|3=>some [0,4,5,6,7]|4=>some [0,5,6,7,14]|5=>some [2]|6=>some [0,5,6,7]|7=>some [2]|_=>none) 1000 Go.Proofs.Tryz.func71 rfl rfl ⟨Nat.le_of_ble_eq_true rfl,rfl⟩ rfl ?_;unfold Go.Proofs.Tryz.f71;push_cast (maxSteps:=mS))
 refine LoopK.s1 (α:=Nat) [7] (fun k=>[i2 .i64 k]) (fun k=>k≤l.length∧longC (l.drop k)=longC l) (fun k=>l.length - k) 1000 0 ⟨by omega,rfl⟩ (by (try push_cast (maxSteps:=mS))) ?_
 rintro k ⟨hk,hc⟩
 by_cases hlt:k<l.length
 ·have hv:=atT hlt;have hd:=ltT hlt
  rw [drop_cons hv] at hc;simp only [longC] at hc
  (try push_cast (maxSteps:=mS) [hd,getD_map hv])
  (repeat ((with_reducible refine And.intro ?_ ?_);focus (first|trivial|omega|exact ix|exact inKu8 (by omega) (by omega))))
  refine BrP.mk (fun h=>?_) (fun h=>?_)<;>try (push_cast (maxSteps:=mS) [h])
  ·rw [if_pos (by have:=of_decide_eq_true h;omega)] at hc
   (first|rfl|exact hc|exact hc.symm|(simp [← hc];done)|(simp_all;done)|(simp_all<;>omega))
  ·rw [if_neg (by have:=of_decide_eq_false h;omega)] at hc
   refine ⟨inK64 (by omega) (by omega),k+1,⟨by omega,hc⟩,by omega,Le.st ?_⟩
   (try push_cast (maxSteps:=mS))
 ·have hd:=geF hlt
  rw [List.drop_eq_nil_of_le (by omega)] at hc;simp only [longC] at hc
  (try push_cast (maxSteps:=mS) [hd])
  rw [← hc];simp;omega
theorem f48:∀ (m:Nat) (n:Nd) (r:Int),bN n≤m→bN n≤1099511627776→0≤r→r≤1000→Spec V 35 [.ag ((eN n).map .d),i2 .i64 r] (b2 (deep n r))
 | 0,.mk _ _ _ _ _,r,h,_,_,_=>by simp only [bN] at h;omega
 | m+1,.mk op col v l ks,r,hm,hb,h0,h1=>by
  have IH:∀ k∈ks,∀ r:Int,0≤r→r≤1000→Spec V 35 [.ag ((eN k).map .d),i2 .i64 r] (b2 (deep k r)):=fun k hk=>by
   have:=bN_mem hk
   simp only [bN] at hm hb
   exact fun r=>f48 m k r (by omega) (by omega)
  have hkl:=bNs_len ks
  simp only [bN] at hm hb
  (refine Spec.of_go (L:=fun|0=>some [1,2]|1=>some [1,2,8]|2=>some [4]|3=>some [1,10,11,12]|4=>some [1,10,11,12,13]|5=>some [1,6,10,11,12]|6=>some [1,10,11,12,19]|7=>some [4]|8=>some [1,10,11,12]|9=>some [4]|_=>none) 1000 Go.Proofs.Tryz.func35 rfl rfl ⟨Nat.le_of_ble_eq_true rfl,rfl⟩ rfl ?_;unfold Go.Proofs.Tryz.f35;push_cast (maxSteps:=mS))
  refine BrP.mk (fun h=>?_) (fun h=>?_)<;>try (push_cast (maxSteps:=mS) [h])
  ·rw [deep_eq,if_pos (by simpa using h)]
  ·rw [deep_eq,if_neg (by simpa using h)]
   have hr:r≠0:=by simpa using h
   (try push_cast (maxSteps:=mS))
   refine LoopK.s1 (α:=Nat) [12] (fun k=>[i2 .i64 k]) (fun k=>k≤ks.length∧deepK (ks.drop k) (r - 1)=deepK ks (r - 1)) (fun k=>ks.length - k) 1000 0 ⟨by omega,rfl⟩ (by (try push_cast (maxSteps:=mS))) ?_
   rintro k ⟨hk,hc⟩
   by_cases hlt:k<ks.length
   ·have hv:=atT hlt;have hd:=ltT hlt
    rw [drop_cons hv] at hc;simp only [deepK] at hc
    (try push_cast (maxSteps:=mS) [hd,getD_map hv])
    refine ⟨by omega,inK64 (by omega) (by omega),?_⟩
    (have hS:=IH ks[k] (List.getElem_mem hlt) (r - 1) (by omega) (by omega);simp only [eS_eq,eN_eq,eV_eq,eRN_eq,eRV_eq,eC_eq,eRC_eq,List.map_cons,List.map_nil,i2,b2,s2] at hS;refine ⟨_,hS,rfl,?_⟩;clear hS;try (push_cast (maxSteps:=mS)))
    refine BrP.mk (fun h=>?_) (fun h=>?_)<;>try (push_cast (maxSteps:=mS) [h])
    ·rw [if_pos h] at hc
     (first|rfl|exact hc|exact hc.symm|(simp [← hc];done)|(simp_all;done)|(simp_all<;>omega))
    ·rw [if_neg (by simp [h])] at hc
     (try push_cast (maxSteps:=mS))
     refine ⟨inK64 (by omega) (by omega),k+1,⟨by omega,hc⟩,by omega,Le.st ?_⟩
     (try push_cast (maxSteps:=mS))
   ·have hd:=geF hlt
    rw [List.drop_eq_nil_of_le (by omega)] at hc;simp only [deepK] at hc
    (try push_cast (maxSteps:=mS) [hd])
    (first|rfl|exact hc|exact hc.symm|(simp [← hc];done)|(simp_all;done)|(simp_all<;>omega))
theorem f22 (v:Vl):Spec V 37 [.ag ((eV v).map .d)] (.ag ((eRV v).map .d)):=by
 (refine Spec.of_go (L:=fun|0=>some [1,2]|1=>some [1,2,3]|2=>some [2,3,12]|3=>some [2,3]|4=>some [2]|_=>none) 1000 Go.Proofs.Tryz.func37 rfl rfl ⟨Nat.le_of_ble_eq_true rfl,rfl⟩ rfl ?_;unfold Go.Proofs.Tryz.f37;push_cast (maxSteps:=mS))
 refine BrP.mk (fun h=>?_) (fun h=>?_)<;>try (push_cast (maxSteps:=mS) [h])
 ·rfl
 ·rfl
theorem f24 (l:List Vl) (hl:okLen l):Spec V 38 [.c (.d (.sl 4 (l.map eV)))] (.c (.d (.sl 4 (l.map eRV)))):=by
 (refine Spec.of_go (L:=lv2SA) 1000 Go.Proofs.Tryz.func38 rfl rfl ⟨Nat.le_of_ble_eq_true rfl,rfl⟩ rfl ?_;unfold Go.Proofs.Tryz.f38;push_cast (maxSteps:=mS))
 refine LoopK.le (Le.nil 3 38 4 (by decide) (by (try push_cast (maxSteps:=mS)))) ?_
 (try push_cast (maxSteps:=mS))
 refine LoopK.ov (α:=Nat) [8] (fun k=>[i2 .i64 k]) (fun k=>[.rw 38 4 ((l.take k).map eRV)]) (fun k=>k≤l.length) (fun k=>l.length - k) 1000 0 (by omega) (by (try push_cast (maxSteps:=mS))) ?_
 rintro k hk
 by_cases hlt:k<l.length
 ·have hv:=atT hlt;have hd:=ltT hlt
  (try push_cast (maxSteps:=mS) [hd,getD_map hv])
  refine ⟨by omega,?_⟩
  (have hS:=f22 l[k];simp only [eS_eq,eN_eq,eV_eq,eRN_eq,eRV_eq,eC_eq,eRC_eq,List.map_cons,List.map_nil,i2,b2,s2] at hS;refine ⟨_,hS,rfl,?_⟩;clear hS;try (push_cast (maxSteps:=mS)))
  refine ⟨⟨.inl trivial,by simp [maxLen];omega,by simp;omega⟩,inK64 (by omega) (by omega),k+1,by omega,by omega,Le.st ?_⟩
  (try push_cast (maxSteps:=mS))
  rw [map_take_succ hv];rfl
 ·have hd:=geF hlt
  (try push_cast (maxSteps:=mS) [hd])
  rw [List.take_of_length_le (by omega)]
theorem f103 (b:Int):Spec V 169 [i2 .u8 b] (.tu [i2 .i64 (beginF b).1,b2 (beginF b).2]):=by
 (refine Spec.of_go (L:=fun|0=>some [0]|1=>some [0,4]|2=>some [2,3]|3=>some [0,7]|4=>some [2,3]|5=>some [0,10]|6=>some [2,3]|7=>some [0,13]|8=>some [2,3]|9=>some [0,16]|10=>some [2,3]|11=>some [0,19]|12=>some [2,3]|13=>some [0,22]|14=>some [2,3]|15=>some [0,25]|16=>some [2,3]|17=>some [28]|18=>some [2,3]|19=>some [2,3]|_=>none) 1000 Go.Proofs.Tryz.func169 rfl rfl ⟨Nat.le_of_ble_eq_true rfl,rfl⟩ rfl ?_;unfold Go.Proofs.Tryz.f169;push_cast (maxSteps:=mS))
 (repeat' (first|(simp (maxSteps:=mS) only [push_cast,Nat.reduceBEq,Nat.reduceBNe,Nat.reduceAdd,Nat.reduceSub,Nat.reduceMul,Nat.reduceLT,Nat.reduceLeDiff,Nat.reduceEqDiff,Nat.blt_eq,Int.reduceLT,Int.reduceLE,Int.reduceEq,Int.reduceToNat,Int.reduceNeg,Int.reduceAdd,Int.reduceSub,Int.reduceMul,Int.reducePow,reduceIte,decide_true,decide_false,reduceCtorEq])|(refine BrP.mk (fun h=>?_) (fun h=>?_)<;>(try simp only [h]))))
 all_goals simp only [decide_eq_true_eq,decide_eq_false_iff_not] at *
 all_goals simp [beginF, *]
theorem f104 (b lo hi nx:Int):Spec V 170 [i2 .u8 b,i2 .u8 lo,i2 .u8 hi,i2 .i64 nx] (.tu [i2 .i64 (followF b lo hi nx).1,b2 (followF b lo hi nx).2]):=by
 (refine Spec.of_go (L:=fun|0=>some [0,1,2,3]|1=>some [3,17]|2=>some [8,9]|3=>some [8,9]|_=>none) 1000 Go.Proofs.Tryz.func170 rfl rfl ⟨Nat.le_of_ble_eq_true rfl,rfl⟩ rfl ?_;unfold Go.Proofs.Tryz.f170;push_cast (maxSteps:=mS))
 (repeat' (first|(simp (maxSteps:=mS) only [push_cast,Nat.reduceBEq,Nat.reduceBNe,Nat.reduceAdd,Nat.reduceSub,Nat.reduceMul,Nat.reduceLT,Nat.reduceLeDiff,Nat.reduceEqDiff,Nat.blt_eq,Int.reduceLT,Int.reduceLE,Int.reduceEq,Int.reduceToNat,Int.reduceNeg,Int.reduceAdd,Int.reduceSub,Int.reduceMul,Int.reducePow,reduceIte,decide_true,decide_false,reduceCtorEq])|(refine BrP.mk (fun h=>?_) (fun h=>?_)<;>(try simp only [h]))))
 all_goals simp only [decide_eq_true_eq,decide_eq_false_iff_not] at *
 all_goals (unfold followF;(repeat' split)<;>first|(exfalso;omega)|exact ⟨rfl,rfl⟩|(simp_all;done))
theorem f96 (st b:Int):Spec V 146 [i2 .i64 st,i2 .u8 b] (.tu [i2 .i64 (stepF st b).1,b2 (stepF st b).2]):=by
 (refine Spec.of_go (L:=fun|0=>some [0,1]|1=>some [1,6]|2=>some [1,6,7]|3=>some [4,5]|4=>some [1,6,13]|5=>some [4,5]|6=>some [1,6,19]|7=>some [4,5]|8=>some [1,6,25]|9=>some [4,5]|10=>some [1,6,31]|11=>some [4,5]|12=>some [1,6,37]|13=>some [4,5]|14=>some [1,6,43]|15=>some [4,5]|16=>some [1,49]|17=>some [4,5]|18=>some [4,5]|_=>none) 1000 Go.Proofs.Tryz.func146 rfl rfl ⟨Nat.le_of_ble_eq_true rfl,rfl⟩ rfl ?_;unfold Go.Proofs.Tryz.f146;push_cast (maxSteps:=mS))
 (repeat' (first|(simp (maxSteps:=mS) only [push_cast,Nat.reduceBEq,Nat.reduceBNe,Nat.reduceAdd,Nat.reduceSub,Nat.reduceMul,Nat.reduceLT,Nat.reduceLeDiff,Nat.reduceEqDiff,Nat.blt_eq,Int.reduceLT,Int.reduceLE,Int.reduceEq,Int.reduceToNat,Int.reduceNeg,Int.reduceAdd,Int.reduceSub,Int.reduceMul,Int.reducePow,reduceIte,decide_true,decide_false,reduceCtorEq])|(refine BrP.mk (fun h=>?_) (fun h=>?_)<;>(try simp only [h]))))
 all_goals try (refine ⟨_,f103 _,rfl,?_⟩;(try push_cast (maxSteps:=mS)))
 all_goals try (refine ⟨_,f104 _ _ _ _,rfl,?_⟩;(try push_cast (maxSteps:=mS)))
 all_goals simp only [decide_eq_true_eq,decide_eq_false_iff_not] at *
 all_goals simp [stepF, *]
theorem f84 (st:Int) (s:ByteArray) (hs:s.size≤1099511627776):Spec V 114 [i2 .i64 st,s2 s] (.tu [i2 .i64 (runS st (bytes s)).1,i2 .i64 ((runS st (bytes s)).2:Int)]):=by
 (refine Spec.of_go (L:=fun|0=>some [0,1,5]|1=>some [0,1,5,11]|2=>some [0,1,5,6,7]|3=>some [0,1,5,6,21]|4=>some [0,1,5]|5=>some [0,1,5]|6=>some [4,5]|_=>none) 1000 Go.Proofs.Tryz.func114 rfl rfl ⟨Nat.le_of_ble_eq_true rfl,rfl⟩ rfl ?_;unfold Go.Proofs.Tryz.f114;push_cast (maxSteps:=mS))
 refine LoopK.s1 (α:=Int × Nat) [0,5] (fun x=>[i2 .i64 x.1,i2 .i64 x.2]) (fun x=>x.2≤s.size∧(runS x.1 ((bytes s).drop x.2)).1=(runS st (bytes s)).1∧x.2+(runS x.1 ((bytes s).drop x.2)).2=(runS st (bytes s)).2) (fun x=>s.size - x.2) 1000 (st,0) ⟨by omega,by simp,by simp⟩ (by (try push_cast (maxSteps:=mS))) ?_
 rintro ⟨st',k⟩ ⟨hk,hc1,hc2⟩
 simp only at hk hc1 hc2
 by_cases hlt:k<s.size
 ·have hv:(bytes s)[k]?=some (sB s k):=by
   have:k<(bytes s).length:=by rw [← size_bytes];exact hlt
   simp [sB,List.getD,List.getElem?_eq_getElem this]
  have hd:decide ((k:Int)<(s.size:Int))=true:=decide_eq_true (by omega)
  rw [drop_cons hv] at hc1 hc2
  simp only [runS] at hc1 hc2
  (try push_cast (maxSteps:=mS) [hd])
  refine ⟨by omega,?_⟩
  refine ⟨_,f96 _ _,rfl,?_⟩
  (try push_cast (maxSteps:=mS))
  generalize hp:stepF st' (sB s k).toNat=p at *
  refine BrP.mk (fun h=>?_) (fun h=>?_)<;>try (push_cast (maxSteps:=mS) [h])
  ·have h':¬ p.2=true:=by simpa using h
   rw [if_neg h'] at hc1 hc2
   (try push_cast (maxSteps:=mS))
   exact ⟨hc1,by omega⟩
  ·have h':p.2=true:=by simpa using h
   rw [if_pos h'] at hc1 hc2
   (try push_cast (maxSteps:=mS))
   refine ⟨inK64 (by omega) (by omega),(p.1,k+1),⟨by simp only;omega,hc1,by simp only at hc2 ⊢;omega⟩,by simp only;omega,Le.st ?_⟩
   (try push_cast (maxSteps:=mS))
 ·have hd:decide ((k:Int)<(s.size:Int))=false:=decide_eq_false (by omega)
  have hn:(bytes s).drop k=[]:=List.drop_eq_nil_of_le (by rw [← size_bytes];omega)
  rw [hn] at hc1 hc2;simp only [runS] at hc1 hc2
  (try push_cast (maxSteps:=mS) [hd])
  exact ⟨hc1,by omega⟩
theorem f72 (s:ByteArray) (hs:s.size≤1099511627776):Spec V 75 [s2 s] (b2 (validB s)):=by
 (refine Spec.of_go (L:=fun|0=>some [0]|1=>some [0,3,4]|2=>some [2]|_=>none) 1000 Go.Proofs.Tryz.func75 rfl rfl ⟨Nat.le_of_ble_eq_true rfl,rfl⟩ rfl ?_;unfold Go.Proofs.Tryz.f75;push_cast (maxSteps:=mS))
 refine ⟨_,f84 0 s hs,rfl,?_⟩
 (try push_cast (maxSteps:=mS))
 have e:((((runS 0 (bytes s)).2:Int)=(s.size:Int)))=((runS 0 (bytes s)).2=s.size):=propext (by omega)
 simp only [e]
 (repeat' (first|(simp (maxSteps:=mS) only [push_cast,Nat.reduceBEq,Nat.reduceBNe,Nat.reduceAdd,Nat.reduceSub,Nat.reduceMul,Nat.reduceLT,Nat.reduceLeDiff,Nat.reduceEqDiff,Nat.blt_eq,Int.reduceLT,Int.reduceLE,Int.reduceEq,Int.reduceToNat,Int.reduceNeg,Int.reduceAdd,Int.reduceSub,Int.reduceMul,Int.reducePow,reduceIte,decide_true,decide_false,reduceCtorEq])|(refine BrP.mk (fun h=>?_) (fun h=>?_)<;>(try simp only [h]))))
 all_goals simp_all [validB]
theorem f91 (c:Int) (h0:0≤c) (h1:c≤1114111):Spec V 145 [i2 .i64 c] (s2 (strN (putF c))):=by
 (refine Spec.of_go (L:=fun|0=>some [0]|1=>some [0,4]|2=>some [2]|3=>some [0,10]|4=>some [2]|5=>some [0,22]|6=>some [2]|7=>some [2]|_=>none) 1000 Go.Proofs.Tryz.func145 rfl rfl ⟨Nat.le_of_ble_eq_true rfl,rfl⟩ rfl ?_;unfold Go.Proofs.Tryz.f145;push_cast (maxSteps:=mS))
 have e1:∀ k:Int,c.tdiv k=c / k:=fun k=>Int.tdiv_eq_ediv_of_nonneg h0
 have e2:∀ k:Int,c.tmod k=c % k:=fun k=>Int.tmod_eq_emod_of_nonneg h0
 have e3:∀ k m:Int,0<k→(c / k).tmod m=c / k % m:=fun k m hk=>Int.tmod_eq_emod_of_nonneg (Int.ediv_nonneg h0 (by omega))
 refine BrP.mk (fun h=>?_) (fun h=>?_)<;>try (push_cast (maxSteps:=mS) [h])
 ·have h':=of_decide_eq_true h
  (repeat ((with_reducible refine And.intro ?_ ?_);focus (first|trivial|omega|exact ix|exact inKu8 (by omega) (by omega))))
  rw [putF,if_pos h']
 ·have h':=of_decide_eq_false h
  rw [putF,if_neg h']
  refine BrP.mk (fun h=>?_) (fun h=>?_)<;>try (push_cast (maxSteps:=mS) [h])
  ·have h':=of_decide_eq_true h
   rw [if_pos h']
   simp only [e1,e2,e3 64 64 (by decide),e3 4096 64 (by decide)]
   (repeat ((with_reducible refine And.intro ?_ ?_);focus (first|trivial|omega|exact ix|exact inKu8 (by omega) (by omega))))
   trivial
  ·have h':=of_decide_eq_false h
   rw [if_neg h']
   refine BrP.mk (fun h=>?_) (fun h=>?_)<;>try (push_cast (maxSteps:=mS) [h])
   ·have h':=of_decide_eq_true h
    rw [if_pos h']
    simp only [e1,e2,e3 64 64 (by decide),e3 4096 64 (by decide)]
    (repeat ((with_reducible refine And.intro ?_ ?_);focus (first|trivial|omega|exact ix|exact inKu8 (by omega) (by omega))))
    trivial
   ·have h':=of_decide_eq_false h
    rw [if_neg h']
    simp only [e1,e2,e3 64 64 (by decide),e3 4096 64 (by decide)]
    (repeat ((with_reducible refine And.intro ?_ ?_);focus (first|trivial|omega|exact ix|exact inKu8 (by omega) (by omega))))
    trivial
set_option maxHeartbeats 4000000 in
theorem f78 (s:ByteArray) (hs:s.size≤1099511627776):Spec V 113 [s2 s] (i2 .i64 (sizeF s:Int)):=by
 (refine Spec.of_go (L:=fun|0=>some [0]|1=>some [0,3]|2=>some [0,3,12]|3=>some [0,3]|4=>some [0,3,4]|5=>some [0,3,4,19]|6=>some [0,3,4]|7=>some [0,3,4,31]|8=>some [0,3,4]|9=>some [0,3,4,49]|10=>some [0,3,4]|11=>some [0,3,93]|12=>some [2]|13=>some [2]|_=>none) 1000 Go.Proofs.Tryz.func113 rfl rfl ⟨Nat.le_of_ble_eq_true rfl,rfl⟩ rfl ?_;unfold Go.Proofs.Tryz.f113;push_cast (maxSteps:=mS))
 refine LoopK.s1 (α:=Nat) [3] (fun n=>[i2 .i64 n]) (fun n=>1≤n∧n≤5∧szF s (5 - n) n=sizeF s) (fun n=>5 - n) 1000 1 ⟨by omega,by omega,rfl⟩ (by (try push_cast (maxSteps:=mS))) ?_
 rintro n ⟨h1,h5,hc⟩
 have b0:=(sB s 0).toNat_lt
 have b1:=(sB s 1).toNat_lt
 have b2:=(sB s 2).toNat_lt
 have b3:=(sB s 3).toNat_lt
 by_cases h4:n≤4
 ·by_cases hl:n≤s.size
  ·have hd:decide ((n:Int)≤4)=true:=decide_eq_true (by omega)
   have hd':decide ((n:Int)≤(s.size:Int))=true:=decide_eq_true (by omega)
   have hf:szF s (5 - n) n=if okN s n=true then n else szF s (5 - (n+1)) (n+1):=by
    rw [show 5 - n=(5 - (n+1))+1 by omega];simp only [szF,if_pos hl]
   rw [hf] at hc
   clear hd hd' hf
   obtain rfl|rfl|rfl|rfl:n=1∨n=2∨n=3∨n=4:=by omega
   ·have hd:decide ((1:Int)≤(s.size:Int))=true:=decide_eq_true (by omega)
    (try push_cast (maxSteps:=mS) [hd])
    (repeat ((with_reducible refine And.intro ?_ ?_);focus (first|trivial|omega|exact ix|exact inKu8 (by omega) (by omega))))
    have hcp:((sB s 0).toNat:Int)=cpF s 1:=rfl
    rw [hcp]
    (refine DrawK.of (.take 0 (.take 1 (.take 2 (.take 3 (.take 4 (.take 5 (.take 6 (.take 7 (.take 8 (.take 9 (.take 10 (.take 11 (.take 12 (.take 13 (.take 14 (.take 15 (.take 17 (.take 18 (.take 19 (.one 16 (.take 20 (.take 21 .done)))))))))))))))))))))) 1000 (by decide +kernel) ?_;try (push_cast (maxSteps:=mS)))
    have hokd:okN s 1=(decide (0≤cpF s 1) && decide (cpF s 1≤1114111) && (decide (cpF s 1<55296) || decide (57343<cpF s 1)) && decide (strN (putF (cpF s 1))=s.extract 0 1)):=rfl
    generalize cpF s 1=c at *
    clear hcp
    (repeat' (first|(simp (maxSteps:=mS) only [push_cast,Nat.reduceBEq,Nat.reduceBNe,Nat.reduceAdd,Nat.reduceSub,Nat.reduceMul,Nat.reduceLT,Nat.reduceLeDiff,Nat.reduceEqDiff,Nat.blt_eq,Int.reduceLT,Int.reduceLE,Int.reduceEq,Int.reduceToNat,Int.reduceNeg,Int.reduceAdd,Int.reduceSub,Int.reduceMul,Int.reducePow,reduceIte,decide_true,decide_false,reduceCtorEq])|(refine BrP.mk (fun h=>?_) (fun h=>?_)<;>(try simp only [h]))))
    all_goals simp only [decide_eq_true_eq,decide_eq_false_iff_not] at *
    all_goals try (refine ⟨by omega,?_⟩)
    all_goals try (refine ⟨_,f91 c (by omega) (by omega),rfl,?_⟩;(try push_cast (maxSteps:=mS)))
    all_goals (repeat' (first|(simp (maxSteps:=mS) only [push_cast,Nat.reduceBEq,Nat.reduceBNe,Nat.reduceAdd,Nat.reduceSub,Nat.reduceMul,Nat.reduceLT,Nat.reduceLeDiff,Nat.reduceEqDiff,Nat.blt_eq,Int.reduceLT,Int.reduceLE,Int.reduceEq,Int.reduceToNat,Int.reduceNeg,Int.reduceAdd,Int.reduceSub,Int.reduceMul,Int.reducePow,reduceIte,decide_true,decide_false,reduceCtorEq])|(refine BrP.mk (fun h=>?_) (fun h=>?_)<;>(try simp only [h]))))
    all_goals try simp only [decide_eq_true_eq,decide_eq_false_iff_not] at *
    all_goals first
     | (have hk:okN s 1=true:=by
         rw [hokd];simp only [Bool.and_eq_true,Bool.or_eq_true,decide_eq_true_eq];refine ⟨⟨⟨by omega,by omega⟩,by omega⟩,by assumption⟩
        rw [if_pos hk] at hc;rw [← hc];rfl)
     | (have hk:¬ okN s 1=true:=by
         rw [hokd];simp only [Bool.and_eq_true,Bool.or_eq_true,decide_eq_true_eq];rintro ⟨⟨⟨_,_⟩,_⟩,_⟩;first|omega|contradiction
        rw [if_neg hk] at hc
        (repeat ((with_reducible refine And.intro ?_ ?_);focus (first|trivial|omega|exact ix|exact inKu8 (by omega) (by omega))))
        refine ⟨1+1,⟨by omega,by omega,hc⟩,by omega,Le.st ?_⟩
        (try push_cast (maxSteps:=mS)))
   ·have hd:decide ((2:Int)≤(s.size:Int))=true:=decide_eq_true (by omega)
    (try push_cast (maxSteps:=mS) [hd])
    (repeat ((with_reducible refine And.intro ?_ ?_);focus (first|trivial|omega|exact ix|exact inKu8 (by omega) (by omega))))
    (refine DrawK.of (.take 0 (.take 1 (.take 2 (.take 3 (.take 4 (.take 5 (.take 6 (.take 7 (.take 8 (.take 9 (.take 10 .done))))))))))) 1000 (by decide +kernel) ?_;try (push_cast (maxSteps:=mS)))
    (repeat ((with_reducible refine And.intro ?_ ?_);focus (first|trivial|omega|exact ix|exact inKu8 (by omega) (by omega))))
    have hcp:((sB s 0).toNat - 192:Int)*64+(sB s 1).toNat - 128=cpF s 2:=rfl
    rw [hcp]
    (refine DrawK.of (.take 0 (.take 1 (.take 2 (.take 3 (.take 4 (.take 5 (.take 6 (.take 7 (.take 8 (.take 9 (.take 10 (.take 11 (.take 12 (.take 13 (.take 14 (.take 15 (.take 17 (.take 18 (.take 19 (.one 16 (.take 20 (.take 21 .done)))))))))))))))))))))) 1000 (by decide +kernel) ?_;try (push_cast (maxSteps:=mS)))
    have hokd:okN s 2=(decide (0≤cpF s 2) && decide (cpF s 2≤1114111) && (decide (cpF s 2<55296) || decide (57343<cpF s 2)) && decide (strN (putF (cpF s 2))=s.extract 0 2)):=rfl
    generalize cpF s 2=c at *
    clear hcp
    (repeat' (first|(simp (maxSteps:=mS) only [push_cast,Nat.reduceBEq,Nat.reduceBNe,Nat.reduceAdd,Nat.reduceSub,Nat.reduceMul,Nat.reduceLT,Nat.reduceLeDiff,Nat.reduceEqDiff,Nat.blt_eq,Int.reduceLT,Int.reduceLE,Int.reduceEq,Int.reduceToNat,Int.reduceNeg,Int.reduceAdd,Int.reduceSub,Int.reduceMul,Int.reducePow,reduceIte,decide_true,decide_false,reduceCtorEq])|(refine BrP.mk (fun h=>?_) (fun h=>?_)<;>(try simp only [h]))))
    all_goals simp only [decide_eq_true_eq,decide_eq_false_iff_not] at *
    all_goals try (refine ⟨by omega,?_⟩)
    all_goals try (refine ⟨_,f91 c (by omega) (by omega),rfl,?_⟩;(try push_cast (maxSteps:=mS)))
    all_goals (repeat' (first|(simp (maxSteps:=mS) only [push_cast,Nat.reduceBEq,Nat.reduceBNe,Nat.reduceAdd,Nat.reduceSub,Nat.reduceMul,Nat.reduceLT,Nat.reduceLeDiff,Nat.reduceEqDiff,Nat.blt_eq,Int.reduceLT,Int.reduceLE,Int.reduceEq,Int.reduceToNat,Int.reduceNeg,Int.reduceAdd,Int.reduceSub,Int.reduceMul,Int.reducePow,reduceIte,decide_true,decide_false,reduceCtorEq])|(refine BrP.mk (fun h=>?_) (fun h=>?_)<;>(try simp only [h]))))
    all_goals try simp only [decide_eq_true_eq,decide_eq_false_iff_not] at *
    all_goals first
     | (have hk:okN s 2=true:=by
         rw [hokd];simp only [Bool.and_eq_true,Bool.or_eq_true,decide_eq_true_eq];refine ⟨⟨⟨by omega,by omega⟩,by omega⟩,by assumption⟩
        rw [if_pos hk] at hc;rw [← hc];rfl)
     | (have hk:¬ okN s 2=true:=by
         rw [hokd];simp only [Bool.and_eq_true,Bool.or_eq_true,decide_eq_true_eq];rintro ⟨⟨⟨_,_⟩,_⟩,_⟩;first|omega|contradiction
        rw [if_neg hk] at hc
        (repeat ((with_reducible refine And.intro ?_ ?_);focus (first|trivial|omega|exact ix|exact inKu8 (by omega) (by omega))))
        refine ⟨2+1,⟨by omega,by omega,hc⟩,by omega,Le.st ?_⟩
        (try push_cast (maxSteps:=mS)))
   ·have hd:decide ((3:Int)≤(s.size:Int))=true:=decide_eq_true (by omega)
    (try push_cast (maxSteps:=mS) [hd])
    (repeat ((with_reducible refine And.intro ?_ ?_);focus (first|trivial|omega|exact ix|exact inKu8 (by omega) (by omega))))
    (refine DrawK.of (.take 0 (.take 1 (.take 2 (.take 3 (.take 4 (.take 5 (.take 6 (.take 7 (.take 8 (.take 9 (.take 10 (.take 11 (.take 12 (.take 13 (.take 14 (.take 15 (.take 16 .done))))))))))))))))) 1000 (by decide +kernel) ?_;try (push_cast (maxSteps:=mS)))
    (repeat ((with_reducible refine And.intro ?_ ?_);focus (first|trivial|omega|exact ix|exact inKu8 (by omega) (by omega))))
    have hcp:((sB s 0).toNat - 224:Int)*4096+((sB s 1).toNat - 128:Int)*64+(sB s 2).toNat - 128=cpF s 3:=rfl
    rw [hcp]
    (refine DrawK.of (.take 0 (.take 1 (.take 2 (.take 3 (.take 4 (.take 5 (.take 6 (.take 7 (.take 8 (.take 9 (.take 10 (.take 11 (.take 12 (.take 13 (.take 14 (.take 15 (.take 17 (.take 18 (.take 19 (.one 16 (.take 20 (.take 21 .done)))))))))))))))))))))) 1000 (by decide +kernel) ?_;try (push_cast (maxSteps:=mS)))
    have hokd:okN s 3=(decide (0≤cpF s 3) && decide (cpF s 3≤1114111) && (decide (cpF s 3<55296) || decide (57343<cpF s 3)) && decide (strN (putF (cpF s 3))=s.extract 0 3)):=rfl
    generalize cpF s 3=c at *
    clear hcp
    (repeat' (first|(simp (maxSteps:=mS) only [push_cast,Nat.reduceBEq,Nat.reduceBNe,Nat.reduceAdd,Nat.reduceSub,Nat.reduceMul,Nat.reduceLT,Nat.reduceLeDiff,Nat.reduceEqDiff,Nat.blt_eq,Int.reduceLT,Int.reduceLE,Int.reduceEq,Int.reduceToNat,Int.reduceNeg,Int.reduceAdd,Int.reduceSub,Int.reduceMul,Int.reducePow,reduceIte,decide_true,decide_false,reduceCtorEq])|(refine BrP.mk (fun h=>?_) (fun h=>?_)<;>(try simp only [h]))))
    all_goals simp only [decide_eq_true_eq,decide_eq_false_iff_not] at *
    all_goals try (refine ⟨by omega,?_⟩)
    all_goals try (refine ⟨_,f91 c (by omega) (by omega),rfl,?_⟩;(try push_cast (maxSteps:=mS)))
    all_goals (repeat' (first|(simp (maxSteps:=mS) only [push_cast,Nat.reduceBEq,Nat.reduceBNe,Nat.reduceAdd,Nat.reduceSub,Nat.reduceMul,Nat.reduceLT,Nat.reduceLeDiff,Nat.reduceEqDiff,Nat.blt_eq,Int.reduceLT,Int.reduceLE,Int.reduceEq,Int.reduceToNat,Int.reduceNeg,Int.reduceAdd,Int.reduceSub,Int.reduceMul,Int.reducePow,reduceIte,decide_true,decide_false,reduceCtorEq])|(refine BrP.mk (fun h=>?_) (fun h=>?_)<;>(try simp only [h]))))
    all_goals try simp only [decide_eq_true_eq,decide_eq_false_iff_not] at *
    all_goals first
     | (have hk:okN s 3=true:=by
         rw [hokd];simp only [Bool.and_eq_true,Bool.or_eq_true,decide_eq_true_eq];refine ⟨⟨⟨by omega,by omega⟩,by omega⟩,by assumption⟩
        rw [if_pos hk] at hc;rw [← hc];rfl)
     | (have hk:¬ okN s 3=true:=by
         rw [hokd];simp only [Bool.and_eq_true,Bool.or_eq_true,decide_eq_true_eq];rintro ⟨⟨⟨_,_⟩,_⟩,_⟩;first|omega|contradiction
        rw [if_neg hk] at hc
        (repeat ((with_reducible refine And.intro ?_ ?_);focus (first|trivial|omega|exact ix|exact inKu8 (by omega) (by omega))))
        refine ⟨3+1,⟨by omega,by omega,hc⟩,by omega,Le.st ?_⟩
        (try push_cast (maxSteps:=mS)))
   ·have hd:decide ((4:Int)≤(s.size:Int))=true:=decide_eq_true (by omega)
    (try push_cast (maxSteps:=mS) [hd])
    (repeat ((with_reducible refine And.intro ?_ ?_);focus (first|trivial|omega|exact ix|exact inKu8 (by omega) (by omega))))
    (refine DrawK.of (.take 0 (.take 1 (.take 2 (.take 3 (.take 4 (.take 5 (.take 6 (.take 7 (.take 8 (.take 9 (.take 10 (.take 11 (.take 12 (.take 13 (.take 14 (.take 15 (.take 16 (.take 17 (.take 18 (.take 19 (.take 20 (.take 21 (.take 22 .done))))))))))))))))))))))) 1000 (by decide +kernel) ?_;try (push_cast (maxSteps:=mS)))
    (repeat ((with_reducible refine And.intro ?_ ?_);focus (first|trivial|omega|exact ix|exact inKu8 (by omega) (by omega))))
    have hcp:((sB s 0).toNat - 240:Int)*262144+((sB s 1).toNat - 128:Int)*4096+((sB s 2).toNat - 128:Int)*64+(sB s 3).toNat - 128=cpF s 4:=rfl
    rw [hcp]
    (refine DrawK.of (.take 0 (.take 1 (.take 2 (.take 3 (.take 4 (.take 5 (.take 6 (.take 7 (.take 8 (.take 9 (.take 10 (.take 11 (.take 12 (.take 13 (.take 14 (.take 15 (.take 17 (.take 18 (.take 19 (.one 16 (.take 20 (.take 21 .done)))))))))))))))))))))) 1000 (by decide +kernel) ?_;try (push_cast (maxSteps:=mS)))
    have hokd:okN s 4=(decide (0≤cpF s 4) && decide (cpF s 4≤1114111) && (decide (cpF s 4<55296) || decide (57343<cpF s 4)) && decide (strN (putF (cpF s 4))=s.extract 0 4)):=rfl
    generalize cpF s 4=c at *
    clear hcp
    (repeat' (first|(simp (maxSteps:=mS) only [push_cast,Nat.reduceBEq,Nat.reduceBNe,Nat.reduceAdd,Nat.reduceSub,Nat.reduceMul,Nat.reduceLT,Nat.reduceLeDiff,Nat.reduceEqDiff,Nat.blt_eq,Int.reduceLT,Int.reduceLE,Int.reduceEq,Int.reduceToNat,Int.reduceNeg,Int.reduceAdd,Int.reduceSub,Int.reduceMul,Int.reducePow,reduceIte,decide_true,decide_false,reduceCtorEq])|(refine BrP.mk (fun h=>?_) (fun h=>?_)<;>(try simp only [h]))))
    all_goals simp only [decide_eq_true_eq,decide_eq_false_iff_not] at *
    all_goals try (refine ⟨by omega,?_⟩)
    all_goals try (refine ⟨_,f91 c (by omega) (by omega),rfl,?_⟩;(try push_cast (maxSteps:=mS)))
    all_goals (repeat' (first|(simp (maxSteps:=mS) only [push_cast,Nat.reduceBEq,Nat.reduceBNe,Nat.reduceAdd,Nat.reduceSub,Nat.reduceMul,Nat.reduceLT,Nat.reduceLeDiff,Nat.reduceEqDiff,Nat.blt_eq,Int.reduceLT,Int.reduceLE,Int.reduceEq,Int.reduceToNat,Int.reduceNeg,Int.reduceAdd,Int.reduceSub,Int.reduceMul,Int.reducePow,reduceIte,decide_true,decide_false,reduceCtorEq])|(refine BrP.mk (fun h=>?_) (fun h=>?_)<;>(try simp only [h]))))
    all_goals try simp only [decide_eq_true_eq,decide_eq_false_iff_not] at *
    all_goals first
     | (have hk:okN s 4=true:=by
         rw [hokd];simp only [Bool.and_eq_true,Bool.or_eq_true,decide_eq_true_eq];refine ⟨⟨⟨by omega,by omega⟩,by omega⟩,by assumption⟩
        rw [if_pos hk] at hc;rw [← hc];rfl)
     | (have hk:¬ okN s 4=true:=by
         rw [hokd];simp only [Bool.and_eq_true,Bool.or_eq_true,decide_eq_true_eq];rintro ⟨⟨⟨_,_⟩,_⟩,_⟩;first|omega|contradiction
        rw [if_neg hk] at hc
        (repeat ((with_reducible refine And.intro ?_ ?_);focus (first|trivial|omega|exact ix|exact inKu8 (by omega) (by omega))))
        refine ⟨4+1,⟨by omega,by omega,hc⟩,by omega,Le.st ?_⟩
        (try push_cast (maxSteps:=mS)))
  ·have hd:decide ((n:Int)≤(s.size:Int))=false:=decide_eq_false (by omega)
   have hd':decide ((n:Int)≤4)=true:=decide_eq_true (by omega)
   have hf:szF s (5 - n) n=0:=by
    rw [show 5 - n=(5 - (n+1))+1 by omega];simp only [szF,if_neg hl]
   rw [hf] at hc
   (try push_cast (maxSteps:=mS) [hd,hd'])
   rw [← hc];rfl
 ·have hd':decide ((n:Int)≤4)=false:=decide_eq_false (by omega)
  have hf:szF s (5 - n) n=0:=by
   rw [show 5 - n=0 by omega];rfl
  rw [hf] at hc
  (try push_cast (maxSteps:=mS) [hd'])
  rw [← hc];rfl
theorem f54 (s:ByteArray) (hs:s.size≤1099511627776):Spec V 70 [s2 s] (i2 .i64 (wholeF s:Int)):=by
 (refine Spec.of_go (L:=fun|0=>some [0]|1=>some [0,3]|2=>some [0,3,14]|3=>some [0,3]|4=>some [2]|_=>none) 1000 Go.Proofs.Tryz.func70 rfl rfl ⟨Nat.le_of_ble_eq_true rfl,rfl⟩ rfl ?_;unfold Go.Proofs.Tryz.f70;push_cast (maxSteps:=mS))
 refine LoopK.s1 (α:=Nat) [3] (fun n=>[i2 .i64 n]) (fun n=>n≤s.size∧∃ f,s.size - n≤f∧whF s f n=wholeF s) (fun n=>s.size - n) 1000 0 ⟨by omega,s.size,by omega,rfl⟩ (by (try push_cast (maxSteps:=mS))) ?_
 rintro n ⟨hn,f,hf,hc⟩
 have hsz:(s.extract n s.size).size=s.size - n:=by simp
 have hle:sizeF (s.extract n s.size)≤s.size - n:=by have:=szF_le (s.extract n s.size) 4 1;rw [hsz] at this;exact this
 have hspec:=f78 (s.extract n s.size) (by omega)
 by_cases hlt:n<s.size
 ·have hd:decide ((n:Int)<(s.size:Int))=true:=decide_eq_true (by omega)
  obtain ⟨f,rfl⟩:∃ g,f=g+1:=⟨f - 1,by omega⟩
  simp only [whF,if_pos hlt] at hc
  generalize hS:sizeF (s.extract n s.size)=S at *
  (try push_cast (maxSteps:=mS) [hd])
  refine ⟨⟨by omega,by omega⟩,?_⟩
  refine ⟨_,hspec,rfl,?_⟩
  (try push_cast (maxSteps:=mS))
  refine BrP.mk (fun h=>?_) (fun h=>?_)<;>try (push_cast (maxSteps:=mS) [h])
  ·have h':=of_decide_eq_true h
   rw [if_pos (by omega)] at hc
   refine ⟨⟨by omega,by omega⟩,?_⟩
   refine ⟨_,hspec,rfl,?_⟩
   (try push_cast (maxSteps:=mS))
   refine ⟨inK64 (by omega) (by omega),n+S,⟨by omega,f,by omega,hc⟩,by omega,Le.st ?_⟩
   (try push_cast (maxSteps:=mS))
  ·have h':=of_decide_eq_false h
   rw [if_neg (by omega)] at hc
   exact congrArg _ hc
 ·have hd:decide ((n:Int)<(s.size:Int))=false:=decide_eq_false (by omega)
  (try push_cast (maxSteps:=mS) [hd])
  cases f with
  | zero=>exact congrArg _ hc
  | succ f=>simp only [whF,if_neg hlt] at hc;exact congrArg _ hc
theorem f18 (l:List Cl) (hl:okLen l):Spec V 29 [.c (.d (.sl 3 (l.map eC)))] (.c (.d (.sl 3 (l.map eRC)))):=by
 (refine Spec.of_go (L:=fun|0=>some [0]|1=>some [0,3]|2=>some [3,7,8,9]|3=>some [3,7,8,9,10]|4=>some [3,5,7,8,9]|5=>some [3,5,6,7,8,9]|6=>some [3,6,7,8,9,19]|7=>some [3,6,7,8,9]|8=>some [3,7,8,9]|9=>some [3,7,8,9]|10=>some [2]|_=>none) 1000 Go.Proofs.Tryz.func29 rfl rfl ⟨Nat.le_of_ble_eq_true rfl,rfl⟩ rfl ?_;unfold Go.Proofs.Tryz.f29;push_cast (maxSteps:=mS))
 refine LoopK.le (Le.nil 3 136 3 (by decide) (by (try push_cast (maxSteps:=mS)))) ?_
 (try push_cast (maxSteps:=mS))
 refine LoopK.ov (α:=Nat) [9] (fun k=>[i2 .i64 k]) (fun k=>[.rw 136 3 ((l.take k).map eRC)]) (fun k=>k≤l.length) (fun k=>l.length - k) 1000 0 (by omega) (by (try push_cast (maxSteps:=mS))) ?_
 rintro k hk
 by_cases hlt:k<l.length
 ·have hv:=atT hlt;have hd:=ltT hlt
  (try push_cast (maxSteps:=mS) [hd,getD_map hv])
  (repeat ((with_reducible refine And.intro ?_ ?_);focus (first|trivial|omega|exact ix|exact inKu8 (by omega) (by omega))))
  refine BrP.mk (fun h=>?_) (fun h=>?_)<;>try (push_cast (maxSteps:=mS) [h])
  ·refine ⟨⟨.inl trivial,by simp [maxLen];omega,by simp;omega⟩,inK64 (by omega) (by omega),k+1,by omega,by omega,Le.st ?_⟩
   (try push_cast (maxSteps:=mS))
   rw [map_take_succ hv];simp [eRC,bi,h]
  ·refine ⟨⟨.inl trivial,by simp [maxLen];omega,by simp;omega⟩,inK64 (by omega) (by omega),k+1,by omega,by omega,Le.st ?_⟩
   (try push_cast (maxSteps:=mS))
   rw [map_take_succ hv];simp [eRC,bi,h]
 ·have hd:=geF hlt
  (try push_cast (maxSteps:=mS) [hd])
  rw [List.take_of_length_le (by omega)]
theorem f56 (l:List Cl) (hl:okLen l):Spec V 55 [.c (.d (.sl 3 (l.map eRC)))] (.c (.d (.sl 1 (l.map fun c=>eS c.name)))):=by
 (refine Spec.of_go (L:=lv2SA) 1000 Go.Proofs.Tryz.func55 rfl rfl ⟨Nat.le_of_ble_eq_true rfl,rfl⟩ rfl ?_;unfold Go.Proofs.Tryz.f55;push_cast (maxSteps:=mS))
 refine LoopK.le (Le.nil 3 9 1 (by decide) (by (try push_cast (maxSteps:=mS)))) ?_
 (try push_cast (maxSteps:=mS))
 refine LoopK.ov (α:=Nat) [8] (fun k=>[i2 .i64 k]) (fun k=>[.rw 9 1 ((l.take k).map fun c=>eS c.name)]) (fun k=>k≤l.length) (fun k=>l.length - k) 1000 0 (by omega) (by (try push_cast (maxSteps:=mS))) ?_
 rintro k hk
 by_cases hlt:k<l.length
 ·have hv:=atT hlt;have hd:=ltT hlt
  (try push_cast (maxSteps:=mS) [hd,getD_map hv])
  (repeat ((with_reducible refine And.intro ?_ ?_);focus (first|trivial|omega|exact ix|exact inKu8 (by omega) (by omega))))
  refine ⟨⟨.inl trivial,by simp [maxLen];omega,by simp;omega⟩,inK64 (by omega) (by omega),k+1,by omega,by omega,Le.st ?_⟩
  (try push_cast (maxSteps:=mS))
  rw [map_take_succ hv];try rfl
 ·have hd:=geF hlt
  (try push_cast (maxSteps:=mS) [hd])
  rw [List.take_of_length_le (by omega)]
theorem f55 (l:List ByteArray) (name:ByteArray) (hl:okLen l):Spec V 62 [.c (.d (.sl 1 (l.map eS))),s2 name] (i2 .i64 (atF name l 0)):=by
 (refine Spec.of_go (L:=fun|0=>some [0,1]|1=>some [1,7,8,9]|2=>some [1,7,8,9,10]|3=>some [1,5,6,7,8,9]|4=>some [1,5,7,8,9,16]|5=>some [4]|6=>some [1,7,8,9]|7=>some [4]|_=>none) 1000 Go.Proofs.Tryz.func62 rfl rfl ⟨Nat.le_of_ble_eq_true rfl,rfl⟩ rfl ?_;unfold Go.Proofs.Tryz.f62;push_cast (maxSteps:=mS))
 refine LoopK.s1 (α:=Nat) [9] (fun k=>[i2 .i64 k]) (fun k=>k≤l.length∧atF name (l.drop k) k=atF name l 0) (fun k=>l.length - k) 1000 0 ⟨by omega,rfl⟩ (by (try push_cast (maxSteps:=mS))) ?_
 rintro k ⟨hk,hc⟩
 by_cases hlt:k<l.length
 ·have hv:=atT hlt;have hd:=ltT hlt
  rw [drop_cons hv] at hc;simp only [atF] at hc
  (try push_cast (maxSteps:=mS) [hd,getD_map hv])
  (repeat ((with_reducible refine And.intro ?_ ?_);focus (first|trivial|omega|exact ix|exact inKu8 (by omega) (by omega))))
  refine BrP.mk (fun h=>?_) (fun h=>?_)<;>try (push_cast (maxSteps:=mS) [h])
  ·rw [if_pos (of_decide_eq_true h)] at hc
   exact hc
  ·rw [if_neg (of_decide_eq_false h)] at hc
   (repeat ((with_reducible refine And.intro ?_ ?_);focus (first|trivial|omega|exact ix|exact inKu8 (by omega) (by omega))))
   refine ⟨k+1,⟨by omega,hc⟩,by omega,Le.st ?_⟩
   (try push_cast (maxSteps:=mS))
 ·have hd:=geF hlt
  rw [List.drop_eq_nil_of_le (by omega)] at hc;simp only [atF] at hc
  (try push_cast (maxSteps:=mS) [hd])
  exact hc
theorem f51:∀ (m:Nat) (n:Nd),bN n≤m→bN n≤1099511627776→Spec V 13 [.ag ((eRN n).map .d)] (i2 .i64 (dep n))
 | 0,.mk _ _ _ _ _,h,_=>by simp only [bN] at h;omega
 | m+1,.mk op col v l ks,hm,hb=>by
  have IH:∀ k∈ks,Spec V 13 [.ag ((eRN k).map .d)] (i2 .i64 (dep k)):=fun k hk=>by
   have:=bN_mem hk
   simp only [bN] at hm hb
   exact f51 m k (by omega) (by omega)
  have hkl:=bNs_len ks
  simp only [bN] at hm hb
  have hdd:dep (.mk op col v l ks)=depK 0 ks+1:=rfl
  rw [hdd]
  have hbd:=depK_bd ks 0
  (refine Spec.of_go (L:=fun|0=>some [1]|1=>some [1,3]|2=>some [3,8,9,10]|3=>some [3,8,9,10,11]|4=>some [3,5,8,9,10]|5=>some [3,6,8,9,10]|6=>some [3,6,8,9,10,18]|7=>some [3,8,9,10]|8=>some [3,8,9,10]|9=>some [2]|_=>none) 1000 Go.Proofs.Tryz.func13 rfl rfl ⟨Nat.le_of_ble_eq_true rfl,rfl⟩ rfl ?_;unfold Go.Proofs.Tryz.f13;push_cast (maxSteps:=mS))
  refine LoopK.s1 (α:=Nat × Int) [3,10] (fun x=>[i2 .i64 x.2,i2 .i64 x.1]) (fun x=>x.1≤ks.length∧0≤x.2∧depK x.2 (ks.drop x.1)=depK 0 ks) (fun x=>ks.length - x.1) 1000 (0,0) ⟨by omega,by omega,rfl⟩ (by (try push_cast (maxSteps:=mS))) ?_
  rintro ⟨k,mx⟩ ⟨hk,h0,hc⟩
  simp only at hk h0 hc
  by_cases hlt:k<ks.length
  ·have hv:=atT hlt;have hd:=ltT hlt
   have hb1:=dep_bd ks[k]
   rw [drop_cons hv] at hc;simp only [depK] at hc
   (try push_cast (maxSteps:=mS) [hd,getD_map hv])
   (repeat ((with_reducible refine And.intro ?_ ?_);focus (first|trivial|omega|exact ix|exact inKu8 (by omega) (by omega))))
   (have hS:=IH ks[k] (List.getElem_mem hlt);simp only [eS_eq,eN_eq,eV_eq,eRN_eq,eRV_eq,eC_eq,eRC_eq,List.map_cons,List.map_nil,i2,b2,s2] at hS;refine ⟨_,hS,rfl,?_⟩;clear hS;try (push_cast (maxSteps:=mS)))
   refine BrP.mk (fun h=>?_) (fun h=>?_)<;>try (push_cast (maxSteps:=mS) [h])
   ·rw [if_pos (of_decide_eq_true h)] at hc
    (repeat ((with_reducible refine And.intro ?_ ?_);focus (first|trivial|omega|exact ix|exact inKu8 (by omega) (by omega))))
    refine ⟨(k+1,dep ks[k]),⟨by simp only;omega,by simp only;omega,hc⟩,by simp only;omega,Le.st ?_⟩
    (try push_cast (maxSteps:=mS))
   ·rw [if_neg (of_decide_eq_false h)] at hc
    (repeat ((with_reducible refine And.intro ?_ ?_);focus (first|trivial|omega|exact ix|exact inKu8 (by omega) (by omega))))
    refine ⟨(k+1,mx),⟨by simp only;omega,by simp only;omega,hc⟩,by simp only;omega,Le.st ?_⟩
    (try push_cast (maxSteps:=mS))
  ·have hd:=geF hlt
   rw [List.drop_eq_nil_of_le (by omega)] at hc;simp only [depK] at hc
   (try push_cast (maxSteps:=mS) [hd])
   subst hc
   (repeat ((with_reducible refine And.intro ?_ ?_);focus (first|trivial|omega|exact ix|exact inKu8 (by omega) (by omega))))
   trivial
theorem f62 (l:List Cl) (name:ByteArray) (hl:okLen l):Spec V 89 [.c (.d (.sl 3 (l.map eC))),s2 name] (.tu [.ag ((eC (findF name l 0).1).map .d),i2 .i64 ((findF name l 0).2.1:Int),b2 (findF name l 0).2.2]):=by
 (refine Spec.of_go (L:=fun|0=>some [0,1,4]|1=>some [1,4,9,10,11]|2=>some [1,4,9,10,11,12]|3=>some [1,4,7,8,9,10,11]|4=>some [1,4,7,8,9,10,11,19]|5=>some [4,5,6]|6=>some [1,4,9,10,11]|7=>some [4,5,6]|_=>none) 1000 Go.Proofs.Tryz.func89 rfl rfl ⟨Nat.le_of_ble_eq_true rfl,rfl⟩ rfl ?_;unfold Go.Proofs.Tryz.f89;push_cast (maxSteps:=mS))
 refine LoopK.s1 (α:=Nat) [11] (fun k=>[i2 .i64 k]) (fun k=>k≤l.length∧findF name (l.drop k) k=findF name l 0) (fun k=>l.length - k) 1000 0 ⟨by omega,rfl⟩ (by (try push_cast (maxSteps:=mS))) ?_
 rintro k ⟨hk,hc⟩
 by_cases hlt:k<l.length
 ·have hv:=atT hlt;have hd:=ltT hlt
  rw [drop_cons hv] at hc;simp only [findF] at hc
  (try push_cast (maxSteps:=mS) [hd,getD_map hv])
  (repeat ((with_reducible refine And.intro ?_ ?_);focus (first|trivial|omega|exact ix|exact inKu8 (by omega) (by omega))))
  refine BrP.mk (fun h=>?_) (fun h=>?_)<;>try (push_cast (maxSteps:=mS) [h])
  ·rw [if_pos (of_decide_eq_true h)] at hc
   rw [← hc]
   (try push_cast (maxSteps:=mS))
  ·rw [if_neg (of_decide_eq_false h)] at hc
   (repeat ((with_reducible refine And.intro ?_ ?_);focus (first|trivial|omega|exact ix|exact inKu8 (by omega) (by omega))))
   refine ⟨k+1,⟨by omega,hc⟩,by omega,Le.st ?_⟩
   (try push_cast (maxSteps:=mS))
 ·have hd:=geF hlt
  rw [List.drop_eq_nil_of_le (by omega)] at hc;simp only [findF] at hc
  (try push_cast (maxSteps:=mS) [hd])
  rw [← hc]
  exact ⟨⟨rfl,rfl,rfl⟩,rfl,rfl⟩
set_option maxHeartbeats 1000000 in
theorem f47 (l:List Cl) (hl:okCl l):Spec V 34 [.c (.d (.sl 3 (l.map eC)))] (.tu [i2 .i64 ((checkC l).1:Int),i2 .i64 (checkC l).2]):=by
 obtain ⟨hl,hnm⟩:=hl
 (refine Spec.of_go (L:=fun|0=>some [0]|1=>some [0,9]|2=>some [2,3]|3=>some [0,4]|4=>some [0,4,11,12,13]|5=>some [0,4,11,12,13,14]|6=>some [0,4,5,6,11,12,13]|7=>some [0,4,5,6,11,12,13,18]|8=>some [2,3]|9=>some [0,4,5,6,11,12,13,24]|10=>some [2,3]|11=>some [0,4,5,6,11,12,13,30]|12=>some [2,3]|13=>some [0,4,11,12,13]|14=>some [0,4,11,12,13]|15=>some [2,3]|_=>none) 1000 Go.Proofs.Tryz.func34 rfl rfl ⟨Nat.le_of_ble_eq_true rfl,rfl⟩ rfl ?_;unfold Go.Proofs.Tryz.f34;push_cast (maxSteps:=mS))
 refine BrP.mk (fun h=>?_) (fun h=>?_)<;>try (push_cast (maxSteps:=mS) [h])
 ·have h':=of_decide_eq_true h
  rw [checkC,if_pos (by omega)]
  exact ⟨rfl,rfl⟩
 ·have h':=of_decide_eq_false h
  rw [checkC,if_neg (by omega)]
  refine LoopK.ov (α:=Nat × List ByteArray) [13] (fun x=>[i2 .i64 x.1]) (fun x=>[.mp (truS x.2)]) (fun x=>x.1≤l.length∧chkF x.2 (l.drop x.1) x.1=chkF [] l 0) (fun x=>l.length - x.1) 1000 (0,[]) ⟨by omega,rfl⟩ ?_ ?_
  ·(try push_cast (maxSteps:=mS))
   rfl
  rintro ⟨k,seen⟩ ⟨hk,hc⟩
  simp only at hk hc
  by_cases hlt:k<l.length
  ·have hv:=atT hlt;have hd:=ltT hlt
   rw [drop_cons hv] at hc;simp only [chkF] at hc
   have hnk:=hnm l[k] (List.getElem_mem hlt)
   (try push_cast (maxSteps:=mS) [hd,getD_map hv])
   (repeat ((with_reducible refine And.intro ?_ ?_);focus (first|trivial|omega|exact ix|exact inKu8 (by omega) (by omega))))
   refine ⟨_,f71 _,rfl,?_⟩
   (try push_cast (maxSteps:=mS))
   refine BrP.mk (fun h=>?_) (fun h=>?_)<;>try (push_cast (maxSteps:=mS) [h])
   ·rw [if_pos (of_decide_eq_true h)] at hc
    exact ⟨congrArg (fun x=>((x.1:Nat):Int)) hc,congrArg (fun x=>x.2) hc⟩
   ·rw [if_neg (of_decide_eq_false h)] at hc
    refine ⟨_,f72 _ hnk,rfl,?_⟩
    (try push_cast (maxSteps:=mS))
    cases hvb:validB l[k].name with
    | false =>
     rw [hvb,if_pos rfl] at hc
     (try push_cast (maxSteps:=mS) [hvb])
     exact ⟨congrArg (fun x=>((x.1:Nat):Int)) hc,congrArg (fun x=>x.2) hc⟩
    | true =>
     rw [hvb,if_neg (by simp)] at hc
     (try push_cast (maxSteps:=mS) [hvb])
     refine BrP.mk (fun h=>?_) (fun h=>?_)<;>try (push_cast (maxSteps:=mS) [h])
     ·rw [if_pos h] at hc
      exact ⟨congrArg (fun x=>((x.1:Nat):Int)) hc,congrArg (fun x=>x.2) hc⟩
     ·rw [if_neg (by simp [h])] at hc
      (repeat ((with_reducible refine And.intro ?_ ?_);focus (first|trivial|omega|exact ix|exact inKu8 (by omega) (by omega))))
      refine ⟨(k+1,seen++[l[k].name]),⟨by simp only;omega,hc⟩,by simp only;omega,Le.st ?_⟩
      (try push_cast (maxSteps:=mS))
      exact mset_truS _ _ h
  ·have hd:=geF hlt
   rw [List.drop_eq_nil_of_le (by omega)] at hc;simp only [chkF] at hc
   (try push_cast (maxSteps:=mS) [hd])
   have:k=l.length:=by omega
   subst this
   exact ⟨congrArg (fun x=>((x.1:Nat):Int)) hc,congrArg (fun x=>x.2) hc⟩
set_option maxHeartbeats 1000000 in
theorem f97 (v:Vl) (hv:okVl v):Spec V 147 [.ag ((eV v).map .d)] (b2 (rightF v)):=by
 (refine Spec.of_go (L:=fun|0=>some [1]|1=>some [1,4]|2=>some [1,4,5]|3=>some [2]|4=>some [1,4,10]|5=>some [2]|6=>some [1,4,22]|7=>some [2]|8=>some [1,29]|9=>some [2]|10=>some [2]|_=>none) 1000 Go.Proofs.Tryz.func147 rfl rfl ⟨Nat.le_of_ble_eq_true rfl,rfl⟩ rfl ?_;unfold Go.Proofs.Tryz.f147;push_cast (maxSteps:=mS))
 refine BrP.mk (fun h=>?_) (fun h=>?_)<;>try (push_cast (maxSteps:=mS) [h])
 ·have h1:=of_decide_eq_true h
  simp [rightF,h1,ByteArray.empty,ByteArray.emptyWithCapacity];try rfl
 ·have h0:=of_decide_eq_false h
  refine BrP.mk (fun h=>?_) (fun h=>?_)<;>try (push_cast (maxSteps:=mS) [h])
  ·have h1:=of_decide_eq_true h
   (refine DrawK.of (.take 0 (.take 1 (.take 2 (.one 3 (.take 4 (.take 5 (.take 6 (.take 7 (.one 8 (.take 9 (.take 10 .done))))))))))) 1000 (by decide +kernel) ?_;try (push_cast (maxSteps:=mS)))
   refine ⟨_,f105 _,rfl,?_⟩
   (try push_cast (maxSteps:=mS))
   refine BrP.mk (fun h=>?_) (fun h=>?_)<;>try (push_cast (maxSteps:=mS) [h])
   ·refine ⟨_,f72 _ hv,rfl,?_⟩
    (try push_cast (maxSteps:=mS))
    simp only [Bool.and_eq_true,decide_eq_true_eq] at h
    simp [rightF,h1,h]
   ·simp [rightF,h1] at h ⊢
    intro a b
    have:=h a
    simp_all
  ·have h1:=of_decide_eq_false h
   refine BrP.mk (fun h=>?_) (fun h=>?_)<;>try (push_cast (maxSteps:=mS) [h])
   ·have h2:=of_decide_eq_true h
    (refine DrawK.of (.take 0 (.take 1 (.take 2 (.one 3 (.take 4 (.take 5 .done)))))) 1000 (by decide +kernel) ?_;try (push_cast (maxSteps:=mS)))
    refine ⟨_,f106 _,rfl,?_⟩
    (try push_cast (maxSteps:=mS))
    simp [rightF,h2,ByteArray.empty,ByteArray.emptyWithCapacity];try rfl
   ·have h2:=of_decide_eq_false h
    refine BrP.mk (fun h=>?_) (fun h=>?_)<;>try (push_cast (maxSteps:=mS) [h])
    ·have h3:=of_decide_eq_true h
     (refine DrawK.of (.take 0 (.take 1 (.take 2 (.one 3 (.take 4 (.take 5 .done)))))) 1000 (by decide +kernel) ?_;try (push_cast (maxSteps:=mS)))
     refine ⟨_,f107 _,rfl,?_⟩
     (try push_cast (maxSteps:=mS))
     simp [rightF,h3,ByteArray.empty,ByteArray.emptyWithCapacity];try rfl
    ·have h3:=of_decide_eq_false h
     simp [rightF,h0,h1,h2,h3]
theorem f85 (v:Vl) (c:Cl) (hv:okVl v):Spec V 115 [.ag ((eV v).map .d),.ag ((eC c).map .d)] (b2 (fitsF v c)):=by
 (refine Spec.of_go (L:=fun|0=>some [2,3]|1=>some [4]|_=>none) 1000 Go.Proofs.Tryz.func115 rfl rfl ⟨Nat.le_of_ble_eq_true rfl,rfl⟩ rfl ?_;unfold Go.Proofs.Tryz.f115;push_cast (maxSteps:=mS))
 (have hS:=f97 v hv;simp only [eS_eq,eN_eq,eV_eq,eRN_eq,eRV_eq,eC_eq,eRC_eq,List.map_cons,List.map_nil,i2,b2,s2] at hS;refine ⟨_,hS,rfl,?_⟩;clear hS;try (push_cast (maxSteps:=mS)))
 (repeat' (first|(simp (maxSteps:=mS) only [push_cast,Nat.reduceBEq,Nat.reduceBNe,Nat.reduceAdd,Nat.reduceSub,Nat.reduceMul,Nat.reduceLT,Nat.reduceLeDiff,Nat.reduceEqDiff,Nat.blt_eq,Int.reduceLT,Int.reduceLE,Int.reduceEq,Int.reduceToNat,Int.reduceNeg,Int.reduceAdd,Int.reduceSub,Int.reduceMul,Int.reducePow,reduceIte,decide_true,decide_false,reduceCtorEq])|(refine BrP.mk (fun h=>?_) (fun h=>?_)<;>(try simp only [h]))))
 all_goals simp_all [fitsF]
theorem f86 (l:List Int) (hl:okLen l):Spec V 155 [.c (.d (.sl 1 (l.map eI)))] (i2 .i64 (orF l)):=by
 (refine Spec.of_go (L:=fun|0=>some [0]|1=>some [0,3]|2=>some [3,6,7,8]|3=>some [3,6,7,8,9]|4=>some [3,5,6,7,8]|5=>some [3,5,6,7,8,14]|6=>some [2]|7=>some [3,6,7,8]|8=>some [2]|_=>none) 1000 Go.Proofs.Tryz.func155 rfl rfl ⟨Nat.le_of_ble_eq_true rfl,rfl⟩ rfl ?_;unfold Go.Proofs.Tryz.f155;push_cast (maxSteps:=mS))
 refine LoopK.s1 (α:=Nat) [8] (fun k=>[i2 .i64 k]) (fun k=>k≤l.length∧orF (l.drop k)=orF l) (fun k=>l.length - k) 1000 0 ⟨by omega,rfl⟩ (by (try push_cast (maxSteps:=mS))) ?_
 rintro k ⟨hk,hc⟩
 by_cases hlt:k<l.length
 ·have hv:=atT hlt;have hd:=ltT hlt
  rw [drop_cons hv] at hc;simp only [orF] at hc
  (try push_cast (maxSteps:=mS) [hd,getD_map hv])
  (repeat ((with_reducible refine And.intro ?_ ?_);focus (first|trivial|omega|exact ix|exact inKu8 (by omega) (by omega))))
  refine BrP.mk (fun h=>?_) (fun h=>?_)<;>try (push_cast (maxSteps:=mS) [h])
  ·rw [if_neg (by simpa using h)] at hc
   exact hc
  ·rw [if_pos (by simpa using h)] at hc
   (repeat ((with_reducible refine And.intro ?_ ?_);focus (first|trivial|omega|exact ix|exact inKu8 (by omega) (by omega))))
   refine ⟨k+1,⟨by omega,hc⟩,by omega,Le.st ?_⟩
   (try push_cast (maxSteps:=mS))
 ·have hd:=geF hlt
  rw [List.drop_eq_nil_of_le (by omega)] at hc;simp only [orF] at hc
  (try push_cast (maxSteps:=mS) [hd])
  exact hc
theorem f75 (a b:Vl):Spec V 121 [.ag ((eV a).map .d),.ag ((eV b).map .d)] (i2 .i64 (cmpF a b)):=by
 (refine Spec.of_go (L:=fun|0=>some [2,3]|1=>some [2,3,5]|2=>some [3,5,23]|3=>some [4]|4=>some [34]|5=>some [4]|6=>some [4]|_=>none) 1000 Go.Proofs.Tryz.func121 rfl rfl ⟨Nat.le_of_ble_eq_true rfl,rfl⟩ rfl ?_;unfold Go.Proofs.Tryz.f121;push_cast (maxSteps:=mS))
 (refine DrawK.of (.take 0 (.take 1 (.take 2 (.take 3 (.take 5 (.take 6 (.take 7 (.take 8 (.take 10 (.take 11 (.take 12 (.take 13 (.one 4 (.one 9 (.one 14 (.one 15 (.one 16 (.take 17 .done)))))))))))))))))) 1000 (by decide +kernel) ?_;try (push_cast (maxSteps:=mS)))
 refine ⟨_,f87 _ _,rfl,?_⟩
 (try push_cast (maxSteps:=mS))
 refine ⟨_,f88 _ _,rfl,?_⟩
 (try push_cast (maxSteps:=mS))
 refine ⟨_,f89 _ _,rfl,?_⟩
 (try push_cast (maxSteps:=mS))
 (repeat ((with_reducible refine And.intro ?_ ?_);focus (first|trivial|omega|exact ix|exact inKu8 (by omega) (by omega))))
 refine ⟨_,f86 [cmpI a.k b.k,cmpS a.s b.s,cmpI a.n b.n] (by simp [okLen]),rfl,?_⟩
 (try push_cast (maxSteps:=mS))
 (repeat' (first|(simp (maxSteps:=mS) only [push_cast,Nat.reduceBEq,Nat.reduceBNe,Nat.reduceAdd,Nat.reduceSub,Nat.reduceMul,Nat.reduceLT,Nat.reduceLeDiff,Nat.reduceEqDiff,Nat.blt_eq,Int.reduceLT,Int.reduceLE,Int.reduceEq,Int.reduceToNat,Int.reduceNeg,Int.reduceAdd,Int.reduceSub,Int.reduceMul,Int.reducePow,reduceIte,decide_true,decide_false,reduceCtorEq])|(refine BrP.mk (fun h=>?_) (fun h=>?_)<;>(try simp only [h]))))
 all_goals simp_all [cmpF]
theorem f77 (w v:Vl):Spec V 123 [.ag ((eV w).map .d),.c (.d (.at_ (eV v)))] (b2 (decide (cmpF v w=0))):=by
 (refine Spec.of_go (L:=fun|0=>some [1,2]|1=>some [3]|_=>none) 1000 Go.Proofs.Tryz.func123 rfl rfl ⟨Nat.le_of_ble_eq_true rfl,rfl⟩ rfl ?_;unfold Go.Proofs.Tryz.f123;push_cast (maxSteps:=mS))
 (repeat ((with_reducible refine And.intro ?_ ?_);focus (first|trivial|omega|exact ix|exact inKu8 (by omega) (by omega))))
 (have hS:=f75 v w;simp only [eS_eq,eN_eq,eV_eq,eRN_eq,eRV_eq,eC_eq,eRC_eq,List.map_cons,List.map_nil,i2,b2,s2] at hS;refine ⟨_,hS,rfl,?_⟩;clear hS;try (push_cast (maxSteps:=mS)))
theorem f90 (l:List Vl) (g:FuncId) (caps:List DV) (p:Vl→Bool) (hl:okLen l) (hp:∀ v∈l,Spec V g ([.ag ((eV v).map .d)]++caps.map fun d=>.c (.d d)) (b2 (p v))) :
  Spec V 159 [.c (.d (.sl 4 (l.map eV))),.c (.d (.clo g caps))] (i2 .i64 (idxF p l 0)):=by
 (refine Spec.of_go (L:=fun|0=>some [0,1]|1=>some [0,1,7,8]|2=>some [0,1,7,8,9]|3=>some [0,1,5,7,8]|4=>some [0,1,5,7,8,16]|5=>some [4]|6=>some [0,1,7,8]|7=>some [4]|_=>none) 1000 Go.Proofs.Tryz.func159 rfl rfl ⟨Nat.le_of_ble_eq_true rfl,rfl⟩ rfl ?_;unfold Go.Proofs.Tryz.f159;push_cast (maxSteps:=mS))
 refine LoopK.s1 (α:=Nat) [8] (fun k=>[i2 .i64 k]) (fun k=>k≤l.length∧idxF p (l.drop k) k=idxF p l 0) (fun k=>l.length - k) 1000 0 ⟨by omega,rfl⟩ (by (try push_cast (maxSteps:=mS))) ?_
 rintro k ⟨hk,hc⟩
 by_cases hlt:k<l.length
 ·have hv:=atT hlt;have hd:=ltT hlt
  rw [drop_cons hv] at hc;simp only [idxF] at hc
  (try push_cast (maxSteps:=mS) [hd,getD_map hv])
  (repeat ((with_reducible refine And.intro ?_ ?_);focus (first|trivial|omega|exact ix|exact inKu8 (by omega) (by omega))))
  have hS:=hp l[k] (List.getElem_mem hlt)
  simp only [eV_eq,List.map_cons,List.map_nil,List.cons_append,List.nil_append] at hS
  refine ⟨_,hS,by simp [dataL,data1,dataC],?_⟩
  clear hS
  (try push_cast (maxSteps:=mS))
  refine BrP.mk (fun h=>?_) (fun h=>?_)<;>try (push_cast (maxSteps:=mS) [h])
  ·rw [if_pos h] at hc
   exact hc
  ·rw [if_neg (by simp [h])] at hc
   (repeat ((with_reducible refine And.intro ?_ ?_);focus (first|trivial|omega|exact ix|exact inKu8 (by omega) (by omega))))
   refine ⟨k+1,⟨by omega,hc⟩,by omega,Le.st ?_⟩
   (try push_cast (maxSteps:=mS))
 ·have hd:=geF hlt
  rw [List.drop_eq_nil_of_le (by omega)] at hc;simp only [idxF] at hc
  (try push_cast (maxSteps:=mS) [hd])
  exact hc
theorem f76 (l:List Vl) (g:FuncId) (caps:List DV) (p:Vl→Bool) (hl:okLen l) (hp:∀ v∈l,Spec V g ([.ag ((eV v).map .d)]++caps.map fun d=>.c (.d d)) (b2 (p v))) :
  Spec V 122 [.c (.d (.sl 4 (l.map eV))),.c (.d (.clo g caps))] (b2 (decide (0≤idxF p l 0))):=by
 (refine Spec.of_go (L:=fun|0=>some [0,1]|1=>some [4]|_=>none) 1000 Go.Proofs.Tryz.func122 rfl rfl ⟨Nat.le_of_ble_eq_true rfl,rfl⟩ rfl ?_;unfold Go.Proofs.Tryz.f122;push_cast (maxSteps:=mS))
 refine ⟨_,f90 l g caps p hl hp,rfl,?_⟩
 (try push_cast (maxSteps:=mS))
set_option maxHeartbeats 2000000 in
theorem f17:∀ (m:Nat) (n:Nd),bN n≤m→bN n≤1099511627776→Spec V 14 [.ag ((eN n).map .d)] (.ag ((eRN n).map .d))
 | 0,.mk _ _ _ _ _,h,_=>by simp only [bN] at h;omega
 | m+1,.mk op col v l ks,hm,hb=>by
  have IH:∀ k∈ks,Spec V 14 [.ag ((eN k).map .d)] (.ag ((eRN k).map .d)):=fun k hk=>by
   have:=bN_mem hk
   simp only [bN] at hm hb
   exact f17 m k (by omega) (by omega)
  have hkl:=bNs_len ks
  have hvl:=bVs_len l
  simp only [bN] at hm hb
  have hS1:=f22 v
  have hS2:=f24 l (by simp only [okLen];omega)
  simp only [eV_eq,eRV_eq,List.map_cons,List.map_nil] at hS1
  (refine Spec.of_go (L:=fun|0=>some [1,2]|1=>some [1,2,3]|2=>some [2,3,18,19,20]|3=>some [2,3,18,19,20,21]|4=>some [2,3,5,18,19,20]|5=>some [2,3,18,19,20]|6=>some [2,3,18,19,20]|7=>some [2]|_=>none) 1000 Go.Proofs.Tryz.func14 rfl rfl ⟨Nat.le_of_ble_eq_true rfl,rfl⟩ rfl ?_;unfold Go.Proofs.Tryz.f14;push_cast (maxSteps:=mS))
  refine DrawK.cut (.take 0 (.take 1 (.take 2 (.take 3 (.take 4 (.take 5 (.take 7 (.take 8 (.two 6 (.two 9 (.take 10 (.one 11 (.one 12 .done))) 11 (.one 9 (.take 10 (.one 12 .done)))) 11 (.one 6 (.one 9 (.take 10 (.one 12 .done))))))))))))) 1000 (by decide +kernel) ⟨[(3,.c (.op 2 0)),(2,.c (.op 1 0)),(1,.c (.op 0 0))],
   [.bx 31 [.d (.v (.int .i64 op)),.d (.v (.string col)),.d (.v (.int .i64 v.k)),.d (.v (.string v.s)),.d (.v (.int .i64 v.n)),.d (.v (.bool v.b)),.d (.sl 4 (l.map eV)),.d (.sl 8 (ks.map eN))],
    .bx 42 [.d (.v (.int .i64 0)),.d (.v (.string ByteArray.empty)),.d (.v (.int .i64 0)),.d (.v (.string ByteArray.empty)),.d (.v (.int .i64 0)),.d (.v (.int .i64 0)),.d (.v (.slice none 0 0)),.d (.v (.slice none 0 0))],
    .bx 42 [.d (.v (.int .i64 op)),.d (.v (.string col)),.d (.v (.int .i64 v.k)),.d (.v (.string v.s)),.d (.v (.int .i64 v.n)),.d (.v (.int .i64 (bi v.b))),.d (.sl 4 (l.map eRV)),.d (.v (.slice none 0 0))]]⟩ ?_ ?_
  ·(try push_cast (maxSteps:=mS))
   refine ⟨?_,?_⟩
   ·refine ⟨_,hS1,rfl,?_⟩
    (try push_cast (maxSteps:=mS))
    refine ⟨?_,?_⟩
    ·refine ⟨_,hS2,rfl,?_⟩
     (try push_cast (maxSteps:=mS))
     refine Le.st ?_
     (try push_cast (maxSteps:=mS))
     rfl
    ·refine ⟨_,hS2,rfl,?_⟩
     (try push_cast (maxSteps:=mS))
     refine Le.st ?_
     (try push_cast (maxSteps:=mS))
     rfl
   ·refine ⟨_,hS1,rfl,?_⟩
    (try push_cast (maxSteps:=mS))
    refine ⟨_,hS2,rfl,?_⟩
    (try push_cast (maxSteps:=mS))
    refine Le.st ?_
    (try push_cast (maxSteps:=mS))
    rfl
  ·(try push_cast (maxSteps:=mS))
   refine LoopK.le (Le.nilB 2 7 42 8 (by decide) rfl rfl) ?_
   (try push_cast (maxSteps:=mS))
   refine LoopK.ov (α:=Nat) [20] (fun k=>[i2 .i64 k]) (fun k=>[.bx 31 [.d (.v (.int .i64 op)),.d (.v (.string col)),.d (.v (.int .i64 v.k)),.d (.v (.string v.s)),.d (.v (.int .i64 v.n)),.d (.v (.bool v.b)),.d (.sl 4 (l.map eV)),.d (.sl 8 (ks.map eN))],
    .bx 42 [.d (.v (.int .i64 0)),.d (.v (.string ByteArray.empty)),.d (.v (.int .i64 0)),.d (.v (.string ByteArray.empty)),.d (.v (.int .i64 0)),.d (.v (.int .i64 0)),.d (.v (.slice none 0 0)),.d (.v (.slice none 0 0))],
    .bx 42 [.d (.v (.int .i64 op)),.d (.v (.string col)),.d (.v (.int .i64 v.k)),.d (.v (.string v.s)),.d (.v (.int .i64 v.n)),.d (.v (.int .i64 (bi v.b))),.d (.sl 4 (l.map eRV)),.os 3],
    .rw 42 8 ((ks.take k).map eRN)]) (fun k=>k≤ks.length) (fun k=>ks.length - k) 1000 0 (by omega) (by (try push_cast (maxSteps:=mS))) ?_
   rintro k hk
   by_cases hlt:k<ks.length
   ·have hv:=atT hlt;have hd:=ltT hlt
    (try push_cast (maxSteps:=mS) [hd,getD_map hv])
    (repeat ((with_reducible refine And.intro ?_ ?_);focus (first|trivial|omega|exact ix|exact inKu8 (by omega) (by omega))))
    (refine DrawK.of (.take 0 (.take 1 (.take 2 (.one 3 (.one 4 (.one 5 (.one 6 (.one 7 .done)))))))) 1000 (by decide +kernel) ?_;try (push_cast (maxSteps:=mS)))
    have hS:=IH ks[k] (List.getElem_mem hlt)
    simp only [eN_eq,eRN_eq,List.map_cons,List.map_nil] at hS
    refine ⟨_,hS,rfl,?_⟩
    clear hS
    (try push_cast (maxSteps:=mS))
    refine ⟨⟨.inl trivial,by simp [maxLen];omega,by simp;omega⟩,inK64 (by omega) (by omega),k+1,by omega,by omega,Le.st ?_⟩
    (try push_cast (maxSteps:=mS))
    refine ⟨?_,by first|rfl|trivial⟩
    rw [map_take_succ hv];try (simp only [eRN_eq])
   ·have hd:=geF hlt
    (try push_cast (maxSteps:=mS) [hd])
    rw [List.take_of_length_le (by omega)]
theorem f79 (b:Bool):Spec V 142 [b2 b] (i2 .i64 (lessF b)):=by
 (refine Spec.of_go (L:=fun|0=>some [0]|1=>some [3]|2=>some [2]|3=>some [2]|_=>none) 1000 Go.Proofs.Tryz.func142 rfl rfl ⟨Nat.le_of_ble_eq_true rfl,rfl⟩ rfl ?_;unfold Go.Proofs.Tryz.f142;push_cast (maxSteps:=mS))
 (repeat' (first|(simp (maxSteps:=mS) only [push_cast,Nat.reduceBEq,Nat.reduceBNe,Nat.reduceAdd,Nat.reduceSub,Nat.reduceMul,Nat.reduceLT,Nat.reduceLeDiff,Nat.reduceEqDiff,Nat.blt_eq,Int.reduceLT,Int.reduceLE,Int.reduceEq,Int.reduceToNat,Int.reduceNeg,Int.reduceAdd,Int.reduceSub,Int.reduceMul,Int.reducePow,reduceIte,decide_true,decide_false,reduceCtorEq])|(refine BrP.mk (fun h=>?_) (fun h=>?_)<;>(try simp only [h]))))
 all_goals simp_all [lessF]
theorem f57 (a b:Vl):Spec V 104 [.ag ((eRV a).map .d),.ag ((eRV b).map .d)] (i2 .i64 (rcmpF a b)):=by
 (refine Spec.of_go (L:=fun|0=>some [2,3]|1=>some [2,3,9]|2=>some [4]|3=>some [2,3,20]|4=>some [4]|5=>some [2,3,31]|6=>some [4]|7=>some [2,3,42]|8=>some [4]|9=>some [4]|_=>none) 1000 Go.Proofs.Tryz.func104 rfl rfl ⟨Nat.le_of_ble_eq_true rfl,rfl⟩ rfl ?_;unfold Go.Proofs.Tryz.f104;push_cast (maxSteps:=mS))
 (repeat' (first|(simp (maxSteps:=mS) only [push_cast,Nat.reduceBEq,Nat.reduceBNe,Nat.reduceAdd,Nat.reduceSub,Nat.reduceMul,Nat.reduceLT,Nat.reduceLeDiff,Nat.reduceEqDiff,Nat.blt_eq,Int.reduceLT,Int.reduceLE,Int.reduceEq,Int.reduceToNat,Int.reduceNeg,Int.reduceAdd,Int.reduceSub,Int.reduceMul,Int.reducePow,reduceIte,decide_true,decide_false,reduceCtorEq])|(refine BrP.mk (fun h=>?_) (fun h=>?_)<;>(try simp only [h]))))
 all_goals try (refine ⟨_,f79 _,rfl,?_⟩;(try push_cast (maxSteps:=mS)))
 all_goals simp_all [rcmpF]
theorem f59 (l m:List Vl) (hl:okLen l) (hm:okLen m):Spec V 79 [.c (.d (.sl 4 (l.map eRV))),.c (.d (.sl 4 (m.map eRV)))] (b2 (decide (l.length=m.length) && sameL l m)):=by
 (refine Spec.of_go (L:=fun|0=>some [0,1]|1=>some [0,1,10]|2=>some [4]|3=>some [0,1,12,13]|4=>some [0,1,12,13,14]|5=>some [0,1,5,12,13]|6=>some [0,1,12,13,24]|7=>some [4]|8=>some [0,1,12,13]|9=>some [4]|_=>none) 1000 Go.Proofs.Tryz.func79 rfl rfl ⟨Nat.le_of_ble_eq_true rfl,rfl⟩ rfl ?_;unfold Go.Proofs.Tryz.f79;push_cast (maxSteps:=mS))
 refine BrP.mk (fun h=>?_) (fun h=>?_)<;>try (push_cast (maxSteps:=mS) [h])
 ·have:¬ l.length=m.length:=by simp at h;omega
  simp [this]
 ·have hlm:l.length=m.length:=by simp at h;omega
  simp only [hlm,decide_true,Bool.true_and]
  refine LoopK.s1 (α:=Nat) [13] (fun k=>[i2 .i64 k]) (fun k=>k≤l.length∧sameL (l.drop k) (m.drop k)=sameL l m) (fun k=>l.length - k) 1000 0 ⟨by omega,rfl⟩ (by (try push_cast (maxSteps:=mS))) ?_
  rintro k ⟨hk,hc⟩
  by_cases hlt:k<l.length
  ·have hv:=List.getElem?_eq_getElem hlt
   have hlt2:k<m.length:=by omega
   have hv2:=List.getElem?_eq_getElem hlt2
   have hd:decide ((k:Int)<(m.length:Int))=true:=decide_eq_true (by omega)
   rw [drop_cons hv,drop_cons hv2] at hc;simp only [sameL] at hc
   (try push_cast (maxSteps:=mS) [hd,getD_map hv,getD_map hv2])
   (refine DrawK.of (.take 0 (.take 1 (.take 2 (.take 3 (.take 4 (.take 5 (.take 6 (.take 7 (.take 8 .done))))))))) 1000 (by decide +kernel) ?_;try (push_cast (maxSteps:=mS)))
   (try push_cast (maxSteps:=mS) [hd,getD_map hv,getD_map hv2])
   (repeat ((with_reducible refine And.intro ?_ ?_);focus (first|trivial|omega|exact ix|exact inKu8 (by omega) (by omega))))
   have hf:(decide (l[k].k=m[k].k) && (decide (l[k].s=m[k].s) && (decide (l[k].n=m[k].n) && decide (bi l[k].b=bi m[k].b))))=sameV l[k] m[k]:=rfl
   rw [hf]
   refine BrP.mk (fun h=>?_) (fun h=>?_)<;>try (push_cast (maxSteps:=mS) [h])
   ·rw [if_pos (by simpa using h)] at hc
    exact hc
   ·rw [if_neg (by simpa using h)] at hc
    (repeat ((with_reducible refine And.intro ?_ ?_);focus (first|trivial|omega|exact ix|exact inKu8 (by omega) (by omega))))
    refine ⟨k+1,⟨by omega,hc⟩,by omega,Le.st ?_⟩
    (try push_cast (maxSteps:=mS))
  ·have hd:decide ((k:Int)<(m.length:Int))=false:=decide_eq_false (by omega)
   rw [List.drop_eq_nil_of_le (by omega)] at hc;simp only [sameL] at hc
   (try push_cast (maxSteps:=mS) [hd])
   exact hc
theorem f73_0 (col:ByteArray) (v:Vl) (vl:List Vl) (ks:List Nd) (l:List Cl):Spec V 76 [.ag ((eN (.mk 0 col v vl ks)).map .d),.c (.d (.sl 3 (l.map eC)))] (i2 .i64 (oneF (.mk 0 col v vl ks) l)):=by
 (refine Spec.of_go (L:=lv6SA) 1000 Go.Proofs.Tryz.func76 rfl rfl ⟨Nat.le_of_ble_eq_true rfl,rfl⟩ rfl ?_;unfold Go.Proofs.Tryz.f76;push_cast (maxSteps:=mS))
 (repeat' (first|(simp (maxSteps:=mS) only [push_cast,Nat.reduceBEq,Nat.reduceBNe,Nat.reduceAdd,Nat.reduceSub,Nat.reduceMul,Nat.reduceLT,Nat.reduceLeDiff,Nat.reduceEqDiff,Nat.blt_eq,Int.reduceLT,Int.reduceLE,Int.reduceEq,Int.reduceToNat,Int.reduceNeg,Int.reduceAdd,Int.reduceSub,Int.reduceMul,Int.reducePow,reduceIte,decide_true,decide_false,reduceCtorEq])|(refine BrP.mk (fun h=>?_) (fun h=>?_)<;>(try simp only [h]))))
 all_goals (try simp only [zeroV_fold,Bool.not_eq_true',Bool.not_eq_false',Bool.not_eq_eq_eq_not,Bool.not_true,Bool.not_false,decide_eq_true_eq,decide_eq_false_iff_not] at *)
 all_goals simp [oneF,op_mk,col_mk,v_mk,l_mk,ks_mk, *]
 all_goals (try (rcases vl with _|⟨x,vl⟩<;>simp_all<;>(try omega)))
 all_goals (try (rcases ks with _|⟨x,ks⟩<;>simp_all<;>(try omega)))
theorem f73_5 (col:ByteArray) (v:Vl) (vl:List Vl) (ks:List Nd) (l:List Cl):Spec V 76 [.ag ((eN (.mk 5 col v vl ks)).map .d),.c (.d (.sl 3 (l.map eC)))] (i2 .i64 (oneF (.mk 5 col v vl ks) l)):=by
 (refine Spec.of_go (L:=lv6SA) 1000 Go.Proofs.Tryz.func76 rfl rfl ⟨Nat.le_of_ble_eq_true rfl,rfl⟩ rfl ?_;unfold Go.Proofs.Tryz.f76;push_cast (maxSteps:=mS))
 (repeat' (first|(simp (maxSteps:=mS) only [push_cast,Nat.reduceBEq,Nat.reduceBNe,Nat.reduceAdd,Nat.reduceSub,Nat.reduceMul,Nat.reduceLT,Nat.reduceLeDiff,Nat.reduceEqDiff,Nat.blt_eq,Int.reduceLT,Int.reduceLE,Int.reduceEq,Int.reduceToNat,Int.reduceNeg,Int.reduceAdd,Int.reduceSub,Int.reduceMul,Int.reducePow,reduceIte,decide_true,decide_false,reduceCtorEq])|(refine BrP.mk (fun h=>?_) (fun h=>?_)<;>(try simp only [h]))))
 all_goals (try simp only [zeroV_fold,Bool.not_eq_true',Bool.not_eq_false',Bool.not_eq_eq_eq_not,Bool.not_true,Bool.not_false,decide_eq_true_eq,decide_eq_false_iff_not] at *)
 all_goals simp [oneF,op_mk,col_mk,v_mk,l_mk,ks_mk, *]
 all_goals (try (rcases vl with _|⟨x,vl⟩<;>simp_all<;>(try omega)))
 all_goals (try (rcases ks with _|⟨x,ks⟩<;>simp_all<;>(try omega)))
theorem f73_6 (col:ByteArray) (v:Vl) (vl:List Vl) (ks:List Nd) (l:List Cl):Spec V 76 [.ag ((eN (.mk 6 col v vl ks)).map .d),.c (.d (.sl 3 (l.map eC)))] (i2 .i64 (oneF (.mk 6 col v vl ks) l)):=by
 (refine Spec.of_go (L:=lv6SA) 1000 Go.Proofs.Tryz.func76 rfl rfl ⟨Nat.le_of_ble_eq_true rfl,rfl⟩ rfl ?_;unfold Go.Proofs.Tryz.f76;push_cast (maxSteps:=mS))
 (repeat' (first|(simp (maxSteps:=mS) only [push_cast,Nat.reduceBEq,Nat.reduceBNe,Nat.reduceAdd,Nat.reduceSub,Nat.reduceMul,Nat.reduceLT,Nat.reduceLeDiff,Nat.reduceEqDiff,Nat.blt_eq,Int.reduceLT,Int.reduceLE,Int.reduceEq,Int.reduceToNat,Int.reduceNeg,Int.reduceAdd,Int.reduceSub,Int.reduceMul,Int.reducePow,reduceIte,decide_true,decide_false,reduceCtorEq])|(refine BrP.mk (fun h=>?_) (fun h=>?_)<;>(try simp only [h]))))
 all_goals (try simp only [zeroV_fold,Bool.not_eq_true',Bool.not_eq_false',Bool.not_eq_eq_eq_not,Bool.not_true,Bool.not_false,decide_eq_true_eq,decide_eq_false_iff_not] at *)
 all_goals simp [oneF,op_mk,col_mk,v_mk,l_mk,ks_mk, *]
 all_goals (try (rcases vl with _|⟨x,vl⟩<;>simp_all<;>(try omega)))
 all_goals (try (rcases ks with _|⟨x,ks⟩<;>simp_all<;>(try omega)))
theorem f73_7 (col:ByteArray) (v:Vl) (vl:List Vl) (ks:List Nd) (l:List Cl):Spec V 76 [.ag ((eN (.mk 7 col v vl ks)).map .d),.c (.d (.sl 3 (l.map eC)))] (i2 .i64 (oneF (.mk 7 col v vl ks) l)):=by
 (refine Spec.of_go (L:=lv6SA) 1000 Go.Proofs.Tryz.func76 rfl rfl ⟨Nat.le_of_ble_eq_true rfl,rfl⟩ rfl ?_;unfold Go.Proofs.Tryz.f76;push_cast (maxSteps:=mS))
 (repeat' (first|(simp (maxSteps:=mS) only [push_cast,Nat.reduceBEq,Nat.reduceBNe,Nat.reduceAdd,Nat.reduceSub,Nat.reduceMul,Nat.reduceLT,Nat.reduceLeDiff,Nat.reduceEqDiff,Nat.blt_eq,Int.reduceLT,Int.reduceLE,Int.reduceEq,Int.reduceToNat,Int.reduceNeg,Int.reduceAdd,Int.reduceSub,Int.reduceMul,Int.reducePow,reduceIte,decide_true,decide_false,reduceCtorEq])|(refine BrP.mk (fun h=>?_) (fun h=>?_)<;>(try simp only [h]))))
 all_goals (try simp only [zeroV_fold,Bool.not_eq_true',Bool.not_eq_false',Bool.not_eq_eq_eq_not,Bool.not_true,Bool.not_false,decide_eq_true_eq,decide_eq_false_iff_not] at *)
 all_goals simp [oneF,op_mk,col_mk,v_mk,l_mk,ks_mk, *]
 all_goals (try (rcases vl with _|⟨x,vl⟩<;>simp_all<;>(try omega)))
 all_goals (try (rcases ks with _|⟨x,ks⟩<;>simp_all<;>(try omega)))
set_option maxHeartbeats 1000000 in
theorem f73_1 (col:ByteArray) (v:Vl) (vl:List Vl) (ks:List Nd) (l:List Cl) (hn:okNd (.mk 1 col v vl ks)) (hl:okCl l):Spec V 76 [.ag ((eN (.mk 1 col v vl ks)).map .d),.c (.d (.sl 3 (l.map eC)))] (i2 .i64 (oneF (.mk 1 col v vl ks) l)):=by
 obtain ⟨h1,h2,h3,h4⟩:=okNd_v hn
 (refine Spec.of_go (L:=lv6SA) 1000 Go.Proofs.Tryz.func76 rfl rfl ⟨Nat.le_of_ble_eq_true rfl,rfl⟩ rfl ?_;unfold Go.Proofs.Tryz.f76;push_cast (maxSteps:=mS))
 (repeat' (first|(simp (maxSteps:=mS) only [push_cast,Nat.reduceBEq,Nat.reduceBNe,Nat.reduceAdd,Nat.reduceSub,Nat.reduceMul,Nat.reduceLT,Nat.reduceLeDiff,Nat.reduceEqDiff,Nat.blt_eq,Int.reduceLT,Int.reduceLE,Int.reduceEq,Int.reduceToNat,Int.reduceNeg,Int.reduceAdd,Int.reduceSub,Int.reduceMul,Int.reducePow,reduceIte,decide_true,decide_false,reduceCtorEq])|(refine BrP.mk (fun h=>?_) (fun h=>?_)<;>(try simp only [h]))))
 all_goals (try simp only [zeroV_fold,Bool.not_eq_true',Bool.not_eq_false',Bool.not_eq_eq_eq_not,Bool.not_true,Bool.not_false,decide_eq_true_eq,decide_eq_false_iff_not] at *)
 all_goals (try ((rcases vl with _|⟨x,vl⟩<;>rcases ks with _|⟨y,ks⟩<;>simp_all [oneF,op_mk,col_mk,v_mk,l_mk,ks_mk]);done))
 obtain ⟨F,hF⟩:∃ F,findF col l 0=F:=⟨_,rfl⟩
 have hS:=f62 l col hl.1
 rw [hF] at hS
 have e:oneF (.mk 1 col v vl ks) l=if F.2.2=false then 16 else if fitsF v F.1=false then 21 else if (vl.all fun v=>fitsF v F.1)=true then 0 else 21:=by
  subst hF
  rcases vl with _|⟨x,vl⟩<;>rcases ks with _|⟨y,ks⟩<;>simp_all [oneF,tailF,op_mk,col_mk,v_mk,l_mk,ks_mk]
 rw [e]
 refine ⟨_,hS,rfl,?_⟩
 clear hS e hF
 (try push_cast (maxSteps:=mS))
 refine BrP.mk (fun h=>?_) (fun h=>?_)<;>try (push_cast (maxSteps:=mS) [h])
 ·have h':F.2.2=false:=by simpa using h
  simp [h']
 ·have h':F.2.2=true:=by simpa using h
  rw [if_neg (by simp [h'])]
  (have hS:=f85 v F.1 h1;simp only [eS_eq,eN_eq,eV_eq,eRN_eq,eRV_eq,eC_eq,eRC_eq,List.map_cons,List.map_nil,i2,b2,s2] at hS;refine ⟨_,hS,rfl,?_⟩;clear hS;try (push_cast (maxSteps:=mS)))
  refine BrP.mk (fun h=>?_) (fun h=>?_)<;>try (push_cast (maxSteps:=mS) [h])
  ·rw [if_pos (by simpa using h)]
  ·rw [if_neg (by simpa using h)]
   refine LoopK.s1 (α:=Nat) [98] (fun k=>[i2 .i64 k]) (fun k=>k≤vl.length∧((vl.drop k).all fun v=>fitsF v F.1)=(vl.all fun v=>fitsF v F.1)) (fun k=>vl.length - k) 1000 0 ⟨by omega,rfl⟩ (by (try push_cast (maxSteps:=mS))) ?_
   rintro k ⟨hk,hc⟩
   by_cases hlt:k<vl.length
   ·have hv:=atT hlt;have hd:=ltT hlt
    rw [drop_cons hv] at hc
    simp only [List.all_cons] at hc
    (try push_cast (maxSteps:=mS) [hd,getD_map hv])
    (repeat ((with_reducible refine And.intro ?_ ?_);focus (first|trivial|omega|exact ix|exact inKu8 (by omega) (by omega))))
    (have hS:=f85 vl[k] F.1 (h2 _ (List.getElem_mem hlt));simp only [eS_eq,eN_eq,eV_eq,eRN_eq,eRV_eq,eC_eq,eRC_eq,List.map_cons,List.map_nil,i2,b2,s2] at hS;refine ⟨_,hS,rfl,?_⟩;clear hS;try (push_cast (maxSteps:=mS)))
    refine BrP.mk (fun h=>?_) (fun h=>?_)<;>try (push_cast (maxSteps:=mS) [h])
    ·have h0:fitsF vl[k] F.1=false:=by simpa using h
     rw [h0,Bool.false_and] at hc
     rw [if_neg (by rw [← hc];decide)]
    ·have h0:fitsF vl[k] F.1=true:=by simpa using h
     rw [h0,Bool.true_and] at hc
     (repeat ((with_reducible refine And.intro ?_ ?_);focus (first|trivial|omega|exact ix|exact inKu8 (by omega) (by omega))))
     refine ⟨k+1,⟨by omega,hc⟩,by omega,Le.st ?_⟩
     (try push_cast (maxSteps:=mS))
   ·have hd:=geF hlt
    rw [List.drop_eq_nil_of_le (by omega)] at hc
    (try push_cast (maxSteps:=mS) [hd])
    rw [← hc];rfl
set_option maxHeartbeats 1000000 in
theorem f73_2 (col:ByteArray) (v:Vl) (vl:List Vl) (ks:List Nd) (l:List Cl) (hn:okNd (.mk 2 col v vl ks)) (hl:okCl l):Spec V 76 [.ag ((eN (.mk 2 col v vl ks)).map .d),.c (.d (.sl 3 (l.map eC)))] (i2 .i64 (oneF (.mk 2 col v vl ks) l)):=by
 obtain ⟨h1,h2,h3,h4⟩:=okNd_v hn
 (refine Spec.of_go (L:=lv6SA) 1000 Go.Proofs.Tryz.func76 rfl rfl ⟨Nat.le_of_ble_eq_true rfl,rfl⟩ rfl ?_;unfold Go.Proofs.Tryz.f76;push_cast (maxSteps:=mS))
 (repeat' (first|(simp (maxSteps:=mS) only [push_cast,Nat.reduceBEq,Nat.reduceBNe,Nat.reduceAdd,Nat.reduceSub,Nat.reduceMul,Nat.reduceLT,Nat.reduceLeDiff,Nat.reduceEqDiff,Nat.blt_eq,Int.reduceLT,Int.reduceLE,Int.reduceEq,Int.reduceToNat,Int.reduceNeg,Int.reduceAdd,Int.reduceSub,Int.reduceMul,Int.reducePow,reduceIte,decide_true,decide_false,reduceCtorEq])|(refine BrP.mk (fun h=>?_) (fun h=>?_)<;>(try simp only [h]))))
 all_goals (try simp only [zeroV_fold,Bool.not_eq_true',Bool.not_eq_false',Bool.not_eq_eq_eq_not,Bool.not_true,Bool.not_false,decide_eq_true_eq,decide_eq_false_iff_not] at *)
 all_goals (try ((rcases vl with _|⟨x,vl⟩<;>rcases ks with _|⟨y,ks⟩<;>simp_all [oneF,op_mk,col_mk,v_mk,l_mk,ks_mk]);done))
 obtain ⟨F,hF⟩:∃ F,findF col l 0=F:=⟨_,rfl⟩
 have hS:=f62 l col hl.1
 rw [hF] at hS
 have e:oneF (.mk 2 col v vl ks) l=if F.2.2=false then 16 else if fitsF v F.1=false then 21 else if (vl.all fun v=>fitsF v F.1)=true then 0 else 21:=by
  subst hF
  rcases vl with _|⟨x,vl⟩<;>rcases ks with _|⟨y,ks⟩<;>simp_all [oneF,tailF,op_mk,col_mk,v_mk,l_mk,ks_mk]
 rw [e]
 refine ⟨_,hS,rfl,?_⟩
 clear hS e hF
 (try push_cast (maxSteps:=mS))
 refine BrP.mk (fun h=>?_) (fun h=>?_)<;>try (push_cast (maxSteps:=mS) [h])
 ·have h':F.2.2=false:=by simpa using h
  simp [h']
 ·have h':F.2.2=true:=by simpa using h
  rw [if_neg (by simp [h'])]
  (have hS:=f85 v F.1 h1;simp only [eS_eq,eN_eq,eV_eq,eRN_eq,eRV_eq,eC_eq,eRC_eq,List.map_cons,List.map_nil,i2,b2,s2] at hS;refine ⟨_,hS,rfl,?_⟩;clear hS;try (push_cast (maxSteps:=mS)))
  refine BrP.mk (fun h=>?_) (fun h=>?_)<;>try (push_cast (maxSteps:=mS) [h])
  ·rw [if_pos (by simpa using h)]
  ·rw [if_neg (by simpa using h)]
   refine LoopK.s1 (α:=Nat) [98] (fun k=>[i2 .i64 k]) (fun k=>k≤vl.length∧((vl.drop k).all fun v=>fitsF v F.1)=(vl.all fun v=>fitsF v F.1)) (fun k=>vl.length - k) 1000 0 ⟨by omega,rfl⟩ (by (try push_cast (maxSteps:=mS))) ?_
   rintro k ⟨hk,hc⟩
   by_cases hlt:k<vl.length
   ·have hv:=atT hlt;have hd:=ltT hlt
    rw [drop_cons hv] at hc
    simp only [List.all_cons] at hc
    (try push_cast (maxSteps:=mS) [hd,getD_map hv])
    (repeat ((with_reducible refine And.intro ?_ ?_);focus (first|trivial|omega|exact ix|exact inKu8 (by omega) (by omega))))
    (have hS:=f85 vl[k] F.1 (h2 _ (List.getElem_mem hlt));simp only [eS_eq,eN_eq,eV_eq,eRN_eq,eRV_eq,eC_eq,eRC_eq,List.map_cons,List.map_nil,i2,b2,s2] at hS;refine ⟨_,hS,rfl,?_⟩;clear hS;try (push_cast (maxSteps:=mS)))
    refine BrP.mk (fun h=>?_) (fun h=>?_)<;>try (push_cast (maxSteps:=mS) [h])
    ·have h0:fitsF vl[k] F.1=false:=by simpa using h
     rw [h0,Bool.false_and] at hc
     rw [if_neg (by rw [← hc];decide)]
    ·have h0:fitsF vl[k] F.1=true:=by simpa using h
     rw [h0,Bool.true_and] at hc
     (repeat ((with_reducible refine And.intro ?_ ?_);focus (first|trivial|omega|exact ix|exact inKu8 (by omega) (by omega))))
     refine ⟨k+1,⟨by omega,hc⟩,by omega,Le.st ?_⟩
     (try push_cast (maxSteps:=mS))
   ·have hd:=geF hlt
    rw [List.drop_eq_nil_of_le (by omega)] at hc
    (try push_cast (maxSteps:=mS) [hd])
    rw [← hc];rfl
set_option maxHeartbeats 1000000 in
theorem f73_3 (col:ByteArray) (v:Vl) (vl:List Vl) (ks:List Nd) (l:List Cl) (hn:okNd (.mk 3 col v vl ks)) (hl:okCl l):Spec V 76 [.ag ((eN (.mk 3 col v vl ks)).map .d),.c (.d (.sl 3 (l.map eC)))] (i2 .i64 (oneF (.mk 3 col v vl ks) l)):=by
 obtain ⟨h1,h2,h3,h4⟩:=okNd_v hn
 (refine Spec.of_go (L:=lv6SA) 1000 Go.Proofs.Tryz.func76 rfl rfl ⟨Nat.le_of_ble_eq_true rfl,rfl⟩ rfl ?_;unfold Go.Proofs.Tryz.f76;push_cast (maxSteps:=mS))
 (repeat' (first|(simp (maxSteps:=mS) only [push_cast,Nat.reduceBEq,Nat.reduceBNe,Nat.reduceAdd,Nat.reduceSub,Nat.reduceMul,Nat.reduceLT,Nat.reduceLeDiff,Nat.reduceEqDiff,Nat.blt_eq,Int.reduceLT,Int.reduceLE,Int.reduceEq,Int.reduceToNat,Int.reduceNeg,Int.reduceAdd,Int.reduceSub,Int.reduceMul,Int.reducePow,reduceIte,decide_true,decide_false,reduceCtorEq])|(refine BrP.mk (fun h=>?_) (fun h=>?_)<;>(try simp only [h]))))
 all_goals (try simp only [zeroV_fold,Bool.not_eq_true',Bool.not_eq_false',Bool.not_eq_eq_eq_not,Bool.not_true,Bool.not_false,decide_eq_true_eq,decide_eq_false_iff_not] at *)
 all_goals (try ((rcases vl with _|⟨x,vl⟩<;>rcases ks with _|⟨y,ks⟩<;>simp_all [oneF,op_mk,col_mk,v_mk,l_mk,ks_mk]);done))
 obtain ⟨F,hF⟩:∃ F,findF col l 0=F:=⟨_,rfl⟩
 have hS:=f62 l col hl.1
 rw [hF] at hS
 have e:oneF (.mk 3 col v vl ks) l=if F.2.2=false then 16 else if fitsF v F.1=false then 21 else if (vl.all fun v=>fitsF v F.1)=true then 0 else 21:=by
  subst hF
  rcases vl with _|⟨x,vl⟩<;>rcases ks with _|⟨y,ks⟩<;>simp_all [oneF,tailF,op_mk,col_mk,v_mk,l_mk,ks_mk]
 rw [e]
 refine ⟨_,hS,rfl,?_⟩
 clear hS e hF
 (try push_cast (maxSteps:=mS))
 refine BrP.mk (fun h=>?_) (fun h=>?_)<;>try (push_cast (maxSteps:=mS) [h])
 ·have h':F.2.2=false:=by simpa using h
  simp [h']
 ·have h':F.2.2=true:=by simpa using h
  rw [if_neg (by simp [h'])]
  (have hS:=f85 v F.1 h1;simp only [eS_eq,eN_eq,eV_eq,eRN_eq,eRV_eq,eC_eq,eRC_eq,List.map_cons,List.map_nil,i2,b2,s2] at hS;refine ⟨_,hS,rfl,?_⟩;clear hS;try (push_cast (maxSteps:=mS)))
  refine BrP.mk (fun h=>?_) (fun h=>?_)<;>try (push_cast (maxSteps:=mS) [h])
  ·rw [if_pos (by simpa using h)]
  ·rw [if_neg (by simpa using h)]
   refine LoopK.s1 (α:=Nat) [98] (fun k=>[i2 .i64 k]) (fun k=>k≤vl.length∧((vl.drop k).all fun v=>fitsF v F.1)=(vl.all fun v=>fitsF v F.1)) (fun k=>vl.length - k) 1000 0 ⟨by omega,rfl⟩ (by (try push_cast (maxSteps:=mS))) ?_
   rintro k ⟨hk,hc⟩
   by_cases hlt:k<vl.length
   ·have hv:=atT hlt;have hd:=ltT hlt
    rw [drop_cons hv] at hc
    simp only [List.all_cons] at hc
    (try push_cast (maxSteps:=mS) [hd,getD_map hv])
    (repeat ((with_reducible refine And.intro ?_ ?_);focus (first|trivial|omega|exact ix|exact inKu8 (by omega) (by omega))))
    (have hS:=f85 vl[k] F.1 (h2 _ (List.getElem_mem hlt));simp only [eS_eq,eN_eq,eV_eq,eRN_eq,eRV_eq,eC_eq,eRC_eq,List.map_cons,List.map_nil,i2,b2,s2] at hS;refine ⟨_,hS,rfl,?_⟩;clear hS;try (push_cast (maxSteps:=mS)))
    refine BrP.mk (fun h=>?_) (fun h=>?_)<;>try (push_cast (maxSteps:=mS) [h])
    ·have h0:fitsF vl[k] F.1=false:=by simpa using h
     rw [h0,Bool.false_and] at hc
     rw [if_neg (by rw [← hc];decide)]
    ·have h0:fitsF vl[k] F.1=true:=by simpa using h
     rw [h0,Bool.true_and] at hc
     (repeat ((with_reducible refine And.intro ?_ ?_);focus (first|trivial|omega|exact ix|exact inKu8 (by omega) (by omega))))
     refine ⟨k+1,⟨by omega,hc⟩,by omega,Le.st ?_⟩
     (try push_cast (maxSteps:=mS))
   ·have hd:=geF hlt
    rw [List.drop_eq_nil_of_le (by omega)] at hc
    (try push_cast (maxSteps:=mS) [hd])
    rw [← hc];rfl
set_option maxHeartbeats 1000000 in
theorem f73_4 (col:ByteArray) (v:Vl) (vl:List Vl) (ks:List Nd) (l:List Cl) (hn:okNd (.mk 4 col v vl ks)) (hl:okCl l):Spec V 76 [.ag ((eN (.mk 4 col v vl ks)).map .d),.c (.d (.sl 3 (l.map eC)))] (i2 .i64 (oneF (.mk 4 col v vl ks) l)):=by
 obtain ⟨h1,h2,h3,h4⟩:=okNd_v hn
 (refine Spec.of_go (L:=lv6SA) 1000 Go.Proofs.Tryz.func76 rfl rfl ⟨Nat.le_of_ble_eq_true rfl,rfl⟩ rfl ?_;unfold Go.Proofs.Tryz.f76;push_cast (maxSteps:=mS))
 (repeat' (first|(simp (maxSteps:=mS) only [push_cast,Nat.reduceBEq,Nat.reduceBNe,Nat.reduceAdd,Nat.reduceSub,Nat.reduceMul,Nat.reduceLT,Nat.reduceLeDiff,Nat.reduceEqDiff,Nat.blt_eq,Int.reduceLT,Int.reduceLE,Int.reduceEq,Int.reduceToNat,Int.reduceNeg,Int.reduceAdd,Int.reduceSub,Int.reduceMul,Int.reducePow,reduceIte,decide_true,decide_false,reduceCtorEq])|(refine BrP.mk (fun h=>?_) (fun h=>?_)<;>(try simp only [h]))))
 all_goals (try simp only [zeroV_fold,Bool.not_eq_true',Bool.not_eq_false',Bool.not_eq_eq_eq_not,Bool.not_true,Bool.not_false,decide_eq_true_eq,decide_eq_false_iff_not] at *)
 all_goals (try ((rcases vl with _|⟨x,vl⟩<;>rcases ks with _|⟨y,ks⟩<;>simp_all [oneF,op_mk,col_mk,v_mk,l_mk,ks_mk]);done))
 obtain ⟨F,hF⟩:∃ F,findF col l 0=F:=⟨_,rfl⟩
 have hS:=f62 l col hl.1
 rw [hF] at hS
 have e:oneF (.mk 4 col v vl ks) l=if F.2.2=false then 16 else if fitsF v F.1=false then 21 else if (vl.all fun v=>fitsF v F.1)=true then 0 else 21:=by
  subst hF
  rcases vl with _|⟨x,vl⟩<;>rcases ks with _|⟨y,ks⟩<;>simp_all [oneF,tailF,op_mk,col_mk,v_mk,l_mk,ks_mk]
 rw [e]
 refine ⟨_,hS,rfl,?_⟩
 clear hS e hF
 (try push_cast (maxSteps:=mS))
 refine BrP.mk (fun h=>?_) (fun h=>?_)<;>try (push_cast (maxSteps:=mS) [h])
 ·have h':F.2.2=false:=by simpa using h
  simp [h']
 ·have h':F.2.2=true:=by simpa using h
  rw [if_neg (by simp [h'])]
  (have hS:=f85 v F.1 h1;simp only [eS_eq,eN_eq,eV_eq,eRN_eq,eRV_eq,eC_eq,eRC_eq,List.map_cons,List.map_nil,i2,b2,s2] at hS;refine ⟨_,hS,rfl,?_⟩;clear hS;try (push_cast (maxSteps:=mS)))
  refine BrP.mk (fun h=>?_) (fun h=>?_)<;>try (push_cast (maxSteps:=mS) [h])
  ·rw [if_pos (by simpa using h)]
  ·rw [if_neg (by simpa using h)]
   refine LoopK.s1 (α:=Nat) [98] (fun k=>[i2 .i64 k]) (fun k=>k≤vl.length∧((vl.drop k).all fun v=>fitsF v F.1)=(vl.all fun v=>fitsF v F.1)) (fun k=>vl.length - k) 1000 0 ⟨by omega,rfl⟩ (by (try push_cast (maxSteps:=mS))) ?_
   rintro k ⟨hk,hc⟩
   by_cases hlt:k<vl.length
   ·have hv:=atT hlt;have hd:=ltT hlt
    rw [drop_cons hv] at hc
    simp only [List.all_cons] at hc
    (try push_cast (maxSteps:=mS) [hd,getD_map hv])
    (repeat ((with_reducible refine And.intro ?_ ?_);focus (first|trivial|omega|exact ix|exact inKu8 (by omega) (by omega))))
    (have hS:=f85 vl[k] F.1 (h2 _ (List.getElem_mem hlt));simp only [eS_eq,eN_eq,eV_eq,eRN_eq,eRV_eq,eC_eq,eRC_eq,List.map_cons,List.map_nil,i2,b2,s2] at hS;refine ⟨_,hS,rfl,?_⟩;clear hS;try (push_cast (maxSteps:=mS)))
    refine BrP.mk (fun h=>?_) (fun h=>?_)<;>try (push_cast (maxSteps:=mS) [h])
    ·have h0:fitsF vl[k] F.1=false:=by simpa using h
     rw [h0,Bool.false_and] at hc
     rw [if_neg (by rw [← hc];decide)]
    ·have h0:fitsF vl[k] F.1=true:=by simpa using h
     rw [h0,Bool.true_and] at hc
     (repeat ((with_reducible refine And.intro ?_ ?_);focus (first|trivial|omega|exact ix|exact inKu8 (by omega) (by omega))))
     refine ⟨k+1,⟨by omega,hc⟩,by omega,Le.st ?_⟩
     (try push_cast (maxSteps:=mS))
   ·have hd:=geF hlt
    rw [List.drop_eq_nil_of_le (by omega)] at hc
    (try push_cast (maxSteps:=mS) [hd])
    rw [← hc];rfl
set_option maxHeartbeats 1000000 in
theorem f73_8 (col:ByteArray) (v:Vl) (vl:List Vl) (ks:List Nd) (l:List Cl) (hn:okNd (.mk 8 col v vl ks)) (hl:okCl l):Spec V 76 [.ag ((eN (.mk 8 col v vl ks)).map .d),.c (.d (.sl 3 (l.map eC)))] (i2 .i64 (oneF (.mk 8 col v vl ks) l)):=by
 obtain ⟨h1,h2,h3,h4⟩:=okNd_v hn
 (refine Spec.of_go (L:=lv6SA) 1000 Go.Proofs.Tryz.func76 rfl rfl ⟨Nat.le_of_ble_eq_true rfl,rfl⟩ rfl ?_;unfold Go.Proofs.Tryz.f76;push_cast (maxSteps:=mS))
 (repeat' (first|(simp (maxSteps:=mS) only [push_cast,Nat.reduceBEq,Nat.reduceBNe,Nat.reduceAdd,Nat.reduceSub,Nat.reduceMul,Nat.reduceLT,Nat.reduceLeDiff,Nat.reduceEqDiff,Nat.blt_eq,Int.reduceLT,Int.reduceLE,Int.reduceEq,Int.reduceToNat,Int.reduceNeg,Int.reduceAdd,Int.reduceSub,Int.reduceMul,Int.reducePow,reduceIte,decide_true,decide_false,reduceCtorEq])|(refine BrP.mk (fun h=>?_) (fun h=>?_)<;>(try simp only [h]))))
 all_goals (try simp only [zeroV_fold,Bool.not_eq_true',Bool.not_eq_false',Bool.not_eq_eq_eq_not,Bool.not_true,Bool.not_false,decide_eq_true_eq,decide_eq_false_iff_not] at *)
 all_goals (try ((rcases vl with _|⟨x,vl⟩<;>rcases ks with _|⟨y,ks⟩<;>simp_all [oneF,op_mk,col_mk,v_mk,l_mk,ks_mk]);done))
 obtain ⟨F,hF⟩:∃ F,findF col l 0=F:=⟨_,rfl⟩
 have hS:=f62 l col hl.1
 rw [hF] at hS
 have e:oneF (.mk 8 col v vl ks) l=if F.2.2=false then 16 else if fitsF v F.1=false then 21 else if (vl.all fun v=>fitsF v F.1)=true then 0 else 21:=by
  subst hF
  rcases vl with _|⟨x,vl⟩<;>rcases ks with _|⟨y,ks⟩<;>simp_all [oneF,tailF,op_mk,col_mk,v_mk,l_mk,ks_mk]
 rw [e]
 refine ⟨_,hS,rfl,?_⟩
 clear hS e hF
 (try push_cast (maxSteps:=mS))
 refine BrP.mk (fun h=>?_) (fun h=>?_)<;>try (push_cast (maxSteps:=mS) [h])
 ·have h':F.2.2=false:=by simpa using h
  simp [h']
 ·have h':F.2.2=true:=by simpa using h
  rw [if_neg (by simp [h'])]
  (have hS:=f85 v F.1 h1;simp only [eS_eq,eN_eq,eV_eq,eRN_eq,eRV_eq,eC_eq,eRC_eq,List.map_cons,List.map_nil,i2,b2,s2] at hS;refine ⟨_,hS,rfl,?_⟩;clear hS;try (push_cast (maxSteps:=mS)))
  refine BrP.mk (fun h=>?_) (fun h=>?_)<;>try (push_cast (maxSteps:=mS) [h])
  ·rw [if_pos (by simpa using h)]
  ·rw [if_neg (by simpa using h)]
   refine LoopK.s1 (α:=Nat) [98] (fun k=>[i2 .i64 k]) (fun k=>k≤vl.length∧((vl.drop k).all fun v=>fitsF v F.1)=(vl.all fun v=>fitsF v F.1)) (fun k=>vl.length - k) 1000 0 ⟨by omega,rfl⟩ (by (try push_cast (maxSteps:=mS))) ?_
   rintro k ⟨hk,hc⟩
   by_cases hlt:k<vl.length
   ·have hv:=atT hlt;have hd:=ltT hlt
    rw [drop_cons hv] at hc
    simp only [List.all_cons] at hc
    (try push_cast (maxSteps:=mS) [hd,getD_map hv])
    (repeat ((with_reducible refine And.intro ?_ ?_);focus (first|trivial|omega|exact ix|exact inKu8 (by omega) (by omega))))
    (have hS:=f85 vl[k] F.1 (h2 _ (List.getElem_mem hlt));simp only [eS_eq,eN_eq,eV_eq,eRN_eq,eRV_eq,eC_eq,eRC_eq,List.map_cons,List.map_nil,i2,b2,s2] at hS;refine ⟨_,hS,rfl,?_⟩;clear hS;try (push_cast (maxSteps:=mS)))
    refine BrP.mk (fun h=>?_) (fun h=>?_)<;>try (push_cast (maxSteps:=mS) [h])
    ·have h0:fitsF vl[k] F.1=false:=by simpa using h
     rw [h0,Bool.false_and] at hc
     rw [if_neg (by rw [← hc];decide)]
    ·have h0:fitsF vl[k] F.1=true:=by simpa using h
     rw [h0,Bool.true_and] at hc
     (repeat ((with_reducible refine And.intro ?_ ?_);focus (first|trivial|omega|exact ix|exact inKu8 (by omega) (by omega))))
     refine ⟨k+1,⟨by omega,hc⟩,by omega,Le.st ?_⟩
     (try push_cast (maxSteps:=mS))
   ·have hd:=geF hlt
    rw [List.drop_eq_nil_of_le (by omega)] at hc
    (try push_cast (maxSteps:=mS) [hd])
    rw [← hc];rfl
theorem f73 (n:Nd) (l:List Cl) (hn:okNd n) (hl:okCl l):Spec V 76 [.ag ((eN n).map .d),.c (.d (.sl 3 (l.map eC)))] (i2 .i64 (oneF n l)):=by
 obtain ⟨op,col,v,vl,ks⟩:=n
 by_cases h0:op=0
 ·subst h0;exact f73_0 col v vl ks l
 by_cases h1:op=1
 ·subst h1;exact f73_1 col v vl ks l hn hl
 by_cases h2:op=2
 ·subst h2;exact f73_2 col v vl ks l hn hl
 by_cases h3:op=3
 ·subst h3;exact f73_3 col v vl ks l hn hl
 by_cases h4:op=4
 ·subst h4;exact f73_4 col v vl ks l hn hl
 by_cases h5:op=5
 ·subst h5;exact f73_5 col v vl ks l
 by_cases h6:op=6
 ·subst h6;exact f73_6 col v vl ks l
 by_cases h7:op=7
 ·subst h7;exact f73_7 col v vl ks l
 by_cases h8:op=8
 ·subst h8;exact f73_8 col v vl ks l hn hl
 have e:oneF (.mk op col v vl ks) l=22:=by simp [oneF,op_mk,h0,h1,h2,h3,h4,h5,h6,h7,h8]
 rw [e]
 have d0:=decide_eq_false h0
 have d1:=decide_eq_false h1
 have d2:=decide_eq_false h2
 have d3:=decide_eq_false h3
 have d4:=decide_eq_false h4
 have d5:=decide_eq_false h5
 have d6:=decide_eq_false h6
 have d7:=decide_eq_false h7
 have d8:=decide_eq_false h8
 (refine Spec.of_go (L:=lv6SA) 1000 Go.Proofs.Tryz.func76 rfl rfl ⟨Nat.le_of_ble_eq_true rfl,rfl⟩ rfl ?_;unfold Go.Proofs.Tryz.f76;push_cast (maxSteps:=mS))
 simp only [d0,d1,d2,d3,d4,d5,d6,d7,d8]
 (try push_cast (maxSteps:=mS) [d0,d1,d2,d3,d4,d5,d6,d7,d8])
theorem f49 (l:List Cl) (hl:okCl l):∀ (m:Nat) (n:Nd),bN n≤m→okNd n→Spec V 36 [.ag ((eN n).map .d),.c (.d (.sl 3 (l.map eC)))] (i2 .i64 (everyF n l))
 | 0,.mk _ _ _ _ _,h,_=>by simp only [bN] at h;omega
 | m+1,.mk op col v vl ks,hm,hb=>by
  have IH:∀ k∈ks,Spec V 36 [.ag ((eN k).map .d),.c (.d (.sl 3 (l.map eC)))] (i2 .i64 (everyF k l)):=fun k hk=>by
   have:=bN_mem hk
   simp only [okNd,bN] at hm hb
   exact f49 l hl m k (by omega) (by simp only [okNd];omega)
  obtain ⟨h1,h2,h3,h4⟩:=okNd_v hb
  (refine Spec.of_go (L:=lv7SA) 1000 Go.Proofs.Tryz.func36 rfl rfl ⟨Nat.le_of_ble_eq_true rfl,rfl⟩ rfl ?_;unfold Go.Proofs.Tryz.f36;push_cast (maxSteps:=mS))
  (have hS:=f73 (.mk op col v vl ks) l hb hl;simp only [eS_eq,eN_eq,eV_eq,eRN_eq,eRV_eq,eC_eq,eRC_eq,List.map_cons,List.map_nil,i2,b2,s2] at hS;refine ⟨_,hS,rfl,?_⟩;clear hS;try (push_cast (maxSteps:=mS)))
  simp only [everyF]
  refine BrP.mk (fun h=>?_) (fun h=>?_)<;>try (push_cast (maxSteps:=mS) [h])
  ·simp at h
   rw [if_pos h]
  ·simp at h
   rw [if_neg (by simp [h])]
   refine LoopK.s1 (α:=Nat) [18] (fun k=>[i2 .i64 k]) (fun k=>k≤ks.length∧everyK (ks.drop k) l=everyK ks l) (fun k=>ks.length - k) 1000 0 ⟨by omega,rfl⟩ (by (try push_cast (maxSteps:=mS))) ?_
   rintro k ⟨hk,hc⟩
   by_cases hlt:k<ks.length
   ·have hv:=atT hlt;have hd:=ltT hlt
    rw [drop_cons hv] at hc
    simp only [everyK] at hc
    (try push_cast (maxSteps:=mS) [hd,getD_map hv])
    (repeat ((with_reducible refine And.intro ?_ ?_);focus (first|trivial|omega|exact ix|exact inKu8 (by omega) (by omega))))
    (have hS:=IH ks[k] (List.getElem_mem hlt);simp only [eS_eq,eN_eq,eV_eq,eRN_eq,eRV_eq,eC_eq,eRC_eq,List.map_cons,List.map_nil,i2,b2,s2] at hS;refine ⟨_,hS,rfl,?_⟩;clear hS;try (push_cast (maxSteps:=mS)))
    refine BrP.mk (fun h=>?_) (fun h=>?_)<;>try (push_cast (maxSteps:=mS) [h])
    ·simp at h
     rw [if_pos h] at hc
     exact hc
    ·simp at h
     rw [if_neg (by simp [h])] at hc
     (repeat ((with_reducible refine And.intro ?_ ?_);focus (first|trivial|omega|exact ix|exact inKu8 (by omega) (by omega))))
     refine ⟨k+1,⟨by omega,hc⟩,by omega,Le.st ?_⟩
     (try push_cast (maxSteps:=mS))
   ·have hd:=geF hlt
    rw [List.drop_eq_nil_of_le (by omega)] at hc
    (try push_cast (maxSteps:=mS) [hd])
    exact hc
theorem f15 (n:Nd) (l:List Cl) (hn:okNd n) (hl:okCl l):Spec V 12 [.ag ((eN n).map .d),.c (.d (.sl 3 (l.map eC)))] (i2 .i64 (checkF n l)):=by
 (refine Spec.of_go (L:=fun|0=>some [1,2]|1=>some [1,2,6]|2=>some [1,2,6,13]|3=>some [4]|4=>some [1,2,16]|5=>some [4]|6=>some [4]|_=>none) 1000 Go.Proofs.Tryz.func12 rfl rfl ⟨Nat.le_of_ble_eq_true rfl,rfl⟩ rfl ?_;unfold Go.Proofs.Tryz.f12;push_cast (maxSteps:=mS))
 refine ⟨_,f47 l hl,rfl,?_⟩
 simp only [checkF]
 (try push_cast (maxSteps:=mS))
 refine BrP.mk (fun h=>?_) (fun h=>?_)<;>try (push_cast (maxSteps:=mS) [h])
 ·simp at h
  rw [if_pos h]
 ·simp at h
  rw [if_neg (by simp [h])]
  (have hS:=f48 _ n 100 (Nat.le_refl _) hn (by omega) (by omega);simp only [eS_eq,eN_eq,eV_eq,eRN_eq,eRV_eq,eC_eq,eRC_eq,List.map_cons,List.map_nil,i2,b2,s2] at hS;refine ⟨_,hS,rfl,?_⟩;clear hS;try (push_cast (maxSteps:=mS)))
  refine BrP.mk (fun h=>?_) (fun h=>?_)<;>try (push_cast (maxSteps:=mS) [h])
  (have hS:=f49 l hl _ n (Nat.le_refl _) hn;simp only [eS_eq,eN_eq,eV_eq,eRN_eq,eRV_eq,eC_eq,eRC_eq,List.map_cons,List.map_nil,i2,b2,s2] at hS;refine ⟨_,hS,rfl,?_⟩;clear hS;try (push_cast (maxSteps:=mS)))
theorem f53 (l:List Cl) (row:List Vl) (hl:okCl l) (hrow:row.length=l.length):∀ (m:Nat) (n:Nd),bN n≤m→okNd n→everyF n l=0→Spec V 81 [.ag ((eN n).map .d),.c (.d (.sl 3 (l.map eC))),.c (.d (.sl 4 (row.map eV)))] (b2 (holdsF n l row))
 | 0,.mk _ _ _ _ _,h,_,_=>by simp only [bN] at h;omega
 | m+1,.mk op col v vl ks,hm,hb,hg=>by
  have IH:∀ k∈ks,Spec V 81 [.ag ((eN k).map .d),.c (.d (.sl 3 (l.map eC))),.c (.d (.sl 4 (row.map eV)))] (b2 (holdsF k l row)):=fun k hk=>by
   have:=bN_mem hk
   simp only [okNd,bN] at hm hb
   exact f53 l row hl hrow m k (by omega) (by simp only [okNd];omega) ((every_one hg).2 k hk)
  obtain ⟨h1,h2,h3,h4⟩:=okNd_v hb
  have hone:=(every_one hg).1
  by_cases h5:op=5
  ·subst h5
   obtain ⟨k,rfl⟩:=one_not hone
   have e:holdsF (.mk 5 col v vl [k]) l row=!holdsF k l row:=by simp [holdsF,holdsH]
   rw [e]
   (refine Spec.of_go (L:=lv4SA) 1000 Go.Proofs.Tryz.func81 rfl rfl ⟨Nat.le_of_ble_eq_true rfl,rfl⟩ rfl ?_;unfold Go.Proofs.Tryz.f81;push_cast (maxSteps:=mS))
   (repeat ((with_reducible refine And.intro ?_ ?_);focus (first|trivial|omega|exact ix|exact inKu8 (by omega) (by omega))))
   (have hS:=IH k (by simp);simp only [eS_eq,eN_eq,eV_eq,eRN_eq,eRV_eq,eC_eq,eRC_eq,List.map_cons,List.map_nil,i2,b2,s2] at hS;refine ⟨_,hS,rfl,?_⟩;clear hS;try (push_cast (maxSteps:=mS)))
  by_cases h6:op=6
  ·subst h6
   have e:holdsF (.mk 6 col v vl ks) l row=holdsA ks l row:=by simp [holdsF]
   rw [e]
   (refine Spec.of_go (L:=lv4SA) 1000 Go.Proofs.Tryz.func81 rfl rfl ⟨Nat.le_of_ble_eq_true rfl,rfl⟩ rfl ?_;unfold Go.Proofs.Tryz.f81;push_cast (maxSteps:=mS))
   refine LoopK.s1 (α:=Nat) [32] (fun k=>[i2 .i64 k]) (fun k=>k≤ks.length∧holdsA (ks.drop k) l row=holdsA ks l row) (fun k=>ks.length - k) 1000 0 ⟨by omega,rfl⟩ (by (try push_cast (maxSteps:=mS))) ?_
   rintro k ⟨hk,hc⟩
   by_cases hlt:k<ks.length
   ·have hv:=atT hlt;have hd:=ltT hlt
    rw [drop_cons hv] at hc
    simp only [holdsA] at hc
    (try push_cast (maxSteps:=mS) [hd,getD_map hv])
    (repeat ((with_reducible refine And.intro ?_ ?_);focus (first|trivial|omega|exact ix|exact inKu8 (by omega) (by omega))))
    (have hS:=IH ks[k] (List.getElem_mem hlt);simp only [eS_eq,eN_eq,eV_eq,eRN_eq,eRV_eq,eC_eq,eRC_eq,List.map_cons,List.map_nil,i2,b2,s2] at hS;refine ⟨_,hS,rfl,?_⟩;clear hS;try (push_cast (maxSteps:=mS)))
    refine BrP.mk (fun h=>?_) (fun h=>?_)<;>try (push_cast (maxSteps:=mS) [h])
    ·simp at h
     rw [if_pos h] at hc
     exact hc
    ·simp at h
     rw [if_neg (by simp [h])] at hc
     (repeat ((with_reducible refine And.intro ?_ ?_);focus (first|trivial|omega|exact ix|exact inKu8 (by omega) (by omega))))
     refine ⟨k+1,⟨by omega,hc⟩,by omega,Le.st ?_⟩
     (try push_cast (maxSteps:=mS))
   ·have hd:=geF hlt
    rw [List.drop_eq_nil_of_le (by omega)] at hc
    (try push_cast (maxSteps:=mS) [hd])
    exact hc
  by_cases h7:op=7
  ·subst h7
   have e:holdsF (.mk 7 col v vl ks) l row=holdsO ks l row:=by simp [holdsF]
   rw [e]
   (refine Spec.of_go (L:=lv4SA) 1000 Go.Proofs.Tryz.func81 rfl rfl ⟨Nat.le_of_ble_eq_true rfl,rfl⟩ rfl ?_;unfold Go.Proofs.Tryz.f81;push_cast (maxSteps:=mS))
   refine LoopK.s1 (α:=Nat) [47] (fun k=>[i2 .i64 k]) (fun k=>k≤ks.length∧holdsO (ks.drop k) l row=holdsO ks l row) (fun k=>ks.length - k) 1000 0 ⟨by omega,rfl⟩ (by (try push_cast (maxSteps:=mS))) ?_
   rintro k ⟨hk,hc⟩
   by_cases hlt:k<ks.length
   ·have hv:=atT hlt;have hd:=ltT hlt
    rw [drop_cons hv] at hc
    simp only [holdsO] at hc
    (try push_cast (maxSteps:=mS) [hd,getD_map hv])
    (repeat ((with_reducible refine And.intro ?_ ?_);focus (first|trivial|omega|exact ix|exact inKu8 (by omega) (by omega))))
    (have hS:=IH ks[k] (List.getElem_mem hlt);simp only [eS_eq,eN_eq,eV_eq,eRN_eq,eRV_eq,eC_eq,eRC_eq,List.map_cons,List.map_nil,i2,b2,s2] at hS;refine ⟨_,hS,rfl,?_⟩;clear hS;try (push_cast (maxSteps:=mS)))
    refine BrP.mk (fun h=>?_) (fun h=>?_)<;>try (push_cast (maxSteps:=mS) [h])
    ·rw [if_pos h] at hc
     exact hc
    ·rw [if_neg (by simp [h])] at hc
     (repeat ((with_reducible refine And.intro ?_ ?_);focus (first|trivial|omega|exact ix|exact inKu8 (by omega) (by omega))))
     refine ⟨k+1,⟨by omega,hc⟩,by omega,Le.st ?_⟩
     (try push_cast (maxSteps:=mS))
   ·have hd:=geF hlt
    rw [List.drop_eq_nil_of_le (by omega)] at hc
    (try push_cast (maxSteps:=mS) [hd])
    exact hc
  by_cases h0:op=0
  ·subst h0
   have e:holdsF (.mk 0 col v vl ks) l row=true:=by simp [holdsF]
   rw [e]
   (refine Spec.of_go (L:=lv4SA) 1000 Go.Proofs.Tryz.func81 rfl rfl ⟨Nat.le_of_ble_eq_true rfl,rfl⟩ rfl ?_;unfold Go.Proofs.Tryz.f81;push_cast (maxSteps:=mS))
  obtain ⟨hop,_,hfound⟩:=one_leaf hone h0 h5 h6 h7
  obtain ⟨hlt,hc,_⟩:=find_lt hfound
  obtain ⟨x,hx⟩:∃ x,row[(findF col l 0).2.1]?=some x:=⟨_,List.getElem?_eq_getElem (by omega)⟩
  rw [holds_leaf h0 h5 h6 h7 hx]
  have hS:=f62 l col hl.1
  generalize findF col l 0=F at *
  have hgx:(row.map eV).getD F.2.1 []=eV x:=getD_map hx
  have hi:F.2.1<row.length:=by omega
  clear IH hm hb hg hone hc hx hfound hlt h5 h6 h7 h0
  by_cases h0:op=1
  ·subst h0
   (refine Spec.of_go (L:=lv4SA) 1000 Go.Proofs.Tryz.func81 rfl rfl ⟨Nat.le_of_ble_eq_true rfl,rfl⟩ rfl ?_;unfold Go.Proofs.Tryz.f81;push_cast (maxSteps:=mS))
   refine ⟨_,hS,rfl,?_⟩
   (try push_cast (maxSteps:=mS) [hgx])
   (repeat ((with_reducible refine And.intro ?_ ?_);focus (first|trivial|omega|exact ix|exact inKu8 (by omega) (by omega))))
   (repeat' (first|(simp (maxSteps:=mS) only [push_cast,Nat.reduceBEq,Nat.reduceBNe,Nat.reduceAdd,Nat.reduceSub,Nat.reduceMul,Nat.reduceLT,Nat.reduceLeDiff,Nat.reduceEqDiff,Nat.blt_eq,Int.reduceLT,Int.reduceLE,Int.reduceEq,Int.reduceToNat,Int.reduceNeg,Int.reduceAdd,Int.reduceSub,Int.reduceMul,Int.reducePow,reduceIte,decide_true,decide_false,reduceCtorEq])|(refine BrP.mk (fun h=>?_) (fun h=>?_)<;>(try simp only [h]))))
   all_goals try (have hS:=f75 x v;simp only [eV_eq,List.map_cons,List.map_nil,i2] at hS;refine ⟨_,hS,rfl,?_⟩;(try push_cast (maxSteps:=mS)))
   all_goals simp_all [leafF]
  by_cases h0:op=2
  ·subst h0
   (refine Spec.of_go (L:=lv4SA) 1000 Go.Proofs.Tryz.func81 rfl rfl ⟨Nat.le_of_ble_eq_true rfl,rfl⟩ rfl ?_;unfold Go.Proofs.Tryz.f81;push_cast (maxSteps:=mS))
   refine ⟨_,hS,rfl,?_⟩
   (try push_cast (maxSteps:=mS) [hgx])
   (repeat ((with_reducible refine And.intro ?_ ?_);focus (first|trivial|omega|exact ix|exact inKu8 (by omega) (by omega))))
   (repeat' (first|(simp (maxSteps:=mS) only [push_cast,Nat.reduceBEq,Nat.reduceBNe,Nat.reduceAdd,Nat.reduceSub,Nat.reduceMul,Nat.reduceLT,Nat.reduceLeDiff,Nat.reduceEqDiff,Nat.blt_eq,Int.reduceLT,Int.reduceLE,Int.reduceEq,Int.reduceToNat,Int.reduceNeg,Int.reduceAdd,Int.reduceSub,Int.reduceMul,Int.reducePow,reduceIte,decide_true,decide_false,reduceCtorEq])|(refine BrP.mk (fun h=>?_) (fun h=>?_)<;>(try simp only [h]))))
   all_goals try (have hS:=f75 x v;simp only [eV_eq,List.map_cons,List.map_nil,i2] at hS;refine ⟨_,hS,rfl,?_⟩;(try push_cast (maxSteps:=mS)))
   all_goals simp_all [leafF]
  by_cases h0:op=3
  ·subst h0
   (refine Spec.of_go (L:=lv4SA) 1000 Go.Proofs.Tryz.func81 rfl rfl ⟨Nat.le_of_ble_eq_true rfl,rfl⟩ rfl ?_;unfold Go.Proofs.Tryz.f81;push_cast (maxSteps:=mS))
   refine ⟨_,hS,rfl,?_⟩
   (try push_cast (maxSteps:=mS) [hgx])
   (repeat ((with_reducible refine And.intro ?_ ?_);focus (first|trivial|omega|exact ix|exact inKu8 (by omega) (by omega))))
   (repeat' (first|(simp (maxSteps:=mS) only [push_cast,Nat.reduceBEq,Nat.reduceBNe,Nat.reduceAdd,Nat.reduceSub,Nat.reduceMul,Nat.reduceLT,Nat.reduceLeDiff,Nat.reduceEqDiff,Nat.blt_eq,Int.reduceLT,Int.reduceLE,Int.reduceEq,Int.reduceToNat,Int.reduceNeg,Int.reduceAdd,Int.reduceSub,Int.reduceMul,Int.reducePow,reduceIte,decide_true,decide_false,reduceCtorEq])|(refine BrP.mk (fun h=>?_) (fun h=>?_)<;>(try simp only [h]))))
   all_goals try (have hS:=f75 x v;simp only [eV_eq,List.map_cons,List.map_nil,i2] at hS;refine ⟨_,hS,rfl,?_⟩;(try push_cast (maxSteps:=mS)))
   all_goals simp_all [leafF]
  by_cases h0:op=4
  ·subst h0
   (refine Spec.of_go (L:=lv4SA) 1000 Go.Proofs.Tryz.func81 rfl rfl ⟨Nat.le_of_ble_eq_true rfl,rfl⟩ rfl ?_;unfold Go.Proofs.Tryz.f81;push_cast (maxSteps:=mS))
   refine ⟨_,hS,rfl,?_⟩
   (try push_cast (maxSteps:=mS) [hgx])
   (repeat ((with_reducible refine And.intro ?_ ?_);focus (first|trivial|omega|exact ix|exact inKu8 (by omega) (by omega))))
   (repeat' (first|(simp (maxSteps:=mS) only [push_cast,Nat.reduceBEq,Nat.reduceBNe,Nat.reduceAdd,Nat.reduceSub,Nat.reduceMul,Nat.reduceLT,Nat.reduceLeDiff,Nat.reduceEqDiff,Nat.blt_eq,Int.reduceLT,Int.reduceLE,Int.reduceEq,Int.reduceToNat,Int.reduceNeg,Int.reduceAdd,Int.reduceSub,Int.reduceMul,Int.reducePow,reduceIte,decide_true,decide_false,reduceCtorEq])|(refine BrP.mk (fun h=>?_) (fun h=>?_)<;>(try simp only [h]))))
   all_goals try (have hS:=f75 x v;simp only [eV_eq,List.map_cons,List.map_nil,i2] at hS;refine ⟨_,hS,rfl,?_⟩;(try push_cast (maxSteps:=mS)))
   all_goals simp_all [leafF]
  obtain rfl:op=8:=by omega
  (refine Spec.of_go (L:=lv4SA) 1000 Go.Proofs.Tryz.func81 rfl rfl ⟨Nat.le_of_ble_eq_true rfl,rfl⟩ rfl ?_;unfold Go.Proofs.Tryz.f81;push_cast (maxSteps:=mS))
  refine ⟨_,hS,rfl,?_⟩
  (try push_cast (maxSteps:=mS) [hgx])
  (repeat ((with_reducible refine And.intro ?_ ?_);focus (first|trivial|omega|exact ix|exact inKu8 (by omega) (by omega))))
  have hS:=f76 vl 123 [.at_ (eV x)] (fun w=>decide (cmpF x w=0)) h3 (fun w _=>f77 w x)
  simp only [eV_eq,List.map_cons,List.map_nil,b2] at hS
  refine ⟨_,hS,rfl,?_⟩
  (try push_cast (maxSteps:=mS))
  simp only [leafF]
  exact idxF_any _ _ _ (by omega)
theorem f50 (l:List Cl) (hl:okCl l):Spec V 31 [.c (.d (.sl 3 (l.map eRC)))] (.tu [i2 .i64 ((checkC l).1:Int),i2 .i64 (checkC l).2]):=by
 obtain ⟨hl1,hl2⟩:=hl
 (refine Spec.of_go (L:=fun|0=>some [0]|1=>some [0,8]|2=>some [2,3]|3=>some [0,9,10,11]|4=>some [0,9,10,11,12]|5=>some [0,4,5,9,10,11]|6=>some [0,4,5,9,10,11,23]|7=>some [2,3]|8=>some [0,4,5,9,10,11,31]|9=>some [2,3]|10=>some [0,4,9,10,11,40]|11=>some [2,3]|12=>some [0,9,10,11]|13=>some [2,3]|_=>none) 1000 Go.Proofs.Tryz.func31 rfl rfl ⟨Nat.le_of_ble_eq_true rfl,rfl⟩ rfl ?_;unfold Go.Proofs.Tryz.f31;push_cast (maxSteps:=mS))
 refine BrP.mk (fun h=>?_) (fun h=>?_)<;>try (push_cast (maxSteps:=mS) [h])
 ·have h':l.length=0:=by simp at h;simp [h]
  simp [checkC,h']
 ·have h':¬ l.length=0:=by simp at h;simpa using h
  simp only [checkC,if_neg h']
  refine LoopK.s1 (α:=Nat) [11] (fun k=>[i2 .i64 k]) (fun k=>k≤l.length∧chkF ((l.take k).map (·.name)) (l.drop k) k=chkF [] l 0) (fun k=>l.length - k) 1000 0 ⟨by omega,rfl⟩ (by (try push_cast (maxSteps:=mS))) ?_
  rintro k ⟨hk,hc⟩
  by_cases hlt:k<l.length
  ·have hv:=atT hlt;have hd:=ltT hlt
   rw [drop_cons hv] at hc
   simp only [chkF] at hc
   have hkind:=word_kind l[k].kind
   (try push_cast (maxSteps:=mS) [hd,getD_map hv])
   (repeat ((with_reducible refine And.intro ?_ ?_);focus (first|trivial|omega|exact ix|exact inKu8 (by omega) (by omega))))
   refine BrP.mk (fun h=>?_) (fun h=>?_)<;>try (push_cast (maxSteps:=mS) [h])
   ·have h':l[k].kind<1:=by simpa using h
    rw [if_pos (hkind.2 (.inl h'))] at hc
    simp [← hc]
   ·have h1':¬ l[k].kind<1:=by simpa using h
    refine BrP.mk (fun h=>?_) (fun h=>?_)<;>try (push_cast (maxSteps:=mS) [h])
    ·have h':3<l[k].kind:=by simpa using h
     rw [if_pos (hkind.2 (.inr h'))] at hc
     simp [← hc]
    ·have h2':¬ 3<l[k].kind:=by simpa using h
     rw [if_neg (by rw [hkind];omega)] at hc
     (refine DrawK.of (.take 0 (.take 1 (.take 3 (.take 4 (.take 5 (.one 2 (.take 6 .done))))))) 1000 (by decide +kernel) ?_;try (push_cast (maxSteps:=mS)))
     refine ⟨_,f54 l[k].name (hl2 _ (List.getElem_mem hlt)),rfl,?_⟩
     (try push_cast (maxSteps:=mS))
     have hw:=valid_whole l[k].name
     have hwl:=whole_le l[k].name
     refine BrP.mk (fun h=>?_) (fun h=>?_)<;>try (push_cast (maxSteps:=mS) [h])
     ·have h':validB l[k].name=false:=by rw [hw];simp at h ⊢;omega
      rw [if_pos h'] at hc
      simp [← hc]
     ·have h':¬ validB l[k].name=false:=by rw [hw];simp at h ⊢;omega
      rw [if_neg h'] at hc
      (refine DrawK.of (.take 0 (.take 1 (.take 2 (.take 4 (.take 5 (.one 3 (.one 6 (.take 7 .done)))))))) 1000 (by decide +kernel) ?_;try (push_cast (maxSteps:=mS)))
      (repeat ((with_reducible refine And.intro ?_ ?_);focus (first|trivial|omega|exact ix|exact inKu8 (by omega) (by omega))))
      have e1:((l.map eRC).take k).drop 0=(l.take k).map eRC:=by rw [List.drop_zero,List.map_take]
      have hS:=f56 (l.take k) (by simp only [okLen,List.length_take];omega)
      have e2:((l.take k).map fun c=>eS c.name)=((l.take k).map (·.name)).map eS:=by rw [List.map_map];rfl
      rw [e2,show (l.take k).map eRC=(l.map eRC).take k from List.map_take] at hS
      refine ⟨_,hS,rfl,?_⟩
      (try push_cast (maxSteps:=mS))
      refine ⟨_,f55 ((l.take k).map (·.name)) l[k].name (by simp only [okLen,List.length_map,List.length_take];omega),rfl,?_⟩
      (try push_cast (maxSteps:=mS))
      have hm:=atF_memB l[k].name ((l.take k).map (·.name))
      simp only [hm]
      refine BrP.mk (fun h=>?_) (fun h=>?_)<;>try (push_cast (maxSteps:=mS) [h])
      ·rw [if_pos h] at hc
       simp [← hc]
      ·rw [if_neg (by rw [h];decide)] at hc
       (repeat ((with_reducible refine And.intro ?_ ?_);focus (first|trivial|omega|exact ix|exact inKu8 (by omega) (by omega))))
       refine ⟨k+1,⟨by omega,?_⟩,by omega,Le.st ?_⟩
       ·rw [mapTake hv];exact hc
       ·(try push_cast (maxSteps:=mS))
  ·have hd:=geF hlt
   rw [List.drop_eq_nil_of_le (by omega)] at hc
   simp only [chkF] at hc
   have:k=l.length:=by omega
   subst this
   (try push_cast (maxSteps:=mS) [hd])
   rw [← hc]
   simp
theorem f21 (v:Vl) (hv:okVl v):Spec V 73 [.ag ((eRV v).map .d)] (b2 (rightF v)):=by
 (refine Spec.of_go (L:=fun|0=>some [1]|1=>some [1,40]|2=>some [2]|3=>some [2]|_=>none) 1000 Go.Proofs.Tryz.func73 rfl rfl ⟨Nat.le_of_ble_eq_true rfl,rfl⟩ rfl ?_;unfold Go.Proofs.Tryz.f73;push_cast (maxSteps:=mS))
 (repeat' (first|(simp (maxSteps:=mS) only [push_cast,Nat.reduceBEq,Nat.reduceBNe,Nat.reduceAdd,Nat.reduceSub,Nat.reduceMul,Nat.reduceLT,Nat.reduceLeDiff,Nat.reduceEqDiff,Nat.blt_eq,Int.reduceLT,Int.reduceLE,Int.reduceEq,Int.reduceToNat,Int.reduceNeg,Int.reduceAdd,Int.reduceSub,Int.reduceMul,Int.reducePow,reduceIte,decide_true,decide_false,reduceCtorEq])|(refine BrP.mk (fun h=>?_) (fun h=>?_)<;>(try simp only [h]))))
 all_goals try ((refine DrawK.of (.take 0 (.take 1 (.take 3 (.take 4 (.take 5 (.one 2 (.take 6 (.take 7 .done)))))))) 1000 (by decide +kernel) ?_;try (push_cast (maxSteps:=mS)));refine ⟨_,f54 v.s hv,rfl,?_⟩;(try push_cast (maxSteps:=mS)))
 all_goals (try simp only [whole_dec,bi_zero] at *)
 all_goals (try simp only [Bool.not_eq_true',Bool.not_eq_false',Bool.not_eq_eq_eq_not,Bool.not_true,Bool.not_false,Bool.not_not,decide_eq_true_eq,decide_eq_false_iff_not] at *)
 all_goals (rcases (show v.k<0∨3<v.k∨v.k=0∨v.k=1∨v.k=2∨v.k=3 by omega) with hk|hk|hk|hk|hk|hk)
 all_goals (try (exfalso;omega))
 all_goals (have k0:v.k=0∨v.k≠0:=by omega)
 all_goals (have k1:v.k=1∨v.k≠1:=by omega)
 all_goals (have k2:v.k=2∨v.k≠2:=by omega)
 all_goals (have k3:v.k=3∨v.k≠3:=by omega)
 all_goals (simp_all [rightF,valid_empty])
 all_goals (rw [if_neg (by omega),if_neg (by omega),if_neg (by omega)];intro;omega)
theorem f74_0 (col:ByteArray) (v:Vl) (vl:List Vl) (ks:List Nd) (l:List Cl):Spec V 141 [.ag ((eRN (.mk 0 col v vl ks)).map .d),.c (.d (.sl 3 (l.map eRC)))] (i2 .i64 (oneF (.mk 0 col v vl ks) l)):=by
 (refine Spec.of_go (L:=lv8SA) 1000 Go.Proofs.Tryz.func141 rfl rfl ⟨Nat.le_of_ble_eq_true rfl,rfl⟩ rfl ?_;unfold Go.Proofs.Tryz.f141;push_cast (maxSteps:=mS))
 (refine DrawK.of (.take 0 (.take 1 (.take 2 (.take 3 (.take 4 (.take 5 (.take 6 (.take 7 (.take 8 (.take 9 (.take 10 (.take 11 (.take 12 (.take 13 (.take 14 (.take 15 (.take 16 (.take 17 .done)))))))))))))))))) 1000 (by decide +kernel) ?_;try (push_cast (maxSteps:=mS)))
 (repeat' (first|(simp (maxSteps:=mS) only [push_cast,Nat.reduceBEq,Nat.reduceBNe,Nat.reduceAdd,Nat.reduceSub,Nat.reduceMul,Nat.reduceLT,Nat.reduceLeDiff,Nat.reduceEqDiff,Nat.blt_eq,Int.reduceLT,Int.reduceLE,Int.reduceEq,Int.reduceToNat,Int.reduceNeg,Int.reduceAdd,Int.reduceSub,Int.reduceMul,Int.reducePow,reduceIte,decide_true,decide_false,reduceCtorEq])|(refine BrP.mk (fun h=>?_) (fun h=>?_)<;>(try simp only [h]))))
 all_goals (try simp only [zeroV_ref,Bool.not_eq_true',Bool.not_eq_false',Bool.not_eq_eq_eq_not,Bool.not_true,Bool.not_false,decide_eq_true_eq,decide_eq_false_iff_not] at *)
 all_goals rw [one_mk]
 all_goals (try (rcases vl with _|⟨x,vl⟩<;>simp_all<;>(try omega)))
 all_goals (try (rcases ks with _|⟨x,ks⟩<;>simp_all<;>(try omega)))
theorem f74_5 (col:ByteArray) (v:Vl) (vl:List Vl) (ks:List Nd) (l:List Cl):Spec V 141 [.ag ((eRN (.mk 5 col v vl ks)).map .d),.c (.d (.sl 3 (l.map eRC)))] (i2 .i64 (oneF (.mk 5 col v vl ks) l)):=by
 (refine Spec.of_go (L:=lv8SA) 1000 Go.Proofs.Tryz.func141 rfl rfl ⟨Nat.le_of_ble_eq_true rfl,rfl⟩ rfl ?_;unfold Go.Proofs.Tryz.f141;push_cast (maxSteps:=mS))
 (refine DrawK.of (.take 0 (.take 1 (.take 2 (.take 3 (.take 4 (.take 5 (.take 6 (.take 7 (.take 8 (.take 9 (.take 10 (.take 11 (.take 12 (.take 13 (.take 14 (.take 15 (.take 16 (.take 17 .done)))))))))))))))))) 1000 (by decide +kernel) ?_;try (push_cast (maxSteps:=mS)))
 (repeat' (first|(simp (maxSteps:=mS) only [push_cast,Nat.reduceBEq,Nat.reduceBNe,Nat.reduceAdd,Nat.reduceSub,Nat.reduceMul,Nat.reduceLT,Nat.reduceLeDiff,Nat.reduceEqDiff,Nat.blt_eq,Int.reduceLT,Int.reduceLE,Int.reduceEq,Int.reduceToNat,Int.reduceNeg,Int.reduceAdd,Int.reduceSub,Int.reduceMul,Int.reducePow,reduceIte,decide_true,decide_false,reduceCtorEq])|(refine BrP.mk (fun h=>?_) (fun h=>?_)<;>(try simp only [h]))))
 all_goals (try simp only [zeroV_ref,Bool.not_eq_true',Bool.not_eq_false',Bool.not_eq_eq_eq_not,Bool.not_true,Bool.not_false,decide_eq_true_eq,decide_eq_false_iff_not] at *)
 all_goals rw [one_mk]
 all_goals (try (rcases vl with _|⟨x,vl⟩<;>simp_all<;>(try omega)))
 all_goals (try (rcases ks with _|⟨x,ks⟩<;>simp_all<;>(try omega)))
theorem f74_6 (col:ByteArray) (v:Vl) (vl:List Vl) (ks:List Nd) (l:List Cl):Spec V 141 [.ag ((eRN (.mk 6 col v vl ks)).map .d),.c (.d (.sl 3 (l.map eRC)))] (i2 .i64 (oneF (.mk 6 col v vl ks) l)):=by
 (refine Spec.of_go (L:=lv8SA) 1000 Go.Proofs.Tryz.func141 rfl rfl ⟨Nat.le_of_ble_eq_true rfl,rfl⟩ rfl ?_;unfold Go.Proofs.Tryz.f141;push_cast (maxSteps:=mS))
 (refine DrawK.of (.take 0 (.take 1 (.take 2 (.take 3 (.take 4 (.take 5 (.take 6 (.take 7 (.take 8 (.take 9 (.take 10 (.take 11 (.take 12 (.take 13 (.take 14 (.take 15 (.take 16 (.take 17 .done)))))))))))))))))) 1000 (by decide +kernel) ?_;try (push_cast (maxSteps:=mS)))
 (repeat' (first|(simp (maxSteps:=mS) only [push_cast,Nat.reduceBEq,Nat.reduceBNe,Nat.reduceAdd,Nat.reduceSub,Nat.reduceMul,Nat.reduceLT,Nat.reduceLeDiff,Nat.reduceEqDiff,Nat.blt_eq,Int.reduceLT,Int.reduceLE,Int.reduceEq,Int.reduceToNat,Int.reduceNeg,Int.reduceAdd,Int.reduceSub,Int.reduceMul,Int.reducePow,reduceIte,decide_true,decide_false,reduceCtorEq])|(refine BrP.mk (fun h=>?_) (fun h=>?_)<;>(try simp only [h]))))
 all_goals (try simp only [zeroV_ref,Bool.not_eq_true',Bool.not_eq_false',Bool.not_eq_eq_eq_not,Bool.not_true,Bool.not_false,decide_eq_true_eq,decide_eq_false_iff_not] at *)
 all_goals rw [one_mk]
 all_goals (try (rcases vl with _|⟨x,vl⟩<;>simp_all<;>(try omega)))
 all_goals (try (rcases ks with _|⟨x,ks⟩<;>simp_all<;>(try omega)))
theorem f74_7 (col:ByteArray) (v:Vl) (vl:List Vl) (ks:List Nd) (l:List Cl):Spec V 141 [.ag ((eRN (.mk 7 col v vl ks)).map .d),.c (.d (.sl 3 (l.map eRC)))] (i2 .i64 (oneF (.mk 7 col v vl ks) l)):=by
 (refine Spec.of_go (L:=lv8SA) 1000 Go.Proofs.Tryz.func141 rfl rfl ⟨Nat.le_of_ble_eq_true rfl,rfl⟩ rfl ?_;unfold Go.Proofs.Tryz.f141;push_cast (maxSteps:=mS))
 (refine DrawK.of (.take 0 (.take 1 (.take 2 (.take 3 (.take 4 (.take 5 (.take 6 (.take 7 (.take 8 (.take 9 (.take 10 (.take 11 (.take 12 (.take 13 (.take 14 (.take 15 (.take 16 (.take 17 .done)))))))))))))))))) 1000 (by decide +kernel) ?_;try (push_cast (maxSteps:=mS)))
 (repeat' (first|(simp (maxSteps:=mS) only [push_cast,Nat.reduceBEq,Nat.reduceBNe,Nat.reduceAdd,Nat.reduceSub,Nat.reduceMul,Nat.reduceLT,Nat.reduceLeDiff,Nat.reduceEqDiff,Nat.blt_eq,Int.reduceLT,Int.reduceLE,Int.reduceEq,Int.reduceToNat,Int.reduceNeg,Int.reduceAdd,Int.reduceSub,Int.reduceMul,Int.reducePow,reduceIte,decide_true,decide_false,reduceCtorEq])|(refine BrP.mk (fun h=>?_) (fun h=>?_)<;>(try simp only [h]))))
 all_goals (try simp only [zeroV_ref,Bool.not_eq_true',Bool.not_eq_false',Bool.not_eq_eq_eq_not,Bool.not_true,Bool.not_false,decide_eq_true_eq,decide_eq_false_iff_not] at *)
 all_goals rw [one_mk]
 all_goals (try (rcases vl with _|⟨x,vl⟩<;>simp_all<;>(try omega)))
 all_goals (try (rcases ks with _|⟨x,ks⟩<;>simp_all<;>(try omega)))
set_option maxHeartbeats 1000000 in
theorem f74_1 (col:ByteArray) (v:Vl) (vl:List Vl) (ks:List Nd) (l:List Cl) (hn:okNd (.mk 1 col v vl ks)) (hl:okCl l):Spec V 141 [.ag ((eRN (.mk 1 col v vl ks)).map .d),.c (.d (.sl 3 (l.map eRC)))] (i2 .i64 (oneF (.mk 1 col v vl ks) l)):=by
 obtain ⟨h1,h2,h3,h4⟩:=okNd_v hn
 (refine Spec.of_go (L:=lv8SA) 1000 Go.Proofs.Tryz.func141 rfl rfl ⟨Nat.le_of_ble_eq_true rfl,rfl⟩ rfl ?_;unfold Go.Proofs.Tryz.f141;push_cast (maxSteps:=mS))
 (refine DrawK.of (.take 0 (.take 1 (.take 2 (.take 3 (.take 4 (.take 5 (.take 6 (.take 7 (.take 8 (.take 9 (.take 10 (.take 11 (.take 12 (.take 13 (.take 14 (.take 15 (.take 16 (.take 17 .done)))))))))))))))))) 1000 (by decide +kernel) ?_;try (push_cast (maxSteps:=mS)))
 (repeat' (first|(simp (maxSteps:=mS) only [push_cast,Nat.reduceBEq,Nat.reduceBNe,Nat.reduceAdd,Nat.reduceSub,Nat.reduceMul,Nat.reduceLT,Nat.reduceLeDiff,Nat.reduceEqDiff,Nat.blt_eq,Int.reduceLT,Int.reduceLE,Int.reduceEq,Int.reduceToNat,Int.reduceNeg,Int.reduceAdd,Int.reduceSub,Int.reduceMul,Int.reducePow,reduceIte,decide_true,decide_false,reduceCtorEq])|(refine BrP.mk (fun h=>?_) (fun h=>?_)<;>(try simp only [h]))))
 all_goals (try simp only [zeroV_ref,Bool.not_eq_true',Bool.not_eq_false',Bool.not_eq_eq_eq_not,Bool.not_true,Bool.not_false,decide_eq_true_eq,decide_eq_false_iff_not] at *)
 all_goals (try ((rcases vl with _|⟨x,vl⟩<;>rcases ks with _|⟨y,ks⟩<;>simp_all [oneF,op_mk,col_mk,v_mk,l_mk,ks_mk]);done))
 have e:oneF (.mk 1 col v vl ks) l=tailF (.mk 1 col v vl ks) l:=by
  rcases vl with _|⟨x,vl⟩<;>rcases ks with _|⟨y,ks⟩<;>simp_all [oneF,op_mk,col_mk,v_mk,l_mk,ks_mk]
 rw [e,tail_all]
 have hS:=f56 l hl.1
 rw [show (l.map fun c=>eS c.name)=(l.map (·.name)).map eS by rw [List.map_map];rfl] at hS
 (refine DrawK.of (.take 0 (.take 2 (.take 3 (.one 1 (.one 4 (.take 5 .done)))))) 1000 (by decide +kernel) ?_;try (push_cast (maxSteps:=mS)))
 refine ⟨_,hS,rfl,?_⟩
 (try push_cast (maxSteps:=mS))
 refine ⟨_,f55 (l.map (·.name)) col (by simpa only [okLen,List.length_map] using hl.1),rfl,?_⟩
 (try push_cast (maxSteps:=mS))
 have hfa:=(find_at col l 0).1
 refine BrP.mk (fun h=>?_) (fun h=>?_)<;>try (push_cast (maxSteps:=mS) [h])
 ·have hf:(findF col l 0).2.2=false:=by rw [hfa];simp at h ⊢;omega
  rw [if_pos hf]
 ·have hf:(findF col l 0).2.2=true:=by rw [hfa];simp at h ⊢;omega
  obtain ⟨hlt0,hi0,hi1⟩:=find_lt hf
  rw [if_neg (by simp [hf])]
  clear hfa hS e
  generalize hk:atF col (l.map (·.name)) 0=K at *
  generalize hF:findF col l 0=F at *
  obtain ⟨all,hall⟩:∃ all,all=vl++[v]:=⟨_,rfl⟩
  rw [← hall]
  have hal:∀ x∈all,okVl x:=fun x hx=>by
   rw [hall] at hx
   rcases List.mem_append.1 hx with hx|hx
   ·exact h2 x hx
   ·rw [List.mem_singleton.1 hx];exact h1
  have hlen:all.length=vl.length+1:=by rw [hall];simp
  have he:vl.map eRV++[eRV v]=all.map eRV:=by rw [hall];simp
  refine DrawK.cut (.take 0 (.take 1 (.take 2 (.two 3 (.one 4 (.one 5 (.one 6 (.one 7 (.one 8 .done))))) 4 (.two 3 (.one 5 (.one 6 (.one 7 (.one 8 .done)))) 5 (.two 3 (.one 6 (.one 7 (.one 8 .done))) 6 (.one 3 (.one 7 (.one 8 .done))))))))) 1000 (by decide +kernel) ⟨[(11,.c (.d (.sl 4 (all.map eRV)))),(10,.c (.d (.v (.int .i64 K)))),(1,.c (.d (.sl 3 (l.map eRC))))],[]⟩ ?_ ?_
  ·rw [← he]
   (try push_cast (maxSteps:=mS))
   ((repeat' with_reducible refine And.intro ?_ ?_)<;>try exact sz)
   all_goals (refine Le.frz [2,3] ?_;(try push_cast (maxSteps:=mS)))
  (try push_cast (maxSteps:=mS))
  refine LoopK.s1 (α:=Nat) [110] (fun k=>[i2 .i64 k]) (fun k=>k≤all.length∧((all.drop k).all fun v=>fitsF v F.1)=(all.all fun v=>fitsF v F.1)) (fun k=>all.length - k) 1000 0 ⟨by omega,rfl⟩ (by (try push_cast (maxSteps:=mS))) ?_
  rintro k ⟨hk',hc⟩
  by_cases hlt:k<all.length
  ·have hv:=atT hlt;have hd:=ltT hlt
   rw [drop_cons hv] at hc
   simp only [List.all_cons] at hc
   (try push_cast (maxSteps:=mS) [hd,getD_map hv])
   (repeat ((with_reducible refine And.intro ?_ ?_);focus (first|trivial|omega|exact ix|exact inKu8 (by omega) (by omega))))
   (refine DrawK.of (.take 0 (.one 1 (.take 2 (.take 3 (.take 4 (.take 5 (.take 6 (.take 7 (.take 8 (.take 9 (.take 10 (.take 11 (.take 12 (.take 13 (.take 14 (.take 15 (.take 16 (.take 17 .done)))))))))))))))))) 1000 (by decide +kernel) ?_;try (push_cast (maxSteps:=mS)))
   (have hS:=f21 all[k] (hal _ (List.getElem_mem hlt));simp only [eS_eq,eN_eq,eV_eq,eRN_eq,eRV_eq,eC_eq,eRC_eq,List.map_cons,List.map_nil,i2,b2,s2] at hS;refine ⟨_,hS,rfl,?_⟩;clear hS;try (push_cast (maxSteps:=mS)))
   have hgl:(l.map eRC).getD K.toNat []=eRC F.1:=getD_map (by rw [← hi1];exact hi0)
   have hKl:K<(l.length:Int):=by omega
   have hK0:0≤K:=by omega
   have hfit:fitsF all[k] F.1=(rightF all[k] && (decide (all[k].k=0) || decide (all[k].k=F.1.kind))):=rfl
   clear hi0 hi1
   have hF:fitsF all[k] F.1=false→(if (all.all fun v=>fitsF v F.1)=true then (0:Int) else 21)=21:=fun h0=>by
    rw [h0,Bool.false_and] at hc
    rw [if_neg (by rw [← hc];decide)]
   have hT:fitsF all[k] F.1=true→((all.drop (k+1)).all fun v=>fitsF v F.1)=(all.all fun v=>fitsF v F.1):=fun h0=>by
    rw [h0,Bool.true_and] at hc
    exact hc
   clear hc
   refine BrP.mk (fun h=>?_) (fun h=>?_)<;>try (push_cast (maxSteps:=mS) [h])
   ·exact (hF (by rw [hfit];simp at h;simp [h])).symm
   ·have hr:rightF all[k]=true:=by simpa using h
    refine BrP.mk (fun h=>?_) (fun h=>?_)<;>try (push_cast (maxSteps:=mS) [h])
    ·have h0:¬ all[k].k=0:=by simpa using h
     (try push_cast (maxSteps:=mS) [hgl])
     ((repeat' with_reducible refine And.intro ?_ ?_)<;>try exact sz)
     all_goals (try (try push_cast (maxSteps:=mS)))
     refine BrP.mk (fun h=>?_) (fun h=>?_)<;>try (push_cast (maxSteps:=mS) [h])
     ·have h1':¬ all[k].k=F.1.kind:=by simpa using h
      exact (hF (by rw [hfit];simp [hr,h0,h1'])).symm
     ·have h1':all[k].k=F.1.kind:=by simpa using h
      ((repeat' with_reducible refine And.intro ?_ ?_)<;>try exact sz)
      refine ⟨k+1,⟨by omega,hT (by rw [hfit];simp [hr,h1'])⟩,by omega,Le.st ?_⟩
      (try push_cast (maxSteps:=mS))
    ·have h0:all[k].k=0:=by simpa using h
     ((repeat' with_reducible refine And.intro ?_ ?_)<;>try exact sz)
     refine ⟨k+1,⟨by omega,hT (by rw [hfit];simp [hr,h0])⟩,by omega,Le.st ?_⟩
     (try push_cast (maxSteps:=mS))
  ·have hd:=geF hlt
   rw [List.drop_eq_nil_of_le (by omega)] at hc
   (try push_cast (maxSteps:=mS) [hd])
   rw [← hc];rfl
set_option maxHeartbeats 1000000 in
theorem f74_2 (col:ByteArray) (v:Vl) (vl:List Vl) (ks:List Nd) (l:List Cl) (hn:okNd (.mk 2 col v vl ks)) (hl:okCl l):Spec V 141 [.ag ((eRN (.mk 2 col v vl ks)).map .d),.c (.d (.sl 3 (l.map eRC)))] (i2 .i64 (oneF (.mk 2 col v vl ks) l)):=by
 obtain ⟨h1,h2,h3,h4⟩:=okNd_v hn
 (refine Spec.of_go (L:=lv8SA) 1000 Go.Proofs.Tryz.func141 rfl rfl ⟨Nat.le_of_ble_eq_true rfl,rfl⟩ rfl ?_;unfold Go.Proofs.Tryz.f141;push_cast (maxSteps:=mS))
 (refine DrawK.of (.take 0 (.take 1 (.take 2 (.take 3 (.take 4 (.take 5 (.take 6 (.take 7 (.take 8 (.take 9 (.take 10 (.take 11 (.take 12 (.take 13 (.take 14 (.take 15 (.take 16 (.take 17 .done)))))))))))))))))) 1000 (by decide +kernel) ?_;try (push_cast (maxSteps:=mS)))
 (repeat' (first|(simp (maxSteps:=mS) only [push_cast,Nat.reduceBEq,Nat.reduceBNe,Nat.reduceAdd,Nat.reduceSub,Nat.reduceMul,Nat.reduceLT,Nat.reduceLeDiff,Nat.reduceEqDiff,Nat.blt_eq,Int.reduceLT,Int.reduceLE,Int.reduceEq,Int.reduceToNat,Int.reduceNeg,Int.reduceAdd,Int.reduceSub,Int.reduceMul,Int.reducePow,reduceIte,decide_true,decide_false,reduceCtorEq])|(refine BrP.mk (fun h=>?_) (fun h=>?_)<;>(try simp only [h]))))
 all_goals (try simp only [zeroV_ref,Bool.not_eq_true',Bool.not_eq_false',Bool.not_eq_eq_eq_not,Bool.not_true,Bool.not_false,decide_eq_true_eq,decide_eq_false_iff_not] at *)
 all_goals (try ((rcases vl with _|⟨x,vl⟩<;>rcases ks with _|⟨y,ks⟩<;>simp_all [oneF,op_mk,col_mk,v_mk,l_mk,ks_mk]);done))
 have e:oneF (.mk 2 col v vl ks) l=tailF (.mk 2 col v vl ks) l:=by
  rcases vl with _|⟨x,vl⟩<;>rcases ks with _|⟨y,ks⟩<;>simp_all [oneF,op_mk,col_mk,v_mk,l_mk,ks_mk]
 rw [e,tail_all]
 have hS:=f56 l hl.1
 rw [show (l.map fun c=>eS c.name)=(l.map (·.name)).map eS by rw [List.map_map];rfl] at hS
 (refine DrawK.of (.take 0 (.take 2 (.take 3 (.one 1 (.one 4 (.take 5 .done)))))) 1000 (by decide +kernel) ?_;try (push_cast (maxSteps:=mS)))
 refine ⟨_,hS,rfl,?_⟩
 (try push_cast (maxSteps:=mS))
 refine ⟨_,f55 (l.map (·.name)) col (by simpa only [okLen,List.length_map] using hl.1),rfl,?_⟩
 (try push_cast (maxSteps:=mS))
 have hfa:=(find_at col l 0).1
 refine BrP.mk (fun h=>?_) (fun h=>?_)<;>try (push_cast (maxSteps:=mS) [h])
 ·have hf:(findF col l 0).2.2=false:=by rw [hfa];simp at h ⊢;omega
  rw [if_pos hf]
 ·have hf:(findF col l 0).2.2=true:=by rw [hfa];simp at h ⊢;omega
  obtain ⟨hlt0,hi0,hi1⟩:=find_lt hf
  rw [if_neg (by simp [hf])]
  clear hfa hS e
  generalize hk:atF col (l.map (·.name)) 0=K at *
  generalize hF:findF col l 0=F at *
  obtain ⟨all,hall⟩:∃ all,all=vl++[v]:=⟨_,rfl⟩
  rw [← hall]
  have hal:∀ x∈all,okVl x:=fun x hx=>by
   rw [hall] at hx
   rcases List.mem_append.1 hx with hx|hx
   ·exact h2 x hx
   ·rw [List.mem_singleton.1 hx];exact h1
  have hlen:all.length=vl.length+1:=by rw [hall];simp
  have he:vl.map eRV++[eRV v]=all.map eRV:=by rw [hall];simp
  refine DrawK.cut (.take 0 (.take 1 (.take 2 (.two 3 (.one 4 (.one 5 (.one 6 (.one 7 (.one 8 .done))))) 4 (.two 3 (.one 5 (.one 6 (.one 7 (.one 8 .done)))) 5 (.two 3 (.one 6 (.one 7 (.one 8 .done))) 6 (.one 3 (.one 7 (.one 8 .done))))))))) 1000 (by decide +kernel) ⟨[(11,.c (.d (.sl 4 (all.map eRV)))),(10,.c (.d (.v (.int .i64 K)))),(1,.c (.d (.sl 3 (l.map eRC))))],[]⟩ ?_ ?_
  ·rw [← he]
   (try push_cast (maxSteps:=mS))
   ((repeat' with_reducible refine And.intro ?_ ?_)<;>try exact sz)
   all_goals (refine Le.frz [2,3] ?_;(try push_cast (maxSteps:=mS)))
  (try push_cast (maxSteps:=mS))
  refine LoopK.s1 (α:=Nat) [110] (fun k=>[i2 .i64 k]) (fun k=>k≤all.length∧((all.drop k).all fun v=>fitsF v F.1)=(all.all fun v=>fitsF v F.1)) (fun k=>all.length - k) 1000 0 ⟨by omega,rfl⟩ (by (try push_cast (maxSteps:=mS))) ?_
  rintro k ⟨hk',hc⟩
  by_cases hlt:k<all.length
  ·have hv:=atT hlt;have hd:=ltT hlt
   rw [drop_cons hv] at hc
   simp only [List.all_cons] at hc
   (try push_cast (maxSteps:=mS) [hd,getD_map hv])
   (repeat ((with_reducible refine And.intro ?_ ?_);focus (first|trivial|omega|exact ix|exact inKu8 (by omega) (by omega))))
   (refine DrawK.of (.take 0 (.one 1 (.take 2 (.take 3 (.take 4 (.take 5 (.take 6 (.take 7 (.take 8 (.take 9 (.take 10 (.take 11 (.take 12 (.take 13 (.take 14 (.take 15 (.take 16 (.take 17 .done)))))))))))))))))) 1000 (by decide +kernel) ?_;try (push_cast (maxSteps:=mS)))
   (have hS:=f21 all[k] (hal _ (List.getElem_mem hlt));simp only [eS_eq,eN_eq,eV_eq,eRN_eq,eRV_eq,eC_eq,eRC_eq,List.map_cons,List.map_nil,i2,b2,s2] at hS;refine ⟨_,hS,rfl,?_⟩;clear hS;try (push_cast (maxSteps:=mS)))
   have hgl:(l.map eRC).getD K.toNat []=eRC F.1:=getD_map (by rw [← hi1];exact hi0)
   have hKl:K<(l.length:Int):=by omega
   have hK0:0≤K:=by omega
   have hfit:fitsF all[k] F.1=(rightF all[k] && (decide (all[k].k=0) || decide (all[k].k=F.1.kind))):=rfl
   clear hi0 hi1
   have hF:fitsF all[k] F.1=false→(if (all.all fun v=>fitsF v F.1)=true then (0:Int) else 21)=21:=fun h0=>by
    rw [h0,Bool.false_and] at hc
    rw [if_neg (by rw [← hc];decide)]
   have hT:fitsF all[k] F.1=true→((all.drop (k+1)).all fun v=>fitsF v F.1)=(all.all fun v=>fitsF v F.1):=fun h0=>by
    rw [h0,Bool.true_and] at hc
    exact hc
   clear hc
   refine BrP.mk (fun h=>?_) (fun h=>?_)<;>try (push_cast (maxSteps:=mS) [h])
   ·exact (hF (by rw [hfit];simp at h;simp [h])).symm
   ·have hr:rightF all[k]=true:=by simpa using h
    refine BrP.mk (fun h=>?_) (fun h=>?_)<;>try (push_cast (maxSteps:=mS) [h])
    ·have h0:¬ all[k].k=0:=by simpa using h
     (try push_cast (maxSteps:=mS) [hgl])
     ((repeat' with_reducible refine And.intro ?_ ?_)<;>try exact sz)
     all_goals (try (try push_cast (maxSteps:=mS)))
     refine BrP.mk (fun h=>?_) (fun h=>?_)<;>try (push_cast (maxSteps:=mS) [h])
     ·have h1':¬ all[k].k=F.1.kind:=by simpa using h
      exact (hF (by rw [hfit];simp [hr,h0,h1'])).symm
     ·have h1':all[k].k=F.1.kind:=by simpa using h
      ((repeat' with_reducible refine And.intro ?_ ?_)<;>try exact sz)
      refine ⟨k+1,⟨by omega,hT (by rw [hfit];simp [hr,h1'])⟩,by omega,Le.st ?_⟩
      (try push_cast (maxSteps:=mS))
    ·have h0:all[k].k=0:=by simpa using h
     ((repeat' with_reducible refine And.intro ?_ ?_)<;>try exact sz)
     refine ⟨k+1,⟨by omega,hT (by rw [hfit];simp [hr,h0])⟩,by omega,Le.st ?_⟩
     (try push_cast (maxSteps:=mS))
  ·have hd:=geF hlt
   rw [List.drop_eq_nil_of_le (by omega)] at hc
   (try push_cast (maxSteps:=mS) [hd])
   rw [← hc];rfl
set_option maxHeartbeats 1000000 in
theorem f74_3 (col:ByteArray) (v:Vl) (vl:List Vl) (ks:List Nd) (l:List Cl) (hn:okNd (.mk 3 col v vl ks)) (hl:okCl l):Spec V 141 [.ag ((eRN (.mk 3 col v vl ks)).map .d),.c (.d (.sl 3 (l.map eRC)))] (i2 .i64 (oneF (.mk 3 col v vl ks) l)):=by
 obtain ⟨h1,h2,h3,h4⟩:=okNd_v hn
 (refine Spec.of_go (L:=lv8SA) 1000 Go.Proofs.Tryz.func141 rfl rfl ⟨Nat.le_of_ble_eq_true rfl,rfl⟩ rfl ?_;unfold Go.Proofs.Tryz.f141;push_cast (maxSteps:=mS))
 (refine DrawK.of (.take 0 (.take 1 (.take 2 (.take 3 (.take 4 (.take 5 (.take 6 (.take 7 (.take 8 (.take 9 (.take 10 (.take 11 (.take 12 (.take 13 (.take 14 (.take 15 (.take 16 (.take 17 .done)))))))))))))))))) 1000 (by decide +kernel) ?_;try (push_cast (maxSteps:=mS)))
 (repeat' (first|(simp (maxSteps:=mS) only [push_cast,Nat.reduceBEq,Nat.reduceBNe,Nat.reduceAdd,Nat.reduceSub,Nat.reduceMul,Nat.reduceLT,Nat.reduceLeDiff,Nat.reduceEqDiff,Nat.blt_eq,Int.reduceLT,Int.reduceLE,Int.reduceEq,Int.reduceToNat,Int.reduceNeg,Int.reduceAdd,Int.reduceSub,Int.reduceMul,Int.reducePow,reduceIte,decide_true,decide_false,reduceCtorEq])|(refine BrP.mk (fun h=>?_) (fun h=>?_)<;>(try simp only [h]))))
 all_goals (try simp only [zeroV_ref,Bool.not_eq_true',Bool.not_eq_false',Bool.not_eq_eq_eq_not,Bool.not_true,Bool.not_false,decide_eq_true_eq,decide_eq_false_iff_not] at *)
 all_goals (try ((rcases vl with _|⟨x,vl⟩<;>rcases ks with _|⟨y,ks⟩<;>simp_all [oneF,op_mk,col_mk,v_mk,l_mk,ks_mk]);done))
 have e:oneF (.mk 3 col v vl ks) l=tailF (.mk 3 col v vl ks) l:=by
  rcases vl with _|⟨x,vl⟩<;>rcases ks with _|⟨y,ks⟩<;>simp_all [oneF,op_mk,col_mk,v_mk,l_mk,ks_mk]
 rw [e,tail_all]
 have hS:=f56 l hl.1
 rw [show (l.map fun c=>eS c.name)=(l.map (·.name)).map eS by rw [List.map_map];rfl] at hS
 (refine DrawK.of (.take 0 (.take 2 (.take 3 (.one 1 (.one 4 (.take 5 .done)))))) 1000 (by decide +kernel) ?_;try (push_cast (maxSteps:=mS)))
 refine ⟨_,hS,rfl,?_⟩
 (try push_cast (maxSteps:=mS))
 refine ⟨_,f55 (l.map (·.name)) col (by simpa only [okLen,List.length_map] using hl.1),rfl,?_⟩
 (try push_cast (maxSteps:=mS))
 have hfa:=(find_at col l 0).1
 refine BrP.mk (fun h=>?_) (fun h=>?_)<;>try (push_cast (maxSteps:=mS) [h])
 ·have hf:(findF col l 0).2.2=false:=by rw [hfa];simp at h ⊢;omega
  rw [if_pos hf]
 ·have hf:(findF col l 0).2.2=true:=by rw [hfa];simp at h ⊢;omega
  obtain ⟨hlt0,hi0,hi1⟩:=find_lt hf
  rw [if_neg (by simp [hf])]
  clear hfa hS e
  generalize hk:atF col (l.map (·.name)) 0=K at *
  generalize hF:findF col l 0=F at *
  obtain ⟨all,hall⟩:∃ all,all=vl++[v]:=⟨_,rfl⟩
  rw [← hall]
  have hal:∀ x∈all,okVl x:=fun x hx=>by
   rw [hall] at hx
   rcases List.mem_append.1 hx with hx|hx
   ·exact h2 x hx
   ·rw [List.mem_singleton.1 hx];exact h1
  have hlen:all.length=vl.length+1:=by rw [hall];simp
  have he:vl.map eRV++[eRV v]=all.map eRV:=by rw [hall];simp
  refine DrawK.cut (.take 0 (.take 1 (.take 2 (.two 3 (.one 4 (.one 5 (.one 6 (.one 7 (.one 8 .done))))) 4 (.two 3 (.one 5 (.one 6 (.one 7 (.one 8 .done)))) 5 (.two 3 (.one 6 (.one 7 (.one 8 .done))) 6 (.one 3 (.one 7 (.one 8 .done))))))))) 1000 (by decide +kernel) ⟨[(11,.c (.d (.sl 4 (all.map eRV)))),(10,.c (.d (.v (.int .i64 K)))),(1,.c (.d (.sl 3 (l.map eRC))))],[]⟩ ?_ ?_
  ·rw [← he]
   (try push_cast (maxSteps:=mS))
   ((repeat' with_reducible refine And.intro ?_ ?_)<;>try exact sz)
   all_goals (refine Le.frz [2,3] ?_;(try push_cast (maxSteps:=mS)))
  (try push_cast (maxSteps:=mS))
  refine LoopK.s1 (α:=Nat) [110] (fun k=>[i2 .i64 k]) (fun k=>k≤all.length∧((all.drop k).all fun v=>fitsF v F.1)=(all.all fun v=>fitsF v F.1)) (fun k=>all.length - k) 1000 0 ⟨by omega,rfl⟩ (by (try push_cast (maxSteps:=mS))) ?_
  rintro k ⟨hk',hc⟩
  by_cases hlt:k<all.length
  ·have hv:=atT hlt;have hd:=ltT hlt
   rw [drop_cons hv] at hc
   simp only [List.all_cons] at hc
   (try push_cast (maxSteps:=mS) [hd,getD_map hv])
   (repeat ((with_reducible refine And.intro ?_ ?_);focus (first|trivial|omega|exact ix|exact inKu8 (by omega) (by omega))))
   (refine DrawK.of (.take 0 (.one 1 (.take 2 (.take 3 (.take 4 (.take 5 (.take 6 (.take 7 (.take 8 (.take 9 (.take 10 (.take 11 (.take 12 (.take 13 (.take 14 (.take 15 (.take 16 (.take 17 .done)))))))))))))))))) 1000 (by decide +kernel) ?_;try (push_cast (maxSteps:=mS)))
   (have hS:=f21 all[k] (hal _ (List.getElem_mem hlt));simp only [eS_eq,eN_eq,eV_eq,eRN_eq,eRV_eq,eC_eq,eRC_eq,List.map_cons,List.map_nil,i2,b2,s2] at hS;refine ⟨_,hS,rfl,?_⟩;clear hS;try (push_cast (maxSteps:=mS)))
   have hgl:(l.map eRC).getD K.toNat []=eRC F.1:=getD_map (by rw [← hi1];exact hi0)
   have hKl:K<(l.length:Int):=by omega
   have hK0:0≤K:=by omega
   have hfit:fitsF all[k] F.1=(rightF all[k] && (decide (all[k].k=0) || decide (all[k].k=F.1.kind))):=rfl
   clear hi0 hi1
   have hF:fitsF all[k] F.1=false→(if (all.all fun v=>fitsF v F.1)=true then (0:Int) else 21)=21:=fun h0=>by
    rw [h0,Bool.false_and] at hc
    rw [if_neg (by rw [← hc];decide)]
   have hT:fitsF all[k] F.1=true→((all.drop (k+1)).all fun v=>fitsF v F.1)=(all.all fun v=>fitsF v F.1):=fun h0=>by
    rw [h0,Bool.true_and] at hc
    exact hc
   clear hc
   refine BrP.mk (fun h=>?_) (fun h=>?_)<;>try (push_cast (maxSteps:=mS) [h])
   ·exact (hF (by rw [hfit];simp at h;simp [h])).symm
   ·have hr:rightF all[k]=true:=by simpa using h
    refine BrP.mk (fun h=>?_) (fun h=>?_)<;>try (push_cast (maxSteps:=mS) [h])
    ·have h0:¬ all[k].k=0:=by simpa using h
     (try push_cast (maxSteps:=mS) [hgl])
     ((repeat' with_reducible refine And.intro ?_ ?_)<;>try exact sz)
     all_goals (try (try push_cast (maxSteps:=mS)))
     refine BrP.mk (fun h=>?_) (fun h=>?_)<;>try (push_cast (maxSteps:=mS) [h])
     ·have h1':¬ all[k].k=F.1.kind:=by simpa using h
      exact (hF (by rw [hfit];simp [hr,h0,h1'])).symm
     ·have h1':all[k].k=F.1.kind:=by simpa using h
      ((repeat' with_reducible refine And.intro ?_ ?_)<;>try exact sz)
      refine ⟨k+1,⟨by omega,hT (by rw [hfit];simp [hr,h1'])⟩,by omega,Le.st ?_⟩
      (try push_cast (maxSteps:=mS))
    ·have h0:all[k].k=0:=by simpa using h
     ((repeat' with_reducible refine And.intro ?_ ?_)<;>try exact sz)
     refine ⟨k+1,⟨by omega,hT (by rw [hfit];simp [hr,h0])⟩,by omega,Le.st ?_⟩
     (try push_cast (maxSteps:=mS))
  ·have hd:=geF hlt
   rw [List.drop_eq_nil_of_le (by omega)] at hc
   (try push_cast (maxSteps:=mS) [hd])
   rw [← hc];rfl
set_option maxHeartbeats 1000000 in
theorem f74_4 (col:ByteArray) (v:Vl) (vl:List Vl) (ks:List Nd) (l:List Cl) (hn:okNd (.mk 4 col v vl ks)) (hl:okCl l):Spec V 141 [.ag ((eRN (.mk 4 col v vl ks)).map .d),.c (.d (.sl 3 (l.map eRC)))] (i2 .i64 (oneF (.mk 4 col v vl ks) l)):=by
 obtain ⟨h1,h2,h3,h4⟩:=okNd_v hn
 (refine Spec.of_go (L:=lv8SA) 1000 Go.Proofs.Tryz.func141 rfl rfl ⟨Nat.le_of_ble_eq_true rfl,rfl⟩ rfl ?_;unfold Go.Proofs.Tryz.f141;push_cast (maxSteps:=mS))
 (refine DrawK.of (.take 0 (.take 1 (.take 2 (.take 3 (.take 4 (.take 5 (.take 6 (.take 7 (.take 8 (.take 9 (.take 10 (.take 11 (.take 12 (.take 13 (.take 14 (.take 15 (.take 16 (.take 17 .done)))))))))))))))))) 1000 (by decide +kernel) ?_;try (push_cast (maxSteps:=mS)))
 (repeat' (first|(simp (maxSteps:=mS) only [push_cast,Nat.reduceBEq,Nat.reduceBNe,Nat.reduceAdd,Nat.reduceSub,Nat.reduceMul,Nat.reduceLT,Nat.reduceLeDiff,Nat.reduceEqDiff,Nat.blt_eq,Int.reduceLT,Int.reduceLE,Int.reduceEq,Int.reduceToNat,Int.reduceNeg,Int.reduceAdd,Int.reduceSub,Int.reduceMul,Int.reducePow,reduceIte,decide_true,decide_false,reduceCtorEq])|(refine BrP.mk (fun h=>?_) (fun h=>?_)<;>(try simp only [h]))))
 all_goals (try simp only [zeroV_ref,Bool.not_eq_true',Bool.not_eq_false',Bool.not_eq_eq_eq_not,Bool.not_true,Bool.not_false,decide_eq_true_eq,decide_eq_false_iff_not] at *)
 all_goals (try ((rcases vl with _|⟨x,vl⟩<;>rcases ks with _|⟨y,ks⟩<;>simp_all [oneF,op_mk,col_mk,v_mk,l_mk,ks_mk]);done))
 have e:oneF (.mk 4 col v vl ks) l=tailF (.mk 4 col v vl ks) l:=by
  rcases vl with _|⟨x,vl⟩<;>rcases ks with _|⟨y,ks⟩<;>simp_all [oneF,op_mk,col_mk,v_mk,l_mk,ks_mk]
 rw [e,tail_all]
 have hS:=f56 l hl.1
 rw [show (l.map fun c=>eS c.name)=(l.map (·.name)).map eS by rw [List.map_map];rfl] at hS
 (refine DrawK.of (.take 0 (.take 2 (.take 3 (.one 1 (.one 4 (.take 5 .done)))))) 1000 (by decide +kernel) ?_;try (push_cast (maxSteps:=mS)))
 refine ⟨_,hS,rfl,?_⟩
 (try push_cast (maxSteps:=mS))
 refine ⟨_,f55 (l.map (·.name)) col (by simpa only [okLen,List.length_map] using hl.1),rfl,?_⟩
 (try push_cast (maxSteps:=mS))
 have hfa:=(find_at col l 0).1
 refine BrP.mk (fun h=>?_) (fun h=>?_)<;>try (push_cast (maxSteps:=mS) [h])
 ·have hf:(findF col l 0).2.2=false:=by rw [hfa];simp at h ⊢;omega
  rw [if_pos hf]
 ·have hf:(findF col l 0).2.2=true:=by rw [hfa];simp at h ⊢;omega
  obtain ⟨hlt0,hi0,hi1⟩:=find_lt hf
  rw [if_neg (by simp [hf])]
  clear hfa hS e
  generalize hk:atF col (l.map (·.name)) 0=K at *
  generalize hF:findF col l 0=F at *
  obtain ⟨all,hall⟩:∃ all,all=vl++[v]:=⟨_,rfl⟩
  rw [← hall]
  have hal:∀ x∈all,okVl x:=fun x hx=>by
   rw [hall] at hx
   rcases List.mem_append.1 hx with hx|hx
   ·exact h2 x hx
   ·rw [List.mem_singleton.1 hx];exact h1
  have hlen:all.length=vl.length+1:=by rw [hall];simp
  have he:vl.map eRV++[eRV v]=all.map eRV:=by rw [hall];simp
  refine DrawK.cut (.take 0 (.take 1 (.take 2 (.two 3 (.one 4 (.one 5 (.one 6 (.one 7 (.one 8 .done))))) 4 (.two 3 (.one 5 (.one 6 (.one 7 (.one 8 .done)))) 5 (.two 3 (.one 6 (.one 7 (.one 8 .done))) 6 (.one 3 (.one 7 (.one 8 .done))))))))) 1000 (by decide +kernel) ⟨[(11,.c (.d (.sl 4 (all.map eRV)))),(10,.c (.d (.v (.int .i64 K)))),(1,.c (.d (.sl 3 (l.map eRC))))],[]⟩ ?_ ?_
  ·rw [← he]
   (try push_cast (maxSteps:=mS))
   ((repeat' with_reducible refine And.intro ?_ ?_)<;>try exact sz)
   all_goals (refine Le.frz [2,3] ?_;(try push_cast (maxSteps:=mS)))
  (try push_cast (maxSteps:=mS))
  refine LoopK.s1 (α:=Nat) [110] (fun k=>[i2 .i64 k]) (fun k=>k≤all.length∧((all.drop k).all fun v=>fitsF v F.1)=(all.all fun v=>fitsF v F.1)) (fun k=>all.length - k) 1000 0 ⟨by omega,rfl⟩ (by (try push_cast (maxSteps:=mS))) ?_
  rintro k ⟨hk',hc⟩
  by_cases hlt:k<all.length
  ·have hv:=atT hlt;have hd:=ltT hlt
   rw [drop_cons hv] at hc
   simp only [List.all_cons] at hc
   (try push_cast (maxSteps:=mS) [hd,getD_map hv])
   (repeat ((with_reducible refine And.intro ?_ ?_);focus (first|trivial|omega|exact ix|exact inKu8 (by omega) (by omega))))
   (refine DrawK.of (.take 0 (.one 1 (.take 2 (.take 3 (.take 4 (.take 5 (.take 6 (.take 7 (.take 8 (.take 9 (.take 10 (.take 11 (.take 12 (.take 13 (.take 14 (.take 15 (.take 16 (.take 17 .done)))))))))))))))))) 1000 (by decide +kernel) ?_;try (push_cast (maxSteps:=mS)))
   (have hS:=f21 all[k] (hal _ (List.getElem_mem hlt));simp only [eS_eq,eN_eq,eV_eq,eRN_eq,eRV_eq,eC_eq,eRC_eq,List.map_cons,List.map_nil,i2,b2,s2] at hS;refine ⟨_,hS,rfl,?_⟩;clear hS;try (push_cast (maxSteps:=mS)))
   have hgl:(l.map eRC).getD K.toNat []=eRC F.1:=getD_map (by rw [← hi1];exact hi0)
   have hKl:K<(l.length:Int):=by omega
   have hK0:0≤K:=by omega
   have hfit:fitsF all[k] F.1=(rightF all[k] && (decide (all[k].k=0) || decide (all[k].k=F.1.kind))):=rfl
   clear hi0 hi1
   have hF:fitsF all[k] F.1=false→(if (all.all fun v=>fitsF v F.1)=true then (0:Int) else 21)=21:=fun h0=>by
    rw [h0,Bool.false_and] at hc
    rw [if_neg (by rw [← hc];decide)]
   have hT:fitsF all[k] F.1=true→((all.drop (k+1)).all fun v=>fitsF v F.1)=(all.all fun v=>fitsF v F.1):=fun h0=>by
    rw [h0,Bool.true_and] at hc
    exact hc
   clear hc
   refine BrP.mk (fun h=>?_) (fun h=>?_)<;>try (push_cast (maxSteps:=mS) [h])
   ·exact (hF (by rw [hfit];simp at h;simp [h])).symm
   ·have hr:rightF all[k]=true:=by simpa using h
    refine BrP.mk (fun h=>?_) (fun h=>?_)<;>try (push_cast (maxSteps:=mS) [h])
    ·have h0:¬ all[k].k=0:=by simpa using h
     (try push_cast (maxSteps:=mS) [hgl])
     ((repeat' with_reducible refine And.intro ?_ ?_)<;>try exact sz)
     all_goals (try (try push_cast (maxSteps:=mS)))
     refine BrP.mk (fun h=>?_) (fun h=>?_)<;>try (push_cast (maxSteps:=mS) [h])
     ·have h1':¬ all[k].k=F.1.kind:=by simpa using h
      exact (hF (by rw [hfit];simp [hr,h0,h1'])).symm
     ·have h1':all[k].k=F.1.kind:=by simpa using h
      ((repeat' with_reducible refine And.intro ?_ ?_)<;>try exact sz)
      refine ⟨k+1,⟨by omega,hT (by rw [hfit];simp [hr,h1'])⟩,by omega,Le.st ?_⟩
      (try push_cast (maxSteps:=mS))
    ·have h0:all[k].k=0:=by simpa using h
     ((repeat' with_reducible refine And.intro ?_ ?_)<;>try exact sz)
     refine ⟨k+1,⟨by omega,hT (by rw [hfit];simp [hr,h0])⟩,by omega,Le.st ?_⟩
     (try push_cast (maxSteps:=mS))
  ·have hd:=geF hlt
   rw [List.drop_eq_nil_of_le (by omega)] at hc
   (try push_cast (maxSteps:=mS) [hd])
   rw [← hc];rfl
set_option maxHeartbeats 1000000 in
theorem f74_8 (col:ByteArray) (v:Vl) (vl:List Vl) (ks:List Nd) (l:List Cl) (hn:okNd (.mk 8 col v vl ks)) (hl:okCl l):Spec V 141 [.ag ((eRN (.mk 8 col v vl ks)).map .d),.c (.d (.sl 3 (l.map eRC)))] (i2 .i64 (oneF (.mk 8 col v vl ks) l)):=by
 obtain ⟨h1,h2,h3,h4⟩:=okNd_v hn
 (refine Spec.of_go (L:=lv8SA) 1000 Go.Proofs.Tryz.func141 rfl rfl ⟨Nat.le_of_ble_eq_true rfl,rfl⟩ rfl ?_;unfold Go.Proofs.Tryz.f141;push_cast (maxSteps:=mS))
 (refine DrawK.of (.take 0 (.take 1 (.take 2 (.take 3 (.take 4 (.take 5 (.take 6 (.take 7 (.take 8 (.take 9 (.take 10 (.take 11 (.take 12 (.take 13 (.take 14 (.take 15 (.take 16 (.take 17 .done)))))))))))))))))) 1000 (by decide +kernel) ?_;try (push_cast (maxSteps:=mS)))
 (repeat' (first|(simp (maxSteps:=mS) only [push_cast,Nat.reduceBEq,Nat.reduceBNe,Nat.reduceAdd,Nat.reduceSub,Nat.reduceMul,Nat.reduceLT,Nat.reduceLeDiff,Nat.reduceEqDiff,Nat.blt_eq,Int.reduceLT,Int.reduceLE,Int.reduceEq,Int.reduceToNat,Int.reduceNeg,Int.reduceAdd,Int.reduceSub,Int.reduceMul,Int.reducePow,reduceIte,decide_true,decide_false,reduceCtorEq])|(refine BrP.mk (fun h=>?_) (fun h=>?_)<;>(try simp only [h]))))
 all_goals (try simp only [zeroV_ref,Bool.not_eq_true',Bool.not_eq_false',Bool.not_eq_eq_eq_not,Bool.not_true,Bool.not_false,decide_eq_true_eq,decide_eq_false_iff_not] at *)
 all_goals (try ((rcases vl with _|⟨x,vl⟩<;>rcases ks with _|⟨y,ks⟩<;>simp_all [oneF,op_mk,col_mk,v_mk,l_mk,ks_mk]);done))
 have e:oneF (.mk 8 col v vl ks) l=tailF (.mk 8 col v vl ks) l:=by
  rcases vl with _|⟨x,vl⟩<;>rcases ks with _|⟨y,ks⟩<;>simp_all [oneF,op_mk,col_mk,v_mk,l_mk,ks_mk]
 rw [e,tail_all]
 have hS:=f56 l hl.1
 rw [show (l.map fun c=>eS c.name)=(l.map (·.name)).map eS by rw [List.map_map];rfl] at hS
 (refine DrawK.of (.take 0 (.take 2 (.take 3 (.one 1 (.one 4 (.take 5 .done)))))) 1000 (by decide +kernel) ?_;try (push_cast (maxSteps:=mS)))
 refine ⟨_,hS,rfl,?_⟩
 (try push_cast (maxSteps:=mS))
 refine ⟨_,f55 (l.map (·.name)) col (by simpa only [okLen,List.length_map] using hl.1),rfl,?_⟩
 (try push_cast (maxSteps:=mS))
 have hfa:=(find_at col l 0).1
 refine BrP.mk (fun h=>?_) (fun h=>?_)<;>try (push_cast (maxSteps:=mS) [h])
 ·have hf:(findF col l 0).2.2=false:=by rw [hfa];simp at h ⊢;omega
  rw [if_pos hf]
 ·have hf:(findF col l 0).2.2=true:=by rw [hfa];simp at h ⊢;omega
  obtain ⟨hlt0,hi0,hi1⟩:=find_lt hf
  rw [if_neg (by simp [hf])]
  clear hfa hS e
  generalize hk:atF col (l.map (·.name)) 0=K at *
  generalize hF:findF col l 0=F at *
  obtain ⟨all,hall⟩:∃ all,all=vl++[v]:=⟨_,rfl⟩
  rw [← hall]
  have hal:∀ x∈all,okVl x:=fun x hx=>by
   rw [hall] at hx
   rcases List.mem_append.1 hx with hx|hx
   ·exact h2 x hx
   ·rw [List.mem_singleton.1 hx];exact h1
  have hlen:all.length=vl.length+1:=by rw [hall];simp
  have he:vl.map eRV++[eRV v]=all.map eRV:=by rw [hall];simp
  refine DrawK.cut (.take 0 (.take 1 (.take 2 (.two 3 (.one 4 (.one 5 (.one 6 (.one 7 (.one 8 .done))))) 4 (.two 3 (.one 5 (.one 6 (.one 7 (.one 8 .done)))) 5 (.two 3 (.one 6 (.one 7 (.one 8 .done))) 6 (.one 3 (.one 7 (.one 8 .done))))))))) 1000 (by decide +kernel) ⟨[(11,.c (.d (.sl 4 (all.map eRV)))),(10,.c (.d (.v (.int .i64 K)))),(1,.c (.d (.sl 3 (l.map eRC))))],[]⟩ ?_ ?_
  ·rw [← he]
   (try push_cast (maxSteps:=mS))
   ((repeat' with_reducible refine And.intro ?_ ?_)<;>try exact sz)
   all_goals (refine Le.frz [2,3] ?_;(try push_cast (maxSteps:=mS)))
  (try push_cast (maxSteps:=mS))
  refine LoopK.s1 (α:=Nat) [110] (fun k=>[i2 .i64 k]) (fun k=>k≤all.length∧((all.drop k).all fun v=>fitsF v F.1)=(all.all fun v=>fitsF v F.1)) (fun k=>all.length - k) 1000 0 ⟨by omega,rfl⟩ (by (try push_cast (maxSteps:=mS))) ?_
  rintro k ⟨hk',hc⟩
  by_cases hlt:k<all.length
  ·have hv:=atT hlt;have hd:=ltT hlt
   rw [drop_cons hv] at hc
   simp only [List.all_cons] at hc
   (try push_cast (maxSteps:=mS) [hd,getD_map hv])
   (repeat ((with_reducible refine And.intro ?_ ?_);focus (first|trivial|omega|exact ix|exact inKu8 (by omega) (by omega))))
   (refine DrawK.of (.take 0 (.one 1 (.take 2 (.take 3 (.take 4 (.take 5 (.take 6 (.take 7 (.take 8 (.take 9 (.take 10 (.take 11 (.take 12 (.take 13 (.take 14 (.take 15 (.take 16 (.take 17 .done)))))))))))))))))) 1000 (by decide +kernel) ?_;try (push_cast (maxSteps:=mS)))
   (have hS:=f21 all[k] (hal _ (List.getElem_mem hlt));simp only [eS_eq,eN_eq,eV_eq,eRN_eq,eRV_eq,eC_eq,eRC_eq,List.map_cons,List.map_nil,i2,b2,s2] at hS;refine ⟨_,hS,rfl,?_⟩;clear hS;try (push_cast (maxSteps:=mS)))
   have hgl:(l.map eRC).getD K.toNat []=eRC F.1:=getD_map (by rw [← hi1];exact hi0)
   have hKl:K<(l.length:Int):=by omega
   have hK0:0≤K:=by omega
   have hfit:fitsF all[k] F.1=(rightF all[k] && (decide (all[k].k=0) || decide (all[k].k=F.1.kind))):=rfl
   clear hi0 hi1
   have hF:fitsF all[k] F.1=false→(if (all.all fun v=>fitsF v F.1)=true then (0:Int) else 21)=21:=fun h0=>by
    rw [h0,Bool.false_and] at hc
    rw [if_neg (by rw [← hc];decide)]
   have hT:fitsF all[k] F.1=true→((all.drop (k+1)).all fun v=>fitsF v F.1)=(all.all fun v=>fitsF v F.1):=fun h0=>by
    rw [h0,Bool.true_and] at hc
    exact hc
   clear hc
   refine BrP.mk (fun h=>?_) (fun h=>?_)<;>try (push_cast (maxSteps:=mS) [h])
   ·exact (hF (by rw [hfit];simp at h;simp [h])).symm
   ·have hr:rightF all[k]=true:=by simpa using h
    refine BrP.mk (fun h=>?_) (fun h=>?_)<;>try (push_cast (maxSteps:=mS) [h])
    ·have h0:¬ all[k].k=0:=by simpa using h
     (try push_cast (maxSteps:=mS) [hgl])
     ((repeat' with_reducible refine And.intro ?_ ?_)<;>try exact sz)
     all_goals (try (try push_cast (maxSteps:=mS)))
     refine BrP.mk (fun h=>?_) (fun h=>?_)<;>try (push_cast (maxSteps:=mS) [h])
     ·have h1':¬ all[k].k=F.1.kind:=by simpa using h
      exact (hF (by rw [hfit];simp [hr,h0,h1'])).symm
     ·have h1':all[k].k=F.1.kind:=by simpa using h
      ((repeat' with_reducible refine And.intro ?_ ?_)<;>try exact sz)
      refine ⟨k+1,⟨by omega,hT (by rw [hfit];simp [hr,h1'])⟩,by omega,Le.st ?_⟩
      (try push_cast (maxSteps:=mS))
    ·have h0:all[k].k=0:=by simpa using h
     ((repeat' with_reducible refine And.intro ?_ ?_)<;>try exact sz)
     refine ⟨k+1,⟨by omega,hT (by rw [hfit];simp [hr,h0])⟩,by omega,Le.st ?_⟩
     (try push_cast (maxSteps:=mS))
  ·have hd:=geF hlt
   rw [List.drop_eq_nil_of_le (by omega)] at hc
   (try push_cast (maxSteps:=mS) [hd])
   rw [← hc];rfl
theorem f74 (n:Nd) (l:List Cl) (hn:okNd n) (hl:okCl l):Spec V 141 [.ag ((eRN n).map .d),.c (.d (.sl 3 (l.map eRC)))] (i2 .i64 (oneF n l)):=by
 obtain ⟨op,col,v,vl,ks⟩:=n
 by_cases h0:op=0
 ·subst h0;exact f74_0 col v vl ks l
 by_cases h1:op=1
 ·subst h1;exact f74_1 col v vl ks l hn hl
 by_cases h2:op=2
 ·subst h2;exact f74_2 col v vl ks l hn hl
 by_cases h3:op=3
 ·subst h3;exact f74_3 col v vl ks l hn hl
 by_cases h4:op=4
 ·subst h4;exact f74_4 col v vl ks l hn hl
 by_cases h5:op=5
 ·subst h5;exact f74_5 col v vl ks l
 by_cases h6:op=6
 ·subst h6;exact f74_6 col v vl ks l
 by_cases h7:op=7
 ·subst h7;exact f74_7 col v vl ks l
 by_cases h8:op=8
 ·subst h8;exact f74_8 col v vl ks l hn hl
 have e:oneF (.mk op col v vl ks) l=22:=by simp [oneF,op_mk,h0,h1,h2,h3,h4,h5,h6,h7,h8]
 rw [e]
 have d0:=decide_eq_false h0
 have d1:=decide_eq_false h1
 have d2:=decide_eq_false h2
 have d3:=decide_eq_false h3
 have d4:=decide_eq_false h4
 have d5:=decide_eq_false h5
 have d6:=decide_eq_false h6
 have d7:=decide_eq_false h7
 have d8:=decide_eq_false h8
 (refine Spec.of_go (L:=lv8SA) 1000 Go.Proofs.Tryz.func141 rfl rfl ⟨Nat.le_of_ble_eq_true rfl,rfl⟩ rfl ?_;unfold Go.Proofs.Tryz.f141;push_cast (maxSteps:=mS))
 (refine DrawK.of (.take 0 (.take 1 (.take 2 (.take 3 (.take 4 (.take 5 (.take 6 (.take 7 (.take 8 (.take 9 (.take 10 (.take 11 (.take 12 (.take 13 (.take 14 (.take 15 (.take 16 (.take 17 .done)))))))))))))))))) 1000 (by decide +kernel) ?_;try (push_cast (maxSteps:=mS)))
 simp only [d0,d1,d2,d3,d4,d5,d6,d7,d8]
 (try push_cast (maxSteps:=mS) [d0,d1,d2,d3,d4,d5,d6,d7,d8])
theorem f52 (l:List Cl) (hl:okCl l):∀ (m:Nat) (n:Nd),bN n≤m→okNd n→Spec V 103 [.ag ((eRN n).map .d),.c (.d (.sl 3 (l.map eRC)))] (i2 .i64 (everyF n l))
 | 0,.mk _ _ _ _ _,h,_=>by simp only [bN] at h;omega
 | m+1,.mk op col v vl ks,hm,hb=>by
  have IH:∀ k∈ks,Spec V 103 [.ag ((eRN k).map .d),.c (.d (.sl 3 (l.map eRC)))] (i2 .i64 (everyF k l)):=fun k hk=>by
   have:=bN_mem hk
   simp only [okNd,bN] at hm hb
   exact f52 l hl m k (by omega) (by simp only [okNd];omega)
  obtain ⟨h1,h2,h3,h4⟩:=okNd_v hb
  (refine Spec.of_go (L:=lv7SA) 1000 Go.Proofs.Tryz.func103 rfl rfl ⟨Nat.le_of_ble_eq_true rfl,rfl⟩ rfl ?_;unfold Go.Proofs.Tryz.f103;push_cast (maxSteps:=mS))
  (have hS:=f74 (.mk op col v vl ks) l hb hl;simp only [eS_eq,eN_eq,eV_eq,eRN_eq,eRV_eq,eC_eq,eRC_eq,List.map_cons,List.map_nil,i2,b2,s2] at hS;refine ⟨_,hS,rfl,?_⟩;clear hS;try (push_cast (maxSteps:=mS)))
  simp only [everyF]
  refine BrP.mk (fun h=>?_) (fun h=>?_)<;>try (push_cast (maxSteps:=mS) [h])
  ·simp at h
   rw [if_pos h]
  ·simp at h
   rw [if_neg (by simp [h])]
   refine LoopK.s1 (α:=Nat) [18] (fun k=>[i2 .i64 k]) (fun k=>k≤ks.length∧everyK (ks.drop k) l=everyK ks l) (fun k=>ks.length - k) 1000 0 ⟨by omega,rfl⟩ (by (try push_cast (maxSteps:=mS))) ?_
   rintro k ⟨hk,hc⟩
   by_cases hlt:k<ks.length
   ·have hv:=atT hlt;have hd:=ltT hlt
    rw [drop_cons hv] at hc
    simp only [everyK] at hc
    (try push_cast (maxSteps:=mS) [hd,getD_map hv])
    (repeat ((with_reducible refine And.intro ?_ ?_);focus (first|trivial|omega|exact ix|exact inKu8 (by omega) (by omega))))
    (have hS:=IH ks[k] (List.getElem_mem hlt);simp only [eS_eq,eN_eq,eV_eq,eRN_eq,eRV_eq,eC_eq,eRC_eq,List.map_cons,List.map_nil,i2,b2,s2] at hS;refine ⟨_,hS,rfl,?_⟩;clear hS;try (push_cast (maxSteps:=mS)))
    refine BrP.mk (fun h=>?_) (fun h=>?_)<;>try (push_cast (maxSteps:=mS) [h])
    ·simp at h
     rw [if_pos h] at hc
     exact hc
    ·simp at h
     rw [if_neg (by simp [h])] at hc
     (repeat ((with_reducible refine And.intro ?_ ?_);focus (first|trivial|omega|exact ix|exact inKu8 (by omega) (by omega))))
     refine ⟨k+1,⟨by omega,hc⟩,by omega,Le.st ?_⟩
     (try push_cast (maxSteps:=mS))
   ·have hd:=geF hlt
    rw [List.drop_eq_nil_of_le (by omega)] at hc
    (try push_cast (maxSteps:=mS) [hd])
    exact hc
theorem f16 (n:Nd) (l:List Cl) (hn:okNd n) (hl:okCl l):Spec V 56 [.ag ((eRN n).map .d),.c (.d (.sl 3 (l.map eRC)))] (i2 .i64 (checkF n l)):=by
 (refine Spec.of_go (L:=fun|0=>some [1,2]|1=>some [1,2,6]|2=>some [1,2,6,13]|3=>some [4]|4=>some [1,2,17]|5=>some [4]|6=>some [4]|_=>none) 1000 Go.Proofs.Tryz.func56 rfl rfl ⟨Nat.le_of_ble_eq_true rfl,rfl⟩ rfl ?_;unfold Go.Proofs.Tryz.f56;push_cast (maxSteps:=mS))
 refine ⟨_,f50 l hl,rfl,?_⟩
 simp only [checkF]
 (try push_cast (maxSteps:=mS))
 refine BrP.mk (fun h=>?_) (fun h=>?_)<;>try (push_cast (maxSteps:=mS) [h])
 ·simp at h
  rw [if_pos h]
 ·simp at h
  rw [if_neg (by simp [h])]
  (have hS:=f51 _ n (Nat.le_refl _) hn;simp only [eS_eq,eN_eq,eV_eq,eRN_eq,eRV_eq,eC_eq,eRC_eq,List.map_cons,List.map_nil,i2,b2,s2] at hS;refine ⟨_,hS,rfl,?_⟩;clear hS;try (push_cast (maxSteps:=mS)))
  have hd:=deep_dep n 100 (by omega)
  refine BrP.mk (fun h=>?_) (fun h=>?_)<;>try (push_cast (maxSteps:=mS) [h])
  ·have h':deep n 100=true:=by rw [hd];simpa using h
   rw [if_pos h']
  ·have h':¬ deep n 100=true:=by rw [hd];simpa using h
   rw [if_neg h']
   (have hS:=f52 l hl _ n (Nat.le_refl _) hn;simp only [eS_eq,eN_eq,eV_eq,eRN_eq,eRV_eq,eC_eq,eRC_eq,List.map_cons,List.map_nil,i2,b2,s2] at hS;refine ⟨_,hS,rfl,?_⟩;clear hS;try (push_cast (maxSteps:=mS)))
theorem f19 (rows:List (List Vl)) (hl:okLen rows) (hr:∀ r∈rows,okLen r):Spec V 72 [.c (.d (.sl 1 (rows.map eR)))] (b2 (smallF rows)):=by
 (refine Spec.of_go (L:=fun|0=>some [0]|1=>some [0,7,8,9]|2=>some [0,7,8,9,10]|3=>some [0,4,7,8,9]|4=>some [0,4,7,8,9,15]|5=>some [2]|6=>some [0,7,8,9,16,17,18]|7=>some [0,7,8,9,16,17,18,19]|8=>some [0,6,7,8,9,16,17,18]|9=>some [0,7,8,9,16,17,18,25]|10=>some [2]|11=>some [0,7,8,9,16,17,18]|12=>some [0,7,8,9]|13=>some [2]|_=>none) 1000 Go.Proofs.Tryz.func72 rfl rfl ⟨Nat.le_of_ble_eq_true rfl,rfl⟩ rfl ?_;unfold Go.Proofs.Tryz.f72;push_cast (maxSteps:=mS))
 refine LoopK.s1 (α:=Nat) [9] (fun k=>[i2 .i64 k]) (fun k=>k≤rows.length∧(rows.drop k).all okRow=rows.all okRow) (fun k=>rows.length - k) 1000 0 ⟨by omega,rfl⟩ (by (try push_cast (maxSteps:=mS))) ?_
 rintro k ⟨hk,hc⟩
 by_cases hlt:k<rows.length
 ·have hv:=atT hlt;have hd:=ltT hlt
  rw [drop_cons hv] at hc
  simp only [List.all_cons] at hc
  have hF:okRow rows[k]=false→smallF rows=false:=fun h0=>by
   rw [h0,Bool.false_and] at hc
   simp [smallF,← hc]
  have hrk:=hr _ (List.getElem_mem hlt)
  generalize hrow:rows[k]=r at *
  (try push_cast (maxSteps:=mS) [hd,getD_map hv])
  ((repeat' with_reducible refine And.intro ?_ ?_)<;>try exact sz)
  refine BrP.mk (fun h=>?_) (fun h=>?_)<;>try (push_cast (maxSteps:=mS) [h])
  ·exact (hF (by simp at h;simp [okRow];intro h';omega)).symm
  ·have h12:r.length≤12:=by simp at h;omega
   refine LoopK.s1 (α:=Nat) [18] (fun j=>[i2 .i64 j]) (fun j=>j≤r.length∧((r.drop j).all fun v=>decide (v.s.size≤40))=r.all fun v=>decide (v.s.size≤40)) (fun j=>r.length - j) 1000 0 ⟨by omega,rfl⟩ (by (try push_cast (maxSteps:=mS))) ?_
   rintro j ⟨hj,hc2⟩
   by_cases hlt2:j<r.length
   ·have hv2:=List.getElem?_eq_getElem hlt2
    have hd2:decide ((j:Int)<(r.length:Int))=true:=decide_eq_true (by omega)
    rw [drop_cons hv2] at hc2
    simp only [List.all_cons] at hc2
    (try push_cast (maxSteps:=mS) [hd2,getD_map hv2])
    ((repeat' with_reducible refine And.intro ?_ ?_)<;>try exact sz)
    refine BrP.mk (fun h=>?_) (fun h=>?_)<;>try (push_cast (maxSteps:=mS) [h])
    ·have h0:decide (r[j].s.size≤40)=false:=by simp at h ⊢;omega
     rw [h0,Bool.false_and] at hc2
     exact (hF (by simp only [okRow,← hc2,Bool.and_false])).symm
    ·have h0:decide (r[j].s.size≤40)=true:=by simp at h ⊢;omega
     rw [h0,Bool.true_and] at hc2
     ((repeat' with_reducible refine And.intro ?_ ?_)<;>try exact sz)
     refine ⟨j+1,⟨by omega,hc2⟩,by omega,Le.st ?_⟩
     (try push_cast (maxSteps:=mS))
   ·have hd2:decide ((j:Int)<(r.length:Int))=false:=decide_eq_false (by omega)
    rw [List.drop_eq_nil_of_le (by omega)] at hc2
    (try push_cast (maxSteps:=mS) [hd2])
    ((repeat' with_reducible refine And.intro ?_ ?_)<;>try exact sz)
    have h0:okRow r=true:=by simp only [okRow,← hc2,decide_eq_true h12,List.all_nil,Bool.and_self]
    rw [h0,Bool.true_and] at hc
    refine ⟨k+1,⟨by omega,hc⟩,by omega,Le.st ?_⟩
    (try push_cast (maxSteps:=mS))
 ·have hd:=geF hlt
  rw [List.drop_eq_nil_of_le (by omega)] at hc
  (try push_cast (maxSteps:=mS) [hd])
  simp only [smallF,← hc,List.all_nil,Bool.true_and]
  rw [Bool.eq_iff_iff];simp;omega
set_option maxHeartbeats 1000000 in
theorem f23 (l:List Cl) (row:List Vl) (hl:okCl l) (hrow:row.length=l.length):∀ (m:Nat) (n:Nd),bN n≤m→okNd n→everyF n l=0→Spec V 57 [.ag ((eRN n).map .d),.c (.d (.sl 3 (l.map eRC))),.c (.d (.sl 4 (row.map eRV)))] (b2 (holdsF n l row))
 | 0,.mk _ _ _ _ _,h,_,_=>by simp only [bN] at h;omega
 | m+1,.mk op col v vl ks,hm,hb,hg=>by
  have IH:∀ k∈ks,Spec V 57 [.ag ((eRN k).map .d),.c (.d (.sl 3 (l.map eRC))),.c (.d (.sl 4 (row.map eRV)))] (b2 (holdsF k l row)):=fun k hk=>by
   have:=bN_mem hk
   simp only [okNd,bN] at hm hb
   exact f23 l row hl hrow m k (by omega) (by simp only [okNd];omega) ((every_one hg).2 k hk)
  obtain ⟨h1,h2,h3,h4⟩:=okNd_v hb
  have hone:=(every_one hg).1
  by_cases h5:op=5
  ·subst h5
   obtain ⟨k,rfl⟩:=one_not hone
   have e:holdsF (.mk 5 col v vl [k]) l row=!holdsF k l row:=by simp [holdsF,holdsH]
   rw [e]
   (refine Spec.of_go (L:=lv5SA) 1000 Go.Proofs.Tryz.func57 rfl rfl ⟨Nat.le_of_ble_eq_true rfl,rfl⟩ rfl ?_;unfold Go.Proofs.Tryz.f57;push_cast (maxSteps:=mS))
   (repeat ((with_reducible refine And.intro ?_ ?_);focus (first|trivial|omega|exact ix|exact inKu8 (by omega) (by omega))))
   (have hS:=IH k (by simp);simp only [eS_eq,eN_eq,eV_eq,eRN_eq,eRV_eq,eC_eq,eRC_eq,List.map_cons,List.map_nil,i2,b2,s2] at hS;refine ⟨_,hS,rfl,?_⟩;clear hS;try (push_cast (maxSteps:=mS)))
  by_cases h6:op=6
  ·subst h6
   have e:holdsF (.mk 6 col v vl ks) l row=holdsA ks l row:=by simp [holdsF]
   rw [e]
   (refine Spec.of_go (L:=lv5SA) 1000 Go.Proofs.Tryz.func57 rfl rfl ⟨Nat.le_of_ble_eq_true rfl,rfl⟩ rfl ?_;unfold Go.Proofs.Tryz.f57;push_cast (maxSteps:=mS))
   refine LoopK.s1 (α:=Nat) [35] (fun k=>[i2 .i64 k]) (fun k=>k≤ks.length∧holdsA (ks.drop k) l row=holdsA ks l row) (fun k=>ks.length - k) 1000 0 ⟨by omega,rfl⟩ (by (try push_cast (maxSteps:=mS))) ?_
   rintro k ⟨hk,hc⟩
   by_cases hlt:k<ks.length
   ·have hv:=atT hlt;have hd:=ltT hlt
    rw [drop_cons hv] at hc
    simp only [holdsA] at hc
    (try push_cast (maxSteps:=mS) [hd,getD_map hv])
    (repeat ((with_reducible refine And.intro ?_ ?_);focus (first|trivial|omega|exact ix|exact inKu8 (by omega) (by omega))))
    (have hS:=IH ks[k] (List.getElem_mem hlt);simp only [eS_eq,eN_eq,eV_eq,eRN_eq,eRV_eq,eC_eq,eRC_eq,List.map_cons,List.map_nil,i2,b2,s2] at hS;refine ⟨_,hS,rfl,?_⟩;clear hS;try (push_cast (maxSteps:=mS)))
    refine BrP.mk (fun h=>?_) (fun h=>?_)<;>try (push_cast (maxSteps:=mS) [h])
    ·simp at h
     rw [if_pos h] at hc
     exact hc
    ·simp at h
     rw [if_neg (by simp [h])] at hc
     (repeat ((with_reducible refine And.intro ?_ ?_);focus (first|trivial|omega|exact ix|exact inKu8 (by omega) (by omega))))
     refine ⟨k+1,⟨by omega,hc⟩,by omega,Le.st ?_⟩
     (try push_cast (maxSteps:=mS))
   ·have hd:=geF hlt
    rw [List.drop_eq_nil_of_le (by omega)] at hc
    (try push_cast (maxSteps:=mS) [hd])
    exact hc
  by_cases h7:op=7
  ·subst h7
   have e:holdsF (.mk 7 col v vl ks) l row=holdsO ks l row:=by simp [holdsF]
   rw [e]
   (refine Spec.of_go (L:=lv5SA) 1000 Go.Proofs.Tryz.func57 rfl rfl ⟨Nat.le_of_ble_eq_true rfl,rfl⟩ rfl ?_;unfold Go.Proofs.Tryz.f57;push_cast (maxSteps:=mS))
   refine LoopK.s1 (α:=Nat) [50] (fun k=>[i2 .i64 k]) (fun k=>k≤ks.length∧holdsO (ks.drop k) l row=holdsO ks l row) (fun k=>ks.length - k) 1000 0 ⟨by omega,rfl⟩ (by (try push_cast (maxSteps:=mS))) ?_
   rintro k ⟨hk,hc⟩
   by_cases hlt:k<ks.length
   ·have hv:=atT hlt;have hd:=ltT hlt
    rw [drop_cons hv] at hc
    simp only [holdsO] at hc
    (try push_cast (maxSteps:=mS) [hd,getD_map hv])
    (repeat ((with_reducible refine And.intro ?_ ?_);focus (first|trivial|omega|exact ix|exact inKu8 (by omega) (by omega))))
    (have hS:=IH ks[k] (List.getElem_mem hlt);simp only [eS_eq,eN_eq,eV_eq,eRN_eq,eRV_eq,eC_eq,eRC_eq,List.map_cons,List.map_nil,i2,b2,s2] at hS;refine ⟨_,hS,rfl,?_⟩;clear hS;try (push_cast (maxSteps:=mS)))
    refine BrP.mk (fun h=>?_) (fun h=>?_)<;>try (push_cast (maxSteps:=mS) [h])
    ·rw [if_pos h] at hc
     exact hc
    ·rw [if_neg (by simp [h])] at hc
     (repeat ((with_reducible refine And.intro ?_ ?_);focus (first|trivial|omega|exact ix|exact inKu8 (by omega) (by omega))))
     refine ⟨k+1,⟨by omega,hc⟩,by omega,Le.st ?_⟩
     (try push_cast (maxSteps:=mS))
   ·have hd:=geF hlt
    rw [List.drop_eq_nil_of_le (by omega)] at hc
    (try push_cast (maxSteps:=mS) [hd])
    exact hc
  by_cases h0:op=0
  ·subst h0
   have e:holdsF (.mk 0 col v vl ks) l row=true:=by simp [holdsF]
   rw [e]
   (refine Spec.of_go (L:=lv5SA) 1000 Go.Proofs.Tryz.func57 rfl rfl ⟨Nat.le_of_ble_eq_true rfl,rfl⟩ rfl ?_;unfold Go.Proofs.Tryz.f57;push_cast (maxSteps:=mS))
  obtain ⟨hop,_,hfound⟩:=one_leaf hone h0 h5 h6 h7
  obtain ⟨hlt,hc,hat⟩:=find_lt hfound
  obtain ⟨x,hx⟩:∃ x,row[(findF col l 0).2.1]?=some x:=⟨_,List.getElem?_eq_getElem (by omega)⟩
  rw [holds_leaf h0 h5 h6 h7 hx]
  have hS:=f56 l hl.1
  rw [show (l.map fun c=>eS c.name)=(l.map (·.name)).map eS by rw [List.map_map];rfl] at hS
  have hS2:=f55 (l.map (·.name)) col (by simpa only [okLen,List.length_map] using hl.1)
  generalize findF col l 0=F at *
  generalize hK:atF col (l.map (·.name)) 0=K at *
  have hgx:(row.map eRV).getD K.toNat []=eRV x:=getD_map (by rw [← hat];exact hx)
  have hi0:0≤K:=by omega
  have hi:K<(row.length:Int):=by omega
  clear IH hm hb hg hone hc hx hfound hlt h5 h6 h7 h0 hat
  have hcv:∀ w:Vl,decide (rcmpF x w=0)=decide (cmpF x w=0):=cmp_eq x
  by_cases h0:op=1
  ·subst h0
   (refine Spec.of_go (L:=lv5SA) 1000 Go.Proofs.Tryz.func57 rfl rfl ⟨Nat.le_of_ble_eq_true rfl,rfl⟩ rfl ?_;unfold Go.Proofs.Tryz.f57;push_cast (maxSteps:=mS))
   refine DrawK.cut (.take 0 (.take 1 (.take 3 (.take 4 (.two 2 (.two 5 (.take 6 (.take 7 (.one 8 (.one 9 .done)))) 8 (.one 5 (.take 6 (.take 7 (.one 9 .done))))) 8 (.one 2 (.one 5 (.take 6 (.take 7 (.one 9 .done)))))))))) 1000 (by decide +kernel) ⟨[(11,.c (.op 1 0)),(3,.c (.op 0 0))],[.bx 42 [.d (.v (.int .i64 1)),.d (.v (.string col)),.d (.v (.int .i64 v.k)),.d (.v (.string v.s)),.d (.v (.int .i64 v.n)),.d (.v (.int .i64 (bi v.b))),.d (.sl 4 (vl.map eRV)),.d (.sl 8 (ks.map eRN))],.bx 38 ((eRV x).map .d)]⟩ ?_ ?_
   ·(try push_cast (maxSteps:=mS))
    repeat' (first|(with_reducible refine And.intro ?_ ?_)|trivial|omega|(refine ⟨_,hS,rfl,?_⟩;(try push_cast (maxSteps:=mS) [hgx]))|(refine ⟨_,hS2,rfl,?_⟩;(try push_cast (maxSteps:=mS) [hgx]))|(refine Le.st ?_;(try push_cast (maxSteps:=mS))))
   (try push_cast (maxSteps:=mS))
   (have hS:=f57 x v;simp only [eRV_eq,List.map_cons,List.map_nil,i2] at hS;refine ⟨_,hS,rfl,?_⟩;(try push_cast (maxSteps:=mS)))
   (repeat' (first|(simp (maxSteps:=mS) only [push_cast,Nat.reduceBEq,Nat.reduceBNe,Nat.reduceAdd,Nat.reduceSub,Nat.reduceMul,Nat.reduceLT,Nat.reduceLeDiff,Nat.reduceEqDiff,Nat.blt_eq,Int.reduceLT,Int.reduceLE,Int.reduceEq,Int.reduceToNat,Int.reduceNeg,Int.reduceAdd,Int.reduceSub,Int.reduceMul,Int.reducePow,reduceIte,decide_true,decide_false,reduceCtorEq])|(refine BrP.mk (fun h=>?_) (fun h=>?_)<;>(try simp only [h]))))
   all_goals (try simp only [cmp_lt,cmp_gt,cmp_eq] at *)
   all_goals simp_all [leafF]
  by_cases h0:op=2
  ·subst h0
   (refine Spec.of_go (L:=lv5SA) 1000 Go.Proofs.Tryz.func57 rfl rfl ⟨Nat.le_of_ble_eq_true rfl,rfl⟩ rfl ?_;unfold Go.Proofs.Tryz.f57;push_cast (maxSteps:=mS))
   refine DrawK.cut (.take 0 (.take 1 (.take 3 (.take 4 (.two 2 (.two 5 (.take 6 (.take 7 (.one 8 (.one 9 .done)))) 8 (.one 5 (.take 6 (.take 7 (.one 9 .done))))) 8 (.one 2 (.one 5 (.take 6 (.take 7 (.one 9 .done)))))))))) 1000 (by decide +kernel) ⟨[(11,.c (.op 1 0)),(3,.c (.op 0 0))],[.bx 42 [.d (.v (.int .i64 2)),.d (.v (.string col)),.d (.v (.int .i64 v.k)),.d (.v (.string v.s)),.d (.v (.int .i64 v.n)),.d (.v (.int .i64 (bi v.b))),.d (.sl 4 (vl.map eRV)),.d (.sl 8 (ks.map eRN))],.bx 38 ((eRV x).map .d)]⟩ ?_ ?_
   ·(try push_cast (maxSteps:=mS))
    repeat' (first|(with_reducible refine And.intro ?_ ?_)|trivial|omega|(refine ⟨_,hS,rfl,?_⟩;(try push_cast (maxSteps:=mS) [hgx]))|(refine ⟨_,hS2,rfl,?_⟩;(try push_cast (maxSteps:=mS) [hgx]))|(refine Le.st ?_;(try push_cast (maxSteps:=mS))))
   (try push_cast (maxSteps:=mS))
   (have hS:=f57 x v;simp only [eRV_eq,List.map_cons,List.map_nil,i2] at hS;refine ⟨_,hS,rfl,?_⟩;(try push_cast (maxSteps:=mS)))
   (repeat' (first|(simp (maxSteps:=mS) only [push_cast,Nat.reduceBEq,Nat.reduceBNe,Nat.reduceAdd,Nat.reduceSub,Nat.reduceMul,Nat.reduceLT,Nat.reduceLeDiff,Nat.reduceEqDiff,Nat.blt_eq,Int.reduceLT,Int.reduceLE,Int.reduceEq,Int.reduceToNat,Int.reduceNeg,Int.reduceAdd,Int.reduceSub,Int.reduceMul,Int.reducePow,reduceIte,decide_true,decide_false,reduceCtorEq])|(refine BrP.mk (fun h=>?_) (fun h=>?_)<;>(try simp only [h]))))
   all_goals (try simp only [cmp_lt,cmp_gt,cmp_eq] at *)
   all_goals simp_all [leafF]
  by_cases h0:op=3
  ·subst h0
   (refine Spec.of_go (L:=lv5SA) 1000 Go.Proofs.Tryz.func57 rfl rfl ⟨Nat.le_of_ble_eq_true rfl,rfl⟩ rfl ?_;unfold Go.Proofs.Tryz.f57;push_cast (maxSteps:=mS))
   refine DrawK.cut (.take 0 (.take 1 (.take 3 (.take 4 (.two 2 (.two 5 (.take 6 (.take 7 (.one 8 (.one 9 .done)))) 8 (.one 5 (.take 6 (.take 7 (.one 9 .done))))) 8 (.one 2 (.one 5 (.take 6 (.take 7 (.one 9 .done)))))))))) 1000 (by decide +kernel) ⟨[(11,.c (.op 1 0)),(3,.c (.op 0 0))],[.bx 42 [.d (.v (.int .i64 3)),.d (.v (.string col)),.d (.v (.int .i64 v.k)),.d (.v (.string v.s)),.d (.v (.int .i64 v.n)),.d (.v (.int .i64 (bi v.b))),.d (.sl 4 (vl.map eRV)),.d (.sl 8 (ks.map eRN))],.bx 38 ((eRV x).map .d)]⟩ ?_ ?_
   ·(try push_cast (maxSteps:=mS))
    repeat' (first|(with_reducible refine And.intro ?_ ?_)|trivial|omega|(refine ⟨_,hS,rfl,?_⟩;(try push_cast (maxSteps:=mS) [hgx]))|(refine ⟨_,hS2,rfl,?_⟩;(try push_cast (maxSteps:=mS) [hgx]))|(refine Le.st ?_;(try push_cast (maxSteps:=mS))))
   (try push_cast (maxSteps:=mS))
   (have hS:=f57 x v;simp only [eRV_eq,List.map_cons,List.map_nil,i2] at hS;refine ⟨_,hS,rfl,?_⟩;(try push_cast (maxSteps:=mS)))
   (repeat' (first|(simp (maxSteps:=mS) only [push_cast,Nat.reduceBEq,Nat.reduceBNe,Nat.reduceAdd,Nat.reduceSub,Nat.reduceMul,Nat.reduceLT,Nat.reduceLeDiff,Nat.reduceEqDiff,Nat.blt_eq,Int.reduceLT,Int.reduceLE,Int.reduceEq,Int.reduceToNat,Int.reduceNeg,Int.reduceAdd,Int.reduceSub,Int.reduceMul,Int.reducePow,reduceIte,decide_true,decide_false,reduceCtorEq])|(refine BrP.mk (fun h=>?_) (fun h=>?_)<;>(try simp only [h]))))
   all_goals (try simp only [cmp_lt,cmp_gt,cmp_eq] at *)
   all_goals simp_all [leafF]
  by_cases h0:op=4
  ·subst h0
   (refine Spec.of_go (L:=lv5SA) 1000 Go.Proofs.Tryz.func57 rfl rfl ⟨Nat.le_of_ble_eq_true rfl,rfl⟩ rfl ?_;unfold Go.Proofs.Tryz.f57;push_cast (maxSteps:=mS))
   refine DrawK.cut (.take 0 (.take 1 (.take 3 (.take 4 (.two 2 (.two 5 (.take 6 (.take 7 (.one 8 (.one 9 .done)))) 8 (.one 5 (.take 6 (.take 7 (.one 9 .done))))) 8 (.one 2 (.one 5 (.take 6 (.take 7 (.one 9 .done)))))))))) 1000 (by decide +kernel) ⟨[(11,.c (.op 1 0)),(3,.c (.op 0 0))],[.bx 42 [.d (.v (.int .i64 4)),.d (.v (.string col)),.d (.v (.int .i64 v.k)),.d (.v (.string v.s)),.d (.v (.int .i64 v.n)),.d (.v (.int .i64 (bi v.b))),.d (.sl 4 (vl.map eRV)),.d (.sl 8 (ks.map eRN))],.bx 38 ((eRV x).map .d)]⟩ ?_ ?_
   ·(try push_cast (maxSteps:=mS))
    repeat' (first|(with_reducible refine And.intro ?_ ?_)|trivial|omega|(refine ⟨_,hS,rfl,?_⟩;(try push_cast (maxSteps:=mS) [hgx]))|(refine ⟨_,hS2,rfl,?_⟩;(try push_cast (maxSteps:=mS) [hgx]))|(refine Le.st ?_;(try push_cast (maxSteps:=mS))))
   (try push_cast (maxSteps:=mS))
   (have hS:=f57 x v;simp only [eRV_eq,List.map_cons,List.map_nil,i2] at hS;refine ⟨_,hS,rfl,?_⟩;(try push_cast (maxSteps:=mS)))
   (repeat' (first|(simp (maxSteps:=mS) only [push_cast,Nat.reduceBEq,Nat.reduceBNe,Nat.reduceAdd,Nat.reduceSub,Nat.reduceMul,Nat.reduceLT,Nat.reduceLeDiff,Nat.reduceEqDiff,Nat.blt_eq,Int.reduceLT,Int.reduceLE,Int.reduceEq,Int.reduceToNat,Int.reduceNeg,Int.reduceAdd,Int.reduceSub,Int.reduceMul,Int.reducePow,reduceIte,decide_true,decide_false,reduceCtorEq])|(refine BrP.mk (fun h=>?_) (fun h=>?_)<;>(try simp only [h]))))
   all_goals (try simp only [cmp_lt,cmp_gt,cmp_eq] at *)
   all_goals simp_all [leafF]
  obtain rfl:op=8:=by omega
  (refine Spec.of_go (L:=lv5SA) 1000 Go.Proofs.Tryz.func57 rfl rfl ⟨Nat.le_of_ble_eq_true rfl,rfl⟩ rfl ?_;unfold Go.Proofs.Tryz.f57;push_cast (maxSteps:=mS))
  refine DrawK.cut (.take 0 (.take 1 (.take 3 (.take 4 (.two 2 (.two 5 (.take 6 (.take 7 (.one 8 (.one 9 .done)))) 8 (.one 5 (.take 6 (.take 7 (.one 9 .done))))) 8 (.one 2 (.one 5 (.take 6 (.take 7 (.one 9 .done)))))))))) 1000 (by decide +kernel) ⟨[(11,.c (.op 1 0)),(3,.c (.op 0 0))],[.bx 42 [.d (.v (.int .i64 8)),.d (.v (.string col)),.d (.v (.int .i64 v.k)),.d (.v (.string v.s)),.d (.v (.int .i64 v.n)),.d (.v (.int .i64 (bi v.b))),.d (.sl 4 (vl.map eRV)),.d (.sl 8 (ks.map eRN))],.bx 38 ((eRV x).map .d)]⟩ ?_ ?_
  ·(try push_cast (maxSteps:=mS))
   repeat' (first|(with_reducible refine And.intro ?_ ?_)|trivial|omega|(refine ⟨_,hS,rfl,?_⟩;(try push_cast (maxSteps:=mS) [hgx]))|(refine ⟨_,hS2,rfl,?_⟩;(try push_cast (maxSteps:=mS) [hgx]))|(refine Le.st ?_;(try push_cast (maxSteps:=mS))))
  (try push_cast (maxSteps:=mS))
  have hS:=f57 x v
  simp only [eRV_eq,List.map_cons,List.map_nil,i2] at hS
  refine ⟨_,hS,rfl,?_⟩
  (repeat' (first|(simp (maxSteps:=mS) only [push_cast,Nat.reduceBEq,Nat.reduceBNe,Nat.reduceAdd,Nat.reduceSub,Nat.reduceMul,Nat.reduceLT,Nat.reduceLeDiff,Nat.reduceEqDiff,Nat.blt_eq,Int.reduceLT,Int.reduceLE,Int.reduceEq,Int.reduceToNat,Int.reduceNeg,Int.reduceAdd,Int.reduceSub,Int.reduceMul,Int.reducePow,reduceIte,decide_true,decide_false,reduceCtorEq])|(refine BrP.mk (fun h=>?_) (fun h=>?_)<;>(try simp only [h]))))
  all_goals (simp only [leafF])
  all_goals (rw [if_neg (by decide),if_neg (by decide),if_neg (by decide),if_neg (by decide)])
  all_goals (refine LoopK.s1 (α:=Nat) [108] (fun k=>[i2 .i64 k]) (fun k=>k≤vl.length∧((vl.drop k).any fun w=>decide (cmpF x w=0))=(vl.any fun w=>decide (cmpF x w=0))) (fun k=>vl.length - k) 1000 0 ⟨by omega,rfl⟩ (by (try push_cast (maxSteps:=mS))) ?_)
  all_goals rintro k ⟨hk,hc⟩
  all_goals (
   by_cases hlt:k<vl.length
   ·have hv:=List.getElem?_eq_getElem hlt
    have hd:decide ((k:Int)<(vl.length:Int))=true:=decide_eq_true (by omega)
    rw [drop_cons hv] at hc
    simp only [List.any_cons] at hc
    (try push_cast (maxSteps:=mS) [hd,getD_map hv])
    ((repeat' with_reducible refine And.intro ?_ ?_)<;>try exact sz)
    have hS:=f57 x vl[k]
    simp only [eRV_eq,List.map_cons,List.map_nil,i2] at hS
    refine ⟨_,hS,rfl,?_⟩
    (try push_cast (maxSteps:=mS))
    simp only [cmp_eq]
    refine BrP.mk (fun h=>?_) (fun h=>?_)<;>try (push_cast (maxSteps:=mS) [h])
    ·rw [h,Bool.true_or] at hc
     exact hc
    ·rw [h,Bool.false_or] at hc
     ((repeat' with_reducible refine And.intro ?_ ?_)<;>try exact sz)
     refine ⟨k+1,⟨by omega,hc⟩,by omega,Le.st ?_⟩
     (try push_cast (maxSteps:=mS))
   ·have hd:=geF hlt
    rw [List.drop_eq_nil_of_le (by omega)] at hc
    (try push_cast (maxSteps:=mS) [hd])
    exact hc)
end Go.LS.Tryz
namespace Go.LS.Tryz
open Go Go.LS
set_option maxRecDepth 100000
set_option linter.unusedSimpArgs false
set_option linter.unusedVariables false
theorem f58 (r:List Vl) (hr:okLen r):Spec V 82 [.c (.d (.sl 4 (r.map eV)))] (.c (.d (.sl 4 (r.map eV)))):=by
 (refine Spec.of_go (L:=fun|0=>some [0]|1=>some [0,4]|2=>some [2]|3=>some [2]|_=>none) 1000 Go.Proofs.Tryz.func82 rfl rfl ⟨Nat.le_of_ble_eq_true rfl,rfl⟩ rfl ?_;unfold Go.Proofs.Tryz.f82;push_cast (maxSteps:=mS))
 intro b hb
 (try push_cast (maxSteps:=mS))
 refine BrP.mk (fun h=>?_) (fun h=>?_)<;>try (push_cast (maxSteps:=mS) [h])
 ·have:=hb h
  simp at this
  simp [this]
 ·((repeat' with_reducible refine And.intro ?_ ?_)<;>try exact sz)
theorem f26 (l m:List (List Vl)) (hl:okLen l) (hm:okLen m) (hr:∀ r∈l,okLen r) (hr':∀ r∈m,okLen r):Spec V 40 [.c (.d (.sl 1 (l.map eRR))),.c (.d (.sl 1 (m.map eRR)))] (b2 (allF l m)):=by
 (refine Spec.of_go (L:=fun|0=>some [0,1]|1=>some [0,1,10]|2=>some [4]|3=>some [0,1,12,13]|4=>some [0,1,12,13,14]|5=>some [0,1,5,12,13]|6=>some [0,1,12,13,25]|7=>some [4]|8=>some [0,1,12,13]|9=>some [4]|_=>none) 1000 Go.Proofs.Tryz.func40 rfl rfl ⟨Nat.le_of_ble_eq_true rfl,rfl⟩ rfl ?_;unfold Go.Proofs.Tryz.f40;push_cast (maxSteps:=mS))
 refine BrP.mk (fun h=>?_) (fun h=>?_)<;>try (push_cast (maxSteps:=mS) [h])
 ·have:¬ l.length=m.length:=by simp at h;omega
  simp [allF,this]
 ·have hlm:l.length=m.length:=by simp at h;omega
  simp only [allF,hlm,decide_true,Bool.true_and]
  refine LoopK.s1 (α:=Nat) [13] (fun k=>[i2 .i64 k]) (fun k=>k≤l.length∧sameRs (l.drop k) (m.drop k)=sameRs l m) (fun k=>l.length - k) 1000 0 ⟨by omega,rfl⟩ (by (try push_cast (maxSteps:=mS))) ?_
  rintro k ⟨hk,hc⟩
  by_cases hlt:k<l.length
  ·have hv:=List.getElem?_eq_getElem hlt
   have hlt2:k<m.length:=by omega
   have hv2:=List.getElem?_eq_getElem hlt2
   have hd:decide ((k:Int)<(m.length:Int))=true:=decide_eq_true (by omega)
   rw [drop_cons hv,drop_cons hv2] at hc;simp only [sameRs] at hc
   (try push_cast (maxSteps:=mS) [hd,getD_map hv,getD_map hv2])
   (refine DrawK.of (.take 0 (.take 1 (.take 2 (.take 3 (.take 4 (.take 5 (.take 6 (.take 7 (.one 8 (.take 9 .done)))))))))) 1000 (by decide +kernel) ?_;try (push_cast (maxSteps:=mS)))
   (try push_cast (maxSteps:=mS) [hd,getD_map hv,getD_map hv2])
   ((repeat' with_reducible refine And.intro ?_ ?_)<;>try exact sz)
   refine ⟨_,f59 l[k] m[k] (hr _ (List.getElem_mem hlt)) (hr' _ (List.getElem_mem hlt2)),rfl,?_⟩
   rw [show (decide (l[k].length=m[k].length) && sameL l[k] m[k])=sameR l[k] m[k] from rfl]
   (try push_cast (maxSteps:=mS))
   refine BrP.mk (fun h=>?_) (fun h=>?_)<;>try (push_cast (maxSteps:=mS) [h])
   ·rw [if_pos (by simpa using h)] at hc
    exact hc
   ·rw [if_neg (by simpa using h)] at hc
    ((repeat' with_reducible refine And.intro ?_ ?_)<;>try exact sz)
    refine ⟨k+1,⟨by omega,hc⟩,by omega,Le.st ?_⟩
    (try push_cast (maxSteps:=mS))
  ·have hd:decide ((k:Int)<(m.length:Int))=false:=decide_eq_false (by omega)
   rw [List.drop_eq_nil_of_le (by omega)] at hc;simp only [sameRs] at hc
   (try push_cast (maxSteps:=mS) [hd])
   exact hc
theorem f27 (l:List (List Vl)) (hl:okLen l) (hr:∀ r∈l,okLen r):Spec V 41 [.c (.d (.sl 1 (l.map eR)))] (.c (.d (.sl 1 (l.map eRR)))):=by
 (refine Spec.of_go (L:=lv2SA) 1000 Go.Proofs.Tryz.func41 rfl rfl ⟨Nat.le_of_ble_eq_true rfl,rfl⟩ rfl ?_;unfold Go.Proofs.Tryz.f41;push_cast (maxSteps:=mS))
 refine LoopK.le (Le.nil 3 39 1 (by decide) (by (try push_cast (maxSteps:=mS)))) ?_
 (try push_cast (maxSteps:=mS))
 refine LoopK.ov (α:=Nat) [8] (fun k=>[i2 .i64 k]) (fun k=>[.rw 39 1 ((l.take k).map eRR)]) (fun k=>k≤l.length) (fun k=>l.length - k) 1000 0 (by omega) (by (try push_cast (maxSteps:=mS))) ?_
 rintro k hk
 by_cases hlt:k<l.length
 ·have hv:=atT hlt;have hd:=ltT hlt
  have hlk:=hr _ (List.getElem_mem hlt)
  (try push_cast (maxSteps:=mS) [hd,getD_map hv])
  ((repeat' with_reducible refine And.intro ?_ ?_)<;>try exact sz)
  refine ⟨_,f24 l[k] hlk,rfl,?_⟩
  (try push_cast (maxSteps:=mS))
  have htk:(l.take k).length≤k:=List.length_take_le k l
  have hl':l.length≤1099511627776:=hl
  ((repeat' with_reducible refine And.intro ?_ ?_)<;>try exact sz)
  refine ⟨k+1,by omega,by omega,Le.st ?_⟩
  (try push_cast (maxSteps:=mS))
  rw [mapTake hv]
  (try push_cast (maxSteps:=mS))
  all_goals (first|rfl|trivial|skip)
  all_goals trace_state
 ·have hd:=geF hlt
  (try push_cast (maxSteps:=mS) [hd])
  rw [List.take_of_length_le (by omega)]
theorem f25 (n:Nd) (l:List Cl) (rows:List (List Vl)) (hn:okNd n) (hl:okCl l) (hr:okLen rows) (hrr:∀ r∈rows,okLen r) :
  Spec V 46 [.ag ((eN n).map .d),.c (.d (.sl 3 (l.map eC))),.c (.d (.sl 1 (rows.map eR)))] (.tu [.c (.d (.sl 1 ((selF n l rows).1.map eR))),i2 .i64 (selF n l rows).2]):=by
 (refine Spec.of_go (L:=fun|0=>some [1,2,3]|1=>some [1,2,3,8]|2=>some [1,2,3,8,18]|3=>some [6,7]|4=>some [1,2,3,20,21,22]|5=>some [1,2,3,20,21,22,23]|6=>some [1,2,3,10,20,21,22]|7=>some [1,2,3,20,21,22,30]|8=>some [6,7]|9=>some [1,2,3,20,21,22]|10=>some [1,2,3,11]|11=>some [1,3,11,32,33,34]|12=>some [1,3,11,32,33,34,35]|13=>some [1,3,11,13,32,33,34]|14=>some [1,3,11,13,32,33,34,41]|15=>some [1,3,11,32,33,34]|16=>some [1,3,11,32,33,34]|17=>some [6,7]|_=>none) 1000 Go.Proofs.Tryz.func46 rfl rfl ⟨Nat.le_of_ble_eq_true rfl,rfl⟩ rfl ?_;unfold Go.Proofs.Tryz.f46;push_cast (maxSteps:=mS))
 (have hS:=f15 n l hn hl;simp only [eS_eq,eN_eq,eV_eq,eRN_eq,eRV_eq,eC_eq,eRC_eq,List.map_cons,List.map_nil,i2,b2,s2] at hS;refine ⟨_,hS,rfl,?_⟩;clear hS;try (push_cast (maxSteps:=mS)))
 refine BrP.mk (fun h=>?_) (fun h=>?_)<;>try (push_cast (maxSteps:=mS) [h])
 ·have h':¬ checkF n l=0:=by simpa using h
  simp [selF,h']
 ·have hcz:checkF n l=0:=by simpa using h
  have hg:everyF n l=0:=check_every hcz
  refine LoopK.s1 (α:=Nat) [22] (fun k=>[i2 .i64 k]) (fun k=>k≤rows.length∧(rows.drop k).all (fun r=>decide (r.length=l.length))=wideF l rows) (fun k=>rows.length - k) 1000 0 ⟨by omega,rfl⟩ (by (try push_cast (maxSteps:=mS))) ?_
  rintro k ⟨hk,hc⟩
  by_cases hlt:k<rows.length
  ·have hv:=atT hlt;have hd:=ltT hlt
   rw [drop_cons hv] at hc
   simp only [List.all_cons] at hc
   (try push_cast (maxSteps:=mS) [hd,getD_map hv])
   ((repeat' with_reducible refine And.intro ?_ ?_)<;>try exact sz)
   refine BrP.mk (fun h=>?_) (fun h=>?_)<;>try (push_cast (maxSteps:=mS) [h])
   ·have h':¬ rows[k].length=l.length:=by simp at h;omega
    rw [decide_eq_false h',Bool.false_and] at hc
    have e:selF n l rows=([],10):=by simp [selF,hcz,← hc]
    rw [e]
    simp
   ·have h':rows[k].length=l.length:=by simp at h;omega
    rw [decide_eq_true h',Bool.true_and] at hc
    ((repeat' with_reducible refine And.intro ?_ ?_)<;>try exact sz)
    refine ⟨k+1,⟨by omega,hc⟩,by omega,Le.st ?_⟩
    (try push_cast (maxSteps:=mS))
  ·have hd:=geF hlt
   rw [List.drop_eq_nil_of_le (by omega)] at hc
   have hw:wideF l rows=true:=by rw [← hc];rfl
   have e:selF n l rows=(rows.filter fun r=>holdsF n l r,0):=by simp [selF,hcz,hw]
   rw [e]
   have hwd:∀ r∈rows,r.length=l.length:=fun r hr=>by
    have:=List.all_eq_true.1 hw r hr
    simpa using this
   (try push_cast (maxSteps:=mS) [hd])
   clear hc hd hlt hk
   refine LoopK.le (Le.nil 11 28 1 (by decide) (by (try push_cast (maxSteps:=mS)))) ?_
   (try push_cast (maxSteps:=mS))
   refine LoopK.ov (α:=Nat) [34] (fun k=>[i2 .i64 k]) (fun k=>[.bx 31 ((eN n).map .d),.rw 28 1 (((rows.take k).filter fun r=>holdsF n l r).map eR)]) (fun k=>k≤rows.length) (fun k=>rows.length - k) 1000 0 (by omega) (by (try push_cast (maxSteps:=mS))<;>first|rfl|simp) ?_
   rintro k hk
   by_cases hlt:k<rows.length
   ·have hv:=atT hlt;have hd:=ltT hlt
    have hwk:=hwd _ (List.getElem_mem hlt)
    have hrk:=hrr _ (List.getElem_mem hlt)
    (try push_cast (maxSteps:=mS) [hd,getD_map hv])
    ((repeat' with_reducible refine And.intro ?_ ?_)<;>try exact sz)
    (have hS:=f53 l rows[k] hl hwk _ n (Nat.le_refl _) hn hg;simp only [eS_eq,eN_eq,eV_eq,eRN_eq,eRV_eq,eC_eq,eRC_eq,List.map_cons,List.map_nil,i2,b2,s2] at hS;refine ⟨_,hS,rfl,?_⟩;clear hS;try (push_cast (maxSteps:=mS)))
    have hft:=filterTake (p:=fun r=>holdsF n l r) hv
    have htk:((rows.take k).filter fun r=>holdsF n l r).length≤k:=Nat.le_trans (List.length_filter_le _ _) (List.length_take_le _ _)
    have hl':rows.length≤1099511627776:=hr
    refine BrP.mk (fun h=>?_) (fun h=>?_)<;>try (push_cast (maxSteps:=mS) [h])
    ·refine ⟨_,f58 rows[k] hrk,rfl,?_⟩
     (try push_cast (maxSteps:=mS))
     ((repeat' with_reducible refine And.intro ?_ ?_)<;>try exact sz)
     refine ⟨k+1,by omega,by omega,Le.st ?_⟩
     rw [hft,if_pos h]
     (try push_cast (maxSteps:=mS))
     exact ⟨by simp [eR],rfl⟩
    ·((repeat' with_reducible refine And.intro ?_ ?_)<;>try exact sz)
     refine ⟨k+1,by omega,by omega,Le.st ?_⟩
     rw [hft,if_neg (by simp [h])]
     (try push_cast (maxSteps:=mS))
     all_goals first|rfl|exact ⟨by simp [eR],rfl⟩
   ·have hd:=geF hlt
    (try push_cast (maxSteps:=mS) [hd])
    rw [List.take_of_length_le (by omega)]
end Go.LS.Tryz
namespace Go.LS.Tryz
open Go Go.LS
set_option maxRecDepth 100000
set_option linter.unusedSimpArgs false
set_option linter.unusedVariables false
end Go.LS.Tryz
