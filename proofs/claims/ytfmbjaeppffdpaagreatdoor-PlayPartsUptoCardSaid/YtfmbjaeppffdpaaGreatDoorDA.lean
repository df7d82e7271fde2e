/- Part DA: 7 texts,one behind the other. -/
import Derived.Test.YtfmbjaeppffdpaaGreatDoorPD
import Derived.Test.YtfmbjaeppffdpaaGreatDoorSA
import Derived.Test.YtfmbjaeppffdpaaGreatDoorL
import Derived.KernelRfl
namespace Go.LS.Tryz
open Go Go.LS
set_option maxRecDepth 100000
@[push_cast] def lv0DA:Nat→Option (List Nat):=fun|0=>some [0,1]|1=>some [4]|_=>none
set_option linter.unusedSimpArgs false
set_option linter.unusedVariables false
def eJ (n:Nat):List DV:=[.v (.int .i64 n)]
@[push_cast] theorem eJ_eq (n:Nat):eJ n=[.v (.int .i64 n)]:=rfl
theorem d117 (bs:List UInt8) (i:Int) (hi:inK .i64 i) (hl:bs.length≤140000000000000):SpecA V 128 5 1 (bs.map bD) [i2 .i64 i,i2 .i64 10] ((bs++Lib.itoa i).map bD) :=
 appInt_spec (V:=V) Go.Proofs.Tryz.laysM176 (fun _ h=>h) ⟨_,Go.Proofs.Tryz.func128,rfl,rfl⟩ (by decide) bs i hi (by omega)
theorem strD_tru:strD { data:=#[116,114,117,101] }=truB.map bD:=rfl
theorem strD_fls:strD { data:=#[102,97,108,115,101] }=flsB.map bD:=rfl
theorem size_tru:({ data:=#[116,114,117,101] }:ByteArray).size=4:=rfl
theorem size_fls:({ data:=#[102,97,108,115,101] }:ByteArray).size=5:=rfl
theorem d134 (bs:List UInt8) (b:Bool) (hl:bs.length≤140000000000000):SpecA V 163 5 1 (bs.map bD) [b2 b] ((bs++if b then truB else flsB).map bD):=by
 (refine SpecA.of_go (L:=fun|0=>some [0,1]|1=>some [0,5]|2=>some [4]|3=>some [4]|_=>none) 1000 Go.Proofs.Tryz.func163 rfl rfl ⟨Nat.le_of_ble_eq_true rfl,rfl⟩ (by decide) ?_;unfold Go.Proofs.Tryz.f163;push_cast (maxSteps:=mS))
 refine BrP.mk (fun h=>?_) (fun h=>?_)<;>try (push_cast (maxSteps:=mS) [h])
 ·subst h
  refine ⟨by rw [size_tru];omega,?_⟩
  rw [strD_tru];simp
 ·subst h
  refine ⟨by rw [size_fls];omega,?_⟩
  rw [strD_fls];simp
theorem d118 (bs:List UInt8) (b:Bool) (hl:bs.length≤140000000000000):SpecA V 129 5 1 (bs.map bD) [b2 b] ((bs++if b then truB else flsB).map bD):=by
 have hS:=d134 bs b hl
 (refine SpecA.of_go (L:=lv0DA) 1000 Go.Proofs.Tryz.func129 rfl rfl ⟨Nat.le_of_ble_eq_true rfl,rfl⟩ (by decide) ?_;unfold Go.Proofs.Tryz.f129;push_cast (maxSteps:=mS))
 exact ⟨_,hS,rfl⟩
def idxN (x:Nat):List Nat→Int→Int
 | [],_=>-1
 | y::l,k=>if y=x then k else idxN x l (k+1)
theorem idxN_mem (x:Nat):∀ (l:List Nat) (k:Int),0≤k→decide (0≤idxN x l k)=decide (x∈l)
 | [],k,_=>by simp [idxN]
 | y::l,k,h=>by
  by_cases e:y=x
  ·subst e;simp [idxN,h]
  ·have ih:=idxN_mem x l (k+1) (by omega)
   have e1:idxN x (y::l) k=idxN x l (k+1):=by simp [idxN,e]
   simp only [e1,ih,List.mem_cons,Ne.symm e,false_or]
theorem d116 (l:List Nat) (x:Nat) (hl:okLen l):Spec V 126 [.c (.d (.sl 1 (l.map eJ))),i2 .i64 x] (i2 .i64 (idxN x l 0)):=by
 (refine Spec.of_go (L:=fun|0=>some [0,1]|1=>some [0,1,7,8]|2=>some [0,1,7,8,9]|3=>some [0,1,5,7,8]|4=>some [0,1,5,7,8,16]|5=>some [4]|6=>some [0,1,7,8]|7=>some [4]|_=>none) 1000 Go.Proofs.Tryz.func126 rfl rfl ⟨Nat.le_of_ble_eq_true rfl,rfl⟩ rfl ?_;unfold Go.Proofs.Tryz.f126;push_cast (maxSteps:=mS))
 refine LoopK.s1 (α:=Nat) [8] (fun k=>[i2 .i64 k]) (fun k=>k≤l.length∧idxN x (l.drop k) k=idxN x l 0) (fun k=>l.length - k) 1000 0 ⟨by omega,rfl⟩ (by (try push_cast (maxSteps:=mS))) ?_
 rintro k ⟨hk,hc⟩
 by_cases hlt:k<l.length
 ·have hv:=atT hlt;have hd:=ltT hlt
  rw [drop_cons hv] at hc;simp only [idxN] at hc
  (try push_cast (maxSteps:=mS) [hd,getD_map hv])
  (repeat ((with_reducible refine And.intro ?_ ?_);focus (first|trivial|omega|exact ix|exact inKu8 (by omega) (by omega))))
  refine BrP.mk (fun h=>?_) (fun h=>?_)<;>try (push_cast (maxSteps:=mS) [h])
  ·rw [if_pos (by have:=of_decide_eq_true h;omega)] at hc
   exact hc
  ·rw [if_neg (by have:=of_decide_eq_false h;omega)] at hc
   (repeat ((with_reducible refine And.intro ?_ ?_);focus (first|trivial|omega|exact ix|exact inKu8 (by omega) (by omega))))
   refine ⟨k+1,⟨by omega,hc⟩,by omega,Le.st ?_⟩
   (try push_cast (maxSteps:=mS))
 ·have hd:=geF hlt
  rw [List.drop_eq_nil_of_le (by omega)] at hc;simp only [idxN] at hc
  (try push_cast (maxSteps:=mS) [hd])
  exact hc
theorem d65 (l:List Nat) (x:Nat) (hl:okLen l):Spec V 90 [.c (.d (.sl 1 (l.map eJ))),i2 .i64 x] (b2 (decide (x∈l))):=by
 have hS:=d116 l x hl
 rw [← idxN_mem x l 0 (Int.le_refl 0)]
 (refine Spec.of_go (L:=lv0DA) 1000 Go.Proofs.Tryz.func90 rfl rfl ⟨Nat.le_of_ble_eq_true rfl,rfl⟩ rfl ?_;unfold Go.Proofs.Tryz.f90;push_cast (maxSteps:=mS))
 refine ⟨_,hS,rfl,?_⟩
 (try push_cast (maxSteps:=mS))
theorem tok_len (nul:List UInt8) {v:Vl} (h1:okVl v) (h2:inK .i64 v.n) (h3:nul.length≤1):(tokF nul v).length≤1099511627840:=by
 have h1':v.s.size≤1099511627776:=h1
 have hs:v.s.data.toList.length=v.s.size:=Array.length_toList
 have ha:=itoa_len (v.s.size:Int) (by omega) (by omega)
 have hb:=itoa_len v.n h2.1 h2.2
 unfold tokF
 split
 ·omega
 ·split
  ·simp only [List.length_cons,List.length_append];omega
  ·split
   ·simp only [List.length_cons,List.length_append,List.length_nil];omega
   ·split
    ·cases v.b<;>simp
    ·simp
theorem d126 (r:List Vl) (ps:List Nat) (hr:∀ v∈r,okVl v) (hn:∀ v∈r,inK .i64 v.n) (hp:ps.length≤64) (hlt:∀ p∈ps,p<r.length):Spec V 135 [.c (.d (.sl 4 (r.map eV))),.c (.d (.sl 1 (ps.map eJ)))] (s2 (markF [110] r ps)):=by
 (refine Spec.of_go (L:=fun|0=>some [0,1]|1=>some [0,1,5]|2=>some [0,5,9,10,11]|3=>some [0,5,9,10,11,12]|4=>some [0,5,7,9,10,11]|5=>some [0,5,8,9,10,11]|6=>some [0,5,8,9,10,11,20]|7=>some [0,5,8,9,10,11,20,21]|8=>some [0,5,9,10,11]|9=>some [0,5,8,9,10,11,20,26]|10=>some [0,5,8,9,10,11]|11=>some [0,5,8,9,10,11]|12=>some [0,5,8,9,10,11]|13=>some [0,5,9,10,11]|14=>some [0,5,8,9,10,11,20,43]|15=>some [0,5,8,9,10,11]|16=>some [0,5,9,10,11]|17=>some [0,5,9,10,11]|18=>some [0,5,8,9,10,11,55]|19=>some [0,5,8,9,10,11]|20=>some [0,5,9,10,11]|21=>some [0,5,9,10,11]|22=>some [0,5,9,10,11]|23=>some [4]|_=>none) 1000 Go.Proofs.Tryz.func135 rfl rfl ⟨Nat.le_of_ble_eq_true rfl,rfl⟩ rfl ?_;unfold Go.Proofs.Tryz.f135;push_cast (maxSteps:=mS))
 refine LoopK.le (Le.nil 5 5 1 (by decide) (by (try push_cast (maxSteps:=mS)))) ?_
 (try push_cast (maxSteps:=mS))
 refine LoopK.ov (α:=Nat) [11] (fun k=>[i2 .i64 k]) (fun k=>[.rw 5 1 ((toksF [110] r (ps.take k)).map bD)]) (fun k=>k≤ps.length∧(toksF [110] r (ps.take k)).length≤k*1099511627840) (fun k=>ps.length - k) 1000 0 ⟨by omega,by simp [toksF]⟩ (by (try push_cast (maxSteps:=mS));rfl) ?_
 rintro k ⟨hk,hlen⟩
 by_cases hlt':k<ps.length
 ·have hv:=List.getElem?_eq_getElem hlt'
  have hd:decide ((k:Int)<(ps.length:Int))=true:=decide_eq_true (by omega)
  have hpr:=hlt ps[k] (List.getElem_mem hlt')
  have hv2:=List.getElem?_eq_getElem hpr
  have hts:=toks_take_succ (nul:=[110]) (r:=r) hv
  rw [vAt_get hv2] at hts
  have hm:=List.getElem_mem hpr
  generalize r[ps[k]]=v at *
  have htl:=tok_len [110] (hr v hm) (hn v hm) (by simp)
  have hlen2:(toksF [110] r (ps.take (k+1))).length≤(k+1)*1099511627840:=by rw [hts,List.length_append];omega
  have hvs:v.s.size≤1099511627776:=hr v hm
  have hvn:=hn v hm
  generalize toksF [110] r (ps.take k)=bs at *
  (try push_cast (maxSteps:=mS) [hd,getD_map hv,getD_map hv2])
  ((repeat' with_reducible refine And.intro ?_ ?_)<;>try exact sz)
  refine BrP.mk (fun h=>?_) (fun h=>?_)<;>try (push_cast (maxSteps:=mS) [h])
  ·have hk0:=of_decide_eq_true h
   rw [tok_0 _ hk0] at hts
   (try push_cast (maxSteps:=mS))
   refine ⟨⟨.inl trivial,(by simp only [maxLen];omega),(by omega)⟩,inK64 (by omega) (by omega),k+1,⟨by omega,hlen2⟩,by omega,Le.st ?_⟩
   rw [hts]
   (try push_cast (maxSteps:=mS))
   simp
  ·have hk0:=of_decide_eq_false h
   (try push_cast (maxSteps:=mS))
   refine BrP.mk (fun h=>?_) (fun h=>?_)<;>try (push_cast (maxSteps:=mS) [h])
   ·have hk1:=of_decide_eq_true h
    rw [tok_1 _ hk1] at hts
    (try push_cast (maxSteps:=mS))
    ((repeat' with_reducible refine And.intro ?_ ?_)<;>try exact sz)
    have h117:=d117 (bs++[116]) v.s.size (inK64 (by omega) (by omega)) (by simp only [List.length_append,List.length_cons,List.length_nil];omega)
    have hil:=itoa_len (v.s.size:Int) (by omega) (by omega)
    refine ⟨_,(by have h:=h117;rw [List.map_append] at h;exact h),⟨.inl trivial,(by simp only [List.length_map,List.length_append,List.length_cons,List.length_nil,maxLen];omega),(by simp only [List.length_map,List.length_append,List.length_cons,List.length_nil];omega)⟩,(by simp only [List.length_map,List.length_append,List.length_cons,List.length_nil];omega),inK64 (by omega) (by omega),k+1,⟨by omega,hlen2⟩,by omega,Le.st ?_⟩
    rw [hts]
    (try push_cast (maxSteps:=mS))
    simp [strD_map]
   ·have hk1:=of_decide_eq_false h
    (try push_cast (maxSteps:=mS))
    refine BrP.mk (fun h=>?_) (fun h=>?_)<;>try (push_cast (maxSteps:=mS) [h])
    ·have hk2:=of_decide_eq_true h
     rw [tok_2 _ hk2] at hts
     (try push_cast (maxSteps:=mS))
     ((repeat' with_reducible refine And.intro ?_ ?_)<;>try exact sz)
     have h117:=d117 (bs++[105]) v.n hvn (by simp only [List.length_append,List.length_cons,List.length_nil];omega)
     have hil:=itoa_len v.n hvn.1 hvn.2
     refine ⟨_,(by have h:=h117;rw [List.map_append] at h;exact h),⟨.inl trivial,(by simp only [List.length_map,List.length_append,List.length_cons,List.length_nil,maxLen];omega),(by simp only [List.length_map,List.length_append,List.length_cons,List.length_nil];omega)⟩,inK64 (by omega) (by omega),k+1,⟨by omega,hlen2⟩,by omega,Le.st ?_⟩
     rw [hts]
     (try push_cast (maxSteps:=mS))
     simp
    ·have hk2:=of_decide_eq_false h
     (try push_cast (maxSteps:=mS))
     refine BrP.mk (fun h=>?_) (fun h=>?_)<;>try (push_cast (maxSteps:=mS) [h])
     ·have hk3:=of_decide_eq_true h
      rw [tok_3 _ hk3] at hts
      (try push_cast (maxSteps:=mS))
      ((repeat' with_reducible refine And.intro ?_ ?_)<;>try exact sz)
      have h118:=d118 (bs++[98]) v.b (by simp only [List.length_append,List.length_cons,List.length_nil];omega)
      have hil:(if v.b then truB else flsB).length≤5:=by cases v.b<;>simp
      refine ⟨_,(by have h:=h118;rw [List.map_append] at h;exact h),⟨.inl trivial,(by simp only [List.length_map,List.length_append,List.length_cons,List.length_nil,maxLen];omega),(by simp only [List.length_map,List.length_append,List.length_cons,List.length_nil];omega)⟩,inK64 (by omega) (by omega),k+1,⟨by omega,hlen2⟩,by omega,Le.st ?_⟩
      rw [hts]
      (try push_cast (maxSteps:=mS))
      simp
     ·have hk3:=of_decide_eq_false h
      have e0:tokF [110] v=[]:=by simp [tokF,hk0,hk1,hk2,hk3]
      rw [e0,List.append_nil] at hts
      (try push_cast (maxSteps:=mS))
      refine ⟨inK64 (by omega) (by omega),k+1,⟨by omega,hlen2⟩,by omega,Le.st ?_⟩
      rw [hts]
      (try push_cast (maxSteps:=mS))
 ·have hd:decide ((k:Int)<(ps.length:Int))=false:=decide_eq_false (by omega)
  (try push_cast (maxSteps:=mS) [hd,numsOf_map,okNums_map,strN_map])
  rw [List.take_of_length_le (by omega)]
  rfl
theorem names56 (l:List Cl) (hl:okLen l):Spec V 55 [.c (.d (.sl 3 (l.map eRC)))] (.c (.d (.sl 1 ((namesN l).map eS)))):=by
 have hS:=f56 l hl
 rw [show (l.map fun c=>eS c.name)=(namesN l).map eS by rw [namesN,List.map_map];rfl] at hS
 exact hS
theorem d20 (t:Tb) (ht:okT0 t):Spec V 22 [.ag ((eT t).map .d)] (.ag ((eRT t).map .d)):=by
 obtain ⟨L,R⟩:=t
 have h23:=f18 L ht.l.1
 have h41:=f27 R ht.r (fun r hr=>(ht.v r hr).1)
 (refine Spec.of_go (L:=fun|0=>some [1,2]|1=>some [2]|_=>none) 1000 Go.Proofs.Tryz.func22 rfl rfl ⟨Nat.le_of_ble_eq_true rfl,rfl⟩ rfl ?_;unfold Go.Proofs.Tryz.f22;push_cast (maxSteps:=mS))
 (refine DrawK.of (.take 0 (.take 1 (.take 3 (.take 4 (.one 2 (.one 5 (.take 6 (.one 7 .done)))))))) 1000 (by decide +kernel) ?_;try (push_cast (maxSteps:=mS)))
 refine ⟨_,h23,rfl,?_⟩
 (try push_cast (maxSteps:=mS))
 refine ⟨_,h41,rfl,?_⟩
 (try push_cast (maxSteps:=mS))
theorem d58 (t:Tb) (ht:okT0 t):Spec V 32 [.ag ((eT t).map .d)] (b2 (fewT t)):=by
 obtain ⟨l,r⟩:=t
 obtain ⟨hl,hr,hvr⟩:=ht
 simp only at hl hr hvr
 have hrl:r.length≤1099511627776:=hr
 (refine Spec.of_go (L:=fun|0=>some [1]|1=>some [1,16]|2=>some [2]|3=>some [18,19,20]|4=>some [18,19,20,21]|5=>some [4,18,19,20]|6=>some [18,19,20,24,25,26]|7=>some [18,19,20,24,25,26,27]|8=>some [6,18,19,20,24,25,26]|9=>some [18,19,20,24,25,26,33]|10=>some [2]|11=>some [18,19,20,24,25,26]|12=>some [18,19,20]|13=>some [2]|_=>none) 1000 Go.Proofs.Tryz.func32 rfl rfl ⟨Nat.le_of_ble_eq_true rfl,rfl⟩ rfl ?_;unfold Go.Proofs.Tryz.f32;push_cast (maxSteps:=mS))
 refine ⟨_,f13 l hl.1,rfl,?_⟩
 (try push_cast (maxSteps:=mS))
 cases hL:(!longC l && decide (l.length≤12)) with
 | false =>
  have hz:fewT ⟨l,r⟩=false:=by simp only [fewT];rw [hL];rfl
  (try push_cast (maxSteps:=mS))
  exact hz.symm
 | true =>
  (try push_cast (maxSteps:=mS))
  refine ⟨_,f19 r hr (fun x hx=>(hvr x hx).1),rfl,?_⟩
  (try push_cast (maxSteps:=mS))
  cases hs:smallF r with
  | false =>
   have hz:fewT ⟨l,r⟩=false:=by simp only [fewT];rw [hs];simp
   (try push_cast (maxSteps:=mS))
   exact hz.symm
  | true =>
   have hz:fewT ⟨l,r⟩=r.all fun r=>r.all rightF:=by simp only [fewT];rw [hL,hs];simp
   (try push_cast (maxSteps:=mS))
   rw [hz]
   refine LoopK.s1 (α:=Nat) [20] (fun j=>[i2 .i64 j]) (fun j=>j≤r.length∧(r.drop j).all (fun r=>r.all rightF)=r.all fun r=>r.all rightF) (fun j=>r.length - j) 1000 0 ⟨by omega,rfl⟩ (by (try push_cast (maxSteps:=mS))) ?_
   rintro j ⟨hj,hc⟩
   by_cases hlt:j<r.length
   ·have hv:=atT hlt;have hd:=ltT hlt
    rw [drop_cons hv] at hc
    simp only [List.all_cons] at hc
    have hrow:=hvr _ (List.getElem_mem hlt)
    generalize r[j]=row at *
    have hrw:row.length≤1099511627776:=hrow.1
    (try push_cast (maxSteps:=mS) [hd,getD_map hv])
    ((repeat' with_reducible refine And.intro ?_ ?_)<;>try exact sz)
    refine LoopK.s1 (α:=Nat) [26] (fun i=>[i2 .i64 i]) (fun i=>i≤row.length∧(row.drop i).all rightF=row.all rightF) (fun i=>row.length - i) 1000 0 ⟨by omega,rfl⟩ (by (try push_cast (maxSteps:=mS))) ?_
    rintro i ⟨hi,hc2⟩
    by_cases hlt2:i<row.length
    ·have hv2:=List.getElem?_eq_getElem hlt2
     have hd2:decide ((i:Int)<(row.length:Int))=true:=decide_eq_true (by omega)
     rw [drop_cons hv2] at hc2
     simp only [List.all_cons] at hc2
     have hvl:=hrow.2 _ (List.getElem_mem hlt2)
     generalize row[i]=v at *
     (try push_cast (maxSteps:=mS) [hd2,getD_map hv2])
     ((repeat' with_reducible refine And.intro ?_ ?_)<;>try exact sz)
     (have hS:=f22 v;simp only [eS_eq,eN_eq,eV_eq,eRN_eq,eRV_eq,eC_eq,eRC_eq,List.map_cons,List.map_nil,i2,b2,s2] at hS;refine ⟨_,hS,rfl,?_⟩;clear hS;try (push_cast (maxSteps:=mS)))
     (have hS:=f21 v hvl.1;simp only [eS_eq,eN_eq,eV_eq,eRN_eq,eRV_eq,eC_eq,eRC_eq,List.map_cons,List.map_nil,i2,b2,s2] at hS;refine ⟨_,hS,rfl,?_⟩;clear hS;try (push_cast (maxSteps:=mS)))
     refine BrP.mk (fun h=>?_) (fun h=>?_)<;>try (push_cast (maxSteps:=mS) [h])
     ·have hw:rightF v=false:=by simpa using h
      rw [hw,Bool.false_and] at hc2
      rw [← hc2,Bool.false_and] at hc
      exact hc
     ·have hw:rightF v=true:=by simpa using h
      rw [hw,Bool.true_and] at hc2
      ((repeat' with_reducible refine And.intro ?_ ?_)<;>try exact sz)
      refine ⟨i+1,⟨by omega,hc2⟩,by omega,Le.st ?_⟩
      (try push_cast (maxSteps:=mS))
      all_goals rfl
    ·have hd2:decide ((i:Int)<(row.length:Int))=false:=decide_eq_false (by omega)
     rw [List.drop_eq_nil_of_le (by omega),List.all_nil] at hc2
     rw [← hc2,Bool.true_and] at hc
     (try push_cast (maxSteps:=mS) [hd2])
     ((repeat' with_reducible refine And.intro ?_ ?_)<;>try exact sz)
     refine ⟨j+1,⟨by omega,hc⟩,by omega,Le.st ?_⟩
     (try push_cast (maxSteps:=mS))
   ·have hd:=geF hlt
    rw [List.drop_eq_nil_of_le (by omega),List.all_nil] at hc
    (try push_cast (maxSteps:=mS) [hd])
    exact hc
end Go.LS.Tryz
namespace Go.LS.Tryz
open Go Go.LS
set_option maxRecDepth 100000
set_option linter.unusedSimpArgs false
set_option linter.unusedVariables false
def sId:ByteArray:={ data:=#[105,100] }
def sS:ByteArray:={ data:=#[115] }
def sX:ByteArray:={ data:=#[120] }
def sY:ByteArray:={ data:=#[121] }
def sZ:ByteArray:={ data:=#[122] }
def sQ:ByteArray:={ data:=#[113] }
def awRow (n:Int) (s:ByteArray):List Vl:=[⟨2,ByteArray.empty,n,false⟩,⟨1,s,0,false⟩]
def awCols:List Cl:=[⟨sId,2,false⟩,⟨sS,1,false⟩]
def awA:Tb:=⟨awCols,[awRow 1 sX,awRow 2 sY]⟩
def awB:Tb:=⟨awCols,[awRow 2 sZ,awRow 3 sQ]⟩
end Go.LS.Tryz
namespace Go.LS.Tryz
open Go Go.LS
set_option maxRecDepth 100000
set_option linter.unusedSimpArgs false
set_option linter.unusedVariables false
end Go.LS.Tryz
namespace Go.LS.Tryz
open Go Go.LS
set_option maxRecDepth 100000
set_option linter.unusedSimpArgs false
set_option linter.unusedVariables false
theorem d22 (l m:List Cl) (hl:okLen l) (hm:okLen m):Spec V 30 [.c (.d (.sl 3 (l.map eRC))),.c (.d (.sl 3 (m.map eRC)))] (b2 (sameCs l m)):=by
 unfold sameCs
 (refine Spec.of_go (L:=fun|0=>some [0,1]|1=>some [0,1,10]|2=>some [4]|3=>some [0,1,12,13]|4=>some [0,1,12,13,14]|5=>some [0,1,5,12,13]|6=>some [0,1,12,13,24]|7=>some [4]|8=>some [0,1,12,13]|9=>some [4]|_=>none) 1000 Go.Proofs.Tryz.func30 rfl rfl ⟨Nat.le_of_ble_eq_true rfl,rfl⟩ rfl ?_;unfold Go.Proofs.Tryz.f30;push_cast (maxSteps:=mS))
 refine BrP.mk (fun h=>?_) (fun h=>?_)<;>try (push_cast (maxSteps:=mS) [h])
 ·have:¬ l.length=m.length:=by simp at h;omega
  simp [this]
 ·have hlm:l.length=m.length:=by simp at h;omega
  simp only [hlm,decide_true,Bool.true_and]
  refine LoopK.s1 (α:=Nat) [13] (fun k=>[i2 .i64 k]) (fun k=>k≤l.length∧sameCL (l.drop k) (m.drop k)=sameCL l m) (fun k=>l.length - k) 1000 0 ⟨by omega,rfl⟩ (by (try push_cast (maxSteps:=mS))) ?_
  rintro k ⟨hk,hc⟩
  by_cases hlt:k<l.length
  ·have hv:=List.getElem?_eq_getElem hlt
   have hlt2:k<m.length:=by omega
   have hv2:=List.getElem?_eq_getElem hlt2
   have hd:decide ((k:Int)<(m.length:Int))=true:=decide_eq_true (by omega)
   rw [drop_cons hv,drop_cons hv2] at hc;simp only [sameCL] at hc
   (try push_cast (maxSteps:=mS) [hd,getD_map hv,getD_map hv2])
   (refine DrawK.of (.take 0 (.take 1 (.take 2 (.take 3 (.take 4 (.take 5 (.take 6 (.take 7 (.take 8 .done))))))))) 1000 (by decide +kernel) ?_;try (push_cast (maxSteps:=mS)))
   (try push_cast (maxSteps:=mS) [hd,getD_map hv,getD_map hv2])
   (repeat ((with_reducible refine And.intro ?_ ?_);focus (first|trivial|omega|exact ix|exact inKu8 (by omega) (by omega))))
   have hf:=sameC_r l[k] m[k]
   rw [hf]
   refine BrP.mk (fun h=>?_) (fun h=>?_)<;>try (push_cast (maxSteps:=mS) [h])
   ·rw [if_pos (by simpa using h)] at hc
    exact hc
   ·rw [if_neg (by simpa using h)] at hc
    (repeat ((with_reducible refine And.intro ?_ ?_);focus (first|trivial|omega|exact ix|exact inKu8 (by omega) (by omega))))
    refine ⟨k+1,⟨by omega,hc⟩,by omega,Le.st ?_⟩
    (try push_cast (maxSteps:=mS))
  ·have hd:decide ((k:Int)<(m.length:Int))=false:=decide_eq_false (by omega)
   rw [List.drop_eq_nil_of_le (by omega)] at hc;simp only [sameCL] at hc
   (try push_cast (maxSteps:=mS) [hd])
   exact hc
end Go.LS.Tryz
