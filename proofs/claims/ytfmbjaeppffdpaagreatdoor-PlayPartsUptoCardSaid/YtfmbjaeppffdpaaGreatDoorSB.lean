/- Part SB: 13 texts,one behind the other. -/
import Derived.Test.YtfmbjaeppffdpaaGreatDoorSA
import Derived.Test.YtfmbjaeppffdpaaGreatDoorPA
import Derived.Test.YtfmbjaeppffdpaaGreatDoorPK
import Derived.KernelRfl
namespace Go.LS.Tryz
open Go Go.LS
set_option maxRecDepth 100000
@[push_cast] def lv0SB:Nat→Option (List Nat):=fun|0=>some [0,1,2,3,8]|1=>some [0,1,2,3,8,14]|2=>some [0,1,2,3,8]|3=>some [0,1,2,3,8,9]|4=>some [0,1,2,3,8,9,34]|5=>some [0,1,2,3,8,9]|6=>some [0,1,2,3,8,9]|_=>none
@[push_cast] def lv1SB:Nat→Option (List Nat):=fun|0=>some [0,1,2,6]|1=>some [0,1,2,6,7,8]|2=>some [0,1,2,6,7,8,13]|3=>some [0,1,2,6,8]|4=>some [0,1,2,6,7,8]|5=>some [0,1,2,6,7,8]|6=>some [0,1,2,6]|7=>some [0,1,2,6,30]|8=>some [0,1,2,6,7,8]|9=>some [0,1,2,6,7,8,35]|10=>some [0,1,2,6,8]|11=>some [0,1,2,6,7,8]|12=>some [0,1,2,6,7,8]|13=>some [0,1,2,6,7,9]|14=>some [0,1,2,6,7,9,54]|15=>some [0,1,2,6]|16=>some [0,1,2,6]|_=>none
@[push_cast] def lv2SB:Nat→Option (List Nat):=fun|0=>some [0]|1=>some [0,3]|2=>some [3,6,7,8]|3=>some [3,6,7,8,9]|4=>some [3,5,6,7,8]|5=>some [3,6,7,8]|6=>some [3,6,7,8]|7=>some [2]|_=>none
@[push_cast] def lv3SB:Nat→Option (List Nat):=fun|0=>some []|_=>none
set_option linter.unusedSimpArgs false
set_option linter.unusedVariables false
theorem f67 (p:List Pl) (a b:List Vl) (hl:okLen p) (ha:∀ x∈p,x.at_<a.length) (hb:∀ x∈p,x.at_<b.length):Spec V 88 [.c (.d (.sl 2 (p.map eP))),.c (.d (.sl 4 (a.map eV))),.c (.d (.sl 4 (b.map eV)))] (i2 .i64 (ordF p a b)):=by
 (refine Spec.of_go (L:=fun|0=>some [0,1,2]|1=>some [1,2,10,11,12]|2=>some [1,2,10,11,12,13]|3=>some [1,2,8,10,11,12]|4=>some [1,2,8,9,10,11,12]|5=>some [1,2,8,9,10,11,12,28]|6=>some [9,30]|7=>some [6]|8=>some [6]|9=>some [1,2,10,11,12]|10=>some [6]|_=>none) 1000 Go.Proofs.Tryz.func88 rfl rfl ⟨Nat.le_of_ble_eq_true rfl,rfl⟩ rfl ?_;unfold Go.Proofs.Tryz.f88;push_cast (maxSteps:=mS))
 refine LoopK.s1 (α:=Nat) [12] (fun k=>[i2 .i64 k]) (fun k=>k≤p.length∧ordF (p.drop k) a b=ordF p a b) (fun k=>p.length - k) 1000 0 ⟨by omega,rfl⟩ (by (try push_cast (maxSteps:=mS))) ?_
 rintro k ⟨hk,hc⟩
 by_cases hlt:k<p.length
 ·have hv:=atT hlt;have hd:=ltT hlt
  rw [drop_cons hv] at hc
  simp only [ordF] at hc
  have hak:=ha _ (List.getElem_mem hlt)
  have hbk:=hb _ (List.getElem_mem hlt)
  have hga:=getD_row hak
  have hgb:=getD_row hbk
  have hbd:=cmp_bd (a.getD p[k].at_ vl0) (b.getD p[k].at_ vl0)
  (try push_cast (maxSteps:=mS) [hd,getD_map hv])
  ((repeat' with_reducible refine And.intro ?_ ?_)<;>try exact sz)
  (refine DrawK.of (.take 0 (.take 1 (.take 2 (.take 3 (.take 4 (.take 5 (.take 6 (.take 7 (.take 8 (.take 9 (.one 10 (.take 11 .done)))))))))))) 1000 (by decide +kernel) ?_;try (push_cast (maxSteps:=mS)))
  (try push_cast (maxSteps:=mS) [hga,hgb])
  ((repeat' with_reducible refine And.intro ?_ ?_)<;>try exact sz)
  (try push_cast (maxSteps:=mS) [hga,hgb])
  ((repeat' with_reducible refine And.intro ?_ ?_)<;>try exact sz)
  (have hS:=f75 (a.getD p[k].at_ vl0) (b.getD p[k].at_ vl0);simp only [eS_eq,eN_eq,eV_eq,eRN_eq,eRV_eq,eC_eq,eRC_eq,List.map_cons,List.map_nil,i2,b2,s2] at hS;refine ⟨_,hS,rfl,?_⟩;clear hS;try (push_cast (maxSteps:=mS)))
  generalize cmpF (a.getD p[k].at_ vl0) (b.getD p[k].at_ vl0)=C at *
  refine BrP.mk (fun h=>?_) (fun h=>?_)<;>try (push_cast (maxSteps:=mS) [h])
  ·have h':C=0:=by simpa using h
   rw [if_pos h'] at hc
   ((repeat' with_reducible refine And.intro ?_ ?_)<;>try exact sz)
   refine ⟨k+1,⟨by omega,hc⟩,by omega,Le.st ?_⟩
   (try push_cast (maxSteps:=mS))
  ·have h':¬ C=0:=by simpa using h
   rw [if_neg h'] at hc
   refine BrP.mk (fun h=>?_) (fun h=>?_)<;>try (push_cast (maxSteps:=mS) [h])
   ·rw [if_pos h] at hc
    ((repeat' with_reducible refine And.intro ?_ ?_)<;>try exact sz)
    all_goals first|exact hc|(simp only [inK];omega)|trace_state
   ·rw [if_neg (by simp [h])] at hc
    exact hc
 ·have hd:=geF hlt
  rw [List.drop_eq_nil_of_le (by omega)] at hc
  (try push_cast (maxSteps:=mS) [hd])
  exact hc
theorem f66 (p:List Pl) (a b:List Vl) (hl:okLen p) (ha:∀ x∈p,x.at_<a.length) (hb:∀ x∈p,x.at_<b.length) :
  Spec V 87 [.c (.d (.sl 4 (a.map eV))),.c (.d (.sl 4 (b.map eV))),.c (.d (.at_ [.sl 2 (p.map eP)]))] (i2 .i64 (ordF p a b)):=by
 (refine Spec.of_go (L:=fun|0=>some [0,1,2]|1=>some [5]|_=>none) 1000 Go.Proofs.Tryz.func87 rfl rfl ⟨Nat.le_of_ble_eq_true rfl,rfl⟩ rfl ?_;unfold Go.Proofs.Tryz.f87;push_cast (maxSteps:=mS))
 refine ⟨_,f67 p a b hl ha hb,rfl,?_⟩
 (try push_cast (maxSteps:=mS))
theorem f32 (ks:List Ky) (l:List Cl) (hk:okLen ks) (hl:okCl l):Spec V 124 [.c (.d (.sl 2 (ks.map eK))),.c (.d (.sl 3 (l.map eC)))] (.tu [i2 .i64 ((ordC ks l).1:Int),i2 .i64 (ordC ks l).2]):=by
 (refine Spec.of_go (L:=fun|0=>some [0,1]|1=>some [0,1,7]|2=>some [0,1,7,20]|3=>some [4,5]|4=>some [0,1,8]|5=>some [0,1,8,23,24,25]|6=>some [0,1,8,23,24,25,26]|7=>some [0,1,8,9,10,23,24,25]|8=>some [0,1,8,9,10,13,23,24,25]|9=>some [0,1,8,9,10,23,24,25,39]|10=>some [4,5]|11=>some [0,1,8,9,10,23,24,25,44]|12=>some [4,5]|13=>some [0,1,8,23,24,25]|14=>some [0,1,8,23,24,25]|15=>some [4,5]|_=>none) 1000 Go.Proofs.Tryz.func124 rfl rfl ⟨Nat.le_of_ble_eq_true rfl,rfl⟩ rfl ?_;unfold Go.Proofs.Tryz.f124;push_cast (maxSteps:=mS))
 refine ⟨_,f47 l hl,rfl,?_⟩
 (try push_cast (maxSteps:=mS))
 refine BrP.mk (fun h=>?_) (fun h=>?_)<;>try (push_cast (maxSteps:=mS) [h])
 ·have h':¬ (checkC l).2=0:=by simpa using h
  simp [ordC,h']
 ·have h':(checkC l).2=0:=by simpa using h
  have e:ordC ks l=ocF l [] ks 0:=by simp [ordC,h']
  rw [e]
  refine LoopK.ov (α:=Nat × List ByteArray) [25] (fun x=>[i2 .i64 x.1]) (fun x=>[.mp (truS x.2)]) (fun x=>x.1≤ks.length∧ocF l x.2 (ks.drop x.1) x.1=ocF l [] ks 0) (fun x=>ks.length - x.1) 1000 (0,[]) ⟨by omega,rfl⟩ (by (try push_cast (maxSteps:=mS))<;>rfl) ?_
  rintro ⟨k,seen⟩ ⟨hk,hc⟩
  simp only at hk hc
  by_cases hlt:k<ks.length
  ·have hv:=atT hlt;have hd:=ltT hlt
   rw [drop_cons hv] at hc;simp only [ocF] at hc
   (try push_cast (maxSteps:=mS) [hd,getD_map hv])
   ((repeat' with_reducible refine And.intro ?_ ?_)<;>try exact sz)
   refine ⟨_,f62 l ks[k].col hl.1,rfl,?_⟩
   (try push_cast (maxSteps:=mS))
   refine BrP.mk (fun h=>?_) (fun h=>?_)<;>try (push_cast (maxSteps:=mS) [h])
   ·rw [if_pos (by simpa using h)] at hc
    simp [← hc]
   ·rw [if_neg (by simpa using h)] at hc
    refine BrP.mk (fun h=>?_) (fun h=>?_)<;>try (push_cast (maxSteps:=mS) [h])
    ·rw [if_pos h] at hc
     simp [← hc]
    ·rw [if_neg (by simp [h])] at hc
     ((repeat' with_reducible refine And.intro ?_ ?_)<;>try exact sz)
     refine ⟨(k+1,seen++[ks[k].col]),⟨by simp only;omega,hc⟩,by simp only;omega,Le.st ?_⟩
     (try push_cast (maxSteps:=mS))
     exact mset_truS _ _ h
  ·have hd:=geF hlt
   rw [List.drop_eq_nil_of_le (by omega)] at hc;simp only [ocF] at hc
   (try push_cast (maxSteps:=mS) [hd])
   have:k=ks.length:=by omega
   subst this
   simp [← hc]
theorem f33 (ks:List Ky) (l:List Cl) (hk:okLen ks) (hl:okCl l):Spec V 58 [.c (.d (.sl 2 (ks.map eRK))),.c (.d (.sl 3 (l.map eRC)))] (.tu [i2 .i64 ((ordC ks l).1:Int),i2 .i64 (ordC ks l).2]):=by
 have hS:=f56 l hl.1
 rw [show (l.map fun c=>eS c.name)=(l.map (·.name)).map eS by rw [List.map_map];rfl] at hS
 (refine Spec.of_go (L:=fun|0=>some [0,1]|1=>some [0,1,7]|2=>some [0,1,7,17]|3=>some [4,5]|4=>some [0,1,8]|5=>some [0,1,8,19,20,21]|6=>some [0,1,8,19,20,21,22]|7=>some [0,1,8,9,10,19,20,21]|8=>some [0,1,8,9,10,19,20,21,31]|9=>some [4,5]|10=>some [0,1,8,9,10,19,20,21,37]|11=>some [4,5]|12=>some [0,1,8,19,20,21]|13=>some [0,1,8,19,20,21]|14=>some [4,5]|_=>none) 1000 Go.Proofs.Tryz.func58 rfl rfl ⟨Nat.le_of_ble_eq_true rfl,rfl⟩ rfl ?_;unfold Go.Proofs.Tryz.f58;push_cast (maxSteps:=mS))
 refine ⟨_,f50 l hl,rfl,?_⟩
 (try push_cast (maxSteps:=mS))
 refine BrP.mk (fun h=>?_) (fun h=>?_)<;>try (push_cast (maxSteps:=mS) [h])
 ·have h':¬ (checkC l).2=0:=by simpa using h
  simp [ordC,h']
 ·have h':(checkC l).2=0:=by simpa using h
  have e:ordC ks l=ocF l [] ks 0:=by simp [ordC,h']
  rw [e]
  refine LoopK.le (Le.nil 8 9 1 (by decide) (by (try push_cast (maxSteps:=mS)))) ?_
  (try push_cast (maxSteps:=mS))
  refine LoopK.ov (α:=Nat) [21] (fun k=>[i2 .i64 k]) (fun k=>[.rw 9 1 (((ks.take k).map (·.col)).map eS)]) (fun k=>k≤ks.length∧ocF l ((ks.take k).map (·.col)) (ks.drop k) k=ocF l [] ks 0) (fun k=>ks.length - k) 1000 0 ⟨by omega,rfl⟩ (by (try push_cast (maxSteps:=mS))<;>first|rfl|simp) ?_
  rintro k ⟨hk',hc⟩
  have hkl:ks.length≤1099511627776:=hk
  by_cases hlt:k<ks.length
  ·have hv:=atT hlt;have hd:=ltT hlt
   rw [drop_cons hv] at hc;simp only [ocF] at hc
   have htk:((ks.take k).map (·.col)).length≤k:=by rw [List.length_map];exact List.length_take_le _ _
   have htl:(ks.take k).length≤k:=List.length_take_le _ _
   have hfa:=(find_at ks[k].col l 0).1
   (try push_cast (maxSteps:=mS) [hd,getD_map hv])
   ((repeat' with_reducible refine And.intro ?_ ?_)<;>try exact sz)
   (refine DrawK.of (.take 0 (.take 2 (.take 3 (.one 1 (.one 4 (.take 5 .done)))))) 1000 (by decide +kernel) ?_;try (push_cast (maxSteps:=mS)))
   refine ⟨_,hS,rfl,?_⟩
   (try push_cast (maxSteps:=mS))
   refine ⟨_,f55 (l.map (·.name)) ks[k].col (by simpa only [okLen,List.length_map] using hl.1),rfl,?_⟩
   (try push_cast (maxSteps:=mS))
   refine BrP.mk (fun h=>?_) (fun h=>?_)<;>try (push_cast (maxSteps:=mS) [h])
   ·rw [if_pos (by rw [hfa];simp at h ⊢;omega)] at hc
    simp [← hc]
   ·rw [if_neg (by rw [hfa];simp at h ⊢;omega)] at hc
    refine ⟨_,f55 ((ks.take k).map (·.col)) ks[k].col (by simp only [okLen];omega),rfl,?_⟩
    (try push_cast (maxSteps:=mS))
    have hm:=atF_memB ks[k].col ((ks.take k).map (·.col))
    simp only [hm]
    refine BrP.mk (fun h=>?_) (fun h=>?_)<;>try (push_cast (maxSteps:=mS) [h])
    ·rw [if_pos h] at hc
     simp [← hc]
    ·rw [if_neg (by rw [h];decide)] at hc
     ((repeat' with_reducible refine And.intro ?_ ?_)<;>try exact sz)
     refine ⟨k+1,⟨by omega,by rw [mapTake hv];exact hc⟩,by omega,Le.st ?_⟩
     rw [mapTake hv]
     (try push_cast (maxSteps:=mS))
     all_goals simp [eS]
  ·have hd:=geF hlt
   rw [List.drop_eq_nil_of_le (by omega)] at hc;simp only [ocF] at hc
   (try push_cast (maxSteps:=mS) [hd])
   have:k=ks.length:=by omega
   subst this
   simp [← hc]
theorem f34 (ks:List Ky) (hk:okLen ks):Spec V 68 [.c (.d (.sl 2 (ks.map eK)))] (.c (.d (.sl 2 (ks.map eRK)))):=by
 (refine Spec.of_go (L:=fun|0=>some [0]|1=>some [0,3]|2=>some [3,7,8,9]|3=>some [3,7,8,9,10]|4=>some [3,5,7,8,9]|5=>some [3,5,6,7,8,9]|6=>some [3,6,7,8,9,17]|7=>some [3,6,7,8,9]|8=>some [3,7,8,9]|9=>some [3,7,8,9]|10=>some [2]|_=>none) 1000 Go.Proofs.Tryz.func68 rfl rfl ⟨Nat.le_of_ble_eq_true rfl,rfl⟩ rfl ?_;unfold Go.Proofs.Tryz.f68;push_cast (maxSteps:=mS))
 refine LoopK.le (Le.nil 3 190 2 (by decide) (by (try push_cast (maxSteps:=mS)))) ?_
 (try push_cast (maxSteps:=mS))
 refine LoopK.ov (α:=Nat) [9] (fun k=>[i2 .i64 k]) (fun k=>[.rw 190 2 ((ks.take k).map eRK)]) (fun k=>k≤ks.length) (fun k=>ks.length - k) 1000 0 (by omega) (by (try push_cast (maxSteps:=mS))<;>first|rfl|simp) ?_
 rintro k hk'
 have hkl:ks.length≤1099511627776:=hk
 by_cases hlt:k<ks.length
 ·have hv:=atT hlt;have hd:=ltT hlt
  have htl:(ks.take k).length≤k:=List.length_take_le _ _
  (try push_cast (maxSteps:=mS) [hd,getD_map hv])
  ((repeat' with_reducible refine And.intro ?_ ?_)<;>try exact sz)
  refine BrP.mk (fun h=>?_) (fun h=>?_)<;>try (push_cast (maxSteps:=mS) [h])
  all_goals ((repeat' with_reducible refine And.intro ?_ ?_)<;>try exact sz)
  all_goals (refine ⟨k+1,by omega,by omega,Le.st ?_⟩)
  all_goals (rw [mapTake hv])
  all_goals (simp only [eRK,h,bi_t,bi_f])
  all_goals (try push_cast (maxSteps:=mS))
  all_goals (exact ⟨by simp [eRK,h,bi],rfl⟩)
 ·have hd:=geF hlt
  (try push_cast (maxSteps:=mS) [hd])
  rw [List.take_of_length_le (by omega)]
theorem f64 (rows:List (List Vl)) (hr:okLen rows) (hrr:∀ r∈rows,okLen r):Spec V 85 [.c (.d (.sl 1 (rows.map eR)))] (.c (.d (.sl 1 (rows.map eR)))):=by
 (refine Spec.of_go (L:=lv2SB) 1000 Go.Proofs.Tryz.func85 rfl rfl ⟨Nat.le_of_ble_eq_true rfl,rfl⟩ rfl ?_;unfold Go.Proofs.Tryz.f85;push_cast (maxSteps:=mS))
 refine LoopK.le (Le.nil 3 28 1 (by decide) (by (try push_cast (maxSteps:=mS)))) ?_
 (try push_cast (maxSteps:=mS))
 refine LoopK.ov (α:=Nat) [8] (fun k=>[i2 .i64 k]) (fun k=>[.rw 28 1 ((rows.take k).map eR)]) (fun k=>k≤rows.length) (fun k=>rows.length - k) 1000 0 (by omega) (by (try push_cast (maxSteps:=mS))<;>first|rfl|simp) ?_
 rintro k hk'
 have hkl:rows.length≤1099511627776:=hr
 by_cases hlt:k<rows.length
 ·have hv:=atT hlt;have hd:=ltT hlt
  have htl:(rows.take k).length≤k:=List.length_take_le _ _
  (try push_cast (maxSteps:=mS) [hd,getD_map hv])
  ((repeat' with_reducible refine And.intro ?_ ?_)<;>try exact sz)
  refine ⟨_,f58 rows[k] (hrr _ (List.getElem_mem hlt)),rfl,?_⟩
  (try push_cast (maxSteps:=mS))
  ((repeat' with_reducible refine And.intro ?_ ?_)<;>try exact sz)
  refine ⟨k+1,by omega,by omega,Le.st ?_⟩
  rw [mapTake hv]
  (try push_cast (maxSteps:=mS))
  all_goals rfl
 ·have hd:=geF hlt
  (try push_cast (maxSteps:=mS) [hd])
  rw [List.take_of_length_le (by omega)]
theorem f64R (rows:List (List Vl)) (hr:okLen rows) (hrr:∀ r∈rows,okLen r):SpecR V 85 [.c (.d (.sl 1 (rows.map eR)))] 28 1 (rows.map eR):=by
 (refine SpecR.of_go (L:=lv2SB) 1000 Go.Proofs.Tryz.func85 rfl rfl ⟨Nat.le_of_ble_eq_true rfl,rfl⟩ (by decide) ?_;unfold Go.Proofs.Tryz.f85;push_cast (maxSteps:=mS))
 refine LoopK.le (Le.nil 3 28 1 (by decide) (by (try push_cast (maxSteps:=mS)))) ?_
 (try push_cast (maxSteps:=mS))
 refine LoopK.ov (α:=Nat) [8] (fun k=>[i2 .i64 k]) (fun k=>[.rw 28 1 ((rows.take k).map eR)]) (fun k=>k≤rows.length) (fun k=>rows.length - k) 1000 0 (by omega) (by (try push_cast (maxSteps:=mS))<;>first|rfl|simp) ?_
 rintro k hk'
 have hkl:rows.length≤1099511627776:=hr
 by_cases hlt:k<rows.length
 ·have hv:=atT hlt;have hd:=ltT hlt
  have htl:(rows.take k).length≤k:=List.length_take_le _ _
  (try push_cast (maxSteps:=mS) [hd,getD_map hv])
  ((repeat' with_reducible refine And.intro ?_ ?_)<;>try exact sz)
  refine ⟨_,f58 rows[k] (hrr _ (List.getElem_mem hlt)),rfl,?_⟩
  (try push_cast (maxSteps:=mS))
  ((repeat' with_reducible refine And.intro ?_ ?_)<;>try exact sz)
  refine ⟨k+1,by omega,by omega,Le.st ?_⟩
  rw [mapTake hv]
  (try push_cast (maxSteps:=mS))
  all_goals rfl
 ·have hd:=geF hlt
  (try push_cast (maxSteps:=mS) [hd])
  rw [List.take_of_length_le (by omega)]
theorem f63 (ks:List Ky) (l:List Cl) (lists:List (List (List Vl))) (hk:okLen ks) (hl:okCl l) (hls:okLen lists) (hrs:∀ r∈lists,okLen r) :
  Spec V 84 [.c (.d (.sl 2 (ks.map eK))),.c (.d (.sl 3 (l.map eC))),.c (.d (.sl 1 (lists.map eRs)))] (.tu [.c (.d (.sl 2 ((placesR ks l lists).1.map eP))),i2 .i64 (placesR ks l lists).2]):=by
 (refine Spec.of_go (L:=fun|0=>some [0,1,2]|1=>some [0,1,2,9]|2=>some [0,1,2,9,27]|3=>some [6,7]|4=>some [0,1,29,30,31]|5=>some [0,1,29,30,31,32]|6=>some [0,1,11,29,30,31]|7=>some [0,1,29,30,31,35,36,37]|8=>some [0,1,29,30,31,35,36,37,38]|9=>some [0,1,13,29,30,31,35,36,37]|10=>some [0,1,29,30,31,35,36,37,45]|11=>some [6,7]|12=>some [0,1,29,30,31,35,36,37]|13=>some [0,1,29,30,31]|14=>some [0,1,14]|15=>some [1,14,48,49,50]|16=>some [1,14,48,49,50,51]|17=>some [1,14,16,48,49,50]|18=>some [1,14,16,18,48,49,50]|19=>some [1,14,48,49,50]|20=>some [1,14,48,49,50]|21=>some [6,7]|_=>none) 1000 Go.Proofs.Tryz.func84 rfl rfl ⟨Nat.le_of_ble_eq_true rfl,rfl⟩ rfl ?_;unfold Go.Proofs.Tryz.f84;push_cast (maxSteps:=mS))
 refine ⟨_,f32 ks l hk hl,rfl,?_⟩
 (try push_cast (maxSteps:=mS))
 refine BrP.mk (fun h=>?_) (fun h=>?_)<;>try (push_cast (maxSteps:=mS) [h])
 ·have h':¬ (ordC ks l).2=0:=by simpa using h
  simp [placesR,h']
 ·have h':(ordC ks l).2=0:=by simpa using h
  have hkl:ks.length≤1099511627776:=hk
  refine LoopK.s1 (α:=Nat) [31] (fun k=>[i2 .i64 k]) (fun k=>k≤lists.length∧(lists.drop k).all (wideF l)=lists.all (wideF l)) (fun k=>lists.length - k) 1000 0 ⟨by omega,rfl⟩ (by (try push_cast (maxSteps:=mS))) ?_
  rintro k ⟨hk',hc⟩
  by_cases hlt:k<lists.length
  ·have hv:=atT hlt;have hd:=ltT hlt
   rw [drop_cons hv] at hc
   simp only [List.all_cons] at hc
   have hrk:=hrs _ (List.getElem_mem hlt)
   have hF:wideF l lists[k]=false→placesR ks l lists=([],10):=fun h0=>by
    rw [h0,Bool.false_and] at hc
    simp only [placesR,h',← hc]
    simp
   have hT:wideF l lists[k]=true→(lists.drop (k+1)).all (wideF l)=lists.all (wideF l):=fun h0=>by
    rw [h0,Bool.true_and] at hc
    exact hc
   clear hc
   generalize lists[k]=rows at *
   (try push_cast (maxSteps:=mS) [hd,getD_map hv])
   ((repeat' with_reducible refine And.intro ?_ ?_)<;>try exact sz)
   refine LoopK.s1 (α:=Nat) [37] (fun j=>[i2 .i64 j]) (fun j=>j≤rows.length∧(rows.drop j).all (fun r=>decide (r.length=l.length))=wideF l rows) (fun j=>rows.length - j) 1000 0 ⟨by omega,rfl⟩ (by (try push_cast (maxSteps:=mS))) ?_
   rintro j ⟨hj,hc2⟩
   by_cases hlt2:j<rows.length
   ·have hv2:=List.getElem?_eq_getElem hlt2
    have hd2:decide ((j:Int)<(rows.length:Int))=true:=decide_eq_true (by omega)
    rw [drop_cons hv2] at hc2
    simp only [List.all_cons] at hc2
    (try push_cast (maxSteps:=mS) [hd2,getD_map hv2])
    ((repeat' with_reducible refine And.intro ?_ ?_)<;>try exact sz)
    refine BrP.mk (fun h=>?_) (fun h=>?_)<;>try (push_cast (maxSteps:=mS) [h])
    ·have hw:¬ rows[j].length=l.length:=by simp at h;omega
     rw [decide_eq_false hw,Bool.false_and] at hc2
     rw [hF hc2.symm]
     simp
    ·have hw:rows[j].length=l.length:=by simp at h;omega
     rw [decide_eq_true hw,Bool.true_and] at hc2
     ((repeat' with_reducible refine And.intro ?_ ?_)<;>try exact sz)
     refine ⟨j+1,⟨by omega,hc2⟩,by omega,Le.st ?_⟩
     (try push_cast (maxSteps:=mS))
   ·have hd2:decide ((j:Int)<(rows.length:Int))=false:=decide_eq_false (by omega)
    rw [List.drop_eq_nil_of_le (by omega)] at hc2
    (try push_cast (maxSteps:=mS) [hd2])
    ((repeat' with_reducible refine And.intro ?_ ?_)<;>try exact sz)
    refine ⟨k+1,⟨by omega,hT hc2.symm⟩,by omega,Le.st ?_⟩
    (try push_cast (maxSteps:=mS))
  ·have hd:=geF hlt
   rw [List.drop_eq_nil_of_le (by omega)] at hc
   have e:placesR ks l lists=(placesF ks l,0):=by simp only [placesR,h',← hc];simp
   rw [e]
   (try push_cast (maxSteps:=mS) [hd])
   clear hc hd hlt hk'
   have hfnd:=ordC_found h'
   refine LoopK.le (Le.nil 14 220 2 (by decide) (by (try push_cast (maxSteps:=mS)))) ?_
   (try push_cast (maxSteps:=mS))
   refine LoopK.ov (α:=Nat) [50] (fun k=>[i2 .i64 k]) (fun k=>[.rw 220 2 ((placesF (ks.take k) l).map eP)]) (fun k=>k≤ks.length) (fun k=>ks.length - k) 1000 0 (by omega) (by (try push_cast (maxSteps:=mS))<;>first|rfl|simp [placesF]) ?_
   rintro k hk'
   by_cases hlt:k<ks.length
   ·have hv:=atT hlt;have hd:=ltT hlt
    have htl:(placesF (ks.take k) l).length≤k:=by simp only [placesF,List.length_map];exact List.length_take_le _ _
    (try push_cast (maxSteps:=mS) [hd,getD_map hv])
    ((repeat' with_reducible refine And.intro ?_ ?_)<;>try exact sz)
    refine ⟨_,f62 l ks[k].col hl.1,rfl,?_⟩
    (try push_cast (maxSteps:=mS))
    ((repeat' with_reducible refine And.intro ?_ ?_)<;>try exact sz)
    refine ⟨k+1,by omega,by omega,Le.st ?_⟩
    have em:placesF (ks.take (k+1)) l=placesF (ks.take k) l++[⟨(findF ks[k].col l 0).2.1,ks[k].down⟩]:=by
     simp only [placesF]
     exact mapTake hv
    rw [em]
    (try push_cast (maxSteps:=mS))
    all_goals first|rfl|(simp [eP];done)|exact ⟨by simp [eP],rfl⟩
   ·have hd:=geF hlt
    (try push_cast (maxSteps:=mS) [hd])
    rw [List.take_of_length_le (by omega)]
theorem bi_dec1 (b:Bool):decide (bi b=1)=b:=by cases b<;>rfl
theorem f40 (ks:List Ky) (l:List Cl) (a b:List Vl) (hk:okLen ks) (hl:okCl l) (hf:∀ x∈ks,(findF x.col l 0).2.2=true) (ha:a.length=l.length) (hb:b.length=l.length) :
  Spec V 105 [.c (.d (.sl 2 (ks.map eRK))),.c (.d (.sl 3 (l.map eRC))),.c (.d (.sl 4 (a.map eRV))),.c (.d (.sl 4 (b.map eRV)))] (i2 .i64 (ordF (placesF ks l) a b)):=by
 have hS:=f56 l hl.1
 rw [show (l.map fun c=>eS c.name)=(l.map (·.name)).map eS by rw [List.map_map];rfl] at hS
 (refine Spec.of_go (L:=fun|0=>some [0,1,2,3]|1=>some [1,2,3,13,14,15]|2=>some [1,2,3,13,14,15,16]|3=>some [1,2,3,10,13,14,15]|4=>some [1,2,3,10,11,13,14,15]|5=>some [1,2,3,10,12,13,14,15]|6=>some [1,2,3,12,13,14,15,39]|7=>some [8]|8=>some [1,2,3,12,13,14,15,43]|9=>some [8]|10=>some [1,2,3,13,14,15]|11=>some [8]|_=>none) 1000 Go.Proofs.Tryz.func105 rfl rfl ⟨Nat.le_of_ble_eq_true rfl,rfl⟩ rfl ?_;unfold Go.Proofs.Tryz.f105;push_cast (maxSteps:=mS))
 have hkl:ks.length≤1099511627776:=hk
 refine LoopK.s1 (α:=Nat) [15] (fun k=>[i2 .i64 k]) (fun k=>k≤ks.length∧ordF (placesF (ks.drop k) l) a b=ordF (placesF ks l) a b) (fun k=>ks.length - k) 1000 0 ⟨by omega,rfl⟩ (by (try push_cast (maxSteps:=mS))) ?_
 rintro k ⟨hk',hc⟩
 by_cases hlt:k<ks.length
 ·have hv:=atT hlt;have hd:=ltT hlt
  obtain ⟨hlt0,_,hat⟩:=find_lt (hf _ (List.getElem_mem hlt))
  rw [drop_cons hv] at hc
  rw [placesF,List.map_cons,ordF] at hc
  change (if cmpF (a.getD (findF ks[k].col l 0).2.1 vl0) (b.getD (findF ks[k].col l 0).2.1 vl0)=0 then ordF (placesF (ks.drop (k+1)) l) a b else if ks[k].down=true then -cmpF (a.getD (findF ks[k].col l 0).2.1 vl0) (b.getD (findF ks[k].col l 0).2.1 vl0) else cmpF (a.getD (findF ks[k].col l 0).2.1 vl0) (b.getD (findF ks[k].col l 0).2.1 vl0))=ordF (placesF ks l) a b at hc
  have hS2:=f55 (l.map (·.name)) ks[k].col (by simpa only [okLen,List.length_map] using hl.1)
  (try push_cast (maxSteps:=mS) [hd,getD_map hv])
  ((repeat' with_reducible refine And.intro ?_ ?_)<;>try exact sz)
  (refine DrawK.of (.take 0 (.take 2 (.take 3 (.one 1 (.one 4 (.take 5 .done)))))) 1000 (by decide +kernel) ?_;try (push_cast (maxSteps:=mS)))
  refine ⟨_,hS,rfl,?_⟩
  (try push_cast (maxSteps:=mS))
  refine ⟨_,hS2,rfl,?_⟩
  (try push_cast (maxSteps:=mS))
  generalize hK:atF ks[k].col (l.map (·.name)) 0=K at *
  have hga:=getD_rowR (r:=a) (i:=(findF ks[k].col l 0).2.1) (by omega)
  have hgb:=getD_rowR (r:=b) (i:=(findF ks[k].col l 0).2.1) (by omega)
  have hKn:K.toNat=(findF ks[k].col l 0).2.1:=by omega
  have hKa:K<(a.length:Int):=by omega
  have hKb:K<(b.length:Int):=by omega
  have hK0:0≤K:=by omega
  rw [← hKn] at hga hgb hc
  have hbd:=cmp_bd (a.getD K.toNat vl0) (b.getD K.toNat vl0)
  (refine DrawK.of (.take 0 (.take 1 (.take 2 (.take 3 (.take 4 (.take 5 (.take 6 (.take 7 (.one 8 (.take 9 .done)))))))))) 1000 (by decide +kernel) ?_;try (push_cast (maxSteps:=mS)))
  (try push_cast (maxSteps:=mS) [hga,hgb])
  ((repeat' with_reducible refine And.intro ?_ ?_)<;>try exact sz)
  (try push_cast (maxSteps:=mS) [hga,hgb])
  ((repeat' with_reducible refine And.intro ?_ ?_)<;>try exact sz)
  have hS3:=f57 (a.getD K.toNat vl0) (b.getD K.toNat vl0)
  rw [← cmp_rcmp] at hS3
  simp only [eRV_eq,List.map_cons,List.map_nil,i2] at hS3
  refine ⟨_,hS3,rfl,?_⟩
  clear hS3
  generalize cmpF (a.getD K.toNat vl0) (b.getD K.toNat vl0)=C at *
  (try push_cast (maxSteps:=mS))
  (repeat' (first|(simp (maxSteps:=mS) only [push_cast,Nat.reduceBEq,Nat.reduceBNe,Nat.reduceAdd,Nat.reduceSub,Nat.reduceMul,Nat.reduceLT,Nat.reduceLeDiff,Nat.reduceEqDiff,Nat.blt_eq,Int.reduceLT,Int.reduceLE,Int.reduceEq,Int.reduceToNat,Int.reduceNeg,Int.reduceAdd,Int.reduceSub,Int.reduceMul,Int.reducePow,reduceIte,decide_true,decide_false,reduceCtorEq])|(refine BrP.mk (fun h=>?_) (fun h=>?_)<;>(try simp only [h]))))
  ·rename_i h1
   have h2:=h
   simp only [Bool.not_eq_true',decide_eq_false_iff_not,bi_dec1] at h1 h2
   rw [if_neg h1,if_pos h2] at hc
   exact ⟨inK64 (by omega) (by omega),hc⟩
  ·rename_i h1 h2
   simp only [Bool.not_eq_true',decide_eq_false_iff_not,bi_dec1] at h1 h2
   rw [if_neg h1,if_neg (by simp [h2])] at hc
   exact hc
  ·rename_i h1 h2
   rw [h1] at h;cases h
  ·rename_i h1
   rw [h1] at h;cases h
  ·rename_i h1
   simp only [Bool.not_eq_false',decide_eq_true_eq] at h1
   rw [if_pos h1] at hc
   refine ⟨inK64 (by omega) (by omega),k+1,⟨by omega,hc⟩,by omega,Le.st ?_⟩
   (try push_cast (maxSteps:=mS))
 ·have hd:=geF hlt
  rw [List.drop_eq_nil_of_le (by omega)] at hc
  (try push_cast (maxSteps:=mS) [hd])
  exact hc
theorem f38 (ks:List Ky) (l:List Cl) (rows:List (List Vl)) (hk:okLen ks) (hl:okCl l) (hf:∀ x∈ks,(findF x.col l 0).2.2=true) (hr:okLen rows) (hw:∀ r∈rows,r.length=l.length) :
  Spec V 59 [.c (.d (.sl 2 (ks.map eRK))),.c (.d (.sl 3 (l.map eRC))),.c (.d (.sl 1 (rows.map eRR)))] (.c (.d (.sl 1 ((sortF (ordF (placesF ks l)) rows).map eRR)))):=by
 have hrl:rows.length≤1099511627776:=hr
 (refine Spec.of_go (L:=fun|0=>some [0,1,2]|1=>some [0,1,2,7]|2=>some [0,1,7,12,13,14]|3=>some [0,1,7,12,13,14,15]|4=>some [0,1,7,9,12,13,14]|5=>some [0,1,7,9,10,12,13,14]|6=>some [0,1,7,9,10,12,13,14,32]|7=>some [0,1,7,9,10,12,13,14]|8=>some [0,1,7,9,10,11,12,13,14]|9=>some [0,1,11,12,13,14]|10=>some [0,1,7,12,13,14]|11=>some [0,1,7,12,13,14]|12=>some [6]|_=>none) 1000 Go.Proofs.Tryz.func59 rfl rfl ⟨Nat.le_of_ble_eq_true rfl,rfl⟩ rfl ?_;unfold Go.Proofs.Tryz.f59;push_cast (maxSteps:=mS))
 refine LoopK.le (Le.nil 7 39 1 (by decide) (by (try push_cast (maxSteps:=mS)))) ?_
 (try push_cast (maxSteps:=mS))
 refine LoopK.le (τ:=⟨[(7,.c (.d (.sl 1 []))),(14,i2 .i64 0),(13,i2 .i64 rows.length),(12,.c (.d (.sl 1 (rows.map eRR)))),(0,.c (.d (.sl 2 (ks.map eRK)))),(1,.c (.d (.sl 3 (l.map eRC))))],[]⟩) (Le.frz [0] (by (try push_cast (maxSteps:=mS)))) ?_
 refine LoopK.s1 (α:=Nat × List (List Vl)) [14,7] (fun p=>[i2 .i64 p.1,.c (.d (.sl 1 (p.2.map eRR)))]) (fun p=>p.1≤rows.length∧sortL (ordF (placesF ks l)) p.2 (rows.drop p.1)=sortF (ordF (placesF ks l)) rows∧p.2.length=p.1∧∀ r∈p.2,r.length=l.length) (fun p=>rows.length - p.1) 1000 (0,[]) ⟨by simp,rfl,rfl,by simp⟩ (by (try push_cast (maxSteps:=mS))) ?_
 rintro ⟨k,out⟩ ⟨hk',hc,ho,how⟩
 simp only at hk' hc ho how
 by_cases hlt:k<rows.length
 ·have hv:=atT hlt;have hd:=ltT hlt
  rw [drop_cons hv,sortL] at hc
  have hwk:=hw _ (List.getElem_mem hlt)
  generalize rows[k]=r at *
  (try push_cast (maxSteps:=mS) [hd,getD_map hv])
  ((repeat' with_reducible refine And.intro ?_ ?_)<;>try exact sz)
  refine LoopK.s1 (α:=Nat) [10] (fun n=>[i2 .i64 n]) (fun n=>n≤out.length∧n+aheadF (ordF (placesF ks l)) r (out.drop n)=aheadF (ordF (placesF ks l)) r out) (fun n=>out.length - n) 1000 0 ⟨by omega,by simp⟩ (by (try push_cast (maxSteps:=mS))) ?_
  rintro n ⟨hn,hc2⟩
  have hal:=ahead_le (ordF (placesF ks l)) r out
  by_cases hnl:n<out.length
  ·have hvn:=List.getElem?_eq_getElem hnl
   have hdn:decide ((n:Int)<(out.length:Int))=true:=decide_eq_true (by omega)
   rw [drop_cons hvn,aheadF] at hc2
   have hS:=f40 ks l out[n] r hk hl hf (how _ (List.getElem_mem hnl)) hwk
   generalize out[n]=x at *
   (try push_cast (maxSteps:=mS) [hdn,getD_map hvn])
   ((repeat' with_reducible refine And.intro ?_ ?_)<;>try exact sz)
   refine ⟨_,hS,rfl,?_⟩
   (try push_cast (maxSteps:=mS))
   refine BrP.mk (fun h=>?_) (fun h=>?_)<;>try (push_cast (maxSteps:=mS) [h])
   ·have hle:ordF (placesF ks l) x r≤0:=by simpa using h
    rw [if_pos hle] at hc2
    ((repeat' with_reducible refine And.intro ?_ ?_)<;>try exact sz)
    refine ⟨n+1,⟨by omega,by omega⟩,by omega,Le.st ?_⟩
    (try push_cast (maxSteps:=mS))
   ·have hle:¬ ordF (placesF ks l) x r≤0:=by simpa using h
    rw [if_neg hle] at hc2
    have hin:=insF_eq (ordF (placesF ks l)) r out
    rw [← hc2,Nat.add_zero] at hin
    (try push_cast (maxSteps:=mS))
    refine DrawK.cut (.take 0 (.take 1 (.take 2 (.take 3 (.take 5 (.take 8 (.take 9 (.three 4 (.two 6 (.two 7 (.take 10 (.one 11 (.take 12 .done))) 10 (.one 7 (.one 11 (.take 12 .done)))) 10 (.one 6 (.one 7 (.one 11 (.take 12 .done))))) 6 (.two 4 (.two 7 (.take 10 (.one 11 (.take 12 .done))) 10 (.one 7 (.one 11 (.take 12 .done)))) 10 (.one 4 (.one 7 (.one 11 (.take 12 .done))))) 10 (.two 4 (.one 6 (.one 7 (.one 11 (.take 12 .done)))) 6 (.one 4 (.one 7 (.one 11 (.take 12 .done))))))))))))) 1000 (by decide +kernel) ⟨[(11,.c (.d (.sl 1 ((insF (ordF (placesF ks l)) r out).map eRR)))),(14,i2 .i64 k),(13,i2 .i64 rows.length),(12,.c (.d (.sl 1 (rows.map eRR)))),(0,.c (.d (.sl 2 (ks.map eRK)))),(1,.c (.d (.sl 3 (l.map eRC))))],[]⟩ ?_ ?_
    ·rw [hin]
     (try push_cast (maxSteps:=mS))
     ((repeat' with_reducible refine And.intro ?_ ?_)<;>try exact sz)
     all_goals (try (simp only [List.length_append,List.length_take,List.length_drop,List.length_map,List.length_cons,List.length_nil,maxLen];omega))
     all_goals (refine Le.frz [0,1] ?_;(try push_cast (maxSteps:=mS)))
     all_goals (simp only [List.map_append,List.map_take,List.map_drop];rfl)
    (try push_cast (maxSteps:=mS))
    ((repeat' with_reducible refine And.intro ?_ ?_)<;>try exact sz)
    refine ⟨(k+1,insF (ordF (placesF ks l)) r out),⟨by simp only;omega,hc,by rw [insF_len];simp only;omega,fun y hy=>?_⟩,by simp only;omega,Le.st ?_⟩
    ·rcases (insF_mem _ _ _ _).1 hy with rfl|hy
     ·exact hwk
     ·exact how y hy
    ·(try push_cast (maxSteps:=mS))
  ·have hdn:decide ((n:Int)<(out.length:Int))=false:=decide_eq_false (by omega)
   rw [List.drop_eq_nil_of_le (by omega),aheadF] at hc2
   have hin:=insF_eq (ordF (placesF ks l)) r out
   rw [← hc2,Nat.add_zero] at hin
   (try push_cast (maxSteps:=mS) [hdn])
   refine DrawK.cut (.take 0 (.take 1 (.take 2 (.take 3 (.take 5 (.take 8 (.take 9 (.three 4 (.two 6 (.two 7 (.take 10 (.one 11 (.take 12 .done))) 10 (.one 7 (.one 11 (.take 12 .done)))) 10 (.one 6 (.one 7 (.one 11 (.take 12 .done))))) 6 (.two 4 (.two 7 (.take 10 (.one 11 (.take 12 .done))) 10 (.one 7 (.one 11 (.take 12 .done)))) 10 (.one 4 (.one 7 (.one 11 (.take 12 .done))))) 10 (.two 4 (.one 6 (.one 7 (.one 11 (.take 12 .done)))) 6 (.one 4 (.one 7 (.one 11 (.take 12 .done))))))))))))) 1000 (by decide +kernel) ⟨[(11,.c (.d (.sl 1 ((insF (ordF (placesF ks l)) r out).map eRR)))),(14,i2 .i64 k),(13,i2 .i64 rows.length),(12,.c (.d (.sl 1 (rows.map eRR)))),(0,.c (.d (.sl 2 (ks.map eRK)))),(1,.c (.d (.sl 3 (l.map eRC))))],[]⟩ ?_ ?_
   ·rw [hin]
    (try push_cast (maxSteps:=mS))
    ((repeat' with_reducible refine And.intro ?_ ?_)<;>try exact sz)
    all_goals (try (simp only [List.length_append,List.length_take,List.length_drop,List.length_map,List.length_cons,List.length_nil,maxLen];omega))
    all_goals (refine Le.frz [0,1] ?_;(try push_cast (maxSteps:=mS)))
    all_goals (simp only [List.map_append,List.map_take,List.map_drop];rfl)
   (try push_cast (maxSteps:=mS))
   ((repeat' with_reducible refine And.intro ?_ ?_)<;>try exact sz)
   refine ⟨(k+1,insF (ordF (placesF ks l)) r out),⟨by simp only;omega,hc,by rw [insF_len];simp only;omega,fun y hy=>?_⟩,by simp only;omega,Le.st ?_⟩
   ·rcases (insF_mem _ _ _ _).1 hy with rfl|hy
    ·exact hwk
    ·exact how y hy
   ·(try push_cast (maxSteps:=mS))
 ·have hd:=geF hlt
  rw [List.drop_eq_nil_of_le (by omega)] at hc
  (try push_cast (maxSteps:=mS) [hd])
  rw [← hc];rfl
set_option maxHeartbeats 2000000 in
theorem f92 (f:List Vl→List Vl→Int) (fc:FuncId) (cap:DV) (pre seg post:List (List Vl)) (hf:∀ x∈seg,∀ y∈seg,Spec V fc [.c (.d (.sl 4 (x.map eV))),.c (.d (.sl 4 (y.map eV))),.c (.d cap)] (i2 .i64 (f x y))) (hn:okLen (pre++seg++post)) :
  SpecM V 160 28 1 ((pre++seg++post).map eR) [i2 .i64 pre.length,i2 .i64 (pre.length+seg.length),.c (.d (.clo fc [cap]))] ((pre++sortR f [] [] seg++post).map eR) (.tu []):=by
 have hnl:pre.length+seg.length+post.length≤1099511627776:=by
  have:(pre++seg++post).length≤1099511627776:=hn
  simpa [Nat.add_assoc] using this
 (refine SpecM.of_go (L:=lv0SB) 1000 Go.Proofs.Tryz.func160 rfl rfl ⟨Nat.le_of_ble_eq_true rfl,rfl⟩ rfl (by simp [sortR_len]) (by decide) ?_;intro cp;unfold Go.Proofs.Tryz.f160;push_cast (maxSteps:=mS))
 ((repeat' with_reducible refine And.intro ?_ ?_)<;>try exact sz)
 rcases seg with _|⟨r0,rs⟩
 ·refine LoopK.s1 (α:=Unit) [] (fun _=>[]) (fun _=>True) (fun _=>0) 1000 () trivial (by (try push_cast (maxSteps:=mS))) ?_
  rintro _ _
  have hd:decide (((pre.length:Int)+1)<(pre.length:Int))=false:=decide_eq_false (by omega)
  simp only [List.length_nil,Int.natCast_zero,Int.add_zero]
  (try push_cast (maxSteps:=mS) [hd])
  all_goals simp [sortR]
 ·refine LoopK.ov (α:=Nat × List (List Vl)) [8] (fun p=>[i2 .i64 (pre.length+p.1)]) (fun p=>[.rw (pinT cp 28) 1 ((pre++(p.2++((r0::rs).drop p.1++post))).map eR)]) (fun p=>1≤p.1∧p.1≤(r0::rs).length∧p.2.length=p.1∧sortR f [] p.2 ((r0::rs).drop p.1)=sortR f [] [] (r0::rs)∧∀ x∈p.2,x∈r0::rs) (fun p=>(r0::rs).length - p.1) 1000 (1,[r0]) ⟨by simp,by simp,rfl,rfl,by simp⟩ (by (try push_cast (maxSteps:=mS))<;>first|rfl|simp) ?_
  generalize r0::rs=seg at *
  rintro ⟨k,cur⟩ ⟨hk1,hk2,hc,hs,hm⟩
  simp only at hk1 hk2 hc hs hm
  subst hc
  by_cases hlt:cur.length<seg.length
  ·have hv:=List.getElem?_eq_getElem hlt
   have hd:decide ((pre.length:Int)+(cur.length:Int)<(pre.length:Int)+(seg.length:Int))=true:=decide_eq_true (by omega)
   rw [drop_cons hv] at hs ⊢
   rw [sortR] at hs
   have hrm:=List.getElem_mem hlt
   generalize seg[cur.length]=r at *
   (try push_cast (maxSteps:=mS) [hd])
   ((repeat' with_reducible refine And.intro ?_ ?_)<;>try exact sz)
   refine LoopK.ov (α:=Nat) [9] (fun m=>[i2 .i64 (pre.length+m)]) (fun m=>[.rw (pinT cp 28) 1 ((pre++(wayL cur r m++(seg.drop (cur.length+1)++post))).map eR)]) (fun m=>m≤cur.length∧posR f [] r cur m=posR f [] r cur cur.length) (fun m=>m) 1000 cur.length ⟨by omega,rfl⟩ (by (try push_cast (maxSteps:=mS))<;>first|rfl|simp [wayL]|skip) ?_
   rintro m ⟨hm1,hm2⟩
   rcases m with _|m
   ·have hd0:decide ((pre.length:Int)<(pre.length:Int)+0)=false:=decide_eq_false (by omega)
    have e:wayL cur r 0=insR f [] r cur:=by
     have:posR f [] r cur cur.length=0:=by rw [← hm2];rfl
     simp only [insR,this,wayL]
    rw [e]
    have hil:(insR f [] r cur).length=cur.length+1:=insR_len _ _ _ _
    (refine DrawK.of (.take 0 (.take 1 (.take 2 (.take 3 (.take 4 (.take 5 (.take 6 (.take 7 (.take 8 (.take 9 (.take 10 (.take 11 (.take 12 (.take 13 (.one 14 (.take 15 (.take 16 .done))))))))))))))))) 1000 (by decide +kernel) ?_;try (push_cast (maxSteps:=mS)))
    (try push_cast (maxSteps:=mS) [hd0])
    ((repeat' with_reducible refine And.intro ?_ ?_)<;>try exact sz)
    refine ⟨(cur.length+1,insR f [] r cur),⟨by simp,by simp only;omega,hil,hs,fun y hy=>?_⟩,by simp only;omega,Le.st ?_⟩
    ·rcases (insR_mem f [] r cur y).1 hy with rfl|hy
     ·exact hrm
     ·exact hm y hy
    ·(try push_cast (maxSteps:=mS))
     ((repeat' with_reducible refine And.intro ?_ ?_)<;>try exact sz)
   ·have hm0:m<cur.length:=by omega
    have hx:=List.getElem?_eq_getElem hm0
    have hxm:=List.getElem_mem hm0
    have hd0:decide ((pre.length:Int)<(pre.length:Int)+((m:Int)+1))=true:=decide_eq_true (by omega)
    have hS:=hf r hrm cur[m] (hm _ hxm)
    have hg:cur.getD m []=cur[m]:=by simp [List.getD_eq_getElem?_getD,hx]
    simp only [posR,hg] at hm2
    have hstep:=wayL_step (r:=r) hx
    have hw1:=wayL_at (r:=r) hm1
    have hw0:=wayL_pre (r:=r) hm1
    have hwl:=wayL_len cur r (m+1) hm1
    have hwl0:=wayL_len cur r m (by omega)
    rw [hx] at hw0
    generalize cur[m]=x at *
    generalize hrest:seg.drop (cur.length+1)++post=rest at *
    have hT1:((pre.length:Int)+((m:Int)+1)).toNat=pre.length+m+1:=by omega
    have hT0:((pre.length:Int)+((m:Int)+1) - 1).toNat=pre.length+m:=by omega
    obtain ⟨D,hD⟩:∃ D,D=pre++(wayL cur r (m+1)++rest):=⟨_,rfl⟩
    have hDl:D.length=pre.length+(cur.length+1)+rest.length:=by rw [hD];simp [hwl];omega
    have hD1:D[pre.length+m+1]?=some r:=by
     rw [hD,Nat.add_assoc,List.getElem?_append_right (by omega),List.getElem?_append_left (by omega),← hw1]
     congr 1;omega
    have hD0:D[pre.length+m]?=some x:=by
     rw [hD,List.getElem?_append_right (by omega),List.getElem?_append_left (by omega),← hw0]
     congr 1;omega
    have hDs:(D.set (pre.length+m+1) x).set (pre.length+m) r=pre++(wayL cur r m++rest):=by
     rw [hD,← hstep,Nat.add_assoc,List.set_append_right _ _ (by omega),List.set_append_right _ _ (by omega),List.set_append_left _ _ (by omega),List.set_append_left _ _ (by simp;omega)]
     congr 4<;>omega
    have hgd:((D.map eR).set (pre.length+m+1) [.sl 4 (x.map eV)]).getD (pre.length+m) []=[.sl 4 (x.map eV)]:=by
     rw [List.getD_eq_getElem?_getD,List.getElem?_set_ne (by omega),List.getElem?_map,hD0];rfl
    have hset:((D.map eR).set (pre.length+m+1) [.sl 4 (x.map eV)]).set (pre.length+m) [.sl 4 (r.map eV)]=(pre++(wayL cur r m++rest)).map eR:=by
     rw [← hDs,List.map_set,List.map_set];rfl
    rw [← hD]
    (refine DrawK.of (.take 0 (.take 1 (.take 2 (.take 3 (.take 4 (.take 5 (.take 6 (.take 7 (.take 8 (.take 9 (.take 10 (.take 11 (.take 12 (.take 13 (.one 14 (.take 15 (.take 16 .done))))))))))))))))) 1000 (by decide +kernel) ?_;try (push_cast (maxSteps:=mS)))
    (try push_cast (maxSteps:=mS) [hd0])
    ((repeat' with_reducible refine And.intro ?_ ?_)<;>try exact sz)
    (try push_cast (maxSteps:=mS) [hT1,hT0,getD_map hD1,getD_map hD0])
    ((repeat' with_reducible refine And.intro ?_ ?_)<;>try exact sz)
    refine ⟨_,hS,rfl,?_⟩
    (try push_cast (maxSteps:=mS))
    refine BrP.mk (fun h=>?_) (fun h=>?_)<;>try (push_cast (maxSteps:=mS) [h])
    ·have hlt0:f r x<0:=by simpa using h
     rw [if_pos hlt0] at hm2
     (refine DrawK.of (.take 0 (.take 1 (.take 5 (.take 6 (.take 7 (.take 8 (.take 9 (.take 10 (.take 11 (.take 12 (.take 13 (.take 14 (.three 2 (.two 3 (.two 4 (.one 15 (.one 16 (.one 17 .done))) 15 (.one 4 (.one 16 (.one 17 .done)))) 15 (.one 3 (.one 4 (.one 16 (.one 17 .done))))) 3 (.three 2 (.two 4 (.one 15 (.one 16 (.one 17 .done))) 15 (.one 4 (.one 16 (.one 17 .done)))) 4 (.two 2 (.one 15 (.one 16 (.one 17 .done))) 15 (.one 2 (.one 16 (.one 17 .done)))) 15 (.two 2 (.one 4 (.one 16 (.one 17 .done))) 4 (.one 2 (.one 16 (.one 17 .done))))) 15 (.two 2 (.one 3 (.one 4 (.one 16 (.one 17 .done)))) 3 (.two 2 (.one 4 (.one 16 (.one 17 .done))) 4 (.one 2 (.one 16 (.one 17 .done)))))))))))))))))) 1000 (by decide +kernel) ?_;try (push_cast (maxSteps:=mS)))
     ((repeat' with_reducible refine And.intro ?_ ?_)<;>try exact sz)
     (try push_cast (maxSteps:=mS) [hT1,hT0,getD_map hD1,getD_map hD0])
     ((repeat' with_reducible refine And.intro ?_ ?_)<;>try exact sz)
     all_goals (try simp only [List.length_set,List.length_map])
     all_goals (try push_cast (maxSteps:=mS) [hT1,hT0,hgd,hset])
     all_goals ((repeat' with_reducible refine And.intro ?_ ?_)<;>try exact sz)
     all_goals first|omega|(refine ⟨m,⟨by omega,hm2⟩,by omega,Le.st ?_⟩;(try push_cast (maxSteps:=mS));((repeat' with_reducible refine And.intro ?_ ?_)<;>try exact sz))
    ·have hlt0:¬ f r x<0:=by simpa using h
     rw [if_neg hlt0] at hm2
     have e:wayL cur r (m+1)=insR f [] r cur:=by
      simp only [insR,← hm2,wayL]
     have hil:(insR f [] r cur).length=cur.length+1:=insR_len _ _ _ _
     rw [e] at hD
     ((repeat' with_reducible refine And.intro ?_ ?_)<;>try exact sz)
     refine ⟨(cur.length+1,insR f [] r cur),⟨by simp,by simp only;omega,hil,hs,fun y hy=>?_⟩,by simp only;omega,Le.st ?_⟩
     ·rcases (insR_mem f [] r cur y).1 hy with rfl|hy
      ·exact hrm
      ·exact hm y hy
     ·simp only [hrest,← hD]
      (try push_cast (maxSteps:=mS))
      ((repeat' with_reducible refine And.intro ?_ ?_)<;>try exact sz)
  ·have hd:decide ((pre.length:Int)+(cur.length:Int)<(pre.length:Int)+(seg.length:Int))=false:=decide_eq_false (by omega)
   rw [List.drop_eq_nil_of_le (by omega)] at hs ⊢
   (try push_cast (maxSteps:=mS) [hd])
   rw [← hs]
   simp [sortR]
def eIx (n:Nat):List DV:=[.v (.int .i64 n)]
@[push_cast] theorem eIx_eq (n:Nat):eIx n=[.v (.int .i64 n)]:=rfl
set_option maxHeartbeats 2000000 in
theorem f94 (f:Nat→Nat→Int) (fc:FuncId) (cap cap2:DV) (pre seg post:List Nat) (hf:∀ x∈seg,∀ y∈seg,Spec V fc [i2 .i64 x,i2 .i64 y,.c (.d cap),.c (.d cap2)] (i2 .i64 (f x y))) (hn:okLen (pre++seg++post)) :
  SpecM V 167 3 1 ((pre++seg++post).map eIx) [i2 .i64 pre.length,i2 .i64 (pre.length+seg.length),.c (.d (.clo fc [cap,cap2]))] ((pre++sortR f 0 [] seg++post).map eIx) (.tu []):=by
 have hnl:pre.length+seg.length+post.length≤1099511627776:=by
  have:(pre++seg++post).length≤1099511627776:=hn
  simpa [Nat.add_assoc] using this
 (refine SpecM.of_go (L:=lv0SB) 1000 Go.Proofs.Tryz.func167 rfl rfl ⟨Nat.le_of_ble_eq_true rfl,rfl⟩ rfl (by simp [sortR_len]) (by decide) ?_;intro cp;unfold Go.Proofs.Tryz.f167;push_cast (maxSteps:=mS))
 ((repeat' with_reducible refine And.intro ?_ ?_)<;>try exact sz)
 rcases seg with _|⟨r0,rs⟩
 ·refine LoopK.s1 (α:=Unit) [] (fun _=>[]) (fun _=>True) (fun _=>0) 1000 () trivial (by (try push_cast (maxSteps:=mS))) ?_
  rintro _ _
  have hd:decide (((pre.length:Int)+1)<(pre.length:Int))=false:=decide_eq_false (by omega)
  simp only [List.length_nil,Int.natCast_zero,Int.add_zero]
  (try push_cast (maxSteps:=mS) [hd])
  all_goals simp [sortR]
 ·refine LoopK.ov (α:=Nat × List Nat) [8] (fun p=>[i2 .i64 (pre.length+p.1)]) (fun p=>[.rw (pinT cp 3) 1 ((pre++(p.2++((r0::rs).drop p.1++post))).map eIx)]) (fun p=>1≤p.1∧p.1≤(r0::rs).length∧p.2.length=p.1∧sortR f 0 p.2 ((r0::rs).drop p.1)=sortR f 0 [] (r0::rs)∧∀ x∈p.2,x∈r0::rs) (fun p=>(r0::rs).length - p.1) 1000 (1,[r0]) ⟨by simp,by simp,rfl,rfl,by simp⟩ (by (try push_cast (maxSteps:=mS))<;>first|rfl|simp) ?_
  generalize r0::rs=seg at *
  rintro ⟨k,cur⟩ ⟨hk1,hk2,hc,hs,hm⟩
  simp only at hk1 hk2 hc hs hm
  subst hc
  by_cases hlt:cur.length<seg.length
  ·have hv:=List.getElem?_eq_getElem hlt
   have hd:decide ((pre.length:Int)+(cur.length:Int)<(pre.length:Int)+(seg.length:Int))=true:=decide_eq_true (by omega)
   rw [drop_cons hv] at hs ⊢
   rw [sortR] at hs
   have hrm:=List.getElem_mem hlt
   generalize seg[cur.length]=r at *
   (try push_cast (maxSteps:=mS) [hd])
   ((repeat' with_reducible refine And.intro ?_ ?_)<;>try exact sz)
   refine LoopK.ov (α:=Nat) [9] (fun m=>[i2 .i64 (pre.length+m)]) (fun m=>[.rw (pinT cp 3) 1 ((pre++(wayL cur r m++(seg.drop (cur.length+1)++post))).map eIx)]) (fun m=>m≤cur.length∧posR f 0 r cur m=posR f 0 r cur cur.length) (fun m=>m) 1000 cur.length ⟨by omega,rfl⟩ (by (try push_cast (maxSteps:=mS))<;>first|rfl|simp [wayL]|skip) ?_
   rintro m ⟨hm1,hm2⟩
   rcases m with _|m
   ·have hd0:decide ((pre.length:Int)<(pre.length:Int)+0)=false:=decide_eq_false (by omega)
    have e:wayL cur r 0=insR f 0 r cur:=by
     have:posR f 0 r cur cur.length=0:=by rw [← hm2];rfl
     simp only [insR,this,wayL]
    rw [e]
    have hil:(insR f 0 r cur).length=cur.length+1:=insR_len _ _ _ _
    (refine DrawK.of (.take 0 (.take 1 (.take 2 (.take 3 (.take 4 (.take 5 (.take 6 (.take 7 (.take 8 (.take 9 (.take 10 (.take 11 (.take 12 (.take 13 (.one 14 (.take 15 (.take 16 .done))))))))))))))))) 1000 (by decide +kernel) ?_;try (push_cast (maxSteps:=mS)))
    (try push_cast (maxSteps:=mS) [hd0])
    ((repeat' with_reducible refine And.intro ?_ ?_)<;>try exact sz)
    refine ⟨(cur.length+1,insR f 0 r cur),⟨by simp,by simp only;omega,hil,hs,fun y hy=>?_⟩,by simp only;omega,Le.st ?_⟩
    ·rcases (insR_mem f 0 r cur y).1 hy with rfl|hy
     ·exact hrm
     ·exact hm y hy
    ·(try push_cast (maxSteps:=mS))
     ((repeat' with_reducible refine And.intro ?_ ?_)<;>try exact sz)
   ·have hm0:m<cur.length:=by omega
    have hx:=List.getElem?_eq_getElem hm0
    have hxm:=List.getElem_mem hm0
    have hd0:decide ((pre.length:Int)<(pre.length:Int)+((m:Int)+1))=true:=decide_eq_true (by omega)
    have hS:=hf r hrm cur[m] (hm _ hxm)
    have hg:cur.getD m 0=cur[m]:=by simp [List.getD_eq_getElem?_getD,hx]
    simp only [posR,hg] at hm2
    have hstep:=wayL_step (r:=r) hx
    have hw1:=wayL_at (r:=r) hm1
    have hw0:=wayL_pre (r:=r) hm1
    have hwl:=wayL_len cur r (m+1) hm1
    have hwl0:=wayL_len cur r m (by omega)
    rw [hx] at hw0
    generalize cur[m]=x at *
    generalize hrest:seg.drop (cur.length+1)++post=rest at *
    have hT1:((pre.length:Int)+((m:Int)+1)).toNat=pre.length+m+1:=by omega
    have hT0:((pre.length:Int)+((m:Int)+1) - 1).toNat=pre.length+m:=by omega
    obtain ⟨D,hD⟩:∃ D,D=pre++(wayL cur r (m+1)++rest):=⟨_,rfl⟩
    have hDl:D.length=pre.length+(cur.length+1)+rest.length:=by rw [hD];simp [hwl];omega
    have hD1:D[pre.length+m+1]?=some r:=by
     rw [hD,Nat.add_assoc,List.getElem?_append_right (by omega),List.getElem?_append_left (by omega),← hw1]
     congr 1;omega
    have hD0:D[pre.length+m]?=some x:=by
     rw [hD,List.getElem?_append_right (by omega),List.getElem?_append_left (by omega),← hw0]
     congr 1;omega
    have hDs:(D.set (pre.length+m+1) x).set (pre.length+m) r=pre++(wayL cur r m++rest):=by
     rw [hD,← hstep,Nat.add_assoc,List.set_append_right _ _ (by omega),List.set_append_right _ _ (by omega),List.set_append_left _ _ (by omega),List.set_append_left _ _ (by simp;omega)]
     congr 4<;>omega
    have hgd:((D.map eIx).set (pre.length+m+1) [.v (.int .i64 x)]).getD (pre.length+m) []=[.v (.int .i64 x)]:=by
     rw [List.getD_eq_getElem?_getD,List.getElem?_set_ne (by omega),List.getElem?_map,hD0];rfl
    have hset:((D.map eIx).set (pre.length+m+1) [.v (.int .i64 x)]).set (pre.length+m) [.v (.int .i64 r)]=(pre++(wayL cur r m++rest)).map eIx:=by
     rw [← hDs,List.map_set,List.map_set];rfl
    rw [← hD]
    (refine DrawK.of (.take 0 (.take 1 (.take 2 (.take 3 (.take 4 (.take 5 (.take 6 (.take 7 (.take 8 (.take 9 (.take 10 (.take 11 (.take 12 (.take 13 (.one 14 (.take 15 (.take 16 .done))))))))))))))))) 1000 (by decide +kernel) ?_;try (push_cast (maxSteps:=mS)))
    (try push_cast (maxSteps:=mS) [hd0])
    ((repeat' with_reducible refine And.intro ?_ ?_)<;>try exact sz)
    (try push_cast (maxSteps:=mS) [hT1,hT0,getD_map hD1,getD_map hD0])
    ((repeat' with_reducible refine And.intro ?_ ?_)<;>try exact sz)
    refine ⟨_,hS,rfl,?_⟩
    (try push_cast (maxSteps:=mS))
    refine BrP.mk (fun h=>?_) (fun h=>?_)<;>try (push_cast (maxSteps:=mS) [h])
    ·have hlt0:f r x<0:=by simpa using h
     rw [if_pos hlt0] at hm2
     (refine DrawK.of (.take 0 (.take 1 (.take 5 (.take 6 (.take 7 (.take 8 (.take 9 (.take 10 (.take 11 (.take 12 (.take 13 (.take 14 (.three 2 (.two 3 (.two 4 (.one 15 (.one 16 (.one 17 .done))) 15 (.one 4 (.one 16 (.one 17 .done)))) 15 (.one 3 (.one 4 (.one 16 (.one 17 .done))))) 3 (.three 2 (.two 4 (.one 15 (.one 16 (.one 17 .done))) 15 (.one 4 (.one 16 (.one 17 .done)))) 4 (.two 2 (.one 15 (.one 16 (.one 17 .done))) 15 (.one 2 (.one 16 (.one 17 .done)))) 15 (.two 2 (.one 4 (.one 16 (.one 17 .done))) 4 (.one 2 (.one 16 (.one 17 .done))))) 15 (.two 2 (.one 3 (.one 4 (.one 16 (.one 17 .done)))) 3 (.two 2 (.one 4 (.one 16 (.one 17 .done))) 4 (.one 2 (.one 16 (.one 17 .done)))))))))))))))))) 1000 (by decide +kernel) ?_;try (push_cast (maxSteps:=mS)))
     ((repeat' with_reducible refine And.intro ?_ ?_)<;>try exact sz)
     (try push_cast (maxSteps:=mS) [hT1,hT0,getD_map hD1,getD_map hD0])
     ((repeat' with_reducible refine And.intro ?_ ?_)<;>try exact sz)
     all_goals (try simp only [List.length_set,List.length_map])
     all_goals (try push_cast (maxSteps:=mS) [hT1,hT0,hgd,hset])
     all_goals ((repeat' with_reducible refine And.intro ?_ ?_)<;>try exact sz)
     all_goals first|omega|(refine ⟨m,⟨by omega,hm2⟩,by omega,Le.st ?_⟩;(try push_cast (maxSteps:=mS));((repeat' with_reducible refine And.intro ?_ ?_)<;>try exact sz))
    ·have hlt0:¬ f r x<0:=by simpa using h
     rw [if_neg hlt0] at hm2
     have e:wayL cur r (m+1)=insR f 0 r cur:=by
      simp only [insR,← hm2,wayL]
     have hil:(insR f 0 r cur).length=cur.length+1:=insR_len _ _ _ _
     rw [e] at hD
     ((repeat' with_reducible refine And.intro ?_ ?_)<;>try exact sz)
     refine ⟨(cur.length+1,insR f 0 r cur),⟨by simp,by simp only;omega,hil,hs,fun y hy=>?_⟩,by simp only;omega,Le.st ?_⟩
     ·rcases (insR_mem f 0 r cur y).1 hy with rfl|hy
      ·exact hrm
      ·exact hm y hy
     ·simp only [hrest,← hD]
      (try push_cast (maxSteps:=mS))
      ((repeat' with_reducible refine And.intro ?_ ?_)<;>try exact sz)
  ·have hd:decide ((pre.length:Int)+(cur.length:Int)<(pre.length:Int)+(seg.length:Int))=false:=decide_eq_false (by omega)
   rw [List.drop_eq_nil_of_le (by omega)] at hs ⊢
   (try push_cast (maxSteps:=mS) [hd])
   rw [← hs]
   simp [sortR]
theorem f81 (f:Nat→Nat→Int) (fc:FuncId) (cap cap2:DV) (rows:List Nat) (hf:∀ x∈rows,∀ y∈rows,Spec V fc [i2 .i64 x,i2 .i64 y,.c (.d cap),.c (.d cap2)] (i2 .i64 (f x y))) (hn:rows.length<20) :
  SpecM V 140 3 1 (rows.map eIx) [i2 .i64 rows.length,.c (.d (.clo fc [cap,cap2]))] ((sortR f 0 [] rows).map eIx) (.tu []):=by
 have hS:SpecM V 167 3 1 (rows.map eIx) [i2 .i64 0,i2 .i64 rows.length,.c (.d (.clo fc [cap,cap2]))] ((sortR f 0 [] rows).map eIx) (.tu []):=by
  have:=f94 f fc cap cap2 [] rows [] hf (by simp only [okLen];simp;omega)
  simpa using this
 (refine SpecM.of_go (L:=lv1SB) 1000 Go.Proofs.Tryz.func140 rfl rfl ⟨Nat.le_of_ble_eq_true rfl,rfl⟩ rfl (by simp [sortR_len]) (by decide) ?_;intro cp;unfold Go.Proofs.Tryz.f140;push_cast (maxSteps:=mS))
 ((repeat' with_reducible refine And.intro ?_ ?_)<;>try exact sz)
 have hd:decide ((20:Int)≤(rows.length:Int))=false:=decide_eq_false (by omega)
 have hd2:decide ((20:Int)<(rows.length:Int))=false:=decide_eq_false (by omega)
 refine LoopK.ov (α:=Unit) [] (fun _=>[]) (fun _=>[.rw (pinT cp 3) 1 (rows.map eIx)]) (fun _=>True) (fun _=>0) 1000 () trivial (by (try push_cast (maxSteps:=mS))) ?_
 rintro _ _
 (try push_cast (maxSteps:=mS) [hd])
 refine ⟨_,_,by rw [show pinT cp 3 % 1000000=3 from tyOf_pinT cp 3];exact hS,?_⟩
 (try push_cast (maxSteps:=mS))
 refine LoopK.ov (α:=Unit) [] (fun _=>[]) (fun _=>[.rw (pinT cp 3) 1 ((sortR f 0 [] rows).map eIx)]) (fun _=>True) (fun _=>0) 1000 () trivial (by (try push_cast (maxSteps:=mS))) ?_
 rintro _ _
 (try push_cast (maxSteps:=mS) [hd2])
theorem f68 (f:Nat→Nat→Int) (fc:FuncId) (cap cap2:DV) (rows:List Nat) (hf:∀ x∈rows,∀ y∈rows,Spec V fc [i2 .i64 x,i2 .i64 y,.c (.d cap),.c (.d cap2)] (i2 .i64 (f x y))) (hn:rows.length<20) :
  SpecM V 101 3 1 (rows.map eIx) [.c (.d (.clo fc [cap,cap2]))] ((sortR f 0 [] rows).map eIx) (.tu []):=by
 have hS:=f81 f fc cap cap2 rows hf hn
 (refine SpecM.of_go (L:=lv3SB) 1000 Go.Proofs.Tryz.func101 rfl rfl ⟨Nat.le_of_ble_eq_true rfl,rfl⟩ rfl (by simp [sortR_len]) (by decide) ?_;intro cp;unfold Go.Proofs.Tryz.f101;push_cast (maxSteps:=mS))
 refine ⟨_,_,by rw [show pinT cp 3 % 1000000=3 from tyOf_pinT cp 3];exact hS,rfl⟩
theorem f80 (f:List Vl→List Vl→Int) (fc:FuncId) (cap:DV) (rows:List (List Vl)) (hf:∀ x∈rows,∀ y∈rows,Spec V fc [.c (.d (.sl 4 (x.map eV))),.c (.d (.sl 4 (y.map eV))),.c (.d cap)] (i2 .i64 (f x y))) (hn:rows.length<20) :
  SpecM V 125 28 1 (rows.map eR) [i2 .i64 rows.length,.c (.d (.clo fc [cap]))] ((sortR f [] [] rows).map eR) (.tu []):=by
 have hS:SpecM V 160 28 1 (rows.map eR) [i2 .i64 0,i2 .i64 rows.length,.c (.d (.clo fc [cap]))] ((sortR f [] [] rows).map eR) (.tu []):=by
  have:=f92 f fc cap [] rows [] hf (by simp only [okLen];simp;omega)
  simpa using this
 (refine SpecM.of_go (L:=lv1SB) 1000 Go.Proofs.Tryz.func125 rfl rfl ⟨Nat.le_of_ble_eq_true rfl,rfl⟩ rfl (by simp [sortR_len]) (by decide) ?_;intro cp;unfold Go.Proofs.Tryz.f125;push_cast (maxSteps:=mS))
 ((repeat' with_reducible refine And.intro ?_ ?_)<;>try exact sz)
 have hd:decide ((20:Int)≤(rows.length:Int))=false:=decide_eq_false (by omega)
 have hd2:decide ((20:Int)<(rows.length:Int))=false:=decide_eq_false (by omega)
 refine LoopK.ov (α:=Unit) [] (fun _=>[]) (fun _=>[.rw (pinT cp 28) 1 (rows.map eR)]) (fun _=>True) (fun _=>0) 1000 () trivial (by (try push_cast (maxSteps:=mS))) ?_
 rintro _ _
 (try push_cast (maxSteps:=mS) [hd])
 refine ⟨_,_,by rw [show pinT cp 28 % 1000000=28 from tyOf_pinT cp 28];exact hS,?_⟩
 (try push_cast (maxSteps:=mS))
 refine LoopK.ov (α:=Unit) [] (fun _=>[]) (fun _=>[.rw (pinT cp 28) 1 ((sortR f [] [] rows).map eR)]) (fun _=>True) (fun _=>0) 1000 () trivial (by (try push_cast (maxSteps:=mS))) ?_
 rintro _ _
 (try push_cast (maxSteps:=mS) [hd2])
theorem f65 (f:List Vl→List Vl→Int) (fc:FuncId) (cap:DV) (rows:List (List Vl)) (hf:∀ x∈rows,∀ y∈rows,Spec V fc [.c (.d (.sl 4 (x.map eV))),.c (.d (.sl 4 (y.map eV))),.c (.d cap)] (i2 .i64 (f x y))) (hn:rows.length<20) :
  SpecM V 86 28 1 (rows.map eR) [.c (.d (.clo fc [cap]))] ((sortR f [] [] rows).map eR) (.tu []):=by
 have hS:=f80 f fc cap rows hf hn
 (refine SpecM.of_go (L:=lv3SB) 1000 Go.Proofs.Tryz.func86 rfl rfl ⟨Nat.le_of_ble_eq_true rfl,rfl⟩ rfl (by simp [sortR_len]) (by decide) ?_;intro cp;unfold Go.Proofs.Tryz.f86;push_cast (maxSteps:=mS))
 refine ⟨_,_,by rw [show pinT cp 28 % 1000000=28 from tyOf_pinT cp 28];exact hS,rfl⟩
def sortC (ks:List Ky) (l:List Cl) (rows:List (List Vl)):List (List Vl) × Int :=
 if (placesR ks l [rows]).2≠0 then ([],(placesR ks l [rows]).2) else (sortF (ordF (placesF ks l)) rows,0)
theorem places_ok {ks:List Ky} {l:List Cl} {rows:List (List Vl)} (h':(placesR ks l [rows]).2=0):(placesR ks l [rows]).1=placesF ks l∧(ordC ks l).2=0∧∀ r∈rows,r.length=l.length:=by
 unfold placesR at h' ⊢
 by_cases h1:(ordC ks l).2≠0
 ·rw [if_pos h1] at h';exact absurd h' h1
 ·rw [if_neg h1] at h' ⊢
  by_cases h2:([rows].all (wideF l))=false
  ·rw [if_pos h2] at h';cases h'
  ·rw [if_neg h2] at h' ⊢
   exact ⟨rfl,by simpa using h1,wide_mem (by simpa using h2)⟩
theorem f35 (ks:List Ky) (l:List Cl) (rows:List (List Vl)) (hk:okLen ks) (hl:okCl l) (hr:okRs rows) (hn:rows.length<20) :
  Spec V 48 [.c (.d (.sl 2 (ks.map eK))),.c (.d (.sl 3 (l.map eC))),.c (.d (.sl 1 (rows.map eR)))] (.tu [.c (.d (.sl 1 ((sortC ks l rows).1.map eR))),i2 .i64 (sortC ks l rows).2]):=by
 have hS:=f63 ks l [rows] hk hl (by simp [okLen]) (by simpa using hr.1)
 (refine Spec.of_go (L:=fun|0=>some [0,1,2]|1=>some [2,8,9]|2=>some [2,8,9,20]|3=>some [6,7]|4=>some [8,10]|5=>some [10]|6=>some [6,7]|_=>none) 1000 Go.Proofs.Tryz.func48 rfl rfl ⟨Nat.le_of_ble_eq_true rfl,rfl⟩ rfl ?_;unfold Go.Proofs.Tryz.f48;push_cast (maxSteps:=mS))
 refine ⟨_,hS,rfl,?_⟩
 (try push_cast (maxSteps:=mS))
 refine BrP.mk (fun h=>?_) (fun h=>?_)<;>try (push_cast (maxSteps:=mS) [h])
 ·have h':¬ (placesR ks l [rows]).2=0:=by simpa using h
  have e:sortC ks l rows=([],(placesR ks l [rows]).2):=by simp [sortC,h']
  rw [e]
  (try push_cast (maxSteps:=mS))
 ·have h':(placesR ks l [rows]).2=0:=by simpa using h
  have e:sortC ks l rows=(sortF (ordF (placesF ks l)) rows,0):=by simp [sortC,h']
  obtain ⟨hp,hoc,hwd⟩:=places_ok h'
  rw [e,hp]
  (try push_cast (maxSteps:=mS))
  refine .inl ⟨_,_,_,f64R rows hr.1 (fun r h=>(hr.2 r h).1),?_⟩
  (try push_cast (maxSteps:=mS))
  have hlt:∀ x∈rows,∀ y∈placesF ks l,y.at_<x.length:=fun x hx y hy=>by
   rw [hwd x hx];exact places_lt hoc y hy
  have hS2:=f65 (ordF (placesF ks l)) 87 (.at_ [.sl 2 ((placesF ks l).map eP)]) rows (fun x hx y hy=>f66 _ x y (by simpa only [okLen,placesF,List.length_map] using hk) (hlt x hx) (hlt y hy)) hn
  rw [sortR_F (ord_ordF _)] at hS2
  exact ⟨_,_,hS2,rfl⟩
def awC:ByteArray:={ data:=#[97] }
end Go.LS.Tryz
namespace Go.LS.Tryz
open Go Go.LS
set_option maxRecDepth 100000
set_option linter.unusedSimpArgs false
set_option linter.unusedVariables false
theorem f43 (ks:List Ky) (l:List Cl) (rows:List (List Vl)) (hk:okLen ks) (hl:okCl l) (hf:∀ x∈ks,(findF x.col l 0).2.2=true) (hr:okLen rows) (hw:∀ r∈rows,r.length=l.length) :
  Spec V 60 [.c (.d (.sl 2 (ks.map eRK))),.c (.d (.sl 3 (l.map eRC))),.c (.d (.sl 1 (rows.map eRR)))] (.c (.d (.sl 1 ((uniqK (ordF (placesF ks l)) [] rows rows.length).map eRR)))):=by
 have hrl:rows.length≤1099511627776:=hr
 (refine Spec.of_go (L:=fun|0=>some [0,1,2]|1=>some [0,1,2,7]|2=>some [0,1,2,7,13,14,15]|3=>some [0,1,2,7,13,14,15,16]|4=>some [0,1,2,7,8,9,13,14,15]|5=>some [0,1,2,7,8,9,10,13,14,15]|6=>some [0,1,2,7,9,10,13,14,15,22,23,24]|7=>some [0,1,2,7,9,10,13,14,15,22,23,24,25]|8=>some [0,1,2,7,9,10,12,13,14,15,22,23,24]|9=>some [0,1,2,7,9,10,13,14,15,22,23,24]|10=>some [0,1,2,7,9,10,13,14,15,22,23,24]|11=>some [0,1,2,7,9,13,14,15,38]|12=>some [0,1,2,7,13,14,15]|13=>some [0,1,2,7,13,14,15]|14=>some [6]|_=>none) 1000 Go.Proofs.Tryz.func60 rfl rfl ⟨Nat.le_of_ble_eq_true rfl,rfl⟩ rfl ?_;unfold Go.Proofs.Tryz.f60;push_cast (maxSteps:=mS))
 refine LoopK.le (Le.nil 7 39 1 (by decide) (by (try push_cast (maxSteps:=mS)))) ?_
 (try push_cast (maxSteps:=mS))
 refine LoopK.ov (α:=Nat) [15] (fun k=>[i2 .i64 k]) (fun k=>[.rw 39 1 ((uniqK (ordF (placesF ks l)) [] rows k).map eRR)]) (fun k=>k≤rows.length) (fun k=>rows.length - k) 1000 0 (by omega) (by (try push_cast (maxSteps:=mS))<;>first|rfl|simp [uniqK]) ?_
 rintro k hk'
 by_cases hlt:k<rows.length
 ·have hv:=atT hlt;have hd:=ltT hlt
  have hgk:rows.getD k []=rows[k]:=by simp [List.getD_eq_getElem?_getD,hv]
  have hul:=uniqK_len (ordF (placesF ks l)) [] rows k
  have hnx:uniqK (ordF (placesF ks l)) [] rows (k+1)=if firstB (ordF (placesF ks l)) [] rows k=true then uniqK (ordF (placesF ks l)) [] rows k++[rows[k]] else uniqK (ordF (placesF ks l)) [] rows k:=by
   rw [uniqK,hgk]
  have hS:∀ j (hj:j<k),Spec V 105 [.c (.d (.sl 2 (ks.map eRK))),.c (.d (.sl 3 (l.map eRC))),.c (.d (.sl 4 ((rows[j]'(by omega)).map eRV))),.c (.d (.sl 4 (rows[k].map eRV)))] (i2 .i64 (ordF (placesF ks l) (rows[j]'(by omega)) rows[k])):=fun j hj=>f40 ks l _ _ hk hl hf (hw _ (List.getElem_mem _)) (hw _ (List.getElem_mem _))
  have hfb:firstB (ordF (placesF ks l)) [] rows k=ixs (fun j=>!decide (ordF (placesF ks l) (rows.getD j []) rows[k]=0)) k:=by rw [firstB,hgk]
  generalize rows[k]=r at *
  have htl:(List.take k (List.map eRR rows)).length=k:=by simp only [List.length_take,List.length_map];omega
  (try push_cast (maxSteps:=mS) [hd,getD_map hv])
  ((repeat' with_reducible refine And.intro ?_ ?_)<;>try exact sz)
  rw [htl]
  generalize hpp:(fun j=>!decide (ordF (placesF ks l) (rows.getD j []) r=0))=p at *
  refine LoopK.s1 (α:=Nat) [24,10] (fun j=>[i2 .i64 j,b2 (ixs p j)]) (fun j=>j≤k) (fun j=>k - j) 1000 0 (by omega) (by (try push_cast (maxSteps:=mS))<;>first|rfl|simp [ixs]) ?_
  rintro j hj
  by_cases hlt2:j<k
  ·have hd2:decide ((j:Int)<(k:Int))=true:=decide_eq_true (by omega)
   have hjr:j<rows.length:=by omega
   have hvj:=List.getElem?_eq_getElem hjr
   have hgj:(List.take k (List.map eRR rows)).getD j []=eRR rows[j]:=by
    rw [List.getD_eq_getElem?_getD,List.getElem?_take,if_pos hlt2,List.getElem?_map,hvj];rfl
   have hSj:=hS j hlt2
   have hpj:p j=!decide (ordF (placesF ks l) rows[j] r=0):=by
    rw [← hpp];simp [List.getD_eq_getElem?_getD,hvj]
   have hix:ixs p (j+1)=(p j && ixs p j):=rfl
   generalize rows[j]=x at *
   (try push_cast (maxSteps:=mS) [hd2,hgj])
   ((repeat' with_reducible refine And.intro ?_ ?_)<;>try exact sz)
   cases hx:ixs p j with
   | false =>
    rw [hx,Bool.and_false] at hix
    (try push_cast (maxSteps:=mS))
    ((repeat' with_reducible refine And.intro ?_ ?_)<;>try exact sz)
    refine ⟨j+1,by omega,by omega,Le.st ?_⟩
    rw [hix]
    (try push_cast (maxSteps:=mS))
   | true =>
    rw [hx,Bool.and_true,hpj] at hix
    (try push_cast (maxSteps:=mS))
    refine ⟨_,hSj,rfl,?_⟩
    (try push_cast (maxSteps:=mS))
    ((repeat' with_reducible refine And.intro ?_ ?_)<;>try exact sz)
    refine ⟨j+1,by omega,by omega,Le.st ?_⟩
    rw [hix]
    (try push_cast (maxSteps:=mS))
  ·have hd2:decide ((j:Int)<(k:Int))=false:=decide_eq_false (by omega)
   have hjk:j=k:=by omega
   subst hjk
   rw [hfb] at hnx
   (try push_cast (maxSteps:=mS) [hd2])
   refine BrP.mk (fun h=>?_) (fun h=>?_)<;>try (push_cast (maxSteps:=mS) [h])
   ·rw [if_pos h] at hnx
    ((repeat' with_reducible refine And.intro ?_ ?_)<;>try exact sz)
    refine ⟨j+1,by omega,by omega,Le.st ?_⟩
    rw [hnx,List.map_append]
    (try push_cast (maxSteps:=mS))
    try rfl
   ·rw [if_neg (by simp [h])] at hnx
    ((repeat' with_reducible refine And.intro ?_ ?_)<;>try exact sz)
    refine ⟨j+1,by omega,by omega,Le.st ?_⟩
    rw [hnx]
    (try push_cast (maxSteps:=mS))
 ·have hd:=geF hlt
  have:k=rows.length:=by omega
  subst this
  (try push_cast (maxSteps:=mS) [hd])
theorem f69 (p:List Pl) (rows:List (List Vl)) (a b:Nat) (hl:okLen p) (hr:okLen rows) (hp:∀ r∈rows,∀ x∈p,x.at_<r.length) (ha:a<rows.length) (hb:b<rows.length) :
  Spec V 102 [i2 .i64 a,i2 .i64 b,.c (.d (.at_ [.sl 2 (p.map eP)])),.c (.d (.at_ [.sl 1 (rows.map eR)]))] (i2 .i64 (byNo (ordF p) [] rows a b)):=by
 have hva:=List.getElem?_eq_getElem ha
 have hvb:=List.getElem?_eq_getElem hb
 have hS:=f67 p rows[a] rows[b] hl (hp _ (List.getElem_mem ha)) (hp _ (List.getElem_mem hb))
 have e:byNo (ordF p) [] rows a b=ordF p rows[a] rows[b]:=by simp [byNo,List.getD_eq_getElem?_getD,hva,hvb]
 have hrl:rows.length≤1099511627776:=hr
 rw [e]
 (refine Spec.of_go (L:=fun|0=>some [0,1,2,3]|1=>some [6]|_=>none) 1000 Go.Proofs.Tryz.func102 rfl rfl ⟨Nat.le_of_ble_eq_true rfl,rfl⟩ rfl ?_;unfold Go.Proofs.Tryz.f102;push_cast (maxSteps:=mS))
 (refine DrawK.of (.take 0 (.take 1 (.take 2 (.take 3 (.take 4 (.take 5 (.take 6 (.take 7 (.take 8 (.one 9 (.take 10 .done))))))))))) 1000 (by decide +kernel) ?_;try (push_cast (maxSteps:=mS)))
 (try push_cast (maxSteps:=mS) [getD_map hva,getD_map hvb])
 ((repeat' with_reducible refine And.intro ?_ ?_)<;>try exact sz)
 refine ⟨_,hS,rfl,?_⟩
 (try push_cast (maxSteps:=mS))
def eB (b:Bool):List DV:=[.v (.bool b)]
@[push_cast] theorem eB_eq (b:Bool):eB b=[.v (.bool b)]:=rfl
theorem range_step {n k:Nat} (h:k<n):(List.range k++List.replicate (n - k) 0).set k k=List.range (k+1)++List.replicate (n - (k+1)) 0:=by
 have e:n - k=n - (k+1)+1:=by omega
 rw [List.set_append_right _ _ (by simp),e,List.replicate_succ,List.length_range,Nat.sub_self,List.set_cons_zero,List.range_succ,List.append_assoc]
 rfl
def uniqC (ks:List Ky) (l:List Cl) (rows:List (List Vl)):List (List Vl) × Int :=
 if (placesR ks l [rows]).2≠0 then ([],(placesR ks l [rows]).2) else (uniqK (ordF (placesF ks l)) [] rows rows.length,0)
theorem f42 (ks:List Ky) (l:List Cl) (rows:List (List Vl)) (hk:okLen ks) (hl:okCl l) (hr:okRs rows) (hn:rows.length<20) :
  Spec V 53 [.c (.d (.sl 2 (ks.map eK))),.c (.d (.sl 3 (l.map eC))),.c (.d (.sl 1 (rows.map eR)))] (.tu [.c (.d (.sl 1 ((uniqC ks l rows).1.map eR))),i2 .i64 (uniqC ks l rows).2]):=by
 have hS:=f63 ks l [rows] hk hl (by simp [okLen]) (by simpa using hr.1)
 (refine Spec.of_go (L:=fun|0=>some [0,1,5]|1=>some [5,8,9]|2=>some [5,8,9,27]|3=>some [6,7]|4=>some [5,8,10]|5=>some [5,8,10,33,34]|6=>some [5,8,10,33,34,35]|7=>some [5,8,10,11,33,34]|8=>some [5,8,10,33,34]|9=>some [5,8,10,33,34]|10=>some [5,8,10]|11=>some [5,8,10,12]|12=>some [5,8,10,12,48,49,50]|13=>some [5,8,10,12,48,49,50,51]|14=>some [5,8,10,12,13,14,48,49,50]|15=>some [5,8,10,12,48,49,50]|16=>some [5,8,10,12,48,49,50]|17=>some [5,12,15]|18=>some [12,15,78,79,80]|19=>some [12,15,78,79,80,81]|20=>some [12,15,16,17,78,79,80]|21=>some [12,15,17,78,79,80,88]|22=>some [12,15,78,79,80]|23=>some [12,15,78,79,80]|24=>some [6,7]|_=>none) 1000 Go.Proofs.Tryz.func53 rfl rfl ⟨Nat.le_of_ble_eq_true rfl,rfl⟩ rfl ?_;unfold Go.Proofs.Tryz.f53;push_cast (maxSteps:=mS))
 refine ⟨_,hS,rfl,?_⟩
 (try push_cast (maxSteps:=mS))
 refine BrP.mk (fun h=>?_) (fun h=>?_)<;>try (push_cast (maxSteps:=mS) [h])
 ·have h':¬ (placesR ks l [rows]).2=0:=by simpa using h
  have e:uniqC ks l rows=([],(placesR ks l [rows]).2):=by simp [uniqC,h']
  rw [e]
  (try push_cast (maxSteps:=mS))
 ·have h':(placesR ks l [rows]).2=0:=by simpa using h
  have e:uniqC ks l rows=(uniqK (ordF (placesF ks l)) [] rows rows.length,0):=by simp [uniqC,h']
  obtain ⟨hp,hoc,hwd⟩:=places_ok h'
  rw [e,hp]
  have hfo:=ord_ordF (placesF ks l)
  have hpl:okLen (placesF ks l):=by simpa only [okLen,placesF,List.length_map] using hk
  have hPl:∀ x∈rows,∀ y∈placesF ks l,y.at_<x.length:=fun x hx y hy=>by
   rw [hwd x hx];exact places_lt hoc y hy
  (try push_cast (maxSteps:=mS))
  ((repeat' with_reducible refine And.intro ?_ ?_)<;>try exact sz)
  simp only [List.length_replicate]
  generalize hf:ordF (placesF ks l)=f at *
  refine LoopK.ov (α:=Nat) [34] (fun k=>[i2 .i64 k]) (fun k=>[.bx 23 [.d (.sl 1 (rows.map eR))],.dead,.bx 160 [.d (.sl 2 ((placesF ks l).map eP))],.rw 3 1 ((List.range k++List.replicate (rows.length - k) 0).map eIx)]) (fun k=>k≤rows.length) (fun k=>rows.length - k) 1000 0 (by omega) (by (try push_cast (maxSteps:=mS))<;>first|rfl|simp [eIx,zeroD]) ?_
  rintro k hk'
  by_cases hlt:k<rows.length
  ·have hv:=atT hlt;have hd:=ltT hlt
   have hst:=range_step hlt
   obtain ⟨D,hD⟩:∃ D,D=List.range k++List.replicate (rows.length - k) 0:=⟨_,rfl⟩
   have hDl:D.length=rows.length:=by rw [hD];simp;omega
   have hset:(D.map eIx).set k [.v (.int .i64 (k:Int))]=(List.range (k+1)++List.replicate (rows.length - (k+1)) 0).map eIx:=by
    rw [← hst,← hD,List.map_set];rfl
   have hgd:List.drop 1 ((D.map eIx).getD k [])=[]:=by
    have hDk:k<D.length:=by omega
    rw [List.getD_eq_getElem?_getD,List.getElem?_map,List.getElem?_eq_getElem hDk];rfl
   rw [← hD]
   (try push_cast (maxSteps:=mS) [hd,hgd,hset])
   ((repeat' with_reducible refine And.intro ?_ ?_)<;>try exact sz)
   refine ⟨k+1,by omega,by omega,Le.st ?_⟩
   (try push_cast (maxSteps:=mS) [hgd,hset])
   all_goals rfl
  ·have hd:=geF hlt
   have:k=rows.length:=by omega
   subst this
   have h68:=f68 (byNo f [] rows) 102 (.at_ [.sl 2 ((placesF ks l).map eP)]) (.at_ [.sl 1 (rows.map eR)]) (List.range rows.length) (fun x hx y hy=>by
    have:=f69 (placesF ks l) rows x y hpl hr.1 hPl (List.mem_range.1 hx) (List.mem_range.1 hy)
    rwa [hf] at this) (by simp;omega)
   rw [sortR_F (f:=byNo f [] rows) (hfo.on fun a=>rows.getD a [])] at h68
   have eD:List.range rows.length++List.replicate (rows.length - rows.length) 0=List.range rows.length:=by simp
   rw [eD]
   (try push_cast (maxSteps:=mS) [hd])
   refine ⟨_,_,h68,?_⟩
   have hflag:=fun i=>@flag_first _ f hfo [] rows _ rfl i
   have hLm:∀ x,x∈sortF (byNo f [] rows) (List.range rows.length)↔x<rows.length:=fun x=>by rw [sortF_mem,List.mem_range]
   have hLl:(sortF (byNo f [] rows) (List.range rows.length)).length=rows.length:=by rw [sortF_len,List.length_range]
   generalize sortF (byNo f [] rows) (List.range rows.length)=L at *
   (try push_cast (maxSteps:=mS))
   ((repeat' with_reducible refine And.intro ?_ ?_)<;>try exact sz)
   refine LoopK.ov (α:=Nat × List Bool) [50] (fun p=>[i2 .i64 p.1]) (fun p=>[.dead,.dead,.dead,.rw 3 1 (L.map eIx),.rw 4 1 (p.2.map eB)])
    (fun p=>p.1≤L.length∧p.2.length=rows.length∧∀ i,i<p.1→∀ (h:i<L.length),p.2[L[i]]?=some (firstB f [] rows L[i])) (fun p=>L.length - p.1) 1000 (0,List.replicate rows.length false) ⟨by simp,by simp,fun i h=>by simp at h⟩ (by (try push_cast (maxSteps:=mS))<;>first|rfl|simp [eB,zeroD]) ?_
   rintro ⟨i,bs⟩ ⟨hi,hbl,hb⟩
   simp only at hi hbl hb
   by_cases hil:i<L.length
   ·have hvi:=List.getElem?_eq_getElem hil
    have hdi:decide ((i:Int)<(L.length:Int))=true:=decide_eq_true (by omega)
    have hfl:=hflag i hil
    have hmr:L[i]<rows.length:=(hLm _).1 (List.getElem_mem hil)
    have hmL:∀ i',i'<i+1→∀ (h:i'<L.length),(bs.set L[i] (firstB f [] rows L[i]))[L[i']]?=some (firstB f [] rows L[i']):=fun i' hi' h=>by
     by_cases e:L[i']=L[i]
     ·rw [e,List.getElem?_set_self (by omega)]
     ·rw [List.getElem?_set_ne (fun e'=>e e'.symm)]
      refine hb i' ?_ h
      rcases Nat.lt_or_ge i' i with h1|h1
      ·exact h1
      ·have:i'=i:=by omega
       subst this;exact absurd rfl e
    have hset2:(bs.map eB).set L[i] [.v (.bool (firstB f [] rows L[i]))]=(bs.set L[i] (firstB f [] rows L[i])).map eB:=by
     rw [List.map_set];rfl
    have hgd2:List.drop 1 ((bs.map eB).getD L[i] [])=[]:=by
     have:L[i]<bs.length:=by omega
     rw [List.getD_eq_getElem?_getD,List.getElem?_map,List.getElem?_eq_getElem this];rfl
    have hvm:=List.getElem?_eq_getElem hmr
    rcases i with _|i
    ·have hb1:firstB f [] rows L[0]=true:=by rw [← hfl];rfl
     rw [hb1] at hset2 hmL
     generalize L[0]=m at *
     have hdi0:decide (0<(L.length:Int))=true:=decide_eq_true (by omega)
     (try push_cast (maxSteps:=mS) [hdi0,getD_map hvi])
     ((repeat' with_reducible refine And.intro ?_ ?_)<;>try exact sz)
     (refine DrawK.of (.take 0 (.take 1 (.take 2 (.take 3 (.take 4 (.take 5 (.take 6 (.take 7 (.take 8 (.take 9 (.take 10 (.take 11 (.take 12 (.take 13 (.take 14 (.take 15 (.take 16 (.take 17 (.one 18 (.take 19 (.take 20 (.take 21 (.one 22 .done))))))))))))))))))))))) 1000 (by decide +kernel) ?_;try (push_cast (maxSteps:=mS)))
     ((repeat' with_reducible refine And.intro ?_ ?_)<;>try exact sz)
     (try push_cast (maxSteps:=mS) [hgd2,hset2])
     refine ⟨(1,bs.set m true),⟨by simp only;omega,by simp only [List.length_set];exact hbl,hmL⟩,by simp only;omega,Le.st ?_⟩
     (try push_cast (maxSteps:=mS))
     all_goals rfl
    ·have hi0:i<L.length:=by omega
     have hv0:=List.getElem?_eq_getElem hi0
     have hm0:L[i]<rows.length:=(hLm _).1 (List.getElem_mem hi0)
     have hv0m:=List.getElem?_eq_getElem hm0
     have hC:=f67 (placesF ks l) rows[L[i]] rows[L[i+1]] hpl (hPl _ (List.getElem_mem _)) (hPl _ (List.getElem_mem _))
     rw [hf] at hC
     have eC:byNo f [] rows (L.getD (i+1 - 1) 0) L[i+1]=f rows[L[i]] rows[L[i+1]]:=by
      have:L.getD (i+1 - 1) 0=L[i]:=by simp [List.getD_eq_getElem?_getD,hv0]
      rw [this]
      simp [byNo,List.getD_eq_getElem?_getD,hvm,hv0m]
     rw [eC] at hfl
     have hfl2:(!decide (f rows[L[i]] rows[L[i+1]]=0))=firstB f [] rows L[i+1]:=by simpa using hfl
     have hT0:((i:Int)+1 - 1).toNat=i:=by omega
     have hT1:((i:Int)+1).toNat=i+1:=by omega
     have hne0:decide (((i:Int)+1)=0)=false:=decide_eq_false (by omega)
     generalize firstB f [] rows L[i+1]=b at *
     generalize rows[L[i]]=r0 at *
     generalize rows[L[i+1]]=r1 at *
     generalize L[i+1]=m1 at *
     generalize L[i]=m0 at *
     have hdi1:decide ((i:Int)+1<(L.length:Int))=true:=decide_eq_true (by omega)
     (try push_cast (maxSteps:=mS) [hdi1,hT1,getD_map hvi])
     ((repeat' with_reducible refine And.intro ?_ ?_)<;>try exact sz)
     (refine DrawK.of (.take 0 (.take 1 (.take 2 (.take 3 (.take 4 (.take 5 (.take 6 (.take 7 (.take 8 (.take 9 (.take 10 (.take 11 (.take 12 (.take 13 (.take 14 (.take 15 (.take 16 (.take 17 (.one 18 (.take 19 (.take 20 (.take 21 (.one 22 .done))))))))))))))))))))))) 1000 (by decide +kernel) ?_;try (push_cast (maxSteps:=mS)))
     ((repeat' with_reducible refine And.intro ?_ ?_)<;>try exact sz)
     (try push_cast (maxSteps:=mS) [hne0,hT0,hT1,getD_map hv0,getD_map hvm,getD_map hv0m])
     ((repeat' with_reducible refine And.intro ?_ ?_)<;>try exact sz)
     refine ⟨_,hC,rfl,?_⟩
     (try push_cast (maxSteps:=mS) [hfl2,hgd2,hset2])
     ((repeat' with_reducible refine And.intro ?_ ?_)<;>try exact sz)
     (try push_cast (maxSteps:=mS) [hfl2,hgd2,hset2])
     ((repeat' with_reducible refine And.intro ?_ ?_)<;>try exact sz)
     refine ⟨(i+1+1,bs.set m1 b),⟨by simp only;omega,by simp only [List.length_set];exact hbl,hmL⟩,by simp only;omega,Le.st ?_⟩
     (try push_cast (maxSteps:=mS))
     all_goals rfl
   ·have hdi:decide ((i:Int)<(L.length:Int))=false:=decide_eq_false (by omega)
    have hbs:∀ m,m<rows.length→bs[m]?=some (firstB f [] rows m):=fun m hm=>by
     obtain ⟨i',hi',rfl⟩:=List.mem_iff_getElem.1 ((hLm m).2 hm)
     exact hb i' (by omega) hi'
    (try push_cast (maxSteps:=mS) [hdi])
    refine LoopK.le (Le.nil 15 28 1 (by decide) (by (try push_cast (maxSteps:=mS)))) ?_
    (try push_cast (maxSteps:=mS))
    refine LoopK.ov (α:=Nat) [80] (fun k=>[i2 .i64 k]) (fun k=>[.dead,.dead,.dead,.rw 3 1 (L.map eIx),.rw 4 1 (bs.map eB),.rw 28 1 ((uniqK f [] rows k).map eR)]) (fun k=>k≤rows.length) (fun k=>rows.length - k) 1000 0 (by omega) (by (try push_cast (maxSteps:=mS))<;>first|rfl|simp [uniqK]) ?_
    rintro k hk'
    by_cases hkr:k<rows.length
    ·have hv:=List.getElem?_eq_getElem hkr
     have hdk:decide ((k:Int)<(rows.length:Int))=true:=decide_eq_true (by omega)
     have hgk:rows.getD k []=rows[k]:=by simp [List.getD_eq_getElem?_getD,hv]
     have hul:=uniqK_len f [] rows k
     have hnx:uniqK f [] rows (k+1)=if firstB f [] rows k=true then uniqK f [] rows k++[rows[k]] else uniqK f [] rows k:=by
      rw [uniqK,hgk]
     have h58:=f58 rows[k] (hr.2 _ (List.getElem_mem hkr)).1
     have hbk:=hbs k hkr
     generalize firstB f [] rows k=fb at *
     generalize rows[k]=row at *
     (try push_cast (maxSteps:=mS) [hdk,getD_map hv,getD_map hbk])
     ((repeat' with_reducible refine And.intro ?_ ?_)<;>try exact sz)
     (try push_cast (maxSteps:=mS) [getD_map hbk])
     cases fb with
     | false =>
      rw [if_neg (by simp)] at hnx
      (try push_cast (maxSteps:=mS))
      ((repeat' with_reducible refine And.intro ?_ ?_)<;>try exact sz)
      refine ⟨k+1,by omega,by omega,Le.st ?_⟩
      rw [hnx]
      (try push_cast (maxSteps:=mS))
      all_goals rfl
     | true =>
      rw [if_pos rfl] at hnx
      (try push_cast (maxSteps:=mS))
      refine ⟨_,h58,rfl,?_⟩
      (try push_cast (maxSteps:=mS))
      ((repeat' with_reducible refine And.intro ?_ ?_)<;>try exact sz)
      refine ⟨k+1,by omega,by omega,Le.st ?_⟩
      rw [hnx,List.map_append]
      (try push_cast (maxSteps:=mS))
      all_goals first|rfl|exact ⟨rfl,rfl⟩|trace_state
    ·have hdk:decide ((k:Int)<(rows.length:Int))=false:=decide_eq_false (by omega)
     have:k=rows.length:=by omega
     subst this
     (try push_cast (maxSteps:=mS) [hdk])
end Go.LS.Tryz
