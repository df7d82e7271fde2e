/- Contracts of the functions of the seat,one by one (part Z3q);no condition but those that each bears. -/
import Derived.Test.YtfmbjaeppffdpaaGreatDoorZ2
import Derived.Test.YtfmbjaeppffdpaaGreatDoorZM
import Derived.Test.YtfmbjaeppffdpaaGreatDoorPP
import Derived.Test.YtfmbjaeppffdpaaGreatDoorDD
import Derived.Test.YtfmbjaeppffdpaaGreatDoorDE
namespace Go.LS.Tryz
open Go Go.LS
set_option maxRecDepth 100000
set_option linter.unusedSimpArgs false
set_option linter.unusedVariables false
theorem uniq_mem {α:Type} (f:α→α→Int) (d:α) (rows:List α):∀ k,∀ x∈uniqK f d rows k,x=d∨x∈rows:=by
 intro k
 induction k with
 | zero=>intro x hx;cases hx
 | succ k ih =>
  intro x hx
  rw [uniqK] at hx
  split at hx
  ·rcases List.mem_append.1 hx with hx|hx
   ·exact ih x hx
   ·rw [List.mem_singleton.1 hx,List.getD_eq_getElem?_getD]
    cases h:rows[k]? with
    | none=>exact .inl rfl
    | some v=>exact .inr (List.mem_of_getElem? h)
  ·exact ih x hx
set_option maxHeartbeats 8000000 in
theorem z20q (t:Tb) (s:Stp) (ht:okQ t) (hs:okH s) (hj:s.kind=6→t.R.length≤200):Spec V 20 [.ag ((eT t).map .d),.ag ((eSt s).map .d)] (.tu [.ag ((eT (stepT t s).1).map .d),i2 .i64 (stepT t s).2]):=by
 obtain ⟨⟨htl,htr,htv,hright⟩,hL,hR⟩:=ht
 have hS:t.R.length≤1000000000:=by omega
 have hrs:okRs t.R:=okT2.rs ⟨htl,htr,htv,hright⟩
 have hrl:∀ r∈t.R,okLen r:=fun r hr=>(htv r hr).1
 have h45:=z45 t htl htr hrl
 obtain ⟨⟨hki,hq,hks,hni,hnl,hw0,hon0,hhow,hag0,htot⟩,hnm,hnz,hon,hag,haz,hw,hwl,hwr⟩:=hs
 have h46:=f25 s.q t.L t.R hq htl htr hrl
 have h48:=g35 s.ks t.L t.R hks htl hrs hS
 have h53:=g42 s.ks t.L t.R hks htl hrs hS
 have h49:=fun h=>z49 t s.nm htl (by simp only [okKeys];omega) htr h
 have h50:=z50 t s.nm htl (by simp only [okKeys];omega) htr hrl (fun n h=>by have:=hnz n h;omega)
 have h51:=fun h6=>d38 t s.w s.on s.how ⟨htl,htr,htv,hright⟩ hw (by omega) hhow (by omega) (by omega) (hj h6) (by omega)
 have h52:=d60 t s.nm s.ag ⟨htl,htr,htv,hright⟩ (by simp only [okKeys];omega) (by omega) haz (by omega)
 have m1:∀ r∈(selF s.q t.L t.R).1,okLen r:=fun r hr=>by
  unfold selF at hr
  split at hr
  ·cases hr
  ·split at hr
   ·cases hr
   ·exact hrl r (List.mem_filter.1 hr).1
 have l1:okLen (selF s.q t.L t.R).1:=by
  have:t.R.length≤500:=hR
  unfold selF
  split
  ·simp [okLen]
  ·split
   ·simp [okLen]
   ·have:=List.length_filter_le (fun r=>holdsF s.q t.L r) t.R
    simp only [okLen];omega
 have m2:∀ r∈(sortC s.ks t.L t.R).1,okLen r:=fun r hr=>by
  unfold sortC at hr
  split at hr
  ·cases hr
  ·exact hrl r ((sortF_mem _ _ _).1 hr)
 have l2:okLen (sortC s.ks t.L t.R).1:=by
  unfold sortC
  split
  ·simp [okLen]
  ·simp only [okLen,sortF_len];omega
 have m8:∀ r∈(uniqC s.ks t.L t.R).1,okLen r:=fun r hr=>by
  unfold uniqC at hr
  split at hr
  ·cases hr
  ·rcases uniq_mem _ _ _ _ r hr with h|h
   ·subst h;simp [okLen]
   ·exact hrl r h
 have l8:okLen (uniqC s.ks t.L t.R).1:=by
  unfold uniqC
  split
  ·simp [okLen]
  ·have:=uniqK_len (ordF (placesF s.ks t.L)) [] t.R t.R.length
   simp only [okLen];omega
 have t1:=z47 t.L (selF s.q t.L t.R).1 (selF s.q t.L t.R).2 htl.1 l1 m1
 have t2:=z47 t.L (sortC s.ks t.L t.R).1 (sortC s.ks t.L t.R).2 htl.1 l2 m2
 have t8:=z47 t.L (uniqC s.ks t.L t.R).1 (uniqC s.ks t.L t.R).2 htl.1 l8 m8
 have t3:=z47 t.L (t.R.take (max 0 (min s.n t.R.length)).toNat) 0 htl.1 (by simp only [okLen,List.length_take];omega) (fun r hr=>hrl r (List.mem_of_mem_take hr))
 have hev:chkT t=0→∀ r∈t.R,r.length=t.L.length:=fun h=>by
  unfold chkT at h
  split at h
  ·contradiction
  ·split at h
   ·cases h
   ·rename_i h2
    have:evenF t=true:=by simpa using h2
    simpa [evenF] using this
 obtain ⟨F,hF⟩:∃ F,F=stepT t s:=⟨_,rfl⟩
 rw [← hF]
 have e2:sortP s.ks t.L t.R=sortC s.ks t.L t.R:=rfl
 have e8:uniqP s.ks t.L t.R=uniqC s.ks t.L t.R:=rfl
 unfold stepT at hF
 rw [e2,e8] at hF
 obtain ⟨L,A⟩:=t
 obtain ⟨kind,⟨op,col,v,vl,kids⟩,ks,n,nm,⟨L2,A2⟩,on,how,ag⟩:=s
 simp only [eT_eq,eN_eq,op_mk,col_mk,v_mk,l_mk,ks_mk] at *
 generalize chkT ⟨L,A⟩=c at *
 (refine Spec.of_go (L:=fun|0=>some [2,3,4]|1=>some [2,3,4,6]|2=>some [2,3,4,6,16]|3=>some [4,5]|4=>some [2,3,4,20]|5=>some [2,3,4,20,21]|6=>some [2,4,7,8]|7=>some [4,5]|8=>some [2,3,4,20,40]|9=>some [2,4,9,10]|10=>some [4,5]|11=>some [2,3,4,20,59]|12=>some [4,5]|13=>some [2,3,4,20,76]|14=>some [4,5]|15=>some [2,3,4,20,84]|16=>some [4,5]|17=>some [2,3,4,20,92]|18=>some [4,5]|19=>some [2,3,4,20,104]|20=>some [4,5]|21=>some [2,3,4,114]|22=>some [2,4,11,12]|23=>some [4,5]|24=>some [4,5]|_=>none) 1000 Go.Proofs.Tryz.func20 rfl rfl ⟨Nat.le_of_ble_eq_true rfl,rfl⟩ rfl ?_;unfold Go.Proofs.Tryz.f20;push_cast (maxSteps:=mS))
 refine ⟨_,h45,rfl,?_⟩
 by_cases c1:c=0
 ·rw [if_neg (by simp [c1])] at hF
  replace h49:=h49 (hev c1)
  clear hev
  (try push_cast (maxSteps:=mS) [c1])
  by_cases k1:kind=1
  ·rw [if_pos k1] at hF
   subst hF
   (try push_cast (maxSteps:=mS) [k1])
   refine ⟨_,h46,rfl,?_⟩
   (try push_cast (maxSteps:=mS))
   refine ⟨_,t1,rfl,?_⟩
   (try push_cast (maxSteps:=mS))
  ·rw [if_neg k1] at hF
   (try push_cast (maxSteps:=mS) [k1])
   by_cases k2:kind=2
   ·rw [if_pos k2] at hF
    subst hF
    (try push_cast (maxSteps:=mS) [k2])
    refine ⟨_,h48,rfl,?_⟩
    (try push_cast (maxSteps:=mS))
    refine ⟨_,t2,rfl,?_⟩
    (try push_cast (maxSteps:=mS))
   ·rw [if_neg k2] at hF
    (try push_cast (maxSteps:=mS) [k2])
    by_cases k3:kind=3
    ·rw [if_pos k3] at hF
     subst hF
     have et:tabT L (A.take (max 0 (min n A.length)).toNat) 0=(⟨L,A.take (max 0 (min n A.length)).toNat⟩,0):=rfl
     rw [et] at t3
     simp only [eT_eq,List.map_take] at t3
     (try push_cast (maxSteps:=mS) [k3])
     (refine DrawK.of (.take 0 (.take 1 (.take 2 (.take 3 (.take 4 (.take 5 (.take 6 (.take 7 (.take 8 (.take 9 (.take 10 (.take 11 (.one 12 (.take 13 (.take 14 (.one 15 (.one 16 .done))))))))))))))))) 1000 (by decide +kernel) ?_;try (push_cast (maxSteps:=mS)))
     ((repeat' with_reducible refine And.intro ?_ ?_)<;>try exact sz)
     all_goals (refine ⟨_,t3,rfl,?_⟩)
     all_goals (try push_cast (maxSteps:=mS) [List.map_take])
    ·rw [if_neg k3] at hF
     (try push_cast (maxSteps:=mS) [k3])
     by_cases k4:kind=4
     ·rw [if_pos k4] at hF
      subst hF
      (try push_cast (maxSteps:=mS) [k4])
      refine ⟨_,h49,rfl,?_⟩
      (try push_cast (maxSteps:=mS))
     ·rw [if_neg k4] at hF
      (try push_cast (maxSteps:=mS) [k4])
      by_cases k5:kind=5
      ·rw [if_pos k5] at hF
       subst hF
       (try push_cast (maxSteps:=mS) [k5])
       refine ⟨_,h50,rfl,?_⟩
       (try push_cast (maxSteps:=mS))
      ·rw [if_neg k5] at hF
       (try push_cast (maxSteps:=mS) [k5])
       by_cases k6:kind=6
       ·rw [if_pos k6] at hF
        subst hF
        replace h51:=h51 k6
        (try push_cast (maxSteps:=mS) [k6])
        refine ⟨_,h51,rfl,?_⟩
        (try push_cast (maxSteps:=mS))
       ·rw [if_neg k6] at hF
        (try push_cast (maxSteps:=mS) [k6])
        by_cases k7:kind=7
        ·rw [if_pos k7] at hF
         subst hF
         (try push_cast (maxSteps:=mS) [k7])
         refine ⟨_,h52,rfl,?_⟩
         (try push_cast (maxSteps:=mS))
        ·rw [if_neg k7] at hF
         (try push_cast (maxSteps:=mS) [k7])
         by_cases k8:kind=8
         ·rw [if_pos k8] at hF
          subst hF
          (try push_cast (maxSteps:=mS) [k8])
          refine ⟨_,h53,rfl,?_⟩
          (try push_cast (maxSteps:=mS))
          refine ⟨_,t8,rfl,?_⟩
          (try push_cast (maxSteps:=mS))
         ·rw [if_neg k8] at hF
          (try push_cast (maxSteps:=mS) [k8])
          subst hF
          (try push_cast (maxSteps:=mS) [tb0])
 ·rw [if_pos c1] at hF
  subst hF
  (try push_cast (maxSteps:=mS) [c1,tb0])
set_option maxHeartbeats 4000000 in
theorem z25q (t:Tb) (l:List Stp) (hl:l.length≤100) (hs:∀ s∈l,okH s) (P:Nat→Tb→Prop) (hP:∀ i t,P i t→okQ t) (hJ:∀ i t s,P i t→l[i]?=some s→s.kind=6→t.R.length≤200) (h0:P 0 t) (hn:∀ i t s,P i t→l[i]?=some s→(stepT t s).2=0→P (i+1) (stepT t s).1) :
  Spec V 25 [.ag ((eT t).map .d),.c (.d (.sl 17 (l.map eSt)))] (.tu [.ag ((eT (runA t l).1).map .d),i2 .i64 (runA t l).2.1,i2 .i64 (runA t l).2.2]):=by
 have h45:=z45 t (hP 0 t h0).ok.l (hP 0 t h0).ok.r (fun r h=>((hP 0 t h0).ok.v r h).1)
 have h47:=z47 t.L t.R (chkT t) (hP 0 t h0).ok.l.1 (hP 0 t h0).ok.r (fun r h=>((hP 0 t h0).ok.v r h).1)
 obtain ⟨F,hF⟩:∃ F,F=runA t l:=⟨_,rfl⟩
 rw [← hF]
 unfold runA at hF
 simp only [eT_eq] at h45 h47
 (refine Spec.of_go (L:=fun|0=>some [1,2,4]|1=>some [1,2,4,15]|2=>some [4,7,8]|3=>some [4,5,6]|4=>some [1,2,4,28,29,30]|5=>some [1,2,4,28,29,30,31]|6=>some [1,2,4,9,10,28,29,30]|7=>some [1,2,4,9,11,12,28,29,30]|8=>some [1,2,4,9,11,12,28,29,30,42]|9=>some [4,5,6]|10=>some [1,2,4,28,29,30]|11=>some [1,2,4,28,29,30]|12=>some [4,5,6]|_=>none) 1000 Go.Proofs.Tryz.func25 rfl rfl ⟨Nat.le_of_ble_eq_true rfl,rfl⟩ rfl ?_;unfold Go.Proofs.Tryz.f25;push_cast (maxSteps:=mS))
 by_cases c0:l.length=0
 ·rw [if_pos c0] at hF
  subst hF
  (try push_cast (maxSteps:=mS) [c0])
  (refine DrawK.of (.take 0 (.take 1 (.take 2 (.take 3 (.take 4 (.two 5 (.two 6 (.take 7 (.take 8 (.two 9 (.one 10 (.one 11 (.one 12 .done))) 10 (.two 9 (.one 11 (.one 12 .done)) 11 (.one 9 (.one 12 .done)))))) 10 (.one 6 (.take 7 (.take 8 (.two 9 (.one 11 (.one 12 .done)) 11 (.one 9 (.one 12 .done))))))) 10 (.one 5 (.one 6 (.take 7 (.take 8 (.two 9 (.one 11 (.one 12 .done)) 11 (.one 9 (.one 12 .done))))))))))))) 1000 (by decide +kernel) ?_;try (push_cast (maxSteps:=mS)))
  ((repeat' with_reducible refine And.intro ?_ ?_)<;>try exact sz)
  all_goals (refine ⟨_,h45,rfl,?_⟩)
  all_goals (try push_cast (maxSteps:=mS))
  all_goals ((repeat' with_reducible refine And.intro ?_ ?_)<;>try exact sz)
  all_goals (refine ⟨_,h47,rfl,?_⟩)
  all_goals (try push_cast (maxSteps:=mS))
  all_goals trace_state
 ·rw [if_neg c0] at hF
  have c1:¬ (l.length:Int)=0:=by omega
  (try push_cast (maxSteps:=mS) [c1])
  refine LoopK.ov (α:=Nat × Tb) [30] (fun p=>[i2 .i64 p.1]) (fun p=>[.bx 25 [.d (.sl 3 (p.2.L.map eC)),.d (.sl 1 (p.2.R.map eR))],.bx 25 [.d (.v (.slice none 0 0)),.d (.v (.slice none 0 0))]])
   (fun p=>p.1≤l.length∧P p.1 p.2∧runT p.2 (l.drop p.1) p.1=F) (fun p=>l.length - p.1) 1000 (0,t) ⟨by simp,h0,hF.symm⟩ (by (try push_cast (maxSteps:=mS))<;>first|rfl|exact ⟨rfl,rfl⟩|exact ⟨rfl,rfl,rfl⟩|trivial) ?_
  rintro ⟨k,u⟩ ⟨hk,hp,hc⟩
  simp only at hk hp hc
  clear h45 h47
  by_cases hlt:k<l.length
  ·have hv:=atT hlt;have hd:=ltT hlt
   rw [drop_cons hv] at hc
   simp only [runT] at hc
   have h20:=z20q u l[k] (hP k u hp) (hs _ (List.getElem_mem hlt)) (hJ k u l[k] hp hv)
   have hnk:=hn k u l[k] hp hv
   generalize l[k]=s at *
   simp only [eT_eq,eSt_eq] at h20
   (try push_cast (maxSteps:=mS) [hd,getD_map hv])
   ((repeat' with_reducible refine And.intro ?_ ?_)<;>try exact sz)
   refine ⟨_,h20,rfl,?_⟩
   (try push_cast (maxSteps:=mS))
   ((repeat' with_reducible refine And.intro ?_ ?_)<;>try exact sz)
   by_cases e:(stepT u s).2=0
   ·rw [if_neg (by simp [e])] at hc
    replace hnk:=hnk e
    generalize stepT u s=S at *
    (try push_cast (maxSteps:=mS) [e])
    ((repeat' with_reducible refine And.intro ?_ ?_)<;>try exact sz)
    refine ⟨(k+1,S.1),⟨by simp only;omega,hnk,hc⟩,by simp only;omega,Le.st ?_⟩
    (try push_cast (maxSteps:=mS))
    all_goals (first|rfl|exact ⟨rfl,rfl⟩|trace_state)
   ·rw [if_pos e] at hc
    subst hc
    (try push_cast (maxSteps:=mS) [e,tb0])
  ·have hd:=geF hlt
   have hkk:k=l.length:=by omega
   subst hkk
   rw [List.drop_length,runT] at hc
   subst hc
   (try push_cast (maxSteps:=mS) [hd])
end Go.LS.Tryz
