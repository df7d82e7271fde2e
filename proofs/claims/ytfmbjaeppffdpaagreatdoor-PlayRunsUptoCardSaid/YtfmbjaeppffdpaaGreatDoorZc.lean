/- Contracts of the functions of the seat,one by one (part Zc);no condition but those that each bears. -/
import Derived.Test.YtfmbjaeppffdpaaGreatDoorZaq
import Derived.Test.YtfmbjaeppffdpaaGreatDoorZ3q
namespace Go.LS.Tryz
open Go Go.LS
set_option maxRecDepth 100000
set_option linter.unusedSimpArgs false
set_option linter.unusedVariables false
theorem run_bad {t:Tb} {l:List Stp} (h:chkT t≠0):runA t l=(tb0,0,chkT t):=by
 unfold runA
 split
 ·simp [tabT,h]
 ·rename_i h0
  cases l with
  | nil=>simp at h0
  | cons s l =>
   have:stepT t s=(tb0,chkT t):=by unfold stepT;rw [if_pos h]
   rw [runT,this,if_pos h]
theorem run_fine {t:Tb} {l:List Stp} (h:chkT t=0):runA t l=runT t l 0:=by
 unfold runA
 split
 ·rename_i h0
  rw [List.eq_nil_of_length_eq_zero h0,h]
  rfl
 ·rfl
theorem z27 (l:List Stp) (hl:l.length≤1000) (hs:∀ s∈l,okStp s) (ha:∀ s∈l,s.ag.length≤100000) :
  Spec V 27 [.c (.d (.sl 17 (l.map eSt)))] (.c (.d (.sl 17 (l.map eRSt)))):=by
 (refine Spec.of_go (L:=fun|0=>some [0]|1=>some [0,3]|2=>some [3,6,7,8]|3=>some [3,6,7,8,9]|4=>some [3,5,6,7,8]|5=>some [3,6,7,8]|6=>some [3,6,7,8]|7=>some [2]|_=>none) 1000 Go.Proofs.Tryz.func27 rfl rfl ⟨Nat.le_of_ble_eq_true rfl,rfl⟩ rfl ?_;unfold Go.Proofs.Tryz.f27;push_cast (maxSteps:=mS))
 refine LoopK.le (Le.nil 3 82 17 (by decide) (by (try push_cast (maxSteps:=mS)))) ?_
 (try push_cast (maxSteps:=mS))
 refine LoopK.ov (α:=Nat) [8] (fun k=>[i2 .i64 k]) (fun k=>[.rw 82 17 ((l.take k).map eRSt)]) (fun k=>k≤l.length) (fun k=>l.length - k) 1000 0 (by omega) (by (try push_cast (maxSteps:=mS))<;>first|rfl|exact ⟨rfl,rfl⟩|exact ⟨rfl,rfl,rfl⟩|trivial) ?_
 rintro k hk
 by_cases hlt:k<l.length
 ·have hv:=atT hlt;have hd:=ltT hlt
  have htk:l.take (k+1)=l.take k++[l[k]]:=by rw [List.take_add_one,hv];rfl
  have hlk:(l.take k).length=k:=by rw [List.length_take];omega
  have h23:=z23 l[k] (hs _ (List.getElem_mem hlt)) (ha _ (List.getElem_mem hlt))
  generalize l[k]=s at *
  simp only [eSt_eq,eRSt_eq] at h23
  (try push_cast (maxSteps:=mS) [hd,getD_map hv])
  ((repeat' with_reducible refine And.intro ?_ ?_)<;>try exact sz)
  refine ⟨_,h23,rfl,?_⟩
  (try push_cast (maxSteps:=mS) [List.length_map,hlk])
  ((repeat' with_reducible refine And.intro ?_ ?_)<;>try exact sz)
  refine ⟨k+1,by omega,by omega,Le.st ?_⟩
  rw [htk,List.map_append]
  (try push_cast (maxSteps:=mS))
  all_goals (first|rfl|exact ⟨rfl,rfl⟩|trace_state)
 ·have hd:=geF hlt
  rw [show l.take k=l from List.take_of_length_le (by omega)]
  (try push_cast (maxSteps:=mS) [hd])
set_option maxHeartbeats 4000000 in
theorem z26 (t:Tb) (l:List Stp) (hl:l.length≤100) (hs:∀ s∈l,okH s) (P:Nat→Tb→Prop) (hP:∀ i t,P i t→okQ t) (hJ:∀ i t s,P i t→l[i]?=some s→s.kind=6→t.R.length≤200) (h0:P 0 t) (hn:∀ i t s,P i t→l[i]?=some s→(stepT t s).2=0→P (i+1) (stepT t s).1) :
  Spec V 26 [.ag ((eRT t).map .d),.c (.d (.sl 17 (l.map eRSt)))] (.tu [.ag ((eRT (runA t l).1).map .d),i2 .i64 (runA t l).2.1,i2 .i64 (runA t l).2.2]):=by
 have h54:=z54 t (hP 0 t h0).ok.l (hP 0 t h0).ok.r (fun r h=>((hP 0 t h0).ok.v r h).1)
 obtain ⟨F,hF⟩:∃ F,F=runA t l:=⟨_,rfl⟩
 rw [← hF]
 simp only [eRT_eq] at h54
 (refine Spec.of_go (L:=fun|0=>some [1,2,4]|1=>some [1,2,4,7]|2=>some [1,2,4,7,15]|3=>some [4,5,6]|4=>some [1,2,4,18,19,20]|5=>some [1,2,4,18,19,20,21]|6=>some [1,2,4,8,9,18,19,20]|7=>some [1,2,4,8,10,11,18,19,20]|8=>some [1,2,4,8,10,11,18,19,20,32]|9=>some [4,5,6]|10=>some [1,2,4,18,19,20]|11=>some [1,2,4,18,19,20]|12=>some [4,5,6]|_=>none) 1000 Go.Proofs.Tryz.func26 rfl rfl ⟨Nat.le_of_ble_eq_true rfl,rfl⟩ rfl ?_;unfold Go.Proofs.Tryz.f26;push_cast (maxSteps:=mS))
 refine ⟨_,h54,rfl,?_⟩
 by_cases c0:chkT t=0
 ·rw [run_fine c0] at hF
  (try push_cast (maxSteps:=mS) [c0])
  refine LoopK.ov (α:=Nat × Tb) [20] (fun p=>[i2 .i64 p.1]) (fun p=>[.bx 74 [.d (.sl 3 (p.2.L.map eRC)),.d (.sl 1 (p.2.R.map eRR))],.bx 74 [.d (.v (.slice none 0 0)),.d (.v (.slice none 0 0))]])
   (fun p=>p.1≤l.length∧P p.1 p.2∧runT p.2 (l.drop p.1) p.1=F) (fun p=>l.length - p.1) 1000 (0,t) ⟨by simp,h0,hF.symm⟩ (by (try push_cast (maxSteps:=mS))<;>first|rfl|exact ⟨rfl,rfl⟩|exact ⟨rfl,rfl,rfl⟩|trivial) ?_
  rintro ⟨k,u⟩ ⟨hk,hp,hc⟩
  simp only at hk hp hc
  clear h54
  by_cases hlt:k<l.length
  ·have hv:=atT hlt;have hd:=ltT hlt
   rw [drop_cons hv] at hc
   simp only [runT] at hc
   have h21:=z21q u l[k] (hP k u hp) (hs _ (List.getElem_mem hlt)) (hJ k u l[k] hp hv)
   have hnk:=hn k u l[k] hp hv
   generalize l[k]=s at *
   simp only [eRT_eq,eRSt_eq] at h21
   (try push_cast (maxSteps:=mS) [hd,getD_map hv])
   ((repeat' with_reducible refine And.intro ?_ ?_)<;>try exact sz)
   refine ⟨_,h21,rfl,?_⟩
   (try push_cast (maxSteps:=mS))
   ((repeat' with_reducible refine And.intro ?_ ?_)<;>try exact sz)
   by_cases e:(stepT u s).2=0
   ·rw [if_neg (by simp [e])] at hc
    replace hnk:=hnk e
    generalize stepT u s=S at *
    (try push_cast (maxSteps:=mS) [e])
    ((repeat' with_reducible refine And.intro ?_ ?_)<;>try exact sz)
    refine ⟨(k+1,S.1),⟨by simp only;omega,hnk,hc⟩,by simp only;omega,Le.st ?_⟩
    (try push_cast (maxSteps:=mS))
    all_goals (first|rfl|exact ⟨rfl,rfl⟩|trace_state)
   ·rw [if_pos e] at hc
    subst hc
    (try push_cast (maxSteps:=mS) [e,tb0])
  ·have hd:=geF hlt
   have hkk:k=l.length:=by omega
   subst hkk
   rw [List.drop_length,runT] at hc
   subst hc
   (try push_cast (maxSteps:=mS) [hd])
 ·rw [run_bad c0] at hF
  subst hF
  (try push_cast (maxSteps:=mS) [c0,tb0])
end Go.LS.Tryz
