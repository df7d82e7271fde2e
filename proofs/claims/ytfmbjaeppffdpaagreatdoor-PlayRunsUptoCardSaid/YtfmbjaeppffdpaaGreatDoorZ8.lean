/- Contracts of the functions of the seat,one by one (part Z8);no condition but those that each bears. -/
import Derived.Test.YtfmbjaeppffdpaaGreatDoorZ1
import Derived.Test.YtfmbjaeppffdpaaGreatDoorSA
import Derived.Test.YtfmbjaeppffdpaaGreatDoorSB
import Derived.Test.YtfmbjaeppffdpaaGreatDoorDC
namespace Go.LS.Tryz
open Go Go.LS
set_option maxRecDepth 100000
set_option linter.unusedSimpArgs false
set_option linter.unusedVariables false
set_option maxHeartbeats 4000000 in
theorem z23 (s:Stp) (hs:okStp s) (ha:s.ag.length≤100000):Spec V 23 [.ag ((eSt s).map .d)] (.ag ((eRSt s).map .d)):=by
 obtain ⟨kind,⟨op,col,v,vl,kids⟩,ks,n,nm,⟨L,A⟩,on,how,ag⟩:=s
 obtain ⟨_,hq,hks,_,hnm,hw,hon,_,hag,htot⟩:=hs
 simp only at hq hks hnm hw hon hag htot ha
 have h14:=f17 _ (.mk op col v vl kids) (Nat.le_refl _) hq
 have h68:=f34 ks hks
 have h22:=d20 ⟨L,A⟩ hw
 have h69:=d53 ag ha
 simp only [eN_eq,eRN_eq,op_mk,col_mk,v_mk,l_mk,ks_mk,eT_eq,eRT_eq] at h14 h22
 have hol:on.length≤1099511627776:=hon
 (refine Spec.of_go (L:=fun|0=>some [1,2]|1=>some [1,2,3]|2=>some [2,3,28,29,30]|3=>some [2,3,28,29,30,31]|4=>some [2,3,5,28,29,30]|5=>some [2,3,28,29,30]|6=>some [2,3,28,29,30]|7=>some [2]|_=>none) 1000 Go.Proofs.Tryz.func23 rfl rfl ⟨Nat.le_of_ble_eq_true rfl,rfl⟩ rfl ?_;unfold Go.Proofs.Tryz.f23;push_cast (maxSteps:=mS))
 refine DrawK.cut (.take 0 (.take 1 (.take 2 (.take 3 (.take 5 (.take 6 (.take 8 (.take 9 (.take 10 (.take 11 (.take 12 (.take 13 (.take 15 (.take 16 (.take 17 (.take 18 (.two 4 (.two 7 (.two 14 (.two 19 (.take 20 (.one 21 (.one 22 .done))) 21 (.one 19 (.take 20 (.one 22 .done)))) 21 (.one 14 (.one 19 (.take 20 (.one 22 .done))))) 21 (.one 7 (.one 14 (.one 19 (.take 20 (.one 22 .done)))))) 21 (.one 4 (.one 7 (.one 14 (.one 19 (.take 20 (.one 22 .done))))))))))))))))))))))) 1000 (by decide +kernel) ⟨[(3,.c (.op 2 0)),(2,.c (.op 1 0)),(1,.c (.op 0 0))],[.bx 50 ((eSt ⟨kind,.mk op col v vl kids,ks,n,nm,⟨L,A⟩,on,how,ag⟩).map .d),.bx 82 [.d (.v (.int .i64 0)),.d (.v (.int .i64 0)),.d (.v (.string ByteArray.empty)),.d (.v (.int .i64 0)),.d (.v (.string ByteArray.empty)),.d (.v (.int .i64 0)),.d (.v (.int .i64 0)),.d (.v (.slice none 0 0)),.d (.v (.slice none 0 0)),.d (.v (.slice none 0 0)),.d (.v (.int .i64 0)),.d (.v (.slice none 0 0)),.d (.v (.slice none 0 0)),.d (.v (.slice none 0 0)),.d (.v (.slice none 0 0)),.d (.v (.int .i64 0)),.d (.v (.slice none 0 0))],.bx 82 [.d (.v (.int .i64 kind)),.d (.v (.int .i64 op)),.d (.v (.string col)),.d (.v (.int .i64 v.k)),.d (.v (.string v.s)),.d (.v (.int .i64 v.n)),.d (.v (.int .i64 (bi v.b))),.d (.sl 4 (vl.map eRV)),.d (.sl 8 (kids.map eRN)),.d (.sl 2 (ks.map eRK)),.d (.v (.int .i64 n)),.d (.sl 1 (nm.map eS)),.d (.sl 3 (L.map eRC)),.d (.sl 1 (A.map eRR)),.d (.v (.slice none 0 0)),.d (.v (.int .i64 how)),.d (.sl 3 (ag.map eAg))]]⟩ ?_ ?_
 ·(try push_cast (maxSteps:=mS))
  ((repeat' with_reducible refine And.intro ?_ ?_)<;>try exact sz)
  all_goals (refine ⟨_,h14,rfl,?_⟩)
  all_goals (try push_cast (maxSteps:=mS))
  all_goals ((repeat' with_reducible refine And.intro ?_ ?_)<;>try exact sz)
  all_goals (refine ⟨_,h68,rfl,?_⟩)
  all_goals (try push_cast (maxSteps:=mS))
  all_goals ((repeat' with_reducible refine And.intro ?_ ?_)<;>try exact sz)
  all_goals (refine ⟨_,h22,rfl,?_⟩)
  all_goals (try push_cast (maxSteps:=mS))
  all_goals ((repeat' with_reducible refine And.intro ?_ ?_)<;>try exact sz)
  all_goals (refine ⟨_,h69,rfl,?_⟩)
  all_goals (try push_cast (maxSteps:=mS))
  all_goals ((repeat' with_reducible refine And.intro ?_ ?_)<;>try exact sz)
  all_goals (refine Le.st ?_)
  all_goals (try push_cast (maxSteps:=mS))
  all_goals rfl
 clear h14 h68 h22 h69
 (try push_cast (maxSteps:=mS))
 refine LoopK.le (Le.nilB 2 14 146 2 (by decide) rfl rfl) ?_
 (try push_cast (maxSteps:=mS))
 refine LoopK.ov (α:=Nat) [30] (fun k=>[i2 .i64 k]) (fun k=>[.bx 50 ((eSt ⟨kind,.mk op col v vl kids,ks,n,nm,⟨L,A⟩,on,how,ag⟩).map .d),.bx 82 [.d (.v (.int .i64 0)),.d (.v (.int .i64 0)),.d (.v (.string ByteArray.empty)),.d (.v (.int .i64 0)),.d (.v (.string ByteArray.empty)),.d (.v (.int .i64 0)),.d (.v (.int .i64 0)),.d (.v (.slice none 0 0)),.d (.v (.slice none 0 0)),.d (.v (.slice none 0 0)),.d (.v (.int .i64 0)),.d (.v (.slice none 0 0)),.d (.v (.slice none 0 0)),.d (.v (.slice none 0 0)),.d (.v (.slice none 0 0)),.d (.v (.int .i64 0)),.d (.v (.slice none 0 0))],.bx 82 [.d (.v (.int .i64 kind)),.d (.v (.int .i64 op)),.d (.v (.string col)),.d (.v (.int .i64 v.k)),.d (.v (.string v.s)),.d (.v (.int .i64 v.n)),.d (.v (.int .i64 (bi v.b))),.d (.sl 4 (vl.map eRV)),.d (.sl 8 (kids.map eRN)),.d (.sl 2 (ks.map eRK)),.d (.v (.int .i64 n)),.d (.sl 1 (nm.map eS)),.d (.sl 3 (L.map eRC)),.d (.sl 1 (A.map eRR)),.os 3,.d (.v (.int .i64 how)),.d (.sl 3 (ag.map eAg))],.rw 146 2 ((on.take k).map eJo)]) (fun k=>k≤on.length) (fun k=>on.length - k) 1000 0 (by omega) (by (try push_cast (maxSteps:=mS))<;>first|rfl|exact ⟨rfl,rfl⟩|exact ⟨rfl,rfl,rfl⟩|trivial) ?_
 rintro k hk
 by_cases hlt:k<on.length
 ·have hv:=atT hlt;have hd:=ltT hlt
  have htk:on.take (k+1)=on.take k++[on[k]]:=by rw [List.take_add_one,hv];rfl
  have hlk:(on.take k).length=k:=by rw [List.length_take];omega
  generalize on[k]=o at *
  (try push_cast (maxSteps:=mS) [hd,getD_map hv,hlk])
  ((repeat' with_reducible refine And.intro ?_ ?_)<;>try exact sz)
  all_goals (try (simp only [maxLen];omega))
  refine ⟨k+1,by omega,by omega,Le.st ?_⟩
  rw [htk]
  (try push_cast (maxSteps:=mS))
  all_goals (first|exact ⟨by rw [List.map_append];rfl,rfl⟩|rfl|exact ⟨rfl,rfl⟩|trace_state)
 ·have hd:=geF hlt
  rw [show on.take k=on from List.take_of_length_le (by omega)]
  (try push_cast (maxSteps:=mS) [hd])
theorem z24 (t u:Tb) (ht:okT2 t) (hu:okLen u.L) (hul:okLen u.R) (hur:∀ r∈u.R,okLen r):Spec V 24 [.ag ((eT t).map .d),.ag ((eRT u).map .d)] (b2 (sameCs t.L u.L && allF t.R u.R)):=by
 have h29:=f18 t.L ht.l.1
 have h30:=d22 t.L u.L ht.l.1 hu
 have h41:=f27 t.R ht.r (fun r hr=>(ht.v r hr).1)
 have h40:=f26 t.R u.R ht.r hul (fun r hr=>(ht.v r hr).1) hur
 obtain ⟨L,A⟩:=t
 obtain ⟨M,B⟩:=u
 simp only at h29 h30 h41 h40
 (refine Spec.of_go (L:=fun|0=>some [2,3]|1=>some [4]|_=>none) 1000 Go.Proofs.Tryz.func24 rfl rfl ⟨Nat.le_of_ble_eq_true rfl,rfl⟩ rfl ?_;unfold Go.Proofs.Tryz.f24;push_cast (maxSteps:=mS))
 (refine DrawK.of (.take 0 (.take 1 (.take 3 (.take 4 (.one 2 (.one 5 (.take 6 (.take 7 (.take 8 (.take 10 (.take 11 (.one 9 (.one 12 (.take 13 (.take 14 .done))))))))))))))) 1000 (by decide +kernel) ?_;try (push_cast (maxSteps:=mS)))
 (try push_cast (maxSteps:=mS))
 ((repeat' with_reducible refine And.intro ?_ ?_)<;>try exact sz)
 all_goals (refine ⟨_,h29,rfl,?_⟩)
 all_goals (try push_cast (maxSteps:=mS))
 all_goals ((repeat' with_reducible refine And.intro ?_ ?_)<;>try exact sz)
 all_goals (refine ⟨_,h30,rfl,?_⟩)
 cases sameCs L M with
 | false =>
  (try push_cast (maxSteps:=mS))
 | true =>
  (try push_cast (maxSteps:=mS))
  ((repeat' with_reducible refine And.intro ?_ ?_)<;>try exact sz)
  all_goals (refine ⟨_,h41,rfl,?_⟩)
  all_goals (try push_cast (maxSteps:=mS))
  all_goals ((repeat' with_reducible refine And.intro ?_ ?_)<;>try exact sz)
  all_goals (refine ⟨_,h40,rfl,?_⟩)
  all_goals (try push_cast (maxSteps:=mS))
  all_goals trace_state
theorem z54 (t:Tb) (ht:okCl t.L) (hr:okLen t.R) (hrr:∀ r∈t.R,okLen r):Spec V 54 [.ag ((eRT t).map .d)] (i2 .i64 (chkT t)):=by
 obtain ⟨L,A⟩:=t
 simp only at ht hr hrr
 have h34:=f50 L ht
 obtain ⟨R,hR⟩:∃ R,R=chkT ⟨L,A⟩:=⟨_,rfl⟩
 rw [← hR]
 unfold chkT at hR
 simp only at hR
 (refine Spec.of_go (L:=fun|0=>some [1]|1=>some [1,4]|2=>some [1,4,14]|3=>some [2]|4=>some [1,17,18,19]|5=>some [1,17,18,19,20]|6=>some [1,6,17,18,19]|7=>some [1,17,18,19,28]|8=>some [2]|9=>some [1,17,18,19]|10=>some [2]|_=>none) 1000 Go.Proofs.Tryz.func54 rfl rfl ⟨Nat.le_of_ble_eq_true rfl,rfl⟩ rfl ?_;unfold Go.Proofs.Tryz.f54;push_cast (maxSteps:=mS))
 refine ⟨_,h34,rfl,?_⟩
 by_cases c1:(checkC L).2=0
 ·rw [if_neg (by simp [c1])] at hR
  (try push_cast (maxSteps:=mS) [c1])
  refine LoopK.s1 (α:=Nat) [19] (fun k=>[i2 .i64 k]) (fun k=>k≤A.length∧((A.drop k).all fun r=>decide (r.length=L.length))=evenF ⟨L,A⟩) (fun k=>A.length - k) 1000 0 ⟨by omega,rfl⟩ (by (try push_cast (maxSteps:=mS))<;>first|rfl|exact ⟨rfl,rfl⟩|exact ⟨rfl,rfl,rfl⟩|trivial) ?_
  rintro k ⟨hk,hc⟩
  by_cases hlt:k<A.length
  ·have hv:=atT hlt;have hd:=ltT hlt
   rw [drop_cons hv,List.all_cons] at hc
   have hrl:=hrr _ (List.getElem_mem hlt)
   generalize A[k]=r at *
   by_cases hw:r.length=L.length
   ·rw [decide_eq_true hw,Bool.true_and] at hc
    (try push_cast (maxSteps:=mS) [hd,getD_map hv,hw])
    ((repeat' with_reducible refine And.intro ?_ ?_)<;>try exact sz)
    refine ⟨k+1,⟨by omega,hc⟩,by omega,Le.st ?_⟩
    (try push_cast (maxSteps:=mS));(all_goals first|rfl|skip)
   ·have hw':¬ (r.length:Int)=(L.length:Int):=by omega
    rw [decide_eq_false hw,Bool.false_and] at hc
    rw [← hc,if_pos rfl] at hR
    subst hR
    (try push_cast (maxSteps:=mS) [hd,getD_map hv,hw,hw'])
    ((repeat' with_reducible refine And.intro ?_ ?_)<;>try exact sz)
  ·have hd:=geF hlt
   rw [List.drop_eq_nil_of_le (by omega),List.all_nil] at hc
   rw [← hc,if_neg (by simp)] at hR
   subst hR
   (try push_cast (maxSteps:=mS) [hd])
 ·rw [if_pos c1] at hR
  subst hR
  (try push_cast (maxSteps:=mS) [c1])
end Go.LS.Tryz
