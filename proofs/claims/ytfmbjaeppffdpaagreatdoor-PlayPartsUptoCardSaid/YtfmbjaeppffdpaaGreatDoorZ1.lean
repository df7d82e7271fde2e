/- Contracts of the functions of the seat,one by one (part Z1);no condition but those that each bears. -/
import Derived.Test.YtfmbjaeppffdpaaGreatDoorPP
import Derived.Test.YtfmbjaeppffdpaaGreatDoorDA
namespace Go.LS.Tryz
open Go Go.LS
set_option maxRecDepth 100000
set_option linter.unusedSimpArgs false
set_option linter.unusedVariables false
theorem z80 (l:List ByteArray) (hl:okLen l):Spec V 80 [.c (.d (.sl 1 (l.map eS)))] (b2 (namesB l)):=by
 obtain ⟨R,hR⟩:∃ R,R=namesB l:=⟨_,rfl⟩
 rw [← hR]
 simp only [namesB] at hR
 (refine Spec.of_go (L:=fun|0=>some [0]|1=>some [0,5,6,7]|2=>some [0,5,6,7,8]|3=>some [0,4,5,6,7]|4=>some [0,5,6,7,13]|5=>some [2]|6=>some [0,5,6,7]|7=>some [2]|_=>none) 1000 Go.Proofs.Tryz.func80 rfl rfl ⟨Nat.le_of_ble_eq_true rfl,rfl⟩ rfl ?_;unfold Go.Proofs.Tryz.f80;push_cast (maxSteps:=mS))
 refine LoopK.s1 (α:=Nat) [7] (fun k=>[i2 .i64 k]) (fun k=>k≤l.length∧((l.drop k).all fun s=>decide (s.size≤60))=(l.all fun s=>decide (s.size≤60))) (fun k=>l.length - k) 1000 0 ⟨by omega,rfl⟩ (by (try push_cast (maxSteps:=mS))) ?_
 rintro k ⟨hk,hc⟩
 by_cases hlt:k<l.length
 ·have hv:=atT hlt;have hd:=ltT hlt
  rw [drop_cons hv,List.all_cons] at hc
  generalize l[k]=o at *
  have el:decide (60<(o.size:Int))=!decide (o.size≤60):=by rw [Bool.eq_iff_iff];simp;omega
  cases bl:decide (o.size≤60) with
  | false =>
   rw [bl] at hc el
   simp only [Bool.false_and] at hc
   rw [← hc,Bool.false_and] at hR
   subst hR
   (try push_cast (maxSteps:=mS) [hd,getD_map hv,el])
   ((repeat' with_reducible refine And.intro ?_ ?_)<;>try exact sz)
  | true =>
   rw [bl] at hc el
   simp only [Bool.true_and] at hc
   (try push_cast (maxSteps:=mS) [hd,getD_map hv,el])
   ((repeat' with_reducible refine And.intro ?_ ?_)<;>try exact sz)
   refine ⟨k+1,⟨by omega,hc⟩,by omega,Le.st ?_⟩
   (try push_cast (maxSteps:=mS));(all_goals first|rfl|skip)
 ·have hd:=geF hlt
  rw [List.drop_eq_nil_of_le (by omega),List.all_nil] at hc
  rw [← hc,Bool.true_and] at hR
  have er:decide ((l.length:Int)≤12)=decide (l.length≤12):=by rw [Bool.eq_iff_iff];simp;omega
  subst hR
  (try push_cast (maxSteps:=mS) [hd,er])
set_option maxHeartbeats 2000000 in
theorem z42 (s:Stp) (hs:okStp s):Spec V 42 [.ag ((eSt s).map .d)] (b2 (shortB s)):=by
 obtain ⟨kind,⟨op,col,v,vl,kids⟩,ks,n,nm,⟨L,A⟩,on,how,ag⟩:=s
 obtain ⟨_,hq,hks,_,hnm,hw,hon,_,hag,htot⟩:=hs
 simp only at hq hks hnm hw hon hag htot
 have hks':ks.length≤1099511627776:=hks
 have hon':on.length≤1099511627776:=hon
 have hag':ag.length≤1099511627776:=hag
 have h11:=f12 (.mk op col v vl kids) hq
 have h32:=d58 ⟨L,A⟩ hw
 have h80:=z80 nm hnm
 simp only [eN_eq,op_mk,col_mk,v_mk,l_mk,ks_mk] at h11
 simp only [eT_eq] at h32
 have el:∀ k,(colsO (on.take k)).length≤2*on.length:=fun k=>by rw [colsO_len,List.length_take];omega
 have ea:∀ k,(colsA (ag.take k)).length≤2*ag.length:=fun k=>by rw [colsA_len,List.length_take];omega
 obtain ⟨R,hR⟩:∃ R,R=shortB ⟨kind,.mk op col v vl kids,ks,n,nm,⟨L,A⟩,on,how,ag⟩:=⟨_,rfl⟩
 rw [← hR]
 simp only [shortB] at hR
 (refine Spec.of_go (L:=fun|0=>some [1]|1=>some [1,3]|2=>some [1,3,11,12,13]|3=>some [1,3,11,12,13,14]|4=>some [1,3,5,11,12,13]|5=>some [1,3,11,12,13]|6=>some [1,3,11,12,13]|7=>some [1,3,24,25,26]|8=>some [1,3,24,25,26,27]|9=>some [1,3,7,24,25,26]|10=>some [1,3,24,25,26]|11=>some [1,3,24,25,26]|12=>some [1,3,39,40,41]|13=>some [1,3,39,40,41,42]|14=>some [1,3,9,39,40,41]|15=>some [1,3,39,40,41]|16=>some [1,3,39,40,41]|17=>some [2]|_=>none) 1000 Go.Proofs.Tryz.func42 rfl rfl ⟨Nat.le_of_ble_eq_true rfl,rfl⟩ rfl ?_;unfold Go.Proofs.Tryz.f42;push_cast (maxSteps:=mS))
 refine LoopK.le (Le.nil 3 9 1 (by decide) (by (try push_cast (maxSteps:=mS)))) ?_
 (try push_cast (maxSteps:=mS))
 refine LoopK.ov (α:=Nat) [13] (fun k=>[i2 .i64 k]) (fun k=>[.bx 50 ((eSt ⟨kind,.mk op col v vl kids,ks,n,nm,⟨L,A⟩,on,how,ag⟩).map .d),.rw 9 1 ((colsK (ks.take k)).map eS)]) (fun k=>k≤ks.length) (fun k=>ks.length - k) 1000 0 (by omega) (by (try push_cast (maxSteps:=mS))<;>first|rfl|exact ⟨rfl,rfl⟩|exact ⟨rfl,rfl,rfl⟩|trivial) ?_
 rintro k hk1
 by_cases hlt:k<ks.length
 ·have hv:=atT hlt;have hd:=ltT hlt
  have htk:colsK (ks.take (k+1))=colsK (ks.take k)++[ks[k].col]:=by unfold colsK;rw [List.take_add_one,hv,List.map_append];rfl
  have hlk:(colsK (ks.take k)).length=k:=by unfold colsK;rw [List.length_map,List.length_take];omega
  generalize ks[k]=o at *
  (try push_cast (maxSteps:=mS) [hd,getD_map hv,hlk])
  ((repeat' with_reducible refine And.intro ?_ ?_)<;>try exact sz)
  refine ⟨k+1,by omega,by omega,Le.st ?_⟩
  rw [htk]
  (try push_cast (maxSteps:=mS))
  all_goals (first|rfl|exact ⟨rfl,rfl⟩|exact ⟨by simp [eS],rfl⟩|(simp;done)|(simp;rfl)|trace_state)
 ·have hd:=geF hlt
  rw [show ks.take k=ks from List.take_of_length_le (by omega)]
  have lk:(colsK ks).length=ks.length:=by simp [colsK]
  generalize colsK ks=ck at *
  (try push_cast (maxSteps:=mS) [hd])
  clear hd hlt hk1
  refine LoopK.ov (α:=Nat) [26] (fun k=>[i2 .i64 k]) (fun k=>[.bx 50 ((eSt ⟨kind,.mk op col v vl kids,ks,n,nm,⟨L,A⟩,on,how,ag⟩).map .d),.rw 9 1 ((ck++colsO (on.take k)).map eS)]) (fun k=>k≤on.length) (fun k=>on.length - k) 1000 0 (by omega) (by (try push_cast (maxSteps:=mS) [colsO,List.take_zero,List.flatMap_nil,List.append_nil])<;>first|rfl|exact ⟨rfl,rfl⟩|trivial) ?_
  rintro k hk1
  by_cases hlt:k<on.length
  ·have hv:=atT hlt;have hd:=ltT hlt
   have htk:=colsO_take hv
   have hlk:=el k
   generalize on[k]=o at *
   (try push_cast (maxSteps:=mS) [hd,getD_map hv])
   ((repeat' with_reducible refine And.intro ?_ ?_)<;>try exact sz)
   all_goals (try (simp only [maxLen,List.length_append];omega))
   refine ⟨k+1,by omega,by omega,Le.st ?_⟩
   rw [htk]
   (try push_cast (maxSteps:=mS))
   all_goals (first|rfl|exact ⟨rfl,rfl⟩|exact ⟨by simp [eS],rfl⟩|(simp;done)|(simp;rfl)|trace_state)
  ·have hd:=geF hlt
   rw [show on.take k=on from List.take_of_length_le (by omega)]
   have lo:(colsO on).length=2*on.length:=colsO_len on
   generalize colsO on=co at *
   (try push_cast (maxSteps:=mS) [hd])
   clear hd hlt hk1
   refine LoopK.ov (α:=Nat) [41] (fun k=>[i2 .i64 k]) (fun k=>[.bx 50 ((eSt ⟨kind,.mk op col v vl kids,ks,n,nm,⟨L,A⟩,on,how,ag⟩).map .d),.rw 9 1 ((ck++co++colsA (ag.take k)).map eS)]) (fun k=>k≤ag.length) (fun k=>ag.length - k) 1000 0 (by omega) (by (try push_cast (maxSteps:=mS) [colsA,List.take_zero,List.flatMap_nil,List.append_nil])<;>first|rfl|exact ⟨rfl,rfl⟩|trivial) ?_
   rintro k hk1
   by_cases hlt:k<ag.length
   ·have hv:=atT hlt;have hd:=ltT hlt
    have htk:=colsA_take hv
    have hlk:=ea k
    generalize ag[k]=o at *
    (try push_cast (maxSteps:=mS) [hd,getD_map hv])
    ((repeat' with_reducible refine And.intro ?_ ?_)<;>try exact sz)
    all_goals (try (simp only [maxLen,List.length_append];omega))
    refine ⟨k+1,by omega,by omega,Le.st ?_⟩
    rw [htk]
    (try push_cast (maxSteps:=mS))
    all_goals (first|rfl|exact ⟨rfl,rfl⟩|exact ⟨by simp [eS],rfl⟩|(simp;done)|(simp;rfl)|trace_state)
   ·have hd:=geF hlt
    rw [show ag.take k=ag from List.take_of_length_le (by omega)]
    have la:(colsA ag).length=2*ag.length:=colsA_len ag
    generalize colsA ag=ca at *
    have h80a:=z80 (ck++co++ca) (by simp only [okLen,List.length_append];omega)
    (try push_cast (maxSteps:=mS) [hd])
    refine ⟨_,h80a,rfl,?_⟩
    have bR:decide ((A.length:Int)≤4)=decide (A.length≤4):=by rw [Bool.eq_iff_iff,decide_eq_true_eq,decide_eq_true_eq];omega
    cases e1:namesB (ck++co++ca) with
    | false =>
     rw [e1,Bool.false_and] at hR
     subst hR
     (try push_cast (maxSteps:=mS))
    | true =>
     rw [e1,Bool.true_and] at hR
     (try push_cast (maxSteps:=mS))
     refine ⟨_,h80,rfl,?_⟩
     cases e2:namesB nm with
     | false =>
      rw [e2,Bool.false_and] at hR
      subst hR
      (try push_cast (maxSteps:=mS))
     | true =>
      rw [e2,Bool.true_and] at hR
      (try push_cast (maxSteps:=mS))
      refine ⟨_,h11,rfl,?_⟩
      cases e3:decide (cnt (.mk op col v vl kids)≤120) with
      | false =>
       rw [e3,Bool.false_and] at hR
       subst hR
       (try push_cast (maxSteps:=mS))
      | true =>
       rw [e3,Bool.true_and] at hR
       (try push_cast (maxSteps:=mS))
       refine ⟨_,h32,rfl,?_⟩
       cases e4:fewT ⟨L,A⟩ with
       | false =>
        rw [e4,Bool.false_and] at hR
        subst hR
        (try push_cast (maxSteps:=mS))
       | true =>
        rw [e4,Bool.true_and] at hR
        subst hR
        (try push_cast (maxSteps:=mS) [bR])
set_option maxHeartbeats 2000000 in
theorem z18 (t:Tb) (l:List Stp) (ht:okT0 t) (hl:okLen l) (hs:∀ s∈l,okStp s):Spec V 18 [.ag ((eT t).map .d),.c (.d (.sl 17 (l.map eSt)))] (b2 (fewB t l)):=by
 have h32:=d58 t ht
 obtain ⟨L,A⟩:=t
 simp only [eT_eq] at h32
 have hl':l.length≤1099511627776:=hl
 obtain ⟨R,hR⟩:∃ R,R=fewB ⟨L,A⟩ l:=⟨_,rfl⟩
 rw [← hR]
 simp only [fewB] at hR
 (refine Spec.of_go (L:=fun|0=>some [1,2]|1=>some [1,2,5]|2=>some [1,2,5,8,9,10]|3=>some [1,2,5,8,9,10,11]|4=>some [1,2,5,7,8,9,10]|5=>some [1,2,5,7,8,9,10,16]|6=>some [4]|7=>some [1,2,5,8,9,10,19]|8=>some [1,2,5,8,9,10]|9=>some [1,2,5,8,9,10]|10=>some [4]|_=>none) 1000 Go.Proofs.Tryz.func18 rfl rfl ⟨Nat.le_of_ble_eq_true rfl,rfl⟩ rfl ?_;unfold Go.Proofs.Tryz.f18;push_cast (maxSteps:=mS))
 refine LoopK.s1 (α:=Nat) [10,5] (fun k=>[i2 .i64 k,i2 .i64 (joinsN (l.take k))]) (fun k=>k≤l.length∧((l.drop k).all shortB)=l.all shortB) (fun k=>l.length - k) 1000 0 ⟨by omega,rfl⟩ (by (try push_cast (maxSteps:=mS))<;>first|rfl|exact ⟨rfl,rfl⟩|exact ⟨rfl,rfl,rfl⟩|trivial) ?_
 rintro k ⟨hk,hc⟩
 by_cases hlt:k<l.length
 ·have hv:=atT hlt;have hd:=ltT hlt
  rw [drop_cons hv,List.all_cons] at hc
  have hjt:=joins_take hv
  have hjl:=joins_le (l.take k)
  rw [List.length_take] at hjl
  have h42:=z42 l[k] (hs _ (List.getElem_mem hlt))
  generalize l[k]=o at *
  simp only [eSt_eq] at h42
  (try push_cast (maxSteps:=mS) [hd,getD_map hv])
  ((repeat' with_reducible refine And.intro ?_ ?_)<;>try exact sz)
  refine ⟨_,h42,rfl,?_⟩
  cases e1:shortB o with
  | false =>
   rw [e1,Bool.false_and] at hc
   rw [← hc,Bool.false_and] at hR
   subst hR
   (try push_cast (maxSteps:=mS))
  | true =>
   rw [e1,Bool.true_and] at hc
   by_cases e6:o.kind=6
   ·rw [if_pos e6] at hjt
    (try push_cast (maxSteps:=mS) [e6])
    ((repeat' with_reducible refine And.intro ?_ ?_)<;>try exact sz)
    refine ⟨k+1,⟨by omega,hc⟩,by omega,Le.st ?_⟩
    rw [hjt]
    (try push_cast (maxSteps:=mS))
    all_goals (first|rfl|exact ⟨rfl,rfl⟩|trace_state)
   ·rw [if_neg e6] at hjt
    (try push_cast (maxSteps:=mS) [e6])
    ((repeat' with_reducible refine And.intro ?_ ?_)<;>try exact sz)
    refine ⟨k+1,⟨by omega,hc⟩,by omega,Le.st ?_⟩
    rw [hjt]
    (try push_cast (maxSteps:=mS))
    all_goals (first|rfl|exact ⟨rfl,rfl⟩|trace_state)
 ·have hd:=geF hlt
  rw [List.drop_eq_nil_of_le (by omega),List.all_nil] at hc
  rw [← hc,Bool.true_and] at hR
  rw [show l.take k=l from List.take_of_length_le (by omega)]
  have bR:decide ((l.length:Int)≤5)=decide (l.length≤5):=by rw [Bool.eq_iff_iff,decide_eq_true_eq,decide_eq_true_eq];omega
  have bJ:decide ((joinsN l:Int)≤2)=decide (joinsN l≤2):=by rw [Bool.eq_iff_iff,decide_eq_true_eq,decide_eq_true_eq];omega
  (try push_cast (maxSteps:=mS) [hd])
  refine ⟨_,h32,rfl,?_⟩
  cases e4:fewT ⟨L,A⟩ with
  | false =>
   rw [e4,Bool.false_and] at hR
   subst hR
   (try push_cast (maxSteps:=mS))
  | true =>
   rw [e4,Bool.true_and] at hR
   cases e5:decide (l.length≤5) with
   | false =>
    rw [e5,Bool.false_and] at hR
    rw [e5] at bR
    subst hR
    (try push_cast (maxSteps:=mS) [bR])
   | true =>
    rw [e5,Bool.true_and] at hR
    rw [e5] at bR
    subst hR
    (try push_cast (maxSteps:=mS) [bR,bJ])
end Go.LS.Tryz
