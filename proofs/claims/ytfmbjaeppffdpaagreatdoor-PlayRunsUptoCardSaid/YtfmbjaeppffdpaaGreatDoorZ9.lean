/- Contracts of the functions of the seat,one by one (part Z9);no condition but those that each bears. -/
import Derived.Test.YtfmbjaeppffdpaaGreatDoorZ2
import Derived.Test.YtfmbjaeppffdpaaGreatDoorDC
namespace Go.LS.Tryz
open Go Go.LS
set_option maxRecDepth 100000
set_option linter.unusedSimpArgs false
set_option linter.unusedVariables false
set_option maxHeartbeats 4000000 in
theorem z61 (t:Tb) (ns:List ByteArray) (ht:okCl t.L) (hn:okKeys ns) (hr:okLen t.R) (hw:∀ r∈t.R,r.length=t.L.length) :
  Spec V 61 [.ag ((eRT t).map .d),.c (.d (.sl 1 (ns.map eS)))] (.tu [.ag ((eRT (pickP t ns).1).map .d),i2 .i64 (pickP t ns).2]):=by
 obtain ⟨L,A⟩:=t
 simp only at ht hr hw
 have hn':ns.length≤64:=hn
 have hr':A.length≤1099511627776:=hr
 have h55:=names56 L ht.1
 obtain ⟨F,hF⟩:∃ F,F=pickP ⟨L,A⟩ ns:=⟨_,rfl⟩
 rw [← hF]
 unfold pickP at hF
 simp only at hF
 (refine Spec.of_go (L:=fun|0=>some [1,2,4]|1=>some [1,2,4,17]|2=>some [4,5]|3=>some [1,2,4,6]|4=>some [1,2,4,6,19,20,21]|5=>some [1,2,4,6,19,20,21,22]|6=>some [1,2,4,6,7,8,19,20,21]|7=>some [1,2,4,6,7,8,9,19,20,21]|8=>some [1,2,4,6,7,8,9,19,20,21,32]|9=>some [4,5]|10=>some [1,2,4,6,9,19,20,21,39]|11=>some [4,5]|12=>some [1,2,4,6,19,20,21]|13=>some [1,2,4,6,19,20,21]|14=>some [1,2,4,6,53,54,55]|15=>some [1,2,4,6,53,54,55,56]|16=>some [1,2,4,6,11,53,54,55]|17=>some [1,2,4,6,11,12,53,54,55]|18=>some [1,2,4,6,11,12,53,54,55,59,60,61]|19=>some [1,2,4,6,11,12,53,54,55,59,60,61,62]|20=>some [1,2,4,6,11,12,14,53,54,55,59,60,61]|21=>some [1,2,4,6,11,12,53,54,55,59,60,61]|22=>some [1,2,4,6,11,12,53,54,55,59,60,61]|23=>some [1,2,4,6,53,54,55]|24=>some [1,2,4,6,53,54,55]|25=>some [4,5]|_=>none) 1000 Go.Proofs.Tryz.func61 rfl rfl ⟨Nat.le_of_ble_eq_true rfl,rfl⟩ rfl ?_;unfold Go.Proofs.Tryz.f61;push_cast (maxSteps:=mS))
 by_cases c0:ns.length=0
 ·rw [if_pos c0] at hF
  subst hF
  (try push_cast (maxSteps:=mS) [c0,tb0])
 ·rw [if_neg c0] at hF
  have c1:¬ (ns.length:Int)=0:=by omega
  (try push_cast (maxSteps:=mS) [c1])
  refine LoopK.le (Le.nilB 2 0 136 3 (by decide) rfl rfl) ?_
  (try push_cast (maxSteps:=mS))
  refine LoopK.ov (α:=Nat) [21] (fun k=>[i2 .i64 k]) (fun k=>[.bx 74 [.d (.sl 3 (L.map eRC)),.d (.sl 1 (A.map eRR))],.bx 74 [.d (.v (.slice none 0 0)),.d (.v (.slice none 0 0))],.bx 74 [.os 3,.d (.v (.slice none 0 0))],.rw 136 3 (((placesN L (ns.take k)).map fun p=>L.getD p cl0).map eRC)])
   (fun k=>k≤ns.length∧keyF L (ns.take k) (ns.drop k) k=keyF L [] ns 0∧∀ n∈ns.take k,foundN L n) (fun k=>ns.length - k) 1000 0 ⟨by omega,rfl,by simp⟩ (by (try push_cast (maxSteps:=mS))<;>first|rfl|exact ⟨rfl,rfl⟩|exact ⟨rfl,rfl,rfl⟩|trivial) ?_
  rintro k ⟨hk,hc,hf⟩
  by_cases hlt:k<ns.length
  ·have hv:=atT hlt;have hd:=ltT hlt
   rw [drop_cons hv] at hc;simp only [keyF] at hc
   have htk:ns.take (k+1)=ns.take k++[ns[k]]:=by rw [List.take_add_one,hv];rfl
   have hpk:(placesN L (ns.take k)).length=k:=by simp [placesN];omega
   have h62:=f55 (namesN L) ns[k] (by simpa [okLen,namesN] using ht.1)
   have hS:=f55 (ns.take k) ns[k] (by simp only [okLen,List.length_take];omega)
   simp only [List.map_take] at hS
   cases hfk:(findF ns[k] L 0).2.2 with
   | false =>
    have hno:=find_none hfk
    rw [if_pos hfk] at hc
    rw [← hc,if_pos (by simp)] at hF
    subst hF
    (try push_cast (maxSteps:=mS) [hd,getD_map hv])
    ((repeat' with_reducible refine And.intro ?_ ?_)<;>try exact sz)
    refine ⟨_,h55,rfl,?_⟩
    (try push_cast (maxSteps:=mS))
    refine ⟨_,h62,rfl,?_⟩
    have hno':decide (atF ns[k] (namesN L) 0<0)=true:=decide_eq_true hno
    (try push_cast (maxSteps:=mS) [hno',tb0])
   | true =>
    rw [if_neg (by simp [hfk])] at hc
    have hfn:foundN L ns[k]:=hfk
    rw [at_place hfn] at h62
    have hpt:placesN L (ns.take (k+1))=placesN L (ns.take k)++[placeN L ns[k]]:=by rw [htk,placesN,List.map_append];rfl
    have hgc:L.getD (placeN L ns[k]) cl0=(findF ns[k] L 0).1:=by rw [List.getD_eq_getElem?_getD,(placeN_get hfn).1];rfl
    have hcp:=(placeN_get hfn).1
    have hplt:=placeN_lt hfn
    have hmem:∀ n∈ns.take (k+1),foundN L n:=fun n hn=>by
     rw [htk] at hn
     rcases List.mem_append.1 hn with hn|hn
     ·exact hf n hn
     ·rw [List.mem_singleton.1 hn];exact hfn
    (try push_cast (maxSteps:=mS) [hd,getD_map hv])
    ((repeat' with_reducible refine And.intro ?_ ?_)<;>try exact sz)
    refine ⟨_,h55,rfl,?_⟩
    (try push_cast (maxSteps:=mS))
    refine ⟨_,h62,rfl,?_⟩
    have hn0:decide ((placeN L ns[k]:Int)<0)=false:=decide_eq_false (by omega)
    (try push_cast (maxSteps:=mS) [hn0])
    ((repeat' with_reducible refine And.intro ?_ ?_)<;>try exact sz)
    refine ⟨_,hS,rfl,?_⟩
    (try push_cast (maxSteps:=mS) [atF_memB])
    refine BrP.mk (fun h=>?_) (fun h=>?_)<;>try (push_cast (maxSteps:=mS) [h])
    ·rw [if_pos h] at hc
     rw [← hc,if_pos (by simp)] at hF
     subst hF
     (try push_cast (maxSteps:=mS) [tb0])
    ·rw [if_neg (by simp [h])] at hc
     rw [← htk] at hc
     (refine DrawK.of (.take 0 (.take 1 (.take 2 (.take 3 (.take 4 (.take 5 (.take 6 (.one 7 (.one 8 (.one 9 (.one 10 .done))))))))))) 1000 (by decide +kernel) ?_;try (push_cast (maxSteps:=mS)))
     (try push_cast (maxSteps:=mS) [getD_map hcp,hpk])
     ((repeat' with_reducible refine And.intro ?_ ?_)<;>try exact sz)
     all_goals (refine ⟨k+1,⟨by omega,hc,hmem⟩,by omega,Le.st ?_⟩)
     all_goals rw [hpt,List.map_append,List.map_append,List.map_cons,List.map_nil,List.map_cons,List.map_nil,hgc]
     all_goals (try push_cast (maxSteps:=mS))
     all_goals (first|exact ⟨rfl,rfl⟩|rfl|trace_state)
  ·have hd:=geF hlt
   have hkk:k=ns.length:=by omega
   subst hkk
   rw [List.take_length,List.drop_length,keyF] at hc
   rw [List.take_length] at hf
   rw [List.take_length]
   rw [← hc,if_neg (by simp)] at hF
   have hplt:=placesN_lt (l:=L) (ks:=ns) hf
   have hpl:(placesN L ns).length=ns.length:=by simp [placesN]
   have hpk:∀ k (h:k<ns.length),(placesN L ns)[k]?=some (placeN L ns[k]):=fun k h=>by rw [placesN,List.getElem?_map,List.getElem?_eq_getElem h];rfl
   generalize placesN L ns=ps at *
   subst hF
   clear hc hlt
   (try push_cast (maxSteps:=mS) [hd])
   clear hd
   refine LoopK.le (Le.nilB 2 1 39 1 (by decide) rfl rfl) ?_
   (try push_cast (maxSteps:=mS))
   refine LoopK.ov (α:=Nat) [55] (fun k=>[i2 .i64 k]) (fun k=>[.bx 74 [.d (.sl 3 (L.map eRC)),.d (.sl 1 (A.map eRR))],.bx 74 [.d (.v (.slice none 0 0)),.d (.v (.slice none 0 0))],.bx 74 [.os 3,.os 4],.rw 136 3 ((ps.map fun p=>L.getD p cl0).map eRC),.rw 39 1 (((A.take k).map fun r=>ps.map (vAt r)).map eRR)]) (fun k=>k≤A.length) (fun k=>A.length - k) 1000 0 (by omega) (by (try push_cast (maxSteps:=mS))<;>first|rfl|exact ⟨rfl,rfl⟩|exact ⟨rfl,rfl,rfl⟩|trivial) ?_
   rintro k hk1
   by_cases hlt:k<A.length
   ·have hv:=atT hlt;have hd:=ltT hlt
    have htk:(A.take (k+1)).map (fun r=>ps.map (vAt r))=(A.take k).map (fun r=>ps.map (vAt r))++[ps.map (vAt A[k])]:=by rw [List.take_add_one,hv,List.map_append];rfl
    have hlk:((A.take k).map (fun r=>ps.map (vAt r))).length=k:=by rw [List.length_map,List.length_take];omega
    have hrl:=hw _ (List.getElem_mem hlt)
    generalize A[k]=r at *
    generalize (A.take k).map (fun r=>ps.map (vAt r))=out at *
    (try push_cast (maxSteps:=mS) [hd,getD_map hv])
    ((repeat' with_reducible refine And.intro ?_ ?_)<;>try exact sz)
    refine LoopK.le (Le.nil 12 38 4 (by decide) (by (try push_cast (maxSteps:=mS)))) ?_
    (try push_cast (maxSteps:=mS))
    refine LoopK.ov (α:=Nat) [61] (fun j=>[i2 .i64 j]) (fun j=>[.bx 74 [.d (.sl 3 (L.map eRC)),.d (.sl 1 (A.map eRR))],.bx 74 [.d (.v (.slice none 0 0)),.d (.v (.slice none 0 0))],.bx 74 [.os 3,.os 4],.rw 136 3 ((ps.map fun p=>L.getD p cl0).map eRC),.rw 39 1 (out.map eRR),.rw 38 4 (((ps.take j).map (vAt r)).map eRV)]) (fun j=>j≤ns.length) (fun j=>ns.length - j) 1000 0 (by omega) (by (try push_cast (maxSteps:=mS))<;>first|rfl|exact ⟨rfl,rfl⟩|exact ⟨rfl,rfl,rfl⟩|trivial) ?_
    rintro j hj1
    by_cases hlt2:j<ns.length
    ·have hv2:=List.getElem?_eq_getElem hlt2
     have hd2:decide ((j:Int)<(ns.length:Int))=true:=decide_eq_true (by omega)
     have hpj:=hpk j hlt2
     have hfj:=hf _ (List.getElem_mem hlt2)
     have h62:=f55 (namesN L) ns[j] (by simpa [okLen,namesN] using ht.1)
     rw [at_place hfj] at h62
     have hplj:=placeN_lt hfj
     have htj:(ps.take (j+1)).map (vAt r)=(ps.take j).map (vAt r)++[vAt r (placeN L ns[j])]:=by rw [List.take_add_one,hpj,List.map_append];rfl
     have hlj:((ps.take j).map (vAt r)).length=j:=by rw [List.length_map,List.length_take];omega
     generalize ns[j]=n at *
     generalize placeN L n=p at *
     have hvp:r[p]?=some (vAt r p):=by rw [vAt,List.getD_eq_getElem?_getD,List.getElem?_eq_getElem (show p<r.length by omega)];rfl
     (try push_cast (maxSteps:=mS) [hd2,getD_map hv2])
     ((repeat' with_reducible refine And.intro ?_ ?_)<;>try exact sz)
     refine ⟨_,h55,rfl,?_⟩
     (try push_cast (maxSteps:=mS))
     refine ⟨_,h62,rfl,?_⟩
     (try push_cast (maxSteps:=mS) [getD_map hvp,hlj])
     ((repeat' with_reducible refine And.intro ?_ ?_)<;>try exact sz)
     refine ⟨j+1,by omega,by omega,Le.st ?_⟩
     rw [htj]
     (try push_cast (maxSteps:=mS))
     all_goals (first|exact ⟨by rw [List.map_append];rfl,rfl,rfl⟩|exact ⟨by rw [List.map_append];rfl,rfl⟩|rfl|trace_state)
    ·have hd2:decide ((j:Int)<(ns.length:Int))=false:=decide_eq_false (by omega)
     rw [show ps.take j=ps from List.take_of_length_le (by omega)]
     (try push_cast (maxSteps:=mS) [hd2,List.length_map,hlk])
     ((repeat' with_reducible refine And.intro ?_ ?_)<;>try exact sz)
     refine ⟨k+1,by omega,by omega,Le.st ?_⟩
     rw [htk]
     (try push_cast (maxSteps:=mS))
     all_goals (first|exact ⟨by rw [List.map_append];rfl,rfl,rfl⟩|exact ⟨by rw [List.map_append];rfl,rfl⟩|rfl|trace_state)
   ·have hd:=geF hlt
    rw [show A.take k=A from List.take_of_length_le (by omega)]
    (try push_cast (maxSteps:=mS) [hd])
end Go.LS.Tryz
