/- Contracts of the functions of the seat,one by one (part Z2);no condition but those that each bears. -/
import Derived.Test.YtfmbjaeppffdpaaGreatDoorPP
import Derived.Test.YtfmbjaeppffdpaaGreatDoorDC
import Derived.Test.YtfmbjaeppffdpaaGreatDoorDB
namespace Go.LS.Tryz
open Go Go.LS
set_option maxRecDepth 100000
@[push_cast] def lv0Z2:Nat→Option (List Nat):=fun|0=>some [0,2]|1=>some [2]|_=>none
set_option linter.unusedSimpArgs false
set_option linter.unusedVariables false
theorem z43 (n:Int):Spec V 43 [i2 .i64 n] (.ag ((eV ⟨2,ByteArray.empty,n,false⟩).map .d)):=by
 (refine Spec.of_go (L:=lv0Z2) 1000 Go.Proofs.Tryz.func43 rfl rfl ⟨Nat.le_of_ble_eq_true rfl,rfl⟩ rfl ?_;unfold Go.Proofs.Tryz.f43;push_cast (maxSteps:=mS))
theorem z44 (s:ByteArray):Spec V 44 [s2 s] (.ag ((eV ⟨1,s,0,false⟩).map .d)):=by
 (refine Spec.of_go (L:=lv0Z2) 1000 Go.Proofs.Tryz.func44 rfl rfl ⟨Nat.le_of_ble_eq_true rfl,rfl⟩ rfl ?_;unfold Go.Proofs.Tryz.f44;push_cast (maxSteps:=mS))
theorem z83 (r:List Cl) (hr:okLen r):Spec V 83 [.c (.d (.sl 3 (r.map eC)))] (.c (.d (.sl 3 (r.map eC)))):=by
 (refine Spec.of_go (L:=fun|0=>some [0]|1=>some [0,4]|2=>some [2]|3=>some [2]|_=>none) 1000 Go.Proofs.Tryz.func83 rfl rfl ⟨Nat.le_of_ble_eq_true rfl,rfl⟩ rfl ?_;unfold Go.Proofs.Tryz.f83;push_cast (maxSteps:=mS))
 intro b hb
 (try push_cast (maxSteps:=mS))
 refine BrP.mk (fun h=>?_) (fun h=>?_)<;>try (push_cast (maxSteps:=mS) [h])
 ·have:=hb h
  simp at this
  simp [this]
 ·((repeat' with_reducible refine And.intro ?_ ?_)<;>try exact sz)
  all_goals trace_state
theorem z45 (t:Tb) (ht:okCl t.L) (hr:okLen t.R) (hrr:∀ r∈t.R,okLen r):Spec V 45 [.ag ((eT t).map .d)] (i2 .i64 (chkT t)):=by
 obtain ⟨L,A⟩:=t
 simp only at ht hr hrr
 have h34:=f47 L ht
 obtain ⟨R,hR⟩:∃ R,R=chkT ⟨L,A⟩:=⟨_,rfl⟩
 rw [← hR]
 unfold chkT at hR
 simp only at hR
 (refine Spec.of_go (L:=fun|0=>some [1]|1=>some [1,4]|2=>some [1,4,14]|3=>some [2]|4=>some [1,17,18,19]|5=>some [1,17,18,19,20]|6=>some [1,6,17,18,19]|7=>some [1,17,18,19,28]|8=>some [2]|9=>some [1,17,18,19]|10=>some [2]|_=>none) 1000 Go.Proofs.Tryz.func45 rfl rfl ⟨Nat.le_of_ble_eq_true rfl,rfl⟩ rfl ?_;unfold Go.Proofs.Tryz.f45;push_cast (maxSteps:=mS))
 refine ⟨_,h34,rfl,?_⟩
 by_cases c1:(checkC L).2=0
 ·rw [if_neg (by simp [c1])] at hR
  (try push_cast (maxSteps:=mS) [c1])
  refine LoopK.s1 (α:=Nat) [19] (fun k=>[i2 .i64 k]) (fun k=>k≤A.length∧((A.drop k).all fun r=>decide (r.length=L.length))=evenF ⟨L,A⟩) (fun k=>A.length - k) 1000 0 ⟨by omega,rfl⟩ (by (try push_cast (maxSteps:=mS))<;>first|rfl|exact ⟨rfl,rfl⟩|exact ⟨rfl,rfl,rfl⟩|trivial) ?_
  rintro k ⟨hk,hc⟩
  by_cases hlt:k<A.length
  ·have hv:=atT hlt;have hd:=ltT hlt
   rw [drop_cons hv,List.all_cons] at hc
   have hrl:=hrr _ (List.getElem_mem hlt)
   generalize A[k]=r at *
   by_cases hw:r.length=L.length
   ·rw [decide_eq_true hw,Bool.true_and] at hc
    (try push_cast (maxSteps:=mS) [hd,getD_map hv,hw])
    ((repeat' with_reducible refine And.intro ?_ ?_)<;>try exact sz)
    refine ⟨k+1,⟨by omega,hc⟩,by omega,Le.st ?_⟩
    (try push_cast (maxSteps:=mS));(all_goals first|rfl|skip)
   ·have hw':¬ (r.length:Int)=(L.length:Int):=by omega
    rw [decide_eq_false hw,Bool.false_and] at hc
    rw [← hc,if_pos rfl] at hR
    subst hR
    (try push_cast (maxSteps:=mS) [hd,getD_map hv,hw,hw'])
    ((repeat' with_reducible refine And.intro ?_ ?_)<;>try exact sz)
  ·have hd:=geF hlt
   rw [List.drop_eq_nil_of_le (by omega),List.all_nil] at hc
   rw [← hc,if_neg (by simp)] at hR
   subst hR
   (try push_cast (maxSteps:=mS) [hd])
 ·rw [if_pos c1] at hR
  subst hR
  (try push_cast (maxSteps:=mS) [c1])
set_option maxHeartbeats 2000000 in
theorem z47 (l:List Cl) (rows:List (List Vl)) (e:Int) (hl:okLen l) (hr:okLen rows) (hrr:∀ r∈rows,okLen r) :
  Spec V 47 [.c (.d (.sl 3 (l.map eC))),.c (.d (.sl 1 (rows.map eR))),i2 .i64 e] (.tu [.ag ((eT (tabT l rows e).1).map .d),i2 .i64 (tabT l rows e).2]):=by
 have h83:=z83 l hl
 have hrl:rows.length≤1099511627776:=hr
 (refine Spec.of_go (L:=fun|0=>some [0,1,2,6]|1=>some [0,1,2,6,12]|2=>some [6,7]|3=>some [1,6,8]|4=>some [6,8,18,19,20]|5=>some [6,8,18,19,20,21]|6=>some [6,8,10,18,19,20]|7=>some [6,8,18,19,20]|8=>some [6,8,18,19,20]|9=>some [6,7]|_=>none) 1000 Go.Proofs.Tryz.func47 rfl rfl ⟨Nat.le_of_ble_eq_true rfl,rfl⟩ rfl ?_;unfold Go.Proofs.Tryz.f47;push_cast (maxSteps:=mS))
 by_cases c1:e=0
 ·subst c1
  simp only [tabT]
  (try push_cast (maxSteps:=mS))
  refine ⟨_,h83,rfl,?_⟩
  (try push_cast (maxSteps:=mS))
  refine LoopK.le (Le.nilB 1 1 28 1 (by decide) rfl rfl) ?_
  (try push_cast (maxSteps:=mS))
  refine LoopK.ov (α:=Nat) [20] (fun k=>[i2 .i64 k]) (fun k=>[.bx 25 [.d (.v (.slice none 0 0)),.d (.v (.slice none 0 0))],.bx 25 [.d (.sl 3 (l.map eC)),.os 2],.rw 28 1 ((rows.take k).map eR)]) (fun k=>k≤rows.length) (fun k=>rows.length - k) 1000 0 (by omega) (by (try push_cast (maxSteps:=mS))<;>first|rfl|exact ⟨rfl,rfl⟩|exact ⟨rfl,rfl,rfl⟩|trivial) ?_
  rintro k hk1
  by_cases hlt:k<rows.length
  ·have hv:=atT hlt;have hd:=ltT hlt
   have htk:rows.take (k+1)=rows.take k++[rows[k]]:=by rw [List.take_add_one,hv];rfl
   have hlk:(rows.take k).length=k:=by rw [List.length_take];omega
   have h58:=f58 rows[k] (hrr _ (List.getElem_mem hlt))
   generalize rows[k]=r at *
   (try push_cast (maxSteps:=mS) [hd,getD_map hv])
   ((repeat' with_reducible refine And.intro ?_ ?_)<;>try exact sz)
   (refine DrawK.of (.take 0 (.take 1 (.take 2 (.one 3 (.one 4 (.one 5 (.one 6 (.one 7 .done)))))))) 1000 (by decide +kernel) ?_;try (push_cast (maxSteps:=mS)))
   ((repeat' with_reducible refine And.intro ?_ ?_)<;>try exact sz)
   all_goals (refine ⟨_,h58,rfl,?_⟩)
   all_goals (try push_cast (maxSteps:=mS) [List.length_map,hlk])
   all_goals ((repeat' with_reducible refine And.intro ?_ ?_)<;>try exact sz)
   all_goals (try (simp only [maxLen];omega))
   all_goals (refine ⟨k+1,by omega,by omega,Le.st ?_⟩)
   all_goals rw [htk]
   all_goals (try push_cast (maxSteps:=mS))
   all_goals (first|rfl|exact ⟨rfl,rfl⟩|(simp;done)|(simp;rfl)|trace_state)
  ·have hd:=geF hlt
   rw [show rows.take k=rows from List.take_of_length_le (by omega)]
   (try push_cast (maxSteps:=mS) [hd])
 ·have e1:tabT l rows e=(tb0,e):=by unfold tabT;rw [if_pos c1]
  rw [e1]
  (try push_cast (maxSteps:=mS) [c1,tb0])
set_option maxHeartbeats 4000000 in
theorem z49 (t:Tb) (ns:List ByteArray) (ht:okCl t.L) (hn:okKeys ns) (hr:okLen t.R) (hw:∀ r∈t.R,r.length=t.L.length) :
  Spec V 49 [.ag ((eT t).map .d),.c (.d (.sl 1 (ns.map eS)))] (.tu [.ag ((eT (pickP t ns).1).map .d),i2 .i64 (pickP t ns).2]):=by
 obtain ⟨L,A⟩:=t
 simp only at ht hr hw
 have hn':ns.length≤64:=hn
 have hr':A.length≤1099511627776:=hr
 obtain ⟨F,hF⟩:∃ F,F=pickP ⟨L,A⟩ ns:=⟨_,rfl⟩
 rw [← hF]
 unfold pickP at hF
 simp only at hF
 (refine Spec.of_go (L:=fun|0=>some [1,2,4]|1=>some [1,2,4,20]|2=>some [4,5]|3=>some [1,2,4,6]|4=>some [1,2,4,6,7]|5=>some [2,4,6,7,22,23,24]|6=>some [2,4,6,7,22,23,24,25]|7=>some [2,4,6,7,9,22,23,24]|8=>some [2,4,6,7,10,11,12,22,23,24]|9=>some [2,4,6,7,10,11,22,23,24,37]|10=>some [4,5]|11=>some [2,4,6,7,10,11,22,23,24,41]|12=>some [4,5]|13=>some [2,4,6,7,10,22,23,24]|14=>some [2,4,6,7,22,23,24]|15=>some [2,4,6,7,22,23,24]|16=>some [4,6,7,55,56,57]|17=>some [4,6,7,55,56,57,58]|18=>some [4,6,7,14,55,56,57]|19=>some [4,6,7,14,15,55,56,57]|20=>some [4,6,7,14,15,55,56,57,61,62,63]|21=>some [4,6,7,14,15,55,56,57,61,62,63,64]|22=>some [4,6,7,14,15,17,55,56,57,61,62,63]|23=>some [4,6,7,14,15,55,56,57,61,62,63]|24=>some [4,6,7,14,15,55,56,57,61,62,63]|25=>some [4,6,7,55,56,57]|26=>some [4,6,7,55,56,57]|27=>some [4,5]|_=>none) 1000 Go.Proofs.Tryz.func49 rfl rfl ⟨Nat.le_of_ble_eq_true rfl,rfl⟩ rfl ?_;unfold Go.Proofs.Tryz.f49;push_cast (maxSteps:=mS))
 by_cases c0:ns.length=0
 ·rw [if_pos c0] at hF
  subst hF
  (try push_cast (maxSteps:=mS) [c0,tb0])
 ·rw [if_neg c0] at hF
  have c1:¬ (ns.length:Int)=0:=by omega
  (try push_cast (maxSteps:=mS) [c1])
  refine LoopK.le (Le.nil 7 3 1 (by decide) (by (try push_cast (maxSteps:=mS)))) ?_
  (try push_cast (maxSteps:=mS))
  refine LoopK.le (Le.nilB 2 0 52 3 (by decide) rfl rfl) ?_
  (try push_cast (maxSteps:=mS))
  refine LoopK.ov (α:=Nat) [24] (fun k=>[i2 .i64 k]) (fun k=>[.bx 25 [.d (.sl 3 (L.map eC)),.d (.sl 1 (A.map eR))],.bx 25 [.d (.v (.slice none 0 0)),.d (.v (.slice none 0 0))],.bx 25 [.os 4,.d (.v (.slice none 0 0))],.rw 3 1 ((placesN L (ns.take k)).map eJ),.rw 52 3 (((placesN L (ns.take k)).map fun p=>L.getD p cl0).map eC)])
   (fun k=>k≤ns.length∧keyF L (ns.take k) (ns.drop k) k=keyF L [] ns 0∧∀ n∈ns.take k,foundN L n) (fun k=>ns.length - k) 1000 0 ⟨by omega,rfl,by simp⟩ (by (try push_cast (maxSteps:=mS))<;>first|rfl|exact ⟨rfl,rfl⟩|exact ⟨rfl,rfl,rfl⟩|trivial) ?_
  rintro k ⟨hk,hc,hf⟩
  by_cases hlt:k<ns.length
  ·have hv:=atT hlt;have hd:=ltT hlt
   rw [drop_cons hv] at hc;simp only [keyF] at hc
   have h89:=f62 L ns[k] ht.1
   simp only [eC_eq,List.map_cons,List.map_nil] at h89
   (try push_cast (maxSteps:=mS) [hd,getD_map hv])
   ((repeat' with_reducible refine And.intro ?_ ?_)<;>try exact sz)
   refine ⟨_,h89,rfl,?_⟩
   (try push_cast (maxSteps:=mS))
   ((repeat' with_reducible refine And.intro ?_ ?_)<;>try exact sz)
   refine BrP.mk (fun h=>?_) (fun h=>?_)<;>try (push_cast (maxSteps:=mS) [h])
   ·rw [if_pos (by simpa using h)] at hc
    rw [← hc,if_pos (by simp)] at hF
    subst hF
    (try push_cast (maxSteps:=mS) [tb0])
   ·have hfk:foundN L ns[k]:=by simpa [foundN] using h
    rw [if_neg (by simpa using h)] at hc
    have hS:=d65 (placesN L (ns.take k)) (placeN L ns[k]) (by simp only [okLen,placesN,List.length_map,List.length_take];omega)
    rw [place_mem hfk hf] at hS
    unfold placeN at hS
    (try push_cast (maxSteps:=mS))
    refine ⟨_,hS,rfl,?_⟩
    (try push_cast (maxSteps:=mS))
    refine BrP.mk (fun h=>?_) (fun h=>?_)<;>try (push_cast (maxSteps:=mS) [h])
    ·rw [if_pos h] at hc
     rw [← hc,if_pos (by simp)] at hF
     subst hF
     (try push_cast (maxSteps:=mS) [tb0])
    ·rw [if_neg (by simp [h])] at hc
     have htk:ns.take (k+1)=ns.take k++[ns[k]]:=by rw [List.take_add_one,hv];rfl
     rw [← htk] at hc
     have hpk:(placesN L (ns.take k)).length=k:=by simp [placesN];omega
     have hgc:L.getD (placeN L ns[k]) cl0=(findF ns[k] L 0).1:=by rw [List.getD_eq_getElem?_getD,(placeN_get hfk).1];rfl
     have hpt:placesN L (ns.take (k+1))=placesN L (ns.take k)++[placeN L ns[k]]:=by rw [htk,placesN,List.map_append];rfl
     (try push_cast (maxSteps:=mS) [hpk])
     ((repeat' with_reducible refine And.intro ?_ ?_)<;>try exact sz)
     refine ⟨k+1,⟨by omega,hc,?_⟩,by omega,Le.st ?_⟩
     ·intro n hn
      rw [htk] at hn
      rcases List.mem_append.1 hn with hn|hn
      ·exact hf n hn
      ·rw [List.mem_singleton.1 hn];exact hfk
     ·rw [hpt,List.map_append,List.map_append,List.map_append,List.map_cons,List.map_nil,List.map_cons,List.map_nil,List.map_cons,List.map_nil,hgc]
      (try push_cast (maxSteps:=mS))
      all_goals (first|exact ⟨rfl,rfl⟩|rfl|trace_state)
  ·have hd:=geF hlt
   have hkk:k=ns.length:=by omega
   subst hkk
   rw [List.take_length,List.drop_length,keyF] at hc
   rw [List.take_length] at hf
   rw [List.take_length]
   rw [← hc,if_neg (by simp)] at hF
   have hplt:=placesN_lt (l:=L) (ks:=ns) hf
   have hpl:(placesN L ns).length=ns.length:=by simp [placesN]
   generalize placesN L ns=ps at *
   subst hF
   clear hc hf hlt
   (try push_cast (maxSteps:=mS) [hd])
   clear hd
   refine LoopK.le (Le.nilB 2 1 28 1 (by decide) rfl rfl) ?_
   (try push_cast (maxSteps:=mS))
   refine LoopK.ov (α:=Nat) [57] (fun k=>[i2 .i64 k]) (fun k=>[.bx 25 [.d (.sl 3 (L.map eC)),.d (.sl 1 (A.map eR))],.bx 25 [.d (.v (.slice none 0 0)),.d (.v (.slice none 0 0))],.bx 25 [.os 4,.os 5],.rw 3 1 (ps.map eJ),.rw 52 3 ((ps.map fun p=>L.getD p cl0).map eC),.rw 28 1 (((A.take k).map fun r=>ps.map (vAt r)).map eR)]) (fun k=>k≤A.length) (fun k=>A.length - k) 1000 0 (by omega) (by (try push_cast (maxSteps:=mS))<;>first|rfl|exact ⟨rfl,rfl⟩|exact ⟨rfl,rfl,rfl⟩|trivial) ?_
   rintro k hk1
   by_cases hlt:k<A.length
   ·have hv:=atT hlt;have hd:=ltT hlt
    have htk:(A.take (k+1)).map (fun r=>ps.map (vAt r))=(A.take k).map (fun r=>ps.map (vAt r))++[ps.map (vAt A[k])]:=by rw [List.take_add_one,hv,List.map_append];rfl
    have hlk:((A.take k).map (fun r=>ps.map (vAt r))).length=k:=by rw [List.length_map,List.length_take];omega
    have hrl:=hw _ (List.getElem_mem hlt)
    generalize A[k]=r at *
    generalize (A.take k).map (fun r=>ps.map (vAt r))=out at *
    (try push_cast (maxSteps:=mS) [hd,getD_map hv])
    ((repeat' with_reducible refine And.intro ?_ ?_)<;>try exact sz)
    refine LoopK.le (Le.nil 15 27 4 (by decide) (by (try push_cast (maxSteps:=mS)))) ?_
    (try push_cast (maxSteps:=mS))
    refine LoopK.ov (α:=Nat) [63] (fun j=>[i2 .i64 j]) (fun j=>[.bx 25 [.d (.sl 3 (L.map eC)),.d (.sl 1 (A.map eR))],.bx 25 [.d (.v (.slice none 0 0)),.d (.v (.slice none 0 0))],.bx 25 [.os 4,.os 5],.rw 3 1 (ps.map eJ),.rw 52 3 ((ps.map fun p=>L.getD p cl0).map eC),.rw 28 1 (out.map eR),.rw 27 4 (((ps.take j).map (vAt r)).map eV)]) (fun j=>j≤ps.length) (fun j=>ps.length - j) 1000 0 (by omega) (by (try push_cast (maxSteps:=mS))<;>first|rfl|exact ⟨rfl,rfl⟩|exact ⟨rfl,rfl,rfl⟩|trivial) ?_
    rintro j hj1
    by_cases hlt2:j<ps.length
    ·have hv2:=List.getElem?_eq_getElem hlt2
     have hd2:decide ((j:Int)<(ps.length:Int))=true:=decide_eq_true (by omega)
     have htj:(ps.take (j+1)).map (vAt r)=(ps.take j).map (vAt r)++[vAt r ps[j]]:=by rw [List.take_add_one,hv2,List.map_append];rfl
     have hlj:((ps.take j).map (vAt r)).length=j:=by rw [List.length_map,List.length_take];omega
     have hpj:=hplt _ (List.getElem_mem hlt2)
     generalize ps[j]=p at *
     have hvp:r[p]?=some (vAt r p):=by rw [vAt,List.getD_eq_getElem?_getD,List.getElem?_eq_getElem (show p<r.length by omega)];rfl
     (try push_cast (maxSteps:=mS) [hd2,getD_map hv2,getD_map hvp,hlj])
     ((repeat' with_reducible refine And.intro ?_ ?_)<;>try exact sz)
     refine ⟨j+1,by omega,by omega,Le.st ?_⟩
     rw [htj]
     (try push_cast (maxSteps:=mS))
     all_goals (first|rfl|exact ⟨by rw [List.map_append];rfl,rfl,rfl⟩|exact ⟨by rw [List.map_append];rfl,rfl⟩|trace_state)
    ·have hd2:decide ((j:Int)<(ps.length:Int))=false:=decide_eq_false (by omega)
     rw [show ps.take j=ps from List.take_of_length_le (by omega)]
     (try push_cast (maxSteps:=mS) [hd2,List.length_map,hlk])
     ((repeat' with_reducible refine And.intro ?_ ?_)<;>try exact sz)
     refine ⟨k+1,by omega,by omega,Le.st ?_⟩
     rw [htk]
     (try push_cast (maxSteps:=mS))
     exact ⟨by rw [List.map_append];rfl,rfl,rfl⟩
   ·have hd:=geF hlt
    rw [show A.take k=A from List.take_of_length_le (by omega)]
    (try push_cast (maxSteps:=mS) [hd])
theorem renC_ok {l:List Cl} {p:Nat} {n:ByteArray} (hl:okCl l) (hn:n.size≤1099511627776):okCl (renC l p n):=by
 refine ⟨by have:=hl.1;simp only [okLen,renC,List.length_set] at *;exact this,fun c hc=>?_⟩
 rcases List.mem_or_eq_of_mem_set hc with h|h
 ·exact hl.2 c h
 ·subst h;exact hn
set_option maxHeartbeats 4000000 in
theorem z50 (t:Tb) (ns:List ByteArray) (ht:okCl t.L) (hn:okKeys ns) (hr:okLen t.R) (hrr:∀ r∈t.R,okLen r) (hns:∀ n∈ns,n.size≤1099511627776) :
  Spec V 50 [.ag ((eT t).map .d),.c (.d (.sl 1 (ns.map eS)))] (.tu [.ag ((eT (nameP t ns).1).map .d),i2 .i64 (nameP t ns).2]):=by
 obtain ⟨L,A⟩:=t
 simp only at ht hr hrr
 obtain ⟨F,hF⟩:∃ F,F=nameP ⟨L,A⟩ ns:=⟨_,rfl⟩
 rw [← hF]
 unfold nameP at hF
 simp only at hF
 (refine to1 ?_;refine Spec.of_go (V:=V2) (L:=fun|0=>some [1,2,4]|1=>some [1,2,4,14]|2=>some [4,5]|3=>some [1,2,4,7,8]|4=>some [1,2,4,7,27]|5=>some [4,5]|6=>some [1,2,4,7,9]|7=>some [2,4,9]|8=>some [2,4,9,11]|9=>some [4,5]|_=>none) 1000 Go.Proofs.Tryz.func50 rfl rfl ⟨Nat.le_of_ble_eq_true rfl,rfl⟩ rfl ?_;unfold Go.Proofs.Tryz.f50;push_cast (maxSteps:=mS))
 by_cases c0:ns.length=2
 ·rw [if_neg (by simp [c0])] at hF
  obtain ⟨n0,n1,rfl⟩:∃ a b,ns=[a,b]:=by
   rcases ns with _|⟨a,_|⟨b,_|⟨c,l⟩⟩⟩<;>simp at c0
   exact ⟨a,b,rfl⟩
  clear c0
  simp only [List.getD_cons_zero,List.getD_cons_succ] at hF
  have h89:=to2 (f62 L n0 ht.1)
  have h83:=toR2 (d78R L ht.1)
  (try push_cast (maxSteps:=mS))
  refine DrawK.cut (.take 0 (.take 1 (.take 2 (.take 3 (.take 4 (.two 5 (.take 6 (.take 7 (.three 8 (.two 9 (.one 10 (.one 11 (.take 12 (.take 13 .done)))) 10 (.two 9 (.one 11 (.take 12 (.take 13 .done))) 11 (.take 9 (.take 12 (.take 13 .done))))) 9 (.two 8 (.one 10 (.one 11 (.take 12 (.take 13 .done)))) 10 (.two 8 (.one 11 (.take 12 (.take 13 .done))) 11 (.take 8 (.take 12 (.take 13 .done))))) 10 (.three 8 (.two 9 (.one 11 (.take 12 (.take 13 .done))) 11 (.take 9 (.take 12 (.take 13 .done)))) 9 (.two 8 (.one 11 (.take 12 (.take 13 .done))) 11 (.take 8 (.take 12 (.take 13 .done)))) 11 (.take 8 (.take 9 (.take 12 (.take 13 .done)))))))) 10 (.one 5 (.take 6 (.take 7 (.three 8 (.two 9 (.one 11 (.take 12 (.take 13 .done))) 11 (.take 9 (.take 12 (.take 13 .done)))) 9 (.two 8 (.one 11 (.take 12 (.take 13 .done))) 11 (.take 8 (.take 12 (.take 13 .done)))) 11 (.take 8 (.take 9 (.take 12 (.take 13 .done)))))))))))))) 1000 (by decide +kernel) ⟨[(8,b2 (findF n0 L 0).2.2),(7,i2 .i64 (findF n0 L 0).2.1),(4,.c (.op 1 0)),(2,.c (.op 0 0)),(1,.c (.d (.sl 1 [[.v (.string n0)],[.v (.string n1)]])))],
   [.bx 25 [.d (.sl 3 (L.map eC)),.d (.sl 1 (A.map eR))],.bx 25 [.d (.v (.slice none 0 0)),.d (.v (.slice none 0 0))],.bx 52 ((eC (findF n0 L 0).1).map .d)]⟩ ?_ ?_
  ·(try push_cast (maxSteps:=mS))
   ((repeat' with_reducible refine And.intro ?_ ?_)<;>try exact sz)
   all_goals (refine ⟨_,h89,rfl,?_⟩)
   all_goals (try push_cast (maxSteps:=mS))
   all_goals ((repeat' with_reducible refine And.intro ?_ ?_)<;>try exact sz)
   all_goals (refine Le.st ?_)
   all_goals (try push_cast (maxSteps:=mS))
   all_goals rfl
  ·(try push_cast (maxSteps:=mS))
   cases hf:(findF n0 L 0).2.2 with
   | false =>
    rw [hf,if_pos rfl] at hF
    subst hF
    (try push_cast (maxSteps:=mS) [tb0])
   | true =>
    rw [hf,if_neg (by simp)] at hF
    have h34:=to2 (f47 (renC L (placeN L n0) n1) (renC_ok ht (hns n1 (by simp))))
    have h47:=to2 (z47 (renC L (placeN L n0) n1) A (checkC (renC L (placeN L n0) n1)).2 (renC_ok ht (hns n1 (by simp))).1 hr hrr)
    have hfn:foundN L n0:=hf
    have hlt:=placeN_lt hfn
    have hset:(L.map eC).set (placeN L n0) [.v (.string n1),.v (.int .i64 (L.getD (placeN L n0) cl0).kind),.v (.bool (L.getD (placeN L n0) cl0).null)]=(renC L (placeN L n0) n1).map eC:=by
     unfold renC;rw [List.map_set];rfl
    have hgd:(L.map eC).getD (placeN L n0) []=eC (L.getD (placeN L n0) cl0):=by
     rw [List.getD_eq_getElem?_getD,List.getElem?_map,List.getElem?_eq_getElem hlt,List.getD_eq_getElem?_getD,List.getElem?_eq_getElem hlt];rfl
    unfold placeN at hlt hset hgd hF h34 h47
    generalize renC L (findF n0 L 0).2.1 n1=L2 at *
    generalize (findF n0 L 0).2.1=p at *
    generalize checkC L2=CK at *
    obtain ⟨ck,ce⟩:=CK
    simp only at hF h34 h47
    subst hF
    (try push_cast (maxSteps:=mS))
    refine .inl ⟨_,_,_,h83,?_⟩
    (try push_cast (maxSteps:=mS) [List.getD_cons_succ,List.getD_cons_zero,hgd,hset])
    ((repeat' with_reducible refine And.intro ?_ ?_)<;>try exact sz)
    refine ⟨_,h34,rfl,?_⟩
    (try push_cast (maxSteps:=mS))
    refine ⟨_,h47,rfl,?_⟩
    (try push_cast (maxSteps:=mS))
 ·rw [if_pos c0] at hF
  subst hF
  have c1:¬ (ns.length:Int)=2:=by omega
  (try push_cast (maxSteps:=mS) [c1,tb0])
end Go.LS.Tryz
