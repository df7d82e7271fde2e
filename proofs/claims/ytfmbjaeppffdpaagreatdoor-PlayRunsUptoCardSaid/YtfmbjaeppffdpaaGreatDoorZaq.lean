/- Contracts of the functions of the seat,one by one (part Zaq);no condition but those that each bears. -/
import Derived.Test.YtfmbjaeppffdpaaGreatDoorZ3q
import Derived.Test.YtfmbjaeppffdpaaGreatDoorZ7
import Derived.Test.YtfmbjaeppffdpaaGreatDoorZ8
import Derived.Test.YtfmbjaeppffdpaaGreatDoorZ9
import Derived.Test.YtfmbjaeppffdpaaGreatDoorDD
import Derived.Test.YtfmbjaeppffdpaaGreatDoorPP
namespace Go.LS.Tryz
open Go Go.LS
set_option maxRecDepth 100000
set_option linter.unusedSimpArgs false
set_option linter.unusedVariables false
set_option maxHeartbeats 16000000 in
theorem z21q (t:Tb) (s:Stp) (ht:okQ t) (hs:okH s) (hj:s.kind=6→t.R.length≤200):Spec V 21 [.ag ((eRT t).map .d),.ag ((eRSt s).map .d)] (.tu [.ag ((eRT (stepT t s).1).map .d),i2 .i64 (stepT t s).2]):=by
 obtain ⟨⟨htl,htr,htv,hright⟩,hL,hR⟩:=ht
 have hrl:∀ r∈t.R,okLen r:=fun r hr=>(htv r hr).1
 have h54:=z54 t htl htr hrl
 obtain ⟨⟨hki,hq,hks,hni,hnl,hw0,hon0,hhow,hag0,htot⟩,hnm,hnz,hon,hag,haz,hw,hwl,hwr⟩:=hs
 have h55:=names56 t.L htl.1
 have h56:=f16 s.q t.L hq htl
 have h57:=fun row (h:row.length=t.L.length)=>f23 t.L row htl h _ s.q (Nat.le_refl _) hq
 have h58:=f33 s.ks t.L hks htl
 have h59:=fun h h2=>f38 s.ks t.L t.R hks htl h htr h2
 have h60:=fun h h2=>f43 s.ks t.L t.R hks htl h htr h2
 have h61:=fun h=>z61 t s.nm htl (by simp only [okKeys];omega) htr h
 have h62:=fun x=>f55 (namesN t.L) x (by simpa [okLen,namesN] using htl.1)
 have h31:=fun p x (h:x.size≤1099511627776)=>f50 (renC t.L p x) (renC_ok htl h)
 have h63:=d34 t.L s.w.L s.on s.how htl hw.l (by omega) hhow
 have h64:=d37 t.L s.w.L s.on s.how (by simp only [okLen];omega) (by omega) (by omega)
 have h65:=fun h6 h1 h2 h3 h4=>d42 t s.w s.on s.how htl.1 (by omega) (by simp only [okLen];omega) h1 h2 h3 (by omega) (hj h6) (by omega) h4
 have h66:=d52 t.L s.nm s.ag htl (by simp only [okKeys];omega) (by omega) haz
 have h67:=fun h1 h2 h3=>z67 t s.nm s.ag ⟨htl,htr,htv,hright⟩ (by simp only [okKeys];omega) h1 h2 (by omega) (by omega) h3
 have hev:chkT t=0→evenF t=true∧(∀ r∈t.R,r.length=t.L.length)∧(checkC t.L).2=0:=fun h=>by
  unfold chkT at h
  split at h
  ·contradiction
  ·rename_i h1
   split at h
   ·cases h
   ·rename_i h2
    have:evenF t=true:=by simpa using h2
    exact ⟨this,by simpa [evenF] using this,by simpa using h1⟩
 have ewd:evenF t=wideF t.L t.R:=rfl
 have hplr:evenF t=true→(placesR s.ks t.L [t.R]).2=(ordC s.ks t.L).2:=fun h=>by
  rw [ewd] at h
  unfold placesR
  by_cases h0:(ordC s.ks t.L).2≠0
  ·rw [if_pos h0]
  ·rw [if_neg h0,if_neg (by simp [h])]
   simpa using (Eq.symm (by simpa using h0:(ordC s.ks t.L).2=0))
 have hsp:evenF t=true→sortP s.ks t.L t.R=if (ordC s.ks t.L).2≠0 then ([],(ordC s.ks t.L).2) else (sortF (ordF (placesF s.ks t.L)) t.R,0):=fun h=>by unfold sortP;rw [hplr h]
 have hup:evenF t=true→uniqP s.ks t.L t.R=if (ordC s.ks t.L).2≠0 then ([],(ordC s.ks t.L).2) else (uniqK (ordF (placesF s.ks t.L)) [] t.R t.R.length,0):=fun h=>by unfold uniqP;rw [hplr h]
 have hof:=@ordC_found s.ks t.L
 clear hplr
 obtain ⟨F,hF⟩:∃ F,F=stepT t s:=⟨_,rfl⟩
 rw [← hF]
 unfold stepT at hF
 obtain ⟨L,A⟩:=t
 obtain ⟨kind,⟨op,col,v,vl,kids⟩,ks,n,nm,⟨M,C⟩,on,how,ag⟩:=s
 simp only [eRT_eq,eRN_eq,op_mk,col_mk,v_mk,l_mk,ks_mk] at *
 generalize chkT ⟨L,A⟩=c at *
 (refine Spec.of_go (L:=fun|0=>some [2,3,4]|1=>some [2,3,4,6]|2=>some [2,3,4,6,7]|3=>some [2,3,4,6,7,32]|4=>some [4,5]|5=>some [2,3,4,6,8]|6=>some [2,3,4,6,8,9]|7=>some [2,3,4,6,8,9,42]|8=>some [2,3,4,6,8,9,42,43]|9=>some [2,3,4,6,8,10]|10=>some [2,3,4,6,8,10,51]|11=>some [4,5]|12=>some [2,3,4,8,55,56,57]|13=>some [2,3,4,8,55,56,57,58]|14=>some [2,3,4,8,12,55,56,57]|15=>some [2,3,4,8,12,55,56,57,66]|16=>some [2,3,4,8,55,56,57]|17=>some [2,3,4,8,55,56,57]|18=>some [4,5]|19=>some [2,3,4,6,8,9,42,75]|20=>some [2,3,4,6,8,9,42,75]|21=>some [2,3,4,6,8,14]|22=>some [2,3,4,6,8,14,87]|23=>some [4,5]|24=>some [2,3,4,8]|25=>some [2,3,4,8,100]|26=>some [4,8]|27=>some [4,5]|28=>some [2,3,4,6,8,9,42,110]|29=>some [3,4,8,113,114,115]|30=>some [3,4,8,113,114,115,116]|31=>some [3,4,8,15,16,113,114,115]|32=>some [3,4,8,16,113,114,115,123]|33=>some [3,4,8,113,114,115]|34=>some [3,4,8,113,114,115]|35=>some [4,5]|36=>some [2,3,4,6,8,9,42,132]|37=>some [4,5]|38=>some [2,3,4,6,8,9,42,140]|39=>some [2,3,4,6,8,9,145]|40=>some [4,5]|41=>some [2,3,4,6,8,17]|42=>some [2,3,4,6,8,17,154]|43=>some [4,5]|44=>some [2,3,4,6,8,17]|45=>some [3,4,6,8,17]|46=>some [4,6,8]|47=>some [4,6,8,19]|48=>some [4,6,8,19,181]|49=>some [4,5]|50=>some [4,5]|51=>some [2,3,4,6,42,185]|52=>some [2,3,4,6,21]|53=>some [2,3,4,6,21,201]|54=>some [4,5]|55=>some [2,3,4,6,206,207,208]|56=>some [2,3,4,6,206,207,208,209]|57=>some [2,3,4,6,23,206,207,208]|58=>some [2,3,4,6,206,207,208,218]|59=>some [4,5]|60=>some [2,3,4,6,206,207,208]|61=>some [4,5]|62=>some [2,3,4,6,240]|63=>some [2,3,4,6,24,26]|64=>some [2,3,4,6,24,26,254]|65=>some [4,5]|66=>some [4,6,24,26,27]|67=>some [4,6,24,26,27,267]|68=>some [4,5]|69=>some [4,5]|70=>some [4,5]|_=>none) 1000 Go.Proofs.Tryz.func21 rfl rfl ⟨Nat.le_of_ble_eq_true rfl,rfl⟩ rfl ?_;unfold Go.Proofs.Tryz.f21;push_cast (maxSteps:=mS))
 refine ⟨_,h54,rfl,?_⟩
 by_cases c1:c=0
 ·rw [if_neg (by simp [c1])] at hF
  obtain ⟨hev1,hw1,hcc⟩:=hev c1
  rw [hev1] at ewd
  replace hsp:=hsp hev1
  replace hup:=hup hev1
  clear hev h54
  (try push_cast (maxSteps:=mS) [c1])
  refine ⟨_,h55,rfl,?_⟩
  by_cases k1:kind=1
  ·rw [if_pos k1] at hF
   subst k1
   have hsel:selF (.mk op col v vl kids) L A=if checkF (.mk op col v vl kids) L≠0 then ([],checkF (.mk op col v vl kids) L) else (A.filter fun r=>holdsF (.mk op col v vl kids) L r,0):=by
    unfold selF;rw [← ewd];rfl
   rw [hsel] at hF
   have hce:=@check_every (.mk op col v vl kids) L
   (try push_cast (maxSteps:=mS))
   refine ⟨_,h56,rfl,?_⟩
   by_cases e0:checkF (.mk op col v vl kids) L=0
   ·rw [if_neg (by simp [e0]),tabT,if_neg (by simp)] at hF
    subst hF
    have h57:=fun row h=>h57 row h (hce e0)
    (try push_cast (maxSteps:=mS) [e0])
    refine LoopK.le (Le.nilB 4 1 39 1 (by decide) rfl rfl) ?_
    (try push_cast (maxSteps:=mS))
    refine LoopK.ov (α:=Nat) [57] (fun k=>[i2 .i64 k]) (fun k=>[.bx 74 [.d (.sl 3 (L.map eRC)),.d (.sl 1 (A.map eRR))],.bx 82 ((eRSt ⟨1,.mk op col v vl kids,ks,n,nm,⟨M,C⟩,on,how,ag⟩).map .d),.bx 74 [.d (.v (.slice none 0 0)),.d (.v (.slice none 0 0))],.bx 74 [.d (.v (.slice none 0 0)),.d (.v (.slice none 0 0))],.bx 74 [.d (.sl 3 (L.map eRC)),.os 5],.rw 39 1 (((A.take k).filter fun r=>holdsF (.mk op col v vl kids) L r).map eRR)]) (fun k=>k≤A.length) (fun k=>A.length - k) 1000 0 (by omega) (by (try push_cast (maxSteps:=mS))<;>first|rfl|exact ⟨rfl,rfl⟩|exact ⟨rfl,rfl,rfl⟩|trivial) ?_
    rintro k hk1
    by_cases hlt:k<A.length
    ·have hv:=atT hlt;have hd:=ltT hlt
     have htk:=filterTake (p:=fun r=>holdsF (.mk op col v vl kids) L r) hv
     have hfl:=List.length_filter_le (fun r=>holdsF (.mk op col v vl kids) L r) (A.take k)
     rw [List.length_take] at hfl
     have h57:=h57 A[k] (hw1 _ (List.getElem_mem hlt))
     generalize A[k]=r at *
     (try push_cast (maxSteps:=mS) [hd,getD_map hv])
     ((repeat' with_reducible refine And.intro ?_ ?_)<;>try exact sz)
     refine ⟨_,h57,rfl,?_⟩
     cases hh:holdsF (.mk op col v vl kids) L r with
     | false =>
      rw [hh,if_neg (by simp),List.append_nil] at htk
      (try push_cast (maxSteps:=mS))
      ((repeat' with_reducible refine And.intro ?_ ?_)<;>try exact sz)
      refine ⟨k+1,by omega,by omega,Le.st ?_⟩
      rw [htk]
      (try push_cast (maxSteps:=mS))
      all_goals (first|rfl|exact ⟨rfl,rfl⟩|trace_state)
     | true =>
      rw [hh,if_pos rfl] at htk
      (try push_cast (maxSteps:=mS))
      ((repeat' with_reducible refine And.intro ?_ ?_)<;>try exact sz)
      all_goals (try (simp only [maxLen];omega))
      refine ⟨k+1,by omega,by omega,Le.st ?_⟩
      rw [htk,List.map_append]
      (try push_cast (maxSteps:=mS))
      all_goals (first|rfl|exact ⟨rfl,rfl⟩|exact ⟨rfl,rfl,rfl⟩|trace_state)
    ·have hd:=geF hlt
     rw [show A.take k=A from List.take_of_length_le (by omega)]
     (try push_cast (maxSteps:=mS) [hd])
   ·rw [if_pos e0,tabT,if_pos e0] at hF
    subst hF
    (try push_cast (maxSteps:=mS) [e0,tb0])
  ·rw [if_neg k1] at hF
   clear h56 h57
   by_cases k2:kind=2
   ·subst k2
    rw [if_pos rfl,hsp] at hF
    (try push_cast (maxSteps:=mS))
    refine ⟨_,h58,rfl,?_⟩
    by_cases e0:(ordC ks L).2=0
    ·rw [if_neg (by simp [e0]),tabT,if_neg (by simp)] at hF
     subst hF
     replace h59:=h59 (hof e0) hw1
     (try push_cast (maxSteps:=mS) [e0])
     refine ⟨_,h59,rfl,?_⟩
     (try push_cast (maxSteps:=mS))
    ·rw [if_pos e0,tabT,if_pos e0] at hF
     subst hF
     (try push_cast (maxSteps:=mS) [e0,tb0])
   ·rw [if_neg k2] at hF
    (try push_cast (maxSteps:=mS) [k1,k2])
    by_cases k8:kind=8
    ·subst k8
     rw [if_neg (by decide),if_neg (by decide),if_neg (by decide),if_neg (by decide),if_neg (by decide),if_pos rfl,hup] at hF
     (try push_cast (maxSteps:=mS))
     refine ⟨_,h58,rfl,?_⟩
     by_cases e0:(ordC ks L).2=0
     ·rw [if_neg (by simp [e0]),tabT,if_neg (by simp)] at hF
      subst hF
      replace h59:=h59 (hof e0) hw1
      replace h60:=h60 (hof e0) hw1
      (try push_cast (maxSteps:=mS) [e0])
      refine ⟨_,h59,rfl,?_⟩
      (try push_cast (maxSteps:=mS))
      refine ⟨_,h60,rfl,?_⟩
      (try push_cast (maxSteps:=mS))
     ·rw [if_pos e0,tabT,if_pos e0] at hF
      subst hF
      (try push_cast (maxSteps:=mS) [e0,tb0])
    ·rw [if_neg k8] at hF
     clear h58 h59 h60 hsp hup hof
     (try push_cast (maxSteps:=mS) [k8])
     by_cases k3:kind=3
     ·subst k3
      rw [if_pos rfl] at hF
      (try push_cast (maxSteps:=mS))
      obtain ⟨m,hm⟩:∃ m,m=(max 0 n).toNat:=⟨_,rfl⟩
      have hclip:A.take (max 0 (min n A.length)).toNat=A.take m:=by
       rw [hm]
       by_cases hn:n≤(A.length:Int)
       ·rw [Int.min_eq_left hn]
       ·rw [List.take_of_length_le (by omega),List.take_of_length_le (by omega)]
      rw [hclip] at hF
      subst hF
      refine LoopK.le (Le.nilB 4 1 39 1 (by decide) rfl rfl) ?_
      (try push_cast (maxSteps:=mS))
      refine LoopK.ov (α:=Nat) [115] (fun k=>[i2 .i64 k]) (fun k=>[.bx 74 [.d (.sl 3 (L.map eRC)),.d (.sl 1 (A.map eRR))],.bx 82 ((eRSt ⟨3,.mk op col v vl kids,ks,n,nm,⟨M,C⟩,on,how,ag⟩).map .d),.bx 74 [.d (.v (.slice none 0 0)),.d (.v (.slice none 0 0))],.bx 74 [.d (.v (.slice none 0 0)),.d (.v (.slice none 0 0))],.bx 74 [.d (.sl 3 (L.map eRC)),.os 5],.rw 39 1 (((A.take k).take m).map eRR)]) (fun k=>k≤A.length) (fun k=>A.length - k) 1000 0 (by omega) (by (try push_cast (maxSteps:=mS))<;>first|rfl|exact ⟨rfl,rfl⟩|exact ⟨rfl,rfl,rfl⟩|trivial) ?_
      rintro k hk1
      by_cases hlt:k<A.length
      ·have hv:=atT hlt;have hd:=ltT hlt
       have htk:(A.take (k+1)).take m=(A.take k).take m++if (k:Int)<n then [A[k]] else []:=by
        rw [List.take_take,List.take_take]
        by_cases hkn:(k:Int)<n
        ·rw [if_pos hkn,Nat.min_eq_right (by omega),Nat.min_eq_right (by omega),List.take_add_one,hv];rfl
        ·rw [if_neg hkn,Nat.min_eq_left (by omega),Nat.min_eq_left (by omega),List.append_nil]
       have hfl:((A.take k).take m).length≤k:=by rw [List.length_take,List.length_take];omega
       generalize A[k]=r at *
       generalize (A.take k).take m=out at *
       cases hkn:decide ((k:Int)<n) with
       | false =>
        rw [if_neg (of_decide_eq_false hkn),List.append_nil] at htk
        (try push_cast (maxSteps:=mS) [hd,getD_map hv,hkn])
        ((repeat' with_reducible refine And.intro ?_ ?_)<;>try exact sz)
        refine ⟨k+1,by omega,by omega,Le.st ?_⟩
        rw [htk]
        (try push_cast (maxSteps:=mS))
        all_goals (first|rfl|exact ⟨rfl,rfl⟩)
       | true =>
        rw [if_pos (of_decide_eq_true hkn)] at htk
        (try push_cast (maxSteps:=mS) [hd,getD_map hv,hkn])
        ((repeat' with_reducible refine And.intro ?_ ?_)<;>try exact sz)
        all_goals (try (simp only [maxLen];omega))
        refine ⟨k+1,by omega,by omega,Le.st ?_⟩
        rw [htk,List.map_append]
        (try push_cast (maxSteps:=mS))
        all_goals (first|rfl|exact ⟨rfl,rfl⟩|exact ⟨rfl,rfl,rfl⟩)
      ·have hd:=geF hlt
       rw [show A.take k=A from List.take_of_length_le (by omega)]
       (try push_cast (maxSteps:=mS) [hd])
     ·rw [if_neg k3] at hF
      (try push_cast (maxSteps:=mS) [k3])
      by_cases k4:kind=4
      ·subst k4
       rw [if_pos rfl] at hF
       subst hF
       replace h61:=h61 hw1
       (try push_cast (maxSteps:=mS))
       refine ⟨_,h61,rfl,?_⟩
       (try push_cast (maxSteps:=mS))
      ·rw [if_neg k4] at hF
       clear h61
       (try push_cast (maxSteps:=mS) [k4])
       by_cases k5:kind=5
       ·subst k5
        rw [if_pos rfl] at hF
        (try push_cast (maxSteps:=mS))
        by_cases c0:nm.length=2
        ·obtain ⟨n0,n1,rfl⟩:∃ a b,nm=[a,b]:=by
          rcases nm with _|⟨a,_|⟨b,_|⟨c,l⟩⟩⟩<;>simp at c0
          exact ⟨a,b,rfl⟩
         clear c0
         unfold nameP at hF
         rw [if_neg (by simp)] at hF
         simp only [List.getD_cons_zero,List.getD_cons_succ] at hF
         replace h62:=h62 n0
         cases hfk:(findF n0 L 0).2.2 with
         | false =>
          have hno':decide (atF n0 (namesN L) 0<0)=true:=decide_eq_true (find_none hfk)
          rw [if_pos hfk] at hF
          subst hF
          (try push_cast (maxSteps:=mS) [List.getD_cons_zero,List.getD_cons_succ])
          ((repeat' with_reducible refine And.intro ?_ ?_)<;>try exact sz)
          refine ⟨_,h62,rfl,?_⟩
          (try push_cast (maxSteps:=mS) [hno',tb0])
         | true =>
          rw [if_neg (by simp [hfk])] at hF
          have hfn:foundN L n0:=hfk
          rw [at_place hfn] at h62
          have hlt:=placeN_lt hfn
          replace h31:=h31 (placeN L n0) n1 (by have:=hnz n1 (by simp);omega)
          have hset:(L.map eRC).set (placeN L n0) [.v (.string n1),.v (.int .i64 (L.getD (placeN L n0) cl0).kind),.v (.int .i64 (bi (L.getD (placeN L n0) cl0).null))]=(renC L (placeN L n0) n1).map eRC:=by
           unfold renC;rw [List.map_set];rfl
          have hgd:(L.map eRC).getD (placeN L n0) []=eRC (L.getD (placeN L n0) cl0):=by
           rw [List.getD_eq_getElem?_getD,List.getElem?_map,List.getElem?_eq_getElem hlt,List.getD_eq_getElem?_getD,List.getElem?_eq_getElem hlt];rfl
          have hn0:decide ((placeN L n0:Int)<0)=false:=decide_eq_false (by omega)
          generalize renC L (placeN L n0) n1=L2 at *
          generalize placeN L n0=p at *
          generalize checkC L2=CK at *
          obtain ⟨ck,ce⟩:=CK
          simp only at hF h31
          (try push_cast (maxSteps:=mS) [List.getD_cons_zero,List.getD_cons_succ])
          ((repeat' with_reducible refine And.intro ?_ ?_)<;>try exact sz)
          refine ⟨_,h62,rfl,?_⟩
          (try push_cast (maxSteps:=mS) [hn0])
          ((repeat' with_reducible refine And.intro ?_ ?_)<;>try exact sz)
          (refine DrawK.of (.take 0 (.take 1 (.take 2 (.take 3 (.take 4 (.take 5 (.take 6 (.take 7 (.take 8 (.one 9 .done)))))))))) 1000 (by decide +kernel) ?_;try (push_cast (maxSteps:=mS)))
          (try push_cast (maxSteps:=mS) [List.getD_cons_zero,List.getD_cons_succ,hgd,hset])
          ((repeat' with_reducible refine And.intro ?_ ?_)<;>try exact sz)
          all_goals (try push_cast (maxSteps:=mS) [List.getD_cons_zero,List.getD_cons_succ,hgd,hset])
          all_goals ((repeat' with_reducible refine And.intro ?_ ?_)<;>try exact sz)
          all_goals (refine ⟨_,h31,rfl,?_⟩)
          by_cases g0:ce=0
          ·rw [g0,tabT,if_neg (by simp)] at hF
           subst hF
           (try push_cast (maxSteps:=mS) [g0])
           all_goals trace_state
          ·rw [tabT,if_pos g0] at hF
           subst hF
           (try push_cast (maxSteps:=mS) [g0,tb0])
           all_goals trace_state
        ·unfold nameP at hF
         rw [if_pos c0] at hF
         subst hF
         have c2:¬ (nm.length:Int)=2:=by omega
         (try push_cast (maxSteps:=mS) [c2,tb0])
       ·rw [if_neg k5] at hF
        clear h62 h31
        (try push_cast (maxSteps:=mS) [k5])
        by_cases k6:kind=6
        ·subst k6
         rw [if_pos rfl] at hF
         (try push_cast (maxSteps:=mS))
         unfold joinC at hF
         simp only at hF
         refine ⟨_,h63,rfl,?_⟩
         by_cases j0:(checkJ L M on how).2=0
         ·rw [if_neg (by simp [j0])] at hF
          obtain ⟨_,_,hk14,_,hfo,_⟩:=checkJ_parts j0
          (try push_cast (maxSteps:=mS) [j0])
          refine LoopK.s1 (α:=Nat) [208] (fun k=>[i2 .i64 k]) (fun k=>k≤C.length∧((C.drop k).all fun r=>decide (r.length=M.length))=evenF ⟨M,C⟩) (fun k=>C.length - k) 1000 0 ⟨by omega,rfl⟩ (by (try push_cast (maxSteps:=mS))<;>first|rfl|exact ⟨rfl,rfl⟩|exact ⟨rfl,rfl,rfl⟩|trivial) ?_
          rintro k ⟨hk,hc⟩
          by_cases hlt:k<C.length
          ·have hv:=atT hlt;have hd:=ltT hlt
           rw [drop_cons hv,List.all_cons] at hc
           generalize C[k]=r at *
           by_cases hw:r.length=M.length
           ·rw [decide_eq_true hw,Bool.true_and] at hc
            (try push_cast (maxSteps:=mS) [hd,getD_map hv,hw])
            ((repeat' with_reducible refine And.intro ?_ ?_)<;>try exact sz)
            refine ⟨k+1,⟨by omega,hc⟩,by omega,Le.st ?_⟩
            (try push_cast (maxSteps:=mS));(all_goals first|rfl|skip)
           ·have hw':¬ (r.length:Int)=(M.length:Int):=by omega
            rw [decide_eq_false hw,Bool.false_and] at hc
            rw [if_pos (.inr hc.symm)] at hF
            subst hF
            (try push_cast (maxSteps:=mS) [hd,getD_map hv,hw,hw',tb0])
            ((repeat' with_reducible refine And.intro ?_ ?_)<;>try exact sz)
          ·have hd:=geF hlt
           rw [List.drop_eq_nil_of_le (by omega),List.all_nil] at hc
           rw [if_neg (by rw [hev1,← hc];simp)] at hF
           have hwC:∀ y∈C,y.length=M.length:=by have:=hc.symm;simpa [evenF] using this
           replace h65:=h65 rfl hfo hw1 hwC hk14
           subst hF
           (try push_cast (maxSteps:=mS) [hd])
           (refine DrawK.of (.take 0 (.take 1 (.take 2 (.take 3 (.take 4 (.take 5 (.take 6 (.take 7 (.take 8 (.take 10 (.take 11 (.take 12 (.take 13 (.take 14 (.take 15 (.take 16 (.one 9 (.one 17 (.take 18 (.one 19 (.one 20 .done))))))))))))))))))))) 1000 (by decide +kernel) ?_;try (push_cast (maxSteps:=mS)))
           (try push_cast (maxSteps:=mS))
           ((repeat' with_reducible refine And.intro ?_ ?_)<;>try exact sz)
           all_goals (refine ⟨_,h64,rfl,?_⟩)
           all_goals (try push_cast (maxSteps:=mS))
           all_goals ((repeat' with_reducible refine And.intro ?_ ?_)<;>try exact sz)
           all_goals (refine ⟨_,h65,rfl,?_⟩)
           all_goals (try push_cast (maxSteps:=mS))
         ·rw [if_pos j0] at hF
          subst hF
          (try push_cast (maxSteps:=mS) [j0])
        ·rw [if_neg k6] at hF
         (try push_cast (maxSteps:=mS) [k6])
         by_cases k7:kind=7
         ·subst k7
          rw [if_pos rfl] at hF
          (try push_cast (maxSteps:=mS))
          unfold groupC at hF
          simp only at hF
          refine ⟨_,h66,rfl,?_⟩
          have hco:=@colsG_ok L nm ag
          generalize hCG:colsG L nm ag=CG at *
          obtain ⟨cl,cn,ce⟩:=CG
          simp only at hF hco
          by_cases g0:ce=0
          ·obtain ⟨_,q2,q3,_⟩:=hco g0
           rw [if_neg (by simp [g0]),if_neg (by rw [hev1];simp)] at hF
           replace h67:=h67 (key_found L nm [] 0 q2) hw1 q3
           generalize rowsG L (placesN L nm) ag (partC (placesN L nm) A) []=RG at *
           (try push_cast (maxSteps:=mS) [g0])
           refine ⟨_,h67,rfl,?_⟩
           by_cases r0:RG.2=0
           ·rw [if_neg (by simp [r0])] at hF
            subst hF
            (try push_cast (maxSteps:=mS) [r0])
           ·rw [if_pos r0] at hF
            subst hF
            (try push_cast (maxSteps:=mS) [r0])
          ·rw [if_pos g0] at hF
           subst hF
           (try push_cast (maxSteps:=mS) [g0])
         ·rw [if_neg k7] at hF
          subst hF
          (try push_cast (maxSteps:=mS) [k7,tb0])
 ·rw [if_pos c1] at hF
  subst hF
  (try push_cast (maxSteps:=mS) [c1,tb0])
end Go.LS.Tryz
