/- Part DD: 4 texts,one behind the other. -/
import Derived.Test.YtfmbjaeppffdpaaGreatDoorDB
import Derived.Test.YtfmbjaeppffdpaaGreatDoorPJ
import Derived.Test.YtfmbjaeppffdpaaGreatDoorE3
import Derived.Test.YtfmbjaeppffdpaaGreatDoorPJc
namespace Go.LS.Tryz
open Go Go.LS
set_option maxRecDepth 100000
set_option linter.unusedSimpArgs false
set_option linter.unusedVariables false
set_option maxHeartbeats 1000000 in
theorem d34 (a b:List Cl) (on:List Jo) (kind:Int) (ha:okCl a) (hb:okCl b) (ho:on.length≤1000) (hk:inK .i64 kind) :
  Spec V 63 [.c (.d (.sl 3 (a.map eRC))),.c (.d (.sl 3 (b.map eRC))),.c (.d (.sl 2 (on.map eJo))),i2 .i64 kind] (.tu [i2 .i64 ((checkJ a b on kind).1:Int),i2 .i64 (checkJ a b on kind).2]):=by
 have h67a:=f50 a ha
 have h67b:=f50 b hb
 have hla:a.length≤1099511627776:=ha.1
 have hlb:b.length≤1099511627776:=hb.1
 have h69a:=names56 a ha.1
 have h69b:=names56 b hb.1
 have hna:okLen (namesN a):=by simpa [okLen,namesN] using ha.1
 have hnb:okLen (namesN b):=by simpa [okLen,namesN] using hb.1
 obtain ⟨R,hR⟩:∃ R,R=checkJ a b on kind:=⟨_,rfl⟩
 rw [← hR]
 simp only [checkJ] at hR
 (refine Spec.of_go (L:=fun|0=>some [0,1,2,3]|1=>some [0,1,2,3,11]|2=>some [0,1,2,3,11,28]|3=>some [8,9]|4=>some [0,1,2,3,13]|5=>some [0,1,2,3,13,36]|6=>some [8,9]|7=>some [0,1,2,3,43]|8=>some [8,9]|9=>some [0,1,2,3,46]|10=>some [8,9]|11=>some [0,1,2,3,47,48,49]|12=>some [0,1,2,3,47,48,49,50]|13=>some [0,1,2,3,14,15,47,48,49]|14=>some [0,1,2,3,14,15,16,17,47,48,49]|15=>some [0,1,2,3,14,15,16,17,47,48,49,69]|16=>some [8,9]|17=>some [0,1,2,3,14,15,47,48,49,81]|18=>some [8,9]|19=>some [0,1,2,3,14,15,47,48,49,85,86,87]|20=>some [0,1,2,3,14,15,47,48,49,85,86,87,88]|21=>some [0,1,2,3,14,15,19,47,48,49,85,86,87]|22=>some [0,1,2,3,14,15,47,48,49,85,86,87,102]|23=>some [8,9]|24=>some [0,1,2,3,14,15,47,48,49,85,86,87]|25=>some [0,1,2,3,47,48,49]|26=>some [0,2,3,106,107,108]|27=>some [0,2,3,106,107,108,109]|28=>some [0,2,3,21,106,107,108]|29=>some [0,2,3,106,107,108,128]|30=>some [8,9]|31=>some [0,2,3,106,107,108]|32=>some [8,9]|_=>none) 1000 Go.Proofs.Tryz.func63 rfl rfl ⟨Nat.le_of_ble_eq_true rfl,rfl⟩ rfl ?_;unfold Go.Proofs.Tryz.f63;push_cast (maxSteps:=mS))
 refine ⟨_,h67a,rfl,?_⟩
 (try push_cast (maxSteps:=mS))
 by_cases c1:(checkC a).2=0
 ·rw [if_neg (by simp [c1])] at hR
  (try push_cast (maxSteps:=mS) [c1])
  refine ⟨_,h67b,rfl,?_⟩
  by_cases c2:(checkC b).2=0
  ·rw [if_neg (by simp [c2])] at hR
   (try push_cast (maxSteps:=mS) [c2])
   by_cases k1:kind<1
   ·rw [if_pos (.inl k1)] at hR
    subst hR
    (try push_cast (maxSteps:=mS) [k1])
   ·by_cases k4:4<kind
    ·rw [if_pos (.inr k4)] at hR
     subst hR
     (try push_cast (maxSteps:=mS) [k1,k4])
    ·rw [if_neg (by omega)] at hR
     (try push_cast (maxSteps:=mS) [k1,k4])
     by_cases o0:on.length=0
     ·rw [if_pos o0] at hR
      subst hR
      (try push_cast (maxSteps:=mS) [o0])
     ·rw [if_neg o0] at hR
      have do0:decide ((on.length:Int)=0)=false:=decide_eq_false (by omega)
      (try push_cast (maxSteps:=mS) [do0])
      refine LoopK.s1 (α:=Nat) [49] (fun k=>[i2 .i64 k]) (fun k=>k≤on.length∧pairJ a b ((on.take k).map fun o=>o.l) ((on.take k).map fun o=>o.r) (on.drop k) k=pairJ a b [] [] on 0) (fun k=>on.length - k) 1000 0 ⟨by omega,rfl⟩ (by (try push_cast (maxSteps:=mS))) ?_
      rintro k ⟨hk1,hrun⟩
      by_cases hlt:k<on.length
      ·have hv:=atT hlt;have hd:=ltT hlt
       rw [drop_cons hv] at hrun
       simp only [pairJ] at hrun
       have htk:on.take (k+1)=on.take k++[on[k]]:=by rw [List.take_add_one,hv];rfl
       have e1:(on.take (k+1)).map (fun o=>o.l)=(on.take k).map (fun o=>o.l)++[on[k].l]:=by rw [htk,List.map_append];rfl
       have e2:(on.take (k+1)).map (fun o=>o.r)=(on.take k).map (fun o=>o.r)++[on[k].r]:=by rw [htk,List.map_append];rfl
       rw [← e1,← e2] at hrun
       have hoi:(on.map eJo).getD k []=eJo on[k]:=getD_map hv
       generalize on[k]=o at *
       simp only [eJo_eq] at hoi
       have h68a:=f55 (namesN a) o.l hna
       have h68b:=f55 (namesN b) o.r hnb
       have fa:=at_found a o.l
       have fb:=at_found b o.r
       have pa:=@at_place a o.l
       have pb:=@at_place b o.r
       have ga:=@find_lt o.l a
       have gb:=@find_lt o.r b
       cases ea:(findF o.l a 0).2.2 with
       | false =>
        rw [ea] at fa hrun
        simp only [true_or,if_true] at hrun
        rw [hR,if_pos (by rw [← hrun];simp),← hrun]
        (try push_cast (maxSteps:=mS) [hd,hoi])
        ((repeat' with_reducible refine And.intro ?_ ?_)<;>try exact sz)
        (refine DrawK.of (.take 0 (.take 2 (.take 3 (.take 5 (.take 7 (.take 8 (.one 1 (.one 4 (.one 6 (.one 9 (.take 10 (.take 11 .done)))))))))))) 1000 (by decide +kernel) ?_;try (push_cast (maxSteps:=mS)))
        ((repeat' with_reducible refine And.intro ?_ ?_)<;>try exact sz)
        all_goals (refine ⟨_,h69a,rfl,?_⟩)
        all_goals (try push_cast (maxSteps:=mS))
        all_goals ((repeat' with_reducible refine And.intro ?_ ?_)<;>try exact sz)
        all_goals (refine ⟨_,h68a,rfl,?_⟩)
        all_goals (try push_cast (maxSteps:=mS))
        all_goals ((repeat' with_reducible refine And.intro ?_ ?_)<;>try exact sz)
        all_goals (refine ⟨_,h69b,rfl,?_⟩)
        all_goals (try push_cast (maxSteps:=mS))
        all_goals ((repeat' with_reducible refine And.intro ?_ ?_)<;>try exact sz)
        all_goals (refine ⟨_,h68b,rfl,?_⟩)
        all_goals (try push_cast (maxSteps:=mS))
        all_goals ((repeat' with_reducible refine And.intro ?_ ?_)<;>try exact sz)
        (try push_cast (maxSteps:=mS) [fa])
       | true =>
        rw [ea] at fa hrun
        cases eb:(findF o.r b 0).2.2 with
        | false =>
         rw [eb] at fb hrun
         simp only [or_true,if_true] at hrun
         rw [hR,if_pos (by rw [← hrun];simp),← hrun]
         (try push_cast (maxSteps:=mS) [hd,hoi])
         ((repeat' with_reducible refine And.intro ?_ ?_)<;>try exact sz)
         (refine DrawK.of (.take 0 (.take 2 (.take 3 (.take 5 (.take 7 (.take 8 (.one 1 (.one 4 (.one 6 (.one 9 (.take 10 (.take 11 .done)))))))))))) 1000 (by decide +kernel) ?_;try (push_cast (maxSteps:=mS)))
         ((repeat' with_reducible refine And.intro ?_ ?_)<;>try exact sz)
         all_goals (refine ⟨_,h69a,rfl,?_⟩)
         all_goals (try push_cast (maxSteps:=mS))
         all_goals ((repeat' with_reducible refine And.intro ?_ ?_)<;>try exact sz)
         all_goals (refine ⟨_,h68a,rfl,?_⟩)
         all_goals (try push_cast (maxSteps:=mS))
         all_goals ((repeat' with_reducible refine And.intro ?_ ?_)<;>try exact sz)
         all_goals (refine ⟨_,h69b,rfl,?_⟩)
         all_goals (try push_cast (maxSteps:=mS))
         all_goals ((repeat' with_reducible refine And.intro ?_ ?_)<;>try exact sz)
         all_goals (refine ⟨_,h68b,rfl,?_⟩)
         all_goals (try push_cast (maxSteps:=mS))
         all_goals ((repeat' with_reducible refine And.intro ?_ ?_)<;>try exact sz)
         (try push_cast (maxSteps:=mS) [fa,fb])
        | true =>
         rw [eb] at fb hrun
         simp only [Bool.true_eq_false,or_self,if_false] at hrun
         have hga:=(ga ea).2.1
         have hgb:=(gb eb).2.1
         have hpa:=pa ea
         have hpb:=pb eb
         unfold placeN at hpa hpb
         have hla':=(ga ea).1
         have hlb':=(gb eb).1
         rw [hpa] at h68a
         rw [hpb] at h68b
         clear fa fb pa pb ga gb hpa hpb
         generalize findF o.l a 0=Fa at *
         generalize findF o.r b 0=Fb at *
         obtain ⟨ca,na,oa⟩:=Fa
         obtain ⟨cb,nb,ob⟩:=Fb
         simp only at hrun hga hgb hla' hlb' h68a h68b
         have hca:(a.map eRC).getD na []=eRC ca:=getD_map hga
         have hcb:(b.map eRC).getD nb []=eRC cb:=getD_map hgb
         have fa:decide ((na:Int)<0)=false:=decide_eq_false (by omega)
         have fb:decide ((nb:Int)<0)=false:=decide_eq_false (by omega)
         simp only [eRC_eq] at hca hcb
         (try push_cast (maxSteps:=mS) [hd,hoi])
         ((repeat' with_reducible refine And.intro ?_ ?_)<;>try exact sz)
         (refine DrawK.of (.take 0 (.take 2 (.take 3 (.take 5 (.take 7 (.take 8 (.one 1 (.one 4 (.one 6 (.one 9 (.take 10 (.take 11 .done)))))))))))) 1000 (by decide +kernel) ?_;try (push_cast (maxSteps:=mS)))
         ((repeat' with_reducible refine And.intro ?_ ?_)<;>try exact sz)
         all_goals (refine ⟨_,h69a,rfl,?_⟩)
         all_goals (try push_cast (maxSteps:=mS))
         all_goals ((repeat' with_reducible refine And.intro ?_ ?_)<;>try exact sz)
         all_goals (refine ⟨_,h68a,rfl,?_⟩)
         all_goals (try push_cast (maxSteps:=mS))
         all_goals ((repeat' with_reducible refine And.intro ?_ ?_)<;>try exact sz)
         all_goals (refine ⟨_,h69b,rfl,?_⟩)
         all_goals (try push_cast (maxSteps:=mS))
         all_goals ((repeat' with_reducible refine And.intro ?_ ?_)<;>try exact sz)
         all_goals (refine ⟨_,h68b,rfl,?_⟩)
         all_goals (try push_cast (maxSteps:=mS))
         all_goals ((repeat' with_reducible refine And.intro ?_ ?_)<;>try exact sz)
         (try push_cast (maxSteps:=mS) [fa,fb])
         (refine DrawK.of (.take 0 (.take 1 (.take 2 (.take 3 (.take 4 (.take 5 (.take 6 (.take 7 (.take 8 (.take 9 (.take 10 .done))))))))))) 1000 (by decide +kernel) ?_;try (push_cast (maxSteps:=mS)))
         by_cases hkd:ca.kind=cb.kind
         ·rw [if_neg (by simp [hkd])] at hrun
          have hti:(on.map eJo).take k=(on.take k).map eJo:=by rw [List.map_take]
          have hlti:(on.take k).length=k:=by rw [List.length_take];omega
          have hlen:((on.map eJo).take k).length=k:=by rw [hti,List.length_map,hlti]
          have hap:=any_pair o.l o.r (on.take k)
          (try push_cast (maxSteps:=mS) [hca,hcb,hkd])
          ((repeat' with_reducible refine And.intro ?_ ?_)<;>try exact sz)
          refine LoopK.s1 (α:=Nat) [87] (fun j=>[i2 .i64 j]) (fun j=>j≤k∧((on.take k).drop j).any (fun p=>decide (p.l=o.l) || decide (p.r=o.r))=(on.take k).any fun p=>decide (p.l=o.l) || decide (p.r=o.r)) (fun j=>k - j) 1000 0 ⟨by omega,rfl⟩ (by (try push_cast (maxSteps:=mS))) ?_
          rintro j ⟨hj,hany⟩
          by_cases hlj:j<k
          ·have hdj:decide ((j:Int)<(k:Int))=true:=decide_eq_true (by omega)
           have hvj:(on.take k)[j]?=some (on.take k)[j]:=List.getElem?_eq_getElem (by omega)
           have hcj:((on.map eJo).take k).getD j []=eJo (on.take k)[j]:=by rw [hti];exact getD_map hvj
           rw [drop_cons hvj,List.any_cons] at hany
           generalize (on.take k)[j]=p at *
           simp only [eJo_eq] at hcj
           by_cases q1:p.l=o.l
           ·rw [decide_eq_true q1,Bool.true_or,Bool.true_or] at hany
            rw [← hany] at hap
            rw [if_pos (by rcases Bool.or_eq_true _ _ ▸ hap.symm with h|h;exact .inl h;exact .inr h)] at hrun
            rw [hR,if_pos (by rw [← hrun];simp),← hrun]
            (try push_cast (maxSteps:=mS) [hlen,hdj,hcj,q1])
            ((repeat' with_reducible refine And.intro ?_ ?_)<;>try exact sz)
           ·by_cases q2:p.r=o.r
            ·rw [decide_eq_true q2,Bool.or_true,Bool.true_or] at hany
             rw [← hany] at hap
             rw [if_pos (by rcases Bool.or_eq_true _ _ ▸ hap.symm with h|h;exact .inl h;exact .inr h)] at hrun
             rw [hR,if_pos (by rw [← hrun];simp),← hrun]
             (try push_cast (maxSteps:=mS) [hlen,hdj,hcj,q1,q2])
             ((repeat' with_reducible refine And.intro ?_ ?_)<;>try exact sz)
            ·rw [decide_eq_false q1,decide_eq_false q2,Bool.or_false,Bool.false_or] at hany
             (try push_cast (maxSteps:=mS) [hlen,hdj,hcj,q1,q2])
             ((repeat' with_reducible refine And.intro ?_ ?_)<;>try exact sz)
             refine ⟨j+1,⟨by omega,hany⟩,by omega,Le.st ?_⟩
             (try push_cast (maxSteps:=mS));(all_goals first|rfl|skip)
          ·obtain rfl:j=k:=by omega
           have hdj:decide ((j:Int)<(j:Int))=false:=decide_eq_false (by omega)
           rw [List.drop_eq_nil_of_le (by omega),List.any_nil] at hany
           rw [← hany] at hap
           obtain ⟨n1,n2⟩:=Bool.or_eq_false_iff.1 hap.symm
           rw [if_neg (by rw [n1,n2];simp)] at hrun
           (try push_cast (maxSteps:=mS) [hlen,hdj])
           ((repeat' with_reducible refine And.intro ?_ ?_)<;>try exact sz)
           refine ⟨j+1,⟨by omega,hrun⟩,by omega,Le.st ?_⟩
           (try push_cast (maxSteps:=mS));(all_goals first|rfl|skip)
         ·rw [if_pos hkd] at hrun
          rw [hR,if_pos (by rw [← hrun];simp),← hrun]
          (try push_cast (maxSteps:=mS) [hca,hcb,hkd])
          ((repeat' with_reducible refine And.intro ?_ ?_)<;>try exact sz)
      ·obtain rfl:k=on.length:=by omega
       have hdk:decide ((on.length:Int)<(on.length:Int))=false:=decide_eq_false (by omega)
       rw [List.drop_eq_nil_of_le (by omega)] at hrun
       simp only [pairJ] at hrun
       rw [← hrun,if_neg (by simp)] at hR
       have hce:=clash_eq a on (kind:=kind) (by omega) b
       have hR2:R=if clashR a on kind b=true then (on.length,15) else (on.length,0):=by
        rw [hR]
        by_cases hc:clashR a on kind b=true
        ·rw [if_pos hc,if_pos (hce.1 hc)]
        ·rw [if_neg hc,if_neg (fun h=>hc (hce.2 h))]
       clear hR hce
       (try push_cast (maxSteps:=mS) [hdk])
       refine LoopK.s1 (α:=Nat) [108] (fun k=>[i2 .i64 k]) (fun k=>k≤b.length∧clashR a on kind (b.drop k)=clashR a on kind b) (fun k=>b.length - k) 1000 0 ⟨by omega,rfl⟩ (by (try push_cast (maxSteps:=mS))) ?_
       rintro q ⟨hq,hcl⟩
       by_cases hlt2:q<b.length
       ·have hv2:=List.getElem?_eq_getElem hlt2
        have hd2:decide ((q:Int)<(b.length:Int))=true:=decide_eq_true (by omega)
        rw [drop_cons hv2,clashR_cons] at hcl
        have hci:(b.map eRC).getD q []=eRC b[q]:=getD_map hv2
        generalize b[q]=c at *
        simp only [eRC_eq] at hci
        have h77:=d77 on c.name (by simp only [okLen];omega)
        have h68:=f55 (namesN a) c.name hna
        by_cases k2:kind≤2
        ·rw [decide_eq_true k2,Bool.true_and] at hcl
         (try push_cast (maxSteps:=mS) [hd2,hci])
         ((repeat' with_reducible refine And.intro ?_ ?_)<;>try exact sz)
         (refine DrawK.of (.take 0 (.take 1 (.take 2 (.take 3 (.take 4 (.take 5 (.one 6 (.take 7 (.take 8 (.take 9 (.take 10 (.take 12 (.take 13 (.one 11 (.one 14 (.take 15 (.take 16 .done))))))))))))))))) 1000 (by decide +kernel) ?_;try (push_cast (maxSteps:=mS)))
         (try push_cast (maxSteps:=mS) [k2])
         ((repeat' with_reducible refine And.intro ?_ ?_)<;>try exact sz)
         all_goals (refine ⟨_,h77,rfl,?_⟩)
         cases hr:isR on c.name with
         | true =>
          rw [hr,Bool.not_true,Bool.false_and,Bool.false_or] at hcl
          all_goals (try push_cast (maxSteps:=mS))
          all_goals ((repeat' with_reducible refine And.intro ?_ ?_)<;>try exact sz)
          all_goals (refine ⟨q+1,⟨by omega,hcl⟩,by omega,Le.st ?_⟩)
          all_goals ((try push_cast (maxSteps:=mS));(all_goals first|rfl|skip))
         | false =>
          rw [hr,Bool.not_false,Bool.true_and] at hcl
          all_goals (try push_cast (maxSteps:=mS))
          all_goals ((repeat' with_reducible refine And.intro ?_ ?_)<;>try exact sz)
          all_goals (refine ⟨_,h69a,rfl,?_⟩)
          all_goals (try push_cast (maxSteps:=mS))
          all_goals (refine ⟨_,h68,rfl,?_⟩)
          by_cases hat:0≤atF c.name (namesN a) 0
          ·rw [decide_eq_true hat,Bool.true_or] at hcl
           rw [hR2,if_pos hcl.symm]
           all_goals (try push_cast (maxSteps:=mS) [hat])
           all_goals ((repeat' with_reducible refine And.intro ?_ ?_)<;>try exact sz)
           all_goals (try push_cast (maxSteps:=mS) [hat])
          ·rw [decide_eq_false hat,Bool.false_or] at hcl
           all_goals (try push_cast (maxSteps:=mS) [hat])
           all_goals ((repeat' with_reducible refine And.intro ?_ ?_)<;>try exact sz)
           all_goals (refine ⟨q+1,⟨by omega,hcl⟩,by omega,Le.st ?_⟩)
           all_goals ((try push_cast (maxSteps:=mS));(all_goals first|rfl|skip))
        ·rw [decide_eq_false k2,Bool.false_and,Bool.false_or] at hcl
         (try push_cast (maxSteps:=mS) [hd2,hci])
         ((repeat' with_reducible refine And.intro ?_ ?_)<;>try exact sz)
         (refine DrawK.of (.take 0 (.take 1 (.take 2 (.take 3 (.take 4 (.take 5 (.one 6 (.take 7 (.take 8 (.take 9 (.take 10 (.take 12 (.take 13 (.one 11 (.one 14 (.take 15 (.take 16 .done))))))))))))))))) 1000 (by decide +kernel) ?_;try (push_cast (maxSteps:=mS)))
         (try push_cast (maxSteps:=mS) [k2])
         ((repeat' with_reducible refine And.intro ?_ ?_)<;>try exact sz)
         all_goals (refine ⟨q+1,⟨by omega,hcl⟩,by omega,Le.st ?_⟩)
         all_goals ((try push_cast (maxSteps:=mS));(all_goals first|rfl|skip))
       ·have hd2:decide ((q:Int)<(b.length:Int))=false:=decide_eq_false (by omega)
        rw [List.drop_eq_nil_of_le (by omega)] at hcl
        have hcb:clashR a on kind b=false:=hcl.symm
        rw [hR2,if_neg (by simp [hcb])]
        (try push_cast (maxSteps:=mS) [hd2])
  ·rw [if_pos c2] at hR
   subst hR
   (try push_cast (maxSteps:=mS) [c2])
 ·rw [if_pos c1] at hR
  subst hR
  (try push_cast (maxSteps:=mS) [c1])
set_option maxHeartbeats 1000000 in
theorem d36 (a b:List Cl) (on:List Jo) (kind:Int) (ha:okCl a) (hb:okCl b) (ho:on.length≤1000) (hk:inK .i64 kind) (hal:a.length≤1000) (hbl:b.length≤1000) :
  Spec V 91 [.c (.d (.sl 3 (a.map eC))),.c (.d (.sl 3 (b.map eC))),.c (.d (.sl 2 (on.map eJo))),i2 .i64 kind] (.tu [.c (.d (.sl 3 ((colsC a b on kind).1.map eC))),i2 .i64 (colsC a b on kind).2]):=by
 have h33:=d33 a b on kind ha hb ho hk
 have h78:=d78R a ha.1
 have h79:=d79 b on hbl (by simp only [okLen];omega)
 obtain ⟨R,hR⟩:∃ R,R=colsC a b on kind:=⟨_,rfl⟩
 rw [← hR]
 unfold colsC at hR
 (refine to1 ?_;refine Spec.of_go (V:=V2) (L:=fun|0=>some [0,1,2,3]|1=>some [0,1,2,3,11]|2=>some [0,1,2,3,11,25]|3=>some [8,9]|4=>some [1,2,3,12]|5=>some [1,2,3,12,34]|6=>some [8,9]|7=>some [1,3,12,38,39,40]|8=>some [1,3,12,38,39,40,41]|9=>some [1,3,12,14,38,39,40]|10=>some [1,3,12,15,38,39,40]|11=>some [1,3,12,15,38,39,40]|12=>some [1,3,12,38,39,40]|13=>some [1,3,12,38,39,40]|14=>some [8,9]|_=>none) 1000 Go.Proofs.Tryz.func91 rfl rfl ⟨Nat.le_of_ble_eq_true rfl,rfl⟩ rfl ?_;unfold Go.Proofs.Tryz.f91;push_cast (maxSteps:=mS))
 refine ⟨_,to2 h33,rfl,?_⟩
 by_cases c1:(checkJ a b on kind).2=0
 ·rw [if_neg (by simp [c1])] at hR
  subst hR
  have hkk:=(checkJ_parts c1).2.2.1
  (try push_cast (maxSteps:=mS) [c1])
  refine .inl ⟨_,_,_,toR2 h78,?_⟩
  by_cases k3:kind=3
  ·rw [cols_few a b on (by omega:2<kind)]
   (try push_cast (maxSteps:=mS) [k3])
  ·by_cases k4:kind=4
   ·rw [cols_few a b on (by omega:2<kind)]
    (try push_cast (maxSteps:=mS) [k3,k4])
   ·rw [cols_code a b on (by omega:¬ 2<kind)]
    (try push_cast (maxSteps:=mS) [k3,k4])
    refine ⟨_,to2 h79,rfl,?_⟩
    have hlt:=others_lt (b:=b) (on:=on)
    have hll:=others_len b on
    generalize othersN b on=ps at *
    (try push_cast (maxSteps:=mS))
    refine LoopK.ov (α:=Nat) [40] (fun k=>[i2 .i64 k]) (fun k=>[.rw 52 3 ((a++(ps.take k).map fun i=>colJ kind (b.getD i cl0)).map eC)]) (fun k=>k≤ps.length) (fun k=>ps.length - k) 1000 0 (by omega) (by ((try push_cast (maxSteps:=mS)))<;>simp) ?_
    rintro k hk'
    by_cases hltk:k<ps.length
    ·have hv:=List.getElem?_eq_getElem hltk
     have hd:decide ((k:Int)<(ps.length:Int))=true:=decide_eq_true (by omega)
     have hpr:=hlt ps[k] (List.getElem_mem hltk)
     have hv2:=List.getElem?_eq_getElem hpr
     have hbs:(a++(ps.take (k+1)).map fun i=>colJ kind (b.getD i cl0))=(a++(ps.take k).map fun i=>colJ kind (b.getD i cl0))++[colJ kind b[ps[k]]]:=by
      rw [List.take_add_one,hv,Option.toList_some,List.map_append,List.append_assoc,List.map_cons,List.map_nil]
      simp only [List.getD_eq_getElem?_getD,hv2,Option.getD_some]
     have hbl':(a++(ps.take k).map fun i=>colJ kind (b.getD i cl0)).length=a.length+k:=by
      rw [List.length_append,List.length_map,List.length_take];omega
     have hci:(b.map eC).getD ps[k] []=eC b[ps[k]]:=getD_map hv2
     generalize b[ps[k]]=c at *
     generalize ps[k]=p at *
     obtain ⟨cn,ck,cz⟩:=c
     simp only [eC_eq] at hci
     generalize (a++(ps.take k).map fun i=>colJ kind (b.getD i cl0))=l at *
     rw [show colJ kind ⟨cn,ck,cz⟩=⟨cn,ck,cz || decide (kind=2)⟩ from rfl] at hbs
     (try push_cast (maxSteps:=mS) [hd,getD_map hv,hci])
     ((repeat' with_reducible refine And.intro ?_ ?_)<;>try exact sz)
     all_goals (cases cz<;>by_cases k2:kind=2)
     all_goals (first|(subst k2;push_cast (maxSteps:=mS))|push_cast (maxSteps:=mS) [k2])
     all_goals ((repeat' with_reducible refine And.intro ?_ ?_)<;>try exact sz)
     all_goals (refine ⟨k+1,by omega,by omega,Le.st ?_⟩)
     all_goals rw [hbs]
     all_goals (first|push_cast (maxSteps:=mS) [k2]|push_cast (maxSteps:=mS))
     all_goals (first|rfl|(simp;done)|(simp;rfl)|(simp [k2];done)|(simp [k2];rfl)|trace_state)
    ·have hd:decide ((k:Int)<(ps.length:Int))=false:=decide_eq_false (by omega)
     rw [List.take_of_length_le (by omega)]
     (try push_cast (maxSteps:=mS) [hd])
 ·rw [if_pos c1] at hR
  subst hR
  (try push_cast (maxSteps:=mS) [c1])
set_option maxHeartbeats 1000000 in
theorem d37 (a b:List Cl) (on:List Jo) (kind:Int) (ho:okLen on) (hal:a.length≤1000) (hbl:b.length≤1000) :
  Spec V 64 [.c (.d (.sl 3 (a.map eRC))),.c (.d (.sl 3 (b.map eRC))),.c (.d (.sl 2 (on.map eJo))),i2 .i64 kind] (.c (.d (.sl 3 ((colsJ a b on kind).map eRC)))):=by
 (refine Spec.of_go (L:=fun|0=>some [0,1,2,3]|1=>some [0,1,2,3,9]|2=>some [1,2,3,9]|3=>some [2,3,9,15,16,17]|4=>some [2,3,9,15,16,17,18]|5=>some [2,3,9,11,15,16,17]|6=>some [2,3,9,11,15,16,17,28]|7=>some [2,3,9,11,15,16,17,30]|8=>some [2,3,9,11,15,16,17]|9=>some [2,3,9,15,16,17]|10=>some [2,3,9,15,16,17]|11=>some [8]|_=>none) 1000 Go.Proofs.Tryz.func64 rfl rfl ⟨Nat.le_of_ble_eq_true rfl,rfl⟩ rfl ?_;unfold Go.Proofs.Tryz.f64;push_cast (maxSteps:=mS))
 ((repeat' with_reducible refine And.intro ?_ ?_)<;>try exact sz)
 refine LoopK.ov (α:=Nat) [17] (fun k=>[i2 .i64 k]) (fun k=>[.rw 136 3 ((colsJ a (b.take k) on kind).map eRC)]) (fun k=>k≤b.length) (fun k=>b.length - k) 1000 0 (by omega) (by simp only [List.take_zero,cols_nil];((try push_cast (maxSteps:=mS)))<;>first|rfl|exact ⟨rfl,rfl⟩|trivial) ?_
 rintro k hk'
 have hcl:=colsJ_len a (b.take k) on kind
 rw [List.length_take] at hcl
 by_cases hlt:k<b.length
 ·have hv:=atT hlt;have hd:=ltT hlt
  have hct:=cols_take (a:=a) (on:=on) (kind:=kind) hv
  have hci:(b.map eRC).getD k []=eRC b[k]:=getD_map hv
  generalize b[k]=c at *
  obtain ⟨cn,ck,cz⟩:=c
  simp only [eRC_eq] at hci
  have h77:=d77 on cn ho
  (try push_cast (maxSteps:=mS) [hd,hci])
  ((repeat' with_reducible refine And.intro ?_ ?_)<;>try exact sz)
  by_cases k2:2<kind
  ·rw [if_pos (.inl k2),List.append_nil] at hct
   (try push_cast (maxSteps:=mS) [k2])
   ((repeat' with_reducible refine And.intro ?_ ?_)<;>try exact sz)
   refine ⟨k+1,by omega,by omega,Le.st ?_⟩
   rw [hct]
   (try push_cast (maxSteps:=mS));(all_goals first|rfl|skip)
  ·(try push_cast (maxSteps:=mS) [k2])
   refine ⟨_,h77,rfl,?_⟩
   cases hr:isR on cn with
   | true =>
    rw [if_pos (.inr hr),List.append_nil] at hct
    (try push_cast (maxSteps:=mS))
    ((repeat' with_reducible refine And.intro ?_ ?_)<;>try exact sz)
    refine ⟨k+1,by omega,by omega,Le.st ?_⟩
    rw [hct]
    (try push_cast (maxSteps:=mS));(all_goals first|rfl|skip)
   | false =>
    rw [if_neg (by simp [k2,hr])] at hct
    rw [show colJ kind ⟨cn,ck,cz⟩=⟨cn,ck,cz || decide (kind=2)⟩ from rfl] at hct
    by_cases e2:kind=2
    ·subst e2
     (try push_cast (maxSteps:=mS))
     ((repeat' with_reducible refine And.intro ?_ ?_)<;>try exact sz)
     refine ⟨k+1,by omega,by omega,Le.st ?_⟩
     rw [hct]
     (try push_cast (maxSteps:=mS))
     all_goals (first|rfl|(simp [bi];done)|(simp [bi];rfl)|trace_state)
    ·(try push_cast (maxSteps:=mS) [e2])
     ((repeat' with_reducible refine And.intro ?_ ?_)<;>try exact sz)
     refine ⟨k+1,by omega,by omega,Le.st ?_⟩
     rw [hct]
     (try push_cast (maxSteps:=mS))
     all_goals (first|rfl|(simp [e2];done)|(simp [e2];rfl)|trace_state)
 ·have hd:=geF hlt
  rw [List.take_of_length_le (by omega)]
  (try push_cast (maxSteps:=mS) [hd])
open Go Go.LS
set_option maxRecDepth 100000
set_option linter.unusedSimpArgs false
set_option linter.unusedVariables false
set_option maxHeartbeats 1000000 in
theorem d83 (a b:Tb) (on:List Jo) (x y:List Vl) (ha:okLen a.L) (hb:okLen b.L) (ho:okLen on) (hf:∀ o∈on,foundN a.L o.l∧foundN b.L o.r) (hx:x.length=a.L.length) (hy:y.length=b.L.length) :
  Spec V 107 [.ag ((eRT a).map .d),.ag ((eRT b).map .d),.c (.d (.sl 2 (on.map eJo))),.c (.d (.sl 4 (x.map eRV))),.c (.d (.sl 4 (y.map eRV)))] (b2 (matchF a.L b.L on x y)):=by
 obtain ⟨L,A⟩:=a
 obtain ⟨M,B⟩:=b
 simp only at ha hb hf hx hy
 have h69a:=names56 L ha
 have h69b:=names56 M hb
 have hna:okLen (namesN L):=by simpa [okLen,namesN] using ha
 have hnb:okLen (namesN M):=by simpa [okLen,namesN] using hb
 (refine Spec.of_go (L:=fun|0=>some [2,3,4,5,6]|1=>some [3,4,5,6,15,16,17]|2=>some [3,4,5,6,15,16,17,18]|3=>some [3,4,5,6,12,15,16,17]|4=>some [3,4,5,6,13,14,15,16,17]|5=>some [3,4,5,6,15,16,17,46]|6=>some [10]|7=>some [3,4,5,6,15,16,17]|8=>some [10]|_=>none) 1000 Go.Proofs.Tryz.func107 rfl rfl ⟨Nat.le_of_ble_eq_true rfl,rfl⟩ rfl ?_;unfold Go.Proofs.Tryz.f107;push_cast (maxSteps:=mS))
 refine LoopK.s1 (α:=Nat) [17] (fun k=>[i2 .i64 k]) (fun k=>k≤on.length∧matchF L M (on.drop k) x y=matchF L M on x y) (fun k=>on.length - k) 1000 0 ⟨by omega,rfl⟩ (by (try push_cast (maxSteps:=mS))) ?_
 rintro k ⟨hk,hc⟩
 by_cases hlt:k<on.length
 ·have hv:=atT hlt;have hd:=ltT hlt
  rw [drop_cons hv,match_cons] at hc
  obtain ⟨fl,fr⟩:=hf _ (List.getElem_mem hlt)
  have hoi:(on.map eJo).getD k []=eJo on[k]:=getD_map hv
  generalize on[k]=o at *
  simp only [eJo_eq] at hoi
  have h68a:=f55 (namesN L) o.l hna
  have h68b:=f55 (namesN M) o.r hnb
  rw [at_place fl] at h68a
  rw [at_place fr] at h68b
  have pl:=(find_lt fl).1
  have pr:=(find_lt fr).1
  replace pl:placeN L o.l<x.length:=by rw [hx];exact pl
  replace pr:placeN M o.r<y.length:=by rw [hy];exact pr
  have hvx:=List.getElem?_eq_getElem pl
  have hvy:=List.getElem?_eq_getElem pr
  rw [vAt_get hvx,vAt_get hvy] at hc
  have hxi:(x.map eRV).getD (placeN L o.l) []=eRV x[placeN L o.l]:=getD_map hvx
  have hyi:(y.map eRV).getD (placeN M o.r) []=eRV y[placeN M o.r]:=getD_map hvy
  generalize x[placeN L o.l]=v at *
  generalize y[placeN M o.r]=w at *
  simp only [eRV_eq] at hxi hyi
  generalize placeN L o.l=p at *
  generalize placeN M o.r=q at *
  (try push_cast (maxSteps:=mS) [hd,hoi])
  ((repeat' with_reducible refine And.intro ?_ ?_)<;>try exact sz)
  refine DrawK.cut (.take 0 (.take 1 (.take 2 (.take 4 (.take 5 (.take 9 (.take 10 (.take 11 (.take 13 (.take 14 (.three 3 (.three 6 (.take 7 (.take 8 (.three 12 (.three 15 (.three 16 (.three 17 (.two 18 (.one 19 (.one 20 (.one 21 .done))) 19 (.one 18 (.one 20 (.one 21 .done)))) 18 (.two 17 (.one 19 (.one 20 (.one 21 .done))) 19 (.two 17 (.one 20 (.one 21 .done)) 20 (.take 17 (.one 21 .done)))) 19 (.two 17 (.one 18 (.one 20 (.one 21 .done))) 18 (.two 17 (.one 20 (.one 21 .done)) 20 (.take 17 (.one 21 .done))))) 18 (.two 16 (.two 17 (.one 19 (.one 20 (.one 21 .done))) 19 (.two 17 (.one 20 (.one 21 .done)) 20 (.take 17 (.one 21 .done)))) 19 (.two 16 (.two 17 (.one 20 (.one 21 .done)) 20 (.take 17 (.one 21 .done))) 20 (.take 16 (.take 17 (.one 21 .done))))) 19 (.two 16 (.two 17 (.one 18 (.one 20 (.one 21 .done))) 18 (.two 17 (.one 20 (.one 21 .done)) 20 (.take 17 (.one 21 .done)))) 18 (.two 16 (.two 17 (.one 20 (.one 21 .done)) 20 (.take 17 (.one 21 .done))) 20 (.take 16 (.take 17 (.one 21 .done)))))) 18 (.two 15 (.two 16 (.two 17 (.one 19 (.one 20 (.one 21 .done))) 19 (.two 17 (.one 20 (.one 21 .done)) 20 (.take 17 (.one 21 .done)))) 19 (.two 16 (.two 17 (.one 20 (.one 21 .done)) 20 (.take 17 (.one 21 .done))) 20 (.take 16 (.take 17 (.one 21 .done))))) 19 (.one 15 (.two 16 (.two 17 (.one 20 (.one 21 .done)) 20 (.take 17 (.one 21 .done))) 20 (.take 16 (.take 17 (.one 21 .done)))))) 19 (.two 15 (.two 16 (.two 17 (.one 18 (.one 20 (.one 21 .done))) 18 (.two 17 (.one 20 (.one 21 .done)) 20 (.take 17 (.one 21 .done)))) 18 (.two 16 (.two 17 (.one 20 (.one 21 .done)) 20 (.take 17 (.one 21 .done))) 20 (.take 16 (.take 17 (.one 21 .done))))) 18 (.one 15 (.two 16 (.two 17 (.one 20 (.one 21 .done)) 20 (.take 17 (.one 21 .done))) 20 (.take 16 (.take 17 (.one 21 .done))))))) 18 (.two 12 (.two 15 (.two 16 (.two 17 (.one 19 (.one 20 (.one 21 .done))) 19 (.two 17 (.one 20 (.one 21 .done)) 20 (.take 17 (.one 21 .done)))) 19 (.two 16 (.two 17 (.one 20 (.one 21 .done)) 20 (.take 17 (.one 21 .done))) 20 (.take 16 (.take 17 (.one 21 .done))))) 19 (.one 15 (.two 16 (.two 17 (.one 20 (.one 21 .done)) 20 (.take 17 (.one 21 .done))) 20 (.take 16 (.take 17 (.one 21 .done)))))) 19 (.one 12 (.one 15 (.two 16 (.two 17 (.one 20 (.one 21 .done)) 20 (.take 17 (.one 21 .done))) 20 (.take 16 (.take 17 (.one 21 .done))))))) 19 (.two 12 (.two 15 (.two 16 (.two 17 (.one 18 (.one 20 (.one 21 .done))) 18 (.two 17 (.one 20 (.one 21 .done)) 20 (.take 17 (.one 21 .done)))) 18 (.two 16 (.two 17 (.one 20 (.one 21 .done)) 20 (.take 17 (.one 21 .done))) 20 (.take 16 (.take 17 (.one 21 .done))))) 18 (.one 15 (.two 16 (.two 17 (.one 20 (.one 21 .done)) 20 (.take 17 (.one 21 .done))) 20 (.take 16 (.take 17 (.one 21 .done)))))) 18 (.one 12 (.one 15 (.two 16 (.two 17 (.one 20 (.one 21 .done)) 20 (.take 17 (.one 21 .done))) 20 (.take 16 (.take 17 (.one 21 .done)))))))))) 18 (.two 6 (.take 7 (.take 8 (.two 12 (.two 15 (.two 16 (.two 17 (.one 19 (.one 20 (.one 21 .done))) 19 (.two 17 (.one 20 (.one 21 .done)) 20 (.take 17 (.one 21 .done)))) 19 (.two 16 (.two 17 (.one 20 (.one 21 .done)) 20 (.take 17 (.one 21 .done))) 20 (.take 16 (.take 17 (.one 21 .done))))) 19 (.one 15 (.two 16 (.two 17 (.one 20 (.one 21 .done)) 20 (.take 17 (.one 21 .done))) 20 (.take 16 (.take 17 (.one 21 .done)))))) 19 (.one 12 (.one 15 (.two 16 (.two 17 (.one 20 (.one 21 .done)) 20 (.take 17 (.one 21 .done))) 20 (.take 16 (.take 17 (.one 21 .done))))))))) 19 (.one 6 (.take 7 (.take 8 (.one 12 (.one 15 (.two 16 (.two 17 (.one 20 (.one 21 .done)) 20 (.take 17 (.one 21 .done))) 20 (.take 16 (.take 17 (.one 21 .done)))))))))) 19 (.two 6 (.take 7 (.take 8 (.two 12 (.two 15 (.two 16 (.two 17 (.one 18 (.one 20 (.one 21 .done))) 18 (.two 17 (.one 20 (.one 21 .done)) 20 (.take 17 (.one 21 .done)))) 18 (.two 16 (.two 17 (.one 20 (.one 21 .done)) 20 (.take 17 (.one 21 .done))) 20 (.take 16 (.take 17 (.one 21 .done))))) 18 (.one 15 (.two 16 (.two 17 (.one 20 (.one 21 .done)) 20 (.take 17 (.one 21 .done))) 20 (.take 16 (.take 17 (.one 21 .done)))))) 18 (.one 12 (.one 15 (.two 16 (.two 17 (.one 20 (.one 21 .done)) 20 (.take 17 (.one 21 .done))) 20 (.take 16 (.take 17 (.one 21 .done))))))))) 18 (.one 6 (.take 7 (.take 8 (.one 12 (.one 15 (.two 16 (.two 17 (.one 20 (.one 21 .done)) 20 (.take 17 (.one 21 .done))) 20 (.take 16 (.take 17 (.one 21 .done))))))))))) 18 (.two 3 (.two 6 (.take 7 (.take 8 (.two 12 (.two 15 (.two 16 (.two 17 (.one 19 (.one 20 (.one 21 .done))) 19 (.two 17 (.one 20 (.one 21 .done)) 20 (.take 17 (.one 21 .done)))) 19 (.two 16 (.two 17 (.one 20 (.one 21 .done)) 20 (.take 17 (.one 21 .done))) 20 (.take 16 (.take 17 (.one 21 .done))))) 19 (.one 15 (.two 16 (.two 17 (.one 20 (.one 21 .done)) 20 (.take 17 (.one 21 .done))) 20 (.take 16 (.take 17 (.one 21 .done)))))) 19 (.one 12 (.one 15 (.two 16 (.two 17 (.one 20 (.one 21 .done)) 20 (.take 17 (.one 21 .done))) 20 (.take 16 (.take 17 (.one 21 .done))))))))) 19 (.one 6 (.take 7 (.take 8 (.one 12 (.one 15 (.two 16 (.two 17 (.one 20 (.one 21 .done)) 20 (.take 17 (.one 21 .done))) 20 (.take 16 (.take 17 (.one 21 .done)))))))))) 19 (.one 3 (.one 6 (.take 7 (.take 8 (.one 12 (.one 15 (.two 16 (.two 17 (.one 20 (.one 21 .done)) 20 (.take 17 (.one 21 .done))) 20 (.take 16 (.take 17 (.one 21 .done))))))))))) 19 (.two 3 (.two 6 (.take 7 (.take 8 (.two 12 (.two 15 (.two 16 (.two 17 (.one 18 (.one 20 (.one 21 .done))) 18 (.two 17 (.one 20 (.one 21 .done)) 20 (.take 17 (.one 21 .done)))) 18 (.two 16 (.two 17 (.one 20 (.one 21 .done)) 20 (.take 17 (.one 21 .done))) 20 (.take 16 (.take 17 (.one 21 .done))))) 18 (.one 15 (.two 16 (.two 17 (.one 20 (.one 21 .done)) 20 (.take 17 (.one 21 .done))) 20 (.take 16 (.take 17 (.one 21 .done)))))) 18 (.one 12 (.one 15 (.two 16 (.two 17 (.one 20 (.one 21 .done)) 20 (.take 17 (.one 21 .done))) 20 (.take 16 (.take 17 (.one 21 .done))))))))) 18 (.one 6 (.take 7 (.take 8 (.one 12 (.one 15 (.two 16 (.two 17 (.one 20 (.one 21 .done)) 20 (.take 17 (.one 21 .done))) 20 (.take 16 (.take 17 (.one 21 .done)))))))))) 18 (.one 3 (.one 6 (.take 7 (.take 8 (.one 12 (.one 15 (.two 16 (.two 17 (.one 20 (.one 21 .done)) 20 (.take 17 (.one 21 .done))) 20 (.take 16 (.take 17 (.one 21 .done)))))))))))))))))))))) 1000 (by decide +kernel) ⟨[(13,.c (.d (.at_ [.v (.int .i64 v.k),.v (.string v.s),.v (.int .i64 v.n),.v (.int .i64 (bi v.b))]))),(14,.c (.d (.at_ [.v (.int .i64 w.k),.v (.string w.s),.v (.int .i64 w.n),.v (.int .i64 (bi w.b))]))),(17,i2 .i64 k),(16,i2 .i64 on.length),(15,.c (.d (.sl 2 (on.map eJo)))),(3,.c (.d (.sl 4 (x.map eRV)))),(4,.c (.d (.sl 4 (y.map eRV)))),(5,.c (.op 0 0)),(6,.c (.op 1 0))],[.bx 74 [.d (.sl 3 (L.map eRC)),.d (.sl 1 (A.map eRR))],.bx 74 [.d (.sl 3 (M.map eRC)),.d (.sl 1 (B.map eRR))]]⟩ ?_ ?_
  ·(try push_cast (maxSteps:=mS) [hxi,hyi])
   ((repeat' with_reducible refine And.intro ?_ ?_)<;>try exact sz)
   all_goals (refine ⟨_,h69a,rfl,?_⟩)
   all_goals (try push_cast (maxSteps:=mS) [hxi,hyi])
   all_goals ((repeat' with_reducible refine And.intro ?_ ?_)<;>try exact sz)
   all_goals (refine ⟨_,h68a,rfl,?_⟩)
   all_goals (try push_cast (maxSteps:=mS) [hxi,hyi])
   all_goals ((repeat' with_reducible refine And.intro ?_ ?_)<;>try exact sz)
   all_goals (refine ⟨_,h69b,rfl,?_⟩)
   all_goals (try push_cast (maxSteps:=mS) [hxi,hyi])
   all_goals ((repeat' with_reducible refine And.intro ?_ ?_)<;>try exact sz)
   all_goals (refine ⟨_,h68b,rfl,?_⟩)
   all_goals (try push_cast (maxSteps:=mS) [hxi,hyi])
   all_goals ((repeat' with_reducible refine And.intro ?_ ?_)<;>try exact sz)
   all_goals (refine Le.frz [3,4] ?_)
   all_goals (try push_cast (maxSteps:=mS))
   all_goals rfl
  have hsv:sameV v w=(decide (v.k=w.k) && (decide (v.s=w.s) && (decide (v.n=w.n) && decide (bi v.b=bi w.b)))):=rfl
  by_cases k0:v.k=0
  ·rw [decide_eq_true k0,Bool.not_true,Bool.false_and,Bool.false_and] at hc
   rw [← hc]
   (try push_cast (maxSteps:=mS) [k0])
  ·rw [decide_eq_false k0,Bool.not_false,Bool.true_and] at hc
   (try push_cast (maxSteps:=mS) [k0])
   rw [← hsv]
   cases hs:sameV v w with
   | false =>
    rw [hs,Bool.false_and] at hc
    rw [← hc]
    (try push_cast (maxSteps:=mS))
   | true =>
    rw [hs,Bool.true_and] at hc
    (try push_cast (maxSteps:=mS))
    ((repeat' with_reducible refine And.intro ?_ ?_)<;>try exact sz)
    refine ⟨k+1,⟨by omega,hc⟩,by omega,Le.st ?_⟩
    (try push_cast (maxSteps:=mS));(all_goals first|rfl|skip)
 ·have hd:=geF hlt
  rw [List.drop_eq_nil_of_le (by omega)] at hc
  (try push_cast (maxSteps:=mS) [hd])
  exact hc
open Go Go.LS
set_option maxRecDepth 100000
set_option linter.unusedSimpArgs false
set_option linter.unusedVariables false
def partJ (a b:List Cl) (on:List Jo) (kind:Int) (B:List (List Vl)) (x:List Vl):List (List Vl):=if 2<kind then [] else (B.filter fun y=>matchF a b on x y).map (besideF (othersN b on) x)
theorem part_take {a b:List Cl} {on:List Jo} {kind:Int} {B:List (List Vl)} {x y:List Vl} {k:Nat} (h:B[k]?=some y):partJ a b on kind (B.take (k+1)) x=partJ a b on kind (B.take k) x++if 2<kind∨matchF a b on x y=false then [] else [besideF (othersN b on) x y]:=by
 unfold partJ
 rw [List.take_add_one,h,Option.toList_some,List.filter_append,List.map_append]
 by_cases hk:2<kind
 ·simp [hk]
 ·cases hm:matchF a b on x y<;>simp [hk,hm]
theorem part_len (a b:List Cl) (on:List Jo) (kind:Int) (B:List (List Vl)) (x:List Vl):(partJ a b on kind B x).length≤B.length:=by
 unfold partJ
 have:=List.length_filter_le (fun y=>matchF a b on x y) B
 split<;>simp<;>omega
theorem rowJ_part (a b:List Cl) (on:List Jo) (kind:Int) (B:List (List Vl)) (x:List Vl):rowJ a b on kind B x=partJ a b on kind B x ++
 ((if (kind=3∧(B.any fun y=>matchF a b on x y)=true)∨(kind=4∧(B.any fun y=>matchF a b on x y)=false) then [x] else []) ++
  (if kind=2∧(B.any fun y=>matchF a b on x y)=false then [besideF (othersN b on) x []] else [])):=rfl
theorem beside_take {b:List Cl} {on:List Jo} {x y:List Vl} {k:Nat} {c:Cl} (h:b[k]?=some c):besideF (othersN (b.take (k+1)) on) x y=besideF (othersN (b.take k) on) x y++if isR on c.name=true then [] else [vAt y k]:=by
 unfold besideF
 rw [others_take h,List.map_append,List.append_assoc]
 cases isR on c.name<;>simp
theorem beside_len (b:List Cl) (on:List Jo) (x y:List Vl):(besideF (othersN b on) x y).length≤x.length+b.length:=by
 unfold besideF
 have:=others_len b on
 rw [List.length_append,List.length_map];omega
set_option maxHeartbeats 2000000 in
theorem d42 (a b:Tb) (on:List Jo) (kind:Int) (ha:okLen a.L) (hb:b.L.length≤1000) (ho:okLen on) (hf:∀ o∈on,foundN a.L o.l∧foundN b.L o.r) (hx:∀ x∈a.R,x.length=a.L.length) (hy:∀ y∈b.R,y.length=b.L.length)
  (hal:a.L.length≤1000) (har:a.R.length≤200) (hbr:b.R.length≤200) (hk:1≤kind∧kind≤4) :
  Spec V 65 [.ag ((eRT a).map .d),.ag ((eRT b).map .d),.c (.d (.sl 2 (on.map eJo))),i2 .i64 kind] (.c (.d (.sl 1 ((rowsJ a.L b.L on kind a.R b.R).map eRR)))):=by
 have h83:=fun x y=>d83 a b on x y ha (by simp only [okLen];omega) ho hf
 obtain ⟨L,A⟩:=a
 obtain ⟨M,B⟩:=b
 simp only at ha hb hf hx hy hal har hbr
 simp only [eRT_eq] at h83
 have h77:=fun n=>d77 on n ho
 have hAB:∀ i,i≤A.length→(rowsJ L M on kind (A.take i) B).length≤50000:=by
  intro i hi
  have h1:=rowsJ_len L M on kind B (A.take i)
  rw [List.length_take] at h1
  have h2:min i A.length*(B.length+1)≤200*201:=Nat.mul_le_mul (by omega) (by omega)
  omega
 (refine Spec.of_go (L:=fun|0=>some [2,3,4,5]|1=>some [2,3,4,5,9]|2=>some [2,3,4,5,9,22,23,24]|3=>some [2,3,4,5,9,22,23,24,25]|4=>some [2,3,4,5,9,11,22,23,24]|5=>some [2,3,4,5,9,11,12,22,23,24]|6=>some [2,3,4,5,9,11,12,22,23,24,29,30,31]|7=>some [2,3,4,5,9,11,12,22,23,24,29,30,31,32]|8=>some [2,3,4,5,9,11,12,14,22,23,24,29,30,31]|9=>some [2,3,4,5,9,11,12,14,22,23,24,29,30,31,41]|10=>some [2,3,4,5,9,11,12,14,22,23,24,29,30,31]|11=>some [2,3,4,5,9,11,12,14,22,23,24,29,30,31,43]|12=>some [2,3,4,5,9,11,12,14,15,22,23,24,29,30,31]|13=>some [2,3,4,5,9,11,12,14,15,22,23,24,29,30,31]|14=>some [2,3,4,5,9,11,12,14,15,22,23,24,29,30,31,48,49,50]|15=>some [2,3,4,5,9,11,12,14,15,22,23,24,29,30,31,48,49,50,51]|16=>some [2,3,4,5,9,11,12,14,15,16,17,22,23,24,29,30,31,48,49,50]|17=>some [2,3,4,5,9,11,12,14,15,16,22,23,24,29,30,31,48,49,50,59]|18=>some [2,3,4,5,9,11,12,14,15,22,23,24,29,30,31,48,49,50]|19=>some [2,3,4,5,9,11,12,14,15,22,23,24,29,30,31,48,49,50]|20=>some [2,3,4,5,9,11,12,22,23,24,29,30,31]|21=>some [2,3,4,5,9,11,12,22,23,24,29,30,31]|22=>some [2,3,4,5,9,11,12,18,22,23,24]|23=>some [2,3,4,5,9,12,18,22,23,24]|24=>some [2,3,4,5,9,12,18,22,23,24,88]|25=>some [2,3,4,5,9,12,18,22,23,24]|26=>some [2,3,4,5,9,18,22,23,24,98]|27=>some [2,3,4,5,9,18,22,23,24,100,101,102]|28=>some [2,3,4,5,9,18,22,23,24,100,101,102,103]|29=>some [2,3,4,5,9,18,20,22,23,24,100,101,102]|30=>some [2,3,4,5,9,18,22,23,24,100,101,102,110]|31=>some [2,3,4,5,9,18,22,23,24,100,101,102]|32=>some [2,3,4,5,9,18,22,23,24,100,101,102]|33=>some [2,3,4,5,9,22,23,24]|34=>some [2,3,4,5,9,22,23,24]|35=>some [8]|_=>none) 1000 Go.Proofs.Tryz.func65 rfl rfl ⟨Nat.le_of_ble_eq_true rfl,rfl⟩ rfl ?_;unfold Go.Proofs.Tryz.f65;push_cast (maxSteps:=mS))
 refine LoopK.le (Le.nil 9 39 1 (by decide) (by (try push_cast (maxSteps:=mS)))) ?_
 (try push_cast (maxSteps:=mS))
 refine LoopK.ov (α:=Nat) [24] (fun i=>[i2 .i64 i]) (fun i=>[.bx 74 [.d (.sl 3 (L.map eRC)),.d (.sl 1 (A.map eRR))],.bx 74 [.d (.sl 3 (M.map eRC)),.d (.sl 1 (B.map eRR))],.rw 39 1 ((rowsJ L M on kind (A.take i) B).map eRR)]) (fun i=>i≤A.length) (fun i=>A.length - i) 1000 0 (by omega) (by ((try push_cast (maxSteps:=mS)));simp [rowsJ]) ?_
 rintro i hi
 have hABi:=hAB i hi
 by_cases hlt:i<A.length
 ·have hv:=atT hlt;have hd:=ltT hlt
  have hrt:=rowsJ_take (a:=L) (b:=M) (on:=on) (kind:=kind) (B:=B) hv
  have hxl:=hx _ (List.getElem_mem hlt)
  generalize A[i]=x at *
  generalize rowsJ L M on kind (A.take i) B=P at *
  (try push_cast (maxSteps:=mS) [hd,getD_map hv])
  ((repeat' with_reducible refine And.intro ?_ ?_)<;>try exact sz)
  refine LoopK.ov (α:=Nat) [31,12] (fun j=>[i2 .i64 j,b2 ((B.take j).any fun y=>matchF L M on x y)]) (fun j=>[.bx 74 [.d (.sl 3 (L.map eRC)),.d (.sl 1 (A.map eRR))],.bx 74 [.d (.sl 3 (M.map eRC)),.d (.sl 1 (B.map eRR))],.rw 39 1 ((P++partJ L M on kind (B.take j) x).map eRR)]) (fun j=>j≤B.length) (fun j=>B.length - j) 1000 0 (by omega) (by ((try push_cast (maxSteps:=mS)));simp [partJ]) ?_
  rintro j hj
  have hpl:=part_len L M on kind (B.take j) x
  rw [List.length_take] at hpl
  by_cases hlj:j<B.length
  ·have hvj:=List.getElem?_eq_getElem hlj
   have hdj:decide ((j:Int)<(B.length:Int))=true:=decide_eq_true (by omega)
   have hpt:=part_take (a:=L) (b:=M) (on:=on) (kind:=kind) (x:=x) hvj
   have hat:=any_succ (p:=fun y=>matchF L M on x y) hvj
   have hyl:=hy _ (List.getElem_mem hlj)
   generalize B[j]=y at *
   have h83':=h83 x y hxl hyl
   (try push_cast (maxSteps:=mS) [hdj,getD_map hvj])
   ((repeat' with_reducible refine And.intro ?_ ?_)<;>try exact sz)
   refine ⟨_,h83',rfl,?_⟩
   cases hm:matchF L M on x y with
   | false =>
    rw [hm] at hpt hat
    simp only [or_true,if_true,List.append_nil,Bool.or_false] at hpt hat
    (try push_cast (maxSteps:=mS))
    ((repeat' with_reducible refine And.intro ?_ ?_)<;>try exact sz)
    refine ⟨j+1,by omega,by omega,Le.st ?_⟩
    rw [hpt,hat]
    (try push_cast (maxSteps:=mS));(all_goals first|rfl|skip)
   | true =>
    rw [hm] at hpt hat
    simp only [Bool.true_eq_false,or_false,Bool.or_true] at hpt hat
    by_cases k2:2<kind
    ·rw [if_pos k2,List.append_nil] at hpt
     (try push_cast (maxSteps:=mS) [k2])
     ((repeat' with_reducible refine And.intro ?_ ?_)<;>try exact sz)
     refine ⟨j+1,by omega,by omega,Le.st ?_⟩
     rw [hpt,hat]
     (try push_cast (maxSteps:=mS));(all_goals first|rfl|skip)
    ·rw [if_neg k2] at hpt
     (try push_cast (maxSteps:=mS) [k2])
     ((repeat' with_reducible refine And.intro ?_ ?_)<;>try exact sz)
     refine LoopK.ov (α:=Nat) [50] (fun q=>[i2 .i64 q]) (fun q=>[.bx 74 [.d (.sl 3 (L.map eRC)),.d (.sl 1 (A.map eRR))],.bx 74 [.d (.sl 3 (M.map eRC)),.d (.sl 1 (B.map eRR))],.rw 39 1 ((P++partJ L M on kind (B.take j) x).map eRR),.rw 38 4 ((besideF (othersN (M.take q) on) x y).map eRV)]) (fun q=>q≤M.length) (fun q=>M.length - q) 1000 0 (by omega) (by ((try push_cast (maxSteps:=mS)))<;>simp [besideF,othersN]) ?_
     rintro q hq
     have hbl:=beside_len (M.take q) on x y
     rw [List.length_take] at hbl
     by_cases hlq:q<M.length
     ·have hvq:=List.getElem?_eq_getElem hlq
      have hdq:decide ((q:Int)<(M.length:Int))=true:=decide_eq_true (by omega)
      have hbt:=beside_take (on:=on) (x:=x) (y:=y) hvq
      have hyq:y[q]?=some y[q]:=List.getElem?_eq_getElem (by omega)
      rw [vAt_get hyq] at hbt
      have hyi:(y.map eRV).getD q []=eRV y[q]:=getD_map hyq
      have hci:(M.map eRC).getD q []=eRC M[q]:=getD_map hvq
      generalize y[q]=v at *
      generalize M[q]=c at *
      simp only [eRC_eq] at hci
      have h77':=h77 c.name
      (try push_cast (maxSteps:=mS) [hdq,hci])
      ((repeat' with_reducible refine And.intro ?_ ?_)<;>try exact sz)
      refine ⟨_,h77',rfl,?_⟩
      cases hr:isR on c.name with
      | true =>
       rw [hr] at hbt
       simp only [if_true,List.append_nil] at hbt
       (try push_cast (maxSteps:=mS))
       ((repeat' with_reducible refine And.intro ?_ ?_)<;>try exact sz)
       refine ⟨q+1,by omega,by omega,Le.st ?_⟩
       rw [hbt]
       (try push_cast (maxSteps:=mS));(all_goals first|rfl|skip)
      | false =>
       rw [hr] at hbt
       simp only [Bool.false_eq_true,if_false] at hbt
       (try push_cast (maxSteps:=mS) [hyi])
       ((repeat' with_reducible refine And.intro ?_ ?_)<;>try exact sz)
       refine ⟨q+1,by omega,by omega,Le.st ?_⟩
       rw [hbt]
       (try push_cast (maxSteps:=mS))
       all_goals (first|rfl|(simp;done)|(simp;rfl))
     ·have hdq:decide ((q:Int)<(M.length:Int))=false:=decide_eq_false (by omega)
      rw [show M.take q=M from List.take_of_length_le (by omega)]
      have hpp:(P++partJ L M on kind (B.take j) x).length≤60000:=by rw [List.length_append];omega
      have hpt':P++partJ L M on kind (B.take (j+1)) x=(P++partJ L M on kind (B.take j) x)++[besideF (othersN M on) x y]:=by rw [hpt,List.append_assoc]
      generalize P++partJ L M on kind (B.take j) x=Q at *
      (try push_cast (maxSteps:=mS) [hdq])
      ((repeat' with_reducible refine And.intro ?_ ?_)<;>try exact sz)
      refine ⟨j+1,by omega,by omega,Le.st ?_⟩
      rw [hpt',hat]
      (try push_cast (maxSteps:=mS))
      all_goals (first|rfl|(simp;done)|(simp;rfl))
  ·have hdj:decide ((j:Int)<(B.length:Int))=false:=decide_eq_false (by omega)
   rw [List.take_of_length_le (by omega)] at hpl ⊢
   rw [rowJ_part,← List.append_assoc] at hrt
   (try push_cast (maxSteps:=mS) [hdj])
   ((repeat' with_reducible refine And.intro ?_ ?_)<;>try exact sz)
   have hpp:(P++partJ L M on kind B x).length≤60000:=by rw [List.length_append];omega
   generalize P++partJ L M on kind B x=Q at *
   cases hsome:B.any fun y=>matchF L M on x y with
   | true =>
    rw [hsome] at hrt
    by_cases k3:kind=3
    ·subst k3
     simp only [and_true,true_and,Int.reduceEq,false_and,if_true,if_false,or_false,List.append_nil] at hrt
     (try push_cast (maxSteps:=mS))
     ((repeat' with_reducible refine And.intro ?_ ?_)<;>try exact sz)
     refine ⟨i+1,by omega,by omega,Le.st ?_⟩
     rw [hrt]
     (try push_cast (maxSteps:=mS))
     all_goals (first|rfl|(simp;done)|(simp;rfl))
    ·have hrt2:rowsJ L M on kind (A.take (i+1)) B=Q:=by
      rw [hrt];simp [k3]
     by_cases k4:kind=4
     ·subst k4
      (try push_cast (maxSteps:=mS))
      ((repeat' with_reducible refine And.intro ?_ ?_)<;>try exact sz)
      refine ⟨i+1,by omega,by omega,Le.st ?_⟩
      rw [hrt2]
      (try push_cast (maxSteps:=mS));(all_goals first|rfl|skip)
     ·by_cases k2:kind=2
      ·subst k2
       (try push_cast (maxSteps:=mS))
       ((repeat' with_reducible refine And.intro ?_ ?_)<;>try exact sz)
       refine ⟨i+1,by omega,by omega,Le.st ?_⟩
       rw [hrt2]
       (try push_cast (maxSteps:=mS));(all_goals first|rfl|skip)
      ·(try push_cast (maxSteps:=mS) [k2,k3,k4])
       ((repeat' with_reducible refine And.intro ?_ ?_)<;>try exact sz)
       refine ⟨i+1,by omega,by omega,Le.st ?_⟩
       rw [hrt2]
       (try push_cast (maxSteps:=mS));(all_goals first|rfl|skip)
   | false =>
    rw [hsome] at hrt
    by_cases k4:kind=4
    ·subst k4
     simp only [and_true,true_and,Int.reduceEq,false_and,if_true,if_false,or_true,false_or,Bool.false_eq_true,and_false,List.append_nil] at hrt
     (try push_cast (maxSteps:=mS))
     ((repeat' with_reducible refine And.intro ?_ ?_)<;>try exact sz)
     refine ⟨i+1,by omega,by omega,Le.st ?_⟩
     rw [hrt]
     (try push_cast (maxSteps:=mS))
     all_goals (first|rfl|(simp;done)|(simp;rfl))
    ·by_cases k2:kind=2
     ·subst k2
      simp only [and_true,true_and,Int.reduceEq,false_and,if_true,if_false,or_self,Bool.false_eq_true,and_false,List.nil_append] at hrt
      (try push_cast (maxSteps:=mS))
      ((repeat' with_reducible refine And.intro ?_ ?_)<;>try exact sz)
      refine LoopK.ov (α:=Nat) [102] (fun q=>[i2 .i64 q]) (fun q=>[.bx 74 [.d (.sl 3 (L.map eRC)),.d (.sl 1 (A.map eRR))],.bx 74 [.d (.sl 3 (M.map eRC)),.d (.sl 1 (B.map eRR))],.rw 39 1 (Q.map eRR),.rw 38 4 ((besideF (othersN (M.take q) on) x []).map eRV)]) (fun q=>q≤M.length) (fun q=>M.length - q) 1000 0 (by omega) (by ((try push_cast (maxSteps:=mS)))<;>simp [besideF,othersN]) ?_
      rintro q hq
      have hbl:=beside_len (M.take q) on x []
      rw [List.length_take] at hbl
      by_cases hlq:q<M.length
      ·have hvq:=List.getElem?_eq_getElem hlq
       have hdq:decide ((q:Int)<(M.length:Int))=true:=decide_eq_true (by omega)
       have hbt:=beside_take (on:=on) (x:=x) (y:=[]) hvq
       rw [show vAt [] q=v0 from by simp [vAt]] at hbt
       have hci:(M.map eRC).getD q []=eRC M[q]:=getD_map hvq
       generalize M[q]=c at *
       simp only [eRC_eq] at hci
       have h77':=h77 c.name
       (try push_cast (maxSteps:=mS) [hdq,hci])
       ((repeat' with_reducible refine And.intro ?_ ?_)<;>try exact sz)
       refine ⟨_,h77',rfl,?_⟩
       cases hr:isR on c.name with
       | true =>
        rw [hr] at hbt
        simp only [if_true,List.append_nil] at hbt
        (try push_cast (maxSteps:=mS))
        ((repeat' with_reducible refine And.intro ?_ ?_)<;>try exact sz)
        refine ⟨q+1,by omega,by omega,Le.st ?_⟩
        rw [hbt]
        (try push_cast (maxSteps:=mS));(all_goals first|rfl|skip)
       | false =>
        rw [hr] at hbt
        simp only [Bool.false_eq_true,if_false] at hbt
        (try push_cast (maxSteps:=mS))
        ((repeat' with_reducible refine And.intro ?_ ?_)<;>try exact sz)
        refine ⟨q+1,by omega,by omega,Le.st ?_⟩
        rw [hbt]
        (try push_cast (maxSteps:=mS))
        all_goals (first|rfl|(simp [v0,vl0,bi];done)|(simp [v0,vl0,bi];rfl)|trace_state)
      ·have hdq:decide ((q:Int)<(M.length:Int))=false:=decide_eq_false (by omega)
       rw [show M.take q=M from List.take_of_length_le (by omega)]
       (try push_cast (maxSteps:=mS) [hdq])
       ((repeat' with_reducible refine And.intro ?_ ?_)<;>try exact sz)
       refine ⟨i+1,by omega,by omega,Le.st ?_⟩
       rw [hrt]
       (try push_cast (maxSteps:=mS))
       all_goals (first|rfl|(simp;done)|(simp;rfl))
     ·have hrt2:rowsJ L M on kind (A.take (i+1)) B=Q:=by
       rw [hrt];simp [k2,k4]
      by_cases k3:kind=3
      ·subst k3
       (try push_cast (maxSteps:=mS))
       ((repeat' with_reducible refine And.intro ?_ ?_)<;>try exact sz)
       refine ⟨i+1,by omega,by omega,Le.st ?_⟩
       rw [hrt2]
       (try push_cast (maxSteps:=mS));(all_goals first|rfl|skip)
      ·(try push_cast (maxSteps:=mS) [k2,k3,k4])
       ((repeat' with_reducible refine And.intro ?_ ?_)<;>try exact sz)
       refine ⟨i+1,by omega,by omega,Le.st ?_⟩
       rw [hrt2]
       (try push_cast (maxSteps:=mS));(all_goals first|rfl|skip)
 ·have hd:=geF hlt
  rw [List.take_of_length_le (by omega)]
  (try push_cast (maxSteps:=mS) [hd])
open Go Go.LS
set_option maxRecDepth 100000
set_option linter.unusedSimpArgs false
set_option linter.unusedVariables false
theorem beside_zero (ps:List Nat) (x:List Vl) (n:Nat):besideF ps x (List.replicate n vl0)=besideF ps x []:=by
 unfold besideF
 congr 1
 refine List.map_congr_left fun p _=>?_
 unfold vAt
 rw [List.getD_eq_getElem?_getD,List.getElem?_replicate]
 split<;>simp
set_option maxHeartbeats 4000000 in
theorem d38 (a b:Tb) (on:List Jo) (kind:Int) (ha:okT2 a) (hb:okT2 b) (ho:on.length≤64) (hk:inK .i64 kind) (hal:a.L.length≤1000) (hbl:b.L.length≤1000) (har:a.R.length≤200) (hbr:b.R.length≤200) :
  Spec V 51 [.ag ((eT a).map .d),.ag ((eT b).map .d),.c (.d (.sl 2 (on.map eJo))),i2 .i64 kind] (.tu [.ag ((eT (joinC a b on kind).1).map .d),i2 .i64 (joinC a b on kind).2]):=by
 have h36:=d36 a.L b.L on kind ha.l hb.l (by omega) hk hal hbl
 have h80a:=d80 a ha.r (fun r hr=>(ha.v r hr).1)
 have h80b:=d80 b hb.r (fun r hr=>(hb.v r hr).1)
 obtain ⟨L,A⟩:=a
 obtain ⟨M,B⟩:=b
 simp only at hal hbl har hbr
 obtain ⟨R,hR⟩:∃ R,R=joinC ⟨L,A⟩ ⟨M,B⟩ on kind:=⟨_,rfl⟩
 rw [← hR]
 simp only [joinC] at hR
 simp only [eT_eq,colsC] at h36 h80a h80b
 (refine of3 ?_;refine Spec.of_go (V:=V3) (L:=fun|0=>some [2,3,4,5,8]|1=>some [2,3,4,5,8,10,11]|2=>some [2,3,4,5,8,10,11,44]|3=>some [8,9]|4=>some [2,3,4,5,8,10,54]|5=>some [8,9]|6=>some [2,3,4,5,8,10,12,13]|7=>some [2,3,4,5,8,10,12,13,56,57,58]|8=>some [2,3,4,5,8,10,12,13,56,57,58,59]|9=>some [2,3,4,5,8,10,12,13,15,56,57,58]|10=>some [2,3,4,5,8,10,12,13,15,17,56,57,58]|11=>some [2,3,4,5,8,10,12,13,15,56,57,58]|12=>some [2,3,4,5,8,10,12,13,17,56,57,58]|13=>some [2,3,4,5,8,10,12,13,56,57,58]|14=>some [2,3,4,5,8,10,12,13,56,57,58]|15=>some [2,3,4,5,8,10,12,13,19]|16=>some [2,3,4,5,8,10,12,13,19,91,92,93]|17=>some [2,3,4,5,8,10,12,13,19,91,92,93,94]|18=>some [2,3,4,5,8,10,12,13,19,20,21,91,92,93]|19=>some [2,3,4,5,8,10,12,13,19,20,22,23,91,92,93]|20=>some [2,3,4,5,8,10,12,13,19,20,22,91,92,93,104]|21=>some [2,3,4,5,8,10,12,13,19,91,92,93]|22=>some [2,3,4,5,8,10,12,13,19,91,92,93]|23=>some [2,3,4,5,8,12,19,24]|24=>some [3,4,5,8,12,19,24,25]|25=>some [3,5,8,12,19,24,25,121,122,123]|26=>some [3,5,8,12,19,24,25,121,122,123,124]|27=>some [3,5,8,12,19,24,25,27,121,122,123]|28=>some [3,5,8,12,19,24,25,27,28,121,122,123]|29=>some [3,5,8,12,19,24,25,27,28,29,30,121,122,123]|30=>some [3,5,8,12,19,24,25,27,28,29,121,122,123,133]|31=>some [3,5,8,12,19,24,25,27,28,121,122,123]|32=>some [3,5,8,12,19,24,25,27,28,121,122,123,137]|33=>some [3,5,8,12,19,24,25,27,28,121,122,123,137,138]|34=>some [3,5,8,12,19,24,25,27,28,121,122,123,138]|35=>some [3,5,8,12,19,24,25,27,121,122,123,146]|36=>some [3,5,8,12,19,24,25,121,122,123]|37=>some [3,5,8,12,19,24,25,27,28,121,122,123,154,155,156]|38=>some [3,5,8,12,19,24,25,27,28,121,122,123,154,155,156,157]|39=>some [3,5,8,12,19,24,25,27,28,32,121,122,123,154,155,156]|40=>some [3,5,8,12,19,24,25,27,28,121,122,123,154,155,156]|41=>some [3,5,8,12,19,24,25,27,28,121,122,123,154,155,156]|42=>some [3,5,8,12,19,24,25,27,121,122,123,180]|43=>some [3,5,8,12,19,24,25,121,122,123]|44=>some [3,5,8,12,19,24,25,121,122,123]|45=>some [8,9]|_=>none) 1000 Go.Proofs.Tryz.func51 rfl rfl ⟨Nat.le_of_ble_eq_true rfl,rfl⟩ rfl ?_;unfold Go.Proofs.Tryz.f51;push_cast (maxSteps:=mS))
 refine ⟨_,to3 h36,rfl,?_⟩
 by_cases c1:(checkJ L M on kind).2=0
 ·rw [if_neg (by simp [c1])] at hR
  simp only [c1,ne_eq,not_true_eq_false,if_false] at h36 ⊢
  (try push_cast (maxSteps:=mS))
  refine ⟨_,to3 h80a,rfl,?_⟩
  cases ea:evenF ⟨L,A⟩ with
  | false =>
   rw [if_pos (.inl ea)] at hR
   subst hR
   (try push_cast (maxSteps:=mS))
  | true =>
   (try push_cast (maxSteps:=mS))
   refine ⟨_,to3 h80b,rfl,?_⟩
   cases eb:evenF ⟨M,B⟩ with
   | false =>
    rw [if_pos (.inr eb)] at hR
    subst hR
    (try push_cast (maxSteps:=mS))
   | true =>
    rw [if_neg (by simp [ea,eb])] at hR
    subst hR
    (try push_cast (maxSteps:=mS))
    refine LoopK.le (Le.nil 12 3 1 (by decide) (by (try push_cast (maxSteps:=mS)))) ?_
    (try push_cast (maxSteps:=mS))
    refine LoopK.le (Le.nil 13 3 1 (by decide) (by (try push_cast (maxSteps:=mS)))) ?_
    (try push_cast (maxSteps:=mS))
    obtain ⟨_,_,hkk,_,hfound,_⟩:=checkJ_parts c1
    refine LoopK.ov (α:=Nat) [58] (fun k=>[i2 .i64 k]) (fun k=>[.bx 25 [.d (.sl 3 (L.map eC)),.d (.sl 1 (A.map eR))],.bx 25 [.d (.sl 3 (M.map eC)),.d (.sl 1 (B.map eR))],.bx 25 [.d (.v (.slice none 0 0)),.d (.v (.slice none 0 0))],.rw 3 1 (((on.take k).map fun o=>placeN L o.l).map eJ),.rw 3 1 (((on.take k).map fun o=>placeN M o.r).map eJ)]) (fun k=>k≤on.length) (fun k=>on.length - k) 1000 0 (by omega) (by (try push_cast (maxSteps:=mS))<;>first|rfl|exact ⟨rfl,rfl⟩|exact ⟨rfl,rfl,rfl⟩|trivial) ?_
    rintro k hk1
    by_cases hlt:k<on.length
    ·have hv:=atT hlt;have hd:=ltT hlt
     have htk:on.take (k+1)=on.take k++[on[k]]:=by rw [List.take_add_one,hv];rfl
     have hlk:(on.take k).length=k:=by rw [List.length_take];omega
     have hoi:(on.map eJo).getD k []=eJo on[k]:=getD_map hv
     generalize on[k]=o at *
     have h64a:=f62 L o.l ha.l.1
     have h64b:=f62 M o.r hb.l.1
     simp only [eJo_eq] at hoi
     simp only [eC_eq,show (findF o.l L 0).2.1=placeN L o.l from rfl] at h64a
     simp only [eC_eq,show (findF o.r M 0).2.1=placeN M o.r from rfl] at h64b
     (try push_cast (maxSteps:=mS) [hd,hoi])
     ((repeat' with_reducible refine And.intro ?_ ?_)<;>try exact sz)
     refine ⟨_,to3 h64a,rfl,?_⟩
     (try push_cast (maxSteps:=mS))
     ((repeat' with_reducible refine And.intro ?_ ?_)<;>try exact sz)
     refine ⟨_,to3 h64b,rfl,?_⟩
     (try push_cast (maxSteps:=mS))
     ((repeat' with_reducible refine And.intro ?_ ?_)<;>try exact sz)
     refine ⟨k+1,by omega,by omega,Le.st ?_⟩
     rw [htk]
     (try push_cast (maxSteps:=mS))
     all_goals (first|rfl|exact ⟨rfl,rfl⟩|(simp;done)|(simp;exact ⟨rfl,rfl⟩)|(simp;rfl))
    ·have hd:=geF hlt
     rw [show on.take k=on from List.take_of_length_le (by omega)]
     have hpl:∀ p∈on.map (fun o=>placeN L o.l),p<L.length:=by
      intro p hp
      obtain ⟨o,ho',rfl⟩:=List.mem_map.1 hp
      exact (find_lt (hfound o ho').1).1
     have hpr:∀ p∈on.map (fun o=>placeN M o.r),p<M.length:=by
      intro p hp
      obtain ⟨o,ho',rfl⟩:=List.mem_map.1 hp
      exact (find_lt (hfound o ho').2).1
     have hll:(on.map fun o=>placeN L o.l).length≤64:=by simpa using ho
     have hlr:(on.map fun o=>placeN M o.r).length≤64:=by simpa using ho
     have hrowA:∀ x∈A,x.length=L.length:=by simpa [evenF] using ea
     have hrowB:∀ y∈B,y.length=M.length:=by simpa [evenF] using eb
     have hRC:=fun x (hx:x∈A)=>rowC_eq (a:=L) (b:=M) (on:=on) (B:=B) hkk (ha.right x hx) hb.right
     have hAB:∀ i,i≤A.length→(rowsJ L M on kind (A.take i) B).length≤50000:=by
      intro i hi
      have h1:=rowsJ_len L M on kind B (A.take i)
      rw [List.length_take] at h1
      have h2:min i A.length*(B.length+1)≤200*201:=Nat.mul_le_mul (by omega) (by omega)
      omega
     have h79:=d79 M on hbl (by simp only [okLen];omega)
     (try push_cast (maxSteps:=mS) [hd])
     generalize (on.map fun o=>placeN L o.l)=left at *
     generalize (on.map fun o=>placeN M o.r)=right at *
     have h81l:=fun x (hx:x∈A)=>d81 x left (fun v hv=>((ha.v x hx).2 v hv).1) (fun v hv=>((ha.v x hx).2 v hv).2) hll (fun p hp=>by rw [hrowA x hx];exact hpl p hp)
     have h81r:=fun y (hy:y∈B)=>d81 y right (fun v hv=>((hb.v y hy).2 v hv).1) (fun v hv=>((hb.v y hy).2 v hv).2) hlr (fun p hp=>by rw [hrowB y hy];exact hpr p hp)
     clear h36 h80a h80b ea eb hfound hd hlt k hk1
     refine LoopK.fz 3 rfl (LoopK.fz 4 rfl ?_)
     (try push_cast (maxSteps:=mS))
     refine LoopK.ovl (α:=Nat × List (ByteArray × DV) × List OB × (ByteArray→Nat)) [93] (fun s=>[i2 .i64 s.1]) (fun s=>.bx 25 [.d (.sl 3 (L.map eC)),.d (.sl 1 (A.map eR))]::.bx 25 [.d (.sl 3 (M.map eC)),.d (.sl 1 (B.map eR))]::.bx 25 [.d (.v (.slice none 0 0)),.d (.v (.slice none 0 0))]::.dead::.dead::.mp s.2.1::s.2.2.1) (fun s=>s.1≤B.length∧MapP 3 eJ right (B.take s.1) s.2.1 s.2.2.1 s.2.2.2) (fun s=>B.length - s.1) 1000 (0,[],[],fun _=>0) ⟨by simp,MapP.start 3 eJ right⟩ (by (try push_cast (maxSteps:=mS))<;>first|rfl|exact ⟨rfl,rfl⟩|exact ⟨rfl,rfl,rfl⟩|trivial) ?_
     rintro ⟨k,es,rs,J⟩ ⟨hk1,hM⟩
     simp only at hk1 hM
     by_cases hlt:k<B.length
     ·refine ⟨_,Le.refl _,?_⟩
      have hv:=atT hlt;have hd:=ltT hlt
      have htk:B.take (k+1)=B.take k++[B[k]]:=by rw [List.take_add_one,hv];rfl
      have hlk:(B.take k).length=k:=by rw [List.length_take];omega
      have h81:=h81r _ (List.getElem_mem hlt)
      generalize B[k]=y at *
      have fM:=flat_mapOB hM.flat
      have fN:=fun k=>flat_noO (k:=k) hM.flat
      unfold markJ at h81
      (try push_cast (maxSteps:=mS) [hd,getD_map hv])
      ((repeat' with_reducible refine And.intro ?_ ?_)<;>try exact sz)
      refine ⟨_,to3 h81,rfl,?_⟩
      cases hn:nullF right y with
      | true =>
       have hM2:=hM.null hn
       rw [← htk] at hM2
       (try push_cast (maxSteps:=mS) [hn])
       ((repeat' with_reducible refine And.intro ?_ ?_)<;>try exact sz)
       refine ⟨(k+1,es,rs,J),⟨by simp only;omega,hM2⟩,by simp only;omega,Le.st ?_⟩
       (try push_cast (maxSteps:=mS))
       refine ⟨List.take_length,?_,flat_refs hM.flat⟩
       simp only [Bool.and_eq_true,Nat.blt_eq];omega
      | false =>
       rw [hn] at h81
       by_cases h0:matchIx right (markF [] y right) (B.take k)=[]
       ·have hg:=hM.no _ h0
        (try push_cast (maxSteps:=mS) [hn,hg,List.getElem?_concat_length])
        ((repeat' with_reducible refine And.intro ?_ ?_)<;>try exact sz)
        intro g' cap'
        have hM2:=hM.new hn h0 (.rw 3 1 [[.v (.int .i64 k)]]) trivial g' cap'
        rw [← htk,hlk] at hM2
        (try push_cast (maxSteps:=mS))
        ((repeat' with_reducible refine And.intro ?_ ?_)<;>try exact sz)
        refine ⟨(k+1,_,_,_),⟨by simp only;omega,hM2⟩,by simp only;omega,Le.st ?_⟩
        (try push_cast (maxSteps:=mS))
        refine ⟨by rw [List.append_assoc];exact List.take_length,?_,flat_refs hM2.flat⟩
        simp only [Bool.and_eq_true,Nat.blt_eq];omega
       ·obtain ⟨g,cap,hg,hj⟩:=hM.yes _ h0
        have hjl:=hM.lt h0
        have hml:=matchIx_len right (markF [] y right) (B.take k)
        rw [hlk] at hml
        have hMold:=hM.old hn h0 (.rw 3 1 [[.v (.int .i64 k)]]) trivial
        rw [← htk,hlk] at hMold
        generalize hjm:J (markF [] y right)=jm at *
        (try push_cast (maxSteps:=mS) [hn,hg,List.getElem?_concat_length])
        ((repeat' with_reducible refine And.intro ?_ ?_)<;>try exact sz)
        all_goals (try (simp only [maxLen];omega))
        refine ⟨jm+6,_,by simp only [List.getElem?_cons_succ];rw [List.getElem?_append_left hjl];exact hj,by rw [List.length_map],by omega,flat_noO (flat_append hM.flat (fun o ho=>by rw [List.mem_singleton.1 ho];trivial)),fun g' cap'=>?_⟩
        have hM2:=hMold g' cap'
        (try push_cast (maxSteps:=mS) [List.length_map,List.length_append])
        ((repeat' with_reducible refine And.intro ?_ ?_)<;>try exact sz)
        refine ⟨(k+1,_,_,_),⟨by simp only;omega,hM2⟩,by simp only;omega,Le.st ?_⟩
        (try push_cast (maxSteps:=mS) [List.length_map,List.length_append])
        refine ⟨List.take_length,?_,flat_refs hM2.flat⟩
        simp only [Bool.and_eq_true,Nat.blt_eq];omega
     ·obtain rfl:k=B.length:=by omega
      rw [List.take_length] at hM
      refine ⟨⟨[(93,i2 .i64 B.length),(92,i2 .i64 B.length),(91,.c (.d (.sl 1 (B.map eR)))),(19,.c (.om 5)),(12,.c (.d (.sl 1 (left.map eJ)))),(10,.c (.d (.sl 3 ((colsJ L M on kind).map eC)))),(8,.c (.op 2 0)),(5,.c (.op 1 0)),(4,.c (.op 0 0)),(2,.c (.d (.sl 2 (on.map eJo)))),(3,i2 .i64 kind)],[.bx 25 [.d (.sl 3 (L.map eC)),.d (.sl 1 (A.map eR))],.bx 25 [.d (.sl 3 (M.map eC)),.d (.sl 1 (B.map eR))],.bx 25 [.d (.v (.slice none 0 0)),.d (.v (.slice none 0 0))],.dead,.dead,.mp (endM eJ right B es)]⟩,?_,?_⟩
      ·refine Le.trans (Le.outx 5 (o:=.mp es) (o':=.mp (endM eJ right B es)) rfl (.inr ⟨es,_,rfl,rfl,hM.fz (fun j o h=>⟨j+6,by simpa using h⟩)⟩)) (Le.st ?_)
       (try push_cast (maxSteps:=mS))
       rfl
      ·have hget:=fun m=>hM.get m
       clear hM
       generalize endM eJ right B es=em at *
       have hdk:decide ((B.length:Int)<(B.length:Int))=false:=decide_eq_false (by omega)
       (try push_cast (maxSteps:=mS) [hdk])
       refine ⟨_,to3 h79,rfl,?_⟩
       (try push_cast (maxSteps:=mS))
       refine LoopK.le (Le.nilB 6 1 28 1 (by decide) rfl rfl) ?_
       (try push_cast (maxSteps:=mS))
       refine LoopK.ov (α:=Nat) [123] (fun i=>[i2 .i64 i]) (fun i=>[.bx 25 [.d (.sl 3 (L.map eC)),.d (.sl 1 (A.map eR))],.bx 25 [.d (.sl 3 (M.map eC)),.d (.sl 1 (B.map eR))],.bx 25 [.d (.v (.slice none 0 0)),.d (.v (.slice none 0 0))],.dead,.dead,.mp em,.bx 25 [.d (.sl 3 ((colsJ L M on kind).map eC)),.os 7],.rw 28 1 ((rowsJ L M on kind (A.take i) B).map eR)]) (fun i=>i≤A.length) (fun i=>A.length - i) 1000 0 (by omega) (by (try push_cast (maxSteps:=mS))<;>first|rfl|exact ⟨rfl,rfl⟩|exact ⟨rfl,rfl,rfl⟩|trivial) ?_
       have hft:(false == true)=false:=rfl
       have htf:(true == false)=false:=rfl
       have htt:(true == true)=true:=rfl
       have hff:(false == false)=true:=rfl
       rintro i hi
       have hABi:=hAB i hi
       by_cases hlt2:i<A.length
       ·have hv:=List.getElem?_eq_getElem hlt2
        have hd:decide ((i:Int)<(A.length:Int))=true:=decide_eq_true (by omega)
        have hmx:=List.getElem_mem hlt2
        have hrt:=rowsJ_take (a:=L) (b:=M) (on:=on) (kind:=kind) (B:=B) hv
        have h81:=h81l _ hmx
        have hrc:=hRC _ hmx
        have hxl:=hrowA _ hmx
        have hox:=(ha.v _ hmx).1
        rw [← hrc] at hrt
        clear hrc hmx
        generalize A[i]=x at *
        generalize rowsJ L M on kind (A.take i) B=P at *
        have h72:=f58 x hox
        have hol:=others_len M on
        have h82:=fun y (hy:y∈B)=>d82 x y (othersN M on) (by omega) (by omega) (fun p hp=>by rw [hrowB y hy];exact others_lt p hp)
        have h82z:=d82 x (List.replicate M.length vl0) (othersN M on) (by omega) (by omega) (fun p hp=>by rw [List.length_replicate];exact others_lt p hp)
        rw [beside_zero,List.map_replicate,show eV vl0=[.v (.int .i64 0),.v (.string ByteArray.empty),.v (.int .i64 0),.v (.bool false)] from rfl] at h82z
        have hFl:=found_len left right B x
        have hFlt:=@found_lt left right B x
        unfold markJ at h81
        (try push_cast (maxSteps:=mS) [hd,getD_map hv])
        ((repeat' with_reducible refine And.intro ?_ ?_)<;>try exact sz)
        refine ⟨_,to3 h81,rfl,?_⟩
        cases hn:nullF left x with
        | true =>
         have hF:foundIx left right B x=[]:=by unfold foundIx;rw [hn];rfl
         rw [hF] at hrt
         (try push_cast (maxSteps:=mS) [hn])
         by_cases k3:kind=3
         ·subst k3
          have hrt2:rowsJ L M on 3 (A.take (i+1)) B=P:=by rw [hrt];simp [rowC]
          (try push_cast (maxSteps:=mS) [hft,htf,hff,htt])
          ((repeat' with_reducible refine And.intro ?_ ?_)<;>try exact sz)
          refine ⟨i+1,by omega,by omega,Le.st ?_⟩
          rw [hrt2]
          (try push_cast (maxSteps:=mS));(all_goals first|rfl|skip)
         ·by_cases k4:kind=4
          ·subst k4
           have hrt2:rowsJ L M on 4 (A.take (i+1)) B=P++[x]:=by rw [hrt];simp [rowC]
           (try push_cast (maxSteps:=mS) [hft,htf,hff,htt])
           (refine DrawK.of (.take 0 (.take 1 (.take 2 (.one 3 (.one 4 (.one 5 (.one 6 (.one 7 .done)))))))) 1000 (by decide +kernel) ?_;try (push_cast (maxSteps:=mS)))
           ((repeat' with_reducible refine And.intro ?_ ?_)<;>try exact sz)
           all_goals (refine ⟨_,to3 h72,rfl,?_⟩)
           all_goals (try push_cast (maxSteps:=mS))
           all_goals ((repeat' with_reducible refine And.intro ?_ ?_)<;>try exact sz)
           all_goals (refine ⟨i+1,by omega,by omega,Le.st ?_⟩)
           all_goals rw [hrt2]
           all_goals (try push_cast (maxSteps:=mS))
           all_goals (first|rfl|exact ⟨rfl,rfl⟩|(simp;done)|(simp;rfl)|trace_state)
          ·(try push_cast (maxSteps:=mS) [k3,k4])
           refine LoopK.s1 (α:=Unit) [156] (fun _=>[i2 .i64 0]) (fun _=>True) (fun _=>0) 1000 () trivial (by (try push_cast (maxSteps:=mS))) ?_
           rintro ⟨⟩ -
           (try push_cast (maxSteps:=mS))
           by_cases k2:kind=2
           ·subst k2
            have hrt2:rowsJ L M on 2 (A.take (i+1)) B=P++[besideF (othersN M on) x []]:=by rw [hrt];simp [rowC]
            (try push_cast (maxSteps:=mS) [hft,htf,hff,htt])
            (refine DrawK.of (.take 0 (.take 1 (.take 2 (.take 3 (.take 4 (.take 5 (.take 7 (.one 6 (.one 8 (.one 9 (.one 10 (.one 11 (.one 12 .done))))))))))))) 1000 (by decide +kernel) ?_;try (push_cast (maxSteps:=mS)))
            ((repeat' with_reducible refine And.intro ?_ ?_)<;>try exact sz)
            all_goals (refine ⟨_,to3 h82z,rfl,?_⟩)
            all_goals (try push_cast (maxSteps:=mS))
            all_goals ((repeat' with_reducible refine And.intro ?_ ?_)<;>try exact sz)
            all_goals (refine ⟨i+1,by omega,by omega,Le.st ?_⟩)
            all_goals rw [hrt2]
            all_goals (try push_cast (maxSteps:=mS))
            all_goals (first|rfl|exact ⟨rfl,rfl⟩|(simp;done)|(simp;rfl)|trace_state)
           ·have hrt2:rowsJ L M on kind (A.take (i+1)) B=P:=by rw [hrt];simp [rowC,k2,k3,k4]
            (try push_cast (maxSteps:=mS) [k2])
            ((repeat' with_reducible refine And.intro ?_ ?_)<;>try exact sz)
            refine ⟨i+1,by omega,by omega,Le.st ?_⟩
            rw [hrt2]
            (try push_cast (maxSteps:=mS));(all_goals first|rfl|skip)
        | false =>
         rw [hn] at h81
         rcases hget (markF [] x left) with ⟨h0,hg⟩|hg
         ·have hF:foundIx left right B x=[]:=by unfold foundIx;rw [hn,h0];rfl
          rw [hF] at hrt
          (try push_cast (maxSteps:=mS) [hn,hg])
          by_cases k3:kind=3
          ·subst k3
           have hrt2:rowsJ L M on 3 (A.take (i+1)) B=P:=by rw [hrt];simp [rowC]
           (try push_cast (maxSteps:=mS) [hft,htf,hff,htt])
           ((repeat' with_reducible refine And.intro ?_ ?_)<;>try exact sz)
           refine ⟨i+1,by omega,by omega,Le.st ?_⟩
           rw [hrt2]
           (try push_cast (maxSteps:=mS));(all_goals first|rfl|skip)
          ·by_cases k4:kind=4
           ·subst k4
            have hrt2:rowsJ L M on 4 (A.take (i+1)) B=P++[x]:=by rw [hrt];simp [rowC]
            (try push_cast (maxSteps:=mS) [hft,htf,hff,htt])
            (refine DrawK.of (.take 0 (.take 1 (.take 2 (.one 3 (.one 4 (.one 5 (.one 6 (.one 7 .done)))))))) 1000 (by decide +kernel) ?_;try (push_cast (maxSteps:=mS)))
            ((repeat' with_reducible refine And.intro ?_ ?_)<;>try exact sz)
            all_goals (refine ⟨_,to3 h72,rfl,?_⟩)
            all_goals (try push_cast (maxSteps:=mS))
            all_goals ((repeat' with_reducible refine And.intro ?_ ?_)<;>try exact sz)
            all_goals (refine ⟨i+1,by omega,by omega,Le.st ?_⟩)
            all_goals rw [hrt2]
            all_goals (try push_cast (maxSteps:=mS))
            all_goals (first|rfl|exact ⟨rfl,rfl⟩|(simp;done)|(simp;rfl)|trace_state)
           ·(try push_cast (maxSteps:=mS) [k3,k4])
            refine LoopK.s1 (α:=Unit) [156] (fun _=>[i2 .i64 0]) (fun _=>True) (fun _=>0) 1000 () trivial (by (try push_cast (maxSteps:=mS))) ?_
            rintro ⟨⟩ -
            (try push_cast (maxSteps:=mS))
            by_cases k2:kind=2
            ·subst k2
             have hrt2:rowsJ L M on 2 (A.take (i+1)) B=P++[besideF (othersN M on) x []]:=by rw [hrt];simp [rowC]
             (try push_cast (maxSteps:=mS) [hft,htf,hff,htt])
             (refine DrawK.of (.take 0 (.take 1 (.take 2 (.take 3 (.take 4 (.take 5 (.take 7 (.one 6 (.one 8 (.one 9 (.one 10 (.one 11 (.one 12 .done))))))))))))) 1000 (by decide +kernel) ?_;try (push_cast (maxSteps:=mS)))
             ((repeat' with_reducible refine And.intro ?_ ?_)<;>try exact sz)
             all_goals (refine ⟨_,to3 h82z,rfl,?_⟩)
             all_goals (try push_cast (maxSteps:=mS))
             all_goals ((repeat' with_reducible refine And.intro ?_ ?_)<;>try exact sz)
             all_goals (refine ⟨i+1,by omega,by omega,Le.st ?_⟩)
             all_goals rw [hrt2]
             all_goals (try push_cast (maxSteps:=mS))
             all_goals (first|rfl|exact ⟨rfl,rfl⟩|(simp;done)|(simp;rfl)|trace_state)
            ·have hrt2:rowsJ L M on kind (A.take (i+1)) B=P:=by rw [hrt];simp [rowC,k2,k3,k4]
             (try push_cast (maxSteps:=mS) [k2])
             ((repeat' with_reducible refine And.intro ?_ ?_)<;>try exact sz)
             refine ⟨i+1,by omega,by omega,Le.st ?_⟩
             rw [hrt2]
             (try push_cast (maxSteps:=mS));(all_goals first|rfl|skip)
         ·have hF:foundIx left right B x=matchIx right (markF [] x left) B:=by unfold foundIx;rw [hn];rfl
          rw [hF] at hrt hFl hFlt
          generalize matchIx right (markF [] x left) B=F at *
          (try push_cast (maxSteps:=mS) [hn,hg])
          by_cases k3:kind=3
          ·subst k3
           cases hz:decide (0<F.length) with
           | false =>
            have hzI:decide ((0:Int)<(F.length:Int))=false:=by rw [← hz];simp
            have hrt2:rowsJ L M on 3 (A.take (i+1)) B=P:=by rw [hrt];simp [rowC,hz]
            (try push_cast (maxSteps:=mS) [hft,htf,hff,htt,hz,hzI])
            ((repeat' with_reducible refine And.intro ?_ ?_)<;>try exact sz)
            refine ⟨i+1,by omega,by omega,Le.st ?_⟩
            rw [hrt2]
            (try push_cast (maxSteps:=mS));(all_goals first|rfl|skip)
           | true =>
            have hzI:decide ((0:Int)<(F.length:Int))=true:=by rw [← hz];simp
            have hrt2:rowsJ L M on 3 (A.take (i+1)) B=P++[x]:=by rw [hrt];simp [rowC,hz]
            (try push_cast (maxSteps:=mS) [hft,htf,hff,htt,hz,hzI])
            (refine DrawK.of (.take 0 (.take 1 (.take 2 (.one 3 (.one 4 (.one 5 (.one 6 (.one 7 .done)))))))) 1000 (by decide +kernel) ?_;try (push_cast (maxSteps:=mS)))
            ((repeat' with_reducible refine And.intro ?_ ?_)<;>try exact sz)
            all_goals (refine ⟨_,to3 h72,rfl,?_⟩)
            all_goals (try push_cast (maxSteps:=mS))
            all_goals ((repeat' with_reducible refine And.intro ?_ ?_)<;>try exact sz)
            all_goals (refine ⟨i+1,by omega,by omega,Le.st ?_⟩)
            all_goals rw [hrt2]
            all_goals (try push_cast (maxSteps:=mS))
            all_goals (first|rfl|exact ⟨rfl,rfl⟩|(simp;done)|(simp;rfl)|trace_state)
          ·by_cases k4:kind=4
           ·subst k4
            cases hz:decide (0<F.length) with
            | true =>
             have hzI:decide ((0:Int)<(F.length:Int))=true:=by rw [← hz];simp
             have hrt2:rowsJ L M on 4 (A.take (i+1)) B=P:=by rw [hrt];simp [rowC,hz]
             (try push_cast (maxSteps:=mS) [hft,htf,hff,htt,hz,hzI])
             ((repeat' with_reducible refine And.intro ?_ ?_)<;>try exact sz)
             refine ⟨i+1,by omega,by omega,Le.st ?_⟩
             rw [hrt2]
             (try push_cast (maxSteps:=mS));(all_goals first|rfl|skip)
            | false =>
             have hzI:decide ((0:Int)<(F.length:Int))=false:=by rw [← hz];simp
             have hrt2:rowsJ L M on 4 (A.take (i+1)) B=P++[x]:=by rw [hrt];simp [rowC,hz]
             (try push_cast (maxSteps:=mS) [hft,htf,hff,htt,hz,hzI])
             (refine DrawK.of (.take 0 (.take 1 (.take 2 (.one 3 (.one 4 (.one 5 (.one 6 (.one 7 .done)))))))) 1000 (by decide +kernel) ?_;try (push_cast (maxSteps:=mS)))
             ((repeat' with_reducible refine And.intro ?_ ?_)<;>try exact sz)
             all_goals (refine ⟨_,to3 h72,rfl,?_⟩)
             all_goals (try push_cast (maxSteps:=mS))
             all_goals ((repeat' with_reducible refine And.intro ?_ ?_)<;>try exact sz)
             all_goals (refine ⟨i+1,by omega,by omega,Le.st ?_⟩)
             all_goals rw [hrt2]
             all_goals (try push_cast (maxSteps:=mS))
             all_goals (first|rfl|exact ⟨rfl,rfl⟩|(simp;done)|(simp;rfl)|trace_state)
           ·(try push_cast (maxSteps:=mS) [k3,k4])
            refine LoopK.ov (α:=Nat) [156] (fun q=>[i2 .i64 q]) (fun q=>[.bx 25 [.d (.sl 3 (L.map eC)),.d (.sl 1 (A.map eR))],.bx 25 [.d (.sl 3 (M.map eC)),.d (.sl 1 (B.map eR))],.bx 25 [.d (.v (.slice none 0 0)),.d (.v (.slice none 0 0))],.dead,.dead,.mp em,.bx 25 [.d (.sl 3 ((colsJ L M on kind).map eC)),.os 7],.rw 28 1 ((P++(F.take q).map fun i=>besideF (othersN M on) x (B.getD i [])).map eR)]) (fun q=>q≤F.length) (fun q=>F.length - q) 1000 0 (by omega) (by (try push_cast (maxSteps:=mS))<;>first|rfl|exact ⟨rfl,rfl⟩|exact ⟨rfl,rfl,rfl⟩|trivial) ?_
            rintro q hq
            by_cases hlt3:q<F.length
            ·have hv3:=List.getElem?_eq_getElem hlt3
             have hd3:decide ((q:Int)<(F.length:Int))=true:=decide_eq_true (by omega)
             have htk:F.take (q+1)=F.take q++[F[q]]:=by rw [List.take_add_one,hv3];rfl
             have hfq:=hFlt _ (List.getElem_mem hlt3)
             have hlk:(F.take q).length≤200:=by rw [List.length_take];omega
             generalize F[q]=j at *
             have hjv:=List.getElem?_eq_getElem hfq
             have hgj:B.getD j []=B[j]:=by rw [List.getD_eq_getElem?_getD,hjv];rfl
             have h82j:=h82 _ (List.getElem_mem hfq)
             generalize B[j]=y at *
             (try push_cast (maxSteps:=mS) [hd3,getD_map hv3,getD_map hjv])
             ((repeat' with_reducible refine And.intro ?_ ?_)<;>try exact sz)
             (refine DrawK.of (.take 0 (.take 1 (.take 2 (.take 3 (.take 4 (.take 5 (.take 6 (.take 7 (.take 8 (.one 9 (.one 10 (.one 11 (.one 12 (.one 13 .done)))))))))))))) 1000 (by decide +kernel) ?_;try (push_cast (maxSteps:=mS)))
             ((repeat' with_reducible refine And.intro ?_ ?_)<;>try exact sz)
             all_goals (try push_cast (maxSteps:=mS) [getD_map hjv])
             all_goals ((repeat' with_reducible refine And.intro ?_ ?_)<;>try exact sz)
             all_goals (refine ⟨_,to3 h82j,rfl,?_⟩)
             all_goals (try push_cast (maxSteps:=mS) [List.length_map,List.length_append])
             all_goals ((repeat' with_reducible refine And.intro ?_ ?_)<;>try exact sz)
             all_goals (refine ⟨q+1,by omega,by omega,Le.st ?_⟩)
             all_goals rw [htk]
             all_goals (try push_cast (maxSteps:=mS))
             all_goals (first|exact ⟨by rw [List.map_append,List.map_append,List.map_append,List.map_append,List.map_cons,List.map_nil,List.map_cons,List.map_nil,hgj,List.append_assoc];rfl,rfl⟩|exact ⟨by simp [hgj];rfl,rfl⟩|trace_state)
            ·have hd3:decide ((q:Int)<(F.length:Int))=false:=decide_eq_false (by omega)
             rw [show F.take q=F from List.take_of_length_le (by omega)]
             (try push_cast (maxSteps:=mS) [hd3])
             by_cases k2:kind=2∧F.length=0
             ·obtain ⟨rfl,k20⟩:=k2
              obtain rfl:F=[]:=List.eq_nil_of_length_eq_zero k20
              have hrt2:rowsJ L M on 2 (A.take (i+1)) B=P++[besideF (othersN M on) x []]:=by rw [hrt];simp [rowC]
              (try push_cast (maxSteps:=mS) [hft,htf,hff,htt])
              (refine DrawK.of (.take 0 (.take 1 (.take 2 (.take 3 (.take 4 (.take 5 (.take 7 (.one 6 (.one 8 (.one 9 (.one 10 (.one 11 (.one 12 .done))))))))))))) 1000 (by decide +kernel) ?_;try (push_cast (maxSteps:=mS)))
              ((repeat' with_reducible refine And.intro ?_ ?_)<;>try exact sz)
              all_goals (refine ⟨_,to3 h82z,rfl,?_⟩)
              all_goals (try push_cast (maxSteps:=mS))
              all_goals ((repeat' with_reducible refine And.intro ?_ ?_)<;>try exact sz)
              all_goals (refine ⟨i+1,by omega,by omega,Le.st ?_⟩)
              all_goals rw [hrt2]
              all_goals (try push_cast (maxSteps:=mS))
              all_goals (first|rfl|exact ⟨rfl,rfl⟩|(simp;done)|(simp;rfl)|trace_state)
             ·have hrt2:rowsJ L M on kind (A.take (i+1)) B=P++F.map fun i=>besideF (othersN M on) x (B.getD i []):=by rw [hrt];simp only [rowC,if_neg (show ¬ (kind=3∨kind=4) by omega),if_neg k2,List.append_nil]
              by_cases k2':kind=2
              ·subst k2'
               have hFz:¬ F.length=0:=fun h=>k2 ⟨rfl,h⟩
               have hFz':¬ ((F.length:Int)=0):=by omega
               (try push_cast (maxSteps:=mS) [hFz,hFz'])
               ((repeat' with_reducible refine And.intro ?_ ?_)<;>try exact sz)
               refine ⟨i+1,by omega,by omega,Le.st ?_⟩
               rw [hrt2]
               (try push_cast (maxSteps:=mS));(all_goals first|rfl|skip)
              ·(try push_cast (maxSteps:=mS) [k2'])
               ((repeat' with_reducible refine And.intro ?_ ?_)<;>try exact sz)
               refine ⟨i+1,by omega,by omega,Le.st ?_⟩
               rw [hrt2]
               (try push_cast (maxSteps:=mS));(all_goals first|rfl|skip)
       ·have hd:decide ((i:Int)<(A.length:Int))=false:=decide_eq_false (by omega)
        rw [show A.take i=A from List.take_of_length_le (by omega)]
        (try push_cast (maxSteps:=mS) [hd])
 ·rw [if_pos c1] at hR
  subst hR
  simp only [c1,ne_eq,not_false_eq_true,if_true]
  (try push_cast (maxSteps:=mS) [c1])
end Go.LS.Tryz
