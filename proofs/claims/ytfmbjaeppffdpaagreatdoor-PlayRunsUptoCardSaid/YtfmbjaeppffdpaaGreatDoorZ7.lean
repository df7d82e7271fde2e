/- Contracts of the functions of the seat,one by one (part Z7);no condition but those that each bears. -/
import Derived.Test.YtfmbjaeppffdpaaGreatDoorZ6
namespace Go.LS.Tryz
open Go Go.LS
set_option maxRecDepth 100000
set_option linter.unusedSimpArgs false
set_option linter.unusedVariables false
theorem z112' (L:List Cl) (a:Ag) (g:List (List Vl)) (hL:okCl L) (hg:g.length≤100000) (hr:∀ r∈g,∀ v∈r,okV2 v) (hrt:∀ r∈g,∀ v∈r,rightF v=true) (hc:(columnG L a).2=0) (hw:∀ r∈g,r.length=L.length) :
  Spec V 112 [.ag ((eAg a).map .d),.c (.d (.sl 3 (L.map eRC))),.c (.d (.sl 1 (g.map eRR)))] (.tu [.ag ((eRV (tellG L a g).1).map .d),i2 .i64 (tellG L a g).2]):=by
 have h16:=column_op hc
 have hf:a.op≠1→foundN L a.col:=fun h1=>by
  unfold columnG at hc
  rw [if_neg (by omega),if_neg h1] at hc
  by_cases h2:(findF a.col L 0).2.2=false
  ·rw [if_pos h2] at hc;cases hc
  ·simpa [foundN] using h2
 exact z112 L a g hL.1 hg hr hrt h16 hf (fun h1 r h=>by rw [hw r h];exact placeN_lt (hf h1))
set_option maxHeartbeats 8000000 in
theorem z67 (t:Tb) (ks:List ByteArray) (ag:List Ag) (ht:okT2 t) (hk:okKeys ks) (hf:∀ n∈ks,foundN t.L n) (hw:∀ r∈t.R,r.length=t.L.length) (hR:t.R.length≤90000) (ha:ag.length≤1000) (hc:∀ a∈ag,(columnG t.L a).2=0) :
  Spec V 67 [.ag ((eRT t).map .d),.c (.d (.sl 1 (ks.map eS))),.c (.d (.sl 3 (ag.map eAg)))] (.tu [.c (.d (.sl 1 ((rowsG t.L (placesN t.L ks) ag (partC (placesN t.L ks) t.R) []).1.map eRR))),i2 .i64 (rowsG t.L (placesN t.L ks) ag (partC (placesN t.L ks) t.R) []).2]):=by
 have h111:=z111 t ks ht hk hf hw hR
 have hgm:=fun g (h:g∈partC (placesN t.L ks) t.R)=>partC_mem h
 have hgl:=partC_len (placesN t.L ks) t.R
 have hplt:=placesN_lt hf
 have hpl:(placesN t.L ks).length=ks.length:=by simp [placesN]
 have hpk:∀ k (h:k<ks.length),(placesN t.L ks)[k]?=some (placeN t.L ks[k]):=fun k h=>by rw [placesN,List.getElem?_map,List.getElem?_eq_getElem h];rfl
 obtain ⟨L,B⟩:=t
 obtain ⟨hL,_,hAv,hrt⟩:=ht
 simp only [eRT_eq] at hL hAv hrt hw hR hc h111 hgm hgl hplt hpl hpk hf
 have hk':ks.length≤64:=hk
 have h55:=names56 L hL.1
 obtain ⟨F,hF⟩:∃ F,F=rowsG L (placesN L ks) ag (partC (placesN L ks) B) []:=⟨_,rfl⟩
 rw [← hF]
 generalize placesN L ks=ps at *
 generalize partC ps B=gs at *
 (refine Spec.of_go (L:=fun|0=>some [1,2,3]|1=>some [1,2,3,8]|2=>some [1,2,3,8,20,21,22]|3=>some [1,2,3,8,20,21,22,23]|4=>some [1,2,3,8,10,20,21,22]|5=>some [1,2,3,8,10,11,20,21,22]|6=>some [1,2,3,8,10,11,20,21,22,26,27,28]|7=>some [1,2,3,8,10,11,20,21,22,26,27,28,29]|8=>some [1,2,3,8,10,11,13,20,21,22,26,27,28]|9=>some [1,2,3,8,10,11,20,21,22,26,27,28]|10=>some [1,2,3,8,10,11,20,21,22,26,27,28]|11=>some [1,2,3,8,10,11,20,21,22,46,47,48]|12=>some [1,2,3,8,10,11,20,21,22,46,47,48,49]|13=>some [1,2,3,8,10,11,15,20,21,22,46,47,48]|14=>some [1,2,3,8,10,11,16,17,20,21,22,46,47,48]|15=>some [1,2,3,8,10,11,16,17,20,21,22,46,47,48,61]|16=>some [6,7]|17=>some [1,2,3,8,10,11,20,21,22,46,47,48]|18=>some [1,2,3,8,10,11,20,21,22,46,47,48]|19=>some [1,2,3,8,20,21,22]|20=>some [1,2,3,8,20,21,22]|21=>some [6,7]|_=>none) 1000 Go.Proofs.Tryz.func67 rfl rfl ⟨Nat.le_of_ble_eq_true rfl,rfl⟩ rfl ?_;unfold Go.Proofs.Tryz.f67;push_cast (maxSteps:=mS))
 refine ⟨_,h111,rfl,?_⟩
 (try push_cast (maxSteps:=mS))
 refine LoopK.le (Le.nil 8 39 1 (by decide) (by (try push_cast (maxSteps:=mS)))) ?_
 (try push_cast (maxSteps:=mS))
 refine LoopK.ov (α:=Nat × List (List Vl)) [22] (fun s=>[i2 .i64 s.1]) (fun s=>[.bx 74 [.d (.sl 3 (L.map eRC)),.d (.sl 1 (B.map eRR))],.rw 39 1 (s.2.map eRR)]) (fun s=>s.1≤gs.length∧s.2.length=s.1∧rowsG L ps ag (gs.drop s.1) s.2=F) (fun s=>gs.length - s.1) 1000 (0,[]) ⟨by simp,rfl,hF.symm⟩ (by (try push_cast (maxSteps:=mS))<;>first|rfl|exact ⟨rfl,rfl⟩|exact ⟨rfl,rfl,rfl⟩|trivial) ?_
 rintro ⟨k,out⟩ ⟨hk1,ho,hc1⟩
 simp only at hk1 ho hc1
 by_cases hlt:k<gs.length
 ·have hv:=atT hlt;have hd:=ltT hlt
  rw [drop_cons hv] at hc1
  simp only [rowsG] at hc1
  obtain ⟨g1,g2,g3⟩:=hgm _ (List.getElem_mem hlt)
  generalize gs[k]=g at *
  have hgi:(gs.map eRRs).getD k []=eRRs g:=getD_map hv
  simp only [eRRs_eq] at hgi
  (try push_cast (maxSteps:=mS) [hd,hgi])
  ((repeat' with_reducible refine And.intro ?_ ?_)<;>try exact sz)
  refine LoopK.le (Le.nil 11 38 4 (by decide) (by (try push_cast (maxSteps:=mS)))) ?_
  (try push_cast (maxSteps:=mS))
  refine LoopK.ov (α:=Nat) [28] (fun j=>[i2 .i64 j]) (fun j=>[.bx 74 [.d (.sl 3 (L.map eRC)),.d (.sl 1 (B.map eRR))],.rw 39 1 (out.map eRR),.rw 38 4 (((ps.take j).map (vAt (g.headD []))).map eRV)]) (fun j=>j≤ks.length) (fun j=>ks.length - j) 1000 0 (by omega) (by (try push_cast (maxSteps:=mS))<;>first|rfl|exact ⟨rfl,rfl⟩|exact ⟨rfl,rfl,rfl⟩|trivial) ?_
  rintro j hj
  by_cases hlt2:j<ks.length
  ·have hv2:=List.getElem?_eq_getElem hlt2
   have hd2:decide ((j:Int)<(ks.length:Int))=true:=decide_eq_true (by omega)
   have hpj:=hpk j hlt2
   have hfj:=hf _ (List.getElem_mem hlt2)
   have h62:=f55 (namesN L) ks[j] (by simpa [okLen,namesN] using hL.1)
   rw [at_place hfj] at h62
   generalize ks[j]=n at *
   have hg0:g≠[]:=g1 (by omega)
   obtain ⟨x,l,rfl⟩:∃ x l,g=x::l:=by
    cases g with
    | nil=>exact absurd rfl hg0
    | cons x l=>exact ⟨x,l,rfl⟩
   have hx0:(x::l)[0]?=some x:=rfl
   have hhd:(x::l).headD []=x:=rfl
   rw [hhd]
   have hpx:placeN L n<x.length:=by rw [hw x (g3 x (by simp))];exact placeN_lt hfj
   have hvp:x[placeN L n]?=some (vAt x (placeN L n)):=by rw [vAt,List.getD_eq_getElem?_getD,List.getElem?_eq_getElem hpx];rfl
   have htj:(ps.take (j+1)).map (vAt x)=(ps.take j).map (vAt x)++[vAt x (placeN L n)]:=by rw [List.take_add_one,hpj,List.map_append];rfl
   have hlj:((ps.take j).map (vAt x)).length=j:=by rw [List.length_map,List.length_take];omega
   obtain ⟨G,hG⟩:∃ G,G=x::l:=⟨_,rfl⟩
   have hGl:0<G.length:=by rw [hG];simp
   rw [← hG] at hx0 ⊢
   generalize placeN L n=p at *
   (try push_cast (maxSteps:=mS) [hd2,getD_map hv2])
   ((repeat' with_reducible refine And.intro ?_ ?_)<;>try exact sz)
   (refine DrawK.of (.take 0 (.take 1 (.take 2 (.take 3 (.take 4 (.take 5 (.take 7 (.one 6 (.one 8 (.take 9 (.take 10 (.one 11 (.one 12 (.one 13 .done)))))))))))))) 1000 (by decide +kernel) ?_;try (push_cast (maxSteps:=mS)))
   (try push_cast (maxSteps:=mS) [getD_map hx0,getD_map hvp])
   ((repeat' with_reducible refine And.intro ?_ ?_)<;>try exact sz)
   all_goals (refine ⟨_,h55,rfl,?_⟩)
   all_goals (try push_cast (maxSteps:=mS) [getD_map hx0,getD_map hvp])
   all_goals ((repeat' with_reducible refine And.intro ?_ ?_)<;>try exact sz)
   all_goals (refine ⟨_,h62,rfl,?_⟩)
   all_goals (try push_cast (maxSteps:=mS) [getD_map hx0,getD_map hvp,hlj])
   all_goals ((repeat' with_reducible refine And.intro ?_ ?_)<;>try exact sz)
   all_goals (refine ⟨j+1,by omega,by omega,Le.st ?_⟩)
   all_goals rw [htj]
   all_goals (try push_cast (maxSteps:=mS))
   all_goals (first|exact ⟨by rw [List.map_append];rfl,rfl⟩|rfl|exact ⟨rfl,rfl⟩|trace_state)
  ·have hd2:decide ((j:Int)<(ks.length:Int))=false:=decide_eq_false (by omega)
   rw [show ps.take j=ps from List.take_of_length_le (by omega)]
   have ek:ps.map (vAt (g.headD []))=keysV ps g:=rfl
   rw [ek]
   have hkl:(keysV ps g).length=ps.length:=by simp [keysV]
   obtain ⟨TG,hTG⟩:∃ TG,TG=tellsG L g ag (keysV ps g):=⟨_,rfl⟩
   rw [← hTG] at hc1
   generalize keysV ps g=K at *
   (try push_cast (maxSteps:=mS) [hd2])
   refine LoopK.ov (α:=Nat × List Vl) [48] (fun s=>[i2 .i64 s.1]) (fun s=>[.bx 74 [.d (.sl 3 (L.map eRC)),.d (.sl 1 (B.map eRR))],.rw 39 1 (out.map eRR),.rw 38 4 (s.2.map eRV)]) (fun s=>s.1≤ag.length∧s.2.length=K.length+s.1∧tellsG L g (ag.drop s.1) s.2=TG) (fun s=>ag.length - s.1) 1000 (0,K) ⟨by simp,rfl,hTG.symm⟩ (by (try push_cast (maxSteps:=mS))<;>first|rfl|exact ⟨rfl,rfl⟩|exact ⟨rfl,rfl,rfl⟩|trivial) ?_
   rintro ⟨j,vs⟩ ⟨hj,hvl,hct⟩
   simp only at hj hvl hct
   by_cases hlt3:j<ag.length
   ·have hv3:=List.getElem?_eq_getElem hlt3
    have hd3:decide ((j:Int)<(ag.length:Int))=true:=decide_eq_true (by omega)
    rw [drop_cons hv3] at hct
    simp only [tellsG] at hct
    have h112:=z112' L ag[j] g hL (by omega) (fun r h=>(hAv r (g3 r h)).2) (fun r h=>hrt r (g3 r h)) (hc _ (List.getElem_mem hlt3)) (fun r h=>hw r (g3 r h))
    generalize ag[j]=a at *
    simp only [eAg_eq,eRV_eq] at h112
    (try push_cast (maxSteps:=mS) [hd3,getD_map hv3])
    ((repeat' with_reducible refine And.intro ?_ ?_)<;>try exact sz)
    refine ⟨_,h112,rfl,?_⟩
    generalize tellG L a g=R at *
    by_cases r0:R.2=0
    ·rw [if_neg (by simp [r0])] at hct
     (try push_cast (maxSteps:=mS) [r0])
     ((repeat' with_reducible refine And.intro ?_ ?_)<;>try exact sz)
     all_goals (try (simp only [maxLen];omega))
     refine ⟨(j+1,vs++[R.1]),⟨by simp only;omega,by rw [List.length_append,List.length_singleton];omega,hct⟩,by simp only;omega,Le.st ?_⟩
     (try push_cast (maxSteps:=mS) [List.map_append])
     all_goals (first|rfl|exact ⟨rfl,rfl⟩|trace_state)
    ·rw [if_pos r0] at hct
     subst hct
     rw [if_pos r0] at hc1
     subst hc1
     (try push_cast (maxSteps:=mS) [r0])
   ·have hd3:decide ((j:Int)<(ag.length:Int))=false:=decide_eq_false (by omega)
    rw [List.drop_eq_nil_of_le (by omega),tellsG] at hct
    subst hct
    rw [if_neg (by simp)] at hc1
    (try push_cast (maxSteps:=mS) [hd3])
    ((repeat' with_reducible refine And.intro ?_ ?_)<;>try exact sz)
    all_goals (try (simp only [maxLen];omega))
    refine ⟨(k+1,out++[vs]),⟨by simp only;omega,by rw [List.length_append,List.length_singleton];omega,hc1⟩,by simp only;omega,Le.st ?_⟩
    (try push_cast (maxSteps:=mS) [List.map_append])
    all_goals (first|rfl|exact ⟨rfl,rfl⟩|trace_state)
 ·have hd:=geF hlt
  rw [List.drop_eq_nil_of_le (by omega),rowsG] at hc1
  subst hc1
  (try push_cast (maxSteps:=mS) [hd])
end Go.LS.Tryz
