/- Contracts of the functions of the seat,one by one (part Z6);no condition but those that each bears. -/
import Derived.Test.YtfmbjaeppffdpaaGreatDoorZ5
namespace Go.LS.Tryz
open Go Go.LS
set_option maxRecDepth 100000
set_option linter.unusedSimpArgs false
set_option linter.unusedVariables false
set_option maxHeartbeats 8000000 in
theorem z112 (L:List Cl) (a:Ag) (g:List (List Vl)) (hL:okLen L) (hg:g.length≤100000) (hr:∀ r∈g,∀ v∈r,okV2 v) (hrt:∀ r∈g,∀ v∈r,rightF v=true) (h16:1≤a.op∧a.op≤6) (hf:a.op≠1→foundN L a.col) (hw:a.op≠1→∀ r∈g,placeN L a.col<r.length) :
  Spec V 112 [.ag ((eAg a).map .d),.c (.d (.sl 3 (L.map eRC))),.c (.d (.sl 1 (g.map eRR)))] (.tu [.ag ((eRV (tellG L a g).1).map .d),i2 .i64 (tellG L a g).2]):=by
 have hdoc:=@tellG_doc L a g hrt
 have h55:=names56 L hL
 have h62:=f55 (namesN L) a.col (by simpa [okLen,namesN] using hL)
 obtain ⟨F,hF⟩:∃ F,F=tellG L a g:=⟨_,rfl⟩
 rw [← hF] at hdoc ⊢
 obtain ⟨op,col,nm⟩:=a
 simp only at h16 hf hw hdoc h62
 unfold tellG at hF
 simp only at hF
 (refine Spec.of_go (L:=fun|0=>some [1,2,3,6]|1=>some [1,2,3,6,19]|2=>some [6,7]|3=>some [2,3,6,8]|4=>some [2,3,6,8,30]|5=>some [2,6,8,33]|6=>some [6,7]|7=>some [6,7]|8=>some [2,3,6,8,9]|9=>some [2,3,6,8,9,10]|10=>some [2,3,6,8,9,10,11]|11=>some [3,6,8,9,10,11,41,42,43]|12=>some [3,6,8,9,10,11,41,42,43,44]|13=>some [3,6,8,9,10,11,13,41,42,43]|14=>some [3,6,8,9,10,11,14,41,42,43]|15=>some [3,6,8,9,10,11,14,41,42,43,53]|16=>some [3,6,8,9,10,11,14,41,42,43]|17=>some [3,6,8,9,10,11,14,41,42,43,82]|18=>some [3,6,8,9,10,11,41,42,43]|19=>some [3,6,8,9,10,11,41,42,43]|20=>some [3,6,8,9,10,11,41,42,43]|21=>some [3,6,9,10,11,89]|22=>some [6,7]|23=>some [6,9,10,98]|24=>some [6,7]|25=>some [6,15,16]|26=>some [6,15,16,106]|27=>some [6,7]|28=>some [6,7]|_=>none) 1000 Go.Proofs.Tryz.func112 rfl rfl ⟨Nat.le_of_ble_eq_true rfl,rfl⟩ rfl ?_;unfold Go.Proofs.Tryz.f112;push_cast (maxSteps:=mS))
 by_cases o1:op=1
 ·rw [if_pos o1] at hF
  subst hF
  (try push_cast (maxSteps:=mS) [o1,intV,bi])
 ·rw [if_neg o1] at hF
  have hfk:=hf o1
  have hwk:=hw o1
  rw [at_place hfk] at h62
  clear hf hw
  (try push_cast (maxSteps:=mS) [o1])
  (refine DrawK.of (.take 0 (.take 2 (.take 3 (.one 1 (.one 4 (.take 5 .done)))))) 1000 (by decide +kernel) ?_;try (push_cast (maxSteps:=mS)))
  (try push_cast (maxSteps:=mS))
  ((repeat' with_reducible refine And.intro ?_ ?_)<;>try exact sz)
  all_goals (refine ⟨_,h55,rfl,?_⟩)
  all_goals (try push_cast (maxSteps:=mS))
  all_goals ((repeat' with_reducible refine And.intro ?_ ?_)<;>try exact sz)
  all_goals (refine ⟨_,h62,rfl,?_⟩)
  all_goals (try push_cast (maxSteps:=mS))
  all_goals ((repeat' with_reducible refine And.intro ?_ ?_)<;>try exact sz)
  have bi0:bi false=0:=rfl
  generalize placeN L col=p at *
  clear h55 h62 hfk
  by_cases o6:op=6
  ·rw [if_pos o6] at hF
   by_cases g0:g.length=0
   ·rw [if_pos g0] at hF
    subst hF
    (try push_cast (maxSteps:=mS) [o6,g0,vl0,bi0])
   ·rw [if_neg g0] at hF
    have g0':¬ (g.length:Int)=0:=by omega
    have hv:=List.getElem?_eq_getElem (show 0<g.length by omega)
    have hh:g.headD []=g[0]:=by
     cases g with
     | nil=>exact absurd rfl g0
     | cons x l=>rfl
    have hp0:=hwk _ (List.getElem_mem (show 0<g.length by omega))
    rw [hh] at hF
    generalize g[0]=r at *
    have hvp:r[p]?=some (vAt r p):=by rw [vAt,List.getD_eq_getElem?_getD,List.getElem?_eq_getElem hp0];rfl
    subst hF
    generalize vAt r p=x at *
    (try push_cast (maxSteps:=mS) [o6,g0',getD_map hv,getD_map hvp])
    ((repeat' with_reducible refine And.intro ?_ ?_)<;>try exact sz)
  ·rw [if_neg o6] at hF
   (try push_cast (maxSteps:=mS) [o6])
   have hdoc:=hdoc (by omega) (by omega)
   clear hF
   refine LoopK.le (Le.nil 10 2 1 (by decide) (by (try push_cast (maxSteps:=mS)))) ?_
   (try push_cast (maxSteps:=mS))
   refine LoopK.ov (α:=Nat) [43,11] (fun k=>[i2 .i64 k,i2 .i64 ((someV p (g.take k)).length)]) (fun k=>[.bx 195 ((eAg ⟨op,col,nm⟩).map .d),.bx 38 [.d (.v (.int .i64 0)),.d (.v (.string ByteArray.empty)),.d (.v (.int .i64 0)),.d (.v (.int .i64 0))],.bx 38 ((eRV (keptV op (someV p (g.take k)))).map .d),.rw 2 1 (((someV p (g.take k)).map fun v=>v.n).map eI64)]) (fun k=>k≤g.length) (fun k=>g.length - k) 1000 0 (by omega) (by (try push_cast (maxSteps:=mS))<;>first|rfl|exact ⟨rfl,rfl⟩|exact ⟨rfl,rfl,rfl⟩|trivial) ?_
   rintro k hk
   by_cases hlt:k<g.length
   ·have hv:=atT hlt;have hd:=ltT hlt
    have hst:=_root_.Go.LS.some_take (p:=p) hv
    have hpl:=hwk _ (List.getElem_mem hlt)
    have hsl:=_root_.Go.LS.some_len p (g.take k)
    rw [List.length_take] at hsl
    generalize g[k]=r at *
    have hvp:r[p]?=some (vAt r p):=by rw [vAt,List.getD_eq_getElem?_getD,List.getElem?_eq_getElem hpl];rfl
    generalize vAt r p=x at *
    have hks:=kept_snoc op (someV p (g.take k)) x
    have hC:=f57 x (keptV op (someV p (g.take k)))
    rw [← cmp_rcmp] at hC
    generalize hm:keptV op (someV p (g.take k))=m at *
    generalize someV p (g.take k)=W at *
    by_cases x0:x.k=0
    ·rw [if_pos x0,List.append_nil] at hst
     (try push_cast (maxSteps:=mS) [hd,getD_map hv,getD_map hvp,x0])
     ((repeat' with_reducible refine And.intro ?_ ?_)<;>try exact sz)
     all_goals (try (simp only [maxLen];omega))
     refine ⟨k+1,by omega,by omega,Le.st ?_⟩
     rw [hst,hm]
     (try push_cast (maxSteps:=mS))
     all_goals (first|rfl|exact ⟨rfl,rfl⟩|exact ⟨rfl,rfl,rfl⟩|exact ⟨by omega,rfl⟩|(simp;done)|trace_state)
    ·rw [if_neg x0] at hst
     rw [← hst] at hks
     by_cases w0:W.length=0
     ·rw [if_pos (.inl w0)] at hks
      have w1:(W.length:Int)=0:=by omega
      (try push_cast (maxSteps:=mS) [hd,getD_map hv,getD_map hvp,x0,w1])
      ((repeat' with_reducible refine And.intro ?_ ?_)<;>try exact sz)
      all_goals (try (simp only [maxLen];omega))
      refine ⟨k+1,by omega,by omega,Le.st ?_⟩
      rw [hks,hst,List.map_append,List.map_append,List.length_append]
      (try push_cast (maxSteps:=mS))
      all_goals (first|rfl|exact ⟨rfl,rfl⟩|exact ⟨rfl,rfl,rfl⟩|exact ⟨by omega,rfl⟩|(simp;done)|trace_state)
     ·have w1:¬ (W.length:Int)=0:=by omega
      generalize hcc:cmpF x m=c at *
      by_cases o4:op=4
      ·subst o4
       have o4:(4:Int)=4:=rfl
       cases hb:decide (c<0) with
       | true =>
        have hb':=of_decide_eq_true hb
        rw [if_pos (.inr (.inl ⟨o4,hb'⟩))] at hks
        (try push_cast (maxSteps:=mS) [hd,getD_map hv,getD_map hvp,x0,w1])
        ((repeat' with_reducible refine And.intro ?_ ?_)<;>try exact sz)
        refine ⟨_,hC,rfl,?_⟩
        (try push_cast (maxSteps:=mS) [hb])
        ((repeat' with_reducible refine And.intro ?_ ?_)<;>try exact sz)
        all_goals (try (simp only [maxLen];omega))
        refine ⟨k+1,by omega,by omega,Le.st ?_⟩
        rw [hks,hst,List.map_append,List.map_append,List.length_append]
        (try push_cast (maxSteps:=mS))
        all_goals (first|rfl|exact ⟨rfl,rfl⟩|exact ⟨rfl,rfl,rfl⟩|exact ⟨by omega,rfl⟩|(simp;done)|trace_state)
       | false =>
        have hb':=of_decide_eq_false hb
        rw [if_neg (by omega)] at hks
        (try push_cast (maxSteps:=mS) [hd,getD_map hv,getD_map hvp,x0,w1])
        ((repeat' with_reducible refine And.intro ?_ ?_)<;>try exact sz)
        refine ⟨_,hC,rfl,?_⟩
        (try push_cast (maxSteps:=mS) [hb])
        ((repeat' with_reducible refine And.intro ?_ ?_)<;>try exact sz)
        all_goals (try (simp only [maxLen];omega))
        refine ⟨k+1,by omega,by omega,Le.st ?_⟩
        rw [hks,hst,List.map_append,List.map_append,List.length_append]
        (try push_cast (maxSteps:=mS))
        all_goals (first|rfl|exact ⟨rfl,rfl⟩|exact ⟨rfl,rfl,rfl⟩|exact ⟨by omega,rfl⟩|(simp;done)|trace_state)
      ·by_cases o5:op=5
       ·subst o5
        have o5:(5:Int)=5:=rfl
        cases hb:decide (0<c) with
        | true =>
         have hb':=of_decide_eq_true hb
         rw [if_pos (.inr (.inr ⟨o5,hb'⟩))] at hks
         (try push_cast (maxSteps:=mS) [hd,getD_map hv,getD_map hvp,x0,w1])
         ((repeat' with_reducible refine And.intro ?_ ?_)<;>try exact sz)
         refine ⟨_,hC,rfl,?_⟩
         (try push_cast (maxSteps:=mS) [hb])
         ((repeat' with_reducible refine And.intro ?_ ?_)<;>try exact sz)
         all_goals (try (simp only [maxLen];omega))
         refine ⟨k+1,by omega,by omega,Le.st ?_⟩
         rw [hks,hst,List.map_append,List.map_append,List.length_append]
         (try push_cast (maxSteps:=mS))
         all_goals (first|rfl|exact ⟨rfl,rfl⟩|exact ⟨rfl,rfl,rfl⟩|exact ⟨by omega,rfl⟩|(simp;done)|trace_state)
        | false =>
         have hb':=of_decide_eq_false hb
         rw [if_neg (by omega)] at hks
         (try push_cast (maxSteps:=mS) [hd,getD_map hv,getD_map hvp,x0,w1])
         ((repeat' with_reducible refine And.intro ?_ ?_)<;>try exact sz)
         refine ⟨_,hC,rfl,?_⟩
         (try push_cast (maxSteps:=mS) [hb])
         ((repeat' with_reducible refine And.intro ?_ ?_)<;>try exact sz)
         all_goals (try (simp only [maxLen];omega))
         refine ⟨k+1,by omega,by omega,Le.st ?_⟩
         rw [hks,hst,List.map_append,List.map_append,List.length_append]
         (try push_cast (maxSteps:=mS))
         all_goals (first|rfl|exact ⟨rfl,rfl⟩|exact ⟨rfl,rfl,rfl⟩|exact ⟨by omega,rfl⟩|(simp;done)|trace_state)
       ·rw [if_neg (by omega)] at hks
        (try push_cast (maxSteps:=mS) [hd,getD_map hv,getD_map hvp,x0,w1,o4,o5])
        ((repeat' with_reducible refine And.intro ?_ ?_)<;>try exact sz)
        all_goals (try (simp only [maxLen];omega))
        refine ⟨k+1,by omega,by omega,Le.st ?_⟩
        rw [hks,hst,List.map_append,List.map_append,List.length_append]
        (try push_cast (maxSteps:=mS))
        all_goals (first|rfl|exact ⟨rfl,rfl⟩|exact ⟨rfl,rfl,rfl⟩|exact ⟨by omega,rfl⟩|(simp;done)|trace_state)
   ·have hd:=geF hlt
    rw [show g.take k=g from List.take_of_length_le (by omega)]
    have hsm:∀ v∈someV p g,inK .i64 v.n:=fun v hv=>by
     obtain ⟨r,hr',rfl⟩:=List.mem_map.1 (List.mem_filter.1 hv).1
     have hp:=hwk r hr'
     rw [vAt_get (List.getElem?_eq_getElem hp)]
     exact (hr r hr' _ (List.getElem_mem hp)).2
    have hsl:=_root_.Go.LS.some_len p g
    generalize someV p g=W at *
    have h144:=z144 (W.map fun v=>v.n) (by rw [List.length_map];omega) (fun n hn=>by obtain ⟨v,hv,rfl⟩:=List.mem_map.1 hn;exact hsm v hv)
    unfold toldF at hdoc
    by_cases o2:op=2
    ·rw [if_pos o2] at hdoc
     subst hdoc
     (try push_cast (maxSteps:=mS) [hd,o2,intV,bi0])
    ·rw [if_neg o2] at hdoc
     by_cases o3:op=3
     ·by_cases w0:W.length=0
      ·rw [if_pos (.inr w0)] at hdoc
       subst hdoc
       have w1:(W.length:Int)=0:=by omega
       (try push_cast (maxSteps:=mS) [hd,o3,w1])
      ·rw [if_neg (by simp [o3,w0])] at hdoc
       have w1:¬ (W.length:Int)=0:=by omega
       generalize sumG (W.map fun v=>v.n)=SG at *
       (try push_cast (maxSteps:=mS) [hd,o3,w1])
       refine ⟨_,h144,rfl,?_⟩
       by_cases s0:SG.2=0
       ·rw [if_neg (by simp [s0])] at hdoc
        subst hdoc
        (try push_cast (maxSteps:=mS) [s0,intV,bi0])
       ·rw [if_pos s0] at hdoc
        subst hdoc
        (try push_cast (maxSteps:=mS) [s0,vl0,bi0])
     ·rw [if_pos (.inl o3)] at hdoc
      subst hdoc
      (try push_cast (maxSteps:=mS) [hd,o2,o3])
end Go.LS.Tryz
