/- Part DC: 2 texts,one behind the other. -/
import Derived.Test.YtfmbjaeppffdpaaGreatDoorDA
import Derived.Test.YtfmbjaeppffdpaaGreatDoorPG
namespace Go.LS.Tryz
open Go Go.LS
set_option maxRecDepth 100000
@[push_cast] def lv0DC:Nat→Option (List Nat):=fun|0=>some [0]|1=>some [0,3]|2=>some [3,6,7,8]|3=>some [3,6,7,8,9]|4=>some [3,5,6,7,8]|5=>some [3,6,7,8]|6=>some [3,6,7,8]|7=>some [2]|_=>none
set_option linter.unusedSimpArgs false
set_option linter.unusedVariables false
theorem d53 (l:List Ag) (hl:l.length≤100000):Spec V 69 [.c (.d (.sl 3 (l.map eAg)))] (.c (.d (.sl 3 (l.map eAg)))):=by
 (refine Spec.of_go (L:=lv0DC) 1000 Go.Proofs.Tryz.func69 rfl rfl ⟨Nat.le_of_ble_eq_true rfl,rfl⟩ rfl ?_;unfold Go.Proofs.Tryz.f69;push_cast (maxSteps:=mS))
 refine LoopK.le (Le.nil 3 195 3 (by decide) (by (try push_cast (maxSteps:=mS)))) ?_
 (try push_cast (maxSteps:=mS))
 refine LoopK.ov (α:=Nat) [8] (fun k=>[i2 .i64 k]) (fun k=>[.rw 195 3 ((l.take k).map eAg)]) (fun k=>k≤l.length) (fun k=>l.length - k) 1000 0 (by omega) (by (try push_cast (maxSteps:=mS))<;>first|rfl|exact ⟨rfl,rfl⟩|exact ⟨rfl,rfl,rfl⟩|trivial) ?_
 rintro k hk
 by_cases hlt:k<l.length
 ·have hv:=atT hlt;have hd:=ltT hlt
  have htk:l.take (k+1)=l.take k++[l[k]]:=by rw [List.take_add_one,hv];rfl
  have hlk:(l.take k).length=k:=by rw [List.length_take];omega
  generalize l[k]=o at *
  (try push_cast (maxSteps:=mS) [hd,getD_map hv,hlk])
  ((repeat' with_reducible refine And.intro ?_ ?_)<;>try exact sz)
  refine ⟨k+1,by omega,by omega,Le.st ?_⟩
  rw [htk]
  (try push_cast (maxSteps:=mS))
  all_goals (first|rfl|(simp;done)|(simp;rfl))
 ·have hd:=geF hlt
  (try push_cast (maxSteps:=mS) [hd])
  rw [List.take_of_length_le (by omega)]
theorem d97 (l:List Cl) (hl:l.length≤100000):Spec V 134 [.c (.d (.sl 3 (l.map eC)))] (.c (.d (.sl 1 ((namesN l).map eS)))):=by
 (refine Spec.of_go (L:=lv0DC) 1000 Go.Proofs.Tryz.func134 rfl rfl ⟨Nat.le_of_ble_eq_true rfl,rfl⟩ rfl ?_;unfold Go.Proofs.Tryz.f134;push_cast (maxSteps:=mS))
 refine LoopK.le (Le.nil 3 9 1 (by decide) (by (try push_cast (maxSteps:=mS)))) ?_
 (try push_cast (maxSteps:=mS))
 refine LoopK.ov (α:=Nat) [8] (fun k=>[i2 .i64 k]) (fun k=>[.rw 9 1 ((namesN (l.take k)).map eS)]) (fun k=>k≤l.length) (fun k=>l.length - k) 1000 0 (by omega) (by (try push_cast (maxSteps:=mS))<;>first|rfl|exact ⟨rfl,rfl⟩|exact ⟨rfl,rfl,rfl⟩|trivial) ?_
 rintro k hk
 by_cases hlt:k<l.length
 ·have hv:=atT hlt;have hd:=ltT hlt
  have htk:namesN (l.take (k+1))=namesN (l.take k)++[l[k].name]:=by unfold namesN;rw [List.take_add_one,hv,List.map_append];rfl
  have hlk:(namesN (l.take k)).length=k:=by unfold namesN;rw [List.length_map,List.length_take];omega
  generalize l[k]=o at *
  (try push_cast (maxSteps:=mS) [hd,getD_map hv,hlk])
  ((repeat' with_reducible refine And.intro ?_ ?_)<;>try exact sz)
  refine ⟨k+1,by omega,by omega,Le.st ?_⟩
  rw [htk]
  (try push_cast (maxSteps:=mS))
  all_goals (first|rfl|(simp;done)|(simp;rfl))
 ·have hd:=geF hlt
  (try push_cast (maxSteps:=mS) [hd])
  rw [List.take_of_length_le (by omega)]
theorem d94 (L:List Cl) (ks:List ByteArray) (hL:okCl L) (hk:okKeys ks):Spec V 98 [.c (.d (.sl 3 (L.map eC))),.c (.d (.sl 1 (ks.map eS)))] (.tu [.c (.d (.sl 1 ((findG L ks).1.map eJ))),i2 .i64 ((findG L ks).2.1:Int),i2 .i64 (findG L ks).2.2]):=by
 have hk':ks.length≤64:=hk
 obtain ⟨F,hF⟩:∃ F,F=findG L ks:=⟨_,rfl⟩
 rw [← hF]
 unfold findG at hF
 (refine Spec.of_go (L:=fun|0=>some [0,1]|1=>some [0,1,7]|2=>some [0,7,13,14,15]|3=>some [0,7,13,14,15,16]|4=>some [0,7,8,9,13,14,15]|5=>some [0,7,8,11,12,13,14,15]|6=>some [0,7,8,11,13,14,15,28]|7=>some [4,5,6]|8=>some [0,7,8,11,13,14,15,32]|9=>some [4,5,6]|10=>some [0,7,13,14,15]|11=>some [0,7,13,14,15]|12=>some [4,5,6]|_=>none) 1000 Go.Proofs.Tryz.func98 rfl rfl ⟨Nat.le_of_ble_eq_true rfl,rfl⟩ rfl ?_;unfold Go.Proofs.Tryz.f98;push_cast (maxSteps:=mS))
 refine LoopK.le (Le.nil 7 3 1 (by decide) (by (try push_cast (maxSteps:=mS)))) ?_
 (try push_cast (maxSteps:=mS))
 refine LoopK.ov (α:=Nat) [15] (fun k=>[i2 .i64 k]) (fun k=>[.rw 3 1 ((placesN L (ks.take k)).map eJ)]) (fun k=>k≤ks.length∧keyF L (ks.take k) (ks.drop k) k=keyF L [] ks 0∧∀ n∈ks.take k,foundN L n) (fun k=>ks.length - k) 1000 0 ⟨by omega,rfl,by simp⟩ (by (try push_cast (maxSteps:=mS));rfl) ?_
 rintro k ⟨hk,hc,hf⟩
 by_cases hlt:k<ks.length
 ·have hv:=atT hlt;have hd:=ltT hlt
  rw [drop_cons hv] at hc;simp only [keyF] at hc
  (try push_cast (maxSteps:=mS) [hd,getD_map hv])
  ((repeat' with_reducible refine And.intro ?_ ?_)<;>try exact sz)
  refine ⟨_,f62 L ks[k] hL.1,rfl,?_⟩
  (try push_cast (maxSteps:=mS))
  refine BrP.mk (fun h=>?_) (fun h=>?_)<;>try (push_cast (maxSteps:=mS) [h])
  ·rw [if_pos (by simpa using h)] at hc
   rw [← hc,if_pos (by simp)] at hF
   subst hF
   (try push_cast (maxSteps:=mS))
  ·have hfk:foundN L ks[k]:=by simpa [foundN] using h
   rw [if_neg (by simpa using h)] at hc
   have hS:=d65 (placesN L (ks.take k)) (placeN L ks[k]) (by simp only [okLen,placesN,List.length_map,List.length_take];omega)
   rw [place_mem hfk hf] at hS
   (try push_cast (maxSteps:=mS))
   refine ⟨_,hS,rfl,?_⟩
   (try push_cast (maxSteps:=mS))
   refine BrP.mk (fun h=>?_) (fun h=>?_)<;>try (push_cast (maxSteps:=mS) [h])
   ·rw [if_pos h] at hc
    rw [← hc,if_pos (by simp)] at hF
    subst hF
    (try push_cast (maxSteps:=mS))
   ·rw [if_neg (by simp [h])] at hc
    have htk:ks.take (k+1)=ks.take k++[ks[k]]:=by rw [List.take_add_one,hv];rfl
    rw [← htk] at hc
    have hpk:(placesN L (ks.take k)).length=k:=by simp [placesN];omega
    ((repeat' with_reducible refine And.intro ?_ ?_)<;>try exact sz)
    refine ⟨k+1,⟨by omega,hc,?_⟩,by omega,Le.st ?_⟩
    ·intro n hn
     rw [htk] at hn
     rcases List.mem_append.1 hn with hn|hn
     ·exact hf n hn
     ·rw [List.mem_singleton.1 hn];exact hfk
    ·rw [htk]
     (try push_cast (maxSteps:=mS))
     simp only [placesN,List.map_append,List.map_cons,List.map_nil,eJ_eq,placeN]
     all_goals (first|exact ⟨trivial,rfl⟩|rfl)
 ·have hd:=geF hlt
  have hkk:k=ks.length:=by omega
  subst hkk
  rw [List.drop_eq_nil_of_le (by omega)] at hc;simp only [keyF] at hc
  rw [← hc,if_neg (by simp)] at hF
  subst hF
  have hpk:(placesN L ks).length=ks.length:=by simp [placesN]
  (try push_cast (maxSteps:=mS) [hd,List.take_length,hpk])
theorem d95 (L:List Cl) (a:Ag) (hL:okCl L):Spec V 132 [.c (.d (.sl 3 (L.map eC))),.ag ((eAg a).map .d)] (.tu [.ag ((eC (columnG L a).1).map .d),i2 .i64 (columnG L a).2]):=by
 have h62:=f62 L a.col hL.1
 obtain ⟨F,hF⟩:∃ F,F=columnG L a:=⟨_,rfl⟩
 rw [← hF]
 unfold columnG at hF
 obtain ⟨op,col,nm⟩:=a
 generalize hff:findF col L 0=ff at *
 obtain ⟨fc,fp,fo⟩:=ff
 simp only at hF h62
 obtain ⟨fn,fk,fz⟩:=fc
 simp only [eC_eq,eAg_eq] at h62 hF ⊢
 (refine Spec.of_go (L:=fun|0=>some [0,3,4]|1=>some [0,3,4,26]|2=>some [4,5]|3=>some [0,3,4,30]|4=>some [4,5]|5=>some [3,4,6,8]|6=>some [3,4,6,42]|7=>some [4,5]|8=>some [3,4,6,46]|9=>some [4,5]|10=>some [3,4,6,56]|11=>some [4,5]|12=>some [4,5]|_=>none) 1000 Go.Proofs.Tryz.func132 rfl rfl ⟨Nat.le_of_ble_eq_true rfl,rfl⟩ rfl ?_;unfold Go.Proofs.Tryz.f132;push_cast (maxSteps:=mS))
 by_cases o1:op<1
 ·rw [if_pos (.inl (.inl o1))] at hF
  subst hF
  (try push_cast (maxSteps:=mS) [o1])
  exact ⟨rfl,rfl,rfl⟩
 ·by_cases o6:6<op
  ·rw [if_pos (.inl (.inr o6))] at hF
   subst hF
   (try push_cast (maxSteps:=mS) [o1,o6])
   exact ⟨rfl,rfl,rfl⟩
  ·by_cases oe:op=1
   ·subst oe
    by_cases hcol:col=ByteArray.empty
    ·have hcol':col={ data:=#[] }:=hcol
     rw [if_neg (by simp [hcol]),if_pos rfl] at hF
     subst hF
     (try push_cast (maxSteps:=mS) [hcol'])
    ·have hcol':¬ col={ data:=#[] }:=hcol
     rw [if_pos (.inr ⟨rfl,hcol⟩)] at hF
     subst hF
     (try push_cast (maxSteps:=mS) [hcol'])
     exact ⟨rfl,rfl,rfl⟩
   ·rw [if_neg (by omega),if_neg oe] at hF
    (try push_cast (maxSteps:=mS) [o1,o6,oe])
    refine ⟨_,h62,rfl,?_⟩
    cases fo with
    | false =>
     rw [if_pos rfl] at hF
     subst hF
     (try push_cast (maxSteps:=mS))
     exact ⟨rfl,rfl,rfl⟩
    | true =>
     rw [if_neg (by simp)] at hF
     by_cases o3:op=3
     ·by_cases k2:fk=2
      ·rw [if_neg (by simp [k2]),if_neg (by omega)] at hF
       subst hF
       (try push_cast (maxSteps:=mS) [o3,k2])
      ·rw [if_pos ⟨o3,k2⟩] at hF
       subst hF
       (try push_cast (maxSteps:=mS) [o3,k2])
       exact ⟨rfl,rfl,rfl⟩
     ·rw [if_neg (by simp [o3])] at hF
      by_cases o2:op=2
      ·rw [if_pos o2] at hF
       subst hF
       (try push_cast (maxSteps:=mS) [o2])
      ·rw [if_neg o2] at hF
       subst hF
       (try push_cast (maxSteps:=mS) [o3,o2])
theorem d124 (r:List ByteArray) (hr:okLen r):Spec V 165 [.c (.d (.sl 1 (r.map eS)))] (.c (.d (.sl 1 (r.map eS)))):=by
 (refine Spec.of_go (L:=fun|0=>some [0]|1=>some [0,4]|2=>some [2]|3=>some [2]|_=>none) 1000 Go.Proofs.Tryz.func165 rfl rfl ⟨Nat.le_of_ble_eq_true rfl,rfl⟩ rfl ?_;unfold Go.Proofs.Tryz.f165;push_cast (maxSteps:=mS))
 intro b hb
 (try push_cast (maxSteps:=mS))
 refine BrP.mk (fun h=>?_) (fun h=>?_)<;>try (push_cast (maxSteps:=mS) [h])
 ·have:=hb h
  simp at this
  simp [this]
 ·((repeat' with_reducible refine And.intro ?_ ?_)<;>try exact sz)
  all_goals trace_state
theorem any1 {f:FuncId} {ar:List LV} {x:LV} {xs:List LV} (h:Spec V f ar (.tu (x::xs))):Spec V f ar (.tu (.c .any::xs)):=by
 obtain ⟨h1,h2,h3⟩:=h
 refine ⟨h1,?_,fun w E us hG hE hd=>(h3 w E us hG hE hd).mono ?_⟩
 ·simp only [dataL,List.all_cons,Bool.and_eq_true] at h2 ⊢
  exact ⟨rfl,h2.2⟩
 ·rintro e w' ⟨v,rfl,he,us',rfl,u,r,e1,_,e2⟩
  exact ⟨_,rfl,he,us',rfl,u,r,e1,trivial,e2⟩
theorem d96x (l:List ByteArray) (hl:l.length≤100000) (hs:∀ n∈l,n.size≤1099511627776) (x:CV) (hx:dataC x=true) (hx0:(hedF l).2=0→x=.any) (hx1:(hedF l).2≠0→x=.d (.v (.pointer none))) :
  Spec V 133 [.c (.d (.sl 1 (l.map eS)))] (.tu [.c x,i2 .i64 ((hedF l).1:Int),i2 .i64 (hedF l).2]):=by
 obtain ⟨F,hF⟩:∃ F,F=hedF l:=⟨_,rfl⟩
 rw [← hF] at hx0 hx1 ⊢
 unfold hedF at hF
 refine Spec.of_go (L:=fun|0=>some [0]|1=>some [0,12]|2=>some [2,3,4]|3=>some [0,5]|4=>some [0,5,16,17,18]|5=>some [0,5,16,17,18,19]|6=>some [0,5,6,7,16,17,18]|7=>some [0,5,6,7,16,17,18,25]|8=>some [2,3,4]|9=>some [0,5,6,7,9,16,17,18]|10=>some [0,5,6,7,16,17,18,33]|11=>some [2,3,4]|12=>some [0,5,16,17,18]|13=>some [0,5,16,17,18]|14=>some [2,3,4]|_=>none) 1000 Go.Proofs.Tryz.func133 rfl rfl ⟨Nat.le_of_ble_eq_true rfl,rfl⟩ (by simp only [dataL,List.all_cons,List.all_nil,data1,hx];rfl) ?_
 unfold Go.Proofs.Tryz.f133
 (try push_cast (maxSteps:=mS))
 by_cases h0:l.length=0
 ·rw [if_pos h0] at hF
  subst hF
  obtain rfl:=hx1 (by simp)
  (try push_cast (maxSteps:=mS) [h0])
 ·rw [if_neg h0] at hF
  have h0':decide ((l.length:Int)=0)=false:=decide_eq_false (by omega)
  (try push_cast (maxSteps:=mS) [h0'])
  ((repeat' with_reducible refine And.intro ?_ ?_)<;>try exact sz)
  refine LoopK.ov (α:=Nat) [18] (fun k=>[i2 .i64 k]) (fun k=>[.mp (ixM (l.take k) 0)]) (fun k=>k≤l.length∧hedL (l.take k) (l.drop k) k=hedL [] l 0) (fun k=>l.length - k) 1000 0 ⟨by omega,rfl⟩ (by (try push_cast (maxSteps:=mS));rfl) ?_
  rintro k ⟨hk,hc⟩
  by_cases hlt:k<l.length
  ·have hv:=atT hlt;have hd:=ltT hlt
   rw [drop_cons hv] at hc;simp only [hedL] at hc
   have htk:l.take (k+1)=l.take k++[l[k]]:=by rw [List.take_add_one,hv];rfl
   rw [← htk] at hc
   have hlk:(l.take k).length=k:=by rw [List.length_take];omega
   have h115:=f72 l[k] (hs _ (List.getElem_mem hlt))
   have hmg:=mget_ixM l[k] (l.take k) 0
   generalize l[k]=n at *
   (try push_cast (maxSteps:=mS) [hd,getD_map hv])
   ((repeat' with_reducible refine And.intro ?_ ?_)<;>try exact sz)
   refine ⟨_,h115,rfl,?_⟩
   cases hvb:validB n with
   | false =>
    rw [hvb,if_pos rfl] at hc
    rw [← hc] at hF
    subst hF
    obtain rfl:=hx1 (by simp)
    (try push_cast (maxSteps:=mS))
   | true =>
    rw [hvb,if_neg (by simp)] at hc
    cases hm:memB n (l.take k) with
    | true =>
     rw [hm,if_pos rfl] at hc hmg
     rw [← hc] at hF
     subst hF
     obtain rfl:=hx1 (by simp)
     (try push_cast (maxSteps:=mS) [hmg])
    | false =>
     rw [hm,if_neg (by simp)] at hc hmg
     have hms:=mset_ixM n (l.take k) 0 (k:Int) hm (by rw [hlk];simp)
     (try push_cast (maxSteps:=mS) [hmg])
     ((repeat' with_reducible refine And.intro ?_ ?_)<;>try exact sz)
     refine ⟨k+1,⟨by omega,hc⟩,by omega,Le.st ?_⟩
     rw [htk]
     (try push_cast (maxSteps:=mS))
     all_goals (first|exact hms|trace_state)
  ·have hd:=geF hlt
   rw [List.drop_eq_nil_of_le (by omega)] at hc;simp only [hedL] at hc
   have hkl:k=l.length:=by omega
   subst hkl
   rw [← hc] at hF
   subst hF
   obtain rfl:=hx0 rfl
   have h124:=d124 l (by simp only [okLen];omega)
   (try push_cast (maxSteps:=mS) [hd])
   refine ⟨_,h124,rfl,?_⟩
   (try push_cast (maxSteps:=mS))
   all_goals trace_state
theorem d96 (l:List ByteArray) (hl:l.length≤100000) (hs:∀ n∈l,n.size≤1099511627776):Spec V 133 [.c (.d (.sl 1 (l.map eS)))] (.tu [.c .any,i2 .i64 ((hedF l).1:Int),i2 .i64 (hedF l).2]):=by
 by_cases h:(hedF l).2=0
 ·exact d96x l hl hs .any rfl (fun _=>rfl) (fun h'=>absurd h h')
 ·exact any1 (d96x l hl hs (.d (.v (.pointer none))) rfl (fun h'=>absurd h' h) (fun _=>rfl))
theorem d111 (t:Tb) (ht:okLen t.R) (hr:∀ r∈t.R,okLen r):Spec V 97 [.ag ((eT t).map .d)] (b2 (evenF t)):=by
 obtain ⟨L,A⟩:=t
 simp only at ht hr
 (refine Spec.of_go (L:=fun|0=>some [1]|1=>some [1,6,7,8]|2=>some [1,6,7,8,9]|3=>some [1,4,6,7,8]|4=>some [1,6,7,8,17]|5=>some [2]|6=>some [1,6,7,8]|7=>some [2]|_=>none) 1000 Go.Proofs.Tryz.func97 rfl rfl ⟨Nat.le_of_ble_eq_true rfl,rfl⟩ rfl ?_;unfold Go.Proofs.Tryz.f97;push_cast (maxSteps:=mS))
 refine LoopK.s1 (α:=Nat) [8] (fun k=>[i2 .i64 k]) (fun k=>k≤A.length∧((A.drop k).all fun r=>decide (r.length=L.length))=evenF ⟨L,A⟩) (fun k=>A.length - k) 1000 0 ⟨by omega,rfl⟩ (by (try push_cast (maxSteps:=mS))) ?_
 rintro k ⟨hk,hc⟩
 by_cases hlt:k<A.length
 ·have hv:=atT hlt;have hd:=ltT hlt
  rw [drop_cons hv,List.all_cons] at hc
  generalize A[k]=r at *
  (try push_cast (maxSteps:=mS) [hd,getD_map hv])
  ((repeat' with_reducible refine And.intro ?_ ?_)<;>try exact sz)
  refine BrP.mk (fun h=>?_) (fun h=>?_)<;>try (push_cast (maxSteps:=mS) [h])
  ·have hw:¬ r.length=L.length:=by simp at h;omega
   rw [← hc]
   simp [hw]
  ·have hw:r.length=L.length:=by simp at h;omega
   rw [decide_eq_true hw,Bool.true_and] at hc
   ((repeat' with_reducible refine And.intro ?_ ?_)<;>try exact sz)
   refine ⟨k+1,⟨by omega,hc⟩,by omega,Le.st ?_⟩
   (try push_cast (maxSteps:=mS));(all_goals first|rfl|skip)
 ·have hd:=geF hlt
  rw [List.drop_eq_nil_of_le (by omega),List.all_nil] at hc
  (try push_cast (maxSteps:=mS) [hd])
  exact hc
theorem keyCols_name {L:List Cl} {ks:List ByteArray} {B:Nat} (hL:∀ c∈L,c.name.size≤B) (hf:∀ n∈ks,foundN L n):∀ c∈keyCols L ks,c.name.size≤B:=by
 intro c hc
 obtain ⟨n,hn,rfl⟩:=List.mem_map.1 hc
 exact hL _ (List.mem_of_getElem? (placeN_get (hf n hn)).1)
theorem colG_name {L:List Cl} {a:Ag} {B:Nat} (ha:a.nm.size≤B):(columnG L a).1.name.size≤B:=by
 unfold columnG
 (repeat' split)<;>first|exact ha|exact Nat.zero_le _
theorem keyCols_take {L:List Cl} {ks:List ByteArray} {k:Nat} {n:ByteArray} (h:ks[k]?=some n):keyCols L (ks.take (k+1))=keyCols L (ks.take k)++[(findF n L 0).1]:=by
 unfold keyCols
 rw [List.take_add_one,h,List.map_append];rfl
set_option maxHeartbeats 1000000 in
theorem d51 (L:List Cl) (ks:List ByteArray) (ag:List Ag) (hL:okCl L) (hk:okKeys ks) (ha:ag.length≤1000) (hn:∀ a∈ag,a.nm.size≤1099511627776) :
  Spec V 96 [.c (.d (.sl 3 (L.map eC))),.c (.d (.sl 1 (ks.map eS))),.c (.d (.sl 3 (ag.map eAg)))] (.tu [.c (.d (.sl 3 ((colsG L ks ag).1.map eC))),i2 .i64 ((colsG L ks ag).2.1:Int),i2 .i64 (colsG L ks ag).2.2]):=by
 have hk':ks.length≤64:=hk
 have h94:=d94 L ks hL hk
 have h63:=f47 L hL
 obtain ⟨F,hF⟩:∃ F,F=colsG L ks ag:=⟨_,rfl⟩
 rw [← hF]
 unfold colsG at hF
 (refine Spec.of_go (L:=fun|0=>some [0,1,2]|1=>some [0,1,2,10]|2=>some [0,1,2,10,30]|3=>some [6,7,8]|4=>some [0,1,2,11,12,13]|5=>some [0,1,2,11,12,13,40]|6=>some [6,7,8]|7=>some [0,1,2,11,14]|8=>some [0,1,2,14,43,44,45]|9=>some [0,1,2,14,43,44,45,46]|10=>some [0,1,2,14,16,43,44,45]|11=>some [0,1,2,14,43,44,45]|12=>some [0,1,2,14,43,44,45]|13=>some [0,1,14,57,58,59]|14=>some [0,1,14,57,58,59,60]|15=>some [0,1,14,17,18,57,58,59]|16=>some [0,1,14,17,19,20,57,58,59]|17=>some [0,1,14,17,19,20,57,58,59,71]|18=>some [6,7,8]|19=>some [0,1,14,57,58,59]|20=>some [0,1,14,57,58,59]|21=>some [14,84]|22=>some [6,7,8]|23=>some [14,22,23]|24=>some [14,22,23,93]|25=>some [6,7,8]|26=>some [6,7,8]|_=>none) 1000 Go.Proofs.Tryz.func96 rfl rfl ⟨Nat.le_of_ble_eq_true rfl,rfl⟩ rfl ?_;unfold Go.Proofs.Tryz.f96;push_cast (maxSteps:=mS))
 refine ⟨_,h63,rfl,?_⟩
 by_cases c1:(checkC L).2=0
 ·rw [if_neg (by simp [c1])] at hF
  (try push_cast (maxSteps:=mS) [c1])
  refine ⟨_,h94,rfl,?_⟩
  unfold findG
  by_cases c2:(keyF L [] ks 0).2=0
  ·rw [if_neg (by simp [c2])] at hF
   rw [if_neg (by simp [c2])]
   have hfound:=key_found L ks [] 0 c2
   (try push_cast (maxSteps:=mS))
   refine LoopK.le (Le.nil 14 52 3 (by decide) (by (try push_cast (maxSteps:=mS)))) ?_
   have hpl:(placesN L ks).length=ks.length:=by simp [placesN]
   (try push_cast (maxSteps:=mS) [hpl])
   refine LoopK.ov (α:=Nat) [45] (fun k=>[i2 .i64 k]) (fun k=>[.rw 52 3 ((keyCols L (ks.take k)).map eC)]) (fun k=>k≤ks.length) (fun k=>ks.length - k) 1000 0 (by omega) (by (try push_cast (maxSteps:=mS));rfl) ?_
   rintro k hk1
   by_cases hlt:k<ks.length
   ·have hv:=atT hlt;have hd:=ltT hlt
    have hkt:=keyCols_take (L:=L) hv
    have hkl:(keyCols L (ks.take k)).length=k:=by unfold keyCols;rw [List.length_map,List.length_take];omega
    have hfd:=hfound _ (List.getElem_mem hlt)
    have hpg:(placesN L ks)[k]?=some (placeN L ks[k]):=by unfold placesN;rw [List.getElem?_map,hv];rfl
    have hpv:=(placeN_get hfd).1
    have hplt:=placeN_lt hfd
    generalize ks[k]=n at *
    generalize placeN L n=p at *
    generalize (findF n L 0).1=c at *
    (try push_cast (maxSteps:=mS) [hd,getD_map hpg,getD_map hpv,hkl])
    ((repeat' with_reducible refine And.intro ?_ ?_)<;>try exact sz)
    refine ⟨k+1,by omega,by omega,Le.st ?_⟩
    rw [hkt]
    (try push_cast (maxSteps:=mS))
    all_goals (first|rfl|(simp;done)|(simp;rfl))
   ·have hd:=geF hlt
    rw [show ks.take k=ks from List.take_of_length_le (by omega)]
    have hkl:(keyCols L ks).length=ks.length:=by simp [keyCols]
    (try push_cast (maxSteps:=mS) [hd])
    clear hd hlt hk1
    refine LoopK.ov (α:=Nat × List Cl) [59] (fun s=>[i2 .i64 s.1]) (fun s=>[.rw 52 3 (s.2.map eC)]) (fun s=>s.1≤ag.length∧s.2.length=ks.length+s.1∧aggsG L (ag.drop s.1) s.2 (ks.length+s.1)=aggsG L ag (keyCols L ks) ks.length∧∀ c∈s.2,c.name.size≤1099511627776) (fun s=>ag.length - s.1) 1000 (0,keyCols L ks) ⟨by simp,by simp [hkl],by simp,keyCols_name hL.2 hfound⟩ (by (try push_cast (maxSteps:=mS))<;>first|rfl|exact ⟨rfl,rfl⟩|exact ⟨rfl,rfl,rfl⟩|trivial) ?_
    rintro ⟨k,out⟩ ⟨hk1,hol,hrun,hon⟩
    simp only at hk1 hol hrun hon
    by_cases hlt:k<ag.length
    ·have hv:=atT hlt;have hd:=ltT hlt
     rw [drop_cons hv] at hrun
     simp only [aggsG] at hrun
     have h95:=d95 L ag[k] hL
     have hcn:=colG_name (L:=L) (hn _ (List.getElem_mem hlt))
     generalize ag[k]=a at *
     obtain ⟨op,col,nm⟩:=a
     generalize hcG:columnG L ⟨op,col,nm⟩=C at *
     obtain ⟨⟨cn,ck,cz⟩,ce⟩:=C
     simp only [eC_eq,eAg_eq] at h95 hrun hcn
     (try push_cast (maxSteps:=mS) [hd,getD_map hv])
     ((repeat' with_reducible refine And.intro ?_ ?_)<;>try exact sz)
     refine ⟨_,h95,rfl,?_⟩
     by_cases c3:ce=0
     ·rw [if_neg (by simp [c3])] at hrun
      (try push_cast (maxSteps:=mS) [c3])
      ((repeat' with_reducible refine And.intro ?_ ?_)<;>try exact sz)
      refine ⟨(k+1,out++[⟨cn,ck,cz⟩]),⟨by simp only;omega,by simp only [List.length_append,List.length_cons,List.length_nil];omega,by simp only;exact hrun,?_⟩,by simp only;omega,Le.st ?_⟩
      ·intro c hc
       rcases List.mem_append.1 hc with hc|hc
       ·exact hon c hc
       ·rw [List.mem_singleton.1 hc];exact hcn
      (try push_cast (maxSteps:=mS))
      all_goals (first|rfl|(simp;done)|(simp;rfl))
     ·rw [if_pos c3] at hrun
      rw [← hrun,if_pos c3] at hF
      subst hF
      (try push_cast (maxSteps:=mS) [c3])
      ((repeat' with_reducible refine And.intro ?_ ?_)<;>try exact sz)
    ·have hd:=geF hlt
     rw [List.drop_eq_nil_of_le (by omega)] at hrun
     simp only [aggsG] at hrun
     rw [← hrun,if_neg (by simp)] at hF
     simp only at hF
     by_cases h0:out.length=0
     ·have hh:hedF (namesN out)=(0,13):=by
       unfold hedF
       rw [if_pos (by simpa [namesN] using h0)]
      rw [hh,if_pos (by simp)] at hF
      subst hF
      (try push_cast (maxSteps:=mS) [hd,h0])
     ·have h0':decide ((out.length:Int)=0)=false:=decide_eq_false (by omega)
      have h97:=d97 out (by omega)
      have h96:=d96 (namesN out) (by simp only [namesN,List.length_map];omega) (fun n hn=>by
       obtain ⟨c,hc,rfl⟩:=List.mem_map.1 hn
       exact hon c hc)
      by_cases c4:(hedF (namesN out)).2=0
      ·rw [if_neg (by simp [c4])] at hF
       subst hF
       (try push_cast (maxSteps:=mS) [hd,h0'])
       refine ⟨_,h97,rfl,?_⟩
       (try push_cast (maxSteps:=mS))
       refine ⟨_,h96,rfl,?_⟩
       (try push_cast (maxSteps:=mS) [c4])
      ·rw [if_pos c4] at hF
       subst hF
       (try push_cast (maxSteps:=mS) [hd,h0'])
       refine ⟨_,h97,rfl,?_⟩
       (try push_cast (maxSteps:=mS))
       refine ⟨_,h96,rfl,?_⟩
       (try push_cast (maxSteps:=mS) [c4])
  ·rw [if_pos c2] at hF
   rw [if_pos c2]
   subst hF
   (try push_cast (maxSteps:=mS) [c2])
 ·rw [if_pos c1] at hF
  subst hF
  (try push_cast (maxSteps:=mS) [c1])
/-! ### The document's columns -/
theorem d100 (l:List ByteArray) (hl:l.length≤100000) (hs:∀ n∈l,n.size≤1099511627776):Spec V 110 [.c (.d (.sl 1 (l.map eS)))] (.tu [i2 .i64 ((hedF l).1:Int),i2 .i64 (hedF l).2]):=by
 obtain ⟨F,hF⟩:∃ F,F=hedF l:=⟨_,rfl⟩
 rw [← hF]
 unfold hedF at hF
 (refine Spec.of_go (L:=fun|0=>some [0]|1=>some [0,8]|2=>some [2,3]|3=>some [0,9,10,11]|4=>some [0,9,10,11,12]|5=>some [0,4,5,9,10,11]|6=>some [0,4,5,9,10,11,20]|7=>some [2,3]|8=>some [0,4,9,10,11,27]|9=>some [2,3]|10=>some [0,9,10,11]|11=>some [2,3]|_=>none) 1000 Go.Proofs.Tryz.func110 rfl rfl ⟨Nat.le_of_ble_eq_true rfl,rfl⟩ rfl ?_;unfold Go.Proofs.Tryz.f110;push_cast (maxSteps:=mS))
 by_cases h0:l.length=0
 ·rw [if_pos h0] at hF
  subst hF
  (try push_cast (maxSteps:=mS) [h0])
 ·rw [if_neg h0] at hF
  have h0':decide ((l.length:Int)=0)=false:=decide_eq_false (by omega)
  (try push_cast (maxSteps:=mS) [h0'])
  ((repeat' with_reducible refine And.intro ?_ ?_)<;>try exact sz)
  refine LoopK.s1 (α:=Nat) [11] (fun k=>[i2 .i64 k]) (fun k=>k≤l.length∧hedL (l.take k) (l.drop k) k=hedL [] l 0) (fun k=>l.length - k) 1000 0 ⟨by omega,rfl⟩ (by (try push_cast (maxSteps:=mS))) ?_
  rintro k ⟨hk,hc⟩
  by_cases hlt:k<l.length
  ·have hv:=atT hlt;have hd:=ltT hlt
   rw [drop_cons hv] at hc;simp only [hedL] at hc
   have htk:l.take (k+1)=l.take k++[l[k]]:=by rw [List.take_add_one,hv];rfl
   rw [← htk] at hc
   have hlk:(l.take k).length=k:=by rw [List.length_take];omega
   have h119:=f54 l[k] (hs _ (List.getElem_mem hlt))
   have hvw:=valid_whole l[k]
   have hwl:=whole_le l[k]
   have hat:=f55 (l.take k) l[k] (by simp only [okLen];omega)
   have hmB:=atF_memB l[k] (l.take k)
   rw [List.map_take] at hat
   generalize l[k]=n at *
   (try push_cast (maxSteps:=mS) [hd,getD_map hv])
   ((repeat' with_reducible refine And.intro ?_ ?_)<;>try exact sz)
   refine ⟨_,h119,rfl,?_⟩
   cases hvb:validB n with
   | false =>
    have hw:decide ((wholeF n:Int)<(n.size:Int))=true:=by rw [hvb] at hvw;simp at hvw ⊢;omega
    rw [hvb,if_pos rfl] at hc
    rw [← hc] at hF
    subst hF
    (try push_cast (maxSteps:=mS) [hw])
   | true =>
    have hw:decide ((wholeF n:Int)<(n.size:Int))=false:=by rw [hvb] at hvw;simp at hvw ⊢;omega
    rw [hvb,if_neg (by simp)] at hc
    (try push_cast (maxSteps:=mS) [hw])
    ((repeat' with_reducible refine And.intro ?_ ?_)<;>try exact sz)
    refine ⟨_,hat,rfl,?_⟩
    cases hm:memB n (l.take k) with
    | true =>
     rw [hm,if_pos rfl] at hc
     rw [hm] at hmB
     rw [← hc] at hF
     subst hF
     (try push_cast (maxSteps:=mS) [hmB])
    | false =>
     rw [hm,if_neg (by simp)] at hc
     rw [hm] at hmB
     (try push_cast (maxSteps:=mS) [hmB])
     ((repeat' with_reducible refine And.intro ?_ ?_)<;>try exact sz)
     refine ⟨k+1,⟨by omega,hc⟩,by omega,Le.st ?_⟩
     (try push_cast (maxSteps:=mS))
  ·have hd:=geF hlt
   rw [List.drop_eq_nil_of_le (by omega)] at hc;simp only [hedL] at hc
   have hkl:k=l.length:=by omega
   subst hkl
   rw [← hc] at hF
   subst hF
   (try push_cast (maxSteps:=mS) [hd])
def keysR (L:List Cl) (ks:List ByteArray):Nat × Int:=if (checkC L).2≠0 then (0,(checkC L).2) else keyF L [] ks 0
theorem d98 (L:List Cl) (ks:List ByteArray) (hL:okCl L) (hk:okKeys ks):Spec V 108 [.c (.d (.sl 3 (L.map eRC))),.c (.d (.sl 1 (ks.map eS)))] (.tu [i2 .i64 ((keysR L ks).1:Int),i2 .i64 (keysR L ks).2]):=by
 have hk':ks.length≤64:=hk
 obtain ⟨F,hF⟩:∃ F,F=keysR L ks:=⟨_,rfl⟩
 rw [← hF]
 unfold keysR at hF
 (refine Spec.of_go (L:=fun|0=>some [0,1]|1=>some [0,1,7]|2=>some [0,1,7,16]|3=>some [4,5]|4=>some [0,1,18,19,20]|5=>some [0,1,18,19,20,21]|6=>some [0,1,8,9,18,19,20]|7=>some [0,1,8,9,18,19,20,29]|8=>some [4,5]|9=>some [0,1,8,18,19,20,36]|10=>some [4,5]|11=>some [0,1,18,19,20]|12=>some [4,5]|_=>none) 1000 Go.Proofs.Tryz.func108 rfl rfl ⟨Nat.le_of_ble_eq_true rfl,rfl⟩ rfl ?_;unfold Go.Proofs.Tryz.f108;push_cast (maxSteps:=mS))
 refine ⟨_,f50 L hL,rfl,?_⟩
 by_cases c1:(checkC L).2=0
 ·rw [if_neg (by simp [c1])] at hF
  (try push_cast (maxSteps:=mS) [c1])
  refine LoopK.s1 (α:=Nat) [20] (fun k=>[i2 .i64 k]) (fun k=>k≤ks.length∧keyF L (ks.take k) (ks.drop k) k=keyF L [] ks 0) (fun k=>ks.length - k) 1000 0 ⟨by omega,rfl⟩ (by (try push_cast (maxSteps:=mS))) ?_
  rintro k ⟨hk,hc⟩
  by_cases hlt:k<ks.length
  ·have hv:=atT hlt;have hd:=ltT hlt
   rw [drop_cons hv] at hc;simp only [keyF] at hc
   have htk:ks.take (k+1)=ks.take k++[ks[k]]:=by rw [List.take_add_one,hv];rfl
   rw [← htk] at hc
   (try push_cast (maxSteps:=mS) [hd,getD_map hv])
   ((repeat' with_reducible refine And.intro ?_ ?_)<;>try exact sz)
   refine ⟨_,names56 L hL.1,rfl,?_⟩
   (try push_cast (maxSteps:=mS))
   refine ⟨_,f55 (namesN L) ks[k] (by simpa [okLen,namesN] using hL.1),rfl,?_⟩
   (try push_cast (maxSteps:=mS) [at_found])
   refine BrP.mk (fun h=>?_) (fun h=>?_)<;>try (push_cast (maxSteps:=mS) [h])
   ·rw [if_pos (by simpa using h)] at hc
    ((repeat' with_reducible refine And.intro ?_ ?_)<;>try exact sz)
    all_goals simp [hF,← hc]
   ·rw [if_neg (by simpa using h)] at hc
    have hS:=f55 (ks.take k) ks[k] (by simp only [okLen,List.length_take];omega)
    simp only [List.map_take] at hS
    ((repeat' with_reducible refine And.intro ?_ ?_)<;>try exact sz)
    refine ⟨_,hS,rfl,?_⟩
    (try push_cast (maxSteps:=mS) [atF_memB])
    refine BrP.mk (fun h=>?_) (fun h=>?_)<;>try (push_cast (maxSteps:=mS) [h])
    ·rw [if_pos h] at hc
     ((repeat' with_reducible refine And.intro ?_ ?_)<;>try exact sz)
     all_goals simp [hF,← hc]
    ·rw [if_neg (by simp [h])] at hc
     ((repeat' with_reducible refine And.intro ?_ ?_)<;>try exact sz)
     refine ⟨k+1,⟨by omega,hc⟩,by omega,Le.st ?_⟩
     (try push_cast (maxSteps:=mS))
  ·have hd:=geF hlt
   have hkk:k=ks.length:=by omega
   subst hkk
   rw [List.drop_eq_nil_of_le (by omega)] at hc;simp only [keyF] at hc
   (try push_cast (maxSteps:=mS) [hd])
   all_goals simp [hF,← hc]
 ·rw [if_pos c1] at hF
  subst hF
  (try push_cast (maxSteps:=mS) [c1])
theorem find_none {n:ByteArray} {L:List Cl} (h:(findF n L 0).2.2=false):atF n (namesN L) 0<0:=by
 have:=at_found L n
 rw [h] at this
 simpa using this
set_option maxHeartbeats 1000000 in
theorem d99 (a:Ag) (L:List Cl) (hL:okCl L):Spec V 109 [.ag ((eAg a).map .d),.c (.d (.sl 3 (L.map eRC)))] (.tu [.ag ((eRC (columnG L a).1).map .d),i2 .i64 (columnG L a).2]):=by
 have h69:=names56 L hL.1
 have h68:=f55 (namesN L) a.col (by simpa [okLen,namesN] using hL.1)
 obtain ⟨F,hF⟩:∃ F,F=columnG L a:=⟨_,rfl⟩
 rw [← hF]
 unfold columnG at hF
 obtain ⟨op,col,nm⟩:=a
 simp only [eAg_eq] at hF h68 ⊢
 (refine Spec.of_go (L:=fun|0=>some [1,2,4]|1=>some [1,2,4,6]|2=>some [1,2,4,6,13]|3=>some [1,2,4,6,13,14]|4=>some [2,4,18]|5=>some [4,5]|6=>some [4,5]|7=>some [1,2,4,6,13,23]|8=>some [1,2,4,6,13,23]|9=>some [1,2,4,6,13,23]|10=>some [1,2,4,6,13,23]|11=>some [1,2,4,6,23]|12=>some [1,2,4,6,30]|13=>some [4,5]|14=>some [1,2,4,6,34]|15=>some [4,5]|16=>some [1,2,4,6,48]|17=>some [4,5]|18=>some [4,5]|19=>some [4,5]|_=>none) 1000 Go.Proofs.Tryz.func109 rfl rfl ⟨Nat.le_of_ble_eq_true rfl,rfl⟩ rfl ?_;unfold Go.Proofs.Tryz.f109;push_cast (maxSteps:=mS))
 (refine DrawK.of (.take 0 (.take 2 (.take 3 (.one 1 (.one 4 (.take 5 .done)))))) 1000 (by decide +kernel) ?_;try (push_cast (maxSteps:=mS)))
 ((repeat' with_reducible refine And.intro ?_ ?_)<;>try exact sz)
 all_goals (refine ⟨_,h69,rfl,?_⟩)
 all_goals (try push_cast (maxSteps:=mS))
 all_goals (refine ⟨_,h68,rfl,?_⟩)
 by_cases oe:op=1
 ·subst oe
  by_cases hcol:col=ByteArray.empty
  ·have hcol':col={ data:=#[] }:=hcol
   rw [if_neg (by simp [hcol]),if_pos rfl] at hF
   subst hF
   (try push_cast (maxSteps:=mS) [hcol'])
   all_goals (first|rfl|(refine ⟨⟨by omega,by omega⟩,?_⟩;exact ⟨rfl,rfl,rfl⟩)|exact ⟨rfl,rfl⟩|exact ⟨rfl,rfl,rfl⟩|trace_state)
  ·have hcol':¬ col={ data:=#[] }:=hcol
   rw [if_pos (.inr ⟨rfl,hcol⟩)] at hF
   subst hF
   (try push_cast (maxSteps:=mS) [hcol'])
   exact ⟨rfl,rfl,rfl⟩
 ·by_cases hr:2≤op∧op≤6
  ·rw [if_neg (by omega),if_neg oe] at hF
   have hcase:op=2∨op=3∨op=4∨op=5∨op=6:=by omega
   cases hf:(findF col L 0).2.2 with
   | false =>
    rw [hf,if_pos rfl] at hF
    subst hF
    have hneg:=find_none hf
    have hd:decide (atF col (namesN L) 0<0)=true:=decide_eq_true hneg
    rcases hcase with rfl|rfl|rfl|rfl|rfl
    all_goals (try push_cast (maxSteps:=mS) [hd])
    all_goals exact ⟨rfl,rfl,rfl⟩
   | true =>
    rw [hf,if_neg (by simp)] at hF
    have hfd:foundN L col:=hf
    have hat:=at_place hfd
    rw [hat]
    have hpv:=(placeN_get hfd).1
    have hpl:=placeN_lt hfd
    generalize placeN L col=p at *
    generalize (findF col L 0).1=c at *
    obtain ⟨cn,ck,cz⟩:=c
    have hd:decide ((p:Int)<0)=false:=decide_eq_false (by omega)
    have hci:(L.map eRC).getD p []=eRC ⟨cn,ck,cz⟩:=getD_map hpv
    rcases hcase with rfl|rfl|rfl|rfl|rfl
    ·rw [if_neg (by simp),if_pos rfl] at hF
     subst hF
     (try push_cast (maxSteps:=mS) [hd,hci])
     all_goals (first|rfl|(refine ⟨⟨by omega,by omega⟩,?_⟩;exact ⟨rfl,rfl,rfl⟩)|exact ⟨rfl,rfl⟩|exact ⟨rfl,rfl,rfl⟩|trace_state)
    ·by_cases k2:ck=2
     ·rw [if_neg (by simp [k2]),if_neg (by simp)] at hF
      subst hF
      (try push_cast (maxSteps:=mS) [hd,hci,k2])
      ((repeat' with_reducible refine And.intro ?_ ?_)<;>try exact sz)
      (refine DrawK.of (.take 0 (.take 1 (.take 2 (.take 3 (.take 4 (.take 5 (.take 6 (.take 7 (.one 8 (.one 9 .done)))))))))) 1000 (by decide +kernel) ?_;try (push_cast (maxSteps:=mS)))
      (try push_cast (maxSteps:=mS) [hd,hci,k2])
      ((repeat' with_reducible refine And.intro ?_ ?_)<;>try exact sz)
      all_goals (first|rfl|(refine ⟨⟨by omega,by omega⟩,?_⟩;exact ⟨rfl,rfl,rfl⟩)|exact ⟨rfl,rfl⟩|exact ⟨rfl,rfl,rfl⟩|trace_state)
     ·rw [if_pos ⟨rfl,k2⟩] at hF
      subst hF
      (try push_cast (maxSteps:=mS) [hd,hci,k2])
      all_goals (first|rfl|(refine ⟨⟨by omega,by omega⟩,?_⟩;exact ⟨rfl,rfl,rfl⟩)|exact ⟨rfl,rfl⟩|exact ⟨rfl,rfl,rfl⟩|trace_state)
    ·rw [if_neg (by simp),if_neg (by simp)] at hF
     subst hF
     (try push_cast (maxSteps:=mS) [hd,hci])
     (refine DrawK.of (.take 0 (.take 1 (.take 2 (.take 3 (.take 4 (.take 5 (.take 6 (.take 7 (.one 8 (.one 9 .done)))))))))) 1000 (by decide +kernel) ?_;try (push_cast (maxSteps:=mS)))
     (try push_cast (maxSteps:=mS) [hd,hci])
     ((repeat' with_reducible refine And.intro ?_ ?_)<;>try exact sz)
     all_goals (first|rfl|(refine ⟨⟨by omega,by omega⟩,?_⟩;exact ⟨rfl,rfl,rfl⟩)|exact ⟨rfl,rfl⟩|exact ⟨rfl,rfl,rfl⟩|trace_state)
    ·rw [if_neg (by simp),if_neg (by simp)] at hF
     subst hF
     (try push_cast (maxSteps:=mS) [hd,hci])
     (refine DrawK.of (.take 0 (.take 1 (.take 2 (.take 3 (.take 4 (.take 5 (.take 6 (.take 7 (.one 8 (.one 9 .done)))))))))) 1000 (by decide +kernel) ?_;try (push_cast (maxSteps:=mS)))
     (try push_cast (maxSteps:=mS) [hd,hci])
     ((repeat' with_reducible refine And.intro ?_ ?_)<;>try exact sz)
     all_goals (first|rfl|(refine ⟨⟨by omega,by omega⟩,?_⟩;exact ⟨rfl,rfl,rfl⟩)|exact ⟨rfl,rfl⟩|exact ⟨rfl,rfl,rfl⟩|trace_state)
    ·rw [if_neg (by simp),if_neg (by simp)] at hF
     subst hF
     (try push_cast (maxSteps:=mS) [hd,hci])
     (refine DrawK.of (.take 0 (.take 1 (.take 2 (.take 3 (.take 4 (.take 5 (.take 6 (.take 7 (.one 8 (.one 9 .done)))))))))) 1000 (by decide +kernel) ?_;try (push_cast (maxSteps:=mS)))
     (try push_cast (maxSteps:=mS) [hd,hci])
     ((repeat' with_reducible refine And.intro ?_ ?_)<;>try exact sz)
     all_goals (first|rfl|(refine ⟨⟨by omega,by omega⟩,?_⟩;exact ⟨rfl,rfl,rfl⟩)|exact ⟨rfl,rfl⟩|exact ⟨rfl,rfl,rfl⟩|trace_state)
  ·rw [if_pos (.inl (by omega))] at hF
   subst hF
   have o2:¬ op=2:=by omega
   have o3:¬ op=3:=by omega
   have o4:¬ op=4:=by omega
   have o5:¬ op=5:=by omega
   have o6:¬ op=6:=by omega
   (try push_cast (maxSteps:=mS) [oe,o2,o3,o4,o5,o6])
   exact ⟨rfl,rfl,rfl⟩
theorem d52 (L:List Cl) (ks:List ByteArray) (ag:List Ag) (hL:okCl L) (hk:okKeys ks) (ha:ag.length≤1000) (hn:∀ a∈ag,a.nm.size≤1099511627776) :
  Spec V 66 [.c (.d (.sl 3 (L.map eRC))),.c (.d (.sl 1 (ks.map eS))),.c (.d (.sl 3 (ag.map eAg)))] (.tu [.c (.d (.sl 3 ((colsG L ks ag).1.map eRC))),i2 .i64 ((colsG L ks ag).2.1:Int),i2 .i64 (colsG L ks ag).2.2]):=by
 have hk':ks.length≤64:=hk
 have h98:=d98 L ks hL hk
 have h69:=names56 L hL.1
 obtain ⟨F,hF⟩:∃ F,F=colsG L ks ag:=⟨_,rfl⟩
 rw [← hF]
 unfold colsG at hF
 (refine Spec.of_go (L:=fun|0=>some [0,1,2]|1=>some [0,1,2,9,10]|2=>some [0,1,2,9,10,27]|3=>some [6,7,8]|4=>some [0,1,2,11]|5=>some [0,1,2,11,30,31,32]|6=>some [0,1,2,11,30,31,32,33]|7=>some [0,1,2,11,13,30,31,32]|8=>some [0,1,2,11,30,31,32]|9=>some [0,1,2,11,30,31,32]|10=>some [0,1,11,47,48,49]|11=>some [0,1,11,47,48,49,50]|12=>some [0,1,11,14,15,47,48,49]|13=>some [0,1,11,14,16,17,47,48,49]|14=>some [0,1,11,14,16,17,47,48,49,61]|15=>some [6,7,8]|16=>some [0,1,11,47,48,49]|17=>some [0,1,11,47,48,49]|18=>some [11,74]|19=>some [6,7,8]|20=>some [11,18,19]|21=>some [11,18,19,82]|22=>some [6,7,8]|23=>some [6,7,8]|_=>none) 1000 Go.Proofs.Tryz.func66 rfl rfl ⟨Nat.le_of_ble_eq_true rfl,rfl⟩ rfl ?_;unfold Go.Proofs.Tryz.f66;push_cast (maxSteps:=mS))
 refine ⟨_,h98,rfl,?_⟩
 unfold keysR
 by_cases c1:(checkC L).2=0
 ·rw [if_neg (by simp [c1])] at hF
  rw [if_neg (by simp [c1])]
  by_cases c2:(keyF L [] ks 0).2=0
  ·rw [if_neg (by simp [c2])] at hF
   have hfound:=key_found L ks [] 0 c2
   (try push_cast (maxSteps:=mS) [c2])
   refine LoopK.le (Le.nil 11 136 3 (by decide) (by (try push_cast (maxSteps:=mS)))) ?_
   (try push_cast (maxSteps:=mS))
   refine LoopK.ov (α:=Nat) [32] (fun k=>[i2 .i64 k]) (fun k=>[.rw 136 3 ((keyCols L (ks.take k)).map eRC)]) (fun k=>k≤ks.length) (fun k=>ks.length - k) 1000 0 (by omega) (by (try push_cast (maxSteps:=mS));rfl) ?_
   rintro k hk1
   by_cases hlt:k<ks.length
   ·have hv:=atT hlt;have hd:=ltT hlt
    have hkt:=keyCols_take (L:=L) hv
    have hkl:(keyCols L (ks.take k)).length=k:=by unfold keyCols;rw [List.length_map,List.length_take];omega
    have hfd:=hfound _ (List.getElem_mem hlt)
    have h68:=f55 (namesN L) ks[k] (by simpa [okLen,namesN] using hL.1)
    rw [at_place hfd] at h68
    have hpv:=(placeN_get hfd).1
    have hplt:=placeN_lt hfd
    generalize ks[k]=n at *
    generalize placeN L n=p at *
    generalize (findF n L 0).1=c at *
    have hci:(L.map eRC).getD p []=eRC c:=getD_map hpv
    (try push_cast (maxSteps:=mS) [hd,getD_map hv])
    ((repeat' with_reducible refine And.intro ?_ ?_)<;>try exact sz)
    refine ⟨_,h69,rfl,?_⟩
    (try push_cast (maxSteps:=mS))
    refine ⟨_,h68,rfl,?_⟩
    (try push_cast (maxSteps:=mS) [hci,hkl])
    ((repeat' with_reducible refine And.intro ?_ ?_)<;>try exact sz)
    refine ⟨k+1,by omega,by omega,Le.st ?_⟩
    rw [hkt]
    (try push_cast (maxSteps:=mS))
    all_goals (first|rfl|(simp;done)|(simp;rfl))
   ·have hd:=geF hlt
    rw [show ks.take k=ks from List.take_of_length_le (by omega)]
    have hkl:(keyCols L ks).length=ks.length:=by simp [keyCols]
    (try push_cast (maxSteps:=mS) [hd])
    clear hd hlt hk1
    refine LoopK.ov (α:=Nat × List Cl) [49] (fun s=>[i2 .i64 s.1]) (fun s=>[.rw 136 3 (s.2.map eRC)]) (fun s=>s.1≤ag.length∧s.2.length=ks.length+s.1∧aggsG L (ag.drop s.1) s.2 (ks.length+s.1)=aggsG L ag (keyCols L ks) ks.length∧∀ c∈s.2,c.name.size≤1099511627776) (fun s=>ag.length - s.1) 1000 (0,keyCols L ks) ⟨by simp,by simp [hkl],by simp,keyCols_name hL.2 hfound⟩ (by (try push_cast (maxSteps:=mS))<;>first|rfl|exact ⟨rfl,rfl⟩|exact ⟨rfl,rfl,rfl⟩|trivial) ?_
    rintro ⟨k,out⟩ ⟨hk1,hol,hrun,hon⟩
    simp only at hk1 hol hrun hon
    by_cases hlt:k<ag.length
    ·have hv:=atT hlt;have hd:=ltT hlt
     rw [drop_cons hv] at hrun
     simp only [aggsG] at hrun
     have h99:=d99 ag[k] L hL
     have hcn:=colG_name (L:=L) (hn _ (List.getElem_mem hlt))
     generalize ag[k]=a at *
     obtain ⟨op,col,nm⟩:=a
     generalize hcG:columnG L ⟨op,col,nm⟩=C at *
     obtain ⟨⟨cn,ck,cz⟩,ce⟩:=C
     simp only [eRC_eq,eAg_eq] at h99 hrun hcn
     (try push_cast (maxSteps:=mS) [hd,getD_map hv])
     ((repeat' with_reducible refine And.intro ?_ ?_)<;>try exact sz)
     refine ⟨_,h99,rfl,?_⟩
     by_cases c3:ce=0
     ·rw [if_neg (by simp [c3])] at hrun
      (try push_cast (maxSteps:=mS) [c3])
      ((repeat' with_reducible refine And.intro ?_ ?_)<;>try exact sz)
      refine ⟨(k+1,out++[⟨cn,ck,cz⟩]),⟨by simp only;omega,by simp only [List.length_append,List.length_cons,List.length_nil];omega,by simp only;exact hrun,?_⟩,by simp only;omega,Le.st ?_⟩
      ·intro c hc
       rcases List.mem_append.1 hc with hc|hc
       ·exact hon c hc
       ·rw [List.mem_singleton.1 hc];exact hcn
      (try push_cast (maxSteps:=mS))
      all_goals (first|rfl|(simp;done)|(simp;rfl))
     ·rw [if_pos c3] at hrun
      rw [← hrun,if_pos c3] at hF
      subst hF
      (try push_cast (maxSteps:=mS) [c3])
      ((repeat' with_reducible refine And.intro ?_ ?_)<;>try exact sz)
    ·have hd:=geF hlt
     rw [List.drop_eq_nil_of_le (by omega)] at hrun
     simp only [aggsG] at hrun
     rw [← hrun,if_neg (by simp)] at hF
     simp only at hF
     by_cases h0:out.length=0
     ·have hh:hedF (namesN out)=(0,13):=by
       unfold hedF
       rw [if_pos (by simpa [namesN] using h0)]
      rw [hh,if_pos (by simp)] at hF
      subst hF
      (try push_cast (maxSteps:=mS) [hd,h0])
     ·have h0':decide ((out.length:Int)=0)=false:=decide_eq_false (by omega)
      have h97:=names56 out (by simp only [okLen];omega)
      have h96:=d100 (namesN out) (by simp only [namesN,List.length_map];omega) (fun n hn=>by
       obtain ⟨c,hc,rfl⟩:=List.mem_map.1 hn
       exact hon c hc)
      by_cases c4:(hedF (namesN out)).2=0
      ·rw [if_neg (by simp [c4])] at hF
       subst hF
       (try push_cast (maxSteps:=mS) [hd,h0'])
       refine ⟨_,h97,rfl,?_⟩
       (try push_cast (maxSteps:=mS))
       refine ⟨_,h96,rfl,?_⟩
       (try push_cast (maxSteps:=mS) [c4])
      ·rw [if_pos c4] at hF
       subst hF
       (try push_cast (maxSteps:=mS) [hd,h0'])
       refine ⟨_,h97,rfl,?_⟩
       (try push_cast (maxSteps:=mS))
       refine ⟨_,h96,rfl,?_⟩
       (try push_cast (maxSteps:=mS) [c4])
  ·rw [if_pos c2] at hF
   subst hF
   (try push_cast (maxSteps:=mS) [c2])
 ·rw [if_pos c1] at hF
  rw [if_pos c1]
  subst hF
  (try push_cast (maxSteps:=mS) [c1])
theorem d127 (n:Int):Spec V 136 [i2 .i64 n] (.ag ((eV (intV n)).map .d)):=f106 n
end Go.LS.Tryz
