/- Contracts of the functions of the seat,one by one (part Z5);no condition but those that each bears. -/
import Derived.Test.YtfmbjaeppffdpaaGreatDoorPP
import Derived.Test.YtfmbjaeppffdpaaGreatDoorDE
import Derived.Test.YtfmbjaeppffdpaaGreatDoorDA
namespace Go.LS.Tryz
open Go Go.LS
set_option maxRecDepth 100000
set_option linter.unusedSimpArgs false
set_option linter.unusedVariables false
theorem z143 (l:List Cl) (ks:List ByteArray) (a b:List Vl) (hl:okLen l) (hk:okLen ks) (hf:∀ n∈ks,foundN l n) (ha:∀ p∈placesN l ks,p<a.length) (hb:∀ p∈placesN l ks,p<b.length) :
  Spec V 143 [.c (.d (.sl 3 (l.map eRC))),.c (.d (.sl 1 (ks.map eS))),.c (.d (.sl 4 (a.map eRV))),.c (.d (.sl 4 (b.map eRV)))] (b2 (alikeF (placesN l ks) a b)):=by
 have hkl:ks.length≤1099511627776:=hk
 (refine Spec.of_go (L:=fun|0=>some [0,1,2,3]|1=>some [0,2,3,12,13,14]|2=>some [0,2,3,12,13,14,15]|3=>some [0,2,3,10,12,13,14]|4=>some [0,2,3,11,12,13,14]|5=>some [0,2,3,12,13,14,30]|6=>some [8]|7=>some [0,2,3,12,13,14]|8=>some [8]|_=>none) 1000 Go.Proofs.Tryz.func143 rfl rfl ⟨Nat.le_of_ble_eq_true rfl,rfl⟩ rfl ?_;unfold Go.Proofs.Tryz.f143;push_cast (maxSteps:=mS))
 refine LoopK.s1 (α:=Nat) [14] (fun k=>[i2 .i64 k]) (fun k=>k≤ks.length∧alikeF (placesN l (ks.drop k)) a b=alikeF (placesN l ks) a b) (fun k=>ks.length - k) 1000 0 ⟨by omega,rfl⟩ (by (try push_cast (maxSteps:=mS))) ?_
 rintro k ⟨hk,hc⟩
 by_cases hlt:k<ks.length
 ·have hv:=atT hlt;have hd:=ltT hlt
  have hfk:=hf ks[k] (List.getElem_mem hlt)
  have hpm:placeN l ks[k]∈placesN l ks:=List.mem_map.2 ⟨_,List.getElem_mem hlt,rfl⟩
  have hva:=List.getElem?_eq_getElem (ha _ hpm)
  have hvb:=List.getElem?_eq_getElem (hb _ hpm)
  have hpa:=ha _ hpm
  have hpb:=hb _ hpm
  rw [drop_cons hv] at hc
  simp only [placesN,List.map_cons,alikeF,List.all_cons,vAt_get hva,vAt_get hvb] at hc
  (try push_cast (maxSteps:=mS) [hd,getD_map hv])
  ((repeat' with_reducible refine And.intro ?_ ?_)<;>try exact sz)
  refine ⟨_,names56 l hl,rfl,?_⟩
  (try push_cast (maxSteps:=mS))
  have hS:=f55 (namesN l) ks[k] (by simpa [okLen,namesN] using hl)
  rw [at_place hfk] at hS
  refine ⟨_,hS,rfl,?_⟩
  (try push_cast (maxSteps:=mS))
  (refine DrawK.of (.take 0 (.take 1 (.take 2 (.take 3 (.take 4 (.take 5 (.take 6 (.take 7 (.take 8 .done))))))))) 1000 (by decide +kernel) ?_;try (push_cast (maxSteps:=mS)))
  (try push_cast (maxSteps:=mS) [getD_map hva,getD_map hvb])
  ((repeat' with_reducible refine And.intro ?_ ?_)<;>try exact sz)
  rw [sameV_r]
  refine BrP.mk (fun h=>?_) (fun h=>?_)<;>try (push_cast (maxSteps:=mS) [h])
  ·have h':sameV a[placeN l ks[k]] b[placeN l ks[k]]=false:=by simpa using h
   rw [h',Bool.false_and] at hc
   exact hc
  ·have h':sameV a[placeN l ks[k]] b[placeN l ks[k]]=true:=by simpa using h
   rw [h',Bool.true_and] at hc
   ((repeat' with_reducible refine And.intro ?_ ?_)<;>try exact sz)
   refine ⟨k+1,⟨by omega,hc⟩,by omega,Le.st ?_⟩
   (try push_cast (maxSteps:=mS))
 ·have hd:=geF hlt
  rw [List.drop_eq_nil_of_le (by omega)] at hc
  (try push_cast (maxSteps:=mS) [hd])
  exact hc
def eI64 (n:Int):List DV:=[.v (.int .i64 n)]
@[push_cast] theorem eI64_eq (n:Int):eI64 n=[.v (.int .i64 n)]:=rfl
set_option maxHeartbeats 2000000 in
theorem z144 (l:List Int) (hl:l.length≤100000) (hi:∀ x∈l,inK .i64 x):Spec V 144 [.c (.d (.sl 1 (l.map eI64)))] (.tu [i2 .i64 (sumG l).1,i2 .i64 (sumG l).2]):=by
 obtain ⟨F,hF⟩:∃ F,F=sumG l:=⟨_,rfl⟩
 rw [← hF]
 unfold sumG at hF
 have hbd:∀ k,k≤l.length→-9223372036854775808*(k:Int)≤sumI (l.take k)∧sumI (l.take k)≤9223372036854775808*(k:Int):=fun k hk=>by
  have:=sumI_bd (l:=l.take k) (fun x hx=>hi x (List.mem_of_mem_take hx))
  rw [List.length_take,Nat.min_eq_left hk] at this
  exact this
 (refine Spec.of_go (L:=fun|0=>some [0]|1=>some [0,4,5]|2=>some [4,5,10,11,12]|3=>some [4,5,10,11,12,13]|4=>some [4,5,7,10,11,12]|5=>some [4,5,8,9,10,11,12]|6=>some [4,5,8,9,10,11,12,21]|7=>some [4,5,8,9,10,11,12]|8=>some [4,5,9,10,11,12]|9=>some [4,5,10,11,12]|10=>some [4,5,10,11,12]|11=>some [4,5,10,11,12]|12=>some [4,5,10,11,12]|13=>some [4,5,44]|14=>some [2,3]|15=>some [2,3]|_=>none) 1000 Go.Proofs.Tryz.func144 rfl rfl ⟨Nat.le_of_ble_eq_true rfl,rfl⟩ rfl ?_;unfold Go.Proofs.Tryz.f144;push_cast (maxSteps:=mS))
 refine LoopK.s1 (α:=Nat) [12,4,5] (fun k=>[i2 .i64 k,i2 .i64 (sumI (l.take k) / 4294967296),i2 .i64 (sumI (l.take k) % 4294967296)]) (fun k=>k≤l.length) (fun k=>l.length - k) 1000 0 (by omega) (by (try push_cast (maxSteps:=mS))<;>first|rfl|exact ⟨rfl,rfl⟩|trace_state) ?_
 rintro k hk
 have hb:=hbd k hk
 by_cases hlt:k<l.length
 ·have hv:=atT hlt;have hd:=ltT hlt
  have hst:=sumI_take hv
  have hx:=hi _ (List.getElem_mem hlt)
  generalize l[k]=n at *
  generalize sumI (l.take k)=S at *
  obtain ⟨S2,hS2⟩:∃ x,x=sumI (l.take (k+1)):=⟨_,rfl⟩
  rw [← hS2] at hst
  have hn1:-9223372036854775808≤n:=hx.1
  have hn2:n≤9223372036854775807:=hx.2
  have hh:=halves n
  have hlo:0≤S % 4294967296∧S % 4294967296<4294967296:=by omega
  have hlr:0≤n % 4294967296∧n % 4294967296<4294967296:=by omega
  have hp:=tdiv_pos (n:=S % 4294967296+n % 4294967296) (by omega)
  have hE1:S / 4294967296+n / 4294967296+(S % 4294967296+n % 4294967296) / 4294967296=S2 / 4294967296:=by omega
  have hE2:(S % 4294967296+n % 4294967296) % 4294967296=S2 % 4294967296:=by omega
  obtain ⟨hp1,hp2⟩:=hp
  by_cases h:n.tmod 4294967296<0
  ·obtain ⟨e1,e2⟩:=hh.1 h
   have hd2:decide (n.tmod 4294967296<0)=true:=decide_eq_true h
   clear hh hp1 hp2
   have hp1:(S % 4294967296+n % 4294967296).tdiv 4294967296=(S % 4294967296+n % 4294967296) / 4294967296:=(tdiv_pos (by omega)).1
   have hp2:(S % 4294967296+n % 4294967296).tmod 4294967296=(S % 4294967296+n % 4294967296) % 4294967296:=(tdiv_pos (by omega)).2
   (try push_cast (maxSteps:=mS) [hd,getD_map hv,hd2,e1,e2,hp1,hp2,hE1,hE2])
   ((repeat' with_reducible refine And.intro ?_ ?_)<;>try exact sz)
   all_goals (try exact ix)
   refine ⟨k+1,by omega,by omega,Le.st ?_⟩
   rw [← hS2]
   (try push_cast (maxSteps:=mS))
   all_goals rfl
  ·obtain ⟨e1,e2⟩:=hh.2 h
   have hd2:decide (n % 4294967296<0)=false:=decide_eq_false (by omega)
   (try push_cast (maxSteps:=mS) [hd,getD_map hv,hd2,e1,e2,hp1,hp2,hE1,hE2])
   ((repeat' with_reducible refine And.intro ?_ ?_)<;>try exact sz)
   all_goals (try exact ix)
   refine ⟨k+1,by omega,by omega,Le.st ?_⟩
   rw [← hS2]
   (try push_cast (maxSteps:=mS))
   all_goals rfl
 ·have hd:=geF hlt
  have hkk:k=l.length:=by omega
  subst hkk
  rw [List.take_length] at *
  have hsh:=sum_hi (sumI l)
  generalize sumI l=S at *
  (try push_cast (maxSteps:=mS) [hd])
  by_cases c1:S / 4294967296 < -2147483648
  ·rw [if_neg (hsh.1 (.inl c1))] at hF
   subst hF
   (try push_cast (maxSteps:=mS) [c1])
  ·by_cases c2:2147483647<S / 4294967296
   ·rw [if_neg (hsh.1 (.inr c2))] at hF
    subst hF
    (try push_cast (maxSteps:=mS) [c1,c2])
   ·have c3:-9223372036854775808≤S∧S≤9223372036854775807:=by
     by_cases c:-9223372036854775808≤S∧S≤9223372036854775807
     ·exact c
     ·rcases hsh.2 c with h|h
      ·exact absurd h c1
      ·exact absurd h c2
    rw [if_pos c3] at hF
    subst hF
    have e:S / 4294967296*4294967296+S % 4294967296=S:=by omega
    (try push_cast (maxSteps:=mS) [c1,c2,e])
    ((repeat' with_reducible refine And.intro ?_ ?_)<;>try exact sz)
    all_goals (try exact ix)
    all_goals trace_state
def eRRs (g:List (List Vl)):List DV:=[.sl 1 (g.map eRR)]
@[push_cast] theorem eRRs_eq (g:List (List Vl)):eRRs g=[.sl 1 (g.map eRR)]:=rfl
theorem partsR_next {ps:List Nat} {B:List (List Vl)} {k:Nat} {r:List Vl} (h:B[k]?=some r):partsR ps B (k+1)=partsR ps B k++if firstR ps (B.take k) r=true then [(B.drop k).filter fun x=>alikeF ps x r] else []:=by
 rw [partsR,show B.getD k []=r by rw [List.getD_eq_getElem?_getD,h];rfl]
theorem firstR_take {ps:List Nat} {S:List (List Vl)} {j:Nat} {x r:List Vl} (h:S[j]?=some x):firstR ps (S.take (j+1)) r=(firstR ps (S.take j) r && !alikeF ps x r):=by
 unfold firstR
 rw [List.take_add_one,h,Option.toList_some,List.all_append]
 simp
theorem partsR_len (ps:List Nat) (B:List (List Vl)):∀ k,(partsR ps B k).length≤k
 | 0=>Nat.le_refl 0
 | k+1=>by
  have:=partsR_len ps B k
  rw [partsR]
  split<;>simp<;>omega
set_option maxHeartbeats 4000000 in
theorem z111 (t:Tb) (ks:List ByteArray) (ht:okT2 t) (hk:okKeys ks) (hf:∀ n∈ks,foundN t.L n) (hw:∀ r∈t.R,r.length=t.L.length) (hR:t.R.length≤90000) :
  Spec V 111 [.ag ((eRT t).map .d),.c (.d (.sl 1 (ks.map eS)))] (.c (.d (.sl 1 ((partC (placesN t.L ks) t.R).map eRRs)))):=by
 have hpr:=partsR_all (ps:=placesN t.L ks) ht.right
 have hplt:=placesN_lt hf
 obtain ⟨L,B⟩:=t
 obtain ⟨hL,_,hAv,_⟩:=ht
 simp only at hL hAv hpr hplt hw hR hf
 have hk':ks.length≤64:=hk
 have hko:okLen ks:=by simp only [okLen];omega
 have h143:=fun a b (ha:a∈B) (hb:b∈B)=>z143 L ks a b hL.1 hko hf (fun p hp=>by rw [hw a ha];exact hplt p hp) (fun p hp=>by rw [hw b hb];exact hplt p hp)
 obtain ⟨F,hF⟩:∃ F,F=partC (placesN L ks) B:=⟨_,rfl⟩
 rw [← hF]
 have hpl:(placesN L ks).length=ks.length:=by simp [placesN]
 unfold partC at hF
 rw [hpl] at hF
 generalize placesN L ks=ps at *
 (refine Spec.of_go (L:=fun|0=>some [1,2]|1=>some [1,2,5]|2=>some [1,2,5,16]|3=>some [4]|4=>some [1,2,5,23,24,25]|5=>some [1,2,5,23,24,25,26]|6=>some [1,2,5,6,7,23,24,25]|7=>some [1,2,5,6,7,8,23,24,25]|8=>some [1,2,5,6,7,8,23,24,25,33,34,35]|9=>some [1,2,5,6,7,8,23,24,25,33,34,35,36]|10=>some [1,2,5,6,7,8,10,23,24,25,33,34,35]|11=>some [1,2,5,6,7,8,23,24,25,33,34,35]|12=>some [1,2,5,6,7,8,23,24,25,33,34,35]|13=>some [1,2,5,6,7,23,24,25,51]|14=>some [1,2,5,6,7,11,23,24,25]|15=>some [1,2,5,7,11,23,24,25,55,56,57]|16=>some [1,2,5,7,11,23,24,25,55,56,57,58]|17=>some [1,2,5,7,11,13,23,24,25,55,56,57]|18=>some [1,2,5,7,11,13,23,24,25,55,56,57,66]|19=>some [1,2,5,7,11,23,24,25,55,56,57]|20=>some [1,2,5,7,11,23,24,25,55,56,57]|21=>some [1,2,5,23,24,25]|22=>some [1,2,5,23,24,25]|23=>some [4]|_=>none) 1000 Go.Proofs.Tryz.func111 rfl rfl ⟨Nat.le_of_ble_eq_true rfl,rfl⟩ rfl ?_;unfold Go.Proofs.Tryz.f111;push_cast (maxSteps:=mS))
 by_cases c0:ks.length=0
 ·rw [if_pos c0] at hF
  subst hF
  (try push_cast (maxSteps:=mS) [c0])
  exact ⟨.inl trivial,by decide⟩
 ·rw [if_neg c0] at hF
  have c1:¬ (ks.length:Int)=0:=by omega
  (try push_cast (maxSteps:=mS) [c1])
  refine LoopK.le (Le.nil 5 72 1 (by decide) (by (try push_cast (maxSteps:=mS)))) ?_
  (try push_cast (maxSteps:=mS))
  refine LoopK.ov (α:=Nat) [25] (fun k=>[i2 .i64 k]) (fun k=>[.bx 74 [.d (.sl 3 (L.map eRC)),.d (.sl 1 (B.map eRR))],.rw 72 1 ((partsR ps B k).map eRRs)]) (fun k=>k≤B.length) (fun k=>B.length - k) 1000 0 (by omega) (by (try push_cast (maxSteps:=mS))<;>first|rfl|exact ⟨rfl,rfl⟩|exact ⟨rfl,rfl,rfl⟩|trivial) ?_
  rintro k hk1
  by_cases hlt:k<B.length
  ·have hv:=atT hlt;have hd:=ltT hlt
   have hnx:=partsR_next (ps:=ps) hv
   have hrm:=List.getElem_mem hlt
   have hpl2:=partsR_len ps B k
   generalize B[k]=r at *
   generalize partsR ps B k=out at *
   obtain ⟨S,hS⟩:∃ S,S=B.take k:=⟨_,rfl⟩
   obtain ⟨D,hD⟩:∃ D,D=B.drop k:=⟨_,rfl⟩
   have hSl:S.length=k:=by rw [hS,List.length_take];omega
   have hDl:D.length=B.length - k:=by rw [hD,List.length_drop]
   have hSm:∀ x∈S,x∈B:=fun x hx=>by rw [hS] at hx;exact List.mem_of_mem_take hx
   have hDm:∀ x∈D,x∈B:=fun x hx=>by rw [hD] at hx;exact List.mem_of_mem_drop hx
   have eS:List.take k (B.map eRR)=S.map eRR:=by rw [hS,List.map_take]
   have eD:List.drop k (B.map eRR)=D.map eRR:=by rw [hD,List.map_drop]
   rw [← hS,← hD] at hnx
   (try push_cast (maxSteps:=mS) [hd,getD_map hv,eS,eD])
   ((repeat' with_reducible refine And.intro ?_ ?_)<;>try exact sz)
   refine LoopK.s1 (α:=Nat) [35,8] (fun j=>[i2 .i64 j,b2 (firstR ps (S.take j) r)]) (fun j=>j≤S.length) (fun j=>S.length - j) 1000 0 (by omega) (by (try push_cast (maxSteps:=mS))<;>first|rfl|exact ⟨rfl,rfl⟩|trace_state) ?_
   rintro j hj
   by_cases hlt2:j<S.length
   ·have hv2:=List.getElem?_eq_getElem hlt2
    have hd2:decide ((j:Int)<(S.length:Int))=true:=decide_eq_true (by omega)
    have hft:=firstR_take (ps:=ps) (r:=r) hv2
    have h1:=h143 S[j] r (hSm _ (List.getElem_mem hlt2)) hrm
    generalize S[j]=x at *
    generalize firstR ps (S.take j) r=b at *
    (try push_cast (maxSteps:=mS) [hd2,getD_map hv2])
    ((repeat' with_reducible refine And.intro ?_ ?_)<;>try exact sz)
    cases b with
    | false =>
     rw [Bool.false_and] at hft
     (try push_cast (maxSteps:=mS))
     ((repeat' with_reducible refine And.intro ?_ ?_)<;>try exact sz)
     refine ⟨j+1,by omega,by omega,Le.st ?_⟩
     rw [hft]
     (try push_cast (maxSteps:=mS))
     all_goals rfl
    | true =>
     rw [Bool.true_and] at hft
     (try push_cast (maxSteps:=mS))
     refine ⟨_,h1,rfl,?_⟩
     (try push_cast (maxSteps:=mS))
     ((repeat' with_reducible refine And.intro ?_ ?_)<;>try exact sz)
     refine ⟨j+1,by omega,by omega,Le.st ?_⟩
     rw [hft]
     (try push_cast (maxSteps:=mS))
     all_goals rfl
   ·have hd2:decide ((j:Int)<(S.length:Int))=false:=decide_eq_false (by omega)
    rw [show S.take j=S from List.take_of_length_le (by omega)]
    cases hb:firstR ps S r with
    | false =>
     rw [hb,if_neg (by simp),List.append_nil] at hnx
     (try push_cast (maxSteps:=mS) [hd2])
     ((repeat' with_reducible refine And.intro ?_ ?_)<;>try exact sz)
     refine ⟨k+1,by omega,by omega,Le.st ?_⟩
     rw [hnx]
     (try push_cast (maxSteps:=mS))
     all_goals rfl
    | true =>
     rw [hb,if_pos rfl] at hnx
     (try push_cast (maxSteps:=mS) [hd2,eD])
     ((repeat' with_reducible refine And.intro ?_ ?_)<;>try exact sz)
     refine LoopK.le (Le.nil 11 39 1 (by decide) (by (try push_cast (maxSteps:=mS)))) ?_
     (try push_cast (maxSteps:=mS))
     refine LoopK.ov (α:=Nat) [57] (fun j=>[i2 .i64 j]) (fun j=>[.bx 74 [.d (.sl 3 (L.map eRC)),.d (.sl 1 (B.map eRR))],.rw 72 1 (out.map eRRs),.rw 39 1 (((D.take j).filter fun x=>alikeF ps x r).map eRR)]) (fun j=>j≤D.length) (fun j=>D.length - j) 1000 0 (by omega) (by (try push_cast (maxSteps:=mS))<;>first|rfl|exact ⟨rfl,rfl⟩|exact ⟨rfl,rfl,rfl⟩|trivial) ?_
     rintro j hj
     by_cases hlt3:j<D.length
     ·have hv3:=List.getElem?_eq_getElem hlt3
      have hd3:decide ((j:Int)<(D.length:Int))=true:=decide_eq_true (by omega)
      have hft:=filterTake (p:=fun x=>alikeF ps x r) hv3
      have hfl:((D.take j).filter fun x=>alikeF ps x r).length≤j:=by
       have:=List.length_filter_le (fun x=>alikeF ps x r) (D.take j)
       rw [List.length_take] at this;omega
      have h1:=h143 D[j] r (hDm _ (List.getElem_mem hlt3)) hrm
      generalize D[j]=x at *
      generalize (D.take j).filter (fun x=>alikeF ps x r)=g at *
      (try push_cast (maxSteps:=mS) [hd3,getD_map hv3])
      ((repeat' with_reducible refine And.intro ?_ ?_)<;>try exact sz)
      refine ⟨_,h1,rfl,?_⟩
      cases hx:alikeF ps x r with
      | false =>
       rw [hx,if_neg (by simp),List.append_nil] at hft
       (try push_cast (maxSteps:=mS))
       ((repeat' with_reducible refine And.intro ?_ ?_)<;>try exact sz)
       refine ⟨j+1,by omega,by omega,Le.st ?_⟩
       rw [hft]
       (try push_cast (maxSteps:=mS))
       all_goals (first|rfl|exact ⟨rfl,rfl⟩|trace_state)
      | true =>
       rw [hx,if_pos rfl] at hft
       (try push_cast (maxSteps:=mS))
       ((repeat' with_reducible refine And.intro ?_ ?_)<;>try exact sz)
       all_goals (try (simp only [maxLen];omega))
       refine ⟨j+1,by omega,by omega,Le.st ?_⟩
       rw [hft,List.map_append]
       (try push_cast (maxSteps:=mS))
       all_goals (first|rfl|exact ⟨rfl,rfl⟩|trace_state)
     ·have hd3:decide ((j:Int)<(D.length:Int))=false:=decide_eq_false (by omega)
      rw [show D.take j=D from List.take_of_length_le (by omega)]
      (try push_cast (maxSteps:=mS) [hd3])
      ((repeat' with_reducible refine And.intro ?_ ?_)<;>try exact sz)
      all_goals (try (simp only [maxLen];omega))
      refine ⟨k+1,by omega,by omega,Le.st ?_⟩
      rw [hnx,List.map_append]
      (try push_cast (maxSteps:=mS))
      all_goals (first|rfl|exact ⟨rfl,rfl⟩|trace_state)
  ·have hd:=geF hlt
   have hkk:k=B.length:=by omega
   subst hkk
   rw [hpr,← hF]
   (try push_cast (maxSteps:=mS) [hd])
end Go.LS.Tryz
