/- Part ZM: 7 texts,one behind the other. -/
import Derived.Test.YtfmbjaeppffdpaaGreatDoorSB
import Derived.Test.YtfmbjaeppffdpaaGreatDoorPS
import Derived.Test.YtfmbjaeppffdpaaGreatDoorLY
namespace Go.LS.Tryz
open Go Go.LS
set_option maxRecDepth 100000
@[push_cast] def lv0ZM:Nat→Option (List Nat):=fun|0=>some [0,1,2,3,10]|1=>some [0,1,2,3,10,13]|2=>some [0,1,2,3,10]|3=>some [0,1,2,3,10]|_=>none
@[push_cast] def lv1ZM:Nat→Option (List Nat):=fun|0=>some [0,1,2,3,4,28]|1=>some [0,1,3,4,10]|2=>some [0,1,4,10,11]|3=>some [0,1,4,10,11,33]|4=>some [0,1,4,10,11,12]|5=>some [0,1,4,10,11,12,50]|6=>some [0,1,4,10,11]|7=>some [0,1,4,10,11]|8=>some [0,10,13]|9=>some [0,10,13,58]|10=>some [0,10,13]|11=>some [0,10,13]|12=>some [0,1,2,3,4,80]|13=>some [0,2,4,14]|14=>some [0,2,4,14,15]|15=>some [0,2,4,14,15,85]|16=>some [0,2,4,14,15,16]|17=>some [0,2,4,14,15,16,103]|18=>some [0,2,4,14,15]|19=>some [0,2,4,14,15]|20=>some [0,14,17]|21=>some [0,14,17,110]|22=>some [0,14,17]|23=>some [0,14,17]|24=>some [0,1,2,3,4,18]|25=>some [0,1,2,3,4,18,19]|26=>some [0,1,2,3,4,18,19]|27=>some [0,1,2,3,4,18,19,140]|28=>some [0,1,2,3,4,18,19,20]|29=>some [0,1,2,3,4,18,19,20,21]|30=>some [0,1,2,3,4,18,19,20]|31=>some [0,1,2,3,4,18,19,20,21]|32=>some [0,1,2,3,4,18,19,20,21,22]|33=>some [0,1,2,3,4,18,19,20,21,22,151]|34=>some [0,1,2,3,4,18,19,20,21,22,23]|35=>some [0,1,2,3,4,18,19,20,21,22,23,171]|36=>some [0,1,2,3,4,18,19,20,21,22]|37=>some [0,1,2,3,4,18,19,20,21,22]|38=>some [0,1,2,3,4,18,20,24]|39=>some [0,1,2,3,4,18,20,24,185]|40=>some [0,1,3,4,18,20,24]|41=>some [0,1,3,4,18,20,24,199]|42=>some [0,3,4,18,24]|43=>some [0,3,4,18,24,213]|44=>some []|_=>none
@[push_cast] def lv2ZM:Nat→Option (List Nat):=fun|0=>some [0,1,2,6]|1=>some [0,1,2,6,7,8]|2=>some [0,1,2,6,7,8,13]|3=>some [0,1,2,6,8]|4=>some [0,1,2,6,7,8]|5=>some [0,1,2,6,7,8]|6=>some [0,1,2,6]|7=>some [0,1,2,6,30]|8=>some [0,1,2,6,7,8]|9=>some [0,1,2,6,7,8,35]|10=>some [0,1,2,6,8]|11=>some [0,1,2,6,7,8]|12=>some [0,1,2,6,7,8]|13=>some [0,1,2,6,7,9]|14=>some [0,1,2,6,7,9,54]|15=>some [0,1,2,6]|16=>some [0,1,2,6]|_=>none
@[push_cast] def lv3ZM:Nat→Option (List Nat):=fun|0=>some [0,2,3,4,10]|1=>some [0,2,4,10,11]|2=>some [0,2,4,10,11,20]|3=>some [0,2,4,10,11,23]|4=>some [0,2,4,10,11]|5=>some [0,2,4,10,11]|6=>some [0,2,4,10,11]|7=>some [0,2,4,10,11]|8=>some []|_=>none
@[push_cast] def lv4ZM:Nat→Option (List Nat):=fun|0=>some []|_=>none
set_option linter.unusedSimpArgs false
set_option linter.unusedVariables false
set_option maxHeartbeats 4000000 in
theorem z187 (cl:DV) (A X M Y B:List (List Vl)) (hl:X.length=Y.length) (hn:okLen (A++X++M++Y++B)) :
  SpecM V 187 28 1 ((A++X++M++Y++B).map eR) [i2 .i64 A.length,i2 .i64 (A.length+X.length+M.length),i2 .i64 X.length,.c (.d cl)] ((A++Y++M++X++B).map eR) (.tu []):=by
 have hnl:A.length+X.length+M.length+Y.length+B.length≤1099511627776:=by
  have:(A++X++M++Y++B).length≤1099511627776:=hn
  simpa [Nat.add_assoc] using this
 (refine SpecM.of_go (L:=lv0ZM) 1000 Go.Proofs.Tryz.func187 rfl rfl ⟨Nat.le_of_ble_eq_true rfl,rfl⟩ rfl (by simp only [List.length_map,List.length_append];omega) (by decide) ?_;intro cp;unfold Go.Proofs.Tryz.f187;push_cast (maxSteps:=mS))
 refine LoopK.ov (α:=Nat) [10] (fun q=>[i2 .i64 q]) (fun q=>[.rw (pinT cp 28) 1 ((A++(Y.take q++X.drop q)++M++(X.take q++Y.drop q)++B).map eR)]) (fun q=>q≤X.length) (fun q=>X.length - q) 1000 0 (by omega) (by (try push_cast (maxSteps:=mS))<;>first|rfl|simp) ?_
 rintro q hq
 by_cases hlt:q<X.length
 ·have hd:decide ((q:Int)<(X.length:Int))=true:=decide_eq_true (by omega)
  have hx:=List.getElem?_eq_getElem hlt
  have hy:=List.getElem?_eq_getElem (show q<Y.length by omega)
  generalize X[q]=x at *
  generalize Y[q]=y at *
  have hst:=swap_step (A:=A) (M:=M) (B:=B) hl hx hy
  obtain ⟨hgx,hgy⟩:=swap_get (A:=A) (M:=M) (B:=B) hl hx hy
  obtain ⟨D,hD⟩:∃ D,D=A++(Y.take q++X.drop q)++M++(X.take q++Y.drop q)++B:=⟨_,rfl⟩
  have hDl:D.length=A.length+X.length+M.length+Y.length+B.length:=by rw [hD];simp only [List.length_append,List.length_take,List.length_drop];omega
  rw [← hD] at hst hgx hgy ⊢
  have hTx:((A.length:Int)+(q:Int)).toNat=A.length+q:=by omega
  have hTy:((A.length:Int)+(X.length:Int)+(M.length:Int)+(q:Int)).toNat=A.length+X.length+M.length+q:=by omega
  have hgd:((D.map eR).set (A.length+q) [(.sl 4 (y.map eV))]).getD (A.length+X.length+M.length+q) []=eR y:=by
   rw [List.getD_eq_getElem?_getD,List.getElem?_set_ne (by omega),List.getElem?_map,hgy];rfl
  have hset:((D.map eR).set (A.length+q) [(.sl 4 (y.map eV))]).set (A.length+X.length+M.length+q) [(.sl 4 (x.map eV))]=(A++(Y.take (q+1)++X.drop (q+1))++M++(X.take (q+1)++Y.drop (q+1))++B).map eR:=by
   rw [← hst,List.map_set,List.map_set];rfl
  (try push_cast (maxSteps:=mS) [hd])
  refine F4.DrawK.cut (.take 0 (.take 1 (.take 2 (.take 3 (.take 4 (.take 5 (.take 6 (.take 8 (.take 9 (.take 10 (.take 11 (.take 12 (.take 13 (.take 14 (.take 15 (.take 16 (.take 17 (.take 18 (.take 19 (.take 20 (.two 7 (.one 21 (.take 22 (.one 23 .done))) 21 (.take 7 (.take 22 (.one 23 .done)))))))))))))))))))))))) 1000 (by decide +kernel) ⟨[(10,i2 .i64 q),(0,.c (.os 0)),(1,i2 .i64 A.length),(2,i2 .i64 (A.length+X.length+M.length)),(3,i2 .i64 X.length)],[.rw (pinT cp 28) 1 ((A++(Y.take (q+1)++X.drop (q+1))++M++(X.take (q+1)++Y.drop (q+1))++B).map eR)]⟩ ?_ ?_
  ·(try push_cast (maxSteps:=mS) [hTx,hTy,getD_map hgx,getD_map hgy])
   ((repeat' with_reducible refine And.intro ?_ ?_)<;>try exact sz)
   all_goals (try push_cast (maxSteps:=mS) [hTx,hTy,getD_map hgx,getD_map hgy])
   all_goals ((repeat' with_reducible refine And.intro ?_ ?_)<;>try exact sz)
   all_goals (try simp only [List.length_set,List.length_map])
   all_goals (try push_cast (maxSteps:=mS) [hTx,hTy,hgd,hset])
   all_goals ((repeat' with_reducible refine And.intro ?_ ?_)<;>try exact sz)
   all_goals (first|omega|(refine Le.st ?_;(try push_cast (maxSteps:=mS) [hgd,hset]);first|done|rfl|exact ⟨rfl,rfl⟩)|trace_state)
  (try push_cast (maxSteps:=mS))
  ((repeat' with_reducible refine And.intro ?_ ?_)<;>try exact sz)
  refine ⟨q+1,by omega,by omega,Le.st ?_⟩
  (try push_cast (maxSteps:=mS))
  all_goals (first|rfl|trace_state)
 ·have hd:=geF hlt
  have e:A++(Y.take q++X.drop q)++M++(X.take q++Y.drop q)++B=A++Y++M++X++B:=by
   rw [List.take_of_length_le (by omega),List.take_of_length_le (by omega),List.drop_eq_nil_of_le (by omega),List.drop_eq_nil_of_le (by omega)];simp
  rw [e]
  (try push_cast (maxSteps:=mS) [hd])
set_option maxHeartbeats 4000000 in
theorem z181 (cl:DV) (A X Y B:List (List Vl)) (hx0:0<X.length) (hy0:0<Y.length) (hn:okLen (A++X++Y++B)) :
  SpecM V 181 28 1 ((A++X++Y++B).map eR) [i2 .i64 A.length,i2 .i64 (A.length+X.length),i2 .i64 (A.length+X.length+Y.length),.c (.d cl)] ((A++Y++X++B).map eR) (.tu []):=by
 have hnl:A.length+X.length+Y.length+B.length≤1099511627776:=by
  have:(A++X++Y++B).length≤1099511627776:=hn
  simpa [Nat.add_assoc] using this
 (refine SpecM.of_go (L:=lv3ZM) 1000 Go.Proofs.Tryz.func181 rfl rfl ⟨Nat.le_of_ble_eq_true rfl,rfl⟩ rfl (by simp only [List.length_map,List.length_append];omega) (by decide) ?_;intro cp;unfold Go.Proofs.Tryz.f181;push_cast (maxSteps:=mS))
 ((repeat' with_reducible refine And.intro ?_ ?_)<;>try exact sz)
 have e1:(A.length:Int)+X.length - A.length=X.length:=by omega
 have e2:(A.length:Int)+X.length+Y.length - (A.length+X.length)=Y.length:=by omega
 (try push_cast (maxSteps:=mS) [e1,e2])
 ((repeat' with_reducible refine And.intro ?_ ?_)<;>try exact sz)
 obtain ⟨G,hG⟩:∃ G,G=A++Y++X++B:=⟨_,rfl⟩
 obtain ⟨m,hm⟩:∃ m,m=A.length+X.length:=⟨_,rfl⟩
 refine LoopK.ov (α:=List (List Vl) × List (List Vl) × List (List Vl) × List (List Vl)) [10,11] (fun p=>[i2 .i64 p.2.1.length,i2 .i64 p.2.2.1.length]) (fun p=>[.rw (pinT cp 28) 1 ((p.1++p.2.1++p.2.2.1++p.2.2.2).map eR)])
  (fun p=>p.1.length+p.2.1.length=m∧0<p.2.1.length∧0<p.2.2.1.length∧p.1.length+p.2.1.length+p.2.2.1.length+p.2.2.2.length=A.length+X.length+Y.length+B.length∧p.1++p.2.2.1++p.2.1++p.2.2.2=G) (fun p=>p.2.1.length+p.2.2.1.length) 1000 (A,X,Y,B) ⟨hm.symm,hx0,hy0,rfl,hG.symm⟩ (by (try push_cast (maxSteps:=mS))<;>first|rfl|trace_state) ?_
 rintro ⟨P,U,W,Q⟩ ⟨h1,h2,h3,h4,h5⟩
 simp only at h1 h2 h3 h4 h5
 rw [← hG]
 by_cases hne:U.length=W.length
 ·have hd:decide ((U.length:Int)=(W.length:Int))=true:=decide_eq_true (by omega)
  have hS:=z187 cl P U [] W Q hne (by simp only [okLen,List.length_append,List.length_nil];omega)
  have a1:(A.length:Int)+X.length - U.length=P.length:=by omega
  have a2:(A.length:Int)+X.length=P.length+U.length:=by omega
  simp only [List.append_nil,List.length_nil,Int.natCast_zero,Int.add_zero] at hS
  rw [h5] at hS
  (try push_cast (maxSteps:=mS) [hd,a1])
  ((repeat' with_reducible refine And.intro ?_ ?_)<;>try exact sz)
  all_goals (try exact ix)
  rw [a2]
  exact ⟨_,_,by rw [show pinT cp 28 % 1000000=28 from tyOf_pinT cp 28];exact hS,rfl⟩
 ·have hd:decide ((U.length:Int)=(W.length:Int))=false:=decide_eq_false (by omega)
  by_cases hgt:W.length<U.length
  ·have hd2:decide ((W.length:Int)<(U.length:Int))=true:=decide_eq_true (by omega)
   obtain ⟨U1,U2,rfl,l1⟩:∃ U1 U2,U=U1++U2∧U1.length=W.length:=⟨U.take W.length,U.drop W.length,(List.take_append_drop _ _).symm,by rw [List.length_take];omega⟩
   simp only [List.length_append] at h1 h2 h4 hne hgt hd hd2 ⊢
   have hS:=z187 cl P U1 U2 W Q l1 (by simp only [okLen,List.length_append];omega)
   have a1:(A.length:Int)+X.length - ((U1.length:Int)+U2.length)=P.length:=by omega
   have a2:(A.length:Int)+X.length=P.length+U1.length+U2.length:=by omega
   have a3:(U1.length:Int)+U2.length - W.length=U2.length:=by omega
   have a4:(U1.length:Int)=W.length:=by omega
   have e5:P++(U1++U2)++W++Q=P++U1++U2++W++Q:=by simp
   rw [e5]
   push_cast at hd hd2
   (try push_cast (maxSteps:=mS) [hd,hd2,a1,a3])
   ((repeat' with_reducible refine And.intro ?_ ?_)<;>try exact sz)
   all_goals (try exact ix)
   rw [a2]
   rw [a4] at hS
   refine ⟨_,_,by rw [show pinT cp 28 % 1000000=28 from tyOf_pinT cp 28,a4];exact hS,inK64 (by omega) (by omega),(P++W,U2,U1,Q),⟨by simp only [List.length_append];omega,by simp only;omega,by simp only;omega,by simp only [List.length_append];omega,by rw [← h5];simp⟩,by simp only;omega,Le.st ?_⟩
   (try push_cast (maxSteps:=mS) [a4])
   all_goals (first|rfl|trace_state)
  ·have hd2:decide ((W.length:Int)<(U.length:Int))=false:=decide_eq_false (by omega)
   obtain ⟨W1,W2,rfl,l1⟩:∃ W1 W2,W=W1++W2∧W2.length=U.length:=⟨W.take (W.length - U.length),W.drop (W.length - U.length),(List.take_append_drop _ _).symm,by rw [List.length_drop];omega⟩
   simp only [List.length_append] at h1 h3 h4 hne hgt hd hd2 ⊢
   have hS:=z187 cl P U W1 W2 Q l1.symm (by simp only [okLen,List.length_append];omega)
   have a1:(A.length:Int)+X.length - U.length=P.length:=by omega
   have a2:(A.length:Int)+X.length=P.length+U.length:=by omega
   have a3:(A.length:Int)+X.length+((W1.length:Int)+W2.length) - U.length=P.length+U.length+W1.length:=by omega
   have a4:(W1.length:Int)+W2.length - U.length=W1.length:=by omega
   have e5:P++U++(W1++W2)++Q=P++U++W1++W2++Q:=by simp
   rw [e5]
   push_cast at hd hd2
   (try push_cast (maxSteps:=mS) [hd,hd2,a1,a3,a4])
   ((repeat' with_reducible refine And.intro ?_ ?_)<;>try exact sz)
   all_goals (try exact ix)
   refine ⟨_,_,by rw [show pinT cp 28 % 1000000=28 from tyOf_pinT cp 28];exact hS,inK64 (by omega) (by omega),(P,W2,W1,U++Q),⟨by simp only;omega,by simp only;omega,by simp only;omega,by simp only [List.length_append];omega,by rw [← h5];simp⟩,by simp only;omega,Le.st ?_⟩
   (try push_cast (maxSteps:=mS) [l1])
   all_goals (first|rfl|(congr 1;simp;done)|trace_state)
theorem inKu64161 {n:Int} (h1:0≤n) (h2:n≤9223372036854775807):inK .u64 n:=⟨h1,by have:IntKind.u64.max=18446744073709551615:=rfl;omega⟩
set_option maxHeartbeats 16000000 in
theorem z161a (f:List Vl→List Vl→Int) (hf3:Ord3 f) (fc:FuncId) (cap:DV) (A X Y B:List (List Vl)) (hx0:0<X.length) (hy0:0<Y.length) (hX:ordL f X) (hY:ordL f Y) (hf:∀ S,S=X++Y→(∀ x∈S,∀ y∈S,Spec V fc [.c (.d (.sl 4 (x.map eV))),.c (.d (.sl 4 (y.map eV))),.c (.d cap)] (i2 .i64 (f x y)))) (hok:okLen (A++X++Y++B)) (hX1:X.length=1) :
  SpecM V 161 28 1 ((A++X++Y++B).map eR) [i2 .i64 A.length,i2 .i64 (A.length+X.length),i2 .i64 (A.length+X.length+Y.length),.c (.d (.clo fc [cap]))] ((A++mergeF f X Y++B).map eR) (.tu []):=by
 have hf:=hf _ rfl
 have hnl:A.length+X.length+Y.length+B.length≤1099511627776:=by
  have:(A++X++Y++B).length≤1099511627776:=hok
  simpa [Nat.add_assoc] using this
 have hml:=mergeF_len f _ X Y (Nat.le_refl _)
 (refine SpecM.of_go (L:=lv1ZM) 1000 Go.Proofs.Tryz.func161 rfl rfl ⟨Nat.le_of_ble_eq_true rfl,rfl⟩ rfl (by simp only [List.length_map,List.length_append];omega) (by decide) ?_;intro cp;unfold Go.Proofs.Tryz.f161;push_cast (maxSteps:=mS))
 have e1:(A.length:Int)+X.length - A.length=X.length:=by omega
 (try push_cast (maxSteps:=mS) [e1])
 ((repeat' with_reducible refine And.intro ?_ ?_)<;>try exact sz)
 obtain ⟨x,rfl⟩:=List.length_eq_one_iff.1 hX1
 clear hX1
 have hxg:(A++[x]++Y++B)[A.length]?=some x:=by
  rw [List.append_assoc,List.append_assoc,List.getElem?_append_right (Nat.le_refl _),Nat.sub_self];rfl
 have hYg:∀ q (h:q<Y.length),(A++[x]++Y++B)[A.length+1+q]?=some Y[q]:=fun q h=>by
  rw [List.append_assoc,List.getElem?_append_right (by simp only [List.length_append,List.length_singleton];omega),List.getElem?_append_left (by simp only [List.length_append,List.length_singleton];omega),← List.getElem?_eq_getElem h]
  congr 1;simp only [List.length_append,List.length_singleton];omega
 obtain ⟨D,hD⟩:∃ D,D=A++[x]++Y++B:=⟨_,rfl⟩
 have hDl:D.length=A.length+1+Y.length+B.length:=by rw [hD];simp only [List.length_append,List.length_singleton]
 rw [← hD] at hxg hYg ⊢
 have hTa:((A.length:Int)).toNat=A.length:=by omega
 (try push_cast (maxSteps:=mS))
 refine LoopK.s1 (α:=Nat × Nat) [10,11] (fun p=>[i2 .i64 (A.length+1+p.1),i2 .i64 (A.length+1+p.2)]) (fun p=>p.1≤p.2∧p.2≤Y.length∧(p.1=0∨∃ y,Y[p.1 - 1]?=some y∧f y x<0)∧(p.2=Y.length∨∃ y,Y[p.2]?=some y∧¬ f y x<0)) (fun p=>p.2 - p.1) 1000 (0,Y.length) ⟨by simp,by simp,.inl rfl,.inl rfl⟩ (by (try push_cast (maxSteps:=mS))<;>first|rfl|(simp;done)|trace_state) ?_
 rintro ⟨q1,q2⟩ ⟨h1,h2,h3,h4⟩
 simp only at h1 h2 h3 h4
 by_cases hlt:q1<q2
 ·have hd:decide ((A.length:Int)+1+(q1:Int)<(A.length:Int)+1+(q2:Int))=true:=decide_eq_true (by omega)
  obtain ⟨h,hh⟩:∃ h:Nat,h=(q1+q2) / 2:=⟨_,rfl⟩
  have hhl:q1≤h∧h<q2:=by omega
  have e2:((A.length:Int)+1+(q1:Int)+((A.length:Int)+1+(q2:Int))) / 2=(A.length:Int)+1+(h:Int):=by omega
  have hT:((A.length:Int)+1+(h:Int)).toNat=A.length+1+h:=by omega
  have hyg:=hYg h (by omega)
  have hyq:=List.getElem?_eq_getElem (show h<Y.length by omega)
  have hS:=hf Y[h] (by simp) x (by simp)
  generalize Y[h]=y at *
  (try push_cast (maxSteps:=mS) [hd,e2,hT])
  ((repeat' with_reducible refine And.intro ?_ ?_)<;>try exact sz)
  all_goals (try exact inKu64161 (by omega) (by omega))
  (refine DrawK.of (.take 0 (.take 1 (.take 2 (.take 3 (.take 4 (.take 5 (.take 6 (.take 7 (.take 8 (.one 9 (.take 10 .done))))))))))) 1000 (by decide +kernel) ?_;try (push_cast (maxSteps:=mS)))
  (try push_cast (maxSteps:=mS) [hT,getD_map hyg,hTa,getD_map hxg])
  ((repeat' with_reducible refine And.intro ?_ ?_)<;>try exact sz)
  refine ⟨_,hS,rfl,?_⟩
  cases hc:decide (f y x<0) with
  | true =>
   (try push_cast (maxSteps:=mS) [hc])
   ((repeat' with_reducible refine And.intro ?_ ?_)<;>try exact sz)
   refine ⟨(h+1,q2),⟨by simp only;omega,h2,.inr ⟨y,by simpa using hyq,of_decide_eq_true hc⟩,h4⟩,by simp only;omega,Le.st ?_⟩
   (try push_cast (maxSteps:=mS))
   all_goals (first|omega|exact ⟨by omega,rfl⟩|trace_state)
  | false =>
   (try push_cast (maxSteps:=mS) [hc])
   ((repeat' with_reducible refine And.intro ?_ ?_)<;>try exact sz)
   refine ⟨(q1,h),⟨by simp only;omega,by simp only;omega,h3,.inr ⟨y,hyq,of_decide_eq_false hc⟩⟩,by simp only;omega,Le.st ?_⟩
   (try push_cast (maxSteps:=mS))
   all_goals (first|rfl|omega|exact ⟨by omega,rfl⟩|trace_state)
 ·have hd:decide ((A.length:Int)+1+(q1:Int)<(A.length:Int)+1+(q2:Int))=false:=decide_eq_false (by omega)
  obtain rfl:q1=q2:=by omega
  have hmg:=merge_left hf3 (x:=x) hY h2 h4 h3
  rw [hmg]
  clear hxg hYg
  (try push_cast (maxSteps:=mS) [hd])
  ((repeat' with_reducible refine And.intro ?_ ?_)<;>try exact sz)
  have e0:D=A++(Y.take 0++x::Y.drop 0)++B:=by rw [hD];simp
  rw [e0]
  clear hDl hD e0
  refine LoopK.ov (α:=Nat) [13] (fun r=>[i2 .i64 (A.length+r)]) (fun r=>[.rw (pinT cp 28) 1 ((A++(Y.take r++x::Y.drop r)++B).map eR)]) (fun r=>r≤q1) (fun r=>q1 - r) 1000 0 (by omega) (by (try push_cast (maxSteps:=mS))<;>first|rfl|(simp;done)|trace_state) ?_
  rintro r hr
  by_cases hrl:r<q1
  ·have hd3:decide ((A.length:Int)+(r:Int)<(A.length:Int)+1+(q1:Int) - 1)=true:=decide_eq_true (by omega)
   have hyr:=List.getElem?_eq_getElem (show r<Y.length by omega)
   generalize Y[r]=y at *
   obtain ⟨g0,g1,g2⟩:=way_right (A:=A) (B:=B) (x:=x) hyr
   obtain ⟨D,hD⟩:∃ D,D=A++(Y.take r++x::Y.drop r)++B:=⟨_,rfl⟩
   have hDl:D.length=A.length+1+Y.length+B.length:=by rw [hD];simp only [List.length_append,List.length_cons,List.length_take,List.length_drop];omega
   rw [← hD] at g0 g1 g2 ⊢
   have hT0:((A.length:Int)+(r:Int)).toNat=A.length+r:=by omega
   have hT1:((A.length:Int)+(r:Int)+1).toNat=A.length+r+1:=by omega
   have hgd:((D.map eR).set (A.length+r) [(.sl 4 (y.map eV))]).getD (A.length+r+1) []=eR y:=by
    rw [List.getD_eq_getElem?_getD,List.getElem?_set_ne (by omega),List.getElem?_map,g1];rfl
   have hset:((D.map eR).set (A.length+r) [(.sl 4 (y.map eV))]).set (A.length+r+1) [(.sl 4 (x.map eV))]=(A++(Y.take (r+1)++x::Y.drop (r+1))++B).map eR:=by
    rw [← g2,List.map_set,List.map_set];rfl
   (try push_cast (maxSteps:=mS) [hd3])
   ((repeat' with_reducible refine And.intro ?_ ?_)<;>try exact sz)
   refine DrawK.cut (.take 0 (.take 1 (.take 2 (.take 3 (.take 5 (.take 6 (.take 7 (.take 8 (.take 9 (.take 10 (.take 11 (.take 12 (.take 13 (.take 14 (.two 4 (.one 15 (.take 16 (.one 17 .done))) 15 (.take 4 (.take 16 (.one 17 .done)))))))))))))))))) 1000 (by decide +kernel) ⟨[(13,i2 .i64 (A.length+r)),(10,i2 .i64 (A.length+1+q1)),(0,.c (.os 0))],[.rw (pinT cp 28) 1 ((A++(Y.take (r+1)++x::Y.drop (r+1))++B).map eR)]⟩ ?_ ?_
   ·(try push_cast (maxSteps:=mS) [hT0,hT1,getD_map g0,getD_map g1])
    ((repeat' with_reducible refine And.intro ?_ ?_)<;>try exact sz)
    all_goals (try push_cast (maxSteps:=mS) [hT0,hT1,getD_map g0,getD_map g1])
    all_goals ((repeat' with_reducible refine And.intro ?_ ?_)<;>try exact sz)
    all_goals (try simp only [List.length_set,List.length_map])
    all_goals (try push_cast (maxSteps:=mS) [hT0,hT1,hgd,hset])
    all_goals ((repeat' with_reducible refine And.intro ?_ ?_)<;>try exact sz)
    all_goals (first|omega|(refine Le.st ?_;(try push_cast (maxSteps:=mS) [hgd,hset]);first|done|rfl|exact ⟨rfl,rfl⟩)|trace_state)
   (try push_cast (maxSteps:=mS))
   ((repeat' with_reducible refine And.intro ?_ ?_)<;>try exact sz)
   refine ⟨r+1,by omega,by omega,Le.st ?_⟩
   (try push_cast (maxSteps:=mS))
   all_goals (first|rfl|omega|exact ⟨by omega,rfl⟩|trace_state)
  ·have hd3:decide ((A.length:Int)+(r:Int)<(A.length:Int)+1+(q1:Int) - 1)=false:=decide_eq_false (by omega)
   obtain rfl:r=q1:=by omega
   (try push_cast (maxSteps:=mS) [hd3])
   ((repeat' with_reducible refine And.intro ?_ ?_)<;>try exact sz)
   all_goals (try trace_state)
set_option maxHeartbeats 16000000 in
theorem z161b (f:List Vl→List Vl→Int) (hf3:Ord3 f) (fc:FuncId) (cap:DV) (A X Y B:List (List Vl)) (hx0:0<X.length) (hy0:0<Y.length) (hX:ordL f X) (hY:ordL f Y) (hf:∀ S,S=X++Y→(∀ x∈S,∀ y∈S,Spec V fc [.c (.d (.sl 4 (x.map eV))),.c (.d (.sl 4 (y.map eV))),.c (.d cap)] (i2 .i64 (f x y)))) (hok:okLen (A++X++Y++B)) (hX1:¬ X.length=1) (hY1:Y.length=1) :
  SpecM V 161 28 1 ((A++X++Y++B).map eR) [i2 .i64 A.length,i2 .i64 (A.length+X.length),i2 .i64 (A.length+X.length+Y.length),.c (.d (.clo fc [cap]))] ((A++mergeF f X Y++B).map eR) (.tu []):=by
 have hf:=hf _ rfl
 have hnl:A.length+X.length+Y.length+B.length≤1099511627776:=by
  have:(A++X++Y++B).length≤1099511627776:=hok
  simpa [Nat.add_assoc] using this
 have hml:=mergeF_len f _ X Y (Nat.le_refl _)
 (refine SpecM.of_go (L:=lv1ZM) 1000 Go.Proofs.Tryz.func161 rfl rfl ⟨Nat.le_of_ble_eq_true rfl,rfl⟩ rfl (by simp only [List.length_map,List.length_append];omega) (by decide) ?_;intro cp;unfold Go.Proofs.Tryz.f161;push_cast (maxSteps:=mS))
 have e1:(A.length:Int)+X.length - A.length=X.length:=by omega
 (try push_cast (maxSteps:=mS) [e1])
 ((repeat' with_reducible refine And.intro ?_ ?_)<;>try exact sz)
 have hd:decide ((X.length:Int)=1)=false:=decide_eq_false (by omega)
 have e2:(A.length:Int)+X.length+Y.length - (A.length+X.length)=Y.length:=by omega
 (try push_cast (maxSteps:=mS) [hd,e2])
 ((repeat' with_reducible refine And.intro ?_ ?_)<;>try exact sz)
 obtain ⟨y,rfl⟩:=List.length_eq_one_iff.1 hY1
 clear hY1
 have hyg:(A++X++[y]++B)[A.length+X.length]?=some y:=by
  rw [List.append_assoc,List.getElem?_append_right (by simp only [List.length_append];omega),List.length_append,Nat.sub_self];rfl
 have hXg:∀ q (h:q<X.length),(A++X++[y]++B)[A.length+q]?=some X[q]:=fun q h=>by
  rw [List.append_assoc,List.append_assoc,List.getElem?_append_right (by omega),List.getElem?_append_left (by omega),← List.getElem?_eq_getElem h]
  congr 1;omega
 obtain ⟨D,hD⟩:∃ D,D=A++X++[y]++B:=⟨_,rfl⟩
 have hDl:D.length=A.length+X.length+1+B.length:=by rw [hD];simp only [List.length_append,List.length_singleton]
 rw [← hD] at hyg hXg ⊢
 have hTm:((A.length:Int)+(X.length:Int)).toNat=A.length+X.length:=by omega
 (try push_cast (maxSteps:=mS))
 refine LoopK.s1 (α:=Nat × Nat) [14,15] (fun p=>[i2 .i64 (A.length+p.1),i2 .i64 (A.length+p.2)]) (fun p=>p.1≤p.2∧p.2≤X.length∧(p.1=0∨∃ x,X[p.1 - 1]?=some x∧¬ f y x<0)∧(p.2=X.length∨∃ x,X[p.2]?=some x∧f y x<0)) (fun p=>p.2 - p.1) 1000 (0,X.length) ⟨by simp,by simp,.inl rfl,.inl rfl⟩ (by (try push_cast (maxSteps:=mS))<;>first|rfl|(simp;done)|trace_state) ?_
 rintro ⟨q1,q2⟩ ⟨h1,h2,h3,h4⟩
 simp only at h1 h2 h3 h4
 by_cases hlt:q1<q2
 ·have hd:decide ((A.length:Int)+(q1:Int)<(A.length:Int)+(q2:Int))=true:=decide_eq_true (by omega)
  obtain ⟨h,hh⟩:∃ h:Nat,h=(2*A.length+q1+q2) / 2 - A.length:=⟨_,rfl⟩
  have hhl:q1≤h∧h<q2:=by omega
  have e3:((A.length:Int)+(q1:Int)+((A.length:Int)+(q2:Int))) / 2=(A.length:Int)+(h:Int):=by omega
  have hT:((A.length:Int)+(h:Int)).toNat=A.length+h:=by omega
  have hxg:=hXg h (by omega)
  have hxq:=List.getElem?_eq_getElem (show h<X.length by omega)
  have hS:=hf y (by simp) X[h] (by simp)
  generalize X[h]=x at *
  (try push_cast (maxSteps:=mS) [hd,e3,hT])
  ((repeat' with_reducible refine And.intro ?_ ?_)<;>try exact sz)
  all_goals (try exact inKu64161 (by omega) (by omega))
  (refine DrawK.of (.take 0 (.take 1 (.take 2 (.take 3 (.take 4 (.take 5 (.take 6 (.take 7 (.take 8 (.one 9 (.take 10 (.take 11 .done)))))))))))) 1000 (by decide +kernel) ?_;try (push_cast (maxSteps:=mS)))
  (try push_cast (maxSteps:=mS) [hT,getD_map hyg,hTm,getD_map hxg])
  ((repeat' with_reducible refine And.intro ?_ ?_)<;>try exact sz)
  refine ⟨_,hS,rfl,?_⟩
  cases hc:decide (f y x<0) with
  | true =>
   (try push_cast (maxSteps:=mS) [hc])
   ((repeat' with_reducible refine And.intro ?_ ?_)<;>try exact sz)
   refine ⟨(q1,h),⟨by simp only;omega,by simp only;omega,h3,.inr ⟨x,hxq,of_decide_eq_true hc⟩⟩,by simp only;omega,Le.st ?_⟩
   (try push_cast (maxSteps:=mS))
   all_goals (first|rfl|omega|exact ⟨by omega,rfl⟩|trace_state)
  | false =>
   (try push_cast (maxSteps:=mS) [hc])
   ((repeat' with_reducible refine And.intro ?_ ?_)<;>try exact sz)
   refine ⟨(h+1,q2),⟨by simp only;omega,h2,.inr ⟨x,by simpa using hxq,of_decide_eq_false hc⟩,h4⟩,by simp only;omega,Le.st ?_⟩
   (try push_cast (maxSteps:=mS))
   all_goals (first|rfl|omega|exact ⟨by omega,rfl⟩|trace_state)
 ·have hd:decide ((A.length:Int)+(q1:Int)<(A.length:Int)+(q2:Int))=false:=decide_eq_false (by omega)
  obtain rfl:q1=q2:=by omega
  have hmg:=merge_right hf3 (y:=y) hX h2 h3 h4
  rw [hmg]
  clear hyg hXg
  (try push_cast (maxSteps:=mS) [hd])
  ((repeat' with_reducible refine And.intro ?_ ?_)<;>try exact sz)
  have e0:D=A++(X.take X.length++y::X.drop X.length)++B:=by rw [hD];simp
  rw [e0]
  clear hDl hD e0
  refine LoopK.ov (α:=Nat) [17] (fun r=>[i2 .i64 (A.length+r)]) (fun r=>[.rw (pinT cp 28) 1 ((A++(X.take r++y::X.drop r)++B).map eR)]) (fun r=>q1≤r∧r≤X.length) (fun r=>r) 1000 X.length ⟨h2,Nat.le_refl _⟩ (by (try push_cast (maxSteps:=mS))<;>first|rfl|(simp;done)|trace_state) ?_
  rintro r ⟨hr1,hr2⟩
  by_cases hrl:q1<r
  ·have hd3:decide ((A.length:Int)+(q1:Int)<(A.length:Int)+(r:Int))=true:=decide_eq_true (by omega)
   obtain ⟨r,rfl⟩:∃ k,r=k+1:=⟨r - 1,by omega⟩
   have hxr:=List.getElem?_eq_getElem (show r<X.length by omega)
   generalize X[r]=x at *
   obtain ⟨g1,g0,g2⟩:=way_left (A:=A) (B:=B) (y:=y) hxr
   obtain ⟨D,hD⟩:∃ D,D=A++(X.take (r+1)++y::X.drop (r+1))++B:=⟨_,rfl⟩
   have hDl:D.length=A.length+X.length+1+B.length:=by rw [hD];simp only [List.length_append,List.length_cons,List.length_take,List.length_drop];omega
   rw [← hD] at g0 g1 g2 ⊢
   have hT1:((A.length:Int)+((r:Int)+1)).toNat=A.length+r+1:=by omega
   have hT0:((A.length:Int)+((r:Int)+1) - 1).toNat=A.length+r:=by omega
   have hgd:((D.map eR).set (A.length+r+1) [(.sl 4 (x.map eV))]).getD (A.length+r) []=eR x:=by
    rw [List.getD_eq_getElem?_getD,List.getElem?_set_ne (by omega),List.getElem?_map,g0];rfl
   have hset:((D.map eR).set (A.length+r+1) [(.sl 4 (x.map eV))]).set (A.length+r) [(.sl 4 (y.map eV))]=(A++(X.take r++y::X.drop r)++B).map eR:=by
    rw [← g2,List.map_set,List.map_set];rfl
   push_cast at hd3
   (try push_cast (maxSteps:=mS) [hd3])
   ((repeat' with_reducible refine And.intro ?_ ?_)<;>try exact sz)
   refine DrawK.cut (.take 0 (.take 1 (.take 2 (.take 3 (.take 5 (.take 6 (.take 7 (.take 8 (.take 9 (.take 10 (.take 11 (.take 12 (.take 13 (.take 14 (.two 4 (.one 15 (.take 16 (.one 17 .done))) 15 (.take 4 (.take 16 (.one 17 .done)))))))))))))))))) 1000 (by decide +kernel) ⟨[(17,i2 .i64 (A.length+(r+1))),(14,i2 .i64 (A.length+q1)),(0,.c (.os 0))],[.rw (pinT cp 28) 1 ((A++(X.take r++y::X.drop r)++B).map eR)]⟩ ?_ ?_
   ·(try push_cast (maxSteps:=mS) [hT0,hT1,getD_map g0,getD_map g1])
    ((repeat' with_reducible refine And.intro ?_ ?_)<;>try exact sz)
    all_goals (try push_cast (maxSteps:=mS) [hT0,hT1,getD_map g0,getD_map g1])
    all_goals ((repeat' with_reducible refine And.intro ?_ ?_)<;>try exact sz)
    all_goals (try simp only [List.length_set,List.length_map])
    all_goals (try push_cast (maxSteps:=mS) [hT0,hT1,hgd,hset])
    all_goals ((repeat' with_reducible refine And.intro ?_ ?_)<;>try exact sz)
    all_goals (first|omega|(refine Le.st ?_;(try push_cast (maxSteps:=mS) [hgd,hset]);first|done|rfl|exact ⟨rfl,rfl⟩)|trace_state)
   (try push_cast (maxSteps:=mS))
   ((repeat' with_reducible refine And.intro ?_ ?_)<;>try exact sz)
   refine ⟨r,⟨by omega,by omega⟩,by omega,Le.st ?_⟩
   (try push_cast (maxSteps:=mS))
   all_goals (first|rfl|omega|exact ⟨by omega,rfl⟩|trace_state)
  ·have hd3:decide ((A.length:Int)+(q1:Int)<(A.length:Int)+(r:Int))=false:=decide_eq_false (by omega)
   obtain rfl:r=q1:=by omega
   (try push_cast (maxSteps:=mS) [hd3])
set_option maxHeartbeats 4000000 in
theorem z192 (cl:DV) (A X M Y B:List (Nat)) (hl:X.length=Y.length) (hn:okLen (A++X++M++Y++B)) :
  SpecM V 192 3 1 ((A++X++M++Y++B).map eIx) [i2 .i64 A.length,i2 .i64 (A.length+X.length+M.length),i2 .i64 X.length,.c (.d cl)] ((A++Y++M++X++B).map eIx) (.tu []):=by
 have hnl:A.length+X.length+M.length+Y.length+B.length≤1099511627776:=by
  have:(A++X++M++Y++B).length≤1099511627776:=hn
  simpa [Nat.add_assoc] using this
 (refine SpecM.of_go (L:=lv0ZM) 1000 Go.Proofs.Tryz.func192 rfl rfl ⟨Nat.le_of_ble_eq_true rfl,rfl⟩ rfl (by simp only [List.length_map,List.length_append];omega) (by decide) ?_;intro cp;unfold Go.Proofs.Tryz.f192;push_cast (maxSteps:=mS))
 refine LoopK.ov (α:=Nat) [10] (fun q=>[i2 .i64 q]) (fun q=>[.rw (pinT cp 3) 1 ((A++(Y.take q++X.drop q)++M++(X.take q++Y.drop q)++B).map eIx)]) (fun q=>q≤X.length) (fun q=>X.length - q) 1000 0 (by omega) (by (try push_cast (maxSteps:=mS))<;>first|rfl|simp) ?_
 rintro q hq
 by_cases hlt:q<X.length
 ·have hd:decide ((q:Int)<(X.length:Int))=true:=decide_eq_true (by omega)
  have hx:=List.getElem?_eq_getElem hlt
  have hy:=List.getElem?_eq_getElem (show q<Y.length by omega)
  generalize X[q]=x at *
  generalize Y[q]=y at *
  have hst:=swap_step (A:=A) (M:=M) (B:=B) hl hx hy
  obtain ⟨hgx,hgy⟩:=swap_get (A:=A) (M:=M) (B:=B) hl hx hy
  obtain ⟨D,hD⟩:∃ D,D=A++(Y.take q++X.drop q)++M++(X.take q++Y.drop q)++B:=⟨_,rfl⟩
  have hDl:D.length=A.length+X.length+M.length+Y.length+B.length:=by rw [hD];simp only [List.length_append,List.length_take,List.length_drop];omega
  rw [← hD] at hst hgx hgy ⊢
  have hTx:((A.length:Int)+(q:Int)).toNat=A.length+q:=by omega
  have hTy:((A.length:Int)+(X.length:Int)+(M.length:Int)+(q:Int)).toNat=A.length+X.length+M.length+q:=by omega
  have hgd:((D.map eIx).set (A.length+q) [(.v (.int .i64 (y:Int)))]).getD (A.length+X.length+M.length+q) []=eIx y:=by
   rw [List.getD_eq_getElem?_getD,List.getElem?_set_ne (by omega),List.getElem?_map,hgy];rfl
  have hset:((D.map eIx).set (A.length+q) [(.v (.int .i64 (y:Int)))]).set (A.length+X.length+M.length+q) [(.v (.int .i64 (x:Int)))]=(A++(Y.take (q+1)++X.drop (q+1))++M++(X.take (q+1)++Y.drop (q+1))++B).map eIx:=by
   rw [← hst,List.map_set,List.map_set];rfl
  (try push_cast (maxSteps:=mS) [hd])
  refine F4.DrawK.cut (.take 0 (.take 1 (.take 2 (.take 3 (.take 4 (.take 5 (.take 6 (.take 8 (.take 9 (.take 10 (.take 11 (.take 12 (.take 13 (.take 14 (.take 15 (.take 16 (.take 17 (.take 18 (.take 19 (.take 20 (.two 7 (.one 21 (.take 22 (.one 23 .done))) 21 (.take 7 (.take 22 (.one 23 .done)))))))))))))))))))))))) 1000 (by decide +kernel) ⟨[(10,i2 .i64 q),(0,.c (.os 0)),(1,i2 .i64 A.length),(2,i2 .i64 (A.length+X.length+M.length)),(3,i2 .i64 X.length)],[.rw (pinT cp 3) 1 ((A++(Y.take (q+1)++X.drop (q+1))++M++(X.take (q+1)++Y.drop (q+1))++B).map eIx)]⟩ ?_ ?_
  ·(try push_cast (maxSteps:=mS) [hTx,hTy,getD_map hgx,getD_map hgy])
   ((repeat' with_reducible refine And.intro ?_ ?_)<;>try exact sz)
   all_goals (try push_cast (maxSteps:=mS) [hTx,hTy,getD_map hgx,getD_map hgy])
   all_goals ((repeat' with_reducible refine And.intro ?_ ?_)<;>try exact sz)
   all_goals (try simp only [List.length_set,List.length_map])
   all_goals (try push_cast (maxSteps:=mS) [hTx,hTy,hgd,hset])
   all_goals ((repeat' with_reducible refine And.intro ?_ ?_)<;>try exact sz)
   all_goals (first|omega|(refine Le.st ?_;(try push_cast (maxSteps:=mS) [hgd,hset]);first|done|rfl|exact ⟨rfl,rfl⟩)|trace_state)
  (try push_cast (maxSteps:=mS))
  ((repeat' with_reducible refine And.intro ?_ ?_)<;>try exact sz)
  refine ⟨q+1,by omega,by omega,Le.st ?_⟩
  (try push_cast (maxSteps:=mS))
  all_goals (first|rfl|trace_state)
 ·have hd:=geF hlt
  have e:A++(Y.take q++X.drop q)++M++(X.take q++Y.drop q)++B=A++Y++M++X++B:=by
   rw [List.take_of_length_le (by omega),List.take_of_length_le (by omega),List.drop_eq_nil_of_le (by omega),List.drop_eq_nil_of_le (by omega)];simp
  rw [e]
  (try push_cast (maxSteps:=mS) [hd])
set_option maxHeartbeats 4000000 in
theorem z183 (cl:DV) (A X Y B:List (Nat)) (hx0:0<X.length) (hy0:0<Y.length) (hn:okLen (A++X++Y++B)) :
  SpecM V 183 3 1 ((A++X++Y++B).map eIx) [i2 .i64 A.length,i2 .i64 (A.length+X.length),i2 .i64 (A.length+X.length+Y.length),.c (.d cl)] ((A++Y++X++B).map eIx) (.tu []):=by
 have hnl:A.length+X.length+Y.length+B.length≤1099511627776:=by
  have:(A++X++Y++B).length≤1099511627776:=hn
  simpa [Nat.add_assoc] using this
 (refine SpecM.of_go (L:=lv3ZM) 1000 Go.Proofs.Tryz.func183 rfl rfl ⟨Nat.le_of_ble_eq_true rfl,rfl⟩ rfl (by simp only [List.length_map,List.length_append];omega) (by decide) ?_;intro cp;unfold Go.Proofs.Tryz.f183;push_cast (maxSteps:=mS))
 ((repeat' with_reducible refine And.intro ?_ ?_)<;>try exact sz)
 have e1:(A.length:Int)+X.length - A.length=X.length:=by omega
 have e2:(A.length:Int)+X.length+Y.length - (A.length+X.length)=Y.length:=by omega
 (try push_cast (maxSteps:=mS) [e1,e2])
 ((repeat' with_reducible refine And.intro ?_ ?_)<;>try exact sz)
 obtain ⟨G,hG⟩:∃ G,G=A++Y++X++B:=⟨_,rfl⟩
 obtain ⟨m,hm⟩:∃ m,m=A.length+X.length:=⟨_,rfl⟩
 refine LoopK.ov (α:=List (Nat) × List (Nat) × List (Nat) × List (Nat)) [10,11] (fun p=>[i2 .i64 p.2.1.length,i2 .i64 p.2.2.1.length]) (fun p=>[.rw (pinT cp 3) 1 ((p.1++p.2.1++p.2.2.1++p.2.2.2).map eIx)])
  (fun p=>p.1.length+p.2.1.length=m∧0<p.2.1.length∧0<p.2.2.1.length∧p.1.length+p.2.1.length+p.2.2.1.length+p.2.2.2.length=A.length+X.length+Y.length+B.length∧p.1++p.2.2.1++p.2.1++p.2.2.2=G) (fun p=>p.2.1.length+p.2.2.1.length) 1000 (A,X,Y,B) ⟨hm.symm,hx0,hy0,rfl,hG.symm⟩ (by (try push_cast (maxSteps:=mS))<;>first|rfl|trace_state) ?_
 rintro ⟨P,U,W,Q⟩ ⟨h1,h2,h3,h4,h5⟩
 simp only at h1 h2 h3 h4 h5
 rw [← hG]
 by_cases hne:U.length=W.length
 ·have hd:decide ((U.length:Int)=(W.length:Int))=true:=decide_eq_true (by omega)
  have hS:=z192 cl P U [] W Q hne (by simp only [okLen,List.length_append,List.length_nil];omega)
  have a1:(A.length:Int)+X.length - U.length=P.length:=by omega
  have a2:(A.length:Int)+X.length=P.length+U.length:=by omega
  simp only [List.append_nil,List.length_nil,Int.natCast_zero,Int.add_zero] at hS
  rw [h5] at hS
  (try push_cast (maxSteps:=mS) [hd,a1])
  ((repeat' with_reducible refine And.intro ?_ ?_)<;>try exact sz)
  all_goals (try exact ix)
  rw [a2]
  exact ⟨_,_,by rw [show pinT cp 3 % 1000000=3 from tyOf_pinT cp 3];exact hS,rfl⟩
 ·have hd:decide ((U.length:Int)=(W.length:Int))=false:=decide_eq_false (by omega)
  by_cases hgt:W.length<U.length
  ·have hd2:decide ((W.length:Int)<(U.length:Int))=true:=decide_eq_true (by omega)
   obtain ⟨U1,U2,rfl,l1⟩:∃ U1 U2,U=U1++U2∧U1.length=W.length:=⟨U.take W.length,U.drop W.length,(List.take_append_drop _ _).symm,by rw [List.length_take];omega⟩
   simp only [List.length_append] at h1 h2 h4 hne hgt hd hd2 ⊢
   have hS:=z192 cl P U1 U2 W Q l1 (by simp only [okLen,List.length_append];omega)
   have a1:(A.length:Int)+X.length - ((U1.length:Int)+U2.length)=P.length:=by omega
   have a2:(A.length:Int)+X.length=P.length+U1.length+U2.length:=by omega
   have a3:(U1.length:Int)+U2.length - W.length=U2.length:=by omega
   have a4:(U1.length:Int)=W.length:=by omega
   have e5:P++(U1++U2)++W++Q=P++U1++U2++W++Q:=by simp
   rw [e5]
   push_cast at hd hd2
   (try push_cast (maxSteps:=mS) [hd,hd2,a1,a3])
   ((repeat' with_reducible refine And.intro ?_ ?_)<;>try exact sz)
   all_goals (try exact ix)
   rw [a2]
   rw [a4] at hS
   refine ⟨_,_,by rw [show pinT cp 3 % 1000000=3 from tyOf_pinT cp 3,a4];exact hS,inK64 (by omega) (by omega),(P++W,U2,U1,Q),⟨by simp only [List.length_append];omega,by simp only;omega,by simp only;omega,by simp only [List.length_append];omega,by rw [← h5];simp⟩,by simp only;omega,Le.st ?_⟩
   (try push_cast (maxSteps:=mS) [a4])
   all_goals (first|rfl|trace_state)
  ·have hd2:decide ((W.length:Int)<(U.length:Int))=false:=decide_eq_false (by omega)
   obtain ⟨W1,W2,rfl,l1⟩:∃ W1 W2,W=W1++W2∧W2.length=U.length:=⟨W.take (W.length - U.length),W.drop (W.length - U.length),(List.take_append_drop _ _).symm,by rw [List.length_drop];omega⟩
   simp only [List.length_append] at h1 h3 h4 hne hgt hd hd2 ⊢
   have hS:=z192 cl P U W1 W2 Q l1.symm (by simp only [okLen,List.length_append];omega)
   have a1:(A.length:Int)+X.length - U.length=P.length:=by omega
   have a2:(A.length:Int)+X.length=P.length+U.length:=by omega
   have a3:(A.length:Int)+X.length+((W1.length:Int)+W2.length) - U.length=P.length+U.length+W1.length:=by omega
   have a4:(W1.length:Int)+W2.length - U.length=W1.length:=by omega
   have e5:P++U++(W1++W2)++Q=P++U++W1++W2++Q:=by simp
   rw [e5]
   push_cast at hd hd2
   (try push_cast (maxSteps:=mS) [hd,hd2,a1,a3,a4])
   ((repeat' with_reducible refine And.intro ?_ ?_)<;>try exact sz)
   all_goals (try exact ix)
   refine ⟨_,_,by rw [show pinT cp 3 % 1000000=3 from tyOf_pinT cp 3];exact hS,inK64 (by omega) (by omega),(P,W2,W1,U++Q),⟨by simp only;omega,by simp only;omega,by simp only;omega,by simp only [List.length_append];omega,by rw [← h5];simp⟩,by simp only;omega,Le.st ?_⟩
   (try push_cast (maxSteps:=mS) [l1])
   all_goals (first|rfl|(congr 1;simp;done)|trace_state)
theorem inKu64168 {n:Int} (h1:0≤n) (h2:n≤9223372036854775807):inK .u64 n:=⟨h1,by have:IntKind.u64.max=18446744073709551615:=rfl;omega⟩
set_option maxHeartbeats 16000000 in
theorem z168a (f:Nat→Nat→Int) (hf3:Ord3 f) (fc:FuncId) (cap cap2:DV) (A X Y B:List (Nat)) (hx0:0<X.length) (hy0:0<Y.length) (hX:ordL f X) (hY:ordL f Y) (hf:∀ S,S=X++Y→(∀ x∈S,∀ y∈S,Spec V fc [i2 .i64 x,i2 .i64 y,.c (.d cap),.c (.d cap2)] (i2 .i64 (f x y)))) (hok:okLen (A++X++Y++B)) (hX1:X.length=1) :
  SpecM V 168 3 1 ((A++X++Y++B).map eIx) [i2 .i64 A.length,i2 .i64 (A.length+X.length),i2 .i64 (A.length+X.length+Y.length),.c (.d (.clo fc [cap,cap2]))] ((A++mergeF f X Y++B).map eIx) (.tu []):=by
 have hf:=hf _ rfl
 have hnl:A.length+X.length+Y.length+B.length≤1099511627776:=by
  have:(A++X++Y++B).length≤1099511627776:=hok
  simpa [Nat.add_assoc] using this
 have hml:=mergeF_len f _ X Y (Nat.le_refl _)
 (refine SpecM.of_go (L:=lv1ZM) 1000 Go.Proofs.Tryz.func168 rfl rfl ⟨Nat.le_of_ble_eq_true rfl,rfl⟩ rfl (by simp only [List.length_map,List.length_append];omega) (by decide) ?_;intro cp;unfold Go.Proofs.Tryz.f168;push_cast (maxSteps:=mS))
 have e1:(A.length:Int)+X.length - A.length=X.length:=by omega
 (try push_cast (maxSteps:=mS) [e1])
 ((repeat' with_reducible refine And.intro ?_ ?_)<;>try exact sz)
 obtain ⟨x,rfl⟩:=List.length_eq_one_iff.1 hX1
 clear hX1
 have hxg:(A++[x]++Y++B)[A.length]?=some x:=by
  rw [List.append_assoc,List.append_assoc,List.getElem?_append_right (Nat.le_refl _),Nat.sub_self];rfl
 have hYg:∀ q (h:q<Y.length),(A++[x]++Y++B)[A.length+1+q]?=some Y[q]:=fun q h=>by
  rw [List.append_assoc,List.getElem?_append_right (by simp only [List.length_append,List.length_singleton];omega),List.getElem?_append_left (by simp only [List.length_append,List.length_singleton];omega),← List.getElem?_eq_getElem h]
  congr 1;simp only [List.length_append,List.length_singleton];omega
 obtain ⟨D,hD⟩:∃ D,D=A++[x]++Y++B:=⟨_,rfl⟩
 have hDl:D.length=A.length+1+Y.length+B.length:=by rw [hD];simp only [List.length_append,List.length_singleton]
 rw [← hD] at hxg hYg ⊢
 have hTa:((A.length:Int)).toNat=A.length:=by omega
 (try push_cast (maxSteps:=mS))
 refine LoopK.s1 (α:=Nat × Nat) [10,11] (fun p=>[i2 .i64 (A.length+1+p.1),i2 .i64 (A.length+1+p.2)]) (fun p=>p.1≤p.2∧p.2≤Y.length∧(p.1=0∨∃ y,Y[p.1 - 1]?=some y∧f y x<0)∧(p.2=Y.length∨∃ y,Y[p.2]?=some y∧¬ f y x<0)) (fun p=>p.2 - p.1) 1000 (0,Y.length) ⟨by simp,by simp,.inl rfl,.inl rfl⟩ (by (try push_cast (maxSteps:=mS))<;>first|rfl|(simp;done)|trace_state) ?_
 rintro ⟨q1,q2⟩ ⟨h1,h2,h3,h4⟩
 simp only at h1 h2 h3 h4
 by_cases hlt:q1<q2
 ·have hd:decide ((A.length:Int)+1+(q1:Int)<(A.length:Int)+1+(q2:Int))=true:=decide_eq_true (by omega)
  obtain ⟨h,hh⟩:∃ h:Nat,h=(q1+q2) / 2:=⟨_,rfl⟩
  have hhl:q1≤h∧h<q2:=by omega
  have e2:((A.length:Int)+1+(q1:Int)+((A.length:Int)+1+(q2:Int))) / 2=(A.length:Int)+1+(h:Int):=by omega
  have hT:((A.length:Int)+1+(h:Int)).toNat=A.length+1+h:=by omega
  have hyg:=hYg h (by omega)
  have hyq:=List.getElem?_eq_getElem (show h<Y.length by omega)
  have hS:=hf Y[h] (by simp) x (by simp)
  generalize Y[h]=y at *
  (try push_cast (maxSteps:=mS) [hd,e2,hT])
  ((repeat' with_reducible refine And.intro ?_ ?_)<;>try exact sz)
  all_goals (try exact inKu64168 (by omega) (by omega))
  (refine DrawK.of (.take 0 (.take 1 (.take 2 (.take 3 (.take 4 (.take 5 (.take 6 (.take 7 (.take 8 (.one 9 (.take 10 .done))))))))))) 1000 (by decide +kernel) ?_;try (push_cast (maxSteps:=mS)))
  (try push_cast (maxSteps:=mS) [hT,getD_map hyg,hTa,getD_map hxg])
  ((repeat' with_reducible refine And.intro ?_ ?_)<;>try exact sz)
  refine ⟨_,hS,rfl,?_⟩
  cases hc:decide (f y x<0) with
  | true =>
   (try push_cast (maxSteps:=mS) [hc])
   ((repeat' with_reducible refine And.intro ?_ ?_)<;>try exact sz)
   refine ⟨(h+1,q2),⟨by simp only;omega,h2,.inr ⟨y,by simpa using hyq,of_decide_eq_true hc⟩,h4⟩,by simp only;omega,Le.st ?_⟩
   (try push_cast (maxSteps:=mS))
   all_goals (first|omega|exact ⟨by omega,rfl⟩|trace_state)
  | false =>
   (try push_cast (maxSteps:=mS) [hc])
   ((repeat' with_reducible refine And.intro ?_ ?_)<;>try exact sz)
   refine ⟨(q1,h),⟨by simp only;omega,by simp only;omega,h3,.inr ⟨y,hyq,of_decide_eq_false hc⟩⟩,by simp only;omega,Le.st ?_⟩
   (try push_cast (maxSteps:=mS))
   all_goals (first|rfl|omega|exact ⟨by omega,rfl⟩|trace_state)
 ·have hd:decide ((A.length:Int)+1+(q1:Int)<(A.length:Int)+1+(q2:Int))=false:=decide_eq_false (by omega)
  obtain rfl:q1=q2:=by omega
  have hmg:=merge_left hf3 (x:=x) hY h2 h4 h3
  rw [hmg]
  clear hxg hYg
  (try push_cast (maxSteps:=mS) [hd])
  ((repeat' with_reducible refine And.intro ?_ ?_)<;>try exact sz)
  have e0:D=A++(Y.take 0++x::Y.drop 0)++B:=by rw [hD];simp
  rw [e0]
  clear hDl hD e0
  refine LoopK.ov (α:=Nat) [13] (fun r=>[i2 .i64 (A.length+r)]) (fun r=>[.rw (pinT cp 3) 1 ((A++(Y.take r++x::Y.drop r)++B).map eIx)]) (fun r=>r≤q1) (fun r=>q1 - r) 1000 0 (by omega) (by (try push_cast (maxSteps:=mS))<;>first|rfl|(simp;done)|trace_state) ?_
  rintro r hr
  by_cases hrl:r<q1
  ·have hd3:decide ((A.length:Int)+(r:Int)<(A.length:Int)+1+(q1:Int) - 1)=true:=decide_eq_true (by omega)
   have hyr:=List.getElem?_eq_getElem (show r<Y.length by omega)
   generalize Y[r]=y at *
   obtain ⟨g0,g1,g2⟩:=way_right (A:=A) (B:=B) (x:=x) hyr
   obtain ⟨D,hD⟩:∃ D,D=A++(Y.take r++x::Y.drop r)++B:=⟨_,rfl⟩
   have hDl:D.length=A.length+1+Y.length+B.length:=by rw [hD];simp only [List.length_append,List.length_cons,List.length_take,List.length_drop];omega
   rw [← hD] at g0 g1 g2 ⊢
   have hT0:((A.length:Int)+(r:Int)).toNat=A.length+r:=by omega
   have hT1:((A.length:Int)+(r:Int)+1).toNat=A.length+r+1:=by omega
   have hgd:((D.map eIx).set (A.length+r) [(.v (.int .i64 (y:Int)))]).getD (A.length+r+1) []=eIx y:=by
    rw [List.getD_eq_getElem?_getD,List.getElem?_set_ne (by omega),List.getElem?_map,g1];rfl
   have hset:((D.map eIx).set (A.length+r) [(.v (.int .i64 (y:Int)))]).set (A.length+r+1) [(.v (.int .i64 (x:Int)))]=(A++(Y.take (r+1)++x::Y.drop (r+1))++B).map eIx:=by
    rw [← g2,List.map_set,List.map_set];rfl
   (try push_cast (maxSteps:=mS) [hd3])
   ((repeat' with_reducible refine And.intro ?_ ?_)<;>try exact sz)
   refine DrawK.cut (.take 0 (.take 1 (.take 2 (.take 3 (.take 5 (.take 6 (.take 7 (.take 8 (.take 9 (.take 10 (.take 11 (.take 12 (.take 13 (.take 14 (.two 4 (.one 15 (.take 16 (.one 17 .done))) 15 (.take 4 (.take 16 (.one 17 .done)))))))))))))))))) 1000 (by decide +kernel) ⟨[(13,i2 .i64 (A.length+r)),(10,i2 .i64 (A.length+1+q1)),(0,.c (.os 0))],[.rw (pinT cp 3) 1 ((A++(Y.take (r+1)++x::Y.drop (r+1))++B).map eIx)]⟩ ?_ ?_
   ·(try push_cast (maxSteps:=mS) [hT0,hT1,getD_map g0,getD_map g1])
    ((repeat' with_reducible refine And.intro ?_ ?_)<;>try exact sz)
    all_goals (try push_cast (maxSteps:=mS) [hT0,hT1,getD_map g0,getD_map g1])
    all_goals ((repeat' with_reducible refine And.intro ?_ ?_)<;>try exact sz)
    all_goals (try simp only [List.length_set,List.length_map])
    all_goals (try push_cast (maxSteps:=mS) [hT0,hT1,hgd,hset])
    all_goals ((repeat' with_reducible refine And.intro ?_ ?_)<;>try exact sz)
    all_goals (first|omega|(refine Le.st ?_;(try push_cast (maxSteps:=mS) [hgd,hset]);first|done|rfl|exact ⟨rfl,rfl⟩)|trace_state)
   (try push_cast (maxSteps:=mS))
   ((repeat' with_reducible refine And.intro ?_ ?_)<;>try exact sz)
   refine ⟨r+1,by omega,by omega,Le.st ?_⟩
   (try push_cast (maxSteps:=mS))
   all_goals (first|rfl|omega|exact ⟨by omega,rfl⟩|trace_state)
  ·have hd3:decide ((A.length:Int)+(r:Int)<(A.length:Int)+1+(q1:Int) - 1)=false:=decide_eq_false (by omega)
   obtain rfl:r=q1:=by omega
   (try push_cast (maxSteps:=mS) [hd3])
   ((repeat' with_reducible refine And.intro ?_ ?_)<;>try exact sz)
   all_goals (try trace_state)
set_option maxHeartbeats 16000000 in
theorem z168b (f:Nat→Nat→Int) (hf3:Ord3 f) (fc:FuncId) (cap cap2:DV) (A X Y B:List (Nat)) (hx0:0<X.length) (hy0:0<Y.length) (hX:ordL f X) (hY:ordL f Y) (hf:∀ S,S=X++Y→(∀ x∈S,∀ y∈S,Spec V fc [i2 .i64 x,i2 .i64 y,.c (.d cap),.c (.d cap2)] (i2 .i64 (f x y)))) (hok:okLen (A++X++Y++B)) (hX1:¬ X.length=1) (hY1:Y.length=1) :
  SpecM V 168 3 1 ((A++X++Y++B).map eIx) [i2 .i64 A.length,i2 .i64 (A.length+X.length),i2 .i64 (A.length+X.length+Y.length),.c (.d (.clo fc [cap,cap2]))] ((A++mergeF f X Y++B).map eIx) (.tu []):=by
 have hf:=hf _ rfl
 have hnl:A.length+X.length+Y.length+B.length≤1099511627776:=by
  have:(A++X++Y++B).length≤1099511627776:=hok
  simpa [Nat.add_assoc] using this
 have hml:=mergeF_len f _ X Y (Nat.le_refl _)
 (refine SpecM.of_go (L:=lv1ZM) 1000 Go.Proofs.Tryz.func168 rfl rfl ⟨Nat.le_of_ble_eq_true rfl,rfl⟩ rfl (by simp only [List.length_map,List.length_append];omega) (by decide) ?_;intro cp;unfold Go.Proofs.Tryz.f168;push_cast (maxSteps:=mS))
 have e1:(A.length:Int)+X.length - A.length=X.length:=by omega
 (try push_cast (maxSteps:=mS) [e1])
 ((repeat' with_reducible refine And.intro ?_ ?_)<;>try exact sz)
 have hd:decide ((X.length:Int)=1)=false:=decide_eq_false (by omega)
 have e2:(A.length:Int)+X.length+Y.length - (A.length+X.length)=Y.length:=by omega
 (try push_cast (maxSteps:=mS) [hd,e2])
 ((repeat' with_reducible refine And.intro ?_ ?_)<;>try exact sz)
 obtain ⟨y,rfl⟩:=List.length_eq_one_iff.1 hY1
 clear hY1
 have hyg:(A++X++[y]++B)[A.length+X.length]?=some y:=by
  rw [List.append_assoc,List.getElem?_append_right (by simp only [List.length_append];omega),List.length_append,Nat.sub_self];rfl
 have hXg:∀ q (h:q<X.length),(A++X++[y]++B)[A.length+q]?=some X[q]:=fun q h=>by
  rw [List.append_assoc,List.append_assoc,List.getElem?_append_right (by omega),List.getElem?_append_left (by omega),← List.getElem?_eq_getElem h]
  congr 1;omega
 obtain ⟨D,hD⟩:∃ D,D=A++X++[y]++B:=⟨_,rfl⟩
 have hDl:D.length=A.length+X.length+1+B.length:=by rw [hD];simp only [List.length_append,List.length_singleton]
 rw [← hD] at hyg hXg ⊢
 have hTm:((A.length:Int)+(X.length:Int)).toNat=A.length+X.length:=by omega
 (try push_cast (maxSteps:=mS))
 refine LoopK.s1 (α:=Nat × Nat) [14,15] (fun p=>[i2 .i64 (A.length+p.1),i2 .i64 (A.length+p.2)]) (fun p=>p.1≤p.2∧p.2≤X.length∧(p.1=0∨∃ x,X[p.1 - 1]?=some x∧¬ f y x<0)∧(p.2=X.length∨∃ x,X[p.2]?=some x∧f y x<0)) (fun p=>p.2 - p.1) 1000 (0,X.length) ⟨by simp,by simp,.inl rfl,.inl rfl⟩ (by (try push_cast (maxSteps:=mS))<;>first|rfl|(simp;done)|trace_state) ?_
 rintro ⟨q1,q2⟩ ⟨h1,h2,h3,h4⟩
 simp only at h1 h2 h3 h4
 by_cases hlt:q1<q2
 ·have hd:decide ((A.length:Int)+(q1:Int)<(A.length:Int)+(q2:Int))=true:=decide_eq_true (by omega)
  obtain ⟨h,hh⟩:∃ h:Nat,h=(2*A.length+q1+q2) / 2 - A.length:=⟨_,rfl⟩
  have hhl:q1≤h∧h<q2:=by omega
  have e3:((A.length:Int)+(q1:Int)+((A.length:Int)+(q2:Int))) / 2=(A.length:Int)+(h:Int):=by omega
  have hT:((A.length:Int)+(h:Int)).toNat=A.length+h:=by omega
  have hxg:=hXg h (by omega)
  have hxq:=List.getElem?_eq_getElem (show h<X.length by omega)
  have hS:=hf y (by simp) X[h] (by simp)
  generalize X[h]=x at *
  (try push_cast (maxSteps:=mS) [hd,e3,hT])
  ((repeat' with_reducible refine And.intro ?_ ?_)<;>try exact sz)
  all_goals (try exact inKu64168 (by omega) (by omega))
  (refine DrawK.of (.take 0 (.take 1 (.take 2 (.take 3 (.take 4 (.take 5 (.take 6 (.take 7 (.take 8 (.one 9 (.take 10 (.take 11 .done)))))))))))) 1000 (by decide +kernel) ?_;try (push_cast (maxSteps:=mS)))
  (try push_cast (maxSteps:=mS) [hT,getD_map hyg,hTm,getD_map hxg])
  ((repeat' with_reducible refine And.intro ?_ ?_)<;>try exact sz)
  refine ⟨_,hS,rfl,?_⟩
  cases hc:decide (f y x<0) with
  | true =>
   (try push_cast (maxSteps:=mS) [hc])
   ((repeat' with_reducible refine And.intro ?_ ?_)<;>try exact sz)
   refine ⟨(q1,h),⟨by simp only;omega,by simp only;omega,h3,.inr ⟨x,hxq,of_decide_eq_true hc⟩⟩,by simp only;omega,Le.st ?_⟩
   (try push_cast (maxSteps:=mS))
   all_goals (first|rfl|omega|exact ⟨by omega,rfl⟩|trace_state)
  | false =>
   (try push_cast (maxSteps:=mS) [hc])
   ((repeat' with_reducible refine And.intro ?_ ?_)<;>try exact sz)
   refine ⟨(h+1,q2),⟨by simp only;omega,h2,.inr ⟨x,by simpa using hxq,of_decide_eq_false hc⟩,h4⟩,by simp only;omega,Le.st ?_⟩
   (try push_cast (maxSteps:=mS))
   all_goals (first|rfl|omega|exact ⟨by omega,rfl⟩|trace_state)
 ·have hd:decide ((A.length:Int)+(q1:Int)<(A.length:Int)+(q2:Int))=false:=decide_eq_false (by omega)
  obtain rfl:q1=q2:=by omega
  have hmg:=merge_right hf3 (y:=y) hX h2 h3 h4
  rw [hmg]
  clear hyg hXg
  (try push_cast (maxSteps:=mS) [hd])
  ((repeat' with_reducible refine And.intro ?_ ?_)<;>try exact sz)
  have e0:D=A++(X.take X.length++y::X.drop X.length)++B:=by rw [hD];simp
  rw [e0]
  clear hDl hD e0
  refine LoopK.ov (α:=Nat) [17] (fun r=>[i2 .i64 (A.length+r)]) (fun r=>[.rw (pinT cp 3) 1 ((A++(X.take r++y::X.drop r)++B).map eIx)]) (fun r=>q1≤r∧r≤X.length) (fun r=>r) 1000 X.length ⟨h2,Nat.le_refl _⟩ (by (try push_cast (maxSteps:=mS))<;>first|rfl|(simp;done)|trace_state) ?_
  rintro r ⟨hr1,hr2⟩
  by_cases hrl:q1<r
  ·have hd3:decide ((A.length:Int)+(q1:Int)<(A.length:Int)+(r:Int))=true:=decide_eq_true (by omega)
   obtain ⟨r,rfl⟩:∃ k,r=k+1:=⟨r - 1,by omega⟩
   have hxr:=List.getElem?_eq_getElem (show r<X.length by omega)
   generalize X[r]=x at *
   obtain ⟨g1,g0,g2⟩:=way_left (A:=A) (B:=B) (y:=y) hxr
   obtain ⟨D,hD⟩:∃ D,D=A++(X.take (r+1)++y::X.drop (r+1))++B:=⟨_,rfl⟩
   have hDl:D.length=A.length+X.length+1+B.length:=by rw [hD];simp only [List.length_append,List.length_cons,List.length_take,List.length_drop];omega
   rw [← hD] at g0 g1 g2 ⊢
   have hT1:((A.length:Int)+((r:Int)+1)).toNat=A.length+r+1:=by omega
   have hT0:((A.length:Int)+((r:Int)+1) - 1).toNat=A.length+r:=by omega
   have hgd:((D.map eIx).set (A.length+r+1) [(.v (.int .i64 (x:Int)))]).getD (A.length+r) []=eIx x:=by
    rw [List.getD_eq_getElem?_getD,List.getElem?_set_ne (by omega),List.getElem?_map,g0];rfl
   have hset:((D.map eIx).set (A.length+r+1) [(.v (.int .i64 (x:Int)))]).set (A.length+r) [(.v (.int .i64 (y:Int)))]=(A++(X.take r++y::X.drop r)++B).map eIx:=by
    rw [← g2,List.map_set,List.map_set];rfl
   push_cast at hd3
   (try push_cast (maxSteps:=mS) [hd3])
   ((repeat' with_reducible refine And.intro ?_ ?_)<;>try exact sz)
   refine DrawK.cut (.take 0 (.take 1 (.take 2 (.take 3 (.take 5 (.take 6 (.take 7 (.take 8 (.take 9 (.take 10 (.take 11 (.take 12 (.take 13 (.take 14 (.two 4 (.one 15 (.take 16 (.one 17 .done))) 15 (.take 4 (.take 16 (.one 17 .done)))))))))))))))))) 1000 (by decide +kernel) ⟨[(17,i2 .i64 (A.length+(r+1))),(14,i2 .i64 (A.length+q1)),(0,.c (.os 0))],[.rw (pinT cp 3) 1 ((A++(X.take r++y::X.drop r)++B).map eIx)]⟩ ?_ ?_
   ·(try push_cast (maxSteps:=mS) [hT0,hT1,getD_map g0,getD_map g1])
    ((repeat' with_reducible refine And.intro ?_ ?_)<;>try exact sz)
    all_goals (try push_cast (maxSteps:=mS) [hT0,hT1,getD_map g0,getD_map g1])
    all_goals ((repeat' with_reducible refine And.intro ?_ ?_)<;>try exact sz)
    all_goals (try simp only [List.length_set,List.length_map])
    all_goals (try push_cast (maxSteps:=mS) [hT0,hT1,hgd,hset])
    all_goals ((repeat' with_reducible refine And.intro ?_ ?_)<;>try exact sz)
    all_goals (first|omega|(refine Le.st ?_;(try push_cast (maxSteps:=mS) [hgd,hset]);first|done|rfl|exact ⟨rfl,rfl⟩)|trace_state)
   (try push_cast (maxSteps:=mS))
   ((repeat' with_reducible refine And.intro ?_ ?_)<;>try exact sz)
   refine ⟨r,⟨by omega,by omega⟩,by omega,Le.st ?_⟩
   (try push_cast (maxSteps:=mS))
   all_goals (first|rfl|omega|exact ⟨by omega,rfl⟩|trace_state)
  ·have hd3:decide ((A.length:Int)+(q1:Int)<(A.length:Int)+(r:Int))=false:=decide_eq_false (by omega)
   obtain rfl:r=q1:=by omega
   (try push_cast (maxSteps:=mS) [hd3])
set_option maxHeartbeats 16000000 in
theorem z161 (f:List Vl→List Vl→Int) (hf3:Ord3 f) (fc:FuncId) (cap:DV):∀ (n:Nat) (A X Y B:List (List Vl)),X.length+Y.length≤n→0<X.length→0<Y.length→ordL f X→ordL f Y→(∀ S,S=X++Y→(∀ x∈S,∀ y∈S,Spec V fc [.c (.d (.sl 4 (x.map eV))),.c (.d (.sl 4 (y.map eV))),.c (.d cap)] (i2 .i64 (f x y))))→okLen (A++X++Y++B) →
  SpecM V 161 28 1 ((A++X++Y++B).map eR) [i2 .i64 A.length,i2 .i64 (A.length+X.length),i2 .i64 (A.length+X.length+Y.length),.c (.d (.clo fc [cap]))] ((A++mergeF f X Y++B).map eR) (.tu [])
 | 0,_,_,_,_,h,h1,_,_,_,_,_=>by omega
 | n+1,A,X,Y,B,hn,hx0,hy0,hX,hY,hf,hok=>by
  by_cases hX1:X.length=1
  ·exact z161a f hf3 fc cap A X Y B hx0 hy0 hX hY hf hok hX1
  by_cases hY1:Y.length=1
  ·exact z161b f hf3 fc cap A X Y B hx0 hy0 hX hY hf hok hX1 hY1
  have hf:=hf _ rfl
  have hnl:A.length+X.length+Y.length+B.length≤1099511627776:=by
   have:(A++X++Y++B).length≤1099511627776:=hok
   simpa [Nat.add_assoc] using this
  have hml:=mergeF_len f _ X Y (Nat.le_refl _)
  (refine SpecM.of_go (L:=lv1ZM) 1000 Go.Proofs.Tryz.func161 rfl rfl ⟨Nat.le_of_ble_eq_true rfl,rfl⟩ rfl (by simp only [List.length_map,List.length_append];omega) (by decide) ?_;intro cp;unfold Go.Proofs.Tryz.f161;push_cast (maxSteps:=mS))
  have e1:(A.length:Int)+X.length - A.length=X.length:=by omega
  (try push_cast (maxSteps:=mS) [e1])
  ((repeat' with_reducible refine And.intro ?_ ?_)<;>try exact sz)
  have hd:decide ((X.length:Int)=1)=false:=decide_eq_false (by omega)
  have e2:(A.length:Int)+X.length+Y.length - (A.length+X.length)=Y.length:=by omega
  (try push_cast (maxSteps:=mS) [hd,e2])
  ((repeat' with_reducible refine And.intro ?_ ?_)<;>try exact sz)
  have hd2:decide ((Y.length:Int)=1)=false:=decide_eq_false (by omega)
  obtain ⟨md,hmd⟩:∃ md:Nat,md=(2*A.length+X.length+Y.length) / 2 - A.length:=⟨_,rfl⟩
  have hmd2:1≤md∧md<X.length+Y.length∧2*md≤X.length+Y.length∧X.length+Y.length≤2*md+1:=by omega
  have e3:((A.length:Int)+((A.length:Int)+X.length+Y.length)) / 2=(A.length:Int)+md:=by omega
  clear hmd
  (try push_cast (maxSteps:=mS) [hd2,e3])
  ((repeat' with_reducible refine And.intro ?_ ?_)<;>try exact sz)
  all_goals (try exact inKu64161 (by omega) (by omega))
  have hXg:∀ q (h:q<X.length),(A++X++Y++B)[A.length+q]?=some X[q]:=fun q h=>by
   rw [List.append_assoc,List.append_assoc,List.getElem?_append_right (by omega),List.getElem?_append_left (by omega),← List.getElem?_eq_getElem h]
   congr 1;omega
  have hYg:∀ q (h:q<Y.length),(A++X++Y++B)[A.length+X.length+q]?=some Y[q]:=fun q h=>by
   rw [List.append_assoc,List.getElem?_append_right (by simp only [List.length_append];omega),List.getElem?_append_left (by simp only [List.length_append];omega),← List.getElem?_eq_getElem h]
   congr 1;simp only [List.length_append];omega
  have IH:=z161 f hf3 fc cap n
  obtain ⟨D,hD⟩:∃ D,D=A++X++Y++B:=⟨_,rfl⟩
  have hDl:D.length=A.length+X.length+Y.length+B.length:=by rw [hD];simp only [List.length_append]
  rw [← hD] at hXg hYg ⊢
  have hcase:(decide ((A.length:Int)+(md:Int)<(A.length:Int)+(X.length:Int))=true∧∃ s0 r0:Nat,(A.length:Int)+md+(A.length+X.length) - (A.length+X.length+Y.length)=A.length+s0∧md=r0∧SB X Y md s0 r0) ∨
    (decide ((A.length:Int)+(md:Int)<(A.length:Int)+(X.length:Int))=false∧∃ s0 r0:Nat,s0=0∧X.length=r0∧SB X Y md s0 r0):=by
   rcases Nat.lt_or_ge md X.length with h|h
   ·exact .inl ⟨decide_eq_true (by omega),md - Y.length,md,by omega,rfl,⟨by omega,by omega,by omega,by omega,by omega,by omega⟩⟩
   ·exact .inr ⟨decide_eq_false (by omega),0,X.length,rfl,rfl,⟨by omega,by omega,by omega,by omega,by omega,by omega⟩⟩
  rcases hcase with hcase|hcase
  focus
   obtain ⟨hd4,s0,r0,e4,e5,hb⟩:=hcase
   (try push_cast (maxSteps:=mS) [hd4])
   ((repeat' with_reducible refine And.intro ?_ ?_)<;>try exact sz)
   all_goals (try exact ix)
   refine LoopK.s1 (α:=Nat × Nat) [20,21] (fun p=>[i2 .i64 (A.length+p.1),i2 .i64 (A.length+p.2)]) (fun p=>∃ s0 r0,SB X Y md s0 r0∧SI f X Y md s0 r0 p.1 p.2) (fun p=>p.2 - p.1) 1000 (s0,r0) ⟨s0,r0,hb,SI.start hb⟩ (by subst e5;(try push_cast (maxSteps:=mS) [e4])<;>first|done|rfl|omega|exact ⟨by omega,by omega⟩|trace_state) ?_
   clear hd4 e4 e5 hb r0 s0
   refine ?round
  rotate_left
  focus
   obtain ⟨hd4,s0,r0,e4,e5,hb⟩:=hcase
   (try push_cast (maxSteps:=mS) [hd4])
   ((repeat' with_reducible refine And.intro ?_ ?_)<;>try exact sz)
   refine LoopK.s1 (α:=Nat × Nat) [20,21] (fun p=>[i2 .i64 (A.length+p.1),i2 .i64 (A.length+p.2)]) (fun p=>∃ s0 r0,SB X Y md s0 r0∧SI f X Y md s0 r0 p.1 p.2) (fun p=>p.2 - p.1) 1000 (s0,r0) ⟨s0,r0,hb,SI.start hb⟩ (by subst e4;subst e5;(try push_cast (maxSteps:=mS))<;>first|done|rfl|omega|exact ⟨by omega,by omega⟩|trace_state) ?_
   clear hd4 e4 e5 hb r0 s0
   refine ?round
  rintro ⟨q1,q2⟩ ⟨s0,r0,hb,hi⟩
  have hib:=hi.b
  simp only at hib hi
  by_cases hlt:q1<q2
  ·have hd5:decide ((A.length:Int)+(q1:Int)<(A.length:Int)+(q2:Int))=true:=decide_eq_true (by omega)
   obtain ⟨h,hh⟩:∃ h:Nat,h=(2*A.length+q1+q2) / 2 - A.length:=⟨_,rfl⟩
   have hhl:q1≤h∧h<q2:=by omega
   obtain ⟨g1,g2,g3⟩:=SI.get hb hi hhl.1 hhl.2
   have e5:((A.length:Int)+(q1:Int)+((A.length:Int)+(q2:Int))) / 2=(A.length:Int)+(h:Int):=by omega
   clear hh
   have e6:(A.length:Int)+md+(A.length+X.length) - 1 - (A.length+h)=(A.length:Int)+X.length+((md - 1 - h:Nat):Int):=by omega
   have hT:((A.length:Int)+(h:Int)).toNat=A.length+h:=by omega
   have hTy:((A.length:Int)+X.length+((md - 1 - h:Nat):Int)).toNat=A.length+X.length+(md - 1 - h):=by omega
   have hxg:=hXg h g1
   have hyg:=hYg (md - 1 - h) g2
   have hxq:=List.getElem?_eq_getElem g1
   have hyq:=List.getElem?_eq_getElem g2
   have hS:=hf Y[md - 1 - h] (by simp) X[h] (by simp)
   generalize Y[md - 1 - h]=y at *
   generalize X[h]=x at *
   (try push_cast (maxSteps:=mS) [hd5,e5,hT])
   ((repeat' with_reducible refine And.intro ?_ ?_)<;>try exact sz)
   all_goals (try exact inKu64161 (by omega) (by omega))
   (refine DrawK.of (.take 0 (.take 1 (.take 2 (.take 3 (.take 4 (.take 5 (.take 6 (.take 7 (.take 8 (.take 9 (.take 10 (.one 11 (.take 12 (.take 13 .done)))))))))))))) 1000 (by decide +kernel) ?_;try (push_cast (maxSteps:=mS)))
   (try push_cast (maxSteps:=mS) [e6,hT,hTy,getD_map hyg,getD_map hxg])
   ((repeat' with_reducible refine And.intro ?_ ?_)<;>try exact sz)
   all_goals (try exact ix)
   refine ⟨_,hS,rfl,?_⟩
   cases hc:decide (f y x<0) with
   | true =>
    (try push_cast (maxSteps:=mS) [hc])
    ((repeat' with_reducible refine And.intro ?_ ?_)<;>try exact sz)
    refine ⟨(q1,h),⟨s0,r0,hb,hi.down hhl.1 hhl.2 hxq hyq (of_decide_eq_true hc)⟩,by simp only;omega,Le.st ?_⟩
    (try push_cast (maxSteps:=mS))
    all_goals (first|rfl|omega|exact ⟨by omega,rfl⟩|trace_state)
   | false =>
    (try push_cast (maxSteps:=mS) [hc])
    ((repeat' with_reducible refine And.intro ?_ ?_)<;>try exact sz)
    refine ⟨(h+1,q2),⟨s0,r0,hb,hi.up hhl.1 hhl.2 hxq hyq (of_decide_eq_false hc)⟩,by simp only;omega,Le.st ?_⟩
    (try push_cast (maxSteps:=mS))
    all_goals (first|rfl|omega|exact ⟨by omega,rfl⟩|trace_state)
  ·obtain rfl:q1=q2:=by omega
   have hd5:decide ((A.length:Int)+(q1:Int)<(A.length:Int)+(q1:Int))=false:=decide_eq_false (by omega)
   obtain ⟨X1,X2,Y1,Y2,rfl,rfl,rfl,rfl,hmg,o1,o2,o3,o4⟩:=SI.done hf3 hX hY hb hi
   rw [hmg]
   clear hb hi hib hXg hYg hmg s0 r0 hlt hX hY e3 hd2 hd e1 e2
   simp only [List.length_append] at hnl hn hDl hmd2 hX1 hY1 ⊢
   have e7:(A.length:Int)+(X1.length+Y1.length)+(A.length+(X1.length+X2.length)) - (A.length+X1.length)=A.length+X1.length+X2.length+Y1.length:=by omega
   have hml1:=mergeF_len f _ X1 Y1 (Nat.le_refl _)
   have m1:∀ {x},x∈X1++Y1→x∈X1++X2++(Y1++Y2):=fun {x} h=>by
    simp only [List.mem_append] at h ⊢;rcases h with h|h<;>simp [h]
   have m2:∀ {x},x∈X2++Y2→x∈X1++X2++(Y1++Y2):=fun {x} h=>by
    simp only [List.mem_append] at h ⊢;rcases h with h|h<;>simp [h]
   obtain ⟨D1,hD1⟩:∃ D1,D1=A++X1++Y1++X2++(Y2++B):=⟨_,rfl⟩
   obtain ⟨D2,hD2⟩:∃ D2,D2=A++mergeF f X1 Y1++X2++Y2++B:=⟨_,rfl⟩
   obtain ⟨D3,hD3⟩:∃ D3,D3=A++(mergeF f X1 Y1++mergeF f X2 Y2)++B:=⟨_,rfl⟩
   rw [← hD3]
   have r1:0<X2.length→0<Y1.length→SpecM V 181 28 1 (D.map eR) [i2 .i64 (A.length+X1.length),i2 .i64 (A.length+X1.length+X2.length),i2 .i64 (A.length+X1.length+X2.length+Y1.length),.c (.d (.clo fc [cap]))] (D1.map eR) (.tu []):=fun p1 p2=>by
    have h:=z181 (.clo fc [cap]) (A++X1) X2 Y1 (Y2++B) p1 p2 (by simp only [okLen,List.length_append];omega)
    have e1:(((A++X1).length:Nat):Int)=A.length+X1.length:=by simp
    rw [e1,← hD1,show A++X1++X2++Y1++(Y2++B)=D by rw [hD];simp] at h
    exact h
   have r2:0<X1.length→0<Y1.length→SpecM V 161 28 1 (D1.map eR) [i2 .i64 A.length,i2 .i64 (A.length+X1.length),i2 .i64 (A.length+X1.length+Y1.length),.c (.d (.clo fc [cap]))] (D2.map eR) (.tu []):=fun p1 p2=>by
    have h:=IH A X1 Y1 (X2++(Y2++B)) (by omega) p1 p2 o1 o3 (fun S hS x hx y hy=>by subst hS;exact hf x (m1 hx) y (m1 hy)) (by simp only [okLen,List.length_append];omega)
    rw [show A++X1++Y1++(X2++(Y2++B))=D1 by rw [hD1];simp,show A++mergeF f X1 Y1++(X2++(Y2++B))=D2 by rw [hD2];simp] at h
    exact h
   have r3:0<X2.length→0<Y2.length→SpecM V 161 28 1 (D2.map eR) [i2 .i64 (A.length+X1.length+Y1.length),i2 .i64 (A.length+X1.length+X2.length+Y1.length),i2 .i64 (A.length+X1.length+X2.length+Y1.length+Y2.length),.c (.d (.clo fc [cap]))] (D3.map eR) (.tu []):=fun p1 p2=>by
    have h:=IH (A++mergeF f X1 Y1) X2 Y2 B (by omega) p1 p2 o2 o4 (fun S hS x hx y hy=>by subst hS;exact hf x (m2 hx) y (m2 hy)) (by simp only [okLen,List.length_append];omega)
    have e1:(((A++mergeF f X1 Y1).length:Nat):Int)=A.length+X1.length+Y1.length:=by rw [List.length_append];omega
    have e2:(A.length:Int)+X1.length+Y1.length+X2.length=A.length+X1.length+X2.length+Y1.length:=by omega
    rw [e1,e2,← hD2,show A++mergeF f X1 Y1++mergeF f X2 Y2++B=D3 by rw [hD3];simp] at h
    exact h
   have n1:X2.length=0∨Y1.length=0→D=D1:=fun h=>by
    rw [hD,hD1]
    rcases h with h|h<;>rw [List.eq_nil_of_length_eq_zero h]<;>simp
   have n2:X1.length=0∨Y1.length=0→D1=D2:=fun h=>by
    rw [hD1,hD2]
    rcases h with h|h<;>rw [List.eq_nil_of_length_eq_zero h]<;>simp [nil_mergeF,mergeF_nil]
   have n3:X2.length=0∨Y2.length=0→D2=D3:=fun h=>by
    rw [hD2,hD3]
    rcases h with h|h<;>rw [List.eq_nil_of_length_eq_zero h]<;>simp [nil_mergeF,mergeF_nil]
   have l1:D1.length=D.length:=by rw [hD1,hD];simp only [List.length_append];omega
   have l2:D2.length=D.length:=by rw [hD2,hD];simp only [List.length_append];omega
   clear IH hD hD1 hD2 hD3 m1 m2 hf hml hml1 o1 o2 o3 o4
   (try push_cast (maxSteps:=mS) [hd5,e7])
   ((repeat' with_reducible refine And.intro ?_ ?_)<;>try exact sz)
   simp only [← Int.add_assoc]
   have d1:decide ((A.length:Int)+X1.length<A.length+X1.length+X2.length)=decide (0<X2.length):=decide_eq_decide.2 (by omega)
   have d2:decide ((A.length:Int)+X1.length+X2.length<A.length+X1.length+X2.length+Y1.length)=decide (0<Y1.length):=decide_eq_decide.2 (by omega)
   have d3:decide ((A.length:Int)<A.length+X1.length)=decide (0<X1.length):=decide_eq_decide.2 (by omega)
   have d4:decide ((A.length:Int)+X1.length<A.length+X1.length+Y1.length)=decide (0<Y1.length):=decide_eq_decide.2 (by omega)
   have d5:decide ((A.length:Int)+X1.length+Y1.length<A.length+X1.length+X2.length+Y1.length)=decide (0<X2.length):=decide_eq_decide.2 (by omega)
   have d6:decide ((A.length:Int)+X1.length+X2.length+Y1.length<A.length+X1.length+X2.length+Y1.length+Y2.length)=decide (0<Y2.length):=decide_eq_decide.2 (by omega)
   have b0:∀ n:Nat,decide (0<n)=false→n=0:=fun n h=>by have:=of_decide_eq_false h;omega
   replace r1:=fun h1 h2=>r1 (of_decide_eq_true h1) (of_decide_eq_true h2)
   replace r2:=fun h1 h2=>r2 (of_decide_eq_true h1) (of_decide_eq_true h2)
   replace r3:=fun h1 h2=>r3 (of_decide_eq_true h1) (of_decide_eq_true h2)
   replace n1:=fun h=>n1 (Or.imp (b0 _) (b0 _) h)
   replace n2:=fun h=>n2 (Or.imp (b0 _) (b0 _) h)
   replace n3:=fun h=>n3 (Or.imp (b0 _) (b0 _) h)
   have pn:pinT cp 28 % 1000000=28:=tyOf_pinT cp 28
   generalize decide (0<X1.length)=x1 at *
   generalize decide (0<X2.length)=x2 at *
   generalize decide (0<Y1.length)=y1 at *
   generalize decide (0<Y2.length)=y2 at *
   cases x1<;>cases x2<;>cases y1<;>cases y2
   all_goals (try (have e:=n1 (by decide);subst e))
   all_goals (try (have e:=n2 (by decide);subst e))
   all_goals (try (have e:=n3 (by decide);subst e))
   all_goals (try push_cast (maxSteps:=mS) [d1,d2,d3,d4,d5,d6])
   all_goals (try (refine ⟨_,_,by rw [pn];exact r1 rfl rfl,?_⟩))
   all_goals (try push_cast (maxSteps:=mS) [d1,d2,d3,d4,d5,d6])
   all_goals (try (refine ⟨_,_,by rw [pn];exact r2 rfl rfl,?_⟩))
   all_goals (try push_cast (maxSteps:=mS) [d1,d2,d3,d4,d5,d6])
   all_goals (try (refine ⟨_,_,by rw [pn];exact r3 rfl rfl,?_⟩))
   all_goals (try push_cast (maxSteps:=mS) [d1,d2,d3,d4,d5,d6])
   all_goals trace_state
set_option maxHeartbeats 16000000 in
theorem z168 (f:Nat→Nat→Int) (hf3:Ord3 f) (fc:FuncId) (cap cap2:DV):∀ (n:Nat) (A X Y B:List (Nat)),X.length+Y.length≤n→0<X.length→0<Y.length→ordL f X→ordL f Y→(∀ S,S=X++Y→(∀ x∈S,∀ y∈S,Spec V fc [i2 .i64 x,i2 .i64 y,.c (.d cap),.c (.d cap2)] (i2 .i64 (f x y))))→okLen (A++X++Y++B) →
  SpecM V 168 3 1 ((A++X++Y++B).map eIx) [i2 .i64 A.length,i2 .i64 (A.length+X.length),i2 .i64 (A.length+X.length+Y.length),.c (.d (.clo fc [cap,cap2]))] ((A++mergeF f X Y++B).map eIx) (.tu [])
 | 0,_,_,_,_,h,h1,_,_,_,_,_=>by omega
 | n+1,A,X,Y,B,hn,hx0,hy0,hX,hY,hf,hok=>by
  by_cases hX1:X.length=1
  ·exact z168a f hf3 fc cap cap2 A X Y B hx0 hy0 hX hY hf hok hX1
  by_cases hY1:Y.length=1
  ·exact z168b f hf3 fc cap cap2 A X Y B hx0 hy0 hX hY hf hok hX1 hY1
  have hf:=hf _ rfl
  have hnl:A.length+X.length+Y.length+B.length≤1099511627776:=by
   have:(A++X++Y++B).length≤1099511627776:=hok
   simpa [Nat.add_assoc] using this
  have hml:=mergeF_len f _ X Y (Nat.le_refl _)
  (refine SpecM.of_go (L:=lv1ZM) 1000 Go.Proofs.Tryz.func168 rfl rfl ⟨Nat.le_of_ble_eq_true rfl,rfl⟩ rfl (by simp only [List.length_map,List.length_append];omega) (by decide) ?_;intro cp;unfold Go.Proofs.Tryz.f168;push_cast (maxSteps:=mS))
  have e1:(A.length:Int)+X.length - A.length=X.length:=by omega
  (try push_cast (maxSteps:=mS) [e1])
  ((repeat' with_reducible refine And.intro ?_ ?_)<;>try exact sz)
  have hd:decide ((X.length:Int)=1)=false:=decide_eq_false (by omega)
  have e2:(A.length:Int)+X.length+Y.length - (A.length+X.length)=Y.length:=by omega
  (try push_cast (maxSteps:=mS) [hd,e2])
  ((repeat' with_reducible refine And.intro ?_ ?_)<;>try exact sz)
  have hd2:decide ((Y.length:Int)=1)=false:=decide_eq_false (by omega)
  obtain ⟨md,hmd⟩:∃ md:Nat,md=(2*A.length+X.length+Y.length) / 2 - A.length:=⟨_,rfl⟩
  have hmd2:1≤md∧md<X.length+Y.length∧2*md≤X.length+Y.length∧X.length+Y.length≤2*md+1:=by omega
  have e3:((A.length:Int)+((A.length:Int)+X.length+Y.length)) / 2=(A.length:Int)+md:=by omega
  clear hmd
  (try push_cast (maxSteps:=mS) [hd2,e3])
  ((repeat' with_reducible refine And.intro ?_ ?_)<;>try exact sz)
  all_goals (try exact inKu64168 (by omega) (by omega))
  have hXg:∀ q (h:q<X.length),(A++X++Y++B)[A.length+q]?=some X[q]:=fun q h=>by
   rw [List.append_assoc,List.append_assoc,List.getElem?_append_right (by omega),List.getElem?_append_left (by omega),← List.getElem?_eq_getElem h]
   congr 1;omega
  have hYg:∀ q (h:q<Y.length),(A++X++Y++B)[A.length+X.length+q]?=some Y[q]:=fun q h=>by
   rw [List.append_assoc,List.getElem?_append_right (by simp only [List.length_append];omega),List.getElem?_append_left (by simp only [List.length_append];omega),← List.getElem?_eq_getElem h]
   congr 1;simp only [List.length_append];omega
  have IH:=z168 f hf3 fc cap cap2 n
  obtain ⟨D,hD⟩:∃ D,D=A++X++Y++B:=⟨_,rfl⟩
  have hDl:D.length=A.length+X.length+Y.length+B.length:=by rw [hD];simp only [List.length_append]
  rw [← hD] at hXg hYg ⊢
  have hcase:(decide ((A.length:Int)+(md:Int)<(A.length:Int)+(X.length:Int))=true∧∃ s0 r0:Nat,(A.length:Int)+md+(A.length+X.length) - (A.length+X.length+Y.length)=A.length+s0∧md=r0∧SB X Y md s0 r0) ∨
    (decide ((A.length:Int)+(md:Int)<(A.length:Int)+(X.length:Int))=false∧∃ s0 r0:Nat,s0=0∧X.length=r0∧SB X Y md s0 r0):=by
   rcases Nat.lt_or_ge md X.length with h|h
   ·exact .inl ⟨decide_eq_true (by omega),md - Y.length,md,by omega,rfl,⟨by omega,by omega,by omega,by omega,by omega,by omega⟩⟩
   ·exact .inr ⟨decide_eq_false (by omega),0,X.length,rfl,rfl,⟨by omega,by omega,by omega,by omega,by omega,by omega⟩⟩
  rcases hcase with hcase|hcase
  focus
   obtain ⟨hd4,s0,r0,e4,e5,hb⟩:=hcase
   (try push_cast (maxSteps:=mS) [hd4])
   ((repeat' with_reducible refine And.intro ?_ ?_)<;>try exact sz)
   all_goals (try exact ix)
   refine LoopK.s1 (α:=Nat × Nat) [20,21] (fun p=>[i2 .i64 (A.length+p.1),i2 .i64 (A.length+p.2)]) (fun p=>∃ s0 r0,SB X Y md s0 r0∧SI f X Y md s0 r0 p.1 p.2) (fun p=>p.2 - p.1) 1000 (s0,r0) ⟨s0,r0,hb,SI.start hb⟩ (by subst e5;(try push_cast (maxSteps:=mS) [e4])<;>first|done|rfl|omega|exact ⟨by omega,by omega⟩|trace_state) ?_
   clear hd4 e4 e5 hb r0 s0
   refine ?round
  rotate_left
  focus
   obtain ⟨hd4,s0,r0,e4,e5,hb⟩:=hcase
   (try push_cast (maxSteps:=mS) [hd4])
   ((repeat' with_reducible refine And.intro ?_ ?_)<;>try exact sz)
   refine LoopK.s1 (α:=Nat × Nat) [20,21] (fun p=>[i2 .i64 (A.length+p.1),i2 .i64 (A.length+p.2)]) (fun p=>∃ s0 r0,SB X Y md s0 r0∧SI f X Y md s0 r0 p.1 p.2) (fun p=>p.2 - p.1) 1000 (s0,r0) ⟨s0,r0,hb,SI.start hb⟩ (by subst e4;subst e5;(try push_cast (maxSteps:=mS))<;>first|done|rfl|omega|exact ⟨by omega,by omega⟩|trace_state) ?_
   clear hd4 e4 e5 hb r0 s0
   refine ?round
  rintro ⟨q1,q2⟩ ⟨s0,r0,hb,hi⟩
  have hib:=hi.b
  simp only at hib hi
  by_cases hlt:q1<q2
  ·have hd5:decide ((A.length:Int)+(q1:Int)<(A.length:Int)+(q2:Int))=true:=decide_eq_true (by omega)
   obtain ⟨h,hh⟩:∃ h:Nat,h=(2*A.length+q1+q2) / 2 - A.length:=⟨_,rfl⟩
   have hhl:q1≤h∧h<q2:=by omega
   obtain ⟨g1,g2,g3⟩:=SI.get hb hi hhl.1 hhl.2
   have e5:((A.length:Int)+(q1:Int)+((A.length:Int)+(q2:Int))) / 2=(A.length:Int)+(h:Int):=by omega
   clear hh
   have e6:(A.length:Int)+md+(A.length+X.length) - 1 - (A.length+h)=(A.length:Int)+X.length+((md - 1 - h:Nat):Int):=by omega
   have hT:((A.length:Int)+(h:Int)).toNat=A.length+h:=by omega
   have hTy:((A.length:Int)+X.length+((md - 1 - h:Nat):Int)).toNat=A.length+X.length+(md - 1 - h):=by omega
   have hxg:=hXg h g1
   have hyg:=hYg (md - 1 - h) g2
   have hxq:=List.getElem?_eq_getElem g1
   have hyq:=List.getElem?_eq_getElem g2
   have hS:=hf Y[md - 1 - h] (by simp) X[h] (by simp)
   generalize Y[md - 1 - h]=y at *
   generalize X[h]=x at *
   (try push_cast (maxSteps:=mS) [hd5,e5,hT])
   ((repeat' with_reducible refine And.intro ?_ ?_)<;>try exact sz)
   all_goals (try exact inKu64168 (by omega) (by omega))
   (refine DrawK.of (.take 0 (.take 1 (.take 2 (.take 3 (.take 4 (.take 5 (.take 6 (.take 7 (.take 8 (.take 9 (.take 10 (.one 11 (.take 12 (.take 13 .done)))))))))))))) 1000 (by decide +kernel) ?_;try (push_cast (maxSteps:=mS)))
   (try push_cast (maxSteps:=mS) [e6,hT,hTy,getD_map hyg,getD_map hxg])
   ((repeat' with_reducible refine And.intro ?_ ?_)<;>try exact sz)
   all_goals (try exact ix)
   refine ⟨_,hS,rfl,?_⟩
   cases hc:decide (f y x<0) with
   | true =>
    (try push_cast (maxSteps:=mS) [hc])
    ((repeat' with_reducible refine And.intro ?_ ?_)<;>try exact sz)
    refine ⟨(q1,h),⟨s0,r0,hb,hi.down hhl.1 hhl.2 hxq hyq (of_decide_eq_true hc)⟩,by simp only;omega,Le.st ?_⟩
    (try push_cast (maxSteps:=mS))
    all_goals (first|rfl|omega|exact ⟨by omega,rfl⟩|trace_state)
   | false =>
    (try push_cast (maxSteps:=mS) [hc])
    ((repeat' with_reducible refine And.intro ?_ ?_)<;>try exact sz)
    refine ⟨(h+1,q2),⟨s0,r0,hb,hi.up hhl.1 hhl.2 hxq hyq (of_decide_eq_false hc)⟩,by simp only;omega,Le.st ?_⟩
    (try push_cast (maxSteps:=mS))
    all_goals (first|rfl|omega|exact ⟨by omega,rfl⟩|trace_state)
  ·obtain rfl:q1=q2:=by omega
   have hd5:decide ((A.length:Int)+(q1:Int)<(A.length:Int)+(q1:Int))=false:=decide_eq_false (by omega)
   obtain ⟨X1,X2,Y1,Y2,rfl,rfl,rfl,rfl,hmg,o1,o2,o3,o4⟩:=SI.done hf3 hX hY hb hi
   rw [hmg]
   clear hb hi hib hXg hYg hmg s0 r0 hlt hX hY e3 hd2 hd e1 e2
   simp only [List.length_append] at hnl hn hDl hmd2 hX1 hY1 ⊢
   have e7:(A.length:Int)+(X1.length+Y1.length)+(A.length+(X1.length+X2.length)) - (A.length+X1.length)=A.length+X1.length+X2.length+Y1.length:=by omega
   have hml1:=mergeF_len f _ X1 Y1 (Nat.le_refl _)
   have m1:∀ {x},x∈X1++Y1→x∈X1++X2++(Y1++Y2):=fun {x} h=>by
    simp only [List.mem_append] at h ⊢;rcases h with h|h<;>simp [h]
   have m2:∀ {x},x∈X2++Y2→x∈X1++X2++(Y1++Y2):=fun {x} h=>by
    simp only [List.mem_append] at h ⊢;rcases h with h|h<;>simp [h]
   obtain ⟨D1,hD1⟩:∃ D1,D1=A++X1++Y1++X2++(Y2++B):=⟨_,rfl⟩
   obtain ⟨D2,hD2⟩:∃ D2,D2=A++mergeF f X1 Y1++X2++Y2++B:=⟨_,rfl⟩
   obtain ⟨D3,hD3⟩:∃ D3,D3=A++(mergeF f X1 Y1++mergeF f X2 Y2)++B:=⟨_,rfl⟩
   rw [← hD3]
   have r1:0<X2.length→0<Y1.length→SpecM V 183 3 1 (D.map eIx) [i2 .i64 (A.length+X1.length),i2 .i64 (A.length+X1.length+X2.length),i2 .i64 (A.length+X1.length+X2.length+Y1.length),.c (.d (.clo fc [cap,cap2]))] (D1.map eIx) (.tu []):=fun p1 p2=>by
    have h:=z183 (.clo fc [cap,cap2]) (A++X1) X2 Y1 (Y2++B) p1 p2 (by simp only [okLen,List.length_append];omega)
    have e1:(((A++X1).length:Nat):Int)=A.length+X1.length:=by simp
    rw [e1,← hD1,show A++X1++X2++Y1++(Y2++B)=D by rw [hD];simp] at h
    exact h
   have r2:0<X1.length→0<Y1.length→SpecM V 168 3 1 (D1.map eIx) [i2 .i64 A.length,i2 .i64 (A.length+X1.length),i2 .i64 (A.length+X1.length+Y1.length),.c (.d (.clo fc [cap,cap2]))] (D2.map eIx) (.tu []):=fun p1 p2=>by
    have h:=IH A X1 Y1 (X2++(Y2++B)) (by omega) p1 p2 o1 o3 (fun S hS x hx y hy=>by subst hS;exact hf x (m1 hx) y (m1 hy)) (by simp only [okLen,List.length_append];omega)
    rw [show A++X1++Y1++(X2++(Y2++B))=D1 by rw [hD1];simp,show A++mergeF f X1 Y1++(X2++(Y2++B))=D2 by rw [hD2];simp] at h
    exact h
   have r3:0<X2.length→0<Y2.length→SpecM V 168 3 1 (D2.map eIx) [i2 .i64 (A.length+X1.length+Y1.length),i2 .i64 (A.length+X1.length+X2.length+Y1.length),i2 .i64 (A.length+X1.length+X2.length+Y1.length+Y2.length),.c (.d (.clo fc [cap,cap2]))] (D3.map eIx) (.tu []):=fun p1 p2=>by
    have h:=IH (A++mergeF f X1 Y1) X2 Y2 B (by omega) p1 p2 o2 o4 (fun S hS x hx y hy=>by subst hS;exact hf x (m2 hx) y (m2 hy)) (by simp only [okLen,List.length_append];omega)
    have e1:(((A++mergeF f X1 Y1).length:Nat):Int)=A.length+X1.length+Y1.length:=by rw [List.length_append];omega
    have e2:(A.length:Int)+X1.length+Y1.length+X2.length=A.length+X1.length+X2.length+Y1.length:=by omega
    rw [e1,e2,← hD2,show A++mergeF f X1 Y1++mergeF f X2 Y2++B=D3 by rw [hD3];simp] at h
    exact h
   have n1:X2.length=0∨Y1.length=0→D=D1:=fun h=>by
    rw [hD,hD1]
    rcases h with h|h<;>rw [List.eq_nil_of_length_eq_zero h]<;>simp
   have n2:X1.length=0∨Y1.length=0→D1=D2:=fun h=>by
    rw [hD1,hD2]
    rcases h with h|h<;>rw [List.eq_nil_of_length_eq_zero h]<;>simp [nil_mergeF,mergeF_nil]
   have n3:X2.length=0∨Y2.length=0→D2=D3:=fun h=>by
    rw [hD2,hD3]
    rcases h with h|h<;>rw [List.eq_nil_of_length_eq_zero h]<;>simp [nil_mergeF,mergeF_nil]
   have l1:D1.length=D.length:=by rw [hD1,hD];simp only [List.length_append];omega
   have l2:D2.length=D.length:=by rw [hD2,hD];simp only [List.length_append];omega
   clear IH hD hD1 hD2 hD3 m1 m2 hf hml hml1 o1 o2 o3 o4
   (try push_cast (maxSteps:=mS) [hd5,e7])
   ((repeat' with_reducible refine And.intro ?_ ?_)<;>try exact sz)
   simp only [← Int.add_assoc]
   have d1:decide ((A.length:Int)+X1.length<A.length+X1.length+X2.length)=decide (0<X2.length):=decide_eq_decide.2 (by omega)
   have d2:decide ((A.length:Int)+X1.length+X2.length<A.length+X1.length+X2.length+Y1.length)=decide (0<Y1.length):=decide_eq_decide.2 (by omega)
   have d3:decide ((A.length:Int)<A.length+X1.length)=decide (0<X1.length):=decide_eq_decide.2 (by omega)
   have d4:decide ((A.length:Int)+X1.length<A.length+X1.length+Y1.length)=decide (0<Y1.length):=decide_eq_decide.2 (by omega)
   have d5:decide ((A.length:Int)+X1.length+Y1.length<A.length+X1.length+X2.length+Y1.length)=decide (0<X2.length):=decide_eq_decide.2 (by omega)
   have d6:decide ((A.length:Int)+X1.length+X2.length+Y1.length<A.length+X1.length+X2.length+Y1.length+Y2.length)=decide (0<Y2.length):=decide_eq_decide.2 (by omega)
   have b0:∀ n:Nat,decide (0<n)=false→n=0:=fun n h=>by have:=of_decide_eq_false h;omega
   replace r1:=fun h1 h2=>r1 (of_decide_eq_true h1) (of_decide_eq_true h2)
   replace r2:=fun h1 h2=>r2 (of_decide_eq_true h1) (of_decide_eq_true h2)
   replace r3:=fun h1 h2=>r3 (of_decide_eq_true h1) (of_decide_eq_true h2)
   replace n1:=fun h=>n1 (Or.imp (b0 _) (b0 _) h)
   replace n2:=fun h=>n2 (Or.imp (b0 _) (b0 _) h)
   replace n3:=fun h=>n3 (Or.imp (b0 _) (b0 _) h)
   have pn:pinT cp 3 % 1000000=3:=tyOf_pinT cp 3
   generalize decide (0<X1.length)=x1 at *
   generalize decide (0<X2.length)=x2 at *
   generalize decide (0<Y1.length)=y1 at *
   generalize decide (0<Y2.length)=y2 at *
   cases x1<;>cases x2<;>cases y1<;>cases y2
   all_goals (try (have e:=n1 (by decide);subst e))
   all_goals (try (have e:=n2 (by decide);subst e))
   all_goals (try (have e:=n3 (by decide);subst e))
   all_goals (try push_cast (maxSteps:=mS) [d1,d2,d3,d4,d5,d6])
   all_goals (try (refine ⟨_,_,by rw [pn];exact r1 rfl rfl,?_⟩))
   all_goals (try push_cast (maxSteps:=mS) [d1,d2,d3,d4,d5,d6])
   all_goals (try (refine ⟨_,_,by rw [pn];exact r2 rfl rfl,?_⟩))
   all_goals (try push_cast (maxSteps:=mS) [d1,d2,d3,d4,d5,d6])
   all_goals (try (refine ⟨_,_,by rw [pn];exact r3 rfl rfl,?_⟩))
   all_goals (try push_cast (maxSteps:=mS) [d1,d2,d3,d4,d5,d6])
   all_goals trace_state
set_option maxHeartbeats 8000000 in
theorem z125 (f:List Vl→List Vl→Int) (hf3:Ord3 f) (fc:FuncId) (cap:DV) (rows:List (List Vl)) (hf:∀ S,S=rows→(∀ x∈S,∀ y∈S,Spec V fc [.c (.d (.sl 4 (x.map eV))),.c (.d (.sl 4 (y.map eV))),.c (.d cap)] (i2 .i64 (f x y)))) (hn:rows.length≤1000000000) :
  SpecM V 125 28 1 (rows.map eR) [i2 .i64 rows.length,.c (.d (.clo fc [cap]))] ((sortF f rows).map eR) (.tu []):=by
 have hf:=hf _ rfl
 (refine SpecM.of_go (L:=lv2ZM) 1000 Go.Proofs.Tryz.func125 rfl rfl ⟨Nat.le_of_ble_eq_true rfl,rfl⟩ rfl (by simp only [List.length_map,sortF_len]) (by decide) ?_;intro cp;unfold Go.Proofs.Tryz.f125;push_cast (maxSteps:=mS))
 ((repeat' with_reducible refine And.intro ?_ ?_)<;>try exact sz)
 have pn:pinT cp 28 % 1000000=28:=tyOf_pinT cp 28
 obtain ⟨G,hG⟩:∃ G,G=blocksF f 20 rows:=⟨_,rfl⟩
 have hs20:=fun R hR=>blocks_one (f:=f) (s:=20) (by decide) (R:=R) hR
 refine LoopK.ov (α:=List (List Vl) × List (List Vl)) [7,8] (fun p=>[i2 .i64 p.1.length,i2 .i64 (p.1.length+20)]) (fun p=>[.rw (pinT cp 28) 1 ((p.1++p.2).map eR)]) (fun p=>p.1.length+p.2.length=rows.length∧p.1++blocksF f 20 p.2=G∧∀ x∈p.2,x∈rows) (fun p=>p.2.length) 1000 ([],rows) ⟨by simp,by simp [hG],fun _ h=>h⟩ (by (try push_cast (maxSteps:=mS))<;>first|done|rfl|(simp;done)|trace_state) ?_
 rintro ⟨D,R⟩ ⟨h1,h2,h3⟩
 simp only at h1 h2 h3
 by_cases hle:20≤R.length
 ·have hd:decide ((D.length:Int)+20≤(rows.length:Int))=true:=decide_eq_true (by omega)
  obtain ⟨T,R',rfl,hT,hb⟩:=hs20 R hle
  rw [hb] at h2
  simp only [List.length_append] at h1
  have hS:=f92 f fc cap D T R' (fun x hx y hy=>hf x (h3 x (List.mem_append_left _ hx)) y (h3 y (List.mem_append_left _ hy))) (by simp only [okLen,List.length_append];omega)
  rw [sortR_F hf3,hT,List.append_assoc D T R'] at hS
  (try push_cast (maxSteps:=mS) [hd])
  refine ⟨_,_,by rw [pn];exact hS,?_⟩
  (try push_cast (maxSteps:=mS))
  refine ⟨inK64 (by omega) (by omega),(D++sortF f T,R'),⟨by simp only [List.length_append,sortF_len];omega,by rw [← h2];simp,fun x hx=>h3 x (List.mem_append_right _ hx)⟩,by simp only [List.length_append];omega,Le.st ?_⟩
  have hDl:(((D++sortF f T).length:Nat):Int)=D.length+20:=by rw [List.length_append,sortF_len,hT];omega
  (try push_cast (maxSteps:=mS))
  all_goals (exact ⟨by omega,by omega⟩)
 ·have hd:decide ((D.length:Int)+20≤(rows.length:Int))=false:=decide_eq_false (by omega)
  have hS:=f92 f fc cap D R [] (fun x hx y hy=>hf x (h3 x hx) y (h3 y hy)) (by simp only [okLen,List.length_append,List.length_nil];omega)
  rw [sortR_F hf3,List.append_nil,List.append_nil] at hS
  rw [blocks_short (by omega)] at h2
  rw [h2] at hS
  have e1:(D.length:Int)+R.length=rows.length:=by omega
  rw [e1] at hS
  (try push_cast (maxSteps:=mS) [hd])
  refine ⟨_,_,by rw [pn];exact hS,?_⟩
  (try push_cast (maxSteps:=mS))
  clear hS h1 h2 h3 hle hd e1 hs20 D R
  rw [hG]
  clear hG G
  refine LoopK.ov (α:=Nat) [6] (fun s=>[i2 .i64 s]) (fun s=>[.rw (pinT cp 28) 1 ((blocksF f s rows).map eR)]) (fun s=>20≤s∧s≤2*rows.length+20) (fun s=>rows.length - s) 1000 20 ⟨Nat.le_refl _,by omega⟩ (by (try push_cast (maxSteps:=mS))<;>first|done|rfl|(simp;done)|trace_state) ?_
  rintro s ⟨hs1,hs2⟩
  by_cases hlt:s<rows.length
  ·have hd:decide ((s:Int)<(rows.length:Int))=true:=decide_eq_true (by omega)
   have t2:=fun R hR=>blocks_two (f:=f) (s:=s) (by omega) (R:=R) hR
   have tr:=fun R hR hR2=>blocks_rest (f:=f) (s:=s) (by omega) (R:=R) hR hR2
   have tl:∀ R:List (List Vl),(blocksF f s R).length=R.length:=fun R=>blocks_len (by omega) _ R (Nat.le_refl _)
   obtain ⟨G,hG⟩:∃ G,G=blocksF f (2*s) rows:=⟨_,rfl⟩
   (try push_cast (maxSteps:=mS) [hd])
   refine ⟨inK64 (by omega) (by omega),?_⟩
   refine LoopK.ov (α:=List (List Vl) × List (List Vl)) [7,8] (fun p=>[i2 .i64 p.1.length,i2 .i64 (p.1.length+2*s)]) (fun p=>[.rw (pinT cp 28) 1 ((p.1++blocksF f s p.2).map eR)]) (fun p=>p.1.length+p.2.length=rows.length∧p.1++blocksF f (2*s) p.2=G∧∀ x∈p.2,x∈rows) (fun p=>p.2.length) 1000 ([],rows) ⟨by simp,by simp [hG],fun _ h=>h⟩ (by (try push_cast (maxSteps:=mS))<;>first|done|rfl|(simp;done)|trace_state) ?_
   rintro ⟨D,R⟩ ⟨h1,h2,h3⟩
   simp only at h1 h2 h3
   by_cases hle:2*s≤R.length
   ·have hd2:decide ((D.length:Int)+2*s≤(rows.length:Int))=true:=decide_eq_true (by omega)
    obtain ⟨T1,T2,R',rfl,l1,l2,b1,b2⟩:=t2 R hle
    rw [b2] at h2
    rw [b1]
    simp only [List.length_append] at h1
    have hS:=z161 f hf3 fc cap _ D (sortF f T1) (sortF f T2) (blocksF f s R') (Nat.le_refl _) (by rw [sortF_len];omega) (by rw [sortF_len];omega) (sortF_ord hf3 _) (sortF_ord hf3 _) (fun S hS x hx y hy=>by
     have hm:∀ z,z∈S→z∈rows:=fun z hz=>by
      subst hS
      refine h3 z ?_
      simp only [List.mem_append,sortF_mem] at hz ⊢
      exact .inl hz
     exact hf x (hm x hx) y (hm y hy)) (by simp only [okLen,List.length_append,sortF_len,tl];omega)
    rw [merge_sorts hf3,sortF_len,sortF_len,l1,l2] at hS
    have e2:(D.length:Int)+s+s=D.length+2*s:=by omega
    rw [e2,show D++sortF f T1++sortF f T2++blocksF f s R'=D++(sortF f T1++sortF f T2++blocksF f s R') by simp] at hS
    (try push_cast (maxSteps:=mS) [hd2])
    refine ⟨inK64 (by omega) (by omega),_,_,by rw [pn];exact hS,?_⟩
    (try push_cast (maxSteps:=mS))
    refine ⟨inK64 (by omega) (by omega),inK64 (by omega) (by omega),(D++sortF f (T1++T2),R'),⟨by simp only [List.length_append,sortF_len];omega,by rw [← h2];simp,fun x hx=>h3 x (List.mem_append_right _ hx)⟩,by simp only [List.length_append];omega,Le.st ?_⟩
    have hDl:(((D++sortF f (T1++T2)).length:Nat):Int)=D.length+2*s:=by rw [List.length_append,sortF_len,List.length_append];omega
    rw [List.append_assoc]
    (try push_cast (maxSteps:=mS))
    all_goals (exact ⟨by omega,by omega⟩)
   ·have hd2:decide ((D.length:Int)+2*s≤(rows.length:Int))=false:=decide_eq_false (by omega)
    by_cases hlr:s<R.length
    ·have hd3:decide ((D.length:Int)+s<(rows.length:Int))=true:=decide_eq_true (by omega)
     obtain ⟨T1,T2,rfl,l1,l2,b1,b2⟩:=tr R hlr (by omega)
     rw [b2] at h2
     rw [b1]
     simp only [List.length_append] at h1
     have hS:=z161 f hf3 fc cap _ D (sortF f T1) (sortF f T2) [] (Nat.le_refl _) (by rw [sortF_len];omega) (by rw [sortF_len];omega) (sortF_ord hf3 _) (sortF_ord hf3 _) (fun S hS x hx y hy=>by
      have hm:∀ z,z∈S→z∈rows:=fun z hz=>by
       subst hS
       refine h3 z ?_
       simp only [List.mem_append,sortF_mem] at hz ⊢
       exact hz
      exact hf x (hm x hx) y (hm y hy)) (by simp only [okLen,List.length_append,sortF_len,List.length_nil];omega)
     have e2:(D.length:Int)+s+T2.length=rows.length:=by omega
     rw [merge_sorts hf3,sortF_len,sortF_len,l1,e2,List.append_nil,List.append_nil,h2,List.append_assoc] at hS
     (try push_cast (maxSteps:=mS) [hd2,hd3])
     refine ⟨inK64 (by omega) (by omega),_,_,by rw [pn];exact hS,?_⟩
     (try push_cast (maxSteps:=mS))
     refine ⟨inK64 (by omega) (by omega),2*s,⟨by omega,by omega⟩,by omega,Le.st ?_⟩
     rw [hG]
     (try push_cast (maxSteps:=mS))
     all_goals exact Int.mul_comm _ _
    ·have hd3:decide ((D.length:Int)+s<(rows.length:Int))=false:=decide_eq_false (by omega)
     rw [blocks_short (f:=f) (rows:=R) (s:=2*s) (by omega)] at h2
     rw [blocks_short (f:=f) (rows:=R) (s:=s) (by omega),h2]
     (try push_cast (maxSteps:=mS) [hd2,hd3])
     refine ⟨inK64 (by omega) (by omega),inK64 (by omega) (by omega),2*s,⟨by omega,by omega⟩,by omega,Le.st ?_⟩
     rw [hG]
     (try push_cast (maxSteps:=mS))
     all_goals exact Int.mul_comm _ _
  ·have hd:=geF hlt
   rw [blocks_short (by omega)]
   (try push_cast (maxSteps:=mS) [hd])
theorem z86 (f:List Vl→List Vl→Int) (hf3:Ord3 f) (fc:FuncId) (cap:DV) (rows:List (List Vl)) (hf:∀ S,S=rows→(∀ x∈S,∀ y∈S,Spec V fc [.c (.d (.sl 4 (x.map eV))),.c (.d (.sl 4 (y.map eV))),.c (.d cap)] (i2 .i64 (f x y)))) (hn:rows.length≤1000000000) :
  SpecM V 86 28 1 (rows.map eR) [.c (.d (.clo fc [cap]))] ((sortF f rows).map eR) (.tu []):=by
 have hS:=z125 f hf3 fc cap rows hf hn
 (refine SpecM.of_go (L:=lv4ZM) 1000 Go.Proofs.Tryz.func86 rfl rfl ⟨Nat.le_of_ble_eq_true rfl,rfl⟩ rfl (by simp only [List.length_map,sortF_len]) (by decide) ?_;intro cp;unfold Go.Proofs.Tryz.f86;push_cast (maxSteps:=mS))
 refine ⟨_,_,by rw [show pinT cp 28 % 1000000=28 from tyOf_pinT cp 28];exact hS,rfl⟩
set_option maxHeartbeats 8000000 in
theorem z140 (f:Nat→Nat→Int) (hf3:Ord3 f) (fc:FuncId) (cap cap2:DV) (rows:List (Nat)) (hf:∀ S,S=rows→(∀ x∈S,∀ y∈S,Spec V fc [i2 .i64 x,i2 .i64 y,.c (.d cap),.c (.d cap2)] (i2 .i64 (f x y)))) (hn:rows.length≤1000000000) :
  SpecM V 140 3 1 (rows.map eIx) [i2 .i64 rows.length,.c (.d (.clo fc [cap,cap2]))] ((sortF f rows).map eIx) (.tu []):=by
 have hf:=hf _ rfl
 (refine SpecM.of_go (L:=lv2ZM) 1000 Go.Proofs.Tryz.func140 rfl rfl ⟨Nat.le_of_ble_eq_true rfl,rfl⟩ rfl (by simp only [List.length_map,sortF_len]) (by decide) ?_;intro cp;unfold Go.Proofs.Tryz.f140;push_cast (maxSteps:=mS))
 ((repeat' with_reducible refine And.intro ?_ ?_)<;>try exact sz)
 have pn:pinT cp 3 % 1000000=3:=tyOf_pinT cp 3
 obtain ⟨G,hG⟩:∃ G,G=blocksF f 20 rows:=⟨_,rfl⟩
 have hs20:=fun R hR=>blocks_one (f:=f) (s:=20) (by decide) (R:=R) hR
 refine LoopK.ov (α:=List (Nat) × List (Nat)) [7,8] (fun p=>[i2 .i64 p.1.length,i2 .i64 (p.1.length+20)]) (fun p=>[.rw (pinT cp 3) 1 ((p.1++p.2).map eIx)]) (fun p=>p.1.length+p.2.length=rows.length∧p.1++blocksF f 20 p.2=G∧∀ x∈p.2,x∈rows) (fun p=>p.2.length) 1000 ([],rows) ⟨by simp,by simp [hG],fun _ h=>h⟩ (by (try push_cast (maxSteps:=mS))<;>first|done|rfl|(simp;done)|trace_state) ?_
 rintro ⟨D,R⟩ ⟨h1,h2,h3⟩
 simp only at h1 h2 h3
 by_cases hle:20≤R.length
 ·have hd:decide ((D.length:Int)+20≤(rows.length:Int))=true:=decide_eq_true (by omega)
  obtain ⟨T,R',rfl,hT,hb⟩:=hs20 R hle
  rw [hb] at h2
  simp only [List.length_append] at h1
  have hS:=f94 f fc cap cap2 D T R' (fun x hx y hy=>hf x (h3 x (List.mem_append_left _ hx)) y (h3 y (List.mem_append_left _ hy))) (by simp only [okLen,List.length_append];omega)
  rw [sortR_F hf3,hT,List.append_assoc D T R'] at hS
  (try push_cast (maxSteps:=mS) [hd])
  refine ⟨_,_,by rw [pn];exact hS,?_⟩
  (try push_cast (maxSteps:=mS))
  refine ⟨inK64 (by omega) (by omega),(D++sortF f T,R'),⟨by simp only [List.length_append,sortF_len];omega,by rw [← h2];simp,fun x hx=>h3 x (List.mem_append_right _ hx)⟩,by simp only [List.length_append];omega,Le.st ?_⟩
  have hDl:(((D++sortF f T).length:Nat):Int)=D.length+20:=by rw [List.length_append,sortF_len,hT];omega
  (try push_cast (maxSteps:=mS))
  all_goals (exact ⟨by omega,by omega⟩)
 ·have hd:decide ((D.length:Int)+20≤(rows.length:Int))=false:=decide_eq_false (by omega)
  have hS:=f94 f fc cap cap2 D R [] (fun x hx y hy=>hf x (h3 x hx) y (h3 y hy)) (by simp only [okLen,List.length_append,List.length_nil];omega)
  rw [sortR_F hf3,List.append_nil,List.append_nil] at hS
  rw [blocks_short (by omega)] at h2
  rw [h2] at hS
  have e1:(D.length:Int)+R.length=rows.length:=by omega
  rw [e1] at hS
  (try push_cast (maxSteps:=mS) [hd])
  refine ⟨_,_,by rw [pn];exact hS,?_⟩
  (try push_cast (maxSteps:=mS))
  clear hS h1 h2 h3 hle hd e1 hs20 D R
  rw [hG]
  clear hG G
  refine LoopK.ov (α:=Nat) [6] (fun s=>[i2 .i64 s]) (fun s=>[.rw (pinT cp 3) 1 ((blocksF f s rows).map eIx)]) (fun s=>20≤s∧s≤2*rows.length+20) (fun s=>rows.length - s) 1000 20 ⟨Nat.le_refl _,by omega⟩ (by (try push_cast (maxSteps:=mS))<;>first|done|rfl|(simp;done)|trace_state) ?_
  rintro s ⟨hs1,hs2⟩
  by_cases hlt:s<rows.length
  ·have hd:decide ((s:Int)<(rows.length:Int))=true:=decide_eq_true (by omega)
   have t2:=fun R hR=>blocks_two (f:=f) (s:=s) (by omega) (R:=R) hR
   have tr:=fun R hR hR2=>blocks_rest (f:=f) (s:=s) (by omega) (R:=R) hR hR2
   have tl:∀ R:List (Nat),(blocksF f s R).length=R.length:=fun R=>blocks_len (by omega) _ R (Nat.le_refl _)
   obtain ⟨G,hG⟩:∃ G,G=blocksF f (2*s) rows:=⟨_,rfl⟩
   (try push_cast (maxSteps:=mS) [hd])
   refine ⟨inK64 (by omega) (by omega),?_⟩
   refine LoopK.ov (α:=List (Nat) × List (Nat)) [7,8] (fun p=>[i2 .i64 p.1.length,i2 .i64 (p.1.length+2*s)]) (fun p=>[.rw (pinT cp 3) 1 ((p.1++blocksF f s p.2).map eIx)]) (fun p=>p.1.length+p.2.length=rows.length∧p.1++blocksF f (2*s) p.2=G∧∀ x∈p.2,x∈rows) (fun p=>p.2.length) 1000 ([],rows) ⟨by simp,by simp [hG],fun _ h=>h⟩ (by (try push_cast (maxSteps:=mS))<;>first|done|rfl|(simp;done)|trace_state) ?_
   rintro ⟨D,R⟩ ⟨h1,h2,h3⟩
   simp only at h1 h2 h3
   by_cases hle:2*s≤R.length
   ·have hd2:decide ((D.length:Int)+2*s≤(rows.length:Int))=true:=decide_eq_true (by omega)
    obtain ⟨T1,T2,R',rfl,l1,l2,b1,b2⟩:=t2 R hle
    rw [b2] at h2
    rw [b1]
    simp only [List.length_append] at h1
    have hS:=z168 f hf3 fc cap cap2 _ D (sortF f T1) (sortF f T2) (blocksF f s R') (Nat.le_refl _) (by rw [sortF_len];omega) (by rw [sortF_len];omega) (sortF_ord hf3 _) (sortF_ord hf3 _) (fun S hS x hx y hy=>by
     have hm:∀ z,z∈S→z∈rows:=fun z hz=>by
      subst hS
      refine h3 z ?_
      simp only [List.mem_append,sortF_mem] at hz ⊢
      exact .inl hz
     exact hf x (hm x hx) y (hm y hy)) (by simp only [okLen,List.length_append,sortF_len,tl];omega)
    rw [merge_sorts hf3,sortF_len,sortF_len,l1,l2] at hS
    have e2:(D.length:Int)+s+s=D.length+2*s:=by omega
    rw [e2,show D++sortF f T1++sortF f T2++blocksF f s R'=D++(sortF f T1++sortF f T2++blocksF f s R') by simp] at hS
    (try push_cast (maxSteps:=mS) [hd2])
    refine ⟨inK64 (by omega) (by omega),_,_,by rw [pn];exact hS,?_⟩
    (try push_cast (maxSteps:=mS))
    refine ⟨inK64 (by omega) (by omega),inK64 (by omega) (by omega),(D++sortF f (T1++T2),R'),⟨by simp only [List.length_append,sortF_len];omega,by rw [← h2];simp,fun x hx=>h3 x (List.mem_append_right _ hx)⟩,by simp only [List.length_append];omega,Le.st ?_⟩
    have hDl:(((D++sortF f (T1++T2)).length:Nat):Int)=D.length+2*s:=by rw [List.length_append,sortF_len,List.length_append];omega
    rw [List.append_assoc]
    (try push_cast (maxSteps:=mS))
    all_goals (exact ⟨by omega,by omega⟩)
   ·have hd2:decide ((D.length:Int)+2*s≤(rows.length:Int))=false:=decide_eq_false (by omega)
    by_cases hlr:s<R.length
    ·have hd3:decide ((D.length:Int)+s<(rows.length:Int))=true:=decide_eq_true (by omega)
     obtain ⟨T1,T2,rfl,l1,l2,b1,b2⟩:=tr R hlr (by omega)
     rw [b2] at h2
     rw [b1]
     simp only [List.length_append] at h1
     have hS:=z168 f hf3 fc cap cap2 _ D (sortF f T1) (sortF f T2) [] (Nat.le_refl _) (by rw [sortF_len];omega) (by rw [sortF_len];omega) (sortF_ord hf3 _) (sortF_ord hf3 _) (fun S hS x hx y hy=>by
      have hm:∀ z,z∈S→z∈rows:=fun z hz=>by
       subst hS
       refine h3 z ?_
       simp only [List.mem_append,sortF_mem] at hz ⊢
       exact hz
      exact hf x (hm x hx) y (hm y hy)) (by simp only [okLen,List.length_append,sortF_len,List.length_nil];omega)
     have e2:(D.length:Int)+s+T2.length=rows.length:=by omega
     rw [merge_sorts hf3,sortF_len,sortF_len,l1,e2,List.append_nil,List.append_nil,h2,List.append_assoc] at hS
     (try push_cast (maxSteps:=mS) [hd2,hd3])
     refine ⟨inK64 (by omega) (by omega),_,_,by rw [pn];exact hS,?_⟩
     (try push_cast (maxSteps:=mS))
     refine ⟨inK64 (by omega) (by omega),2*s,⟨by omega,by omega⟩,by omega,Le.st ?_⟩
     rw [hG]
     (try push_cast (maxSteps:=mS))
     all_goals exact Int.mul_comm _ _
    ·have hd3:decide ((D.length:Int)+s<(rows.length:Int))=false:=decide_eq_false (by omega)
     rw [blocks_short (f:=f) (rows:=R) (s:=2*s) (by omega)] at h2
     rw [blocks_short (f:=f) (rows:=R) (s:=s) (by omega),h2]
     (try push_cast (maxSteps:=mS) [hd2,hd3])
     refine ⟨inK64 (by omega) (by omega),inK64 (by omega) (by omega),2*s,⟨by omega,by omega⟩,by omega,Le.st ?_⟩
     rw [hG]
     (try push_cast (maxSteps:=mS))
     all_goals exact Int.mul_comm _ _
  ·have hd:=geF hlt
   rw [blocks_short (by omega)]
   (try push_cast (maxSteps:=mS) [hd])
theorem z101 (f:Nat→Nat→Int) (hf3:Ord3 f) (fc:FuncId) (cap cap2:DV) (rows:List (Nat)) (hf:∀ S,S=rows→(∀ x∈S,∀ y∈S,Spec V fc [i2 .i64 x,i2 .i64 y,.c (.d cap),.c (.d cap2)] (i2 .i64 (f x y)))) (hn:rows.length≤1000000000) :
  SpecM V 101 3 1 (rows.map eIx) [.c (.d (.clo fc [cap,cap2]))] ((sortF f rows).map eIx) (.tu []):=by
 have hS:=z140 f hf3 fc cap cap2 rows hf hn
 (refine SpecM.of_go (L:=lv4ZM) 1000 Go.Proofs.Tryz.func101 rfl rfl ⟨Nat.le_of_ble_eq_true rfl,rfl⟩ rfl (by simp only [List.length_map,sortF_len]) (by decide) ?_;intro cp;unfold Go.Proofs.Tryz.f101;push_cast (maxSteps:=mS))
 refine ⟨_,_,by rw [show pinT cp 3 % 1000000=3 from tyOf_pinT cp 3];exact hS,rfl⟩
set_option maxHeartbeats 2000000 in
theorem g35 (ks:List Ky) (l:List Cl) (rows:List (List Vl)) (hk:okLen ks) (hl:okCl l) (hr:okRs rows) (hn:rows.length≤1000000000) :
  Spec V 48 [.c (.d (.sl 2 (ks.map eK))),.c (.d (.sl 3 (l.map eC))),.c (.d (.sl 1 (rows.map eR)))] (.tu [.c (.d (.sl 1 ((sortC ks l rows).1.map eR))),i2 .i64 (sortC ks l rows).2]):=by
 have hS:=f63 ks l [rows] hk hl (by simp [okLen]) (by simpa using hr.1)
 (refine Spec.of_go (L:=fun|0=>some [0,1,2]|1=>some [2,8,9]|2=>some [2,8,9,20]|3=>some [6,7]|4=>some [8,10]|5=>some [10]|6=>some [6,7]|_=>none) 1000 Go.Proofs.Tryz.func48 rfl rfl ⟨Nat.le_of_ble_eq_true rfl,rfl⟩ rfl ?_;unfold Go.Proofs.Tryz.f48;push_cast (maxSteps:=mS))
 refine ⟨_,hS,rfl,?_⟩
 (try push_cast (maxSteps:=mS))
 refine BrP.mk (fun h=>?_) (fun h=>?_)<;>try (push_cast (maxSteps:=mS) [h])
 ·have h':¬ (placesR ks l [rows]).2=0:=by simpa using h
  have e:sortC ks l rows=([],(placesR ks l [rows]).2):=by simp [sortC,h']
  rw [e]
  (try push_cast (maxSteps:=mS))
 ·have h':(placesR ks l [rows]).2=0:=by simpa using h
  have e:sortC ks l rows=(sortF (ordF (placesF ks l)) rows,0):=by simp [sortC,h']
  obtain ⟨hp,hoc,hwd⟩:=places_ok h'
  rw [e,hp]
  (try push_cast (maxSteps:=mS))
  refine .inl ⟨_,_,_,f64R rows hr.1 (fun r h=>(hr.2 r h).1),?_⟩
  (try push_cast (maxSteps:=mS))
  have hlt:∀ x∈rows,∀ y∈placesF ks l,y.at_<x.length:=fun x hx y hy=>by
   rw [hwd x hx];exact places_lt hoc y hy
  have hS2:=z86 (ordF (placesF ks l)) (ord_ordF _) 87 (.at_ [.sl 2 ((placesF ks l).map eP)]) rows (fun S hS x hx y hy=>by subst hS;exact f66 _ x y (by simpa only [okLen,placesF,List.length_map] using hk) (hlt x hx) (hlt y hy)) hn
  exact ⟨_,_,hS2,rfl⟩
set_option maxHeartbeats 4000000 in
theorem g42 (ks:List Ky) (l:List Cl) (rows:List (List Vl)) (hk:okLen ks) (hl:okCl l) (hr:okRs rows) (hn:rows.length≤1000000000) :
  Spec V 53 [.c (.d (.sl 2 (ks.map eK))),.c (.d (.sl 3 (l.map eC))),.c (.d (.sl 1 (rows.map eR)))] (.tu [.c (.d (.sl 1 ((uniqC ks l rows).1.map eR))),i2 .i64 (uniqC ks l rows).2]):=by
 have hS:=f63 ks l [rows] hk hl (by simp [okLen]) (by simpa using hr.1)
 (refine Spec.of_go (L:=fun|0=>some [0,1,5]|1=>some [5,8,9]|2=>some [5,8,9,27]|3=>some [6,7]|4=>some [5,8,10]|5=>some [5,8,10,33,34]|6=>some [5,8,10,33,34,35]|7=>some [5,8,10,11,33,34]|8=>some [5,8,10,33,34]|9=>some [5,8,10,33,34]|10=>some [5,8,10]|11=>some [5,8,10,12]|12=>some [5,8,10,12,48,49,50]|13=>some [5,8,10,12,48,49,50,51]|14=>some [5,8,10,12,13,14,48,49,50]|15=>some [5,8,10,12,48,49,50]|16=>some [5,8,10,12,48,49,50]|17=>some [5,12,15]|18=>some [12,15,78,79,80]|19=>some [12,15,78,79,80,81]|20=>some [12,15,16,17,78,79,80]|21=>some [12,15,17,78,79,80,88]|22=>some [12,15,78,79,80]|23=>some [12,15,78,79,80]|24=>some [6,7]|_=>none) 1000 Go.Proofs.Tryz.func53 rfl rfl ⟨Nat.le_of_ble_eq_true rfl,rfl⟩ rfl ?_;unfold Go.Proofs.Tryz.f53;push_cast (maxSteps:=mS))
 refine ⟨_,hS,rfl,?_⟩
 (try push_cast (maxSteps:=mS))
 refine BrP.mk (fun h=>?_) (fun h=>?_)<;>try (push_cast (maxSteps:=mS) [h])
 ·have h':¬ (placesR ks l [rows]).2=0:=by simpa using h
  have e:uniqC ks l rows=([],(placesR ks l [rows]).2):=by simp [uniqC,h']
  rw [e]
  (try push_cast (maxSteps:=mS))
 ·have h':(placesR ks l [rows]).2=0:=by simpa using h
  have e:uniqC ks l rows=(uniqK (ordF (placesF ks l)) [] rows rows.length,0):=by simp [uniqC,h']
  obtain ⟨hp,hoc,hwd⟩:=places_ok h'
  rw [e,hp]
  have hfo:=ord_ordF (placesF ks l)
  have hpl:okLen (placesF ks l):=by simpa only [okLen,placesF,List.length_map] using hk
  have hPl:∀ x∈rows,∀ y∈placesF ks l,y.at_<x.length:=fun x hx y hy=>by
   rw [hwd x hx];exact places_lt hoc y hy
  (try push_cast (maxSteps:=mS))
  ((repeat' with_reducible refine And.intro ?_ ?_)<;>try exact sz)
  simp only [List.length_replicate]
  generalize hf:ordF (placesF ks l)=f at *
  refine LoopK.ov (α:=Nat) [34] (fun k=>[i2 .i64 k]) (fun k=>[.bx 23 [.d (.sl 1 (rows.map eR))],.dead,.bx 160 [.d (.sl 2 ((placesF ks l).map eP))],.rw 3 1 ((List.range k++List.replicate (rows.length - k) 0).map eIx)]) (fun k=>k≤rows.length) (fun k=>rows.length - k) 1000 0 (by omega) (by (try push_cast (maxSteps:=mS))<;>first|rfl|simp [eIx,zeroD]) ?_
  rintro k hk'
  by_cases hlt:k<rows.length
  ·have hv:=atT hlt;have hd:=ltT hlt
   have hst:=range_step hlt
   obtain ⟨D,hD⟩:∃ D,D=List.range k++List.replicate (rows.length - k) 0:=⟨_,rfl⟩
   have hDl:D.length=rows.length:=by rw [hD];simp;omega
   have hset:(D.map eIx).set k [.v (.int .i64 (k:Int))]=(List.range (k+1)++List.replicate (rows.length - (k+1)) 0).map eIx:=by
    rw [← hst,← hD,List.map_set];rfl
   have hgd:List.drop 1 ((D.map eIx).getD k [])=[]:=by
    have hDk:k<D.length:=by omega
    rw [List.getD_eq_getElem?_getD,List.getElem?_map,List.getElem?_eq_getElem hDk];rfl
   rw [← hD]
   (try push_cast (maxSteps:=mS) [hd,hgd,hset])
   ((repeat' with_reducible refine And.intro ?_ ?_)<;>try exact sz)
   refine ⟨k+1,by omega,by omega,Le.st ?_⟩
   (try push_cast (maxSteps:=mS) [hgd,hset])
   all_goals rfl
  ·have hd:=geF hlt
   have:k=rows.length:=by omega
   subst this
   have h68:=z101 (byNo f [] rows) (hfo.on fun a=>rows.getD a []) 102 (.at_ [.sl 2 ((placesF ks l).map eP)]) (.at_ [.sl 1 (rows.map eR)]) (List.range rows.length) (fun S hS x hx y hy=>by
    subst hS
    have:=f69 (placesF ks l) rows x y hpl hr.1 hPl (List.mem_range.1 hx) (List.mem_range.1 hy)
    rwa [hf] at this) (by rw [List.length_range];exact hn)
   have eD:List.range rows.length++List.replicate (rows.length - rows.length) 0=List.range rows.length:=by simp
   rw [eD]
   (try push_cast (maxSteps:=mS) [hd])
   refine ⟨_,_,h68,?_⟩
   have hflag:=fun i=>@flag_first _ f hfo [] rows _ rfl i
   have hLm:∀ x,x∈sortF (byNo f [] rows) (List.range rows.length)↔x<rows.length:=fun x=>by rw [sortF_mem,List.mem_range]
   have hLl:(sortF (byNo f [] rows) (List.range rows.length)).length=rows.length:=by rw [sortF_len,List.length_range]
   generalize sortF (byNo f [] rows) (List.range rows.length)=L at *
   (try push_cast (maxSteps:=mS))
   ((repeat' with_reducible refine And.intro ?_ ?_)<;>try exact sz)
   refine LoopK.ov (α:=Nat × List Bool) [50] (fun p=>[i2 .i64 p.1]) (fun p=>[.dead,.dead,.dead,.rw 3 1 (L.map eIx),.rw 4 1 (p.2.map eB)])
    (fun p=>p.1≤L.length∧p.2.length=rows.length∧∀ i,i<p.1→∀ (h:i<L.length),p.2[L[i]]?=some (firstB f [] rows L[i])) (fun p=>L.length - p.1) 1000 (0,List.replicate rows.length false) ⟨by simp,by simp,fun i h=>by simp at h⟩ (by (try push_cast (maxSteps:=mS))<;>first|rfl|simp [eB,zeroD]) ?_
   rintro ⟨i,bs⟩ ⟨hi,hbl,hb⟩
   simp only at hi hbl hb
   by_cases hil:i<L.length
   ·have hvi:=List.getElem?_eq_getElem hil
    have hdi:decide ((i:Int)<(L.length:Int))=true:=decide_eq_true (by omega)
    have hfl:=hflag i hil
    have hmr:L[i]<rows.length:=(hLm _).1 (List.getElem_mem hil)
    have hmL:∀ i',i'<i+1→∀ (h:i'<L.length),(bs.set L[i] (firstB f [] rows L[i]))[L[i']]?=some (firstB f [] rows L[i']):=fun i' hi' h=>by
     by_cases e:L[i']=L[i]
     ·rw [e,List.getElem?_set_self (by omega)]
     ·rw [List.getElem?_set_ne (fun e'=>e e'.symm)]
      refine hb i' ?_ h
      rcases Nat.lt_or_ge i' i with h1|h1
      ·exact h1
      ·have:i'=i:=by omega
       subst this;exact absurd rfl e
    have hset2:(bs.map eB).set L[i] [.v (.bool (firstB f [] rows L[i]))]=(bs.set L[i] (firstB f [] rows L[i])).map eB:=by
     rw [List.map_set];rfl
    have hgd2:List.drop 1 ((bs.map eB).getD L[i] [])=[]:=by
     have:L[i]<bs.length:=by omega
     rw [List.getD_eq_getElem?_getD,List.getElem?_map,List.getElem?_eq_getElem this];rfl
    have hvm:=List.getElem?_eq_getElem hmr
    rcases i with _|i
    ·have hb1:firstB f [] rows L[0]=true:=by rw [← hfl];rfl
     rw [hb1] at hset2 hmL
     generalize L[0]=m at *
     have hdi0:decide (0<(L.length:Int))=true:=decide_eq_true (by omega)
     (try push_cast (maxSteps:=mS) [hdi0,getD_map hvi])
     ((repeat' with_reducible refine And.intro ?_ ?_)<;>try exact sz)
     (refine DrawK.of (.take 0 (.take 1 (.take 2 (.take 3 (.take 4 (.take 5 (.take 6 (.take 7 (.take 8 (.take 9 (.take 10 (.take 11 (.take 12 (.take 13 (.take 14 (.take 15 (.take 16 (.take 17 (.one 18 (.take 19 (.take 20 (.take 21 (.one 22 .done))))))))))))))))))))))) 1000 (by decide +kernel) ?_;try (push_cast (maxSteps:=mS)))
     ((repeat' with_reducible refine And.intro ?_ ?_)<;>try exact sz)
     (try push_cast (maxSteps:=mS) [hgd2,hset2])
     refine ⟨(1,bs.set m true),⟨by simp only;omega,by simp only [List.length_set];exact hbl,hmL⟩,by simp only;omega,Le.st ?_⟩
     (try push_cast (maxSteps:=mS))
     all_goals rfl
    ·have hi0:i<L.length:=by omega
     have hv0:=List.getElem?_eq_getElem hi0
     have hm0:L[i]<rows.length:=(hLm _).1 (List.getElem_mem hi0)
     have hv0m:=List.getElem?_eq_getElem hm0
     have hC:=f67 (placesF ks l) rows[L[i]] rows[L[i+1]] hpl (hPl _ (List.getElem_mem _)) (hPl _ (List.getElem_mem _))
     rw [hf] at hC
     have eC:byNo f [] rows (L.getD (i+1 - 1) 0) L[i+1]=f rows[L[i]] rows[L[i+1]]:=by
      have:L.getD (i+1 - 1) 0=L[i]:=by simp [List.getD_eq_getElem?_getD,hv0]
      rw [this]
      simp [byNo,List.getD_eq_getElem?_getD,hvm,hv0m]
     rw [eC] at hfl
     have hfl2:(!decide (f rows[L[i]] rows[L[i+1]]=0))=firstB f [] rows L[i+1]:=by simpa using hfl
     have hT0:((i:Int)+1 - 1).toNat=i:=by omega
     have hT1:((i:Int)+1).toNat=i+1:=by omega
     have hne0:decide (((i:Int)+1)=0)=false:=decide_eq_false (by omega)
     generalize firstB f [] rows L[i+1]=b at *
     generalize rows[L[i]]=r0 at *
     generalize rows[L[i+1]]=r1 at *
     generalize L[i+1]=m1 at *
     generalize L[i]=m0 at *
     have hdi1:decide ((i:Int)+1<(L.length:Int))=true:=decide_eq_true (by omega)
     (try push_cast (maxSteps:=mS) [hdi1,hT1,getD_map hvi])
     ((repeat' with_reducible refine And.intro ?_ ?_)<;>try exact sz)
     (refine DrawK.of (.take 0 (.take 1 (.take 2 (.take 3 (.take 4 (.take 5 (.take 6 (.take 7 (.take 8 (.take 9 (.take 10 (.take 11 (.take 12 (.take 13 (.take 14 (.take 15 (.take 16 (.take 17 (.one 18 (.take 19 (.take 20 (.take 21 (.one 22 .done))))))))))))))))))))))) 1000 (by decide +kernel) ?_;try (push_cast (maxSteps:=mS)))
     ((repeat' with_reducible refine And.intro ?_ ?_)<;>try exact sz)
     (try push_cast (maxSteps:=mS) [hne0,hT0,hT1,getD_map hv0,getD_map hvm,getD_map hv0m])
     ((repeat' with_reducible refine And.intro ?_ ?_)<;>try exact sz)
     refine ⟨_,hC,rfl,?_⟩
     (try push_cast (maxSteps:=mS) [hfl2,hgd2,hset2])
     ((repeat' with_reducible refine And.intro ?_ ?_)<;>try exact sz)
     (try push_cast (maxSteps:=mS) [hfl2,hgd2,hset2])
     ((repeat' with_reducible refine And.intro ?_ ?_)<;>try exact sz)
     refine ⟨(i+1+1,bs.set m1 b),⟨by simp only;omega,by simp only [List.length_set];exact hbl,hmL⟩,by simp only;omega,Le.st ?_⟩
     (try push_cast (maxSteps:=mS))
     all_goals rfl
   ·have hdi:decide ((i:Int)<(L.length:Int))=false:=decide_eq_false (by omega)
    have hbs:∀ m,m<rows.length→bs[m]?=some (firstB f [] rows m):=fun m hm=>by
     obtain ⟨i',hi',rfl⟩:=List.mem_iff_getElem.1 ((hLm m).2 hm)
     exact hb i' (by omega) hi'
    (try push_cast (maxSteps:=mS) [hdi])
    refine LoopK.le (Le.nil 15 28 1 (by decide) (by (try push_cast (maxSteps:=mS)))) ?_
    (try push_cast (maxSteps:=mS))
    refine LoopK.ov (α:=Nat) [80] (fun k=>[i2 .i64 k]) (fun k=>[.dead,.dead,.dead,.rw 3 1 (L.map eIx),.rw 4 1 (bs.map eB),.rw 28 1 ((uniqK f [] rows k).map eR)]) (fun k=>k≤rows.length) (fun k=>rows.length - k) 1000 0 (by omega) (by (try push_cast (maxSteps:=mS))<;>first|rfl|simp [uniqK]) ?_
    rintro k hk'
    by_cases hkr:k<rows.length
    ·have hv:=List.getElem?_eq_getElem hkr
     have hdk:decide ((k:Int)<(rows.length:Int))=true:=decide_eq_true (by omega)
     have hgk:rows.getD k []=rows[k]:=by simp [List.getD_eq_getElem?_getD,hv]
     have hul:=uniqK_len f [] rows k
     have hnx:uniqK f [] rows (k+1)=if firstB f [] rows k=true then uniqK f [] rows k++[rows[k]] else uniqK f [] rows k:=by
      rw [uniqK,hgk]
     have h58:=f58 rows[k] (hr.2 _ (List.getElem_mem hkr)).1
     have hbk:=hbs k hkr
     generalize firstB f [] rows k=fb at *
     generalize rows[k]=row at *
     (try push_cast (maxSteps:=mS) [hdk,getD_map hv,getD_map hbk])
     ((repeat' with_reducible refine And.intro ?_ ?_)<;>try exact sz)
     (try push_cast (maxSteps:=mS) [getD_map hbk])
     cases fb with
     | false =>
      rw [if_neg (by simp)] at hnx
      (try push_cast (maxSteps:=mS))
      ((repeat' with_reducible refine And.intro ?_ ?_)<;>try exact sz)
      refine ⟨k+1,by omega,by omega,Le.st ?_⟩
      rw [hnx]
      (try push_cast (maxSteps:=mS))
      all_goals rfl
     | true =>
      rw [if_pos rfl] at hnx
      (try push_cast (maxSteps:=mS))
      refine ⟨_,h58,rfl,?_⟩
      (try push_cast (maxSteps:=mS))
      ((repeat' with_reducible refine And.intro ?_ ?_)<;>try exact sz)
      refine ⟨k+1,by omega,by omega,Le.st ?_⟩
      rw [hnx,List.map_append]
      (try push_cast (maxSteps:=mS))
      all_goals first|rfl|exact ⟨rfl,rfl⟩|trace_state
    ·have hdk:decide ((k:Int)<(rows.length:Int))=false:=decide_eq_false (by omega)
     have:k=rows.length:=by omega
     subst this
     (try push_cast (maxSteps:=mS) [hdk])
end Go.LS.Tryz
