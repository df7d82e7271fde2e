/- Part PS: 5 texts,one behind the other. -/
import Derived.Test.YtfmbjaeppffdpaaGreatDoorPK
/- Merging in place: what is parted,what is turned round. -/
namespace Go.LS
open Go
set_option maxRecDepth 100000
set_option linter.unusedSimpArgs false
set_option linter.unusedVariables false
theorem merge_parts {α:Type} {f:α→α→Int}:∀ (n:Nat) (X1 X2 Y1 Y2:List α),X1.length+Y1.length≤n→(∀ x∈X1,∀ y∈Y2,f x y≤0)→(∀ y∈Y1,∀ x∈X2,¬ f x y≤0) →
  mergeF f (X1++X2) (Y1++Y2)=mergeF f X1 Y1++mergeF f X2 Y2
 | n,[],X2,[],Y2,_,_,_=>by rw [nil_mergeF];rfl
 | n,[],X2,y::Y1,Y2,hn,h1,h2=>by
  rw [nil_mergeF]
  cases X2 with
  | nil=>rw [List.nil_append,nil_mergeF,nil_mergeF]
  | cons x X2 =>
   rw [List.nil_append,List.cons_append,mergeF_cons,if_neg (h2 y (by simp) x (by simp)),List.cons_append]
   congr 1
   have:=merge_parts (f:=f) (n - 1) [] (x::X2) Y1 Y2 (by simp at hn ⊢;omega) (by simp) (fun z hz=>h2 z (by simp [hz]))
   rw [nil_mergeF] at this
   exact this
 | n,x::X1,X2,[],Y2,hn,h1,h2=>by
  rw [mergeF_nil]
  cases Y2 with
  | nil=>rw [List.nil_append,mergeF_nil,mergeF_nil]
  | cons y Y2 =>
   rw [List.nil_append,List.cons_append,mergeF_cons,if_pos (h1 x (by simp) y (by simp)),List.cons_append]
   congr 1
   have:=merge_parts (f:=f) (n - 1) X1 X2 [] (y::Y2) (by simp at hn ⊢;omega) (fun z hz=>h1 z (by simp [hz])) (by simp)
   rw [mergeF_nil] at this
   exact this
 | 0,x::X1,X2,y::Y1,Y2,hn,_,_=>by simp at hn
 | n+1,x::X1,X2,y::Y1,Y2,hn,h1,h2=>by
  simp only [List.length_cons] at hn
  rw [List.cons_append,List.cons_append,mergeF_cons,mergeF_cons]
  by_cases h:f x y≤0
  ·rw [if_pos h,if_pos h,List.cons_append]
   congr 1
   exact merge_parts n X1 X2 (y::Y1) Y2 (by simp only [List.length_cons];omega) (fun z hz=>h1 z (by simp [hz])) h2
  ·rw [if_neg h,if_neg h,List.cons_append]
   congr 1
   exact merge_parts n (x::X1) X2 Y1 Y2 (by simp only [List.length_cons];omega) h1 (fun z hz=>h2 z (by simp [hz]))
termination_by n X1 X2 Y1 Y2=>X1.length+Y1.length
decreasing_by all_goals (simp only [List.length_cons,List.length_nil];omega)
def swapL {α:Type} (l:List α) (i j:Nat) (x y:α):List α:=(l.set i y).set j x
theorem swap_step {α:Type} {A X M Y B:List α} {q:Nat} {x y:α} (hl:X.length=Y.length) (hx:X[q]?=some x) (hy:Y[q]?=some y) :
  ((A++(Y.take q++X.drop q)++M++(X.take q++Y.drop q)++B).set (A.length+q) y).set (A.length+X.length+M.length+q) x=A++(Y.take (q+1)++X.drop (q+1))++M++(X.take (q+1)++Y.drop (q+1))++B:=by
 have hqx:=(List.getElem?_eq_some_iff.1 hx).1
 have hqy:=(List.getElem?_eq_some_iff.1 hy).1
 have ex:X.drop q=x::X.drop (q+1):=by
  rw [List.drop_eq_getElem_cons hqx];congr 1;exact (List.getElem?_eq_some_iff.1 hx).2
 have ey:Y.drop q=y::Y.drop (q+1):=by
  rw [List.drop_eq_getElem_cons hqy];congr 1;exact (List.getElem?_eq_some_iff.1 hy).2
 have tx:X.take (q+1)=X.take q++[x]:=by rw [List.take_add_one,hx];rfl
 have ty:Y.take (q+1)=Y.take q++[y]:=by rw [List.take_add_one,hy];rfl
 have lx:(X.take q).length=q:=by rw [List.length_take];omega
 have ly:(Y.take q).length=q:=by rw [List.length_take];omega
 rw [ex,ey,tx,ty]
 have e1:A++(Y.take q++x::X.drop (q+1))++M++(X.take q++y::Y.drop (q+1))++B=(A++Y.take q)++x::(X.drop (q+1)++M++(X.take q++y::Y.drop (q+1))++B):=by simp
 have l1:(A++Y.take q).length=A.length+q:=by rw [List.length_append,ly]
 rw [e1,← l1,List.set_append_right _ _ (Nat.le_refl _),Nat.sub_self,List.set_cons_zero]
 have e2:(A++Y.take q)++y::(X.drop (q+1)++M++(X.take q++y::Y.drop (q+1))++B)=(A++Y.take q++y::X.drop (q+1)++M++X.take q)++y::(Y.drop (q+1)++B):=by simp
 have l2:(A++Y.take q++y::X.drop (q+1)++M++X.take q).length=A.length+X.length+M.length+q:=by
  simp only [List.length_append,List.length_cons,List.length_drop,lx,ly];omega
 rw [e2,← l2,List.set_append_right _ _ (Nat.le_refl _),Nat.sub_self,List.set_cons_zero]
 simp
theorem swap_get {α:Type} {A X M Y B:List α} {q:Nat} {x y:α} (hl:X.length=Y.length) (hx:X[q]?=some x) (hy:Y[q]?=some y) :
  (A++(Y.take q++X.drop q)++M++(X.take q++Y.drop q)++B)[A.length+q]?=some x∧(A++(Y.take q++X.drop q)++M++(X.take q++Y.drop q)++B)[A.length+X.length+M.length+q]?=some y:=by
 have hqx:=(List.getElem?_eq_some_iff.1 hx).1
 have hqy:=(List.getElem?_eq_some_iff.1 hy).1
 have ex:X.drop q=x::X.drop (q+1):=by
  rw [List.drop_eq_getElem_cons hqx];congr 1;exact (List.getElem?_eq_some_iff.1 hx).2
 have ey:Y.drop q=y::Y.drop (q+1):=by
  rw [List.drop_eq_getElem_cons hqy];congr 1;exact (List.getElem?_eq_some_iff.1 hy).2
 have lx:(X.take q).length=q:=by rw [List.length_take];omega
 have ly:(Y.take q).length=q:=by rw [List.length_take];omega
 rw [ex,ey]
 constructor
 ·have e1:A++(Y.take q++x::X.drop (q+1))++M++(X.take q++y::Y.drop (q+1))++B=(A++Y.take q)++x::(X.drop (q+1)++M++(X.take q++y::Y.drop (q+1))++B):=by simp
  have l1:(A++Y.take q).length=A.length+q:=by rw [List.length_append,ly]
  rw [e1,← l1,List.getElem?_append_right (Nat.le_refl _),Nat.sub_self];rfl
 ·have e2:A++(Y.take q++x::X.drop (q+1))++M++(X.take q++y::Y.drop (q+1))++B=(A++Y.take q++x::X.drop (q+1)++M++X.take q)++y::(Y.drop (q+1)++B):=by simp
  have l2:(A++Y.take q++x::X.drop (q+1)++M++X.take q).length=A.length+X.length+M.length+q:=by
   simp only [List.length_append,List.length_cons,List.length_drop,lx,ly];omega
  rw [e2,← l2,List.getElem?_append_right (Nat.le_refl _),Nat.sub_self];rfl
def sortB {α:Type} (f:α→α→Int) (s:Nat):Nat→List α→List α
 | 0,rows=>sortF f rows
 | k+1,rows=>if rows.length≤s then sortF f rows else sortF f (rows.take s)++sortB f s k (rows.drop s)
def blocksF {α:Type} (f:α→α→Int) (s:Nat) (rows:List α):List α:=sortB f s rows.length rows
theorem sortB_more {α:Type} {f:α→α→Int} {s:Nat} (hs:0<s):∀ (k j:Nat) (rows:List α),rows.length≤k→rows.length≤j→sortB f s k rows=sortB f s j rows
 | 0,0,rows,_,_=>rfl
 | 0,j+1,rows,hk,_=>by simp only [sortB];rw [if_pos (by omega)]
 | k+1,0,rows,_,hj=>by simp only [sortB];rw [if_pos (by omega)]
 | k+1,j+1,rows,hk,hj=>by
  simp only [sortB]
  split
  ·rfl
  ·congr 1
   exact sortB_more hs k j _ (by rw [List.length_drop];omega) (by rw [List.length_drop];omega)
theorem blocks_short {α:Type} {f:α→α→Int} {s:Nat} {rows:List α} (h:rows.length≤s):blocksF f s rows=sortF f rows:=by
 unfold blocksF
 cases hk:rows.length with
 | zero=>rfl
 | succ k=>simp only [sortB];rw [if_pos h]
theorem blocks_long {α:Type} {f:α→α→Int} {s:Nat} (hs:0<s) {rows:List α} (h:s<rows.length):blocksF f s rows=sortF f (rows.take s)++blocksF f s (rows.drop s):=by
 unfold blocksF
 obtain ⟨k,hk⟩:∃ k,rows.length=k+1:=⟨rows.length - 1,by omega⟩
 rw [hk]
 simp only [sortB]
 rw [if_neg (by omega)]
 congr 1
 exact sortB_more hs _ _ _ (by rw [List.length_drop];omega) (Nat.le_refl _)
theorem blocks_eq {α:Type} {f:α→α→Int} {s:Nat} (hs:0<s) {rows:List α} (h:s≤rows.length):blocksF f s rows=sortF f (rows.take s)++blocksF f s (rows.drop s):=by
 by_cases e:s<rows.length
 ·exact blocks_long hs e
 ·have:s=rows.length:=by omega
  subst this
  rw [blocks_short (Nat.le_refl _),List.take_length,List.drop_length,blocks_short (by simp)]
  simp [sortF,sortL]
theorem blocks_len {α:Type} {f:α→α→Int} {s:Nat} (hs:0<s):∀ (n:Nat) (rows:List α),rows.length≤n→(blocksF f s rows).length=rows.length
 | 0,rows,h=>by rw [blocks_short (by omega),sortF_len]
 | n+1,rows,h=>by
  by_cases e:s<rows.length
  ·rw [blocks_long hs e,List.length_append,sortF_len,List.length_take,blocks_len hs n _ (by rw [List.length_drop];omega),List.length_drop];omega
  ·rw [blocks_short (by omega),sortF_len]
open Go
set_option maxRecDepth 100000
set_option linter.unusedSimpArgs false
set_option linter.unusedVariables false
section
variable {α:Type} {f:α→α→Int}
theorem Ord3.self (hf:Ord3 f) (a:α):f a a=0:=by have:=hf.anti a a;omega
theorem take_le (hf:Ord3 f) {X:List α} (hX:ordL f X) {i:Nat} {x z:α} (hx:x∈X.take (i+1)) (hz:X[i]?=some z):f x z≤0:=by
 obtain ⟨j,hj,hx⟩:=List.mem_iff_getElem.1 hx
 rw [List.length_take] at hj
 rw [List.getElem_take] at hx
 have hi:=(List.getElem?_eq_some_iff.1 hz).1
 have hz':=(List.getElem?_eq_some_iff.1 hz).2
 by_cases e:j=i
 ·subst e
  rw [← hx,← hz',hf.self];exact Int.le_refl 0
 ·have:=List.pairwise_iff_getElem.1 hX j i (by omega) hi (by omega)
  rwa [hx,hz'] at this
theorem drop_ge (hf:Ord3 f) {X:List α} (hX:ordL f X) {i:Nat} {x z:α} (hx:x∈X.drop i) (hz:X[i]?=some z):f z x≤0:=by
 obtain ⟨j,hj,hx⟩:=List.mem_iff_getElem.1 hx
 rw [List.length_drop] at hj
 rw [List.getElem_drop] at hx
 have hi:=(List.getElem?_eq_some_iff.1 hz).1
 have hz':=(List.getElem?_eq_some_iff.1 hz).2
 by_cases e:j=0
 ·subst e
  simp only [Nat.add_zero] at hx
  rw [← hx,← hz',hf.self];exact Int.le_refl 0
 ·have:=List.pairwise_iff_getElem.1 hX i (i+j) hi (by omega) (by omega)
  rwa [hx,hz'] at this
theorem merge_split (hf:Ord3 f) {X Y:List α} (hX:ordL f X) (hY:ordL f Y) {i j:Nat} (hi:i≤X.length) (hj:j≤Y.length)
  (h1:i=0∨j=Y.length∨∃ x y,X[i - 1]?=some x∧Y[j]?=some y∧¬ f y x<0) (h2:j=0∨i=X.length∨∃ x y,X[i]?=some x∧Y[j - 1]?=some y∧f y x<0) :
  mergeF f X Y=mergeF f (X.take i) (Y.take j)++mergeF f (X.drop i) (Y.drop j):=by
 have:=merge_parts (f:=f) _ (X.take i) (X.drop i) (Y.take j) (Y.drop j) (Nat.le_refl _) (fun x hx y hy=>?_) (fun y hy x hx=>?_)
 ·rwa [List.take_append_drop,List.take_append_drop] at this
 ·rcases h1 with rfl|rfl|⟨a,b,ha,hb,hab⟩
  ·simp at hx
  ·simp at hy
  ·have hi0:i≠0:=by rintro rfl;simp at hx
   have e1:=take_le hf hX (i:=i - 1) (by rwa [show i - 1+1=i by omega]) ha
   have e2:=drop_ge hf hY hy hb
   have e3:=hf.anti a b
   exact hf.tr x a y e1 (hf.tr a b y (by omega) e2)
 ·rcases h2 with rfl|rfl|⟨a,b,ha,hb,hab⟩
  ·simp at hy
  ·simp at hx
  ·have hj0:j≠0:=by rintro rfl;simp at hy
   have e1:=take_le hf hY (i:=j - 1) (by rwa [show j - 1+1=j by omega]) hb
   have e2:=drop_ge hf hX hx ha
   intro h
   have e3:=hf.tr a x y e2 h
   have e4:=hf.tr a y b e3 e1
   have e5:=hf.anti a b
   omega
theorem merge_left (hf:Ord3 f) {x:α} {Y:List α} (hY:ordL f Y) {q:Nat} (hq:q≤Y.length) (h1:q=Y.length∨∃ y,Y[q]?=some y∧¬ f y x<0) (h2:q=0∨∃ y,Y[q - 1]?=some y∧f y x<0) :
  mergeF f [x] Y=Y.take q++x::Y.drop q:=by
 have hX:ordL f [x]:=List.pairwise_singleton _ _
 rw [merge_split hf hX hY (i:=0) (j:=q) (by simp) hq (.inl rfl) (h2.imp id fun ⟨y,hy,h⟩=>.inr ⟨x,y,rfl,hy,h⟩)]
 rw [List.take_zero,nil_mergeF,List.drop_zero]
 congr 1
 have hYd:ordL f (Y.drop q):=List.Pairwise.sublist (List.drop_sublist _ _) hY
 rw [merge_split hf hX hYd (i:=1) (j:=0) (by simp) (by omega) ?_ (.inl rfl)]
 ·rw [List.take_zero,mergeF_nil,List.drop_zero]
  show [x]++mergeF f [] _=_
  rw [nil_mergeF];rfl
 ·refine .inr ?_
  rcases h1 with rfl|⟨y,hy,h⟩
  ·left;simp
  ·exact .inr ⟨x,y,rfl,by rw [List.getElem?_drop];simpa using hy,h⟩
theorem merge_right (hf:Ord3 f) {y:α} {X:List α} (hX:ordL f X) {q:Nat} (hq:q≤X.length) (h1:q=0∨∃ x,X[q - 1]?=some x∧¬ f y x<0) (h2:q=X.length∨∃ x,X[q]?=some x∧f y x<0) :
  mergeF f X [y]=X.take q++y::X.drop q:=by
 have hY:ordL f [y]:=List.pairwise_singleton _ _
 rw [merge_split hf hX hY (i:=q) (j:=0) hq (by simp) (h1.imp id fun ⟨x,hx,h⟩=>.inr ⟨x,y,hx,rfl,h⟩) (.inl rfl)]
 rw [List.take_zero,mergeF_nil,List.drop_zero]
 congr 1
 have hXd:ordL f (X.drop q):=List.Pairwise.sublist (List.drop_sublist _ _) hX
 rw [merge_split hf hXd hY (i:=0) (j:=1) (by omega) (by simp) (.inl rfl) ?_]
 ·rw [List.take_zero,nil_mergeF,List.drop_zero]
  show [y]++mergeF f _ []=_
  rw [mergeF_nil];rfl
 ·refine .inr ?_
  rcases h2 with rfl|⟨x,hx,h⟩
  ·left;simp
  ·exact .inr ⟨x,y,by rw [List.getElem?_drop];simpa using hx,rfl,h⟩
end
set_option linter.unusedSimpArgs false
set_option linter.unusedVariables false
theorem way_right {α:Type} {A Y B:List α} {r:Nat} {x y:α} (hy:Y[r]?=some y) :
  (A++(Y.take r++x::Y.drop r)++B)[A.length+r]?=some x∧(A++(Y.take r++x::Y.drop r)++B)[A.length+r+1]?=some y ∧
  ((A++(Y.take r++x::Y.drop r)++B).set (A.length+r) y).set (A.length+r+1) x=A++(Y.take (r+1)++x::Y.drop (r+1))++B:=by
 have hr:=(List.getElem?_eq_some_iff.1 hy).1
 have ey:Y.drop r=y::Y.drop (r+1):=by
  rw [List.drop_eq_getElem_cons hr];congr 1;exact (List.getElem?_eq_some_iff.1 hy).2
 have ty:Y.take (r+1)=Y.take r++[y]:=by rw [List.take_add_one,hy];rfl
 have ly:(Y.take r).length=r:=by rw [List.length_take];omega
 obtain ⟨P,hP⟩:∃ P,P=A++Y.take r:=⟨_,rfl⟩
 have lP:P.length=A.length+r:=by rw [hP,List.length_append,ly]
 have eD:A++(Y.take r++x::Y.drop r)++B=P++x::y::(Y.drop (r+1)++B):=by rw [hP,ey];simp
 rw [eD,← lP]
 refine ⟨by rw [List.getElem?_append_right (Nat.le_refl _),Nat.sub_self];rfl,by rw [List.getElem?_append_right (by omega),show P.length+1 - P.length=1 by omega];rfl,?_⟩
 rw [List.set_append_right _ _ (Nat.le_refl _),Nat.sub_self,List.set_cons_zero,List.set_append_right _ _ (by omega),show P.length+1 - P.length=1 by omega,List.set_cons_succ,List.set_cons_zero,ty,hP]
 simp
theorem way_left {α:Type} {A X B:List α} {r:Nat} {x y:α} (hx:X[r]?=some x) :
  (A++(X.take (r+1)++y::X.drop (r+1))++B)[A.length+r+1]?=some y∧(A++(X.take (r+1)++y::X.drop (r+1))++B)[A.length+r]?=some x ∧
  ((A++(X.take (r+1)++y::X.drop (r+1))++B).set (A.length+r+1) x).set (A.length+r) y=A++(X.take r++y::X.drop r)++B:=by
 have hr:=(List.getElem?_eq_some_iff.1 hx).1
 have ex:X.drop r=x::X.drop (r+1):=by
  rw [List.drop_eq_getElem_cons hr];congr 1;exact (List.getElem?_eq_some_iff.1 hx).2
 have tx:X.take (r+1)=X.take r++[x]:=by rw [List.take_add_one,hx];rfl
 have lx:(X.take r).length=r:=by rw [List.length_take];omega
 obtain ⟨P,hP⟩:∃ P,P=A++X.take r:=⟨_,rfl⟩
 have lP:P.length=A.length+r:=by rw [hP,List.length_append,lx]
 have eD:A++(X.take (r+1)++y::X.drop (r+1))++B=P++x::y::(X.drop (r+1)++B):=by rw [hP,tx];simp
 rw [eD,← lP]
 refine ⟨by rw [List.getElem?_append_right (by omega),show P.length+1 - P.length=1 by omega];rfl,by rw [List.getElem?_append_right (Nat.le_refl _),Nat.sub_self];rfl,?_⟩
 rw [List.set_append_right _ _ (by omega),show P.length+1 - P.length=1 by omega,List.set_cons_succ,List.set_cons_zero,List.set_append_right _ _ (Nat.le_refl _),Nat.sub_self,List.set_cons_zero,ex,hP]
 simp
structure SB {α:Type} (X Y:List α) (md s0 r0:Nat):Prop where
 a:s0≤r0
 b:r0≤X.length
 c:r0≤md
 d:md≤s0+Y.length
 e:s0=0∨md - s0=Y.length
 f:md - r0=0∨r0=X.length
structure SI {α:Type} (f:α→α→Int) (X Y:List α) (md s0 r0 q1 q2:Nat):Prop where
 a:s0≤q1
 b:q1≤q2
 c:q2≤r0
 lo:q1=s0∨∃ x y,X[q1 - 1]?=some x∧Y[md - q1]?=some y∧¬ f y x<0
 hi:q2=r0∨∃ x y,X[q2]?=some x∧Y[md - 1 - q2]?=some y∧f y x<0
variable {α:Type} {f:α→α→Int} {X Y:List α} {md s0 r0 q1 q2 h:Nat} {x y:α}
theorem SI.start (hb:SB X Y md s0 r0):SI f X Y md s0 r0 s0 r0:=⟨Nat.le_refl _,hb.a,Nat.le_refl _,.inl rfl,.inl rfl⟩
theorem SI.up (hi:SI f X Y md s0 r0 q1 q2) (h1:q1≤h) (h2:h<q2) (hx:X[h]?=some x) (hy:Y[md - 1 - h]?=some y) (hc:¬ f y x<0):SI f X Y md s0 r0 (h+1) q2 :=
 ⟨by have:=hi.a;omega,h2,hi.c,.inr ⟨x,y,by simpa using hx,by rw [← hy];congr 1;omega,hc⟩,hi.hi⟩
theorem SI.down (hi:SI f X Y md s0 r0 q1 q2) (h1:q1≤h) (h2:h<q2) (hx:X[h]?=some x) (hy:Y[md - 1 - h]?=some y) (hc:f y x<0):SI f X Y md s0 r0 q1 h :=
 ⟨hi.a,h1,by have:=hi.c;omega,hi.lo,.inr ⟨x,y,hx,hy,hc⟩⟩
theorem SI.get (hb:SB X Y md s0 r0) (hi:SI f X Y md s0 r0 q1 q2) (h1:q1≤h) (h2:h<q2):h<X.length∧md - 1 - h<Y.length∧h<md:=by
 have:=hb.b;have:=hb.c;have:=hb.d;have:=hi.a;have:=hi.c
 omega
theorem SI.done (hf:Ord3 f) (hX:ordL f X) (hY:ordL f Y) (hb:SB X Y md s0 r0) (hi:SI f X Y md s0 r0 q1 q1) :
  ∃ X1 X2 Y1 Y2,X=X1++X2∧Y=Y1++Y2∧X1.length=q1∧X1.length+Y1.length=md∧mergeF f X Y=mergeF f X1 Y1++mergeF f X2 Y2∧ordL f X1∧ordL f X2∧ordL f Y1∧ordL f Y2:=by
 obtain ⟨b1,b2,b3,b4,b5,b6⟩:=hb
 obtain ⟨i1,_,i3,i4,i5⟩:=hi
 have l1:q1≤X.length:=by omega
 have l2:md - q1≤Y.length:=by omega
 refine ⟨X.take q1,X.drop q1,Y.take (md - q1),Y.drop (md - q1),(List.take_append_drop _ _).symm,(List.take_append_drop _ _).symm,by rw [List.length_take];omega,by rw [List.length_take,List.length_take];omega,merge_split hf hX hY l1 l2 ?_ ?_,hX.sublist (List.take_sublist _ _),hX.sublist (List.drop_sublist _ _),hY.sublist (List.take_sublist _ _),hY.sublist (List.drop_sublist _ _)⟩
 ·rcases i4 with e|⟨x,y,hx,hy,hc⟩
  ·rcases b5 with h0|h0
   ·exact .inl (by omega)
   ·exact .inr (.inl (by rw [e];exact h0))
  ·exact .inr (.inr ⟨x,y,hx,hy,hc⟩)
 ·rcases i5 with e|⟨x,y,hx,hy,hc⟩
  ·rcases b6 with h0|h0
   ·exact .inl (by omega)
   ·exact .inr (.inl (by omega))
  ·exact .inr (.inr ⟨x,y,hx,by rw [← hy];congr 1;omega,hc⟩)
variable {α:Type} {f:α→α→Int} {s:Nat}
theorem blocks_one (hs:0<s) {R:List α} (h:s≤R.length):∃ T R',R=T++R'∧T.length=s∧blocksF f s R=sortF f T++blocksF f s R' :=
 ⟨R.take s,R.drop s,(List.take_append_drop _ _).symm,by rw [List.length_take];omega,blocks_eq hs h⟩
theorem blocks_two (hs:0<s) {R:List α} (h:2*s≤R.length) :
  ∃ T1 T2 R',R=T1++T2++R'∧T1.length=s∧T2.length=s∧blocksF f s R=sortF f T1++sortF f T2++blocksF f s R'∧blocksF f (2*s) R=sortF f (T1++T2)++blocksF f (2*s) R':=by
 obtain ⟨T1,R1,e1,l1,b1⟩:=blocks_one (f:=f) hs (show s≤R.length by omega)
 have h1:s≤R1.length:=by rw [e1,List.length_append] at h;omega
 obtain ⟨T2,R2,e2,l2,b2⟩:=blocks_one (f:=f) hs h1
 refine ⟨T1,T2,R2,by rw [e1,e2,List.append_assoc],l1,l2,by rw [b1,b2,List.append_assoc],?_⟩
 rw [blocks_eq (by omega) h]
 have e3:R=(T1++T2)++R2:=by rw [e1,e2,List.append_assoc]
 have l3:(T1++T2).length=2*s:=by rw [List.length_append];omega
 rw [e3,← l3,List.take_left,List.drop_left]
theorem blocks_rest (hs:0<s) {R:List α} (h:s<R.length) (h2:R.length<2*s) :
  ∃ T1 T2,R=T1++T2∧T1.length=s∧0<T2.length∧blocksF f s R=sortF f T1++sortF f T2∧blocksF f (2*s) R=sortF f (T1++T2):=by
 obtain ⟨T1,R1,e1,l1,b1⟩:=blocks_one (f:=f) hs (show s≤R.length by omega)
 have hl:R.length=s+R1.length:=by rw [e1,List.length_append,l1]
 exact ⟨T1,R1,e1,l1,by omega,by rw [b1,blocks_short (by omega)],by rw [blocks_short (by omega),e1]⟩
end Go.LS
