/- Part PJ: 2 texts,one behind the other. -/
import Derived.Test.YtfmbjaeppffdpaaGreatDoorPD
/- Tables side by side: what comes out. -/
namespace Go.LS
open Go
set_option linter.unusedSimpArgs false
set_option linter.unusedVariables false
structure Jo where
 l:ByteArray
 r:ByteArray
def eJo (o:Jo):List DV:=[.v (.string o.l),.v (.string o.r)]
@[push_cast] theorem eJo_eq (o:Jo):eJo o=[.v (.string o.l),.v (.string o.r)]:=rfl
def idxG {α:Type} (p:α→Bool):List α→Nat→Int
 | [],_=>-1
 | x::l,k=>if p x=true then (k:Int) else idxG p l (k+1)
theorem idxG_iff {α:Type} (p:α→Bool):∀ (l:List α) (k:Nat),0≤idxG p l k↔l.any p=true
 | [],_=>by simp [idxG]
 | x::l,k=>by
  have ih:=idxG_iff p l (k+1)
  simp only [idxG,List.any_cons,Bool.or_eq_true]
  by_cases h:p x=true
  ·simp [h]
  ·simp only [h,if_false,false_or,Bool.false_eq_true];exact ih
theorem idxG_any {α:Type} (p:α→Bool) (l:List α) (k:Nat):decide (0≤idxG p l k)=l.any p:=by
 rw [Bool.eq_iff_iff,decide_eq_true_eq];exact idxG_iff p l k
def pairJ (a b:List Cl):List ByteArray→List ByteArray→List Jo→Nat→Nat × Int
 | _,_,[],k=>(k,0)
 | ls,rs,o::os,k=>if (findF o.l a 0).2.2=false∨(findF o.r b 0).2.2=false then (k,16) else if (findF o.l a 0).1.kind≠(findF o.r b 0).1.kind then (k,21)
  else if memB o.l ls=true∨memB o.r rs=true then (k,15) else pairJ a b (ls++[o.l]) (rs++[o.r]) os (k+1)
def isR (on:List Jo) (n:ByteArray):Bool:=on.any fun o=>decide (o.r=n)
def clashF (a:List Cl) (on:List Jo) (b:List Cl):Bool:=b.any fun c=>(findF c.name a 0).2.2 && !isR on c.name
def checkJ (a b:List Cl) (on:List Jo) (kind:Int):Nat × Int :=
 if (checkC a).2≠0 then (0,(checkC a).2) else if (checkC b).2≠0 then (0,(checkC b).2) else if kind<1∨4<kind then (0,22) else if on.length=0 then (0,13)
 else if (pairJ a b [] [] on 0).2≠0 then pairJ a b [] [] on 0 else if (kind=1∨kind=2)∧clashF a on b=true then (on.length,15) else (on.length,0)
theorem isR_mem (on:List Jo) (n:ByteArray):isR on n=memB n (on.map (·.r)):=by
 rw [Bool.eq_iff_iff,memB_iff]
 simp [isR]
theorem isR_cons (o:Jo) (on:List Jo) (n:ByteArray):isR (o::on) n=(decide (o.r=n) || isR on n):=rfl
theorem pair_ok {a b:List Cl}:∀ {os:List Jo} {ls rs:List ByteArray} {k:Nat},(pairJ a b ls rs os k).2=0→(∀ o∈os,foundN a o.l∧foundN b o.r)∧(pairJ a b ls rs os k).1=k+os.length
 | [],_,_,_,_=>by simp [pairJ]
 | o::os,ls,rs,k,h=>by
  simp only [pairJ] at h ⊢
  split at h
  ·cases h
  ·rename_i h1
   split at h
   ·cases h
   ·rename_i h2
    split at h
    ·cases h
    ·rename_i h3
     obtain ⟨i1,i2⟩:=pair_ok h
     rw [if_neg h1,if_neg h2,if_neg h3,i2]
     refine ⟨fun x hx=>?_,by simp only [List.length_cons];omega⟩
     rcases List.mem_cons.1 hx with rfl|hx
     ·simp only [not_or,Bool.not_eq_false] at h1
      exact h1
     ·exact i1 x hx
theorem checkJ_parts {a b:List Cl} {on:List Jo} {kind:Int} (h:(checkJ a b on kind).2=0):(checkC a).2=0∧(checkC b).2=0∧(1≤kind∧kind≤4)∧on.length≠0∧(∀ o∈on,foundN a o.l∧foundN b o.r)∧(checkJ a b on kind).1=on.length:=by
 unfold checkJ at h ⊢
 by_cases h1:(checkC a).2=0
 ·by_cases h2:(checkC b).2=0
  ·by_cases h3:kind<1∨4<kind
   ·rw [if_neg (by simp [h1]),if_neg (by simp [h2]),if_pos h3] at h;cases h
   ·by_cases h4:on.length=0
    ·rw [if_neg (by simp [h1]),if_neg (by simp [h2]),if_neg h3,if_pos h4] at h;cases h
    ·by_cases h5:(pairJ a b [] [] on 0).2=0
     ·rw [if_neg (by simp [h1]),if_neg (by simp [h2]),if_neg h3,if_neg h4,if_neg (by simp [h5])] at h ⊢
      by_cases h6:(kind=1∨kind=2)∧clashF a on b=true
      ·rw [if_pos h6] at h;cases h
      ·rw [if_neg h6]
       exact ⟨h1,h2,by omega,h4,(pair_ok h5).1,rfl⟩
     ·rw [if_neg (by simp [h1]),if_neg (by simp [h2]),if_neg h3,if_neg h4,if_pos h5] at h;exact absurd h h5
  ·rw [if_neg (by simp [h1]),if_pos h2] at h;exact absurd h h2
 ·rw [if_pos h1] at h;exact absurd h h1
/-! ### Columns -/
def othersN (b:List Cl) (on:List Jo):List Nat:=(List.range b.length).filter fun i=>!isR on (b.getD i cl0).name
def colJ (kind:Int) (c:Cl):Cl:=⟨c.name,c.kind,c.null || decide (kind=2)⟩
def colsJ (a b:List Cl) (on:List Jo) (kind:Int):List Cl:=a++b.flatMap fun c=>if 2<kind∨isR on c.name=true then [] else [colJ kind c]
def restF {α:Type} (b:List Cl) (on:List Jo) (f:Nat→α):List α:=(othersN b on).map f
theorem others_snoc (b:List Cl) (on:List Jo) (c:Cl):othersN (b++[c]) on=othersN b on++if isR on c.name=true then [] else [b.length]:=by
 unfold othersN
 rw [List.length_append,List.length_cons,List.length_nil,List.range_succ,List.filter_append]
 congr 1
 ·refine List.filter_congr fun i hi=>?_
  rw [List.mem_range] at hi
  simp only [List.getD_eq_getElem?_getD,List.getElem?_append_left hi]
 ·simp only [List.getD_eq_getElem?_getD,List.getElem?_concat_length,Option.getD_some,List.filter_cons,List.filter_nil]
  cases isR on c.name<;>simp
theorem others_take {b:List Cl} {on:List Jo} {k:Nat} {c:Cl} (h:b[k]?=some c):othersN (b.take (k+1)) on=othersN (b.take k) on++if isR on c.name=true then [] else [k]:=by
 have hlt:=(List.getElem?_eq_some_iff.1 h).1
 rw [List.take_add_one,h,Option.toList_some,others_snoc,List.length_take,Nat.min_eq_left (by omega)]
theorem others_lt {b:List Cl} {on:List Jo}:∀ i∈othersN b on,i<b.length:=by
 intro i hi
 exact List.mem_range.1 (List.mem_filter.1 hi).1
theorem others_len (b:List Cl) (on:List Jo):(othersN b on).length≤b.length:=by
 have:=List.length_filter_le (fun i=>!isR on (b.getD i cl0).name) (List.range b.length)
 rwa [List.length_range] at this
theorem snoc_ind {α:Type} {P:List α→Prop} (h0:P []) (h1:∀ l x,P l→P (l++[x])) (l:List α):P l:=by
 have key:∀ (n:Nat) (l:List α),l.length=n→P l:=by
  intro n
  induction n with
  | zero=>intro l hl;rw [List.eq_nil_of_length_eq_zero hl];exact h0
  | succ n ih =>
   intro l hl
   rcases List.eq_nil_or_concat l with rfl|⟨m,x,rfl⟩
   ·simp at hl
   ·rw [List.concat_eq_append] at hl ⊢
    exact h1 m x (ih m (by simpa using hl))
 exact key _ l rfl
theorem others_map {α:Type} (on:List Jo) (f:Cl→α):∀ (b:List Cl),(othersN b on).map (fun i=>f (b.getD i cl0))=b.flatMap fun c=>if isR on c.name=true then [] else [f c]:=by
 refine snoc_ind (by simp [othersN]) fun b c ih=>?_
 rw [others_snoc,List.map_append,List.flatMap_append,← ih]
 congr 1
 ·refine List.map_congr_left fun i hi=>?_
  rw [List.getD_eq_getElem?_getD,List.getElem?_append_left (others_lt i hi),← List.getD_eq_getElem?_getD]
 ·cases h:isR on c.name
  ·simp [List.getD_eq_getElem?_getD,h]
  ·simp [h]
theorem cols_code (a b:List Cl) (on:List Jo) {kind:Int} (hk:¬ 2<kind):colsJ a b on kind=a++(othersN b on).map fun i=>colJ kind (b.getD i cl0):=by
 rw [others_map]
 unfold colsJ
 congr 2
 funext c
 simp [hk]
theorem cols_few (a b:List Cl) (on:List Jo) {kind:Int} (hk:2<kind):colsJ a b on kind=a:=by
 unfold colsJ
 have:(b.flatMap fun c=>if 2<kind∨isR on c.name=true then [] else [colJ kind c])=[]:=by
  rw [List.flatMap_eq_nil_iff]
  intro c _
  simp [hk]
 rw [this,List.append_nil]
theorem colsJ_len (a b:List Cl) (on:List Jo) (kind:Int):(colsJ a b on kind).length≤a.length+b.length:=by
 unfold colsJ
 rw [List.length_append]
 have:∀ b:List Cl,(b.flatMap fun c=>if 2<kind∨isR on c.name=true then [] else [colJ kind c]).length≤b.length:=by
  intro b
  induction b with
  | nil=>simp
  | cons c b ih =>
   rw [List.flatMap_cons,List.length_append,List.length_cons]
   split<;>simp only [List.length_cons,List.length_nil]<;>omega
 have:=this b
 omega
/-! ### Rows -/
def evenF (t:Tb):Bool:=t.R.all fun r=>decide (r.length=t.L.length)
def matchF (a b:List Cl) (on:List Jo) (x y:List Vl):Bool:=on.all fun o=>!decide ((vAt x (placeN a o.l)).k=0) && sameV (vAt x (placeN a o.l)) (vAt y (placeN b o.r))
def besideF (ps:List Nat) (x y:List Vl):List Vl:=x++ps.map (vAt y)
def rowJ (a b:List Cl) (on:List Jo) (kind:Int) (B:List (List Vl)) (x:List Vl):List (List Vl) :=
 (if 2<kind then [] else (B.filter fun y=>matchF a b on x y).map (besideF (othersN b on) x)) ++
 ((if (kind=3∧(B.any fun y=>matchF a b on x y)=true)∨(kind=4∧(B.any fun y=>matchF a b on x y)=false) then [x] else []) ++
  (if kind=2∧(B.any fun y=>matchF a b on x y)=false then [besideF (othersN b on) x []] else []))
def rowsJ (a b:List Cl) (on:List Jo) (kind:Int) (A B:List (List Vl)):List (List Vl):=A.flatMap (rowJ a b on kind B)
def joinC (a b:Tb) (on:List Jo) (kind:Int):Tb × Int :=
 if (checkJ a.L b.L on kind).2≠0 then (⟨[],[]⟩,(checkJ a.L b.L on kind).2) else if evenF a=false∨evenF b=false then (⟨[],[]⟩,10) else (⟨colsJ a.L b.L on kind,rowsJ a.L b.L on kind a.R b.R⟩,0)
def matchIx (ps:List Nat) (m:ByteArray) (B:List (List Vl)):List Nat:=(List.range B.length).filter fun i=>!nullF ps (B.getD i []) && decide (markF [] (B.getD i []) ps=m)
theorem matchIx_snoc (ps:List Nat) (m:ByteArray) (B:List (List Vl)) (y:List Vl):matchIx ps m (B++[y])=matchIx ps m B++if nullF ps y=false∧markF [] y ps=m then [B.length] else []:=by
 unfold matchIx
 rw [List.length_append,List.length_cons,List.length_nil,List.range_succ,List.filter_append]
 congr 1
 ·refine List.filter_congr fun i hi=>?_
  rw [List.mem_range] at hi
  simp only [List.getD_eq_getElem?_getD,List.getElem?_append_left hi]
 ·simp only [List.getD_eq_getElem?_getD,List.getElem?_concat_length,Option.getD_some,List.filter_cons,List.filter_nil]
  cases nullF ps y<;>simp
theorem matchIx_lt {ps:List Nat} {m:ByteArray} {B:List (List Vl)}:∀ i∈matchIx ps m B,i<B.length:=by
 intro i hi
 exact List.mem_range.1 (List.mem_filter.1 hi).1
theorem matchIx_len (ps:List Nat) (m:ByteArray) (B:List (List Vl)):(matchIx ps m B).length≤B.length:=by
 have:=List.length_filter_le (fun i=>!nullF ps (B.getD i []) && decide (markF [] (B.getD i []) ps=m)) (List.range B.length)
 rwa [List.length_range] at this
theorem matchIx_map {α:Type} (ps:List Nat) (m:ByteArray) (f:List Vl→α):∀ (B:List (List Vl)),(matchIx ps m B).map (fun i=>f (B.getD i []))=(B.filter fun y=>!nullF ps y && decide (markF [] y ps=m)).map f:=by
 refine snoc_ind (by simp [matchIx]) fun B y ih=>?_
 rw [matchIx_snoc,List.map_append,List.filter_append,List.map_append,← ih]
 congr 1
 ·refine List.map_congr_left fun i hi=>?_
  rw [List.getD_eq_getElem?_getD,List.getElem?_append_left (matchIx_lt i hi),← List.getD_eq_getElem?_getD]
 ·cases h:nullF ps y<;>by_cases h2:markF [] y ps=m<;>simp [List.getD_eq_getElem?_getD,h,h2]
theorem toks_pairs {on:List Jo} {f g:Jo→Nat} {x y:List Vl}:(∀ o∈on,rightF (vAt x (f o))=true∧rightF (vAt y (g o))=true∧(vAt x (f o)).k≠0∧(vAt y (g o)).k≠0) →
  (toksF [] x (on.map f)=toksF [] y (on.map g)↔∀ o∈on,vAt x (f o)=vAt y (g o)):=by
 induction on with
 | nil=>intro _;simp [toksF]
 | cons o on ih =>
  intro h
  obtain ⟨h1,h2,h3,h4⟩:=h o (by simp)
  have ih:=ih fun z hz=>h z (by simp [hz])
  simp only [List.map_cons,toksF,List.forall_mem_cons]
  constructor
  ·intro e
   obtain ⟨e1,e2⟩:=tok_inj h1 h2 (.inr ⟨h3,h4⟩) e
   exact ⟨e1,ih.1 e2⟩
  ·rintro ⟨e1,e2⟩
   rw [e1,ih.2 e2]
theorem match_mark {a b:List Cl} {on:List Jo} {x y:List Vl} (hx:∀ v∈x,rightF v=true) (hy:∀ v∈y,rightF v=true) (h0:nullF (on.map fun o=>placeN a o.l) x=false) :
  (!nullF (on.map fun o=>placeN b o.r) y && decide (markF [] y (on.map fun o=>placeN b o.r)=markF [] x (on.map fun o=>placeN a o.l)))=matchF a b on x y:=by
 have hx0:∀ o∈on,(vAt x (placeN a o.l)).k≠0:=fun o ho=>null_not h0 _ (List.mem_map_of_mem (f:=fun o=>placeN a o.l) ho)
 rw [Bool.eq_iff_iff]
 unfold matchF
 simp only [Bool.and_eq_true,Bool.not_eq_true',decide_eq_true_eq,List.all_eq_true,decide_eq_false_iff_not]
 constructor
 ·rintro ⟨h1,h2⟩ o ho
  have hy0:∀ o∈on,(vAt y (placeN b o.r)).k≠0:=fun o ho=>null_not h1 _ (List.mem_map_of_mem (f:=fun o=>placeN b o.r) ho)
  have h3:toksF [] x (on.map fun o=>placeN a o.l)=toksF [] y (on.map fun o=>placeN b o.r):=by
   have:=congrArg (fun z:ByteArray=>z.data.toList) h2
   simpa [markF] using this.symm
  exact ⟨hx0 o ho,sameV_iff.2 ((toks_pairs fun o ho=>⟨vAt_right hx _,vAt_right hy _,hx0 o ho,hy0 o ho⟩).1 h3 o ho)⟩
 ·intro h
  have h1:∀ o∈on,vAt x (placeN a o.l)=vAt y (placeN b o.r):=fun o ho=>sameV_iff.1 (h o ho).2
  have hy0:∀ o∈on,(vAt y (placeN b o.r)).k≠0:=fun o ho=>by rw [← h1 o ho];exact hx0 o ho
  refine ⟨?_,?_⟩
  ·unfold nullF
   rw [List.any_eq_false]
   intro p hp
   obtain ⟨o,ho,rfl⟩:=List.mem_map.1 hp
   simpa using hy0 o ho
  ·have:=(toks_pairs (f:=fun o=>placeN a o.l) (g:=fun o=>placeN b o.r) fun o ho=>⟨vAt_right hx _,vAt_right hy _,hx0 o ho,hy0 o ho⟩).2 h1
   simp only [markF,this]
theorem match_null {a b:List Cl} {on:List Jo} {x y:List Vl} (h0:nullF (on.map fun o=>placeN a o.l) x=true):matchF a b on x y=false:=by
 unfold nullF at h0
 obtain ⟨p,hp,e⟩:=List.any_eq_true.1 h0
 obtain ⟨o,ho,rfl⟩:=List.mem_map.1 hp
 unfold matchF
 rw [List.all_eq_false]
 refine ⟨o,ho,?_⟩
 have:(vAt x (placeN a o.l)).k=0:=by simpa using e
 simp [this]
def foundIx (left right:List Nat) (B:List (List Vl)) (x:List Vl):List Nat:=if nullF left x=true then [] else matchIx right (markF [] x left) B
theorem found_map {α:Type} {a b:List Cl} {on:List Jo} {B:List (List Vl)} {x:List Vl} (f:List Vl→α) (hx:∀ v∈x,rightF v=true) (hB:∀ y∈B,∀ v∈y,rightF v=true) :
  (foundIx (on.map fun o=>placeN a o.l) (on.map fun o=>placeN b o.r) B x).map (fun i=>f (B.getD i []))=(B.filter fun y=>matchF a b on x y).map f:=by
 unfold foundIx
 split
 ·rename_i h0
  rw [List.map_nil]
  have:(B.filter fun y=>matchF a b on x y)=[]:=by
   rw [List.filter_eq_nil_iff]
   intro y _
   rw [match_null h0];simp
  rw [this,List.map_nil]
 ·rename_i h0
  rw [matchIx_map]
  congr 1
  refine List.filter_congr fun y hy=>?_
  exact match_mark hx (hB y hy) (by simpa using h0)
theorem found_any {a b:List Cl} {on:List Jo} {B:List (List Vl)} {x:List Vl} (hx:∀ v∈x,rightF v=true) (hB:∀ y∈B,∀ v∈y,rightF v=true) :
  decide (0<(foundIx (on.map fun o=>placeN a o.l) (on.map fun o=>placeN b o.r) B x).length)=B.any fun y=>matchF a b on x y:=by
 have h:=congrArg List.length (found_map (a:=a) (b:=b) (on:=on) (f:=fun y=>y) hx hB)
 rw [List.length_map,List.length_map] at h
 rw [h,Bool.eq_iff_iff,decide_eq_true_eq,List.any_eq_true,List.length_pos_iff_exists_mem]
 simp only [List.mem_filter]
theorem found_lt {left right:List Nat} {B:List (List Vl)} {x:List Vl}:∀ i∈foundIx left right B x,i<B.length:=by
 intro i hi
 unfold foundIx at hi
 split at hi
 ·cases hi
 ·exact matchIx_lt i hi
theorem found_len (left right:List Nat) (B:List (List Vl)) (x:List Vl):(foundIx left right B x).length≤B.length:=by
 unfold foundIx
 split
 ·simp
 ·exact matchIx_len _ _ _
def rowC (a b:List Cl) (on:List Jo) (kind:Int) (B:List (List Vl)) (found:List Nat) (x:List Vl):List (List Vl) :=
 if kind=3∨kind=4 then (if decide (0<found.length)=decide (kind=3) then [x] else [])
 else found.map (fun i=>besideF (othersN b on) x (B.getD i []))++(if kind=2∧found.length=0 then [besideF (othersN b on) x []] else [])
theorem rowC_eq {a b:List Cl} {on:List Jo} {kind:Int} {B:List (List Vl)} {x:List Vl} (hk:1≤kind∧kind≤4) (hx:∀ v∈x,rightF v=true) (hB:∀ y∈B,∀ v∈y,rightF v=true) :
  rowC a b on kind B (foundIx (on.map fun o=>placeN a o.l) (on.map fun o=>placeN b o.r) B x) x=rowJ a b on kind B x:=by
 have h1:=found_map (a:=a) (b:=b) (on:=on) (f:=besideF (othersN b on) x) hx hB
 have h2:=found_any (a:=a) (b:=b) (on:=on) hx hB
 unfold rowC rowJ
 rw [← h2,← h1]
 generalize foundIx (on.map fun o=>placeN a o.l) (on.map fun o=>placeN b o.r) B x=F
 by_cases h3:kind=3
 ·subst h3
  by_cases hF:0<F.length<;>simp [hF]
 ·by_cases h4:kind=4
  ·subst h4
   by_cases hF:0<F.length<;>simp [hF]
  ·have h5:¬ 2<kind:=by omega
   rw [if_neg (by omega),if_neg h5]
   congr 1
   by_cases hF:F.length=0
   ·simp [h3,h4,hF]
   ·have:0<F.length:=by omega
    simp [h3,h4,hF,this]
/-! ### What holds of them -/
open Go
set_option linter.unusedSimpArgs false
set_option linter.unusedVariables false
theorem any_pair (x y:ByteArray):∀ l:List Jo,(l.any fun p=>decide (p.l=x) || decide (p.r=y))=(memB x (l.map fun o=>o.l) || memB y (l.map fun o=>o.r))
 | []=>rfl
 | p::l=>by
  have ih:=any_pair x y l
  rw [Bool.eq_iff_iff] at ih ⊢
  simp only [List.any_cons,List.map_cons,Bool.or_eq_true,decide_eq_true_eq,memB_iff,List.mem_cons] at ih ⊢
  rw [ih]
  constructor
  ·rintro ((h|h)|(h|h))
   ·exact .inl (.inl h.symm)
   ·exact .inr (.inl h.symm)
   ·exact .inl (.inr h)
   ·exact .inr (.inr h)
  ·rintro ((h|h)|(h|h))
   ·exact .inl (.inl h.symm)
   ·exact .inr (.inl h)
   ·exact .inl (.inr h.symm)
   ·exact .inr (.inr h)
theorem match_cons (a b:List Cl) (o:Jo) (on:List Jo) (x y:List Vl):matchF a b (o::on) x y=((!decide ((vAt x (placeN a o.l)).k=0) && sameV (vAt x (placeN a o.l)) (vAt y (placeN b o.r))) && matchF a b on x y):=rfl
def clashR (a:List Cl) (on:List Jo) (kind:Int) (b:List Cl):Bool:=b.any fun c=>decide (kind≤2) && (!isR on c.name && decide (0≤atF c.name (namesN a) 0))
theorem clashR_cons (a:List Cl) (on:List Jo) (kind:Int) (c:Cl) (b:List Cl):clashR a on kind (c::b)=((decide (kind≤2) && (!isR on c.name && decide (0≤atF c.name (namesN a) 0))) || clashR a on kind b):=rfl
theorem clash_eq (a:List Cl) (on:List Jo) {kind:Int} (hk:1≤kind) (b:List Cl):clashR a on kind b=true↔(kind=1∨kind=2)∧clashF a on b=true:=by
 have h:∀ c:Cl,decide (0≤atF c.name (namesN a) 0)=(findF c.name a 0).2.2:=fun c=>(find_at c.name a 0).1.symm
 unfold clashR clashF
 simp only [List.any_eq_true,Bool.and_eq_true,decide_eq_true_eq,Bool.not_eq_true',h]
 constructor
 ·rintro ⟨c,hc,h1,h2,h3⟩
  exact ⟨by omega,c,hc,h3,h2⟩
 ·rintro ⟨h1,c,hc,h2,h3⟩
  exact ⟨c,hc,by omega,h3,h2⟩
structure Jc where
 A:Tb
 B:Tb
 On:List Jo
 Kind:Int
def eJc (z:Jc):List DV:=[.sl 3 (z.A.L.map eC),.sl 1 (z.A.R.map eR),.sl 3 (z.B.L.map eC),.sl 1 (z.B.R.map eR),.sl 2 (z.On.map eJo),.v (.int .i64 z.Kind)]
@[push_cast] theorem eJc_eq (z:Jc):eJc z=[.sl 3 (z.A.L.map eC),.sl 1 (z.A.R.map eR),.sl 3 (z.B.L.map eC),.sl 1 (z.B.R.map eR),.sl 2 (z.On.map eJo),.v (.int .i64 z.Kind)]:=rfl
def shortOn (on:List Jo):Bool:=on.all fun o=>decide (o.l.size≤100) && decide (o.r.size≤100)
def fitsJ (z:Jc):Bool:=shortOn z.On && (fewT z.A && (fewT z.B && decide (z.On.length≤12)))
structure okJc (z:Jc):Prop where
 a:okT0 z.A
 b:okT0 z.B
 o:okLen z.On
 k:inK .i64 z.Kind
def wrongJ (z:Jc):Int:=if (checkJ z.A.L z.B.L z.On z.Kind).2≠0 then (checkJ z.A.L z.B.L z.On z.Kind).2 else if evenF z.A=false∨evenF z.B=false then 10 else 0
def colsC (a b:List Cl) (on:List Jo) (kind:Int):List Cl × Int:=if (checkJ a b on kind).2≠0 then ([],(checkJ a b on kind).2) else (colsJ a b on kind,0)
theorem cols_snoc (a b:List Cl) (on:List Jo) (kind:Int) (c:Cl):colsJ a (b++[c]) on kind=colsJ a b on kind++if 2<kind∨isR on c.name=true then [] else [colJ kind c]:=by
 unfold colsJ
 rw [List.flatMap_append,List.append_assoc]
 congr 2
 simp
theorem cols_take {a b:List Cl} {on:List Jo} {kind:Int} {k:Nat} {c:Cl} (h:b[k]?=some c):colsJ a (b.take (k+1)) on kind=colsJ a (b.take k) on kind++if 2<kind∨isR on c.name=true then [] else [colJ kind c]:=by
 rw [List.take_add_one,h,Option.toList_some,cols_snoc]
theorem cols_nil (a:List Cl) (on:List Jo) (kind:Int):colsJ a [] on kind=a:=by simp [colsJ]
theorem rowsJ_snoc (a b:List Cl) (on:List Jo) (kind:Int) (A B:List (List Vl)) (x:List Vl):rowsJ a b on kind (A++[x]) B=rowsJ a b on kind A B++rowJ a b on kind B x:=by
 simp [rowsJ]
theorem rowsJ_take {a b:List Cl} {on:List Jo} {kind:Int} {A B:List (List Vl)} {k:Nat} {x:List Vl} (h:A[k]?=some x):rowsJ a b on kind (A.take (k+1)) B=rowsJ a b on kind (A.take k) B++rowJ a b on kind B x:=by
 rw [List.take_add_one,h,Option.toList_some,rowsJ_snoc]
theorem rowJ_len (a b:List Cl) (on:List Jo) (kind:Int) (B:List (List Vl)) (x:List Vl):(rowJ a b on kind B x).length≤B.length+1:=by
 unfold rowJ
 have h1:=List.length_filter_le (fun y=>matchF a b on x y) B
 by_cases h3:kind=3
 ·subst h3
  simp only [List.length_append]
  rw [if_pos (by decide),if_neg (c:=(3:Int)=2∧_) (by rintro ⟨h,_⟩;cases h)]
  split<;>simp
 ·by_cases h4:kind=4
  ·subst h4
   simp only [List.length_append]
   rw [if_pos (by decide),if_neg (c:=(4:Int)=2∧_) (by rintro ⟨h,_⟩;cases h)]
   split<;>simp
  ·rw [if_neg (c:=(kind=3∧_)∨_) (by rintro (⟨h,_⟩|⟨h,_⟩)<;>contradiction)]
   simp only [List.length_append,List.length_nil]
   split<;>split<;>simp only [List.length_nil,List.length_cons,List.length_map]<;>omega
theorem rowsJ_len (a b:List Cl) (on:List Jo) (kind:Int) (B:List (List Vl)):∀ A:List (List Vl),(rowsJ a b on kind A B).length≤A.length*(B.length+1)
 | []=>by simp [rowsJ]
 | x::A=>by
  have h1:=rowsJ_len a b on kind B A
  have h2:=rowJ_len a b on kind B x
  have e:rowsJ a b on kind (x::A) B=rowJ a b on kind B x++rowsJ a b on kind A B:=rfl
  rw [e,List.length_append,List.length_cons,Nat.add_mul]
  omega
theorem rowJ_all {P:List Vl→Prop} {a b:List Cl} {on:List Jo} {kind:Int} {B:List (List Vl)} {x:List Vl} (hx:P x) (hb:∀ y∈B,P (besideF (othersN b on) x y)) (h0:P (besideF (othersN b on) x [])):∀ r∈rowJ a b on kind B x,P r:=by
 intro r hr
 unfold rowJ at hr
 rcases List.mem_append.1 hr with hr|hr
 ·split at hr
  ·cases hr
  ·obtain ⟨y,hy,rfl⟩:=List.mem_map.1 hr
   exact hb y (List.mem_filter.1 hy).1
 ·rcases List.mem_append.1 hr with hr|hr
  ·split at hr
   ·rw [List.mem_singleton.1 hr];exact hx
   ·cases hr
  ·split at hr
   ·rw [List.mem_singleton.1 hr];exact h0
   ·cases hr
theorem rowsJ_all {P:List Vl→Prop} {a b:List Cl} {on:List Jo} {kind:Int} {A B:List (List Vl)} (hx:∀ x∈A,P x) (hb:∀ x∈A,∀ y∈B,P (besideF (othersN b on) x y)) (h0:∀ x∈A,P (besideF (othersN b on) x [])):∀ r∈rowsJ a b on kind A B,P r:=by
 intro r hr
 obtain ⟨x,hx1,hr⟩:=List.mem_flatMap.1 hr
 exact rowJ_all (hx x hx1) (hb x hx1) (h0 x hx1) r hr
end Go.LS
