/- Part PG: 4 texts,one behind the other. -/
import Derived.Test.YtfmbjaeppffdpaaGreatDoorPJc
/- Groups: their columns;names that may stand side by side. -/
namespace Go.LS
open Go
set_option linter.unusedSimpArgs false
set_option linter.unusedVariables false
structure Ag where
 op:Int
 col:ByteArray
 nm:ByteArray
def eAg (a:Ag):List DV:=[.v (.int .i64 a.op),.v (.string a.col),.v (.string a.nm)]
@[push_cast] theorem eAg_eq (a:Ag):eAg a=[.v (.int .i64 a.op),.v (.string a.col),.v (.string a.nm)]:=rfl
/-! ### Names -/
def hedL:List ByteArray→List ByteArray→Nat→Nat × Int
 | _,[],k=>(k,0)
 | seen,n::l,k=>if validB n=false then (k,14) else if memB n seen=true then (k,15) else hedL (seen++[n]) l (k+1)
def hedF (l:List ByteArray):Nat × Int:=if l.length=0 then (0,13) else hedL [] l 0
def ixM:List ByteArray→Nat→List (ByteArray × DV)
 | [],_=>[]
 | n::l,k=>(n,.v (.int .i64 k))::ixM l (k+1)
theorem mget_ixM (s:ByteArray):∀ (l:List ByteArray) (k:Nat),mget (ixM l k) s=if memB s l=true then some (.v (.int .i64 (atF s l k))) else none
 | [],_=>rfl
 | n::l,k=>by
  have ih:=mget_ixM s l (k+1)
  simp only [ixM,mget,memB,atF]
  by_cases h:n=s
  ·simp [h]
  ·simp only [if_neg h,ih]
   rfl
theorem mset_ixM (s:ByteArray):∀ (l:List ByteArray) (k:Nat) (j:Int),memB s l=false→j=(k:Int)+(l.length:Int)→mset (ixM l k) s (.v (.int .i64 j))=ixM (l++[s]) k
 | [],k,j,_,h=>by subst h;simp [ixM,mset]
 | n::l,k,j,h,hj=>by
  simp only [memB] at h
  split at h
  ·cases h
  ·rename_i hne
   simp only [ixM,mset,if_neg hne,List.cons_append]
   rw [mset_ixM s l (k+1) j h (by rw [hj,List.length_cons];push_cast;omega)]
theorem atI_mem {s:ByteArray}:∀ {l:List ByteArray} {k:Nat},memB s l=true→∃ i,i<l.length∧atF s l k=((k+i:Nat):Int)∧l[i]?=some s
 | [],_,h=>by simp [memB] at h
 | n::l,k,h=>by
  simp only [memB] at h
  by_cases e:n=s
  ·exact ⟨0,by simp,by simp [atF,e],by simp [e]⟩
  ·rw [if_neg e] at h
   obtain ⟨i,h1,h2,h3⟩:=atI_mem (k:=k+1) h
   refine ⟨i+1,by simpa using h1,?_,by simpa using h3⟩
   simp only [atF,if_neg e]
   have:((k:Int)+1)=((k+1:Nat):Int):=by omega
   rw [this,h2]
   congr 1
   omega
/-! ### Columns -/
def findG (L:List Cl) (ks:List ByteArray):List Nat × Nat × Int :=
 if (keyF L [] ks 0).2≠0 then ([],keyF L [] ks 0) else (placesN L ks,ks.length,0)
def columnG (L:List Cl) (a:Ag):Cl × Int :=
 if (a.op<1∨6<a.op)∨(a.op=1∧a.col≠ByteArray.empty) then (cl0,22)
 else if a.op=1 then (⟨a.nm,2,false⟩,0)
 else if (findF a.col L 0).2.2=false then (cl0,16)
 else if a.op=3∧(findF a.col L 0).1.kind≠2 then (cl0,21)
 else if a.op=2 then (⟨a.nm,2,false⟩,0)
 else (⟨a.nm,(findF a.col L 0).1.kind,true⟩,0)
def aggsG (L:List Cl):List Ag→List Cl→Nat→List Cl × Nat × Int
 | [],out,k=>(out,k,0)
 | a::as,out,k=>if (columnG L a).2≠0 then ([],k,(columnG L a).2) else aggsG L as (out++[(columnG L a).1]) (k+1)
def keyCols (L:List Cl) (ks:List ByteArray):List Cl:=ks.map fun n=>(findF n L 0).1
def colsG (L:List Cl) (ks:List ByteArray) (as:List Ag):List Cl × Nat × Int :=
 if (checkC L).2≠0 then ([],0,(checkC L).2)
 else if (keyF L [] ks 0).2≠0 then ([],keyF L [] ks 0)
 else if (aggsG L as (keyCols L ks) ks.length).2.2≠0 then ([],(aggsG L as (keyCols L ks) ks.length).2)
 else if (hedF (namesN (aggsG L as (keyCols L ks) ks.length).1)).2≠0 then ([],hedF (namesN (aggsG L as (keyCols L ks) ks.length).1))
 else ((aggsG L as (keyCols L ks) ks.length).1,(aggsG L as (keyCols L ks) ks.length).1.length,0)
theorem aggs_ok {L:List Cl}:∀ {as:List Ag} {out:List Cl} {k:Nat},(aggsG L as out k).2.2=0→(∀ a∈as,(columnG L a).2=0)∧(aggsG L as out k).1=out++as.map fun a=>(columnG L a).1
 | [],out,k,_=>by simp [aggsG]
 | a::as,out,k,h=>by
  simp only [aggsG] at h ⊢
  by_cases h1:(columnG L a).2=0
  ·rw [if_neg (by simp [h1])] at h ⊢
   obtain ⟨h2,h3⟩:=aggs_ok h
   refine ⟨fun x hx=>?_,by rw [h3];simp⟩
   rcases List.mem_cons.1 hx with rfl|hx
   ·exact h1
   ·exact h2 x hx
  ·rw [if_pos h1] at h
   exact absurd h h1
theorem aggs_len (L:List Cl):∀ (as:List Ag) (out:List Cl) (k:Nat),(aggsG L as out k).1.length≤out.length+as.length∧(aggsG L as out k).2.1≤k+as.length
 | [],out,k=>by simp [aggsG]
 | a::as,out,k=>by
  have:=aggs_len L as (out++[(columnG L a).1]) (k+1)
  simp only [aggsG,List.length_append,List.length_cons,List.length_nil] at this ⊢
  split
  ·simp
  ·omega
theorem colsG_ok {L:List Cl} {ks:List ByteArray} {as:List Ag} (h:(colsG L ks as).2.2=0) :
  (checkC L).2=0∧(keyF L [] ks 0).2=0∧(∀ a∈as,(columnG L a).2=0)∧(colsG L ks as).1=keyCols L ks++as.map (fun a=>(columnG L a).1)∧(hedF (namesN (colsG L ks as).1)).2=0:=by
 unfold colsG at h ⊢
 by_cases h1:(checkC L).2=0
 ·rw [if_neg (by simp [h1])] at h ⊢
  by_cases h2:(keyF L [] ks 0).2=0
  ·rw [if_neg (by simp [h2])] at h ⊢
   by_cases h3:(aggsG L as (keyCols L ks) ks.length).2.2=0
   ·rw [if_neg (by simp [h3])] at h ⊢
    by_cases h4:(hedF (namesN (aggsG L as (keyCols L ks) ks.length).1)).2=0
    ·rw [if_neg (by simp [h4])] at h ⊢
     exact ⟨h1,h2,(aggs_ok h3).1,(aggs_ok h3).2,h4⟩
    ·rw [if_pos h4] at h;exact absurd h h4
   ·rw [if_pos h3] at h;exact absurd h h3
  ·rw [if_pos h2] at h;exact absurd h h2
 ·rw [if_pos h1] at h;exact absurd h h1
theorem colsG_len (L:List Cl) (ks:List ByteArray) (as:List Ag):(colsG L ks as).1.length≤ks.length+as.length:=by
 have h:=(aggs_len L as (keyCols L ks) ks.length).1
 rw [show (keyCols L ks).length=ks.length from List.length_map _] at h
 unfold colsG
 (repeat' split)<;>(try simp only [List.length_nil])<;>omega
theorem colsG_name {L:List Cl} {ks:List ByteArray} {as:List Ag} {B:Nat} (hL:∀ c∈L,c.name.size≤B) (hA:∀ a∈as,a.nm.size≤B):∀ c∈(colsG L ks as).1,c.name.size≤B:=by
 intro c hc
 by_cases h:(colsG L ks as).2.2=0
 ·obtain ⟨_,h2,h3,h4,_⟩:=colsG_ok h
  rw [h4] at hc
  rcases List.mem_append.1 hc with hc|hc
  ·obtain ⟨n,hn,rfl⟩:=List.mem_map.1 hc
   have:=(placeN_get (key_found L ks [] 0 h2 n hn)).1
   exact hL _ (List.mem_of_getElem? this)
  ·obtain ⟨a,ha,rfl⟩:=List.mem_map.1 hc
   have h5:=h3 a ha
   have h6:=hA a ha
   unfold columnG at h5 ⊢
   split at h5
   ·cases h5
   ·rename_i q1
    rw [if_neg q1]
    split at h5
    ·rename_i q2;rw [if_pos q2];exact h6
    ·rename_i q2
     rw [if_neg q2]
     split at h5
     ·cases h5
     ·rename_i q3
      rw [if_neg q3]
      split at h5
      ·cases h5
      ·rename_i q4
       rw [if_neg q4]
       split<;>exact h6
 ·exfalso
  unfold colsG at h hc
  (repeat' split at hc)<;>first|(cases hc;done)|skip
  rename_i q1 q2 q3 q4
  rw [if_neg q1,if_neg q2,if_neg q3,if_neg q4] at h
  exact h rfl
open Go
set_option linter.unusedSimpArgs false
set_option linter.unusedVariables false
def ddl (ms:List ByteArray):List ByteArray:=ms.foldl (fun acc m=>if memB m acc=true then acc else acc++[m]) []
theorem ddl_snoc (ms:List ByteArray) (m:ByteArray):ddl (ms++[m])=if memB m (ddl ms)=true then ddl ms else ddl ms++[m]:=by
 unfold ddl
 rw [List.foldl_append]
 rfl
theorem ddl_mem:∀ (ms:List ByteArray) (m:ByteArray),m∈ddl ms↔m∈ms:=by
 refine snoc_ind (by simp [ddl]) fun ms x ih m=>?_
 rw [ddl_snoc]
 split
 ·rename_i h
  rw [memB_iff,ih] at h
  rw [ih,List.mem_append,List.mem_singleton]
  exact ⟨.inl,fun h'=>h'.elim id fun e=>e ▸ h⟩
 ·rw [List.mem_append,List.mem_append,ih]
theorem ddl_nodup:∀ ms:List ByteArray,(ddl ms).Nodup:=by
 refine snoc_ind (by simp [ddl]) fun ms x ih=>?_
 rw [ddl_snoc]
 split
 ·exact ih
 ·rename_i h
  rw [memB_iff] at h
  rw [List.nodup_append]
  refine ⟨ih,by simp,fun a ha b hb e=>?_⟩
  rw [List.mem_singleton] at hb
  subst hb;subst e
  exact h ha
theorem ddl_len:∀ ms:List ByteArray,(ddl ms).length≤ms.length:=by
 refine snoc_ind (by simp [ddl]) fun ms x ih=>?_
 rw [ddl_snoc,List.length_append,List.length_singleton]
 split
 ·omega
 ·rw [List.length_append,List.length_singleton];omega
abbrev mkG (ps:List Nat) (r:List Vl):ByteArray:=markF [110] r ps
def marksG (ps:List Nat) (B:List (List Vl)):List ByteArray:=ddl (B.map (mkG ps))
def selG (ps:List Nat) (B:List (List Vl)) (m:ByteArray):List (List Vl):=B.filter fun y=>decide (mkG ps y=m)
def partG (ps:List Nat) (B:List (List Vl)):List (List (List Vl)):=(marksG ps B).map (selG ps B)
def partC (ps:List Nat) (B:List (List Vl)):List (List (List Vl)):=if ps.length=0 then [B] else partG ps B
theorem marks_snoc (ps:List Nat) (B:List (List Vl)) (y:List Vl):marksG ps (B++[y])=if memB (mkG ps y) (marksG ps B)=true then marksG ps B else marksG ps B++[mkG ps y]:=by
 unfold marksG
 rw [List.map_append]
 exact ddl_snoc _ _
theorem sel_snoc (ps:List Nat) (B:List (List Vl)) (y:List Vl) (m:ByteArray):selG ps (B++[y]) m=selG ps B m++if mkG ps y=m then [y] else []:=by
 simp only [selG,List.filter_append,List.filter_cons,List.filter_nil]
 congr 1
 by_cases h:mkG ps y=m<;>simp [h]
theorem marks_len (ps:List Nat) (B:List (List Vl)):(marksG ps B).length≤B.length:=by
 have:=ddl_len (B.map (mkG ps))
 rwa [List.length_map] at this
theorem sel_len (ps:List Nat) (B:List (List Vl)) (m:ByteArray):(selG ps B m).length≤B.length:=List.length_filter_le _ _
theorem marks_mem {ps:List Nat} {B:List (List Vl)} {m:ByteArray}:m∈marksG ps B↔∃ y∈B,mkG ps y=m:=by
 simp only [marksG,ddl_mem,List.mem_map]
theorem sel_ne {ps:List Nat} {B:List (List Vl)} {m:ByteArray} (h:m∈marksG ps B):selG ps B m≠[]:=by
 obtain ⟨y,hy,e⟩:=marks_mem.1 h
 intro h0
 have:y∈selG ps B m:=List.mem_filter.2 ⟨hy,by simpa using e⟩
 rw [h0] at this
 cases this
theorem part_len (ps:List Nat) (B:List (List Vl)):(partG ps B).length≤B.length:=by
 unfold partG
 rw [List.length_map]
 exact marks_len ps B
theorem part_mem {ps:List Nat} {B:List (List Vl)} {g:List (List Vl)} (h:g∈partG ps B):g≠[]∧g.length≤B.length∧∀ y∈g,y∈B:=by
 obtain ⟨m,hm,rfl⟩:=List.mem_map.1 h
 exact ⟨sel_ne hm,sel_len ps B m,fun y hy=>(List.mem_filter.1 hy).1⟩
theorem partC_mem {ps:List Nat} {B:List (List Vl)} {g:List (List Vl)} (h:g∈partC ps B):(ps.length≠0→g≠[])∧g.length≤B.length∧∀ y∈g,y∈B:=by
 unfold partC at h
 split at h
 ·rename_i h0
  rw [List.mem_singleton] at h
  subst h
  exact ⟨fun h=>absurd h0 h,Nat.le_refl _,fun y hy=>hy⟩
 ·obtain ⟨h1,h2,h3⟩:=part_mem h
  exact ⟨fun _=>h1,h2,h3⟩
theorem partC_len (ps:List Nat) (B:List (List Vl)):(partC ps B).length≤B.length+1:=by
 unfold partC
 split
 ·simp
 ·have:=part_len ps B;omega
/-! ### Groups as they lie while rows are put in -/
structure HdP (t:Nat) (ps:List Nat) (B:List (List Vl)) (hs:List (List DV)) (rs:List OB) (J:Nat→Nat):Prop where
 flat:flatR rs
 len:hs.length=(marksG ps B).length
 at_:∀ i m,(marksG ps B)[i]?=some m→∃ g cap,hs[i]?=some [hdD g (selG ps B m).length cap]∧rs[J i]?=some (.px t 1 g cap ((selG ps B m).map eR))
 inj:∀ i j,i<(marksG ps B).length→j<(marksG ps B).length→J i=J j→i=j
theorem HdP.start (t:Nat) (ps:List Nat):HdP t ps [] [] [] (fun _=>0) :=
 ⟨(by intro o ho;cases ho),rfl,(by intro i m h;simp [marksG,ddl] at h),(by intro i j h;simp [marksG,ddl] at h)⟩
section
variable {t:Nat} {ps:List Nat} {B:List (List Vl)} {hs:List (List DV)} {rs:List OB} {J:Nat→Nat} {y:List Vl}
theorem HdP.lt (h:HdP t ps B hs rs J) {i:Nat} (hi:i<(marksG ps B).length):J i<rs.length:=by
 obtain ⟨g,cap,_,h2⟩:=h.at_ i _ (List.getElem?_eq_getElem hi)
 exact (List.getElem?_eq_some_iff.1 h2).1
theorem HdP.new (h:HdP t ps B hs rs J) (h0:memB (mkG ps y) (marksG ps B)=false) (tmp:List OB) (ht:flatR tmp) (g cap:Nat) :
  HdP t ps (B++[y]) (hs++[[hdD g 1 cap]]) (rs++(tmp++[.px t 1 g cap [eR y]])) (fun i=>if i=(marksG ps B).length then rs.length+tmp.length else J i):=by
 have hms:marksG ps (B++[y])=marksG ps B++[mkG ps y]:=by rw [marks_snoc,if_neg (by simp [h0])]
 have h0':mkG ps y ∉ marksG ps B:=by rw [← memB_iff];simp [h0]
 refine ⟨flat_append h.flat (flat_append ht (fun o ho=>by rw [List.mem_singleton.1 ho];trivial)),by rw [hms,List.length_append,List.length_append,h.len];rfl,fun i m hm=>?_,fun i j hi hj=>?_⟩
 ·rw [hms] at hm
  by_cases hi:i<(marksG ps B).length
  ·rw [List.getElem?_append_left hi] at hm
   have hne:mkG ps y≠m:=fun e=>h0' (e ▸ List.mem_of_getElem? hm)
   obtain ⟨g',cap',h1,h2⟩:=h.at_ i m hm
   rw [sel_snoc,if_neg hne,List.append_nil]
   refine ⟨g',cap',by rw [List.getElem?_append_left (by rw [h.len];exact hi)];exact h1,?_⟩
   rw [if_neg (by omega),List.getElem?_append_left (h.lt hi)]
   exact h2
  ·have hi':i=(marksG ps B).length:=by
    have:=(List.getElem?_eq_some_iff.1 hm).1
    rw [List.length_append,List.length_singleton] at this
    omega
   subst hi'
   rw [List.getElem?_concat_length] at hm
   injection hm with hm
   subst hm
   have hsel:selG ps B (mkG ps y)=[]:=by
    rw [List.eq_nil_iff_forall_not_mem]
    intro z hz
    exact h0' (marks_mem.2 ⟨z,(List.mem_filter.1 hz).1,by simpa using (List.mem_filter.1 hz).2⟩)
   rw [sel_snoc,hsel,if_pos rfl]
   refine ⟨g,cap,by rw [← h.len,List.getElem?_concat_length];rfl,?_⟩
   rw [if_pos rfl,List.getElem?_append_right (by omega),Nat.add_sub_cancel_left,List.getElem?_concat_length]
   rfl
 ·rw [hms,List.length_append,List.length_singleton] at hi hj
  intro e
  by_cases h1:i=(marksG ps B).length<;>by_cases h2:j=(marksG ps B).length
  ·omega
  ·rw [if_pos h1,if_neg h2] at e
   have:=h.lt (i:=j) (by omega)
   omega
  ·rw [if_neg h1,if_pos h2] at e
   have:=h.lt (i:=i) (by omega)
   omega
  ·rw [if_neg h1,if_neg h2] at e
   exact h.inj i j (by omega) (by omega) e
theorem HdP.old (h:HdP t ps B hs rs J) {i:Nat} (hi:(marksG ps B)[i]?=some (mkG ps y)) (tmp:List OB) (ht:flatR tmp) (g cap:Nat) :
  HdP t ps (B++[y]) (hs.set i [hdD g ((selG ps B (mkG ps y)).length+1) cap]) ((rs++tmp).set (J i) (.px t 1 g cap ((selG ps B (mkG ps y)).map eR++[eR y]))) J:=by
 have hm:mkG ps y∈marksG ps B:=List.mem_of_getElem? hi
 have hms:marksG ps (B++[y])=marksG ps B:=by rw [marks_snoc,if_pos (by rw [memB_iff];exact hm)]
 have hil:=(List.getElem?_eq_some_iff.1 hi).1
 have hlt:=h.lt hil
 refine ⟨flat_set (flat_append h.flat ht) trivial,by rw [List.length_set,hms];exact h.len,fun j m hj=>?_,fun a b ha hb=>h.inj a b (by rwa [hms] at ha) (by rwa [hms] at hb)⟩
 rw [hms] at hj
 have hjl:=(List.getElem?_eq_some_iff.1 hj).1
 by_cases e:j=i
 ·subst e
  rw [hi] at hj
  injection hj with hj
  subst hj
  rw [sel_snoc,if_pos rfl]
  refine ⟨g,cap,by rw [List.getElem?_set_self (by rw [h.len];exact hil),List.length_append,List.length_singleton],?_⟩
  rw [List.getElem?_set_self (by rw [List.length_append];omega),List.map_append]
  rfl
 ·have hne:mkG ps y≠m:=by
   intro em
   subst em
   have hn:=ddl_nodup (B.map (mkG ps))
   have h1:=(List.getElem?_eq_some_iff.1 hi).2
   have h2:=(List.getElem?_eq_some_iff.1 hj).2
   exact e ((List.getElem_inj hn).1 (h2.trans h1.symm))
  obtain ⟨g',cap',h1,h2⟩:=h.at_ j m hj
  rw [sel_snoc,if_neg hne,List.append_nil]
  refine ⟨g',cap',by rw [List.getElem?_set_ne (fun x=>e x.symm)];exact h1,?_⟩
  rw [List.getElem?_set_ne (fun x=>e (h.inj j i hjl hil x.symm)),List.getElem?_append_left (h.lt hjl)]
  exact h2
theorem HdP.fz (h:HdP t ps B hs rs J) {ob:List OB} (hob:∀ (j:Nat) o,rs[j]?=some o→∃ k:Nat,ob[k]?=some o):FzR ob hs ((partG ps B).map eRs):=by
 refine Fz2.of_get (by rw [List.length_map,h.len];simp [partG]) fun i a b ha hb=>?_
 have hi:i<(marksG ps B).length:=by rw [← h.len];exact (List.getElem?_eq_some_iff.1 ha).1
 obtain ⟨g,cap,h1,h2⟩:=h.at_ i _ (List.getElem?_eq_getElem hi)
 rw [h1] at ha
 injection ha with ha
 subst ha
 obtain ⟨k,hk⟩:=hob _ _ h2
 rw [List.getElem?_map,partG,List.getElem?_map,List.getElem?_eq_getElem hi] at hb
 simp only [Option.map_some,Option.some.injEq] at hb
 subst hb
 exact .cons (.inr ⟨k,t,1,g,cap,_,hk,by rw [List.length_map],rfl⟩) .nil
end
/-! ### What is told of a group -/
def intV (n:Int):Vl:=⟨2,ByteArray.empty,n,false⟩
def someV (p:Nat) (g:List (List Vl)):List Vl:=(g.map fun r=>vAt r p).filter fun v=>!decide (v.k=0)
def bestV (sg:Int):List Vl→Vl→Vl
 | [],m=>m
 | v::l,m=>bestV sg l (if sg*cmpF v m<0 then v else m)
def sumI:List Int→Int
 | []=>0
 | x::l=>x+sumI l
def sumG (l:List Int):Int × Int:=if -9223372036854775808≤sumI l∧sumI l≤9223372036854775807 then (sumI l,0) else (0,18)
def tellG (L:List Cl) (a:Ag) (g:List (List Vl)):Vl × Int :=
 if a.op=1 then (intV g.length,0)
 else if a.op=6 then (if g.length=0 then vl0 else vAt (g.headD []) (placeN L a.col),0)
 else if a.op=2 then (intV (someV (placeN L a.col) g).length,0)
 else match someV (placeN L a.col) g with
  | []=>(vl0,0)
  | v::l=>if a.op=4 then (bestV 1 l v,0) else if a.op=5 then (bestV (-1) l v,0)
   else if (sumG (((v::l).filter fun v=>decide (v.k=2)).map fun v=>v.n)).2≠0 then (vl0,(sumG (((v::l).filter fun v=>decide (v.k=2)).map fun v=>v.n)).2) else (intV (sumG (((v::l).filter fun v=>decide (v.k=2)).map fun v=>v.n)).1,0)
def tellsG (L:List Cl) (g:List (List Vl)):List Ag→List Vl→List Vl × Int
 | [],out=>(out,0)
 | a::as,out=>if (tellG L a g).2≠0 then ([],(tellG L a g).2) else tellsG L g as (out++[(tellG L a g).1])
def keysV (ps:List Nat) (g:List (List Vl)):List Vl:=ps.map fun p=>vAt (g.headD []) p
def rowsG (L:List Cl) (ps:List Nat) (as:List Ag):List (List (List Vl))→List (List Vl)→List (List Vl) × Int
 | [],out=>(out,0)
 | g::gs,out=>if (tellsG L g as (keysV ps g)).2≠0 then ([],(tellsG L g as (keysV ps g)).2) else rowsG L ps as gs (out++[(tellsG L g as (keysV ps g)).1])
def groupC (t:Tb) (ks:List ByteArray) (as:List Ag):Tb × Int :=
 if (colsG t.L ks as).2.2≠0 then (⟨[],[]⟩,(colsG t.L ks as).2.2)
 else if evenF t=false then (⟨[],[]⟩,10)
 else if (rowsG t.L (placesN t.L ks) as (partC (placesN t.L ks) t.R) []).2≠0 then (⟨[],[]⟩,(rowsG t.L (placesN t.L ks) as (partC (placesN t.L ks) t.R) []).2)
 else (⟨(colsG t.L ks as).1,(rowsG t.L (placesN t.L ks) as (partC (placesN t.L ks) t.R) []).1⟩,0)
def partsC (t:Tb) (ks:List ByteArray):List Tb × Int :=
 if (checkC t.L).2≠0 then ([],(checkC t.L).2)
 else if (keyF t.L [] ks 0).2≠0 then ([],(keyF t.L [] ks 0).2)
 else if evenF t=false then ([],10)
 else ((partC (placesN t.L ks) t.R).map fun g=>⟨t.L,g⟩,0)
open Go
set_option linter.unusedSimpArgs false
set_option linter.unusedVariables false
/-! ### All groups together have all rows,each once -/
def lensG (gs:List (List (List Vl))):Nat:=(gs.map fun g=>g.length).sum
/-! ### Names,columns -/
theorem findF_at:∀ {l:List Cl} {i k:Nat} {c:Cl},(namesN l).Nodup→l[i]?=some c→findF c.name l k=(c,k+i,true)
 | [],_,_,_,_,h=>by simp at h
 | x::l,0,k,c,_,h=>by
  simp only [List.getElem?_cons_zero,Option.some.injEq] at h
  subst h
  simp [findF]
 | x::l,i+1,k,c,hn,h=>by
  obtain ⟨n1,n2⟩:=List.nodup_cons.1 (show (x.name::namesN l).Nodup from hn)
  simp only [List.getElem?_cons_succ] at h
  have hne:¬ x.name=c.name:=fun e=>n1 (e ▸ List.mem_map_of_mem (f:=fun x:Cl=>x.name) (List.mem_of_getElem? h))
  simp only [findF,if_neg hne]
  rw [findF_at n2 h]
  congr 2
  omega
/-! ### The counts -/
def cntA (nm:ByteArray):Ag:=⟨1,ByteArray.empty,nm⟩
def cntRow (ps:List Nat) (g:List (List Vl)):List Vl:=keysV ps g++[intV g.length]
theorem right_int (n:Int):rightF (intV n)=true:=by
 unfold rightF intV
 rw [if_neg (show ¬ (2:Int)=0 by decide),if_neg (show ¬ (2:Int)=1 by decide),if_pos (show (2:Int)=2 from rfl)]
 rw [Bool.and_eq_true]
 exact ⟨decide_eq_true rfl,rfl⟩
open Go
set_option linter.unusedSimpArgs false
set_option linter.unusedVariables false
def firstR (ps:List Nat) (seen:List (List Vl)) (r:List Vl):Bool:=seen.all fun x=>!alikeF ps x r
def partsR (ps:List Nat) (B:List (List Vl)):Nat→List (List (List Vl))
 | 0=>[]
 | k+1=>partsR ps B k++if firstR ps (B.take k) (B.getD k [])=true then [(B.drop k).filter fun x=>alikeF ps x (B.getD k [])] else []
theorem first_marks {ps:List Nat} {seen:List (List Vl)} {r:List Vl} (hs:∀ x∈seen,∀ v∈x,rightF v=true) (hr:∀ v∈r,rightF v=true) :
  firstR ps seen r=!memB (mkG ps r) (marksG ps seen):=by
 rw [Bool.eq_iff_iff,Bool.not_eq_true',Bool.eq_false_iff,ne_eq,memB_iff,marks_mem]
 unfold firstR
 rw [List.all_eq_true]
 constructor
 ·rintro h ⟨y,hy,e⟩
  have:=h y hy
  rw [(mark_alikeN (hs y hy) hr).1 e] at this
  cases this
 ·intro h x hx
  cases ha:alikeF ps x r with
  | false=>rfl
  | true=>exact absurd ⟨x,hx,(mark_alikeN (hs x hx) hr).2 ha⟩ h
theorem marks_take {ps:List Nat} {B:List (List Vl)} {k:Nat} {y:List Vl} (h:B[k]?=some y):marksG ps (B.take (k+1))=if memB (mkG ps y) (marksG ps (B.take k))=true then marksG ps (B.take k) else marksG ps (B.take k)++[mkG ps y]:=by
 rw [List.take_add_one,h]
 exact marks_snoc ps _ y
theorem partsR_eq {ps:List Nat} {B:List (List Vl)} (hB:∀ r∈B,∀ v∈r,rightF v=true):∀ k,k≤B.length→partsR ps B k=(marksG ps (B.take k)).map (selG ps B)
 | 0,_=>by simp [partsR,marksG,ddl]
 | k+1,hk=>by
  have hv:=List.getElem?_eq_getElem (show k<B.length by omega)
  have hm:=List.getElem_mem (show k<B.length by omega)
  have hg:B.getD k []=B[k]:=by rw [List.getD_eq_getElem?_getD,hv];rfl
  simp only [partsR]
  rw [partsR_eq hB k (by omega),marks_take hv,hg]
  generalize B[k]=y at *
  have hst:∀ x∈B.take k,∀ v∈x,rightF v=true:=fun x hx=>hB x (List.mem_of_mem_take hx)
  rw [first_marks hst (hB _ hm)]
  cases hmb:memB (mkG ps y) (marksG ps (B.take k)) with
  | true=>simp
  | false =>
   simp only [Bool.not_false,if_true,Bool.false_eq_true,if_false,List.map_append,List.map_cons,List.map_nil]
   congr 2
   unfold selG
   have hno:(B.take k).filter (fun z=>decide (mkG ps z=mkG ps y))=[]:=by
    rw [List.filter_eq_nil_iff]
    intro x hx h
    rw [Bool.eq_false_iff,ne_eq,memB_iff,marks_mem] at hmb
    exact hmb ⟨x,hx,by simpa using h⟩
   have:B.filter (fun z=>decide (mkG ps z=mkG ps y))=(B.drop k).filter (fun z=>decide (mkG ps z=mkG ps y)):=by
    rw (config:={ occs:=.pos [1] }) [← List.take_append_drop k B]
    rw [List.filter_append,hno,List.nil_append]
   rw [this]
   refine List.filter_congr fun x hx=>?_
   rw [Bool.eq_iff_iff,decide_eq_true_eq,mark_alikeN (hB x (List.mem_of_mem_drop hx)) (hB _ hm)]
theorem partsR_all {ps:List Nat} {B:List (List Vl)} (hB:∀ r∈B,∀ v∈r,rightF v=true):partsR ps B B.length=partG ps B:=by
 rw [partsR_eq hB _ (Nat.le_refl _),List.take_length];rfl
theorem nums_right:∀ {l:List Vl},(∀ v∈l,rightF v=true)→sumI ((l.filter fun v=>decide (v.k=2)).map fun v=>v.n)=sumI (l.map fun v=>v.n)
 | [],_=>rfl
 | v::l,h=>by
  have ih:=nums_right (l:=l) fun x hx=>h x (by simp [hx])
  have hv:=h v (by simp)
  rw [List.filter_cons]
  by_cases hk:v.k=2
  ·simp [hk,sumI,ih]
  ·have hn:v.n=0:=by
    unfold rightF at hv
    split at hv
    ·simp at hv;exact hv.2.1
    ·split at hv
     ·simp at hv;exact hv.1
     ·split at hv
      ·simp at hv;exact hv.2
      ·cases hv
   simp [hk,sumI,ih,hn]
end Go.LS
