/- What a step makes without an error is right again: right columns,rows as wide as these;and runs in two parts. -/
import Derived.Test.YtfmbjaeppffdpaaGreatDoorPP
import Derived.Test.YtfmbjaeppffdpaaGreatDoorPT
namespace Go.LS
open Go
set_option linter.unusedSimpArgs false
set_option linter.unusedVariables false
structure goodC (L:List Cl):Prop where
 ne:L≠[]
 col:∀ c∈L,wordF c.kind≠{ data:=#[] }∧validB c.name=true
 nd:(namesN L).Nodup
theorem chkF_wordE:∀ {l:List Cl} {seen:List ByteArray} {k:Nat},(chkF seen l k).2=0→∀ c∈l,wordF c.kind≠{ data:=#[] }
 | [],_,_,_,_,h=>by cases h
 | x::l,seen,k,h,c,hc=>by
  simp only [chkF] at h
  split at h
  ·cases h
  rename_i h0
  split at h
  ·cases h
  split at h
  ·cases h
  rcases List.mem_cons.1 hc with rfl|hc
  ·exact h0
  ·exact chkF_wordE h c hc
theorem chkF_ofE:∀ {l:List Cl} {seen:List ByteArray} {k:Nat},(∀ c∈l,(wordF c.kind≠{ data:=#[] }∧validB c.name=true)∧memB c.name seen=false)→(namesN l).Nodup→(chkF seen l k).2=0
 | [],_,_,_,_=>rfl
 | x::l,seen,k,h,hn=>by
  obtain ⟨⟨h1,h2⟩,h3⟩:=h x (by simp)
  have hn':=List.nodup_cons.1 hn
  simp only [chkF]
  rw [if_neg h1,if_neg (by simp [h2]),if_neg (by simp [h3])]
  refine chkF_ofE (fun c hc=>⟨(h c (List.mem_cons_of_mem _ hc)).1,?_⟩) hn'.2
  have h4:=(h c (List.mem_cons_of_mem _ hc)).2
  rw [Bool.eq_false_iff,ne_eq,memB_iff,List.mem_append,List.mem_singleton,not_or]
  refine ⟨fun e=>?_,fun e=>hn'.1 (List.mem_map.2 ⟨c,hc,e⟩)⟩
  rw [(memB_iff _ _).2 e] at h4;cases h4
theorem good_of {L:List Cl} (h:(checkC L).2=0):goodC L:=by
 obtain ⟨h1,h2,h3⟩:=checkC_ok h
 refine ⟨h3,fun c hc=>⟨?_,h1 c hc⟩,h2⟩
 unfold checkC at h
 split at h
 ·cases h
 ·exact chkF_wordE h c hc
theorem of_good {L:List Cl} (h:goodC L):(checkC L).2=0:=by
 unfold checkC
 rw [if_neg (fun e=>h.ne (List.eq_nil_of_length_eq_zero e))]
 exact chkF_ofE (fun c hc=>⟨h.col c hc,rfl⟩) h.nd
theorem chk_of {L:List Cl} {R:List (List Vl)} (h:goodC L) (hw:∀ r∈R,r.length=L.length):chkT ⟨L,R⟩=0:=by
 unfold chkT
 rw [if_neg (by rw [of_good h];simp),if_neg]
 have:evenF ⟨L,R⟩=true:=by
  unfold evenF
  rw [List.all_eq_true]
  exact fun r hr=>decide_eq_true (hw r hr)
 simp [this]
theorem chk_to {t:Tb} (h:chkT t=0):goodC t.L∧∀ r∈t.R,r.length=t.L.length:=by
 refine ⟨good_of (chk_cols h),?_⟩
 have:=chk_wide h
 unfold wideF at this
 rw [List.all_eq_true] at this
 exact fun r hr=>of_decide_eq_true (this r hr)
theorem tab_chk {t:Tb} {L:List Cl} {R:List (List Vl)} {e:Int} (h:(tabT L R e).2=0) (hk:e=0→chkT ⟨L,R⟩=0):chkT (tabT L R e).1=0:=by
 by_cases he:e=0
 ·subst he;exact hk rfl
 ·unfold tabT at h
  rw [if_pos he] at h
  exact absurd h he
theorem key_nodup (l:List Cl):∀ (ks seen:List ByteArray) (k:Nat),(keyF l seen ks k).2=0→ks.Nodup∧∀ n∈ks,memB n seen=false
 | [],_,_,_=>⟨List.nodup_nil,by simp⟩
 | n::ks,seen,k,h=>by
  simp only [keyF] at h
  split at h
  ·cases h
  split at h
  ·cases h
  rename_i h2
  obtain ⟨i1,i2⟩:=key_nodup l ks _ _ h
  have hm:∀ x∈ks,x≠n∧memB x seen=false:=fun x hx=>by
   have:=i2 x hx
   rw [Bool.eq_false_iff,ne_eq,memB_iff,List.mem_append,List.mem_singleton,not_or] at this
   exact ⟨this.2,by rw [Bool.eq_false_iff,ne_eq,memB_iff];exact this.1⟩
  refine ⟨List.nodup_cons.2 ⟨fun hx=>(hm n hx).1 rfl,i1⟩,fun x hx=>?_⟩
  rcases List.mem_cons.1 hx with rfl|hx
  ·simpa using h2
  ·exact (hm x hx).2
theorem hed_ok:∀ {l seen:List ByteArray} {k:Nat},(hedL seen l k).2=0→(∀ n∈l,validB n=true∧memB n seen=false)∧l.Nodup
 | [],_,_,_=>⟨by simp,List.nodup_nil⟩
 | n::l,seen,k,h=>by
  simp only [hedL] at h
  split at h
  ·cases h
  rename_i h1
  split at h
  ·cases h
  rename_i h2
  obtain ⟨i1,i2⟩:=hed_ok h
  have hm:∀ x∈l,x≠n∧memB x seen=false:=fun x hx=>by
   have:=(i1 x hx).2
   rw [Bool.eq_false_iff,ne_eq,memB_iff,List.mem_append,List.mem_singleton,not_or] at this
   exact ⟨this.2,by rw [Bool.eq_false_iff,ne_eq,memB_iff];exact this.1⟩
  refine ⟨fun x hx=>?_,List.nodup_cons.2 ⟨fun hx=>(hm n hx).1 rfl,i2⟩⟩
  rcases List.mem_cons.1 hx with rfl|hx
  ·exact ⟨by simpa using h1,by simpa using h2⟩
  ·exact ⟨(i1 x hx).1,(hm x hx).2⟩
theorem picks_col {l:List Cl} {ks:List ByteArray} (h:∀ n∈ks,foundN l n):(placesN l ks).map (fun p=>l.getD p cl0)=ks.map fun n=>(findF n l 0).1:=by
 unfold placesN
 rw [List.map_map]
 refine List.map_congr_left fun n hn=>?_
 show l.getD (placeN l n) cl0=_
 rw [List.getD_eq_getElem?_getD,(placeN_get (h n hn)).1];rfl
theorem good_picks {l:List Cl} {ks:List ByteArray} (hl:goodC l) (h0:ks≠[]) (h:∀ n∈ks,foundN l n) (hd:ks.Nodup):goodC (ks.map fun n=>(findF n l 0).1):=by
 have hn:namesN (ks.map fun n=>(findF n l 0).1)=ks:=by
  unfold namesN
  rw [List.map_map]
  conv=>rhs;rw [← List.map_id ks]
  exact List.map_congr_left fun n hn=>(placeN_get (h n hn)).2
 refine ⟨by simpa using h0,fun c hc=>?_,by rw [hn];exact hd⟩
 obtain ⟨n,hn,rfl⟩:=List.mem_map.1 hc
 exact hl.col _ (List.mem_of_getElem? (placeN_get (h n hn)).1)
theorem tells_len {L:List Cl} {g:List (List Vl)}:∀ (as:List Ag) (out:List Vl),(tellsG L g as out).2=0→(tellsG L g as out).1.length=out.length+as.length
 | [],out,_=>by simp [tellsG]
 | a::as,out,h=>by
  simp only [tellsG] at h ⊢
  by_cases h1:(tellG L a g).2=0
  ·rw [if_neg (by simp [h1])] at h ⊢
   rw [tells_len as _ h]
   simp only [List.length_append,List.length_cons,List.length_nil];omega
  ·rw [if_pos h1] at h;exact absurd h h1
theorem rowsG_wide {L:List Cl} {ps:List Nat} {as:List Ag}:∀ (gs:List (List (List Vl))) (out:List (List Vl)),(∀ r∈out,r.length=ps.length+as.length)→(rowsG L ps as gs out).2=0→∀ r∈(rowsG L ps as gs out).1,r.length=ps.length+as.length
 | [],out,h,_=>h
 | g::gs,out,h,hz=>by
  simp only [rowsG] at hz ⊢
  by_cases h1:(tellsG L g as (keysV ps g)).2=0
  ·rw [if_neg (by simp [h1])] at hz ⊢
   refine rowsG_wide gs _ (fun r hr=>?_) hz
   rcases List.mem_append.1 hr with hr|hr
   ·exact h r hr
   ·rw [List.mem_singleton.1 hr,tells_len as _ h1]
    simp [keysV]
  ·rw [if_pos h1] at hz;exact absurd hz h1
theorem word_two:wordF 2≠{ data:=#[] }:=by
 intro h
 have:=congrArg ByteArray.size h
 revert this
 decide
theorem columnG_word {L:List Cl} {a:Ag} (hl:goodC L) (h:(columnG L a).2=0):wordF (columnG L a).1.kind≠{ data:=#[] }:=by
 unfold columnG at h ⊢
 split at h
 ·cases h
 rename_i h1
 rw [if_neg h1]
 split at h
 ·rename_i h2;rw [if_pos h2];exact word_two
 rename_i h2
 rw [if_neg h2]
 split at h
 ·cases h
 rename_i h3
 rw [if_neg h3]
 split at h
 ·cases h
 rename_i h4
 rw [if_neg h4]
 split at h
 ·rename_i h5;rw [if_pos h5];exact word_two
 rename_i h5
 rw [if_neg h5]
 have hf:foundN L a.col:=by simpa [foundN] using h3
 exact (hl.col _ (List.mem_of_getElem? (placeN_get hf).1)).1
theorem good_join {a b:List Cl} {on:List Jo} {kind:Int} (h:(checkJ a b on kind).2=0):goodC (colsJ a b on kind):=by
 obtain ⟨h1,h2,h3,h4⟩:=checkJ_parts h
 have ga:=good_of h1
 have gb:=good_of h2
 by_cases hk:2<kind
 ·rw [cols_few a b on hk];exact ga
 ·have hcl:clashF a on b=false:=by
   cases hc:clashF a on b with
   | false=>rfl
   | true =>
    exfalso
    unfold checkJ at h
    rw [if_neg (by simp [h1]),if_neg (by simp [h2]),if_neg (by omega)] at h
    split at h
    ·cases h
    ·split at h
     ·rename_i h5;exact absurd h h5
     ·rw [if_pos ⟨by omega,hc⟩] at h;cases h
  have hcm:∀ c∈colsJ a b on kind,c∈a∨∃ d∈b,isR on d.name=false∧c=colJ kind d:=fun c hc=>by
   rcases List.mem_append.1 hc with hc|hc
   ·exact .inl hc
   ·obtain ⟨d,hd,hc⟩:=List.mem_flatMap.1 hc
    split at hc
    ·cases hc
    ·rename_i hn
     rw [not_or] at hn
     exact .inr ⟨d,hd,by simpa using hn.2,List.mem_singleton.1 hc⟩
  refine ⟨fun e=>ga.ne (List.append_eq_nil_iff.1 e).1,fun c hc=>?_,?_⟩
  ·rcases hcm c hc with hc|⟨d,hd,_,rfl⟩
   ·exact ga.col c hc
   ·exact gb.col d hd
  ·unfold colsJ namesN
   rw [List.map_append,List.nodup_append]
   refine ⟨ga.nd,?_,fun x hx y hy e=>?_⟩
   ·have hs:((b.flatMap fun c=>if 2<kind∨isR on c.name=true then [] else [colJ kind c]).map fun x=>x.name)=(namesN b).filter fun n=>!isR on n:=by
     unfold namesN
     clear h h1 h2 h4 hcl hcm gb
     induction b with
     | nil=>rfl
     | cons c b ih =>
      rw [List.flatMap_cons,List.map_append,ih,List.map_cons,List.filter_cons]
      by_cases hr:isR on c.name=true
      ·simp [hr]
      ·simp [hr,hk,colJ]
    rw [hs]
    exact gb.nd.sublist List.filter_sublist
   ·subst e
    obtain ⟨c,hc,e1⟩:=List.mem_map.1 hx
    obtain ⟨d,hd,e2⟩:=List.mem_map.1 hy
    obtain ⟨d',hd',hd2⟩:=List.mem_flatMap.1 hd
    split at hd2
    ·cases hd2
    ·rename_i hn
     rw [not_or] at hn
     rw [List.mem_singleton.1 hd2] at e2
     have hcf:(findF d'.name a 0).2.2=true:=by
      obtain ⟨i,hi⟩:=List.mem_iff_getElem?.1 hc
      have:=findF_at (k:=0) ga.nd hi
      rw [show d'.name=c.name from e2.trans e1.symm,this]
     have:clashF a on b=true:=by
      unfold clashF
      rw [List.any_eq_true]
      exact ⟨d',hd',by rw [hcf];simpa using hn.2⟩
     rw [hcl] at this;cases this
theorem join_wide {a b:Tb} {on:List Jo} {kind:Int} (ha:∀ r∈a.R,r.length=a.L.length):∀ r∈rowsJ a.L b.L on kind a.R b.R,r.length=(colsJ a.L b.L on kind).length:=by
 by_cases hk:2<kind
 ·rw [cols_few _ _ on hk]
  intro r hr
  obtain ⟨x,hx,hr⟩:=List.mem_flatMap.1 hr
  unfold rowJ at hr
  rw [if_pos hk,List.nil_append,if_neg (c:=kind=2∧_) (by omega),List.append_nil] at hr
  split at hr
  ·rw [List.mem_singleton.1 hr];exact ha x hx
  ·cases hr
 ·rw [cols_code _ _ on hk]
  have hb:∀ x∈a.R,∀ y:List Vl,(besideF (othersN b.L on) x y).length=(a.L++(othersN b.L on).map fun i=>colJ kind (b.L.getD i cl0)).length:=fun x hx y=>by
   simp only [besideF,List.length_append,List.length_map,ha x hx]
  intro r hr
  obtain ⟨x,hx,hr⟩:=List.mem_flatMap.1 hr
  unfold rowJ at hr
  rw [if_neg hk,if_neg (c:=_∨_) (by omega),List.nil_append] at hr
  rcases List.mem_append.1 hr with hr|hr
  ·obtain ⟨y,_,rfl⟩:=List.mem_map.1 hr
   exact hb x hx y
  ·split at hr
   ·rw [List.mem_singleton.1 hr];exact hb x hx []
   ·cases hr
theorem step_chk {t:Tb} {s:Stp} (h:(stepT t s).2=0):chkT (stepT t s).1=0:=by
 unfold stepT at h ⊢
 split at h
 ·rename_i h0;exact absurd h h0
 rename_i h0
 rw [if_neg h0]
 have hc:chkT t=0:=by simpa using h0
 obtain ⟨hg,hw⟩:=chk_to hc
 have sub:∀ {R:List (List Vl)},(∀ r∈R,r∈t.R)→chkT ⟨t.L,R⟩=0:=fun hR=>chk_of hg fun r hr=>hw r (hR r hr)
 split at h
 ·rename_i k;rw [if_pos k]
  refine tab_chk (t:=t) h fun _=>sub fun r hr=>?_
  unfold selF at hr
  split at hr
  ·cases hr
  ·split at hr
   ·cases hr
   ·exact (List.mem_filter.1 hr).1
 rename_i k;rw [if_neg k]
 split at h
 ·rename_i k;rw [if_pos k]
  refine tab_chk (t:=t) h fun _=>sub fun r hr=>?_
  unfold sortP at hr
  split at hr
  ·cases hr
  ·exact (sortF_mem _ r _).1 hr
 rename_i k;rw [if_neg k]
 split at h
 ·rename_i k;rw [if_pos k]
  exact sub fun r hr=>List.mem_of_mem_take hr
 rename_i k;rw [if_neg k]
 split at h
 ·rename_i k;rw [if_pos k]
  unfold pickP at h ⊢
  split at h
  ·cases h
  rename_i k1;rw [if_neg k1]
  split at h
  ·rename_i k2;exact absurd h k2
  rename_i k2;rw [if_neg k2]
  have k2':(keyF t.L [] s.nm 0).2=0:=by simpa using k2
  have hf:=key_found _ _ _ _ k2'
  rw [picks_col hf]
  refine chk_of (good_picks hg (fun e=>k1 (by rw [e];rfl)) hf (key_nodup _ _ _ _ k2').1) fun r hr=>?_
  obtain ⟨x,_,rfl⟩:=List.mem_map.1 hr
  simp [placesN]
 rename_i k;rw [if_neg k]
 split at h
 ·rename_i k;rw [if_pos k]
  unfold nameP at h ⊢
  split at h
  ·cases h
  rename_i k1;rw [if_neg k1]
  split at h
  ·cases h
  rename_i k2;rw [if_neg k2]
  refine tab_chk (t:=t) h fun e=>chk_of (good_of e) fun r hr=>?_
  rw [hw r hr]
  simp [renC]
 rename_i k;rw [if_neg k]
 split at h
 ·rename_i k;rw [if_pos k]
  unfold joinC at h ⊢
  split at h
  ·rename_i k1;exact absurd h k1
  rename_i k1;rw [if_neg k1]
  split at h
  ·cases h
  rename_i k2;rw [if_neg k2]
  exact chk_of (good_join (by simpa using k1)) (join_wide hw)
 rename_i k;rw [if_neg k]
 split at h
 ·rename_i k;rw [if_pos k]
  unfold groupC at h ⊢
  split at h
  ·rename_i k1;exact absurd h k1
  rename_i k1;rw [if_neg k1]
  split at h
  ·cases h
  rename_i k2;rw [if_neg k2]
  split at h
  ·rename_i k3;exact absurd h k3
  rename_i k3;rw [if_neg k3]
  obtain ⟨_,c2,c3,c4,c5⟩:=colsG_ok (by simpa using k1:(colsG t.L s.nm s.ag).2.2=0)
  have hf:=key_found _ _ _ _ c2
  have hlen:(colsG t.L s.nm s.ag).1.length=(placesN t.L s.nm).length+s.ag.length:=by
   rw [c4];simp [keyCols,placesN]
  refine chk_of ⟨fun e=>?_,fun c hc=>⟨?_,?_⟩,?_⟩ (fun r hr=>?_)
  ·unfold hedF at c5
   rw [e] at c5
   simp [namesN] at c5
  ·rw [c4] at hc
   rcases List.mem_append.1 hc with hc|hc
   ·obtain ⟨n,hn,rfl⟩:=List.mem_map.1 hc
    exact (hg.col _ (List.mem_of_getElem? (placeN_get (hf n hn)).1)).1
   ·obtain ⟨a,ha,rfl⟩:=List.mem_map.1 hc
    exact columnG_word hg (c3 a ha)
  ·unfold hedF at c5
   split at c5
   ·cases c5
   ·exact ((hed_ok c5).1 c.name (List.mem_map.2 ⟨c,hc,rfl⟩)).1
  ·unfold hedF at c5
   split at c5
   ·cases c5
   ·exact (hed_ok c5).2
  ·rw [hlen]
   exact rowsG_wide _ _ (by simp) (by simpa using k3) r hr
 rename_i k;rw [if_neg k]
 split at h
 ·rename_i k;rw [if_pos k]
  refine tab_chk (t:=t) h fun _=>sub fun r hr=>?_
  unfold uniqP at hr
  split at hr
  ·cases hr
  ·exact uniqK_mem _ _ _ _ (Nat.le_refl _) r hr
 ·cases h
end Go.LS
