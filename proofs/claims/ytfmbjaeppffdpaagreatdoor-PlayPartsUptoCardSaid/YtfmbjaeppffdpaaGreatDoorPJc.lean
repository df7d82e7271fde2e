/- A map whose values are rows of its own: what is known of it while rows are put in. -/
import Derived.Test.YtfmbjaeppffdpaaGreatDoorPJ
import Derived.Test.YtfmbjaeppffdpaaGreatDoorLD
namespace Go.LS
open Go
set_option linter.unusedSimpArgs false
set_option linter.unusedVariables false
abbrev hdD (g n cap:Nat):DV:=.v (.slice (some ⟨g,0,none⟩) n cap)
def flatO:OB→Prop
 | .bx _ _=>False
 | _=>True
def flatR (rs:List OB):Prop:=∀ o∈rs,flatO o
theorem flat_mapOB {rs:List OB} (h:flatR rs) (g:CV→CV):rs.map (mapOB g)=rs:=by
 refine (List.map_congr_left fun o ho=>?_).trans (List.map_id rs)
 have:=h o ho
 cases o<;>first|rfl|exact this.elim
theorem flat_noO {k:Nat}:∀ {rs:List OB},flatR rs→noO k rs
 | [],_=>trivial
 | o::rs,h=>by
  refine ⟨?_,flat_noO fun x hx=>h x (by simp [hx])⟩
  have:=h o (by simp)
  cases o<;>first|trivial|exact this.elim
theorem flat_refs {n:Nat} {rs:List OB} (h:flatR rs):rs.all (refsO n)=true:=by
 rw [List.all_eq_true]
 intro o ho
 have:=h o ho
 cases o<;>first|rfl|exact this.elim
theorem flat_append {a b:List OB} (ha:flatR a) (hb:flatR b):flatR (a++b):=fun o ho=>(List.mem_append.1 ho).elim (ha o) (hb o)
theorem flat_set {a:List OB} (ha:flatR a) {j:Nat} {o:OB} (ho:flatO o):flatR (a.set j o):=fun x hx=>(List.mem_or_eq_of_mem_set hx).elim (ha x) (fun e=>e ▸ ho)
structure MapP (t:Nat) (f:Nat→List DV) (ps:List Nat) (B:List (List Vl)) (es:List (ByteArray × DV)) (rs:List OB) (J:ByteArray→Nat):Prop where
 nodup:(keysM es).Nodup
 flat:flatR rs
 no:∀ m,matchIx ps m B=[]→mget es m=none
 yes:∀ m,matchIx ps m B≠[]→∃ (g cap:Nat),mget es m=some (hdD g (matchIx ps m B).length cap)∧rs[J m]?=some (.px t 1 g cap ((matchIx ps m B).map f))
 inj:∀ m m',matchIx ps m B≠[]→matchIx ps m' B≠[]→J m=J m'→m=m'
theorem MapP.start (t:Nat) (f:Nat→List DV) (ps:List Nat):MapP t f ps [] [] [] (fun _=>0) :=
 { nodup:=by simp [keysM]
   flat:=by intro o ho;cases ho
   no:=by intro _ _;rfl
   yes:=by intro m h;exact absurd (show matchIx ps m []=[] by simp [matchIx]) h
   inj:=by intro m m' h;exact absurd (show matchIx ps m []=[] by simp [matchIx]) h }
section
variable {t:Nat} {f:Nat→List DV} {ps:List Nat} {B:List (List Vl)} {es:List (ByteArray × DV)} {rs:List OB} {J:ByteArray→Nat} {y:List Vl}
theorem MapP.null (h:MapP t f ps B es rs J) (hn:nullF ps y=true):MapP t f ps (B++[y]) es rs J:=by
 have e:∀ m,matchIx ps m (B++[y])=matchIx ps m B:=fun m=>by rw [matchIx_snoc];simp [hn]
 exact ⟨h.nodup,h.flat,fun m=>by rw [e];exact h.no m,fun m=>by rw [e];exact h.yes m,fun m m'=>by rw [e,e];exact h.inj m m'⟩
theorem MapP.lt (h:MapP t f ps B es rs J) {m:ByteArray} (hm:matchIx ps m B≠[]):J m<rs.length:=by
 obtain ⟨g,cap,_,h2⟩:=h.yes m hm
 exact (List.getElem?_eq_some_iff.1 h2).1
theorem MapP.new (h:MapP t f ps B es rs J) (hn:nullF ps y=false) (h0:matchIx ps (markF [] y ps) B=[]) (tmp:OB) (ht:flatO tmp) (g cap:Nat) :
  MapP t f ps (B++[y]) (mset es (markF [] y ps) (hdD g 1 cap)) (rs++[tmp,.px t 1 g cap [f B.length]]) (fun x=>if x=markF [] y ps then rs.length+1 else J x):=by
 have e:∀ m,matchIx ps m (B++[y])=if m=markF [] y ps then [B.length] else matchIx ps m B:=by
  intro m
  rw [matchIx_snoc]
  by_cases hm:m=markF [] y ps
  ·subst hm;simp [hn,h0]
  ·rw [if_neg (fun x=>hm x.2.symm),if_neg hm,List.append_nil]
 refine ⟨mset_nodup _ _ h.nodup,flat_append h.flat (fun o ho=>?_),fun m=>?_,fun m=>?_,fun m m'=>?_⟩
 ·simp only [List.mem_cons,List.not_mem_nil,or_false] at ho
  rcases ho with rfl|rfl
  ·exact ht
  ·trivial
 ·rw [e,mget_mset]
  by_cases hm:m=markF [] y ps
  ·rw [if_pos hm];intro hx;cases hx
  ·rw [if_neg hm,if_neg (fun e=>hm e.symm)];exact h.no m
 ·rw [e,mget_mset]
  by_cases hm:m=markF [] y ps
  ·subst hm
   simp only [if_true]
   intro _
   exact ⟨g,cap,rfl,by simp⟩
  ·rw [if_neg hm,if_neg (fun e=>hm e.symm),if_neg hm]
   intro hx
   obtain ⟨g',cap',h1,h2⟩:=h.yes m hx
   exact ⟨g',cap',h1,by rw [List.getElem?_append_left (h.lt hx)];exact h2⟩
 ·rw [e,e]
  by_cases hm:m=markF [] y ps<;>by_cases hm':m'=markF [] y ps
  ·intro _ _ _;rw [hm,hm']
  ·rw [if_pos hm,if_neg hm']
   intro _ hx hj
   have:=h.lt hx
   simp only [if_pos hm,if_neg hm'] at hj
   omega
  ·rw [if_neg hm,if_pos hm']
   intro hx _ hj
   have:=h.lt hx
   simp only [if_pos hm',if_neg hm] at hj
   omega
  ·rw [if_neg hm,if_neg hm']
   simp only [if_neg hm,if_neg hm']
   exact h.inj m m'
theorem MapP.old (h:MapP t f ps B es rs J) (hn:nullF ps y=false) (h0:matchIx ps (markF [] y ps) B≠[]) (tmp:OB) (ht:flatO tmp) (g cap:Nat) :
  MapP t f ps (B++[y]) (mset es (markF [] y ps) (hdD g ((matchIx ps (markF [] y ps) B).length+1) cap)) ((rs++[tmp]).set (J (markF [] y ps)) (.px t 1 g cap ((matchIx ps (markF [] y ps) B).map f++[f B.length]))) J:=by
 have e:∀ m,matchIx ps m (B++[y])=if m=markF [] y ps then matchIx ps m B++[B.length] else matchIx ps m B:=by
  intro m
  rw [matchIx_snoc]
  by_cases hm:m=markF [] y ps
  ·subst hm;simp [hn]
  ·rw [if_neg (fun x=>hm x.2.symm),if_neg hm,List.append_nil]
 have e0:∀ m,matchIx ps m (B++[y])≠[]→matchIx ps m B≠[]:=by
  intro m
  rw [e]
  by_cases hm:m=markF [] y ps
  ·subst hm;intro _;exact h0
  ·rw [if_neg hm];exact id
 have hlt:=h.lt h0
 refine ⟨mset_nodup _ _ h.nodup,flat_set (flat_append h.flat (fun o ho=>by rw [List.mem_singleton.1 ho];exact ht)) trivial,fun m=>?_,fun m hx=>?_,fun m m' h1 h2=>h.inj m m' (e0 m h1) (e0 m' h2)⟩
 ·rw [e,mget_mset]
  by_cases hm:m=markF [] y ps
  ·rw [if_pos hm];intro hx;simp at hx
  ·rw [if_neg hm,if_neg (fun e=>hm e.symm)];exact h.no m
 ·rw [e,mget_mset]
  by_cases hm:m=markF [] y ps
  ·subst hm
   refine ⟨g,cap,by simp,?_⟩
   rw [List.getElem?_set_self (by simp;omega)]
   simp
  ·rw [if_neg hm,if_neg (fun e=>hm e.symm)]
   have hx':=e0 m hx
   obtain ⟨g',cap',h1,h2⟩:=h.yes m hx'
   refine ⟨g',cap',h1,?_⟩
   rw [List.getElem?_set_ne (fun e=>hm (h.inj m _ hx' h0 e.symm)),List.getElem?_append_left (h.lt hx')]
   exact h2
theorem mget_of_mem {m:ByteArray} {d:DV}:∀ {es:List (ByteArray × DV)},(keysM es).Nodup→(m,d)∈es→mget es m=some d
 | (k,x)::es,hn,h=>by
  simp only [keysM,List.map_cons,List.nodup_cons] at hn
  rcases List.mem_cons.1 h with h|h
  ·injection h with h1 h2;subst h1 h2;simp [mget]
  ·have hne:¬ k=m:=by
    rintro rfl
    exact hn.1 (List.mem_map_of_mem (f:=Prod.fst) h)
   simp only [mget,if_neg hne]
   exact mget_of_mem hn.2 h
def endM (f:Nat→List DV) (ps:List Nat) (B:List (List Vl)) (es:List (ByteArray × DV)):List (ByteArray × DV):=es.map fun p=>(p.1,.sl 1 ((matchIx ps p.1 B).map f))
theorem MapP.fz (h:MapP t f ps B es rs J) {ob:List OB} (hob:∀ (j:Nat) o,rs[j]?=some o→∃ k:Nat,ob[k]?=some o):FzM ob es (endM f ps B es):=by
 unfold FzM endM
 have:es=es.map fun p=>p:=by simp
 rw (config:={ occs:=.pos [1] }) [this]
 refine Fz2.of_map fun p hp=>⟨rfl,.inr ?_⟩
 have hg:=mget_of_mem (m:=p.1) (d:=p.2) h.nodup hp
 have hne:matchIx ps p.1 B≠[]:=fun e=>by rw [h.no p.1 e] at hg;cases hg
 obtain ⟨g,cap,h1,h2⟩:=h.yes p.1 hne
 rw [hg] at h1
 injection h1 with h1
 obtain ⟨k,hk⟩:=hob _ _ h2
 exact ⟨k,t,1,g,cap,_,hk,by rw [h1,List.length_map],rfl⟩
theorem mget_end (f:Nat→List DV) (ps:List Nat) (B:List (List Vl)) (m:ByteArray):∀ es:List (ByteArray × DV),mget (endM f ps B es) m=(mget es m).map fun _=>.sl 1 ((matchIx ps m B).map f)
 | []=>rfl
 | (k,x)::es=>by
  have ih:=mget_end f ps B m es
  simp only [endM,List.map_cons,mget] at ih ⊢
  by_cases hk:k=m
  ·subst hk;simp
  ·simp only [if_neg hk,ih]
theorem MapP.get (h:MapP t f ps B es rs J) (m:ByteArray):(matchIx ps m B=[]∧mget (endM f ps B es) m=none)∨mget (endM f ps B es) m=some (.sl 1 ((matchIx ps m B).map f)):=by
 rw [mget_end]
 by_cases hm:matchIx ps m B=[]
 ·exact .inl ⟨hm,by rw [h.no m hm];rfl⟩
 ·obtain ⟨g,cap,h1,_⟩:=h.yes m hm
  exact .inr (by rw [h1];rfl)
end
end Go.LS
