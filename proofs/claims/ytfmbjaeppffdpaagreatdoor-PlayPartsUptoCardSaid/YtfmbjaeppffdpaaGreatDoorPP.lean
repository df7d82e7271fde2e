/- Part PP: 4 texts,one behind the other. -/
import Derived.Test.YtfmbjaeppffdpaaGreatDoorPG
import Derived.Test.YtfmbjaeppffdpaaGreatDoorPJ
import Derived.Test.YtfmbjaeppffdpaaGreatDoorPA
import Derived.Test.YtfmbjaeppffdpaaGreatDoorPK
/- Steps,and what they make of a table. -/
namespace Go.LS
open Go
set_option linter.unusedSimpArgs false
set_option linter.unusedVariables false
structure Stp where
 kind:Int
 q:Nd
 ks:List Ky
 n:Int
 nm:List ByteArray
 w:Tb
 on:List Jo
 how:Int
 ag:List Ag
def eSt (s:Stp):List DV:=[.v (.int .i64 s.kind),.v (.int .i64 s.q.op),.v (.string s.q.col),.v (.int .i64 s.q.v.k),.v (.string s.q.v.s),.v (.int .i64 s.q.v.n),.v (.bool s.q.v.b),.sl 4 (s.q.l.map eV),.sl 8 (s.q.ks.map eN),
 .sl 2 (s.ks.map eK),.v (.int .i64 s.n),.sl 1 (s.nm.map eS),.sl 3 (s.w.L.map eC),.sl 1 (s.w.R.map eR),.sl 2 (s.on.map eJo),.v (.int .i64 s.how),.sl 3 (s.ag.map eAg)]
@[push_cast] theorem eSt_eq (s:Stp):eSt s=[.v (.int .i64 s.kind),.v (.int .i64 s.q.op),.v (.string s.q.col),.v (.int .i64 s.q.v.k),.v (.string s.q.v.s),.v (.int .i64 s.q.v.n),.v (.bool s.q.v.b),.sl 4 (s.q.l.map eV),.sl 8 (s.q.ks.map eN),
 .sl 2 (s.ks.map eK),.v (.int .i64 s.n),.sl 1 (s.nm.map eS),.sl 3 (s.w.L.map eC),.sl 1 (s.w.R.map eR),.sl 2 (s.on.map eJo),.v (.int .i64 s.how),.sl 3 (s.ag.map eAg)]:=rfl
def eRSt (s:Stp):List DV:=[.v (.int .i64 s.kind),.v (.int .i64 s.q.op),.v (.string s.q.col),.v (.int .i64 s.q.v.k),.v (.string s.q.v.s),.v (.int .i64 s.q.v.n),.v (.int .i64 (bi s.q.v.b)),.sl 4 (s.q.l.map eRV),.sl 8 (s.q.ks.map eRN),
 .sl 2 (s.ks.map eRK),.v (.int .i64 s.n),.sl 1 (s.nm.map eS),.sl 3 (s.w.L.map eRC),.sl 1 (s.w.R.map eRR),.sl 2 (s.on.map eJo),.v (.int .i64 s.how),.sl 3 (s.ag.map eAg)]
@[push_cast] theorem eRSt_eq (s:Stp):eRSt s=[.v (.int .i64 s.kind),.v (.int .i64 s.q.op),.v (.string s.q.col),.v (.int .i64 s.q.v.k),.v (.string s.q.v.s),.v (.int .i64 s.q.v.n),.v (.int .i64 (bi s.q.v.b)),.sl 4 (s.q.l.map eRV),.sl 8 (s.q.ks.map eRN),
 .sl 2 (s.ks.map eRK),.v (.int .i64 s.n),.sl 1 (s.nm.map eS),.sl 3 (s.w.L.map eRC),.sl 1 (s.w.R.map eRR),.sl 2 (s.on.map eJo),.v (.int .i64 s.how),.sl 3 (s.ag.map eAg)]:=rfl
structure okStp (s:Stp):Prop where
 kind:inK .i64 s.kind
 q:okNd s.q
 ks:okLen s.ks
 n:inK .i64 s.n
 nm:okLen s.nm
 w:okT0 s.w
 on:okLen s.on
 how:inK .i64 s.how
 ag:okLen s.ag
 tot:s.ks.length+2*s.on.length+2*s.ag.length≤1099511627776
def namesB (l:List ByteArray):Bool:=l.all (fun s=>decide (s.size≤60)) && decide (l.length≤12)
def colsK (ks:List Ky):List ByteArray:=ks.map fun k=>k.col
def colsO (on:List Jo):List ByteArray:=on.flatMap fun o=>[o.l,o.r]
def colsA (ag:List Ag):List ByteArray:=ag.flatMap fun a=>[a.col,a.nm]
def shortB (s:Stp):Bool:=namesB (colsK s.ks++colsO s.on++colsA s.ag) && (namesB s.nm && (decide (cnt s.q≤120) && (fewT s.w && decide (s.w.R.length≤4))))
def joinsN (l:List Stp):Nat:=(l.filter fun s=>decide (s.kind=6)).length
def fewB (t:Tb) (l:List Stp):Bool:=l.all shortB && (fewT t && (decide (l.length≤5) && decide (joinsN l≤2)))
theorem colsO_len (on:List Jo):(colsO on).length=2*on.length:=by
 unfold colsO
 induction on with
 | nil=>rfl
 | cons o on ih=>simp only [List.flatMap_cons,List.length_append,List.length_cons,List.length_nil,ih];omega
theorem colsA_len (ag:List Ag):(colsA ag).length=2*ag.length:=by
 unfold colsA
 induction ag with
 | nil=>rfl
 | cons o on ih=>simp only [List.flatMap_cons,List.length_append,List.length_cons,List.length_nil,ih];omega
theorem colsO_take {on:List Jo} {k:Nat} {o:Jo} (h:on[k]?=some o):colsO (on.take (k+1))=colsO (on.take k)++[o.l,o.r]:=by
 unfold colsO
 rw [List.take_add_one,h,Option.toList_some,List.flatMap_append]
 simp
theorem colsA_take {ag:List Ag} {k:Nat} {a:Ag} (h:ag[k]?=some a):colsA (ag.take (k+1))=colsA (ag.take k)++[a.col,a.nm]:=by
 unfold colsA
 rw [List.take_add_one,h,Option.toList_some,List.flatMap_append]
 simp
theorem joins_take {l:List Stp} {k:Nat} {s:Stp} (h:l[k]?=some s):joinsN (l.take (k+1))=joinsN (l.take k)+if s.kind=6 then 1 else 0:=by
 unfold joinsN
 rw [filterTake h,List.length_append]
 by_cases h6:s.kind=6<;>simp [h6]
theorem joins_le (l:List Stp):joinsN l≤l.length:=List.length_filter_le _ _
/-! ### What a step makes -/
def tb0:Tb:=⟨[],[]⟩
def chkT (t:Tb):Int:=if (checkC t.L).2≠0 then (checkC t.L).2 else if evenF t=false then 10 else 0
def tabT (l:List Cl) (r:List (List Vl)) (e:Int):Tb × Int:=if e≠0 then (tb0,e) else (⟨l,r⟩,0)
def sortP (ks:List Ky) (l:List Cl) (rows:List (List Vl)):List (List Vl) × Int :=
 if (placesR ks l [rows]).2≠0 then ([],(placesR ks l [rows]).2) else (sortF (ordF (placesF ks l)) rows,0)
def uniqP (ks:List Ky) (l:List Cl) (rows:List (List Vl)):List (List Vl) × Int :=
 if (placesR ks l [rows]).2≠0 then ([],(placesR ks l [rows]).2) else (uniqK (ordF (placesF ks l)) [] rows rows.length,0)
def pickP (t:Tb) (ns:List ByteArray):Tb × Int :=
 if ns.length=0 then (tb0,13) else if (keyF t.L [] ns 0).2≠0 then (tb0,(keyF t.L [] ns 0).2)
 else (⟨(placesN t.L ns).map fun p=>t.L.getD p cl0,t.R.map fun r=>(placesN t.L ns).map (vAt r)⟩,0)
def renC (l:List Cl) (p:Nat) (n:ByteArray):List Cl:=l.set p ⟨n,(l.getD p cl0).kind,(l.getD p cl0).null⟩
def nameP (t:Tb) (ns:List ByteArray):Tb × Int :=
 if ns.length≠2 then (tb0,22) else if (findF (ns.getD 0 ByteArray.empty) t.L 0).2.2=false then (tb0,16)
 else tabT (renC t.L (placeN t.L (ns.getD 0 ByteArray.empty)) (ns.getD 1 ByteArray.empty)) t.R (checkC (renC t.L (placeN t.L (ns.getD 0 ByteArray.empty)) (ns.getD 1 ByteArray.empty))).2
def stepT (t:Tb) (s:Stp):Tb × Int :=
 if chkT t≠0 then (tb0,chkT t)
 else if s.kind=1 then tabT t.L (selF s.q t.L t.R).1 (selF s.q t.L t.R).2
 else if s.kind=2 then tabT t.L (sortP s.ks t.L t.R).1 (sortP s.ks t.L t.R).2
 else if s.kind=3 then (⟨t.L,t.R.take (max 0 (min s.n t.R.length)).toNat⟩,0)
 else if s.kind=4 then pickP t s.nm
 else if s.kind=5 then nameP t s.nm
 else if s.kind=6 then joinC t s.w s.on s.how
 else if s.kind=7 then groupC t s.nm s.ag
 else if s.kind=8 then tabT t.L (uniqP s.ks t.L t.R).1 (uniqP s.ks t.L t.R).2
 else (tb0,22)
def runT (t:Tb):List Stp→Nat→Tb × Nat × Int
 | [],i=>(t,i,0)
 | s::l,i=>if (stepT t s).2≠0 then (tb0,i,(stepT t s).2) else runT (stepT t s).1 l (i+1)
def runA (t:Tb) (l:List Stp):Tb × Nat × Int:=if l.length=0 then ((tabT t.L t.R (chkT t)).1,0,(tabT t.L t.R (chkT t)).2) else runT t l 0
structure okG (t:Tb):Prop where
 ok:okT2 t
 cl:t.L.length≤900
 rl:t.R.length≤200
 sl:t.R.length<20
structure okH (s:Stp):Prop where
 ok:okStp s
 nl:s.nm.length≤12
 nz:∀ n∈s.nm,n.size≤60
 ol:s.on.length≤12
 al:s.ag.length≤12
 az:∀ a∈s.ag,a.nm.size≤1099511627776
 w2:okT2 s.w
 wl:s.w.L.length≤12
 wr:s.w.R.length≤4
theorem okG.zero:okG tb0:=⟨⟨⟨by simp [tb0,okLen],by simp [tb0]⟩,by simp [tb0,okLen],by simp [tb0],by simp [tb0]⟩,by simp [tb0],by simp [tb0],by simp [tb0]⟩
open Go
set_option linter.unusedSimpArgs false
set_option linter.unusedVariables false
theorem halves (n:Int):(n.tmod 4294967296<0→n.tdiv 4294967296 - 1=n / 4294967296∧n.tmod 4294967296+4294967296=n % 4294967296) ∧
  (¬ n.tmod 4294967296<0→n.tdiv 4294967296=n / 4294967296∧n.tmod 4294967296=n % 4294967296):=by
 have h1:=Int.mul_tdiv_add_tmod n 4294967296
 have h2:=Int.tmod_lt_of_pos n (show (0:Int)<4294967296 by decide)
 have h3:=Int.lt_tmod_of_pos n (show (0:Int)<4294967296 by decide)
 generalize n.tdiv 4294967296=q at *
 generalize n.tmod 4294967296=r at *
 constructor
 ·intro h;omega
 ·intro h;omega
theorem tdiv_pos {n:Int} (h:0≤n):n.tdiv 4294967296=n / 4294967296∧n.tmod 4294967296=n % 4294967296 :=
 (halves n).2 (by have:=Int.tmod_nonneg 4294967296 h;omega)
theorem sumI_snoc (l:List Int) (x:Int):sumI (l++[x])=sumI l+x:=by
 induction l with
 | nil=>simp [sumI]
 | cons y l ih=>simp only [List.cons_append,sumI,ih];omega
theorem sumI_take {l:List Int} {k:Nat} {x:Int} (h:l[k]?=some x):sumI (l.take (k+1))=sumI (l.take k)+x:=by
 rw [List.take_add_one,h,Option.toList_some,sumI_snoc]
theorem sumI_bd:∀ {l:List Int},(∀ x∈l,inK .i64 x)→-9223372036854775808*(l.length:Int)≤sumI l∧sumI l≤9223372036854775808*(l.length:Int)
 | [],_=>by simp [sumI]
 | x::l,h=>by
  have ih:=sumI_bd (l:=l) fun y hy=>h y (by simp [hy])
  have hx:=h x (by simp)
  have hx1:-9223372036854775808≤x:=hx.1
  have hx2:x≤9223372036854775807:=hx.2
  simp only [sumI,List.length_cons]
  omega
def keptV (op:Int):List Vl→Vl
 | []=>vl0
 | v::l=>if op=4 then bestV 1 l v else if op=5 then bestV (-1) l v else v
theorem best_snoc (sg:Int):∀ (l:List Vl) (m x:Vl),bestV sg (l++[x]) m=if sg*cmpF x (bestV sg l m)<0 then x else bestV sg l m
 | [],m,x=>rfl
 | v::l,m,x=>by simp only [List.cons_append,bestV];exact best_snoc sg l _ x
theorem kept_snoc (op:Int) (l:List Vl) (x:Vl):keptV op (l++[x])=if l.length=0∨(op=4∧cmpF x (keptV op l)<0)∨(op=5∧0<cmpF x (keptV op l)) then x else keptV op l:=by
 cases l with
 | nil=>simp [keptV,bestV]
 | cons v l =>
  simp only [List.cons_append,keptV,List.length_cons]
  by_cases h4:op=4
  ·subst h4
   simp [best_snoc]
  ·by_cases h5:op=5
   ·subst h5
    simp [best_snoc]
   ·simp [h4,h5]
theorem some_snoc (p:Nat) (g:List (List Vl)) (r:List Vl):someV p (g++[r])=someV p g++if (vAt r p).k=0 then [] else [vAt r p]:=by
 unfold someV
 rw [List.map_append,List.filter_append]
 congr 1
 by_cases h:(vAt r p).k=0<;>simp [h]
theorem some_take {p:Nat} {g:List (List Vl)} {k:Nat} {r:List Vl} (h:g[k]?=some r):someV p (g.take (k+1))=someV p (g.take k)++if (vAt r p).k=0 then [] else [vAt r p]:=by
 rw [List.take_add_one,h];exact some_snoc p _ r
theorem some_len (p:Nat) (g:List (List Vl)):(someV p g).length≤g.length:=by
 unfold someV
 have:=List.length_filter_le (fun v:Vl=>!decide (v.k=0)) (g.map fun r=>vAt r p)
 rw [List.length_map] at this
 exact this
def toldF (op:Int) (W:List Vl):Vl × Int :=
 if op=2 then (intV W.length,0) else if op≠3∨W.length=0 then (keptV op W,0)
 else if (sumG (W.map fun v=>v.n)).2≠0 then (vl0,(sumG (W.map fun v=>v.n)).2) else (intV (sumG (W.map fun v=>v.n)).1,0)
theorem tellG_doc {L:List Cl} {a:Ag} {g:List (List Vl)} (hg:∀ r∈g,∀ v∈r,rightF v=true) (h2:2≤a.op) (h5:a.op≤5) :
  tellG L a g=toldF a.op (someV (placeN L a.col) g):=by
 have hr:∀ v∈someV (placeN L a.col) g,rightF v=true:=fun v hv=>by
  obtain ⟨r,hr,rfl⟩:=List.mem_map.1 (List.mem_filter.1 hv).1
  exact vAt_right (hg r hr) _
 unfold tellG toldF
 rw [if_neg (by omega),if_neg (by omega)]
 by_cases e2:a.op=2
 ·rw [if_pos e2,if_pos e2]
 ·rw [if_neg e2,if_neg e2]
  cases he:someV (placeN L a.col) g with
  | nil=>simp [keptV]
  | cons v l =>
   rw [he] at hr
   have hs:=nums_right hr
   simp only [sumG,hs,keptV]
   by_cases h3:a.op=3
   ·simp [h3]
   ·by_cases h4:a.op=4
    ·simp [h4]
    ·have h5:a.op=5:=by omega
     simp [h5]
theorem sum_hi (S:Int):(S / 4294967296 < -2147483648∨2147483647<S / 4294967296)↔¬ (-9223372036854775808≤S∧S≤9223372036854775807):=by omega
theorem column_op {L:List Cl} {a:Ag} (h:(columnG L a).2=0):1≤a.op∧a.op≤6:=by
 by_cases h0:a.op<1∨6<a.op
 ·unfold columnG at h
  rw [if_pos (.inl h0)] at h
  cases h
 ·omega
open Go
set_option linter.unusedSimpArgs false
set_option linter.unusedVariables false
def goodV (v:Vl):Prop:=okV2 v∧rightF v=true
def goodR (r:List Vl):Prop:=∀ v∈r,goodV v
theorem goodV_zero:goodV vl0:=⟨⟨by simp [vl0],inK64 (by simp [vl0]) (by simp [vl0])⟩,rfl⟩
theorem goodV_at {r:List Vl} (h:goodR r) (p:Nat):goodV (vAt r p):=by
 unfold vAt
 rw [List.getD_eq_getElem?_getD]
 cases hp:r[p]? with
 | none=>exact goodV_zero
 | some v=>exact h v (List.mem_of_getElem? hp)
theorem goodV_int {n:Int} (h1:-9223372036854775808≤n) (h2:n≤9223372036854775807):goodV (intV n):=⟨⟨by simp [intV],inK64 h1 h2⟩,right_int n⟩
theorem okT2.good {t:Tb} (h:okT2 t):∀ r∈t.R,goodR r:=fun r hr v hv=>⟨(h.v r hr).2 v hv,h.right r hr v hv⟩
theorem okT2_mk {L:List Cl} {R:List (List Vl)} (hl:okCl L) (hr:okLen R) (hw:∀ r∈R,okLen r) (hg:∀ r∈R,goodR r):okT2 ⟨L,R⟩ :=
 ⟨hl,hr,fun r h=>⟨hw r h,fun v hv=>(hg r h v hv).1⟩,fun r h v hv=>(hg r h v hv).2⟩
theorem best_mem (sg:Int):∀ (l:List Vl) (m:Vl),bestV sg l m=m∨bestV sg l m∈l
 | [],m=>.inl rfl
 | v::l,m=>by
  simp only [bestV]
  rcases best_mem sg l (if sg*cmpF v m<0 then v else m) with h|h
  ·rw [h]
   split
   ·exact .inr (by simp)
   ·exact .inl rfl
  ·exact .inr (by simp [h])
theorem tell_good {L:List Cl} {a:Ag} {g:List (List Vl)} (hg:∀ r∈g,goodR r) (hl:g.length≤100000):goodV (tellG L a g).1:=by
 unfold tellG
 split
 ·exact goodV_int (by omega) (by omega)
 ·split
  ·split
   ·exact goodV_zero
   ·rename_i h
    refine goodV_at ?_ _
    cases g with
    | nil=>exact absurd rfl h
    | cons x l=>exact hg x (by simp)
  ·split
   ·have:=some_len (placeN L a.col) g
    exact goodV_int (by omega) (by omega)
   ·have hm:∀ v∈someV (placeN L a.col) g,goodV v:=fun v hv=>by
     obtain ⟨r,hr,rfl⟩:=List.mem_map.1 (List.mem_filter.1 hv).1
     exact goodV_at (hg r hr) _
    split
    ·exact goodV_zero
    ·rename_i v l he
     rw [he] at hm
     split
     ·rcases best_mem 1 l v with h|h
      ·rw [h];exact hm v (by simp)
      ·exact hm _ (by simp [h])
     ·split
      ·rcases best_mem (-1) l v with h|h
       ·rw [h];exact hm v (by simp)
       ·exact hm _ (by simp [h])
      ·split
       ·exact goodV_zero
       ·unfold sumG
        split
        ·rename_i h;exact goodV_int h.1 h.2
        ·exact goodV_int (by decide) (by decide)
theorem tells_good {L:List Cl} {g:List (List Vl)} (hg:∀ r∈g,goodR r) (hl:g.length≤100000):∀ (as:List Ag) (out:List Vl),goodR out→goodR (tellsG L g as out).1∧(tellsG L g as out).1.length≤out.length+as.length
 | [],out,h=>⟨h,by simp [tellsG]⟩
 | a::as,out,h=>by
  simp only [tellsG]
  split
  ·exact ⟨by intro v hv;simp at hv,by simp⟩
  ·have:=tells_good (L:=L) hg hl as (out++[(tellG L a g).1]) (fun v hv=>by
    rcases List.mem_append.1 hv with hv|hv
    ·exact h v hv
    ·rw [List.mem_singleton.1 hv];exact tell_good hg hl)
   refine ⟨this.1,?_⟩
   have:=this.2
   simp only [List.length_append,List.length_cons,List.length_nil] at this ⊢
   omega
theorem rows_good {L:List Cl} {ps:List Nat} {as:List Ag}:∀ (gs:List (List (List Vl))) (out:List (List Vl)),(∀ g∈gs,(∀ r∈g,goodR r)∧g.length≤100000)→(∀ r∈out,goodR r∧r.length≤ps.length+as.length) →
  (∀ r∈(rowsG L ps as gs out).1,goodR r∧r.length≤ps.length+as.length)∧(rowsG L ps as gs out).1.length≤out.length+gs.length
 | [],out,_,h=>⟨h,by simp [rowsG]⟩
 | g::gs,out,hg,h=>by
  simp only [rowsG]
  split
  ·exact ⟨by intro v hv;simp at hv,by simp⟩
  ·obtain ⟨hg1,hg2⟩:=hg g (by simp)
   have hk:goodR (keysV ps g):=fun v hv=>by
    obtain ⟨p,_,rfl⟩:=List.mem_map.1 hv
    refine goodV_at ?_ p
    cases g with
    | nil=>intro v hv;cases hv
    | cons x l=>exact hg1 x (by simp)
   have ht:=tells_good (L:=L) hg1 hg2 as (keysV ps g) hk
   have hkl:(keysV ps g).length=ps.length:=by simp [keysV]
   have:=rows_good (L:=L) gs (out++[(tellsG L g as (keysV ps g)).1]) (fun g h=>hg g (by simp [h])) (fun r hr=>by
    rcases List.mem_append.1 hr with hr|hr
    ·exact h r hr
    ·rw [List.mem_singleton.1 hr];exact ⟨ht.1,by have:=ht.2;omega⟩)
   refine ⟨this.1,?_⟩
   have:=this.2
   simp only [List.length_append,List.length_cons,List.length_nil] at this ⊢
   omega
theorem beside_good {ps:List Nat} {x y:List Vl} (hx:goodR x) (hy:goodR y):goodR (besideF ps x y):=fun v hv=>by
 rcases List.mem_append.1 hv with hv|hv
 ·exact hx v hv
 ·obtain ⟨p,_,rfl⟩:=List.mem_map.1 hv
  exact goodV_at hy p
theorem colsJ_name {a b:List Cl} {on:List Jo} {kind:Int} {B:Nat} (ha:∀ c∈a,c.name.size≤B) (hb:∀ c∈b,c.name.size≤B):∀ c∈colsJ a b on kind,c.name.size≤B:=by
 intro c hc
 rcases List.mem_append.1 hc with hc|hc
 ·exact ha c hc
 ·obtain ⟨d,hd,h⟩:=List.mem_flatMap.1 hc
  split at h
  ·cases h
  ·rw [List.mem_singleton.1 h];exact hb d hd
theorem uniqK_mem' {α:Type} (f:α→α→Int) (d:α) (rows:List α):∀ x∈uniqK f d rows rows.length,x∈rows:=uniqK_mem f d rows rows.length (Nat.le_refl _)
structure nextG (t:Tb) (s:Stp) (u:Tb):Prop where
 ok:okT2 u
 cl:u.L.length≤t.L.length+24
 rl:u.R.length≤if s.kind=6 then t.R.length*5 else t.R.length+1
theorem nextG.none (t:Tb) (s:Stp):nextG t s tb0:=⟨okG.zero.ok,by simp [tb0],by simp [tb0]⟩
theorem nextG.tab {t:Tb} {s:Stp} {R:List (List Vl)} {e:Int} (ht:okT2 t) (hR:∀ r∈R,r∈t.R) (hl:R.length≤t.R.length) (hn:s.kind≠6):nextG t s (tabT t.L R e).1:=by
 unfold tabT
 split
 ·exact nextG.none t s
 ·have:=ht.r
  refine ⟨okT2_mk ht.l (by simp only [okLen] at *;omega) (fun r hr=>(ht.v r (hR r hr)).1) (fun r hr=>ht.good r (hR r hr)),by simp only;omega,by simp only;rw [if_neg hn];omega⟩
theorem step_good {t:Tb} {s:Stp} (ht:okT2 t) (hL:t.L.length≤900) (hR:t.R.length≤1000) (hs:okH s):nextG t s (stepT t s).1:=by
 have hr:=ht.r
 unfold stepT
 split
 ·exact nextG.none t s
 ·split
  ·rename_i h1
   refine nextG.tab ht ?_ ?_ (by omega)
   ·intro r hr
    unfold selF at hr
    split at hr
    ·cases hr
    ·split at hr
     ·cases hr
     ·exact (List.mem_filter.1 hr).1
   ·unfold selF
    split
    ·simp
    ·split
     ·simp
     ·exact List.length_filter_le _ _
  ·split
   ·refine nextG.tab ht ?_ ?_ (by omega)
    ·intro r hr
     unfold sortP at hr
     split at hr
     ·cases hr
     ·exact (sortF_mem _ _ _).1 hr
    ·unfold sortP
     split
     ·simp
     ·simp [sortF_len]
   ·split
    ·refine ⟨okT2_mk ht.l (by simp only [okLen,List.length_take] at *;omega) (fun r hr=>(ht.v r (List.mem_of_mem_take hr)).1) (fun r hr=>ht.good r (List.mem_of_mem_take hr)),by simp only;omega,?_⟩
     simp only [List.length_take]
     rw [if_neg (by omega)];omega
    ·split
     ·rename_i h4
      unfold pickP
      split
      ·exact nextG.none t s
      ·split
       ·exact nextG.none t s
       ·rename_i hk
        have hf:=key_found t.L s.nm [] 0 (by simpa using hk)
        have hp:=placesN_lt hf
        have hpl:(placesN t.L s.nm).length=s.nm.length:=by simp [placesN]
        have hnl:=hs.nl
        refine ⟨okT2_mk ⟨by simp only [okLen,List.length_map];omega,fun c hc=>?_⟩ (by simp only [okLen,List.length_map] at *;omega) (fun r hr=>?_) (fun r hr=>?_),by simp only [List.length_map];omega,?_⟩
        ·obtain ⟨p,hp1,rfl⟩:=List.mem_map.1 hc
         have:=hp p hp1
         rw [List.getD_eq_getElem?_getD,List.getElem?_eq_getElem this]
         exact ht.l.2 _ (List.getElem_mem this)
        ·obtain ⟨x,_,rfl⟩:=List.mem_map.1 hr
         simp only [okLen,List.length_map];omega
        ·obtain ⟨x,hx,rfl⟩:=List.mem_map.1 hr
         intro v hv
         obtain ⟨p,_,rfl⟩:=List.mem_map.1 hv
         exact goodV_at (ht.good x hx) p
        ·simp only [List.length_map]
         rw [if_neg (by omega)];omega
     ·split
      ·rename_i h5
       unfold nameP
       split
       ·exact nextG.none t s
       ·split
        ·exact nextG.none t s
        ·rename_i hn hf
         have hn':s.nm.length=2:=by simpa using hn
         have hs1:(s.nm.getD 1 ByteArray.empty).size≤1099511627776:=by
          rw [List.getD_eq_getElem?_getD,List.getElem?_eq_getElem (show 1<s.nm.length by omega)]
          have:=hs.nz _ (List.getElem_mem (show 1<s.nm.length by omega))
          simp only [Option.getD_some];omega
         unfold tabT
         split
         ·exact nextG.none t s
         ·refine ⟨okT2_mk ⟨?_,fun c hc=>?_⟩ hr (fun r hr=>(ht.v r hr).1) ht.good,?_,?_⟩
          ·simp only [okLen,renC,List.length_set];omega
          ·rcases List.mem_or_eq_of_mem_set hc with h|h
           ·exact ht.l.2 c h
           ·subst h;exact hs1
          ·simp only [renC,List.length_set];omega
          ·simp only;rw [if_neg (by omega)];omega
      ·split
       ·rename_i h6
        unfold joinC
        split
        ·exact nextG.none t s
        ·split
         ·exact nextG.none t s
         ·have hwl:=hs.wl
          have hwr:=hs.wr
          have h1:=colsJ_len t.L s.w.L s.on s.how
          have h2:=rowsJ_len t.L s.w.L s.on s.how s.w.R t.R
          have h3:t.R.length*(s.w.R.length+1)≤t.R.length*5:=Nat.mul_le_mul_left _ (by omega)
          rename_i hev
          have hx:∀ x∈t.R,x.length=t.L.length:=by
           cases e:evenF t with
           | false=>exact absurd (.inl e) hev
           | true=>simpa [evenF] using e
          have hb:∀ x∈t.R,∀ y:List Vl,(besideF (othersN s.w.L s.on) x y).length≤912:=fun x hx1 y=>by
           have:=others_len s.w.L s.on
           simp only [besideF,List.length_append,List.length_map,hx x hx1];omega
          have hgr:=rowsJ_all (P:=fun r=>goodR r∧r.length≤912) (a:=t.L) (b:=s.w.L) (on:=s.on) (kind:=s.how) (A:=t.R) (B:=s.w.R) (fun x h=>⟨ht.good x h,by rw [hx x h];omega⟩) (fun x hx y hy=>⟨beside_good (ht.good x hx) (hs.w2.good y hy),hb x hx y⟩) (fun x hx=>⟨beside_good (ht.good x hx) (fun v hv=>by cases hv),hb x hx []⟩)
          refine ⟨okT2_mk ⟨by simp only [okLen];omega,colsJ_name ht.l.2 hs.w2.l.2⟩ (by simp only [okLen];omega) (fun r hr=>by have:=(hgr r hr).2;simp only [okLen];omega) (fun r hr=>(hgr r hr).1),by simp only;omega,?_⟩
          simp only
          rw [if_pos h6];omega
       ·split
        ·rename_i h7
         unfold groupC
         split
         ·exact nextG.none t s
         ·split
          ·exact nextG.none t s
          ·split
           ·exact nextG.none t s
           ·have hnl:=hs.nl
            have hal:=hs.al
            have hpl:(placesN t.L s.nm).length=s.nm.length:=by simp [placesN]
            have hcl:=colsG_len t.L s.nm s.ag
            have hgl:=partC_len (placesN t.L s.nm) t.R
            have hrg:=rows_good (L:=t.L) (ps:=placesN t.L s.nm) («as»:=s.ag) (partC (placesN t.L s.nm) t.R) [] (fun g hg=>⟨fun r hr=>ht.good r ((partC_mem hg).2.2 r hr),by have:=(partC_mem hg).2.1;omega⟩) (fun r hr=>by cases hr)
            have hrl:=hrg.2
            simp only [List.length_nil] at hrl
            refine ⟨okT2_mk ⟨by simp only [okLen];omega,colsG_name ht.l.2 hs.az⟩ (by simp only [okLen];omega) (fun r hr=>by have:=(hrg.1 r hr).2;simp only [okLen];omega) (fun r hr=>(hrg.1 r hr).1),by simp only;omega,?_⟩
            simp only
            rw [if_neg (by omega)];omega
        ·split
         ·refine nextG.tab ht ?_ ?_ (by omega)
          ·intro r hr
           unfold uniqP at hr
           split at hr
           ·cases hr
           ·exact uniqK_mem' _ _ _ r hr
          ·unfold uniqP
           split
           ·simp
           ·exact uniqK_len _ _ _ _
         ·exact nextG.none t s
open Go
set_option linter.unusedSimpArgs false
set_option linter.unusedVariables false
structure okQ (t:Tb):Prop where
 ok:okT2 t
 cl:t.L.length≤900
 rl:t.R.length≤500
structure wayQ (l:List Stp) (i:Nat) (t:Tb):Prop where
 ok:okT2 t
 cl:t.L.length≤12+24*i
 rl:t.R.length≤(12+i)*5 ^ joinsN (l.take i)
theorem joins_mono (l:List Stp) (i:Nat):joinsN (l.take i)≤joinsN l:=by
 have h:joinsN l=joinsN (l.take i)+joinsN (l.drop i):=by
  unfold joinsN
  rw [← List.length_append,← List.filter_append,List.take_append_drop]
 omega
theorem five2 {j:Nat} (h:j≤2):5 ^ j≤25:=by
 match j,h with
 | 0,_=>decide
 | 1,_=>decide
 | 2,_=>decide
theorem wayQ.q {l:List Stp} {i:Nat} {t:Tb} (h:wayQ l i t) (hi:i≤5) (hj:joinsN l≤2):okQ t:=by
 refine ⟨h.ok,by have:=h.cl;omega,?_⟩
 have h1:=h.rl
 have h2:=five2 (Nat.le_trans (joins_mono l i) hj)
 have h3:(12+i)*5 ^ joinsN (l.take i)≤17*25:=Nat.mul_le_mul (by omega) h2
 omega
theorem wayQ.six {l:List Stp} {i:Nat} {t:Tb} {s:Stp} (h:wayQ l i t) (hi:i≤5) (hj:joinsN l≤2) (hs:l[i]?=some s) (h6:s.kind=6):t.R.length≤200:=by
 have h1:=h.rl
 have h2:=joins_take hs
 rw [if_pos h6] at h2
 have h3:=joins_mono l (i+1)
 have h4:joinsN (l.take i)≤1:=by omega
 have h5:5 ^ joinsN (l.take i)≤5:=by
  match joinsN (l.take i),h4 with
  | 0,_=>decide
  | 1,_=>decide
 have h6:(12+i)*5 ^ joinsN (l.take i)≤17*5:=Nat.mul_le_mul (by omega) h5
 omega
theorem wayQ.next {l:List Stp} {i:Nat} {t:Tb} {s:Stp} (h:wayQ l i t) (hi:i<5) (hj:joinsN l≤2) (hs:l[i]?=some s) (ho:okH s):wayQ l (i+1) (stepT t s).1:=by
 have hq:=h.q (by omega) hj
 have hg:=step_good h.ok hq.cl (by have:=hq.rl;omega) ho
 refine ⟨hg.ok,by have:=hg.cl;have:=h.cl;omega,?_⟩
 have h1:=hg.rl
 have h2:=joins_take hs
 have h3:=h.rl
 rw [h2]
 by_cases h6:s.kind=6
 ·rw [if_pos h6] at h1 ⊢
  have h4:t.R.length*5≤(12+i)*5 ^ joinsN (l.take i)*5:=Nat.mul_le_mul_right 5 h3
  have h5:(12+i)*5 ^ joinsN (l.take i)*5=(12+i)*5 ^ (joinsN (l.take i)+1):=by rw [Nat.mul_assoc,← Nat.pow_succ]
  have h7:(12+i)*5 ^ (joinsN (l.take i)+1)≤(12+(i+1))*5 ^ (joinsN (l.take i)+1):=Nat.mul_le_mul_right _ (by omega)
  omega
 ·rw [if_neg h6] at h1 ⊢
  rw [show joinsN (l.take i)+0=joinsN (l.take i) from rfl]
  have h4:(12+(i+1))*5 ^ joinsN (l.take i)=(12+i)*5 ^ joinsN (l.take i)+5 ^ joinsN (l.take i):=by rw [← Nat.add_assoc,Nat.add_mul,Nat.one_mul]
  have h5:0<5 ^ joinsN (l.take i):=Nat.pow_pos (by decide)
  omega
theorem wayQ.run {l:List Stp} (hl:l.length≤5) (hj:joinsN l≤2) (ho:∀ s∈l,okH s):∀ (k:Nat) (t:Tb),k≤l.length→wayQ l k t→okQ (runT t (l.drop k) k).1:=by
 intro k
 induction h:l.length - k generalizing k with
 | zero =>
  intro t hk hw
  rw [List.drop_eq_nil_of_le (by omega),runT]
  exact hw.q (by omega) hj
 | succ n ih =>
  intro t hk hw
  have hlt:k<l.length:=by omega
  have hv:=List.getElem?_eq_getElem hlt
  rw [List.drop_eq_getElem_cons hlt,runT]
  split
  ·exact ⟨okG.zero.ok,by simp [tb0],by simp [tb0]⟩
  ·exact ih (k+1) (by omega) _ (by omega) (hw.next (by omega) hj hv (ho _ (List.getElem_mem hlt)))
end Go.LS
