/- Part PA: 10 texts,one behind the other. -/
import Derived.Test.YtfmbjaeppffdpaaGreatDoorLD
/- Values,columns,queries,and what is reckoned of them: plain Lean,no program in sight. -/
namespace Go.LS
open Go
set_option maxRecDepth 100000
set_option linter.unusedSimpArgs false
set_option linter.unusedVariables false
@[reducible] def lit (l:List UInt8):ByteArray:=⟨l.toArray⟩
def wordF (k:Int):ByteArray:=if k=1 then lit [116,101,120,116] else if k=2 then lit [105,110,116] else if k=3 then lit [98,111,111,108] else ByteArray.empty
def cmpI (a b:Int):Int:=if a<b then -1 else if b<a then 1 else 0
def cmpS (a b:ByteArray):Int:=if strLt a b=true then -1 else if strLt b a=true then 1 else 0
abbrev aV (k:Int) (s:ByteArray) (n:Int) (b:Bool):List DV:=[.v (.int .i64 k),.v (.string s),.v (.int .i64 n),.v (.bool b)]
/-! ### Values,columns,queries -/
structure Vl where
 k:Int
 s:ByteArray
 n:Int
 b:Bool
def eV (v:Vl):List DV:=[.v (.int .i64 v.k),.v (.string v.s),.v (.int .i64 v.n),.v (.bool v.b)]
inductive Nd where
 | mk (op:Int) (col:ByteArray) (v:Vl) (l:List Vl) (ks:List Nd)
mutual
def eN:Nd→List DV
 | .mk op col v l ks=>[.v (.int .i64 op),.v (.string col),.v (.int .i64 v.k),.v (.string v.s),.v (.int .i64 v.n),.v (.bool v.b),.sl 4 (l.map eV),.sl 8 (eNs ks)]
def eNs:List Nd→List (List DV)
 | []=>[]
 | k::ks=>eN k::eNs ks
end
theorem eNs_map:∀ ks,eNs ks=ks.map eN
 | []=>rfl
 | k::ks=>by rw [eNs,eNs_map ks];rfl
def Nd.op:Nd→Int|.mk op _ _ _ _=>op
def Nd.col:Nd→ByteArray|.mk _ col _ _ _=>col
def Nd.v:Nd→Vl|.mk _ _ v _ _=>v
def Nd.l:Nd→List Vl|.mk _ _ _ l _=>l
def Nd.ks:Nd→List Nd|.mk _ _ _ _ ks=>ks
@[push_cast] theorem eN_eq (n:Nd) :
  eN n=[.v (.int .i64 n.op),.v (.string n.col),.v (.int .i64 n.v.k),.v (.string n.v.s),.v (.int .i64 n.v.n),.v (.bool n.v.b),.sl 4 (n.l.map eV),.sl 8 (n.ks.map eN)]:=by
 cases n
 rw [eN,eNs_map];rfl
section
variable (op:Int) (col:ByteArray) (v:Vl) (l:List Vl) (ks:List Nd)
@[push_cast] theorem op_mk:(Nd.mk op col v l ks).op=op:=rfl
@[push_cast] theorem col_mk:(Nd.mk op col v l ks).col=col:=rfl
@[push_cast] theorem v_mk:(Nd.mk op col v l ks).v=v:=rfl
@[push_cast] theorem l_mk:(Nd.mk op col v l ks).l=l:=rfl
@[push_cast] theorem ks_mk:(Nd.mk op col v l ks).ks=ks:=rfl
end
@[push_cast] theorem eV_eq (v:Vl):eV v=[.v (.int .i64 v.k),.v (.string v.s),.v (.int .i64 v.n),.v (.bool v.b)]:=rfl
attribute [push_cast] List.length_map
/-! ### The reference's forms -/
def bi (b:Bool):Int:=if b then 1 else 0
def eRV (v:Vl):List DV:=[.v (.int .i64 v.k),.v (.string v.s),.v (.int .i64 v.n),.v (.int .i64 (bi v.b))]
@[push_cast] theorem eRV_eq (v:Vl):eRV v=[.v (.int .i64 v.k),.v (.string v.s),.v (.int .i64 v.n),.v (.int .i64 (bi v.b))]:=rfl
mutual
def eRN:Nd→List DV
 | .mk op col v l ks=>[.v (.int .i64 op),.v (.string col),.v (.int .i64 v.k),.v (.string v.s),.v (.int .i64 v.n),.v (.int .i64 (bi v.b)),.sl 4 (l.map eRV),.sl 8 (eRNs ks)]
def eRNs:List Nd→List (List DV)
 | []=>[]
 | k::ks=>eRN k::eRNs ks
end
theorem eRNs_map:∀ ks,eRNs ks=ks.map eRN
 | []=>rfl
 | k::ks=>by rw [eRNs,eRNs_map ks];rfl
@[push_cast] theorem eRN_eq (n:Nd) :
  eRN n=[.v (.int .i64 n.op),.v (.string n.col),.v (.int .i64 n.v.k),.v (.string n.v.s),.v (.int .i64 n.v.n),.v (.int .i64 (bi n.v.b)),.sl 4 (n.l.map eRV),.sl 8 (n.ks.map eRN)]:=by
 cases n
 rw [eRN,eRNs_map];rfl
def eS (s:ByteArray):List DV:=[.v (.string s)]
@[push_cast] theorem eS_eq (s:ByteArray):eS s=[.v (.string s)]:=rfl
structure Cl where
 name:ByteArray
 kind:Int
 null:Bool
def eC (c:Cl):List DV:=[.v (.string c.name),.v (.int .i64 c.kind),.v (.bool c.null)]
@[push_cast] theorem eC_eq (c:Cl):eC c=[.v (.string c.name),.v (.int .i64 c.kind),.v (.bool c.null)]:=rfl
def eRC (c:Cl):List DV:=[.v (.string c.name),.v (.int .i64 c.kind),.v (.int .i64 (bi c.null))]
@[push_cast] theorem eRC_eq (c:Cl):eRC c=[.v (.string c.name),.v (.int .i64 c.kind),.v (.int .i64 (bi c.null))]:=rfl
def bVs:List Vl→Nat
 | []=>0
 | v::l=>1+v.s.size+bVs l
mutual
def bN:Nd→Nat
 | .mk _ col v l ks=>1+col.size+v.s.size+bVs l+bNs ks
def bNs:List Nd→Nat
 | []=>0
 | k::ks=>bN k+bNs ks
end
theorem bN_mem:∀ {ks:List Nd} {k:Nd},k∈ks→bN k≤bNs ks
 | [],_,h=>by cases h
 | x::ks,k,h=>by
  rcases List.mem_cons.1 h with rfl|h
  ·simp only [bNs];omega
  ·have:=bN_mem h;simp only [bNs];omega
theorem bN_pos (n:Nd):1≤bN n:=by cases n;simp only [bN];omega
theorem bNs_len:∀ (ks:List Nd),ks.length≤bNs ks
 | []=>by simp
 | k::ks=>by have:=bNs_len ks;have:=bN_pos k;simp only [bNs,List.length_cons];omega
/-! ### How many nodes -/
def cntL (out:Int):List Vl→Int
 | []=>out
 | v::l=>cntL (out+(v.s.size:Int).tdiv 40) l
mutual
def cnt:Nd→Int
 | .mk _ col v l ks=>cntK (cntL (1+(col.size:Int).tdiv 40+(v.s.size:Int).tdiv 40+(l.length:Int).tdiv 4) l) ks
def cntK (out:Int):List Nd→Int
 | []=>out
 | k::ks=>if 200<out then out else cntK (out+cnt k) ks
end
theorem td (a:Nat) (k:Nat):0≤(a:Int).tdiv k∧(a:Int).tdiv k≤a:=by
 rw [Int.tdiv_eq_ediv_of_nonneg (by omega)]
 exact ⟨Int.ediv_nonneg (Int.natCast_nonneg _) (Int.natCast_nonneg _),Int.ediv_le_self _ (Int.natCast_nonneg _)⟩
theorem cntL_bd:∀ (l:List Vl) (out:Int),out≤cntL out l∧cntL out l+l.length≤out+bVs l
 | [],out=>by simp [cntL,bVs]
 | v::l,out=>by
  have h:=td v.s.size 40
  have:=cntL_bd l (out+(v.s.size:Int).tdiv 40)
  simp only [cntL,bVs,List.length_cons]
  push_cast at h ⊢
  omega
theorem bVs_len:∀ (l:List Vl),l.length≤bVs l
 | []=>by simp
 | v::l=>by have:=bVs_len l;simp only [bVs,List.length_cons];omega
mutual
theorem cnt_bd:∀ (n:Nd),1≤cnt n∧cnt n≤bN n
 | .mk op col v l ks=>by
  have h1:=td col.size 40
  have h2:=td v.s.size 40
  have h3:=td l.length 4
  have h4:=cntL_bd l (1+(col.size:Int).tdiv 40+(v.s.size:Int).tdiv 40+(l.length:Int).tdiv 4)
  have h5:=cntK_bd ks (cntL (1+(col.size:Int).tdiv 40+(v.s.size:Int).tdiv 40+(l.length:Int).tdiv 4) l)
  simp only [cnt,bN]
  push_cast at h1 h2 h3 ⊢
  omega
theorem cntK_bd:∀ (ks:List Nd) (out:Int),out≤cntK out ks∧cntK out ks≤out+bNs ks
 | [],out=>by simp [cntK,bNs]
 | k::ks,out=>by
  have h1:=cnt_bd k
  have h2:=cntK_bd ks (out+cnt k)
  simp only [cntK,bNs]
  split
  ·push_cast;omega
  ·push_cast;omega
end
theorem drop_cons {α:Type} {l:List α} {k:Nat} {x:α} (h:l[k]?=some x):l.drop k=x::l.drop (k+1):=by
 obtain ⟨h1,rfl⟩:=List.getElem?_eq_some_iff.1 h
 exact List.drop_eq_getElem_cons h1
theorem inK64 {n:Int} (h1:-9223372036854775808≤n) (h2:n≤9223372036854775807):inK .i64 n:=⟨h1,h2⟩
theorem map_take_succ {α:Type} {f:α→List DV} {l:List α} {k:Nat} {x:α} (h:l[k]?=some x):(l.take (k+1)).map f=(l.take k).map f++[f x]:=by
 obtain ⟨h1,rfl⟩:=List.getElem?_eq_some_iff.1 h
 rw [List.take_succ_eq_append_getElem h1,List.map_append];rfl
abbrev okLen {α:Type} (l:List α):Prop:=l.length≤1099511627776
def longC:List Cl→Bool
 | []=>false
 | c::l=>if 40<c.name.size then true else longC l
mutual
def deep:Nd→Int→Bool
 | .mk _ _ _ _ ks,r=>if r=0 then true else deepK ks (r - 1)
def deepK:List Nd→Int→Bool
 | [],_=>false
 | k::ks,r=>if deep k r then true else deepK ks r
end
theorem deep_eq (n:Nd) (r:Int):deep n r=if r=0 then true else deepK n.ks (r - 1):=by cases n;rfl
theorem bi_t:bi true=1:=rfl
theorem bi_f:bi false=0:=rfl
/-! ### Bytes -/
def beginF (b:Int):Int × Bool :=
 if b≤127 then (0,true) else if b<194 then (0,false) else if b≤223 then (1,true) else if b=224 then (4,true) else if b=237 then (5,true)
 else if b≤239 then (2,true) else if b=240 then (6,true) else if b≤243 then (3,true) else if b=244 then (7,true) else (0,false)
def followF (b lo hi nx:Int):Int × Bool:=if b<lo then (0,false) else if hi<b then (0,false) else (nx,true)
def stepF (st b:Int):Int × Bool :=
 if st=0 then beginF b else if st=1 then followF b 128 191 0 else if st=2 then followF b 128 191 1 else if st=3 then followF b 128 191 2
 else if st=4 then followF b 160 191 1 else if st=5 then followF b 128 159 1 else if st=6 then followF b 144 191 2 else if st=7 then followF b 128 143 2 else (0,false)
def runS:Int→List UInt8→Int × Nat
 | st,[]=>(st,0)
 | st,b::r=>if (stepF st b.toNat).2=true then ((runS (stepF st b.toNat).1 r).1,(runS (stepF st b.toNat).1 r).2+1) else (st,0)
abbrev bytes (s:ByteArray):List UInt8:=s.data.toList
theorem size_bytes (s:ByteArray):s.size=(bytes s).length:=by simp [bytes]
def validB (s:ByteArray):Bool:=decide ((runS 0 (bytes s)).2=s.size) && decide ((runS 0 (bytes s)).1=0)
theorem inKu8 {n:Int} (h1:0≤n) (h2:n≤255):inK .u8 n:=⟨h1,h2⟩
theorem ix {n:Int} (h1:-9223372036854775808≤n:=by omega) (h2:n≤9223372036854775807:=by omega):inK .i64 n:=⟨h1,h2⟩
theorem iu {n:Int} (h1:0≤n:=by omega) (h2:n≤255:=by omega):inK .u8 n:=⟨h1,h2⟩
theorem im {n:Nat} (h:n≤9223372036854775807:=by omega):n≤maxLen:=h
theorem sz {p:Prop} (h:p:=by first|trivial|omega|exact ix|exact iu|exact im|exact .inl trivial|exact .inl rfl):p:=h
theorem ltT {k n:Nat} (h:k<n):decide ((k:Int)<(n:Int))=true:=decide_eq_true (Int.ofNat_lt.2 h)
theorem geF {k n:Nat} (h:¬ k<n):decide ((k:Int)<(n:Int))=false:=decide_eq_false (fun e=>h (Int.ofNat_lt.1 e))
theorem atT {α:Type} {l:List α} {k:Nat} (h:k<l.length):l[k]?=some l[k]:=List.getElem?_eq_getElem h
def putF (c:Int):List Int :=
 if c<128 then [c] else if c<2048 then [192+c / 64,128+c % 64]
 else if c<65536 then [224+c / 4096,128+c / 64 % 64,128+c % 64]
 else [240+c / 262144,128+c / 4096 % 64,128+c / 64 % 64,128+c % 64]
def cpF (s:ByteArray) (n:Nat):Int :=
 if n=1 then (sB s 0).toNat else if n=2 then ((sB s 0).toNat - 192:Int)*64+(sB s 1).toNat - 128
 else if n=3 then ((sB s 0).toNat - 224:Int)*4096+((sB s 1).toNat - 128:Int)*64+(sB s 2).toNat - 128
 else ((sB s 0).toNat - 240:Int)*262144+((sB s 1).toNat - 128:Int)*4096+((sB s 2).toNat - 128:Int)*64+(sB s 3).toNat - 128
def okN (s:ByteArray) (n:Nat):Bool :=
 decide (0≤cpF s n) && decide (cpF s n≤1114111) && (decide (cpF s n<55296) || decide (57343<cpF s n)) && decide (strN (putF (cpF s n))=s.extract 0 n)
def szF (s:ByteArray):Nat→Nat→Nat
 | 0,_=>0
 | f+1,n=>if n≤s.size then (if okN s n=true then n else szF s f (n+1)) else 0
def sizeF (s:ByteArray):Nat:=szF s 4 1
theorem szF_le (s:ByteArray):∀ (f n:Nat),szF s f n≤s.size
 | 0,n=>by simp [szF]
 | f+1,n=>by
  simp only [szF]
  split
  ·split
   ·assumption
   ·exact szF_le s f (n+1)
  ·omega
def whF (s:ByteArray):Nat→Nat→Nat
 | 0,at_=>at_
 | f+1,at_=>if at_<s.size then (if 0<sizeF (s.extract at_ s.size) then whF s f (at_+sizeF (s.extract at_ s.size)) else at_) else at_
def wholeF (s:ByteArray):Nat:=whF s s.size 0
def atF (name:ByteArray):List ByteArray→Int→Int
 | [],_=>-1
 | x::l,k=>if x=name then k else atF name l (k+1)
mutual
def dep:Nd→Int
 | .mk _ _ _ _ ks=>depK 0 ks+1
def depK (m:Int):List Nd→Int
 | []=>m
 | k::ks=>depK (if m<dep k then dep k else m) ks
end
mutual
theorem dep_bd:∀ n,1≤dep n∧dep n≤bN n
 | .mk op col v l ks=>by
  have:=depK_bd ks 0
  simp only [dep,bN]
  push_cast
  omega
theorem depK_bd:∀ ks (m:Int),m≤depK m ks∧(depK m ks≤m∨depK m ks≤bNs ks)
 | [],m=>by simp [depK]
 | k::ks,m=>by
  have h1:=dep_bd k
  have h2:=depK_bd ks (if m<dep k then dep k else m)
  simp only [depK,bNs]
  push_cast
  split at h2<;>rename_i h<;>simp only [h,if_true,if_false]<;>omega
end
def cl0:Cl:=⟨ByteArray.empty,0,false⟩
def findF (name:ByteArray):List Cl→Nat→Cl × Nat × Bool
 | [],_=>(cl0,0,false)
 | c::l,k=>if c.name=name then (c,k,true) else findF name l (k+1)
def memB (s:ByteArray):List ByteArray→Bool
 | []=>false
 | x::l=>if x=s then true else memB s l
def truS (l:List ByteArray):List (ByteArray × DV):=l.map fun n=>(n,.v (.bool true))
@[push_cast] theorem mget_truS (s:ByteArray):∀ l,(mget (truS l) s).getD (.v (.bool false))=.v (.bool (memB s l))
 | []=>rfl
 | x::l=>by
  have:=mget_truS s l
  simp only [truS,List.map_cons,mget,memB] at this ⊢
  split
  ·rfl
  ·exact this
theorem mset_truS (s:ByteArray):∀ l,memB s l=false→mset (truS l) s (.v (.bool true))=truS (l++[s])
 | [],_=>rfl
 | x::l,h=>by
  simp only [memB] at h
  split at h
  ·cases h
  ·rename_i hne
   have:=mset_truS s l h
   simp only [truS,List.map_cons,mset,if_neg hne,List.cons_append] at this ⊢
   rw [this]
def chkF:List ByteArray→List Cl→Nat→Nat × Int
 | _,[],k=>(k,0)
 | seen,c::l,k=>if wordF c.kind={ data:=#[] } then (k,21) else if validB c.name=false then (k,14) else if memB c.name seen=true then (k,15) else chkF (seen++[c.name]) l (k+1)
def checkC (l:List Cl):Nat × Int:=if l.length=0 then (0,13) else chkF [] l 0
abbrev okCl (l:List Cl):Prop:=okLen l∧∀ c∈l,c.name.size≤1099511627776
def rightF (v:Vl):Bool :=
 if v.k=0 then decide (v.s={ data:=#[] }) && (decide (v.n=0) && (v.b == false))
 else if v.k=1 then decide (v.n=0) && ((v.b == false) && validB v.s)
 else if v.k=2 then decide (v.s={ data:=#[] }) && (v.b == false)
 else if v.k=3 then decide (v.s={ data:=#[] }) && decide (v.n=0)
 else false
abbrev okVl (v:Vl):Prop:=v.s.size≤1099511627776
def fitsF (v:Vl) (c:Cl):Bool:=rightF v && (decide (v.k=0) || decide (v.k=c.kind))
def zeroV (v:Vl):Bool:=decide (v.k=0) && (decide (v.s=ByteArray.empty) && (decide (v.n=0) && (v.b == false)))
theorem zeroV_fold (v:Vl):(decide (v.k=0) && (decide (v.s=ByteArray.empty) && (decide (v.n=0) && (v.b == false))))=zeroV v:=rfl
def tailF (n:Nd) (l:List Cl):Int :=
 if (findF n.col l 0).2.2=false then 16 else if fitsF n.v (findF n.col l 0).1=false then 21
 else if (n.l.all fun v=>fitsF v (findF n.col l 0).1)=true then 0 else 21
def oneF (n:Nd) (l:List Cl):Int :=
 if n.op=0 then (if n.col≠{ data:=#[] }∨zeroV n.v=false∨0<n.l.length∨0<n.ks.length then 22 else 0)
 else if n.op=1∨n.op=2∨n.op=3 then (if 0<n.l.length∨0<n.ks.length then 22 else tailF n l)
 else if n.op=4 then (if zeroV n.v=false∨0<n.l.length∨0<n.ks.length then 22 else tailF n l)
 else if n.op=5 then (if n.col≠{ data:=#[] }∨zeroV n.v=false∨0<n.l.length∨n.ks.length≠1 then 22 else 0)
 else if n.op=6∨n.op=7 then (if n.col≠{ data:=#[] }∨zeroV n.v=false∨0<n.l.length then 22 else 0)
 else if n.op=8 then (if zeroV n.v=false∨0<n.ks.length then 22 else tailF n l)
 else 22
abbrev okNd (n:Nd):Prop:=bN n≤1099511627776
theorem bVs_mem:∀ {l:List Vl} {v:Vl},v∈l→v.s.size≤bVs l
 | [],_,h=>by cases h
 | x::l,v,h=>by
  rcases List.mem_cons.1 h with rfl|h
  ·simp only [bVs];omega
  ·have:=bVs_mem h;simp only [bVs];omega
def eI (n:Int):List DV:=[.v (.int .i64 n)]
@[push_cast] theorem eI_eq (n:Int):eI n=[.v (.int .i64 n)]:=rfl
def orF:List Int→Int
 | []=>0
 | x::l=>if x=0 then orF l else x
def cmpF (a b:Vl):Int :=
 if orF [cmpI a.k b.k,cmpS a.s b.s,cmpI a.n b.n]≠0∨a.b=b.b then orF [cmpI a.k b.k,cmpS a.s b.s,cmpI a.n b.n] else if b.b then -1 else 1
def idxF (p:Vl→Bool):List Vl→Int→Int
 | [],_=>-1
 | v::l,k=>if p v=true then k else idxF p l (k+1)
theorem idxF_any (p:Vl→Bool):∀ (l:List Vl) (k:Int),0≤k→decide (0≤idxF p l k)=l.any p
 | [],k,_=>by simp [idxF]
 | v::l,k,h=>by
  simp only [idxF,List.any_cons]
  split
  ·rename_i h1;simp [h1,h]
  ·rename_i h1;rw [idxF_any p l (k+1) (by omega)];simp [h1]
def lessF (b:Bool):Int:=if b then -1 else 1
def rcmpF (a b:Vl):Int :=
 if a.k≠b.k then lessF (decide (a.k<b.k)) else if a.s≠b.s then lessF (strLt a.s b.s) else if a.n≠b.n then lessF (decide (a.n<b.n))
 else if bi a.b≠bi b.b then lessF (decide (bi a.b<bi b.b)) else 0
def sameV (a b:Vl):Bool:=decide (a.k=b.k) && (decide (a.s=b.s) && (decide (a.n=b.n) && decide (bi a.b=bi b.b)))
def sameL:List Vl→List Vl→Bool
 | [],_=>true
 | a::l,m=>match m with
  | []=>true
  | b::m=>if sameV a b=false then false else sameL l m
open Go
set_option maxRecDepth 100000
set_option linter.unusedSimpArgs false
set_option linter.unusedVariables false
def in1 (a:Nat):Prop:=a<128
def in2 (a b:Nat):Prop:=194≤a∧a≤223∧128≤b∧b≤191
def in3 (a b c:Nat):Prop:=(224≤a∧a≤239∧128≤b∧b≤191∧(a=224→160≤b)∧(a=237→b≤159))∧128≤c∧c≤191
def in4 (a b c d:Nat):Prop:=(240≤a∧a≤244∧128≤b∧b≤191∧(a=240→144≤b)∧(a=244→b≤143))∧128≤c∧c≤191∧128≤d∧d≤191
theorem u8_eq {n:Int} {b:UInt8} (h0:0≤n) (h1:n<256):UInt8.ofNat n.toNat=b↔n=b.toNat:=by
 have hb:=b.toNat_lt
 constructor
 ·rintro rfl
  simp;omega
 ·rintro rfl
  simp
theorem ba_eq {a b:ByteArray}:a=b↔bytes a=bytes b:=by
 constructor
 ·rintro rfl;rfl
 ·intro h
  cases a;cases b
  simp only [bytes] at h
  congr
  exact Array.toList_inj.1 h
theorem bytes_strN (l:List Int):bytes (strN l)=l.map fun n=>UInt8.ofNat n.toNat:=by simp [bytes,strN]
theorem bytes_extract0 (s:ByteArray) (n:Nat):bytes (s.extract 0 n)=(bytes s).take n:=by
 simp [bytes,ByteArray.data_extract]
theorem bytes_extract (s:ByteArray) (n:Nat):bytes (s.extract n s.size)=(bytes s).drop n:=by
 simp only [bytes,ByteArray.data_extract,Array.toList_extract,List.extract]
 exact List.take_of_length_le (by simp)
theorem okN_iff (s:ByteArray) (n:Nat):okN s n=true↔(0≤cpF s n∧cpF s n≤1114111∧(cpF s n<55296∨57343<cpF s n)∧(putF (cpF s n)).map (fun n=>UInt8.ofNat n.toNat)=(bytes s).take n):=by
 simp only [okN,Bool.and_eq_true,Bool.or_eq_true,decide_eq_true_eq,ba_eq,bytes_strN,bytes_extract0,and_assoc]
theorem ok1 {s:ByteArray} {a:UInt8} {l:List UInt8} (h:bytes s=a::l):okN s 1=true↔in1 a.toNat:=by
 have ha:=a.toNat_lt
 rw [okN_iff]
 have:cpF s 1=a.toNat:=by simp [cpF,sB,h]
 rw [this,h]
 simp only [putF,in1]
 split
 ·simp;omega
 ·split
  ·simp;omega
  ·omega
theorem ok2 {s:ByteArray} {a b:UInt8} {l:List UInt8} (h:bytes s=a::b::l):okN s 2=true↔in2 a.toNat b.toNat:=by
 have ha:=a.toNat_lt
 have hb:=b.toNat_lt
 rw [okN_iff]
 have:cpF s 2=((a.toNat:Int) - 192)*64+b.toNat - 128:=by simp [cpF,sB,h]
 rw [this,h]
 generalize hc:((a.toNat:Int) - 192)*64+b.toNat - 128=c
 simp only [putF,in2]
 split
 ·simp;omega
 ·split
  ·simp only [List.map_cons,List.map_nil,List.take_succ_cons,List.take_zero,List.cons.injEq,and_true]
   constructor
   ·rintro ⟨h0,h1,h2,h3,h4⟩
    rw [u8_eq (by omega) (by omega)] at h3 h4
    omega
   ·intro h
    rw [u8_eq (by omega) (by omega),u8_eq (by omega) (by omega)]
    omega
  ·split
   ·simp;omega
   ·simp;omega
theorem ok3 {s:ByteArray} {a b c:UInt8} {l:List UInt8} (h:bytes s=a::b::c::l):okN s 3=true↔in3 a.toNat b.toNat c.toNat:=by
 have ha:=a.toNat_lt
 have hb:=b.toNat_lt
 have hc':=c.toNat_lt
 rw [okN_iff]
 have:cpF s 3=((a.toNat:Int) - 224)*4096+((b.toNat:Int) - 128)*64+c.toNat - 128:=by simp [cpF,sB,h]
 rw [this,h]
 generalize hx:((a.toNat:Int) - 224)*4096+((b.toNat:Int) - 128)*64+c.toNat - 128=x
 simp only [putF,in3]
 split
 ·simp;omega
 ·split
  ·simp;omega
  ·split
   ·simp only [List.map_cons,List.map_nil,List.take_succ_cons,List.take_zero,List.cons.injEq,and_true]
    constructor
    ·rintro ⟨h0,h1,h2,h3,h4,h5⟩
     rw [u8_eq (by omega) (by omega)] at h3 h4 h5
     omega
    ·intro h
     rw [u8_eq (by omega) (by omega),u8_eq (by omega) (by omega),u8_eq (by omega) (by omega)]
     omega
   ·simp;omega
theorem ok4 {s:ByteArray} {a b c d:UInt8} {l:List UInt8} (h:bytes s=a::b::c::d::l):okN s 4=true↔in4 a.toNat b.toNat c.toNat d.toNat:=by
 have ha:=a.toNat_lt
 have hb:=b.toNat_lt
 have hc':=c.toNat_lt
 have hd':=d.toNat_lt
 rw [okN_iff]
 have:cpF s 4=((a.toNat:Int) - 240)*262144+((b.toNat:Int) - 128)*4096+((c.toNat:Int) - 128)*64+d.toNat - 128:=by simp [cpF,sB,h]
 rw [this,h]
 generalize hx:((a.toNat:Int) - 240)*262144+((b.toNat:Int) - 128)*4096+((c.toNat:Int) - 128)*64+d.toNat - 128=x
 simp only [putF,in4]
 split
 ·simp;omega
 ·split
  ·simp;omega
  ·split
   ·simp;omega
   ·simp only [List.map_cons,List.map_nil,List.take_succ_cons,List.take_zero,List.cons.injEq,and_true]
    constructor
    ·rintro ⟨h0,h1,h2,h3,h4,h5,h6⟩
     rw [u8_eq (by omega) (by omega)] at h3 h4 h5 h6
     omega
    ·intro h
     rw [u8_eq (by omega) (by omega),u8_eq (by omega) (by omega),u8_eq (by omega) (by omega),u8_eq (by omega) (by omega)]
     omega
/-! The reference's size of the first sequence,by its bytes. -/
theorem szF_1 (s:ByteArray):sizeF s=if 1≤s.size then (if okN s 1=true then 1 else if 2≤s.size then (if okN s 2=true then 2 else if 3≤s.size then (if okN s 3=true then 3 else if 4≤s.size then (if okN s 4=true then 4 else 0) else 0) else 0) else 0) else 0:=by
 simp only [sizeF,szF,Nat.reduceAdd]
def seq (st:Int) (l:List UInt8):Bool:=match l with
 | []=>true
 | b::r=>(stepF st b.toNat).2 && (decide (r=[]∨(stepF st b.toNat).1≠0)) && seq (stepF st b.toNat).1 r
theorem run_cons (st:Int) (b:UInt8) (r:List UInt8):runS st (b::r)=if (stepF st b.toNat).2=true then ((runS (stepF st b.toNat).1 r).1,(runS (stepF st b.toNat).1 r).2+1) else (st,0):=rfl
theorem step0 (b:Int):stepF 0 b=beginF b:=by simp [stepF]
theorem step1 (b:Int):stepF 1 b=followF b 128 191 0:=by simp [stepF]
theorem step2 (b:Int):stepF 2 b=followF b 128 191 1:=by simp [stepF]
theorem step3 (b:Int):stepF 3 b=followF b 128 191 2:=by simp [stepF]
theorem step4 (b:Int):stepF 4 b=followF b 160 191 1:=by simp [stepF]
theorem step5 (b:Int):stepF 5 b=followF b 128 159 1:=by simp [stepF]
theorem step6 (b:Int):stepF 6 b=followF b 144 191 2:=by simp [stepF]
theorem step7 (b:Int):stepF 7 b=followF b 128 143 2:=by simp [stepF]
theorem fol (b lo hi nx:Int):followF b lo hi nx=if lo≤b∧b≤hi then (nx,true) else (0,false):=by
 unfold followF
 by_cases h1:b<lo
 ·rw [if_pos h1,if_neg (by omega)]
 ·rw [if_neg h1]
  by_cases h2:hi<b
  ·rw [if_pos h2,if_neg (by omega)]
  ·rw [if_neg h2,if_pos (by omega)]
def wfL (st:Int) (l:List UInt8):Prop:=(runS st l).2=l.length∧(runS st l).1=0
theorem wf_nil (st:Int):wfL st []↔st=0:=by simp [wfL,runS]
theorem wf_cons (st:Int) (b:UInt8) (r:List UInt8):wfL st (b::r)↔(stepF st b.toNat).2=true∧wfL (stepF st b.toNat).1 r:=by
 simp only [wfL,run_cons]
 split
 ·rename_i h;simp [h]
 ·rename_i h;simp [h]
theorem wf_fol (b:UInt8) (r:List UInt8) (lo hi nx:Int) (st:Int) (h:stepF st b.toNat=followF b.toNat lo hi nx):wfL st (b::r)↔(lo≤b.toNat∧(b.toNat:Int)≤hi)∧wfL nx r:=by
 rw [wf_cons,h,fol]
 split
 ·rename_i h;simp [h]
 ·rename_i h;simp [h]
theorem wf_0 (a:UInt8) (r:List UInt8):wfL 0 (a::r) ↔
  (a.toNat<128∧wfL 0 r)∨((194≤a.toNat∧a.toNat≤223)∧wfL 1 r)∨(a.toNat=224∧wfL 4 r)∨(a.toNat=237∧wfL 5 r)∨((225≤a.toNat∧a.toNat≤239∧a.toNat≠237)∧wfL 2 r)
  ∨ (a.toNat=240∧wfL 6 r)∨((241≤a.toNat∧a.toNat≤243)∧wfL 3 r)∨(a.toNat=244∧wfL 7 r):=by
 have ha:=a.toNat_lt
 rw [wf_cons,step0]
 unfold beginF
 (repeat' split)<;>simp only [true_and,false_and,Bool.false_eq_true]
 all_goals constructor
 all_goals first
  | (rintro (⟨h1,h⟩|⟨h1,h⟩|⟨h1,h⟩|⟨h1,h⟩|⟨h1,h⟩|⟨h1,h⟩|⟨h1,h⟩|⟨h1,h⟩)<;>first|exact h|(exfalso;omega))
  | (intro h;first
      | exact h.elim
      | exact .inl ⟨by omega,h⟩
      | exact .inr (.inl ⟨by omega,h⟩)
      | exact .inr (.inr (.inl ⟨by omega,h⟩))
      | exact .inr (.inr (.inr (.inl ⟨by omega,h⟩)))
      | exact .inr (.inr (.inr (.inr (.inl ⟨by omega,h⟩))))
      | exact .inr (.inr (.inr (.inr (.inr (.inl ⟨by omega,h⟩)))))
      | exact .inr (.inr (.inr (.inr (.inr (.inr (.inl ⟨by omega,h⟩))))))
      | exact .inr (.inr (.inr (.inr (.inr (.inr (.inr ⟨by omega,h⟩)))))))
theorem wf_1 (b:UInt8) (r:List UInt8):wfL 1 (b::r)↔(128≤b.toNat∧b.toNat≤191)∧wfL 0 r:=by rw [wf_fol b r 128 191 0 1 (step1 _)];constructor<;>rintro ⟨h1,h2⟩<;>exact ⟨by omega,h2⟩
theorem wf_2 (b:UInt8) (r:List UInt8):wfL 2 (b::r)↔(128≤b.toNat∧b.toNat≤191)∧wfL 1 r:=by rw [wf_fol b r 128 191 1 2 (step2 _)];constructor<;>rintro ⟨h1,h2⟩<;>exact ⟨by omega,h2⟩
theorem wf_3 (b:UInt8) (r:List UInt8):wfL 3 (b::r)↔(128≤b.toNat∧b.toNat≤191)∧wfL 2 r:=by rw [wf_fol b r 128 191 2 3 (step3 _)];constructor<;>rintro ⟨h1,h2⟩<;>exact ⟨by omega,h2⟩
theorem wf_4 (b:UInt8) (r:List UInt8):wfL 4 (b::r)↔(160≤b.toNat∧b.toNat≤191)∧wfL 1 r:=by rw [wf_fol b r 160 191 1 4 (step4 _)];constructor<;>rintro ⟨h1,h2⟩<;>exact ⟨by omega,h2⟩
theorem wf_5 (b:UInt8) (r:List UInt8):wfL 5 (b::r)↔(128≤b.toNat∧b.toNat≤159)∧wfL 1 r:=by rw [wf_fol b r 128 159 1 5 (step5 _)];constructor<;>rintro ⟨h1,h2⟩<;>exact ⟨by omega,h2⟩
theorem wf_6 (b:UInt8) (r:List UInt8):wfL 6 (b::r)↔(144≤b.toNat∧b.toNat≤191)∧wfL 2 r:=by rw [wf_fol b r 144 191 2 6 (step6 _)];constructor<;>rintro ⟨h1,h2⟩<;>exact ⟨by omega,h2⟩
theorem wf_7 (b:UInt8) (r:List UInt8):wfL 7 (b::r)↔(128≤b.toNat∧b.toNat≤143)∧wfL 2 r:=by rw [wf_fol b r 128 143 2 7 (step7 _)];constructor<;>rintro ⟨h1,h2⟩<;>exact ⟨by omega,h2⟩
theorem wf_s1 {a:UInt8} {r:List UInt8} (h:in1 a.toNat):wfL 0 (a::r)↔wfL 0 r:=by
 simp only [in1] at h
 rw [wf_0]
 constructor
 ·rintro (⟨h1,k⟩|⟨h1,k⟩|⟨h1,k⟩|⟨h1,k⟩|⟨h1,k⟩|⟨h1,k⟩|⟨h1,k⟩|⟨h1,k⟩)<;>first|exact k|(exfalso;omega)
 ·intro k;exact .inl ⟨h,k⟩
theorem wf_s2 {a b:UInt8} {r:List UInt8} (h:in2 a.toNat b.toNat):wfL 0 (a::b::r)↔wfL 0 r:=by
 simp only [in2] at h
 rw [wf_0,wf_1]
 constructor
 ·rintro (⟨h1,k⟩|⟨h1,k⟩|⟨h1,k⟩|⟨h1,k⟩|⟨h1,k⟩|⟨h1,k⟩|⟨h1,k⟩|⟨h1,k⟩)<;>first|exact k.2|(exfalso;omega)
 ·intro k;exact .inr (.inl ⟨by omega,by omega,k⟩)
theorem wf_s3 {a b c:UInt8} {r:List UInt8} (h:in3 a.toNat b.toNat c.toNat):wfL 0 (a::b::c::r)↔wfL 0 r:=by
 simp only [in3] at h
 rw [wf_0]
 simp only [wf_1,wf_2,wf_4,wf_5]
 constructor
 ·rintro (⟨h1,k⟩|⟨h1,k⟩|⟨h1,k⟩|⟨h1,k⟩|⟨h1,k⟩|⟨h1,k⟩|⟨h1,k⟩|⟨h1,k⟩)<;>first|exact k.2.2|(exfalso;omega)
 ·intro k
  by_cases e1:a.toNat=224
  ·exact .inr (.inr (.inl ⟨e1,by omega,by omega,k⟩))
  ·by_cases e2:a.toNat=237
   ·exact .inr (.inr (.inr (.inl ⟨e2,by omega,by omega,k⟩)))
   ·exact .inr (.inr (.inr (.inr (.inl ⟨by omega,by omega,by omega,k⟩))))
theorem wf_s4 {a b c d:UInt8} {r:List UInt8} (h:in4 a.toNat b.toNat c.toNat d.toNat):wfL 0 (a::b::c::d::r)↔wfL 0 r:=by
 simp only [in4] at h
 rw [wf_0]
 simp only [wf_1,wf_2,wf_3,wf_6,wf_7]
 constructor
 ·rintro (⟨h1,k⟩|⟨h1,k⟩|⟨h1,k⟩|⟨h1,k⟩|⟨h1,k⟩|⟨h1,k⟩|⟨h1,k⟩|⟨h1,k⟩)<;>first|exact k.2.2.2|(exfalso;omega)
 ·intro k
  by_cases e1:a.toNat=240
  ·exact .inr (.inr (.inr (.inr (.inr (.inl ⟨e1,by omega,by omega,by omega,k⟩)))))
  ·by_cases e2:a.toNat=244
   ·exact .inr (.inr (.inr (.inr (.inr (.inr (.inr ⟨e2,by omega,by omega,by omega,k⟩))))))
   ·exact .inr (.inr (.inr (.inr (.inr (.inr (.inl ⟨by omega,by omega,by omega,by omega,k⟩))))))
theorem wf_ne0 {st:Int} (h:st≠0) {l:List UInt8} (hw:wfL st l):∃ b r,l=b::r:=by
 cases l with
 | nil=>exact absurd ((wf_nil st).1 hw) h
 | cons b r=>exact ⟨b,r,rfl⟩
theorem wf_none {l:List UInt8} (h0:l≠[]) (h1:∀ a r,l=a::r→¬ in1 a.toNat) (h2:∀ a b r,l=a::b::r→¬ in2 a.toNat b.toNat)
  (h3:∀ a b c r,l=a::b::c::r→¬ in3 a.toNat b.toNat c.toNat) (h4:∀ a b c d r,l=a::b::c::d::r→¬ in4 a.toNat b.toNat c.toNat d.toNat):¬ wfL 0 l:=by
 cases l with
 | nil=>exact absurd rfl h0
 | cons a r =>
  have g1:=h1 a r rfl
  simp only [in1] at g1
  rw [wf_0]
  rintro (⟨k1,k⟩|⟨k1,k⟩|⟨k1,k⟩|⟨k1,k⟩|⟨k1,k⟩|⟨k1,k⟩|⟨k1,k⟩|⟨k1,k⟩)
  ·exact g1 k1
  ·obtain ⟨b,r,rfl⟩:=wf_ne0 (by decide) k
   have:=h2 _ _ _ rfl
   rw [wf_1] at k
   simp only [in2] at this;omega
  ·obtain ⟨b,r,rfl⟩:=wf_ne0 (by decide) k
   rw [wf_4] at k
   obtain ⟨k2,k⟩:=k
   obtain ⟨c,r,rfl⟩:=wf_ne0 (by decide) k
   rw [wf_1] at k
   have:=h3 _ _ _ _ rfl
   simp only [in3] at this;omega
  ·obtain ⟨b,r,rfl⟩:=wf_ne0 (by decide) k
   rw [wf_5] at k
   obtain ⟨k2,k⟩:=k
   obtain ⟨c,r,rfl⟩:=wf_ne0 (by decide) k
   rw [wf_1] at k
   have:=h3 _ _ _ _ rfl
   simp only [in3] at this;omega
  ·obtain ⟨b,r,rfl⟩:=wf_ne0 (by decide) k
   rw [wf_2] at k
   obtain ⟨k2,k⟩:=k
   obtain ⟨c,r,rfl⟩:=wf_ne0 (by decide) k
   rw [wf_1] at k
   have:=h3 _ _ _ _ rfl
   simp only [in3] at this;omega
  ·obtain ⟨b,r,rfl⟩:=wf_ne0 (by decide) k
   rw [wf_6] at k
   obtain ⟨k2,k⟩:=k
   obtain ⟨c,r,rfl⟩:=wf_ne0 (by decide) k
   rw [wf_2] at k
   obtain ⟨k3,k⟩:=k
   obtain ⟨d,r,rfl⟩:=wf_ne0 (by decide) k
   rw [wf_1] at k
   have:=h4 _ _ _ _ _ rfl
   simp only [in4] at this;omega
  ·obtain ⟨b,r,rfl⟩:=wf_ne0 (by decide) k
   rw [wf_3] at k
   obtain ⟨k2,k⟩:=k
   obtain ⟨c,r,rfl⟩:=wf_ne0 (by decide) k
   rw [wf_2] at k
   obtain ⟨k3,k⟩:=k
   obtain ⟨d,r,rfl⟩:=wf_ne0 (by decide) k
   rw [wf_1] at k
   have:=h4 _ _ _ _ _ rfl
   simp only [in4] at this;omega
  ·obtain ⟨b,r,rfl⟩:=wf_ne0 (by decide) k
   rw [wf_7] at k
   obtain ⟨k2,k⟩:=k
   obtain ⟨c,r,rfl⟩:=wf_ne0 (by decide) k
   rw [wf_2] at k
   obtain ⟨k3,k⟩:=k
   obtain ⟨d,r,rfl⟩:=wf_ne0 (by decide) k
   rw [wf_1] at k
   have:=h4 _ _ _ _ _ rfl
   simp only [in4] at this;omega
theorem size_wf (s:ByteArray) (h:bytes s≠[]):(sizeF s=0∧¬ wfL 0 (bytes s))∨(0<sizeF s∧sizeF s≤s.size∧(wfL 0 (bytes s)↔wfL 0 ((bytes s).drop (sizeF s)))):=by
 have hs:=size_bytes s
 rw [szF_1]
 have hpos:1≤s.size:=by
  cases hl:bytes s with
  | nil=>exact absurd hl h
  | cons a r=>rw [hl] at hs;simp at hs;omega
 rw [if_pos hpos]
 by_cases h1:okN s 1=true
 ·rw [if_pos h1]
  refine .inr ⟨by omega,hpos,?_⟩
  match hl:bytes s with
  | []=>exact absurd hl h
  | a::r=>exact wf_s1 ((ok1 hl).1 h1)
 rw [if_neg h1]
 have g1:∀ a r,bytes s=a::r→¬ in1 a.toNat:=fun a r e hh=>h1 ((ok1 e).2 hh)
 by_cases z2:2≤s.size
 case neg =>
  rw [if_neg z2]
  refine .inl ⟨rfl,wf_none h g1 ?_ ?_ ?_⟩<;>intros<;>rename_i e<;>rw [e] at hs<;>simp at hs<;>omega
 rw [if_pos z2]
 by_cases h2:okN s 2=true
 ·rw [if_pos h2]
  refine .inr ⟨by omega,z2,?_⟩
  match hl:bytes s with
  | []=>exact absurd hl h
  | [a]=>rw [hl] at hs;simp at hs;omega
  | a::b::r=>exact wf_s2 ((ok2 hl).1 h2)
 rw [if_neg h2]
 have g2:∀ a b r,bytes s=a::b::r→¬ in2 a.toNat b.toNat:=fun a b r e hh=>h2 ((ok2 e).2 hh)
 by_cases z3:3≤s.size
 case neg =>
  rw [if_neg z3]
  refine .inl ⟨rfl,wf_none h g1 g2 ?_ ?_⟩<;>intros<;>rename_i e<;>rw [e] at hs<;>simp at hs<;>omega
 rw [if_pos z3]
 by_cases h3:okN s 3=true
 ·rw [if_pos h3]
  refine .inr ⟨by omega,z3,?_⟩
  match hl:bytes s with
  | []=>exact absurd hl h
  | [a]=>rw [hl] at hs;simp at hs;omega
  | [a,b]=>rw [hl] at hs;simp at hs;omega
  | a::b::c::r=>exact wf_s3 ((ok3 hl).1 h3)
 rw [if_neg h3]
 have g3:∀ a b c r,bytes s=a::b::c::r→¬ in3 a.toNat b.toNat c.toNat:=fun a b c r e hh=>h3 ((ok3 e).2 hh)
 by_cases z4:4≤s.size
 case neg =>
  rw [if_neg z4]
  refine .inl ⟨rfl,wf_none h g1 g2 g3 ?_⟩<;>intros<;>rename_i e<;>rw [e] at hs<;>simp at hs<;>omega
 rw [if_pos z4]
 by_cases h4:okN s 4=true
 ·rw [if_pos h4]
  refine .inr ⟨by omega,z4,?_⟩
  match hl:bytes s with
  | []=>exact absurd hl h
  | [a]=>rw [hl] at hs;simp at hs;omega
  | [a,b]=>rw [hl] at hs;simp at hs;omega
  | [a,b,c]=>rw [hl] at hs;simp at hs;omega
  | a::b::c::d::r=>exact wf_s4 ((ok4 hl).1 h4)
 rw [if_neg h4]
 exact .inl ⟨rfl,wf_none h g1 g2 g3 fun a b c d r e hh=>h4 ((ok4 e).2 hh)⟩
theorem whF_wf (s:ByteArray):∀ (f n:Nat),s.size≤n+f→n≤s.size→whF s f n≤s.size∧(whF s f n=s.size↔wfL 0 ((bytes s).drop n))
 | 0,n,hf,hn=>by
  have:n=s.size:=by omega
  subst this
  simp only [whF]
  rw [List.drop_eq_nil_of_le (by rw [size_bytes];omega)]
  simp [wf_nil]
 | f+1,n,hf,hn=>by
  simp only [whF]
  split
  ·rename_i hlt
   have hb:=bytes_extract s n
   have hne:bytes (s.extract n s.size)≠[]:=by
    rw [hb]
    intro e
    have:=List.drop_eq_nil_iff.1 e
    rw [← size_bytes] at this
    omega
   have hsz:(s.extract n s.size).size=s.size - n:=by simp
   rcases size_wf (s.extract n s.size) hne with ⟨h1,h2⟩|⟨h1,h2,h3⟩
   ·rw [if_neg (by omega)]
    rw [hb] at h2
    exact ⟨by omega,by constructor<;>intro h<;>first|omega|exact absurd h h2⟩
   ·rw [if_pos h1]
    have ih:=whF_wf s f (n+sizeF (s.extract n s.size)) (by omega) (by omega)
    refine ⟨ih.1,ih.2.trans ?_⟩
    rw [hb,List.drop_drop] at h3
    exact h3.symm
  ·have:n=s.size:=by omega
   subst this
   rw [List.drop_eq_nil_of_le (by rw [size_bytes];omega)]
   simp [wf_nil]
theorem valid_whole (s:ByteArray):validB s=decide (wholeF s=s.size):=by
 have h:=(whF_wf s s.size 0 (by omega) (by omega)).2
 have e:wholeF s=whF s s.size 0:=rfl
 rw [Bool.eq_iff_iff,decide_eq_true_eq,e,h]
 simp only [validB,Bool.and_eq_true,decide_eq_true_eq,List.drop_zero,wfL,size_bytes]
theorem whole_le (s:ByteArray):wholeF s≤s.size:=(whF_wf s s.size 0 (by omega) (by omega)).1
open Go
set_option maxRecDepth 100000
set_option linter.unusedSimpArgs false
set_option linter.unusedVariables false
theorem strLt_gt (a b:ByteArray):strLt b a=!(strLt a b || decide (a=b)):=by
 have h:=bytesLess_gt a.toList b.toList
 simp only [strLt,← h]
 congr 2
 rw [Bool.eq_iff_iff,beq_iff_eq,decide_eq_true_eq,ByteArray.toList_eq,ByteArray.toList_eq,ba_eq]
theorem strLt_irrefl (a:ByteArray):strLt a a=false:=by
 have h:=strLt_gt a a
 cases hs:strLt a a with
 | false=>rfl
 | true=>rw [hs] at h;simp at h
theorem bi_inj {a b:Bool}:bi a=bi b↔a=b:=by cases a<;>cases b<;>simp [bi]
theorem cmp_rcmp (a b:Vl):cmpF a b=rcmpF a b:=by
 have l0:∀ b,lessF b≠0:=fun b=>by cases b<;>decide
 unfold rcmpF
 by_cases hk:a.k=b.k
 ·have e1:cmpI a.k b.k=0:=by unfold cmpI;rw [hk];simp
  rw [if_neg (by simpa using hk)]
  by_cases hs:a.s=b.s
  ·have e2:cmpS a.s b.s=0:=by unfold cmpS;rw [hs,strLt_irrefl];simp
   rw [if_neg (by simpa using hs)]
   by_cases hn:a.n=b.n
   ·have e3:cmpI a.n b.n=0:=by unfold cmpI;rw [hn];simp
    rw [if_neg (by simpa using hn)]
    unfold cmpF
    rw [e1,e2,e3]
    cases hb:a.b<;>cases hb':b.b<;>simp [orF,lessF,bi]
   ·rw [if_pos hn]
    have e3:cmpI a.n b.n=lessF (decide (a.n<b.n)):=by
     unfold cmpI lessF
     by_cases h:a.n<b.n
     ·simp [h]
     ·simp [h,show b.n<a.n by omega]
    simp [cmpF,orF,e1,e2,e3,l0]
  ·rw [if_pos hs]
   have e2:cmpS a.s b.s=lessF (strLt a.s b.s):=by
    have:=strLt_gt a.s b.s
    unfold cmpS lessF
    by_cases h:strLt a.s b.s=true
    ·rw [if_pos h,if_pos h]
    ·rw [if_neg h,if_neg h,if_pos]
     rw [this]
     simp only [Bool.not_eq_true] at h
     simp only [h,hs,decide_false,Bool.or_self,Bool.not_false]
   simp [cmpF,orF,e1,e2,l0]
 ·rw [if_pos hk]
  have e1:cmpI a.k b.k=lessF (decide (a.k<b.k)):=by
   unfold cmpI lessF
   by_cases h:a.k<b.k
   ·simp [h]
   ·simp [h,show b.k<a.k by omega]
  simp [cmpF,orF,e1,l0]
attribute [push_cast] List.getD_cons_zero
/-! Depth. -/
mutual
theorem deep_dep:∀ (n:Nd) (r:Int),0≤r→(deep n r=true↔r<dep n)
 | .mk op col v l ks,r,h=>by
  simp only [deep,dep]
  have h0:=depK_bd ks 0
  by_cases hr:r=0
  ·subst hr
   simp only [if_true,true_iff];omega
  ·rw [if_neg hr]
   have:=deepK_dep ks (r - 1) 0 (by omega)
   constructor
   ·intro h;have:=this.2 (.inr h);omega
   ·intro h
    rcases this.1 (by omega) with h|h
    ·omega
    ·exact h
theorem deepK_dep:∀ (ks:List Nd) (r m:Int),0≤r→(r<depK m ks↔(r<m∨deepK ks r=true))
 | [],r,m,h=>by simp [deepK,depK]
 | k::ks,r,m,h=>by
  have h1:=deep_dep k r h
  have h2:=deepK_dep ks r (if m<dep k then dep k else m) h
  simp only [deepK,depK]
  rw [h2]
  by_cases h3:deep k r=true
  ·have:=h1.1 h3
   rw [if_pos h3]
   constructor
   ·intro _;exact .inr rfl
   ·intro _;left;split<;>omega
  ·have:¬ r<dep k:=fun e=>h3 (h1.2 e)
   rw [if_neg h3]
   constructor
   ·rintro (h|h)
    ·left;split at h<;>omega
    ·exact .inr h
   ·rintro (h|h)
    ·left;split<;>omega
    ·exact .inr h
end
/-! Names. -/
theorem atF_add (s:ByteArray):∀ (l:List ByteArray) (k:Int),0≤k→atF s l k=if 0≤atF s l 0 then atF s l 0+k else -1
 | [],k,h=>by simp [atF]
 | x::l,k,h=>by
  simp only [atF]
  split
  ·simp
  ·have h1:=atF_add s l (k+1) (by omega)
   have h2:=atF_add s l (0+1) (by omega)
   rw [h1,h2]
   split<;>simp<;>omega
theorem find_at (s:ByteArray):∀ (l:List Cl) (k:Nat),(findF s l k).2.2=decide (0≤atF s (l.map (·.name)) 0) ∧
  ((findF s l k).2.2=true→((findF s l k).2.1:Int)=atF s (l.map (·.name)) 0+k∧∃ i,(findF s l k).2.1=i+k∧l[i]?=some (findF s l k).1)
 | [],k=>by simp [findF,atF]
 | c::l,k=>by
  simp only [findF,List.map_cons,atF]
  split
  ·refine ⟨by simp,fun _=>⟨by simp,0,by simp,by simp⟩⟩
  ·have h1:=find_at s l (k+1)
   have h2:=atF_add s (l.map (·.name)) (0+1) (by omega)
   rw [h2]
   refine ⟨?_,fun h=>?_⟩
   ·rw [h1.1]
    congr 1
    apply propext
    split<;>omega
   ·obtain ⟨h3,i,h4,h5⟩:=h1.2 h
    rw [h1.1] at h
    have h:=of_decide_eq_true h
    rw [if_pos h]
    refine ⟨by push_cast at h3;omega,i+1,by omega,by simpa using h5⟩
theorem memB_iff (s:ByteArray):∀ l,memB s l=true↔s∈l
 | []=>by simp [memB]
 | x::l=>by
  simp only [memB]
  split
  ·rename_i h;subst h;simp
  ·rename_i h;rw [memB_iff s l];simp [Ne.symm h]
theorem atF_mem (s:ByteArray):∀ (l:List ByteArray),(0≤atF s l 0)↔s∈l
 | []=>by simp [atF]
 | x::l=>by
  simp only [atF]
  split
  ·rename_i h;subst h;simp
  ·rename_i h
   rw [atF_add s l (0+1) (by omega)]
   have:=atF_mem s l
   simp only [List.mem_cons,Ne.symm h,false_or,← this]
   split<;>omega
theorem atF_memB (s:ByteArray) (l:List ByteArray):decide (0≤atF s l 0)=memB s l:=by
 rw [Bool.eq_iff_iff,decide_eq_true_eq,atF_mem,memB_iff]
theorem okNd_v {op:Int} {col:ByteArray} {v:Vl} {vl:List Vl} {ks:List Nd} (hn:okNd (.mk op col v vl ks)):okVl v∧(∀ x∈vl,okVl x)∧vl.length≤1099511627776∧ks.length≤1099511627776:=by
 have h1:okVl v:=by simp only [okNd,bN] at hn;simp only [okVl];omega
 have h2:∀ x∈vl,okVl x:=fun x hx=>by have:=bVs_mem hx;simp only [okNd,bN] at hn;simp only [okVl];omega
 have h3:=bVs_len vl
 have h4:=bNs_len ks
 simp only [okNd,bN] at hn
 exact ⟨h1,h2,by omega,by omega⟩
mutual
def everyF:Nd→List Cl→Int
 | .mk op col v vl ks,l=>if oneF (.mk op col v vl ks) l≠0 then oneF (.mk op col v vl ks) l else everyK ks l
def everyK:List Nd→List Cl→Int
 | [],_=>0
 | k::ks,l=>if everyF k l≠0 then everyF k l else everyK ks l
end
def checkF (n:Nd) (l:List Cl):Int:=if (checkC l).2≠0 then (checkC l).2 else if deep n 100=true then 26 else everyF n l
def vl0:Vl:=⟨0,ByteArray.empty,0,false⟩
def leafF (op:Int) (v:Vl) (vl:List Vl) (x:Vl):Bool :=
 if op=1 then decide (cmpF x v=0)
 else if op=2 then !decide (x.k=0) && (!decide (v.k=0) && decide (cmpF x v<0))
 else if op=3 then !decide (x.k=0) && (!decide (v.k=0) && decide (0<cmpF x v))
 else if op=4 then decide (x.k=0)
 else vl.any fun w=>decide (cmpF x w=0)
mutual
def holdsF:Nd→List Cl→List Vl→Bool
 | .mk op col v vl ks,l,row =>
  if op=5 then !holdsH ks l row else if op=6 then holdsA ks l row else if op=7 then holdsO ks l row else if op=0 then true
  else leafF op v vl (row.getD (findF col l 0).2.1 vl0)
def holdsH:List Nd→List Cl→List Vl→Bool
 | [],_,_=>false
 | k::_,l,row=>holdsF k l row
def holdsA:List Nd→List Cl→List Vl→Bool
 | [],_,_=>true
 | k::ks,l,row=>if holdsF k l row=false then false else holdsA ks l row
def holdsO:List Nd→List Cl→List Vl→Bool
 | [],_,_=>false
 | k::ks,l,row=>if holdsF k l row=true then true else holdsO ks l row
end
theorem check_every {n:Nd} {l:List Cl} (h:checkF n l=0):everyF n l=0:=by
 unfold checkF at h
 split at h
 ·rename_i h1;exact absurd h h1
 ·split at h
  ·cases h
  ·exact h
def hold2 (n:Nd) (l:List Cl) (row:List Vl):Bool × Int:=if checkF n l≠0 then (false,checkF n l) else if row.length≠l.length then (false,10) else (holdsF n l row,0)
theorem word_kind (k:Int):wordF k={ data:=#[] }↔(k<1∨3<k):=by
 unfold wordF
 constructor
 ·intro h
  (repeat' split at h)<;>first|(exfalso;simp [lit] at h;done)|omega|skip
 ·intro h
  rw [if_neg (by omega),if_neg (by omega),if_neg (by omega)]
  rfl
theorem holds_leaf {op:Int} {col:ByteArray} {v:Vl} {vl:List Vl} {ks:List Nd} {l:List Cl} {row:List Vl} (h0:op≠0) (h5:op≠5) (h6:op≠6) (h7:op≠7) {x:Vl} (hx:row[(findF col l 0).2.1]?=some x) :
  holdsF (.mk op col v vl ks) l row=leafF op v vl x:=by
 simp only [holdsF,if_neg h0,if_neg h5,if_neg h6,if_neg h7]
 rw [List.getD_eq_getElem?_getD,hx]
 rfl
theorem every_kids:∀ (ks:List Nd) (l:List Cl),everyK ks l=0→∀ k∈ks,everyF k l=0
 | [],_,_,k,h=>by cases h
 | x::ks,l,he,k,h=>by
  simp only [everyK] at he
  by_cases hx:everyF x l=0
  ·rw [if_neg (by simp [hx])] at he
   rcases List.mem_cons.1 h with rfl|h
   ·exact hx
   ·exact every_kids ks l he k h
  ·rw [if_pos hx] at he
   exact absurd he hx
theorem every_one {op:Int} {col:ByteArray} {v:Vl} {vl:List Vl} {ks:List Nd} {l:List Cl} (h:everyF (.mk op col v vl ks) l=0):oneF (.mk op col v vl ks) l=0∧∀ k∈ks,everyF k l=0:=by
 simp only [everyF] at h
 by_cases h1:oneF (.mk op col v vl ks) l=0
 ·rw [if_neg (by simp [h1])] at h
  exact ⟨h1,every_kids ks l h⟩
 ·rw [if_pos h1] at h
  exact absurd h h1
theorem one_mk (op:Int) (col:ByteArray) (v:Vl) (vl:List Vl) (ks:List Nd) (l:List Cl):oneF (.mk op col v vl ks) l =
 if op=0 then (if col≠{ data:=#[] }∨zeroV v=false∨0<vl.length∨0<ks.length then 22 else 0)
 else if op=1∨op=2∨op=3 then (if 0<vl.length∨0<ks.length then 22 else tailF (.mk op col v vl ks) l)
 else if op=4 then (if zeroV v=false∨0<vl.length∨0<ks.length then 22 else tailF (.mk op col v vl ks) l)
 else if op=5 then (if col≠{ data:=#[] }∨zeroV v=false∨0<vl.length∨ks.length≠1 then 22 else 0)
 else if op=6∨op=7 then (if col≠{ data:=#[] }∨zeroV v=false∨0<vl.length then 22 else 0)
 else if op=8 then (if zeroV v=false∨0<ks.length then 22 else tailF (.mk op col v vl ks) l)
 else 22:=rfl
theorem tail_mk (op:Int) (col:ByteArray) (v:Vl) (vl:List Vl) (ks:List Nd) (l:List Cl):tailF (.mk op col v vl ks) l =
 if (findF col l 0).2.2=false then 16 else if fitsF v (findF col l 0).1=false then 21 else if (vl.all fun v=>fitsF v (findF col l 0).1)=true then 0 else 21:=rfl
theorem one_not {col:ByteArray} {v:Vl} {vl:List Vl} {ks:List Nd} {l:List Cl} (h:oneF (.mk 5 col v vl ks) l=0):∃ k,ks=[k]:=by
 rw [one_mk,if_neg (by decide),if_neg (by decide),if_neg (by decide),if_pos rfl] at h
 split at h
 ·cases h
 ·rename_i hn
  have:ks.length=1:=by
   by_cases e:ks.length=1
   ·exact e
   ·exact absurd (.inr (.inr (.inr e))) hn
  exact List.length_eq_one_iff.1 this
theorem one_leaf {op:Int} {col:ByteArray} {v:Vl} {vl:List Vl} {ks:List Nd} {l:List Cl} (h:oneF (.mk op col v vl ks) l=0) (h0:op≠0) (h5:op≠5) (h6:op≠6) (h7:op≠7) :
  (op=1∨op=2∨op=3∨op=4∨op=8)∧tailF (.mk op col v vl ks) l=0∧(findF col l 0).2.2=true:=by
 have ht:(op=1∨op=2∨op=3∨op=4∨op=8)∧tailF (.mk op col v vl ks) l=0:=by
  rw [one_mk,if_neg h0] at h
  rw [if_neg h5,if_neg (show ¬ (op=6∨op=7) by omega)] at h
  split at h
  ·split at h
   ·cases h
   ·exact ⟨by omega,h⟩
  ·split at h
   ·split at h
    ·cases h
    ·exact ⟨by omega,h⟩
   ·split at h
    ·split at h
     ·cases h
     ·exact ⟨by omega,h⟩
    ·cases h
 refine ⟨ht.1,ht.2,?_⟩
 have:=ht.2
 rw [tail_mk] at this
 split at this
 ·cases this
 ·rename_i hf;simpa using hf
theorem find_lt {col:ByteArray} {l:List Cl} (h:(findF col l 0).2.2=true):(findF col l 0).2.1<l.length∧l[(findF col l 0).2.1]?=some (findF col l 0).1∧((findF col l 0).2.1:Int)=atF col (l.map (·.name)) 0:=by
 obtain ⟨h1,i,h2,h3⟩:=(find_at col l 0).2 h
 rw [Nat.add_zero] at h2
 subst h2
 exact ⟨(List.getElem?_eq_some_iff.1 h3).1,h3,by simpa using h1⟩
open Go
set_option maxRecDepth 100000
set_option linter.unusedSimpArgs false
set_option linter.unusedVariables false
def LeF (σ:LS) (ks:List Nat) (τ:LS):Prop:=match fzs σ ks with
 | some σ'=>leS σ'.sl τ.sl∧σ'.ob.take τ.ob.length=τ.ob∧(τ.sl.all fun p=>refsLV τ.ob.length p.2)=true∧τ.ob.all (refsO τ.ob.length)=true
 | none=>False
theorem Le.frz (ks:List Nat) {σ τ:LS} (h:LeF σ ks τ):Le σ τ:=by
 unfold LeF at h
 split at h
 ·rename_i σ' hf
  rintro N w0 a w ⟨ι,hi⟩
  exact Le.st (sl:=σ'.sl) (ob:=σ'.ob) (sl':=τ.sl) (ob':=τ.ob) h N w0 a w ⟨ι,fzs_sound hi hf⟩
 ·exact h.elim
attribute [push_cast] LeF
theorem mapTake {α β:Type} {f:α→β} {l:List α} {i:Nat} {x:α} (h:l[i]?=some x):(l.take (i+1)).map f=(l.take i).map f++[f x]:=by
 rw [List.take_add_one,h];simp
theorem valid_empty:validB { data:=#[] }=true:=rfl
theorem whole_dec (s:ByteArray):decide ((wholeF s:Int)=(s.size:Int))=validB s:=by
 rw [valid_whole]
 rw [Bool.eq_iff_iff,decide_eq_true_eq,decide_eq_true_eq]
 omega
theorem bi_zero (b:Bool):decide (bi b=0)=!b:=by cases b<;>rfl
theorem zeroV_ref (v:Vl):(decide (v.k=0) && (decide (v.s=ByteArray.empty) && (decide (v.n=0) && decide (bi v.b=0))))=zeroV v:=by
 unfold zeroV;rw [bi_zero];cases v.b<;>rfl
theorem tail_all (col:ByteArray) (op:Int) (v:Vl) (vl:List Vl) (ks:List Nd) (l:List Cl):tailF (.mk op col v vl ks) l =
  if (findF col l 0).2.2=false then 16 else if ((vl++[v]).all fun v=>fitsF v (findF col l 0).1)=true then 0 else 21:=by
 rw [tail_mk,List.all_append]
 split
 ·rfl
 ·cases h1:fitsF v (findF col l 0).1<;>cases h2:(vl.all fun v=>fitsF v (findF col l 0).1)<;>simp [h1]
open Go
set_option maxRecDepth 100000
def awN:Nd:=.mk 5 ByteArray.empty ⟨0,ByteArray.empty,0,false⟩ [] [.mk 1 { data:=#[97] } ⟨2,ByteArray.empty,3,false⟩ [] []]
def awL:List Cl:=[⟨{ data:=#[97] },2,true⟩]
open Go
set_option maxRecDepth 100000
set_option linter.unusedSimpArgs false
set_option linter.unusedVariables false
def eR (r:List Vl):List DV:=[.sl 4 (r.map eV)]
def eRR (r:List Vl):List DV:=[.sl 4 (r.map eRV)]
@[push_cast] theorem eR_eq (r:List Vl):eR r=[.sl 4 (r.map eV)]:=rfl
@[push_cast] theorem eRR_eq (r:List Vl):eRR r=[.sl 4 (r.map eRV)]:=rfl
def okRow (r:List Vl):Bool:=decide (r.length≤12) && r.all fun v=>decide (v.s.size≤40)
def smallF (rows:List (List Vl)):Bool:=rows.all okRow && decide (rows.length≤12)
theorem rcmp_three (a b:Vl):rcmpF a b=-1∨rcmpF a b=0∨rcmpF a b=1:=by
 have l0:∀ b,lessF b=-1∨lessF b=1:=fun b=>by cases b<;>decide
 unfold rcmpF
 (repeat' split)<;>first|(rcases l0 _ with h|h<;>rw [h]<;>decide)|(right;left;rfl)
theorem cmp_lt (a b:Vl):decide (rcmpF a b=-1)=decide (cmpF a b<0):=by
 rw [cmp_rcmp];rcases rcmp_three a b with h|h|h<;>rw [h]<;>decide
theorem cmp_gt (a b:Vl):decide (rcmpF a b=1)=decide (0<cmpF a b):=by
 rw [cmp_rcmp];rcases rcmp_three a b with h|h|h<;>rw [h]<;>decide
theorem cmp_eq (a b:Vl):decide (rcmpF a b=0)=decide (cmpF a b=0):=by
 rw [cmp_rcmp]
open Go
set_option maxRecDepth 100000
set_option linter.unusedSimpArgs false
set_option linter.unusedVariables false
mutual
def sameN:Nd→Nd→Bool
 | .mk o c v l ks,.mk o' c' v' l' ks'=>decide (o=o') && (decide (c=c') && (sameV v v' && ((decide (l.length=l'.length) && sameL l l') && (decide (ks.length=ks'.length) && sameNs ks ks'))))
def sameNs:List Nd→List Nd→Bool
 | [],_=>true
 | a::l,m=>match m with
  | []=>true
  | b::m=>if sameN a b=false then false else sameNs l m
end
theorem sameV_self (v:Vl):sameV v v=true:=by simp [sameV]
theorem sameL_self:∀ l:List Vl,sameL l l=true
 | []=>rfl
 | v::l=>by simp [sameL,sameV_self,sameL_self l]
mutual
theorem sameN_self:∀ n:Nd,sameN n n=true
 | .mk o c v l ks=>by simp [sameN,sameV_self,sameL_self,sameNs_self ks]
theorem sameNs_self:∀ l:List Nd,sameNs l l=true
 | []=>rfl
 | a::l=>by simp [sameNs,sameN_self a,sameNs_self l]
end
theorem sameV_r (a b:Vl):(decide (a.k=b.k) && (decide (a.s=b.s) && (decide (a.n=b.n) && decide (bi a.b=bi b.b))))=sameV a b:=rfl
open Go
set_option maxRecDepth 100000
set_option linter.unusedSimpArgs false
set_option linter.unusedVariables false
def wideF (l:List Cl) (rows:List (List Vl)):Bool:=rows.all fun r=>decide (r.length=l.length)
def selF (n:Nd) (l:List Cl) (rows:List (List Vl)):List (List Vl) × Int :=
 if checkF n l≠0 then ([],checkF n l) else if wideF l rows=false then ([],10) else (rows.filter fun r=>holdsF n l r,0)
theorem filterTake {α:Type} {p:α→Bool} {l:List α} {i:Nat} {x:α} (h:l[i]?=some x):(l.take (i+1)).filter p=(l.take i).filter p++(if p x=true then [x] else []):=by
 rw [List.take_add_one,h,List.filter_append]
 simp only [Option.toList_some,List.filter_cons,List.filter_nil]
def sameR (a b:List Vl):Bool:=decide (a.length=b.length) && sameL a b
def sameRs:List (List Vl)→List (List Vl)→Bool
 | [],_=>true
 | a::l,m=>match m with
  | []=>true
  | b::m=>if sameR a b=false then false else sameRs l m
def allF (a b:List (List Vl)):Bool:=decide (a.length=b.length) && sameRs a b
theorem sameR_self (r:List Vl):sameR r r=true:=by simp [sameR,sameL_self]
theorem sameRs_self:∀ l:List (List Vl),sameRs l l=true
 | []=>rfl
 | a::l=>by simp [sameRs,sameR_self a,sameRs_self l]
theorem allF_self (l:List (List Vl)):allF l l=true:=by simp [allF,sameRs_self]
open Go
set_option maxRecDepth 100000
set_option linter.unusedSimpArgs false
set_option linter.unusedVariables false
structure Ky where
 col:ByteArray
 down:Bool
def eK (k:Ky):List DV:=[.v (.string k.col),.v (.bool k.down)]
def eRK (k:Ky):List DV:=[.v (.string k.col),.v (.int .i64 (bi k.down))]
@[push_cast] theorem eK_eq (k:Ky):eK k=[.v (.string k.col),.v (.bool k.down)]:=rfl
@[push_cast] theorem eRK_eq (k:Ky):eRK k=[.v (.string k.col),.v (.int .i64 (bi k.down))]:=rfl
structure Pl where
 at_:Nat
 down:Bool
def eP (p:Pl):List DV:=[.v (.int .i64 p.at_),.v (.bool p.down)]
@[push_cast] theorem eP_eq (p:Pl):eP p=[.v (.int .i64 p.at_),.v (.bool p.down)]:=rfl
structure Cs where
 k:List Ky
 l:List Cl
 r:List (List Vl)
def eCs (z:Cs):List DV:=[.sl 2 (z.k.map eK),.sl 3 (z.l.map eC),.sl 1 (z.r.map eR)]
@[push_cast] theorem eCs_eq (z:Cs):eCs z=[.sl 2 (z.k.map eK),.sl 3 (z.l.map eC),.sl 1 (z.r.map eR)]:=rfl
abbrev okRs (rows:List (List Vl)):Prop:=okLen rows∧∀ r∈rows,okLen r∧∀ v∈r,okVl v
def fewZ (z:Cs):Bool:=decide (z.k.length≤12) && (!longC z.l && decide (z.l.length≤12)) && smallF z.r && (z.k.all fun k=>decide (k.col.size≤100)) && z.r.all fun r=>r.all rightF
def ocF (l:List Cl):List ByteArray→List Ky→Nat→Nat × Int
 | _,[],k=>(k,0)
 | seen,x::ks,k=>if (findF x.col l 0).2.2=false then (k,16) else if memB x.col seen=true then (k,15) else ocF l (seen++[x.col]) ks (k+1)
def ordC (ks:List Ky) (l:List Cl):Nat × Int:=if (checkC l).2≠0 then (0,(checkC l).2) else ocF l [] ks 0
def placesF (ks:List Ky) (l:List Cl):List Pl:=ks.map fun x=>⟨(findF x.col l 0).2.1,x.down⟩
def ordF:List Pl→List Vl→List Vl→Int
 | [],_,_=>0
 | p::ps,a,b=>if cmpF (a.getD p.at_ vl0) (b.getD p.at_ vl0)=0 then ordF ps a b else if p.down=true then -cmpF (a.getD p.at_ vl0) (b.getD p.at_ vl0) else cmpF (a.getD p.at_ vl0) (b.getD p.at_ vl0)
theorem oc_found (l:List Cl):∀ (ks:List Ky) (seen:List ByteArray) (k:Nat),(ocF l seen ks k).2=0→∀ x∈ks,(findF x.col l 0).2.2=true
 | [],_,_,_,x,hx=>by cases hx
 | y::ks,seen,k,h,x,hx=>by
  simp only [ocF] at h
  split at h
  ·cases h
  ·rename_i hf
   split at h
   ·cases h
   ·rcases List.mem_cons.1 hx with rfl|hx
    ·simpa using hf
    ·exact oc_found l ks _ _ h x hx
theorem ordC_found {ks:List Ky} {l:List Cl} (h:(ordC ks l).2=0):∀ x∈ks,(findF x.col l 0).2.2=true:=by
 unfold ordC at h
 split at h
 ·rename_i h1;exact absurd h h1
 ·exact oc_found l ks _ _ h
theorem places_lt {ks:List Ky} {l:List Cl} (h:(ordC ks l).2=0):∀ p∈placesF ks l,p.at_<l.length:=by
 intro p hp
 obtain ⟨x,hx,rfl⟩:=List.mem_map.1 hp
 exact (find_lt (ordC_found h x hx)).1
theorem cmp_bd (a b:Vl):-1≤cmpF a b∧cmpF a b≤1:=by
 rw [cmp_rcmp];rcases rcmp_three a b with h|h|h<;>rw [h]<;>decide
theorem getD_row {r:List Vl} {i:Nat} (h:i<r.length):(r.map eV).getD i []=eV (r.getD i vl0):=by
 rw [List.getD_eq_getElem?_getD,List.getD_eq_getElem?_getD,List.getElem?_map,List.getElem?_eq_getElem h]
 rfl
open Go
set_option maxRecDepth 100000
set_option linter.unusedSimpArgs false
set_option linter.unusedVariables false
def eRs (rows:List (List Vl)):List DV:=[.sl 1 (rows.map eR)]
@[push_cast] theorem eRs_eq (rows:List (List Vl)):eRs rows=[.sl 1 (rows.map eR)]:=rfl
def placesR (ks:List Ky) (l:List Cl) (lists:List (List (List Vl))):List Pl × Int :=
 if (ordC ks l).2≠0 then ([],(ordC ks l).2) else if (lists.all (wideF l))=false then ([],10) else (placesF ks l,0)
theorem wide_mem {l:List Cl} {rows:List (List Vl)} (h:wideF l rows=true):∀ r∈rows,r.length=l.length:=fun r hr=>by
 have:=List.all_eq_true.1 h r hr
 simpa using this
end Go.LS
