/- Part LB: 7 texts,one behind the other. -/
import Derived.Test.YtfmbjaeppffdpaaGreatDoorLA
import Derived.Maps.AppendAt
import Derived.Lib.AppendStr
/- All quiet operations at once;objects that are written to. -/
namespace Go.LS
open Go Go.RowKit
def qcall (T:Tab) (σ:LS) (c:Call):QR :=
 match c.callee,c.args.toList with
 | .builtin .len,[x]=>match c.argTypes[0]? with|some t=>qlen T σ.ob t (ev σ x)|none=>.no
 | .builtin .min,[x,y]=>qmm false (ev σ x) (ev σ y)
 | .builtin .max,[x,y]=>qmm true (ev σ x) (ev σ y)
 | _,_=>.no
/-! Bytes to a string -/
def numsOf:List (List DV)→Option (List Int)
 | []=>some []
 | e::r=>match e,numsOf r with
  | [.v (.int .u8 n)],some l=>some (n::l)
  | _,_=>none
def okNums:List Int→Prop
 | []=>True
 | n::r=>(0≤n∧n≤255)∧okNums r
def strN (l:List Int):ByteArray:=⟨(l.map fun n=>UInt8.ofNat n.toNat).toArray⟩
def qconvB (T:Tab) (ob:List OB) (src dst:TypeId):LV→QR
 | .c (.os k)=>match ob[k]? with
  | some (.rw _ 1 es)=>match T src,T dst,numsOf es with
   | some ⟨.slice e,_,_,_,_⟩,some ⟨.string,_,_,_,_⟩,some l=>match T e with
    | some ⟨.int .u8,_,_,_,_⟩=>.ok (okNums l) (s2 (strN l))
    | _=>.no
   | _,_,_=>.no
  | _=>.no
 | x=>qconv T src dst x
def q (T:Tab) (σ:LS):Op→QR
 | .move x=>.ok True (ev σ x)
 | .assign x=>.ok True (ev σ x)
 | .load t x=>qload T σ.ob t (ev σ x)
 | .nilCheck x=>qnil (ev σ x)
 | .binOp op xT x y _=>qbin T op xT (ev σ x) (ev σ y)
 | .unOp op _ x=>qun op (ev σ x)
 | .convert src dst x=>qconvB T σ.ob src dst (ev σ x)
 | .slice t x lo hi none=>qslice T t (ev σ x) (lo.map (ev σ)) (hi.map (ev σ))
 | .fieldAddr s x f=>qfa T s f (ev σ x)
 | .field s x f=>qfd T s f (ev σ x)
 | .indexAddr t x i=>qia T σ.ob t (ev σ x) (ev σ i)
 | .index t x i=>qix T t (ev σ x) (ev σ i)
 | .extract x i=>qext i (ev σ x)
 | .build t ps=>qbuild T t (ps.toList.map fun p=>(p.1,ev σ p.2))
 | .lookup t m k ok=>qlook T σ.ob t (ev σ m) (ev σ k) ok
 | .call c=>qcall T σ c
 | _=>.no
section
variable {P:Program} {T:Tab} {N:Nat} {w0:W0} {ι ι':Io} {σ:LS} {a:Act} {w w':World} {O:Nat→Prop} {ob ob':List OB}
theorem numsOf_get:∀ {es:List (List DV)} {l:List Int},numsOf es=some l→l.length=es.length∧∀ (j:Nat) (n:Int),l[j]?=some n→es[j]?=some [.v (.int .u8 n)]
 | [],l,h=>by simp only [numsOf,Option.some.injEq] at h;subst h;simp
 | e::r,l,h=>by
  simp only [numsOf] at h
  split at h
  ·rename_i n l' hr
   injection h with h
   subst h
   obtain ⟨h1,h2⟩:=numsOf_get hr
   refine ⟨by simp [h1],fun j m hj=>?_⟩
   cases j with
   | zero=>simp at hj;subst hj;rfl
   | succ j=>simp at hj ⊢;exact h2 j m hj
  ·cases h
theorem okNums_get:∀ {l:List Int},okNums l→∀ n∈l,0≤n∧n≤255
 | [],_,n,hn=>by cases hn
 | m::r,h,n,hn=>by
  rcases List.mem_cons.1 hn with rfl|hn
  ·exact h.1
  ·exact okNums_get h.2 n hn
theorem yl_convB (hT:okT P T) (h:StI N w0 ι σ a w) {src dst:TypeId} {x:Operand} {p:Prop} {z:LV} (hq:qconvB T σ.ob src dst (ev σ x)=.ok p z) (hp:p) :
  ∃ v,dlv w (own ι σ.ob) ι σ.ob z v∧Yl P a.eval (.convert src dst x) w v:=by
 have hx:=h.ev x
 unfold qconvB at hq
 split at hq
 ·rename_i k e1
  rw [e1] at hx
  split at hq
  ·rename_i t es hk
   split at hq
   ·rename_i e _ _ _ _ _ _ _ _ l hs hd hn
    split at hq
    ·rename_i he
     injection hq with g1 g2
     subst g1 g2
     refine ⟨.string (strN l),⟨rfl,rfl⟩,fun o ho w' hw'=>?_⟩
     obtain ⟨n1,n2⟩:=numsOf_get hn
     have n3:=okNums_get hp
     obtain ⟨t2,size2,es2,q1,q2⟩:=hx
     rw [hk] at q1
     injection q1 with q1
     injection q1 with r1 r2 r3
     subst r1 r2 r3
     rcases q2 with ⟨q3,q4,q5⟩|⟨b,cur,cap,t3,q3,q4,q5,q6,q7,q8⟩
     ·have hl:l=[]:=List.eq_nil_of_length_eq_zero (by omega)
      subst hl
      have:=run_convert_bytes_nil (P:=P) w' src e (hT src _ hs).und (hT e _ he).und 0 0 dst (hT dst _ hd).und
      simp only [execOp,ho,q5,Sem.run_bind,this,Result.andThen_ok,Sem.run_pure]
      rfl
     ·obtain ⟨_,k1|⟨g',cur',cap',k1,k2,k3,k4,k5,k6⟩⟩:=h.objs k _ hk
      ·rw [q3] at k1;cases k1.1
      rw [q3] at k1
      injection k1 with k1
      subst k1
      have hblk:=(Array.getElem?_eq_some_iff.1 k2).1
      have hcell:∀ (j:Nat) (hj:j<(l.map fun n=>UInt8.ofNat n.toNat).length),w'.cell? ((⟨b,0,none⟩:Addr).add j)=some (.int .u8 ((l.map fun n=>UInt8.ofNat n.toNat)[j].toNat)):=by
       intro j hj
       have hjl:j<l.length:=by simpa using hj
       have hes:=n2 j l[j] (List.getElem?_eq_getElem hjl)
       obtain ⟨m1,m2⟩:=rdEs_get k6 (i:=j) (by omega)
       have m3:es[j]'(by omega)=[.v (.int .u8 l[j])]:=by
        have:=List.getElem?_eq_getElem (l:=es) (i:=j) (by omega)
        rw [hes] at this
        injection this with this
        exact this.symm
       rw [m3,Nat.mul_one] at m2
       obtain ⟨⟨u,m4,m5⟩,_⟩:=m2
       have m6:u=.int .u8 l[j]:=m5.1
       subst m6
       have m7:=n3 l[j] (List.getElem_mem hjl)
       have m8:w'.cell? ((⟨b,0,none⟩:Addr).add j)=w.cell? ((⟨b,0,none⟩:Addr).add j):=hw'.cell (by rw [add_block];exact hblk) id
       rw [m8,m4]
       simp only [List.getElem_map,UInt8.toNat_ofNat']
       have:l[j].toNat % 2 ^ 8=l[j].toNat:=Nat.mod_eq_of_lt (by omega)
       rw [this]
       congr 2
       omega
      have:=run_convert_bytes_back (P:=P) w' src dst e ⟨b,0,none⟩ cap (l.map fun n=>UInt8.ofNat n.toNat) (hT src _ hs).und (hT e _ he).und (hT dst _ hd).und hcell
      rw [List.length_map,n1] at this
      simp only [execOp,ho,q8,Sem.run_bind,this,Result.andThen_ok,Sem.run_pure]
      rfl
    ·cases hq
   ·cases hq
  ·cases hq
 ·exact yl_conv hT h hq hp
theorem q_sound (hT:okT P T) (h:StI N w0 ι σ a w) {op:Op} {p:Prop} {z:LV} (hq:q T σ op=.ok p z) (hp:p) :
  ∃ v,dlv w (own ι σ.ob) ι σ.ob z v∧Yl P a.eval op w v:=by
 unfold q at hq
 split at hq
 ·rename_i x;injection hq with h1 h2;subst h1 h2
  exact ⟨a.eval x,h.ev x,fun o ho w' _=>by simp only [execOp,ho,Sem.run_pure]⟩
 ·rename_i x;injection hq with h1 h2;subst h1 h2
  exact ⟨a.eval x,h.ev x,fun o ho w' _=>by simp only [execOp,ho,Sem.run_pure]⟩
 ·exact yl_load hT h hq hp
 ·exact yl_nil h hq
 ·exact yl_bin hT h hq hp
 ·exact yl_un h hq hp
 ·exact yl_convB hT h hq hp
 ·exact yl_slice hT h hq hp
 ·exact yl_fa hT h hq hp
 ·exact yl_fd hT h hq
 ·exact yl_ia hT h hq hp
 ·exact yl_ix hT h hq hp
 ·exact yl_ext h hq
 ·exact yl_build hT h hq
 ·exact yl_look hT h hq
 ·rename_i c
  obtain ⟨callee,args,ts⟩:=c
  unfold qcall at hq
  split at hq
  ·rename_i x e1 e2
   simp only at e1 e2 hq
   subst e1
   obtain rfl:args=#[x]:=Array.toList_inj.1 e2
   split at hq
   ·rename_i t ht;exact yl_len hT h ht hq
   ·cases hq
  ·rename_i x y e1 e2
   simp only at e1 e2 hq
   subst e1
   obtain rfl:args=#[x,y]:=Array.toList_inj.1 e2
   exact yl_mm (mx:=false) h hq
  ·rename_i x y e1 e2
   simp only at e1 e2 hq
   subst e1
   obtain rfl:args=#[x,y]:=Array.toList_inj.1 e2
   exact yl_mm (mx:=true) h hq
  ·cases hq
 ·cases hq
/-! ### From one state to another -/
def mapLV (f:CV→CV):LV→LV
 | .c .any=>.c .any
 | .c x=>.c (f x)
 | .ag cs=>.ag (cs.map f)
 | .tu vs=>.tu (vs.map fun v=>match v with
  | .c .any=>.c .any
  | .c x=>.c (f x)
  | .ag cs=>.ag (cs.map f)
  | .tu vs=>.tu vs)
def mapSl (f:CV→CV):List (Nat × LV)→List (Nat × LV)
 | []=>[]
 | (i,x)::r=>(i,mapLV f x)::mapSl f r
theorem dcvs_map {O':Nat→Prop} {f:CV→CV} (hi:∀ c u,dcv w O ι ob c u→dcv w' O' ι' ob' (f c) u):∀ {cs:List CV} {us:List Value},dcvs w O ι ob cs us→dcvs w' O' ι' ob' (cs.map f) us
 | [],_,h=>h
 | c::cs,us,h=>by
  obtain ⟨u,r,rfl,hu,hr⟩:=h
  exact ⟨u,r,rfl,hi c u hu,dcvs_map hi hr⟩
theorem dl1_of_dcv {c:CV} {u:Value} (h:dcv w O ι ob c u):dl1 w O ι ob (.c c) u:=by
 cases c<;>first|exact h|trivial
theorem dl1s_map {O':Nat→Prop} {f:CV→CV} (hi:∀ c u,dcv w O ι ob c u→dcv w' O' ι' ob' (f c) u):∀ {xs:List LV} {us:List Value},dl1s w O ι ob xs us →
  dl1s w' O' ι' ob' (xs.map fun v=>match v with
  | .c .any=>.c .any
  | .c x=>.c (f x)
  | .ag cs=>.ag (cs.map f)
  | .tu vs=>.tu vs) us
 | [],_,h=>h
 | x::xs,us,h=>by
  obtain ⟨u,r,rfl,hu,hr⟩:=h
  refine ⟨u,r,rfl,?_,dl1s_map hi hr⟩
  cases x with
  | c c=>cases c<;>first|trivial|exact dl1_of_dcv (hi _ _ hu)
  | ag cs=>obtain ⟨us,rfl,hd⟩:=hu;exact ⟨us,rfl,dcvs_map hi hd⟩
  | tu vs=>exact hu.elim
theorem dlv_map {O':Nat→Prop} {f:CV→CV} (hi:∀ c u,dcv w O ι ob c u→dcv w' O' ι' ob' (f c) u):∀ {x:LV} {u:Value},dlv w O ι ob x u→dlv w' O' ι' ob' (mapLV f x) u
 | .c c,u,h=>by cases c<;>first|trivial|exact dl1_of_dcv (hi _ _ h)
 | .ag cs,u,h=>by obtain ⟨us,rfl,hd⟩:=h;exact ⟨us,rfl,dcvs_map hi hd⟩
 | .tu xs,u,h=>by obtain ⟨us,rfl,hd⟩:=h;exact ⟨us,rfl,dl1s_map hi hd⟩
theorem mem_mapSl {f:CV→CV}:∀ {l:List (Nat × LV)} {p:Nat × LV},p∈mapSl f l→∃ x,(p.1,x)∈l∧p.2=mapLV f x
 | [],p,h=>by simp [mapSl] at h
 | (i,x)::r,p,h=>by
  rcases List.mem_cons.1 h with rfl|h
  ·exact ⟨x,by simp,rfl⟩
  ·obtain ⟨y,h1,h2⟩:=mem_mapSl h
   exact ⟨y,by simp [h1],h2⟩
theorem StI.turn (h:StI N w0 ι σ a w) (f:CV→CV) (hcv:∀ c u,dcv w (own ι σ.ob) ι σ.ob c u→dcv w' (own ι' ob') ι' ob' (f c) u)
  (hob:∀ k o,ob'[k]?=some o→dob w' (own ι' ob') ι' ob' k o) (hinj:∀ k k' g,live ob' k→live ob' k'→ι' k=some g→ι' k'=some g→k=k')
  (hbase:∀ k g,live ob' k→ι' k=some g→w0.heap.size≤g∨w0.M g) (hb:Ext w0.M w0.toWorld w') (hpin:∀ k (t:Nat) size es,ob'[k]?=some (.rw t size es)→1000000≤t→ι' k=w0.at_ k) (hE:ι'.E=ι.E:=by rfl):StI N w0 ι' ⟨mapSl f σ.sl,ob'⟩ a w' :=
 ⟨h.defers,h.size,hb,fun p hp=>by
   obtain ⟨x,h1,h2⟩:=mem_mapSl hp
   obtain ⟨v,hv,hd⟩:=h.slots _ h1
   exact ⟨v,hv,by rw [h2];exact dlv_map hcv hd⟩,hob,hinj,hbase,⟨hE.trans h.out.1,h.out.2⟩,hpin⟩
theorem StI.turn' (h:StI N w0 ι σ a w) (hcv:∀ c u,dcv w (own ι σ.ob) ι σ.ob c u→dcv w' (own ι' ob') ι' ob' c u)
  (hob:∀ k o,ob'[k]?=some o→dob w' (own ι' ob') ι' ob' k o) (hinj:∀ k k' g,live ob' k→live ob' k'→ι' k=some g→ι' k'=some g→k=k')
  (hbase:∀ k g,live ob' k→ι' k=some g→w0.heap.size≤g∨w0.M g) (hb:Ext w0.M w0.toWorld w') (hpin:∀ k (t:Nat) size es,ob'[k]?=some (.rw t size es)→1000000≤t→ι' k=w0.at_ k) (hE:ι'.E=ι.E:=by rfl):StI N w0 ι' ⟨σ.sl,ob'⟩ a w' :=
 ⟨h.defers,h.size,hb,fun p hp=>by
   obtain ⟨v,hv,hd⟩:=h.slots _ hp
   exact ⟨v,hv,dlv_imp hcv hd⟩,hob,hinj,hbase,⟨hE.trans h.out.1,h.out.2⟩,hpin⟩
/-! ### One object turns -/
theorem live_set {ob:List OB} {k:Nat} {o o':OB} (hk:ob[k]?=some o) (hd:o.isDead=false) (hd':o'.isDead=false) (j:Nat):live (ob.set k o') j↔live ob j:=by
 have hlt:=(List.getElem?_eq_some_iff.1 hk).1
 by_cases e:k=j
 ·subst e
  constructor
  ·intro _;exact ⟨o,hk,hd⟩
  ·intro _;exact ⟨o',by rw [List.getElem?_set_self hlt],hd'⟩
 ·unfold live
  rw [List.getElem?_set_ne e]
theorem own_set {ob:List OB} {k:Nat} {o o':OB} (hk:ob[k]?=some o) (hd:o.isDead=false) (hd':o'.isDead=false):own ι (ob.set k o')=own ι ob:=by
 funext g
 unfold own
 apply propext
 constructor
 ·rintro (he|⟨j,hl,hg⟩)
  ·exact .inl he
  ·exact .inr ⟨j,(live_set hk hd hd' j).1 hl,hg⟩
 ·rintro (he|⟨j,hl,hg⟩)
  ·exact .inl he
  ·exact .inr ⟨j,(live_set hk hd hd' j).2 hl,hg⟩
theorem dob_other (h:StI N w0 ι σ a w) {f:CV→CV} {k g:Nat} (hl:live σ.ob k) (hι:ι k=some g) (he:Ext (·=g) w w') {ob':List OB} {O':Nat→Prop} {ι':Io}
  (hs:Stays (·=g) (own ι σ.ob) O' w w') (hcv:∀ c u,dcv w (own ι σ.ob) ι σ.ob c u→dcv w' O' ι' ob' (f c) u) {j:Nat} (hj:j≠k) (hιj:ι' j=ι j) {o:OB} (ho:σ.ob[j]?=some o) :
  dob w' O' ι' ob' j (match o with|.bx t cs=>.bx t (cs.map f)|o=>o):=by
 have hd:=h.objs j o ho
 have hne:∀ b,ι j=some b→o.isDead=false→b≠g:=fun b hb hdd e=>hj (h.inj j k g ⟨o,ho,hdd⟩ hl (e ▸ hb) hι)
 cases o with
 | bx t cs =>
  obtain ⟨b,us,h1,h2,h3⟩:=hd
  exact ⟨b,us,hιj.trans h1,(he.block b (Array.getElem?_eq_some_iff.1 h2).1 (hne b h1 rfl)).trans h2,dcvs_map hcv h3⟩
 | rw t size es =>
  refine ⟨hd.1,?_⟩
  rcases hd.2 with h1|⟨b,cur,cap,h1,h2,h3,h4,h5,h6⟩
  ·exact .inl ⟨hιj.trans h1.1,h1.2⟩
  ·have hb:=he.block b (Array.getElem?_eq_some_iff.1 h2).1 (hne b h1 rfl)
   exact .inr ⟨b,cur,cap,hιj.trans h1,hb.trans h2,h3,h4,h5,rdEs_mono' hs size es _ _ (Nat.le_refl _) (fun j _=>World.cell?_of_block (by rw [add_block];exact hb)) h6⟩
 | mp es =>
  obtain ⟨b,ents,clk,h1,h2,h3⟩:=hd
  exact ⟨b,ents,clk,hιj.trans h1,(he.block b (Array.getElem?_eq_some_iff.1 h2).1 (hne b h1 rfl)).trans h2,dents_mono hs h3⟩
 | px t size b cap es =>
  obtain ⟨h0,h1,cur,h2,h3,h4,h5,h6⟩:=hd
  have hb:=he.block b (Array.getElem?_eq_some_iff.1 h2).1 (hne b h1 rfl)
  exact ⟨h0,hιj.trans h1,cur,hb.trans h2,h3,h4,h5,rdEs_mono' hs size es _ _ (Nat.le_refl _) (fun j _=>World.cell?_of_block (by rw [add_block];exact hb)) h6⟩
 | dead=>trivial
theorem StI.set (h:StI N w0 ι σ a w) {k g:Nat} {o o':OB} (hk:σ.ob[k]?=some o) (hd:o.isDead=false) (hd':o'.isDead=false) (hι:ι k=some g) (he:Ext (·=g) w w')
  (hrw:∀ t size es,o=.rw t size es→∃ es',o'=.rw t size es'∧es'.length=es.length∧∀ n u,hdr w (some g) size n u→hdr w' (some g) size n u)
  (hob:dob w' (own ι σ.ob) ι (σ.ob.set k o') k o') (hpn:∀ (t:Nat) size es,o'=.rw t size es→∃ size es,o=.rw t size es):StI N w0 ι { σ with ob:=σ.ob.set k o' } a w':=by
 have ho:=own_set (ι:=ι) hk hd hd'
 have hl:live σ.ob k:=⟨o,hk,hd⟩
 have hlt:=hl.lt
 have hog:own ι σ.ob g:=.inr ⟨k,hl,hι⟩
 have hs:Stays (·=g) (own ι σ.ob) (own ι σ.ob) w w':=⟨he,fun b _ hb=>hb ▸ hog,fun _ _ h=>h⟩
 have hcv:∀ c u,dcv w (own ι σ.ob) ι σ.ob c u→dcv w' (own ι σ.ob) ι (σ.ob.set k o') c u:=by
  intro c u hc
  cases c with
  | d x=>exact den_mono hs x u hc
  | op j off=>obtain ⟨b,h1,h2⟩:=hc;exact ⟨b,(live_set hk hd hd' j).2 h1,h2⟩
  | oe j i off =>
   obtain ⟨b,t,size,es,h1,h2,h3,h4⟩:=hc
   by_cases e:k=j
   ·subst e
    rw [hk] at h2
    injection h2 with h2
    obtain ⟨es',h5,h6,_⟩:=hrw t size es h2
    exact ⟨b,t,size,es',h1,by rw [List.getElem?_set_self hlt,h5],by omega,h4⟩
   ·exact ⟨b,t,size,es,h1,by rw [List.getElem?_set_ne e];exact h2,h3,h4⟩
  | os j =>
   obtain ⟨t,size,es,h1,h2⟩:=hc
   by_cases e:k=j
   ·subst e
    rw [hk] at h1
    injection h1 with h1
    obtain ⟨es',h5,h6,h7⟩:=hrw t size es h1
    refine ⟨t,size,es',by rw [List.getElem?_set_self hlt,h5],?_⟩
    rw [hι] at h2 ⊢
    rw [h6]
    exact h7 _ _ h2
   ·refine ⟨t,size,es,by rw [List.getElem?_set_ne e];exact h1,hdr_ext he (fun b hb hbg=>?_) h2⟩
    exact e (h.inj k j g hl ⟨_,h1,rfl⟩ hι (hbg ▸ hb))
  | om j=>obtain ⟨b,h1,h2⟩:=hc;exact ⟨b,(live_set hk hd hd' j).2 h1,h2⟩
  | any=>exact hc
 have hbase:=h.base k g hl hι
 have:=h.turn' (w':=w') (ι':=ι) (ob':=σ.ob.set k o') (by rw [ho];exact hcv) (by
  intro j oj hj
  rw [ho]
  by_cases e:k=j
  ·subst e
   rw [List.getElem?_set_self hlt] at hj
   injection hj with hj
   subst hj
   exact hob
  ·rw [List.getElem?_set_ne e] at hj
   have:=dob_other h (f:=id) hl hι he hs (ι':=ι) (ob':=σ.ob.set k o') hcv (Ne.symm e) rfl hj
   cases oj<;>simpa using this) (fun j j' b hj hj'=>h.inj j j' b ((live_set hk hd hd' j).1 hj) ((live_set hk hd hd' j').1 hj'))
  (fun j b hj=>h.base j b ((live_set hk hd hd' j).1 hj)) (h.below.grow he (fun b hb=>hb ▸ hbase)) (fun j t size es hj ht=>by
    by_cases e:k=j
    ·subst e
     rw [List.getElem?_set_self hlt] at hj
     injection hj with hj
     obtain ⟨sz,es0,h0⟩:=hpn _ _ _ hj
     exact h.pin k t sz es0 (h0 ▸ hk) ht
    ·rw [List.getElem?_set_ne e] at hj
     exact h.pin j t size es hj ht)
 exact this
end
open Go Go.RowKit
/-! ### Freezing: an object of one's own is written to no more -/
def fzR (k size:Nat) (es:List (List DV)):CV→CV
 | .os j=>bif j == k then .d (.sl size es) else .os j
 | .oe j i o=>bif j == k then .any else .oe j i o
 | .op j o=>bif j == k then .any else .op j o
 | .om j=>bif j == k then .any else .om j
 | c=>c
def fzB (k:Nat) (ds:List DV):CV→CV
 | .op j o=>bif j == k then (if o≤ds.length then .d (.at_ (ds.drop o)) else .any) else .op j o
 | .om j=>bif j == k then .any else .om j
 | c=>c
def fzK (k:Nat):CV→CV
 | .op j o=>bif j == k then .any else .op j o
 | .om j=>bif j == k then .any else .om j
 | c=>c
def mapOB (f:CV→CV):OB→OB
 | .bx t cs=>.bx t (cs.map f)
 | o=>o
def allD:List CV→Option (List DV)
 | []=>some []
 | .d x::r=>match allD r with|some l=>some (x::l)|none=>none
 | _::_=>none
def setDead (f:CV→CV):List OB→Nat→List OB
 | [],_=>[]
 | _::r,0=>.dead::r.map (mapOB f)
 | o::r,k+1=>mapOB f o::setDead f r k
def fz (σ:LS) (k:Nat):Option LS :=
 match σ.ob[k]? with
 | some (.rw _ size es)=>some ⟨mapSl (fzR k size es) σ.sl,setDead (fzR k size es) σ.ob k⟩
 | some (.bx _ cs)=>match allD cs with
  | some ds=>some ⟨mapSl (fzB k ds) σ.sl,setDead (fzB k ds) σ.ob k⟩
  | none=>some ⟨mapSl (fzK k) σ.sl,setDead (fzK k) σ.ob k⟩
 | some .dead=>some σ
 | _=>none
def fzs (σ:LS):List Nat→Option LS
 | []=>some σ
 | k::ks=>match fz σ k with|some σ'=>fzs σ' ks|none=>none
def refC1:CV→List Nat
 | .os k=>[k]
 | .op k _=>[k]
 | _=>[]
def refC (ob:List OB):CV→List Nat
 | .os k=>[k]
 | .op k _=>match ob[k]? with|some (.bx _ cs)=>cs.flatMap refC1++[k]|_=>[k]
 | _=>[]
def refL (ob:List OB):LV→List Nat
 | .c c=>refC ob c
 | .ag cs=>cs.flatMap (refC ob)
 | .tu _=>[]
section
variable {P:Program} {T:Tab} {N:Nat} {w0:W0} {ι ι':Io} {σ σ':LS} {a:Act} {w w':World} {O:Nat→Prop} {ob ob':List OB}
theorem setDead_get (f:CV→CV):∀ (ob:List OB) (k j:Nat),(setDead f ob k)[j]?=if j=k then (ob[j]?).map (fun _=>OB.dead) else (ob[j]?).map (mapOB f)
 | [],k,j=>by simp [setDead]
 | o::r,0,j=>by
  cases j with
  | zero=>simp [setDead]
  | succ j=>simp [setDead]
 | o::r,k+1,j=>by
  cases j with
  | zero=>simp [setDead]
  | succ j=>simp [setDead,setDead_get f r k j]
theorem mapOB_dead (f:CV→CV) (o:OB):(mapOB f o).isDead=o.isDead:=by cases o<;>rfl
theorem live_setDead {f:CV→CV} {k j:Nat} (h:live (setDead f ob k) j):live ob j∧j≠k:=by
 obtain ⟨o,h1,h2⟩:=h
 rw [setDead_get] at h1
 split at h1
 ·cases ho:ob[j]? with
  | none=>simp [ho] at h1
  | some x=>simp [ho] at h1;subst h1;cases h2
 ·rename_i hne
  cases ho:ob[j]? with
  | none=>simp [ho] at h1
  | some x =>
   simp [ho] at h1
   subst h1
   exact ⟨⟨x,ho,by rwa [mapOB_dead] at h2⟩,hne⟩
theorem live_setDead' {f:CV→CV} {k j:Nat} (h:live ob j) (hne:j≠k):live (setDead f ob k) j:=by
 obtain ⟨o,h1,h2⟩:=h
 exact ⟨mapOB f o,by rw [setDead_get,if_neg hne,h1];rfl,by rwa [mapOB_dead]⟩
theorem StI.dead (h:StI N w0 ι σ a w) {k:Nat} {f:CV→CV}
  (hcv:∀ c u,dcv w (own ι σ.ob) ι σ.ob c u→dcv w (own ι (setDead f σ.ob k)) ι (setDead f σ.ob k) (f c) u) :
  StI N w0 ι ⟨mapSl f σ.sl,setDead f σ.ob k⟩ a w:=by
 have hO:∀ b,own ι (setDead f σ.ob k) b→own ι σ.ob b:=fun b ho=>ho.imp id fun ⟨j,hl,hj⟩=>⟨j,(live_setDead hl).1,hj⟩
 have hs:Stays noB (own ι σ.ob) (own ι (setDead f σ.ob k)) w w:=⟨Ext.refl _ _,fun _ _ h=>h.elim,fun b _ hb=>hO b hb⟩
 refine h.turn f hcv ?_ (fun j j' g hl hl'=>h.inj j j' g (live_setDead hl).1 (live_setDead hl').1) (fun j g hl=>h.base j g (live_setDead hl).1) h.below (fun j t size es hj ht=>by
  rw [setDead_get] at hj
  split at hj
  ·cases ho:σ.ob[j]? with
   | none=>simp [ho] at hj
   | some x=>simp [ho] at hj
  ·cases ho:σ.ob[j]? with
   | none=>simp [ho] at hj
   | some x =>
    simp [ho] at hj
    cases x<;>simp only [mapOB,reduceCtorEq,OB.rw.injEq] at hj
    obtain ⟨rfl,rfl,rfl⟩:=hj
    exact h.pin j _ _ _ ho ht)
 intro j o hj
 rw [setDead_get] at hj
 split at hj
 ·cases ho:σ.ob[j]? with
  | none=>simp [ho] at hj
  | some x=>simp [ho] at hj;subst hj;trivial
 ·cases ho:σ.ob[j]? with
  | none=>simp [ho] at hj
  | some x =>
   simp [ho] at hj
   subst hj
   have hd:=h.objs j x ho
   cases x with
   | bx t cs =>
    obtain ⟨g,us,h1,h2,h3⟩:=hd
    exact ⟨g,us,h1,h2,dcvs_map hcv h3⟩
   | rw t size es =>
    refine ⟨hd.1,?_⟩
    rcases hd.2 with h1|⟨g,cur,cap,h1,h2,h3,h4,h5,h6⟩
    ·exact .inl h1
    ·exact .inr ⟨g,cur,cap,h1,h2,h3,h4,h5,rdEs_mono' hs size es _ _ (Nat.le_refl _) (fun _ _=>rfl) h6⟩
   | mp es =>
    obtain ⟨g,ents,clk,h1,h2,h3⟩:=hd
    exact ⟨g,ents,clk,h1,h2,dents_mono hs h3⟩
   | px t size g cap es =>
    obtain ⟨h0,h1,cur,h2,h3,h4,h5,h6⟩:=hd
    exact ⟨h0,h1,cur,h2,h3,h4,h5,rdEs_mono' hs size es _ _ (Nat.le_refl _) (fun _ _=>rfl) h6⟩
   | dead=>trivial
theorem allD_spec:∀ {cs:List CV} {ds:List DV},allD cs=some ds→cs=ds.map .d
 | [],ds,h=>by simp [allD] at h;subst h;rfl
 | c::r,ds,h=>by
  cases c with
  | d x =>
   simp only [allD] at h
   cases hr:allD r with
   | none=>simp [hr] at h
   | some l=>simp [hr] at h;subst h;simp [allD_spec hr]
  | _=>simp [allD] at h
theorem denVs_of_dcvs:∀ {ds:List DV} {us:List Value},dcvs w O ι ob (ds.map .d) us→denVs w O ds us
 | [],us,h=>h
 | d::ds,us,h=>by
  obtain ⟨u,r,rfl,hu,hr⟩:=h
  exact ⟨u,r,rfl,hu,denVs_of_dcvs hr⟩
theorem bne_nat {j k:Nat} (e:j≠k):(j == k)=false:=by simpa using e
theorem fz_sound (h:StI N w0 ι σ a w) {k:Nat} (hf:fz σ k=some σ'):StI N w0 ι σ' a w:=by
 unfold fz at hf
 split at hf
 ·rename_i t size es hk
  injection hf with hf
  subst hf
  refine h.dead fun c u hc=>?_
  have hO:∀ b,own ι (setDead (fzR k size es) σ.ob k) b→own ι σ.ob b:=fun b ho=>ho.imp id fun ⟨j,hl,hj⟩=>⟨j,(live_setDead hl).1,hj⟩
  have hs:Stays noB (own ι σ.ob) (own ι (setDead (fzR k size es) σ.ob k)) w w:=⟨Ext.refl _ _,fun _ _ h=>h.elim,fun b _ hb=>hO b hb⟩
  have hno:∀ g,ι k=some g→¬ own ι (setDead (fzR k size es) σ.ob k) g:=fun g hg ho=>ho.elim (fun he=>by have h1:=h.out.2 g (h.out.1 ▸ he);have h2:=h.base k g ⟨_,hk,rfl⟩ hg;exact h2.elim (fun h2=>by omega) h1.2) fun ⟨j,hl,hj⟩ =>
   (live_setDead hl).2 (h.inj j k g (live_setDead hl).1 ⟨_,hk,rfl⟩ hj hg)
  have hone:=dcv_oneCell hc
  cases c with
  | d x=>exact den_mono hs x u hc
  | op j off =>
   obtain ⟨g,h1,h2,h3⟩:=hc
   by_cases e:j=k
   ·subst e;simp only [fzR,beq_self_eq_true,cond_true];exact hone
   ·simp only [fzR,bne_nat e,cond_false];exact ⟨g,live_setDead' h1 e,h2,h3⟩
  | oe j i off =>
   obtain ⟨g,t',size',es',h1,h2,h3,h4⟩:=hc
   by_cases e:j=k
   ·subst e;simp only [fzR,beq_self_eq_true,cond_true];exact hone
   ·simp only [fzR,bne_nat e,cond_false]
    exact ⟨g,t',size',es',h1,by rw [setDead_get,if_neg e,h2];rfl,h3,h4⟩
  | os j =>
   obtain ⟨t',size',es',h1,h2⟩:=hc
   by_cases e:j=k
   ·subst e
    simp only [fzR,beq_self_eq_true,cond_true]
    rw [hk] at h1
    injection h1 with h1
    injection h1 with e1 e2 e3
    subst e1 e2 e3
    obtain ⟨_,h3|⟨g,cur,cap,h3,h4,h5,h6,h7,h8⟩⟩:=h.objs j _ hk
    ·rcases h2 with ⟨_,h5,h6⟩|⟨b,_,_,_,h5,_⟩
     ·subst h6
      obtain ⟨_,h3⟩:=h3
      subst h3
      exact ⟨none,0,rfl,by simp,by simp,fun h=>by simp at h⟩
     ·rw [h3.1] at h5;cases h5
    ·rcases h2 with ⟨h9,_⟩|⟨b,cur',cap',t3,h9,h10,h11,h12,h13,h14⟩
     ·rw [h3] at h9;cases h9
     ·rw [h3] at h9
      injection h9 with h9
      subst h9 h14
      refine ⟨some ⟨g,0,none⟩,cap',rfl,h12,h13,fun _=>⟨⟨g,0,none⟩,rfl,(Array.getElem?_eq_some_iff.1 h4).1,hno g h3,rdEs_mono' hs size es _ _ (Nat.le_refl _) (fun _ _=>rfl) h8⟩⟩
   ·simp only [fzR,bne_nat e,cond_false]
    exact ⟨t',size',es',by rw [setDead_get,if_neg e,h1];rfl,h2⟩
  | om j =>
   obtain ⟨g,h1,h2,h3⟩:=hc
   by_cases e:j=k
   ·subst e;simp only [fzR,beq_self_eq_true,cond_true];exact hone
   ·simp only [fzR,bne_nat e,cond_false];exact ⟨g,live_setDead' h1 e,h2,h3⟩
  | any=>exact hc
 ·rename_i t cs hk
  cases hD:allD cs with
  | none =>
   simp only [hD] at hf
   injection hf with hf
   subst hf
   refine h.dead fun c u hc=>?_
   have hO:∀ b,own ι (setDead (fzK k) σ.ob k) b→own ι σ.ob b:=fun b ho=>ho.imp id fun ⟨j,hl,hj⟩=>⟨j,(live_setDead hl).1,hj⟩
   have hs:Stays noB (own ι σ.ob) (own ι (setDead (fzK k) σ.ob k)) w w:=⟨Ext.refl _ _,fun _ _ h=>h.elim,fun b _ hb=>hO b hb⟩
   have hno:∀ g,ι k=some g→¬ own ι (setDead (fzK k) σ.ob k) g:=fun g hg ho=>ho.elim (fun he=>by have h1:=h.out.2 g (h.out.1 ▸ he);have h2:=h.base k g ⟨_,hk,rfl⟩ hg;exact h2.elim (fun h2=>by omega) h1.2) fun ⟨j,hl,hj⟩ =>
    (live_setDead hl).2 (h.inj j k g (live_setDead hl).1 ⟨_,hk,rfl⟩ hj hg)
   have hone:=dcv_oneCell hc
   cases c with
   | d x=>exact den_mono hs x u hc
   | op j off =>
    obtain ⟨g,h1,h2,h3⟩:=hc
    by_cases e:j=k
    ·subst e;simp only [fzK,beq_self_eq_true,cond_true];exact hone
    ·simp only [fzK,bne_nat e,cond_false];exact ⟨g,live_setDead' h1 e,h2,h3⟩
   | oe j i off =>
    obtain ⟨g,t',size',es',h1,h2,h3,h4⟩:=hc
    have e:j≠k:=fun e=>by subst e;rw [hk] at h2;cases h2
    exact ⟨g,t',size',es',h1,by rw [setDead_get,if_neg e,h2];rfl,h3,h4⟩
   | os j =>
    obtain ⟨t',size',es',h1,h2⟩:=hc
    have e:j≠k:=fun e=>by subst e;rw [hk] at h1;cases h1
    exact ⟨t',size',es',by rw [setDead_get,if_neg e,h1];rfl,h2⟩
   | om j =>
    obtain ⟨g,h1,h2,h3⟩:=hc
    by_cases e:j=k
    ·subst e;simp only [fzK,beq_self_eq_true,cond_true];exact hone
    ·simp only [fzK,bne_nat e,cond_false];exact ⟨g,live_setDead' h1 e,h2,h3⟩
   | any=>exact hc
  | some ds =>
   simp only [hD] at hf
   injection hf with hf
   subst hf
   refine h.dead fun c u hc=>?_
   have hO:∀ b,own ι (setDead (fzB k ds) σ.ob k) b→own ι σ.ob b:=fun b ho=>ho.imp id fun ⟨j,hl,hj⟩=>⟨j,(live_setDead hl).1,hj⟩
   have hs:Stays noB (own ι σ.ob) (own ι (setDead (fzB k ds) σ.ob k)) w w:=⟨Ext.refl _ _,fun _ _ h=>h.elim,fun b _ hb=>hO b hb⟩
   have hno:∀ g,ι k=some g→¬ own ι (setDead (fzB k ds) σ.ob k) g:=fun g hg ho=>ho.elim (fun he=>by have h1:=h.out.2 g (h.out.1 ▸ he);have h2:=h.base k g ⟨_,hk,rfl⟩ hg;exact h2.elim (fun h2=>by omega) h1.2) fun ⟨j,hl,hj⟩ =>
    (live_setDead hl).2 (h.inj j k g (live_setDead hl).1 ⟨_,hk,rfl⟩ hj hg)
   have hone:=dcv_oneCell hc
   have hcs:=allD_spec hD
   subst hcs
   cases c with
   | d x=>exact den_mono hs x u hc
   | op j off =>
    obtain ⟨g,h1,h2,h3⟩:=hc
    by_cases e:j=k
    ·subst e
     simp only [fzB,beq_self_eq_true,cond_true]
     split
     ·rename_i hle
      obtain ⟨g',us,h4,h5,h6⟩:=h.objs j _ hk
      rw [h2] at h4
      injection h4 with h4
      subst h4 h3
      refine ⟨⟨g,off,none⟩,rfl,(Array.getElem?_eq_some_iff.1 h5).1,hno g h2,?_⟩
      have h7:=denVs_of_dcvs h6
      have h8:denCs w (own ι σ.ob) ⟨g,0,none⟩ ds:=denCs_of_vals h7 (fun jj u hj=>by
       rw [add_lit',cell_of_row w g (0+jj) us t (0,0) h5]
       simpa using hj)
      have h9:=denCs_drop h8 off hle
      rw [add_lit',Nat.zero_add] at h9
      exact denCs_mono' hs _ _ _ (Nat.le_refl _) (fun _ _=>rfl) h9
     ·exact hone
    ·simp only [fzB,bne_nat e,cond_false];exact ⟨g,live_setDead' h1 e,h2,h3⟩
   | oe j i off =>
    obtain ⟨g,t',size',es',h1,h2,h3,h4⟩:=hc
    have e:j≠k:=fun e=>by subst e;rw [hk] at h2;cases h2
    exact ⟨g,t',size',es',h1,by rw [setDead_get,if_neg e,h2];rfl,h3,h4⟩
   | os j =>
    obtain ⟨t',size',es',h1,h2⟩:=hc
    have e:j≠k:=fun e=>by subst e;rw [hk] at h1;cases h1
    exact ⟨t',size',es',by rw [setDead_get,if_neg e,h1];rfl,h2⟩
   | om j =>
    obtain ⟨g,h1,h2,h3⟩:=hc
    by_cases e:j=k
    ·subst e;simp only [fzB,beq_self_eq_true,cond_true];exact hone
    ·simp only [fzB,bne_nat e,cond_false];exact ⟨g,live_setDead' h1 e,h2,h3⟩
   | any=>exact hc
 ·injection hf with hf;subst hf;exact h
 ·cases hf
theorem fzs_sound:∀ {ks:List Nat} {σ σ':LS},StI N w0 ι σ a w→fzs σ ks=some σ'→StI N w0 ι σ' a w
 | [],σ,σ',h,hf=>by simp only [fzs,Option.some.injEq] at hf;subst hf;exact h
 | k::ks,σ,σ',h,hf=>by
  simp only [fzs] at hf
  cases hk:fz σ k with
  | none=>simp [hk] at hf
  | some σ1=>simp only [hk] at hf;exact fzs_sound (fz_sound h hk) hf
theorem live_fz {k j:Nat} (hf:fz σ k=some σ') (h:live σ'.ob j):live σ.ob j:=by
 unfold fz at hf
 split at hf
 ·injection hf with hf;subst hf;exact (live_setDead h).1
 ·rename_i cs _
  cases hD:allD cs with
  | none=>simp only [hD] at hf;injection hf with hf;subst hf;exact (live_setDead h).1
  | some ds=>simp only [hD] at hf;injection hf with hf;subst hf;exact (live_setDead h).1
 ·injection hf with hf;subst hf;exact h
 ·cases hf
theorem live_fzs {j:Nat}:∀ {ks:List Nat} {σ σ':LS},fzs σ ks=some σ'→live σ'.ob j→live σ.ob j
 | [],σ,σ',hf,h=>by simp only [fzs,Option.some.injEq] at hf;subst hf;exact h
 | k::ks,σ,σ',hf,h=>by
  simp only [fzs] at hf
  cases hk:fz σ k with
  | none=>simp [hk] at hf
  | some σ1=>simp only [hk] at hf;exact live_fz hk (live_fzs hf h)
/-! ### New blocks -/
theorem StI.newBox (h:StI N w0 ι σ a w) {t:TypeId} {cs:List CV} {us:Array Value} (hd:dcvs w (own ι σ.ob) ι σ.ob cs us.toList) :
  StI N w0 (upd ι σ.ob.length (some w.heap.size)) (σ.add (.bx t cs)) a (w.alloc (.cells us t)):=by
 have he:=Ext.alloc noB w (.cells us t)
 have hs:Stays noB (own ι σ.ob) (own (upd ι σ.ob.length (some w.heap.size)) (σ.ob++[OB.bx t cs])) w (w.alloc (.cells us t)):=⟨he,fun _ _ h=>h.elim,fun b hb ho=>by
  rcases ho with ho|⟨k,hl,hi⟩
  ·exact .inl ho
  rcases live_add hl with hl|⟨rfl,_⟩
  ·exact .inr ⟨k,hl,by rwa [upd_ne ι _ (by have:=hl.lt;omega)] at hi⟩
  ·rw [upd_same] at hi;injection hi with hi;omega⟩
 refine h.add he (fun b hb=>by injection hb with hb;omega) (fun _ _ _ e=>by cases e) ?_
 exact ⟨w.heap.size,us,upd_same _ _ _,heap_alloc_new w _,dcvs_imp (R:=fun _ _=>True) hd (fun c u _ hc=>dcv_add hs hc)⟩
theorem StI.newRow (h:StI N w0 ι σ a w) {t:Nat} (ht:t<1000000) {size:Nat} (hsz:0<size) {es:List (List DV)} {us:Array Value} (hd:denVs w (own ι σ.ob) es.flatten us.toList) (hl:∀ e∈es,e.length=size) {cap:Nat} (hc:us.size=cap*size) (hcap:cap≤maxLen) (hle:es.length≤cap) :
  es.length=cap→StI N w0 (upd ι σ.ob.length (some w.heap.size)) (σ.add (.rw t size es)) a (w.alloc (.cells us t)):=by
 intro hec
 have he:=Ext.alloc noB w (.cells us t)
 have hs:Stays noB (own ι σ.ob) (own (upd ι σ.ob.length (some w.heap.size)) (σ.ob++[OB.rw t size es])) w (w.alloc (.cells us t)):=⟨he,fun _ _ h=>h.elim,fun b hb ho=>by
  rcases ho with ho|⟨k,hl,hi⟩
  ·exact .inl ho
  rcases live_add hl with hl|⟨rfl,_⟩
  ·exact .inr ⟨k,hl,by rwa [upd_ne ι _ (by have:=hl.lt;omega)] at hi⟩
  ·rw [upd_same] at hi;injection hi with hi;omega⟩
 refine h.add he (fun b hb=>by injection hb with hb;omega) (fun _ _ _ e=>by injection e with e;exact e ▸ ht) ?_
 refine ⟨hsz,.inr ⟨w.heap.size,us,cap,upd_same _ _ _,(by rw [tyOf_small ht];exact heap_alloc_new w _),hc,hle,capOK_small ht hcap,?_⟩⟩
 have hd':denVs (w.alloc (.cells us t)) (own (upd ι σ.ob.length (some w.heap.size)) (σ.ob++[OB.rw t size es])) es.flatten us.toList:=denVs_mono hs _ _ hd
 refine rdEs_of_vals size hd' hl (fun j u hj=>?_)
 rw [add_lit',Nat.zero_add,cell_of_row _ _ j us t (0,0) (heap_alloc_new w _)]
 simpa using hj
end
open Go Go.RowKit
def klR (k:Nat):CV→CV
 | .os j=>bif j == k then .any else .os j
 | .oe j i o=>bif j == k then .any else .oe j i o
 | .op j o=>bif j == k then .any else .op j o
 | .om j=>bif j == k then .any else .om j
 | c=>c
def setOB (f:CV→CV) (o':OB):List OB→Nat→List OB
 | [],_=>[]
 | _::r,0=>o'::r.map (mapOB f)
 | o::r,k+1=>mapOB f o::setOB f o' r k
@[reducible] def bD (b:UInt8):List DV:=[.v (.int .u8 b.toNat)]
def elemsL (ob:List OB):LV→Option (Nat × List (List DV))
 | .c (.d (.sl size xs))=>some (size,xs)
 | .c (.d (.v (.slice none 0 0)))=>some (0,[])
 | .c (.os k)=>match ob[k]? with|some (.rw _ size xs)=>some (size,xs)|_=>none
 | _=>none
section
variable {P:Program} {T:Tab} {N:Nat} {w0:W0} {ι ι':Io} {σ σ':LS} {a:Act} {w w':World} {O:Nat→Prop} {ob ob':List OB}
theorem setOB_get (f:CV→CV) (o':OB):∀ (ob:List OB) (k j:Nat),(setOB f o' ob k)[j]?=if j=k then (ob[j]?).map (fun _=>o') else (ob[j]?).map (mapOB f)
 | [],k,j=>by simp [setOB]
 | o::r,0,j=>by
  cases j with
  | zero=>simp [setOB]
  | succ j=>simp [setOB]
 | o::r,k+1,j=>by
  cases j with
  | zero=>simp [setOB]
  | succ j=>simp [setOB,setOB_get f o' r k j]
theorem live_setOB {f:CV→CV} {o o':OB} {k:Nat} (hk:ob[k]?=some o) (hd:o.isDead=false) (hd':o'.isDead=false) (j:Nat):live (setOB f o' ob k) j↔live ob j:=by
 unfold live
 rw [setOB_get]
 by_cases e:j=k
 ·subst e
  rw [if_pos rfl,hk]
  exact ⟨fun _=>⟨o,rfl,hd⟩,fun _=>⟨o',rfl,hd'⟩⟩
 ·rw [if_neg e]
  cases h:ob[j]? with
  | none=>simp
  | some x=>simp [mapOB_dead]
theorem row_owns (h:StI N w0 ι σ a w) {k:Nat} {t:TypeId} {size:Nat} {es:List (List DV)} (hk:σ.ob[k]?=some (.rw t size es)) {u:Value} (hu:hdr w (ι k) size es.length u) :
  ∃ xs,w.ownsRow 0 (tyOf t) size u es.length xs∧denVs w (own ι σ.ob) es.flatten xs∧(∀ e∈es,e.length=size)∧u.ownBlock=ι k∧0<size:=by
 obtain ⟨hsz,h1|⟨g,cur,cap,h1,h2,h3,h4,h5,h6⟩⟩:=h.objs k _ hk
 ·obtain ⟨h1,rfl⟩:=h1
  rcases hu with ⟨_,_,rfl⟩|⟨b,_,_,_,h2,_⟩
  ·exact ⟨[],World.ownsRow_nil w _ (tyOf t) size,rfl,by simp,by rw [h1];rfl,hsz⟩
  ·rw [h1] at h2;cases h2
 ·rcases hu with ⟨h7,_⟩|⟨b,cur',cap',t',h7,h8,h9,h10,h11,rfl⟩
  ·rw [h1] at h7;cases h7
  ·rw [h1] at h7
   injection h7 with h7
   subst h7
   rw [h2] at h8
   injection h8 with h8
   injection h8 with e1 e2
   subst e1 e2
   have hcc:cap=cap':=by
    have:cap*size=cap'*size:=by rw [← h3,← h9]
    exact Nat.eq_of_mul_eq_mul_right hsz this
   subst hcc
   obtain ⟨us,k1,k2,k3,k4⟩:=rdEs_vals size h6
   refine ⟨us,⟨k2,.inr ⟨g,cap,cur,rfl,Nat.zero_le _,h2,h4,h5.1,h3,?_⟩⟩,k1,k3,h1.symm,hsz⟩
   apply List.ext_getElem?
   intro j
   rw [List.getElem?_take]
   split
   ·rename_i hj
    have hj':j<us.length:=by omega
    have h10:=k4 j us[j] (List.getElem?_eq_getElem hj')
    rw [add_lit',Nat.zero_add,cell_of_row w g j cur (tyOf t) (0,0) h2] at h10
    rw [List.getElem?_eq_getElem hj',← h10]
    simp
   ·rename_i hj
    rw [List.getElem?_eq_none (by omega)]
theorem owns_hdr {base:Nat} {t:TypeId} {size n:Nat} {u:Value} {xs:List Value} (h:w.ownsRow base t size u n xs):hdr w u.ownBlock size n u:=by
 rcases h.2 with ⟨rfl,rfl⟩|⟨g,cap,cur,rfl,_,hg,h1,h2,h3,_⟩
 ·exact .inl ⟨rfl,rfl,rfl⟩
 ·exact .inr ⟨g,cur,cap,t,rfl,hg,h3,h1,h2,rfl⟩
theorem owns_dob {base:Nat} {t:Nat} (ht:t<1000000) {size:Nat} {es:List (List DV)} {u:Value} {xs:List Value} (h:w.ownsRow base t size u es.length xs) (hsz:0<size) (hd:denVs w O es.flatten xs) (hl:∀ e∈es,e.length=size) {k:Nat} (hk:ι k=u.ownBlock):dob w O ι ob k (.rw t size es):=by
 refine ⟨hsz,?_⟩
 rcases h.2 with ⟨rfl,h0⟩|⟨g,cap,cur,rfl,_,hg,h1,h2,h3,h4⟩
 ·exact .inl ⟨hk,List.eq_nil_of_length_eq_zero h0⟩
 ·refine .inr ⟨g,cur,cap,hk,(by rw [tyOf_small ht];exact hg),h3,h1,capOK_small ht h2,rdEs_of_vals size hd hl (fun j v hj=>?_)⟩
  rw [add_lit',Nat.zero_add,cell_of_row w g j cur t (0,0) hg]
  rw [← h4,List.getElem?_take] at hj
  split at hj
  ·simpa using hj
  ·cases hj
theorem elems_den (h:StI N w0 ι σ a w) {x:LV} {size:Nat} {xs:List (List DV)} (hx:elemsL σ.ob x=some (size,xs)) {u:Value} (hu:dlv w (own ι σ.ob) ι σ.ob x u) :
  ∃ A c news,u=.slice A xs.length c∧denVs w (own ι σ.ob) xs.flatten news∧news.length=xs.length*size∧(∀ e∈xs,e.length=size)∧(0<xs.length→∃ ad,A=some ad∧∀ j v,news[j]?=some v→w.cell? (ad.add j)=some v):=by
 unfold elemsL at hx
 split at hx
 ·rename_i size0 xs0
  simp only [Option.some.injEq,Prod.mk.injEq] at hx
  obtain ⟨e1,e2⟩:=hx
  subst e1 e2
  obtain ⟨A,cap,rfl,h1,h2,h3⟩:=hu
  by_cases hl:0<xs0.length
  ·obtain ⟨ad,rfl,hb,ho,hr⟩:=h3 hl
   obtain ⟨us,k1,k2,k3,k4⟩:=rdEs_vals _ hr
   exact ⟨some ad,cap,us,rfl,k1,k2,k3,fun _=>⟨ad,rfl,k4⟩⟩
  ·have:xs0=[]:=List.eq_nil_of_length_eq_zero (by omega)
   subst this
   exact ⟨A,cap,[],rfl,rfl,by simp,by simp,fun h=>by simp at h⟩
 ·simp only [Option.some.injEq,Prod.mk.injEq] at hx
  obtain ⟨e1,e2⟩:=hx
  subst e1 e2
  obtain ⟨rfl,_⟩:=hu
  exact ⟨none,0,[],rfl,rfl,by simp,by simp,fun h=>by simp at h⟩
 ·rename_i k
  split at hx
  ·rename_i t' size' xs' hk
   simp only [Option.some.injEq,Prod.mk.injEq] at hx
   obtain ⟨e1,e2⟩:=hx
   subst e1 e2
   obtain ⟨t'',size'',es'',hk',hh⟩:=hu
   rw [hk] at hk'
   injection hk' with hk'
   injection hk' with e1 e2 e3
   subst e1 e2 e3
   obtain ⟨us,k1,k2,k3,k4,_⟩:=row_owns h hk hh
   rcases k1.2 with ⟨rfl,h0⟩|⟨g,cap,cur,rfl,_,hg,_⟩
   ·have:xs'=[]:=List.eq_nil_of_length_eq_zero h0
    subst this
    exact ⟨none,0,[],rfl,rfl,by simp,by simp,fun h=>by simp at h⟩
   ·exact ⟨_,_,us,rfl,k2,k1.1,k3,fun _=>⟨_,rfl,fun j v hj=>k1.cells (g:=g) rfl j v hj⟩⟩
  ·cases hx
 ·cases hx
theorem run_append_zero {t ty:TypeId} {e:TypeId} (ht:P.underlying t=some (.slice e)) {x:TypeInfo} (hi:P.info? e=some x) {B A:Option Addr} {n cap c:Nat} (hn:n≤cap) :
  (Builtin.append_ #[t,t] ty #[.slice B n cap,.slice A 0 c]).run P w=.ok (.slice B n cap) w:=by
 have hni:∀ k,(P.underlying t)=some (.int k)→False:=fun k hk=>by rw [ht] at hk;cases hk
 cases A<;>cases B<;>simp [Builtin.append_,Go.run_underlying ht,sizeOf,typeInfo,hi,Builtin.lenOf,Builtin.firstCells,hn,loadCells,loadCellsFrom,storeCells]
theorem StI.append (hT:okT P T) (h:StI N w0 ι σ a w) {t e:TypeId} {i j:TI} (hTt:T t=some i) (hd:i.desc=.slice e) (hTe:T e=some j) (hz:j.zero.cells.size=j.size)
  {k:Nat} {es:List (List DV)} (hk:σ.ob[k]?=some (.rw e j.size es)) {u:Value} (hu:hdr w (ι k) j.size es.length u) {x:LV} {size:Nat} {xs:List (List DV)} (hx:elemsL σ.ob x=some (size,xs)) (hss:size=j.size∨xs=[])
  {v:Value} (hv:dlv w (own ι σ.ob) ι σ.ob x v) (h63:es.length+xs.length≤maxLen) (hby:(es.length+xs.length)*j.bytes≤140737488355328) (ty:TypeId) :
  ∃ u' w' ι',(Builtin.append_ #[t,t] ty #[u,v]).run P w=.ok u' w'∧StI N w0 ι' ⟨mapSl (klR k) σ.sl,setOB (klR k) (.rw e j.size (es++xs)) σ.ob k⟩ a w'∧hdr w' (ι' k) j.size (es++xs).length u':=by
 obtain ⟨xs0,k1,k2,k3,k4,hsz⟩:=row_owns h hk hu
 have hsm:=(hT e j hTe).small
 rw [tyOf_small hsm] at k1
 obtain ⟨A,c,news,rfl,n1,n2,n3,n4⟩:=elems_den h hx hv
 have n3':∀ e∈xs,e.length=j.size:=by
  rcases hss with rfl|rfl
  ·exact n3
  ·simp
 have n2':news.length=xs.length*j.size:=by
  rcases hss with rfl|rfl
  ·exact n2
  ·simpa using n2
 have hund:=(hT t i hTt).und
 rw [hd] at hund
 obtain ⟨ti,g1,g2,g3,g4⟩:=(hT e j hTe).inf
 have hone:∀ {ds:List DV} {us:List Value},denVs w (own ι σ.ob) ds us→∀ u∈us,u.oneCell'=true:=by
  intro ds
  induction ds with
  | nil=>intro us hd u hu;simp only [denVs] at hd;subst hd;simp at hu
  | cons d ds ih =>
   intro us hd u hu
   obtain ⟨y,r,rfl,hy,hr⟩:=hd
   rcases List.mem_cons.1 hu with rfl|hu
   ·exact den_oneCell hy
   ·exact ih hr u hu
 have hrun:∃ u' w',(Builtin.append_ #[t,t] ty #[u,.slice A xs.length c]).run P w=.ok u' w'∧w'.ownsRow 0 e j.size u' (es.length+xs.length) (xs0++news)∧w.grownBy w' u.ownBlock∧(u'.ownBlock=u.ownBlock∨u'.ownBlock=some w.heap.size):=by
  by_cases hl:0<xs.length
  ·obtain ⟨ad,rfl,hc⟩:=n4 hl
   obtain ⟨u',w',r1,r2,r3,_,r5⟩:=run_append_own_at (P:=P) w 0 t ty e ti j.zero j.size j.bytes hund g1 g4 g2 g3 hz hsz u es.length xs0 k1 ad xs.length c news n2' hc (hone n1) h63 hby (Nat.zero_le _)
   exact ⟨u',w',r1,r2,r3,r5⟩
  ·have hxs:xs=[]:=List.eq_nil_of_length_eq_zero (by omega)
   subst hxs
   have hnews:news=[]:=List.eq_nil_of_length_eq_zero (by simpa using n2')
   subst hnews
   refine ⟨u,w,?_,by simpa using k1,World.grownBy.refl w _,.inl rfl⟩
   rcases k1.2 with ⟨rfl,h0⟩|⟨g,cap,cur,rfl,_,_,hn,_⟩
   ·exact run_append_zero hund g1 (Nat.le_refl 0)
   ·exact run_append_zero hund g1 hn
 obtain ⟨u',w',r1,r2,r3,r4⟩:=hrun
 have hlen:(es++xs).length=es.length+xs.length:=List.length_append
 have hk':live σ.ob k:=⟨_,hk,rfl⟩
 have he:Ext (fun b=>ι k=some b) w w':=Ext.of_grown r3 (fun g hg=>by rw [← k4];exact hg)
 have hlv:∀ jj,live (setOB (klR k) (.rw e j.size (es++xs)) σ.ob k) jj↔live σ.ob jj:=fun jj=>live_setOB hk rfl rfl jj
 have hO':∀ b,own (upd ι k u'.ownBlock) (setOB (klR k) (.rw e j.size (es++xs)) σ.ob k) b→own ι σ.ob b∨b=w.heap.size:=by
  rintro b (ho|⟨jj,hl,hb⟩)
  ·exact .inl (.inl ho)
  replace hl:=(hlv jj).1 hl
  by_cases e:jj=k
  ·rw [e,upd_same] at hb
   rcases r4 with r4|r4
   ·exact .inl (.inr ⟨k,hk',by rw [← k4,← r4];exact hb⟩)
   ·rw [r4] at hb;injection hb with hb;exact .inr hb.symm
  ·rw [upd_ne _ _ e] at hb;exact .inl (.inr ⟨jj,hl,hb⟩)
 have hs:Stays (fun b=>ι k=some b) (own ι σ.ob) (own (upd ι k u'.ownBlock) (setOB (klR k) (.rw e j.size (es++xs)) σ.ob k)) w w' :=
  ⟨he,fun b _ hb=>.inr ⟨k,hk',hb⟩,fun b hb ho=>(hO' b ho).resolve_right (by omega)⟩
 have hcv:∀ cc y,dcv w (own ι σ.ob) ι σ.ob cc y→dcv w' (own (upd ι k u'.ownBlock) (setOB (klR k) (.rw e j.size (es++xs)) σ.ob k)) (upd ι k u'.ownBlock) (setOB (klR k) (.rw e j.size (es++xs)) σ.ob k) (klR k cc) y:=by
  intro cc y hc
  have ho1:=dcv_oneCell hc
  have hup:∀ jj,jj≠k→upd ι k u'.ownBlock jj=ι jj:=fun jj hj=>upd_ne _ _ hj
  cases cc with
  | d z=>exact den_mono hs z y hc
  | op jj off =>
   by_cases e:jj=k
   ·subst e;simp only [klR,beq_self_eq_true,cond_true];exact ho1
   ·simp only [klR,bne_nat e,cond_false]
    obtain ⟨b,h1,h2⟩:=hc
    exact ⟨b,(hlv jj).2 h1,by rw [hup jj e];exact h2⟩
  | oe jj i' off =>
   by_cases e:jj=k
   ·subst e;simp only [klR,beq_self_eq_true,cond_true];exact ho1
   ·simp only [klR,bne_nat e,cond_false]
    obtain ⟨b,t',size',es',h1,h2,h3⟩:=hc
    exact ⟨b,t',size',es',by rw [hup jj e];exact h1,by rw [setOB_get,if_neg e,h2];rfl,h3⟩
  | os jj =>
   by_cases e:jj=k
   ·subst e;simp only [klR,beq_self_eq_true,cond_true];exact ho1
   ·simp only [klR,bne_nat e,cond_false]
    obtain ⟨t',size',es',h1,h2⟩:=hc
    refine ⟨t',size',es',by rw [setOB_get,if_neg e,h1];rfl,?_⟩
    rw [hup jj e]
    exact hdr_ext he (fun b hb hbg=>e (h.inj jj k b ⟨_,h1,rfl⟩ hk' hb hbg)) h2
  | om jj =>
   by_cases e:jj=k
   ·subst e;simp only [klR,beq_self_eq_true,cond_true];exact ho1
   ·simp only [klR,bne_nat e,cond_false]
    obtain ⟨b,h1,h2⟩:=hc
    exact ⟨b,(hlv jj).2 h1,by rw [hup jj e];exact h2⟩
  | any=>exact hc
 have hkk:upd ι k u'.ownBlock k=u'.ownBlock:=upd_same _ _ _
 refine ⟨u',w',upd ι k u'.ownBlock,r1,h.turn (klR k) hcv ?_ ?_ ?_ ?_ ?_,by rw [hlen,hkk];exact owns_hdr r2⟩
 ·intro jj o hj
  rw [setOB_get] at hj
  by_cases e:jj=k
  ·subst e
   rw [if_pos rfl,hk] at hj
   simp at hj
   subst hj
   exact owns_dob hsm (by rw [hlen];exact r2) hsz (by rw [List.flatten_append];exact denVs_mono hs _ _ (denVs_append k2 n1)) (fun e he=>by
    rcases List.mem_append.1 he with he|he
    ·exact k3 e he
    ·exact n3' e he) hkk
  ·rw [if_neg e] at hj
   cases ho:σ.ob[jj]? with
   | none=>simp [ho] at hj
   | some y =>
    simp [ho] at hj
    subst hj
    have hup:upd ι k u'.ownBlock jj=ι jj:=upd_ne _ _ e
    have hdd:=h.objs jj y ho
    have hne:∀ b,ι jj=some b→y.isDead=false→¬ ι k=some b:=fun b hb hy hbg=>e (h.inj jj k b ⟨_,ho,hy⟩ hk' hb hbg)
    cases y with
    | bx t' cs =>
     obtain ⟨b,us,h1,h2,h3⟩:=hdd
     exact ⟨b,us,hup.trans h1,(he.block b (Array.getElem?_eq_some_iff.1 h2).1 (hne b h1 rfl)).trans h2,dcvs_map hcv h3⟩
    | rw t' size' es' =>
     refine ⟨hdd.1,?_⟩
     rcases hdd.2 with h1|⟨b,cur,cap,h1,h2,h3,h4,h5,h6⟩
     ·exact .inl ⟨hup.trans h1.1,h1.2⟩
     ·have hb:=he.block b (Array.getElem?_eq_some_iff.1 h2).1 (hne b h1 rfl)
      exact .inr ⟨b,cur,cap,hup.trans h1,hb.trans h2,h3,h4,h5,rdEs_mono' hs size' es' _ _ (Nat.le_refl _) (fun j _=>World.cell?_of_block (by rw [add_block];exact hb)) h6⟩
    | mp es' =>
     obtain ⟨b,ents,clk,h1,h2,h3⟩:=hdd
     exact ⟨b,ents,clk,hup.trans h1,(he.block b (Array.getElem?_eq_some_iff.1 h2).1 (hne b h1 rfl)).trans h2,dents_mono hs h3⟩
    | px t' size' b cap es3 =>
     obtain ⟨h0,h1,cur,h2,h3,h4,h5,h6⟩:=hdd
     have hb:=he.block b (Array.getElem?_eq_some_iff.1 h2).1 (hne b h1 rfl)
     exact ⟨h0,hup.trans h1,cur,hb.trans h2,h3,h4,h5,rdEs_mono' hs size' es3 _ _ (Nat.le_refl _) (fun j _=>World.cell?_of_block (by rw [add_block];exact hb)) h6⟩
    | dead=>trivial
 ·intro jj jj' b hl hl' hb hb'
  replace hl:=(hlv jj).1 hl
  replace hl':=(hlv jj').1 hl'
  have cases':∀ jj,live σ.ob jj→upd ι k u'.ownBlock jj=some b→(jj=k∧b=w.heap.size)∨ι jj=some b:=by
   intro j1 hl1 hb1
   by_cases e:j1=k
   ·rw [e,upd_same] at hb1
    rcases r4 with r4|r4
    ·exact .inr (by rw [e,← k4,← r4];exact hb1)
    ·rw [r4] at hb1;injection hb1 with hb1;exact .inl ⟨e,hb1.symm⟩
   ·rw [upd_ne _ _ e] at hb1;exact .inr hb1
  rcases cases' jj hl hb with ⟨e1,e2⟩|h1<;>rcases cases' jj' hl' hb' with ⟨e3,e4⟩|h2
  ·rw [e1,e3]
  ·have:=own_lt h (.inr ⟨jj',hl',h2⟩);omega
  ·have:=own_lt h (.inr ⟨jj,hl,h1⟩);omega
  ·exact h.inj jj jj' b hl hl' h1 h2
 ·intro jj b hl hb
  replace hl:=(hlv jj).1 hl
  by_cases e:jj=k
  ·rw [e,upd_same] at hb
   rcases r4 with r4|r4
   ·exact h.base k b hk' (by rw [← k4,← r4];exact hb)
   ·rw [r4] at hb;injection hb with hb;rw [← hb];exact .inl h.below.size
  ·rw [upd_ne _ _ e] at hb;exact h.base jj b hl hb
 ·exact h.below.grow he (fun b hb=>h.base k b hk' hb)
 ·intro jj t' size' es' hj ht'
  rw [setOB_get] at hj
  by_cases e:jj=k
  ·subst e
   rw [if_pos rfl,hk] at hj
   simp only [Option.map_some,Option.some.injEq,OB.rw.injEq] at hj
   exact absurd (hj.1 ▸ hsm:t'<1000000) (by omega)
  ·rw [if_neg e] at hj
   cases ho:σ.ob[jj]? with
   | none=>simp [ho] at hj
   | some y =>
    simp [ho] at hj
    cases y<;>simp only [mapOB,reduceCtorEq,OB.rw.injEq] at hj
    obtain ⟨rfl,rfl,rfl⟩:=hj
    rw [upd_ne _ _ e]
    exact h.pin jj _ _ _ ho ht'
theorem dob_rw {O O':Nat→Prop} {ι ι':Io} {ob ob':List OB} {k k':Nat} {t t' size:Nat} {es:List (List DV)} (hO:∀ b,O' b→O b) (hι:ι' k'=ι k) (ht:tyOf t'=tyOf t) (hc:∀ cap,capOK t cap→capOK t' cap) (h:dob w O ι ob k (.rw t size es)):dob w O' ι' ob' k' (.rw t' size es):=by
 have hs:Stays noB O O' w w:=⟨Ext.refl _ _,fun _ _ h=>h.elim,fun b _ hb=>hO b hb⟩
 refine ⟨h.1,?_⟩
 rcases h.2 with h1|⟨g,cur,cap,h1,h2,h3,h4,h5,h6⟩
 ·exact .inl ⟨hι.trans h1.1,h1.2⟩
 ·exact .inr ⟨g,cur,cap,hι.trans h1,by rw [ht];exact h2,h3,h4,hc _ h5,rdEs_mono' hs size es _ _ (Nat.le_refl _) (fun _ _=>rfl) h6⟩
theorem StI.regrow {N:Nat} (h:StI N w0 ι σ a w) {k t size:Nat} {es es':List (List DV)} (hk:σ.ob[k]?=some (.rw t size es)) (hsm:t<1000000) {g':Option Nat}
  (he:Ext (fun b=>ι k=some b) w w') (r4:g'=ι k∨∀ b,g'=some b→w.heap.size≤b)
  (hob:dob w' (fun b=>(own ι σ.ob b∧ι k≠some b)∨g'=some b) ⟨fun _=>g',fun b=>own ι σ.ob b∧ι k≠some b⟩ [] 0 (.rw t size es')) :
  StI N w0 (upd ι k g') ⟨mapSl (klR k) σ.sl,setOB (klR k) (.rw t size es') σ.ob k⟩ a w':=by
 have hk':live σ.ob k:=⟨_,hk,rfl⟩
 have hlv:∀ jj,live (setOB (klR k) (.rw t size es') σ.ob k) jj↔live σ.ob jj:=fun jj=>live_setOB hk rfl rfl jj
 have hO2:∀ b,own (upd ι k g') (setOB (klR k) (.rw t size es') σ.ob k) b→(own ι σ.ob b∧ι k≠some b)∨g'=some b:=by
  rintro b (ho|⟨jj,hl,hb⟩)
  ·refine .inl ⟨.inl ho,fun hb=>?_⟩
   have h1:=h.out.2 b (h.out.1 ▸ ho)
   rcases h.base k b hk' hb with h2|h2
   ·omega
   ·exact h1.2 h2
  replace hl:=(hlv jj).1 hl
  by_cases e:jj=k
  ·rw [e,upd_same] at hb;exact .inr hb
  ·rw [upd_ne _ _ e] at hb;exact .inl ⟨.inr ⟨jj,hl,hb⟩,fun hb'=>e (h.inj jj k b hl hk' hb hb')⟩
 have hO':∀ b,b<w.heap.size→own (upd ι k g') (setOB (klR k) (.rw t size es') σ.ob k) b→own ι σ.ob b:=by
  intro b hlt ho
  rcases hO2 b ho with h1|h1
  ·exact h1.1
  ·rcases r4 with r4|r4
   ·exact .inr ⟨k,hk',by rw [← r4];exact h1⟩
   ·have:=r4 b h1;omega
 have hs:Stays (fun b=>ι k=some b) (own ι σ.ob) (own (upd ι k g') (setOB (klR k) (.rw t size es') σ.ob k)) w w' :=
  ⟨he,fun b _ hb=>.inr ⟨k,hk',hb⟩,fun b hb ho=>hO' b hb ho⟩
 have hup:∀ jj,jj≠k→upd ι k g' jj=ι jj:=fun jj hj=>upd_ne _ _ hj
 have hcv:∀ cc y,dcv w (own ι σ.ob) ι σ.ob cc y→dcv w' (own (upd ι k g') (setOB (klR k) (.rw t size es') σ.ob k)) (upd ι k g') (setOB (klR k) (.rw t size es') σ.ob k) (klR k cc) y:=by
  intro cc y hc
  have ho1:=dcv_oneCell hc
  cases cc with
  | d z=>exact den_mono hs z y hc
  | op jj off =>
   by_cases e:jj=k
   ·subst e;simp only [klR,beq_self_eq_true,cond_true];exact ho1
   ·simp only [klR,bne_nat e,cond_false]
    obtain ⟨b,h1,h2⟩:=hc
    exact ⟨b,(hlv jj).2 h1,by rw [hup jj e];exact h2⟩
  | oe jj i' off =>
   by_cases e:jj=k
   ·subst e;simp only [klR,beq_self_eq_true,cond_true];exact ho1
   ·simp only [klR,bne_nat e,cond_false]
    obtain ⟨b,t',size',es2,h1,h2,h3⟩:=hc
    exact ⟨b,t',size',es2,by rw [hup jj e];exact h1,by rw [setOB_get,if_neg e,h2];rfl,h3⟩
  | os jj =>
   by_cases e:jj=k
   ·subst e;simp only [klR,beq_self_eq_true,cond_true];exact ho1
   ·simp only [klR,bne_nat e,cond_false]
    obtain ⟨t',size',es2,h1,h2⟩:=hc
    refine ⟨t',size',es2,by rw [setOB_get,if_neg e,h1];rfl,?_⟩
    rw [hup jj e]
    exact hdr_ext he (fun b hb hbg=>e (h.inj jj k b ⟨_,h1,rfl⟩ hk' hb hbg)) h2
  | om jj =>
   by_cases e:jj=k
   ·subst e;simp only [klR,beq_self_eq_true,cond_true];exact ho1
   ·simp only [klR,bne_nat e,cond_false]
    obtain ⟨b,h1,h2⟩:=hc
    exact ⟨b,(hlv jj).2 h1,by rw [hup jj e];exact h2⟩
  | any=>exact hc
 refine h.turn (klR k) hcv ?_ ?_ ?_ ?_ ?_
 ·intro jj o hj
  rw [setOB_get] at hj
  by_cases e:jj=k
  ·subst e
   rw [if_pos rfl,hk] at hj
   simp at hj
   subst hj
   exact dob_rw (ob:=[]) (ι:=⟨fun _=>g',fun b=>own ι σ.ob b∧ι jj≠some b⟩) (k:=0) (fun b hb=>hO2 b hb) (upd_same _ _ _) rfl (fun _ h=>h) hob
  ·rw [if_neg e] at hj
   cases ho:σ.ob[jj]? with
   | none=>simp [ho] at hj
   | some y =>
    simp [ho] at hj
    subst hj
    have hup:=hup jj e
    have hdd:=h.objs jj y ho
    have hne:∀ b,ι jj=some b→y.isDead=false→¬ ι k=some b:=fun b hb hy hbg=>e (h.inj jj k b ⟨_,ho,hy⟩ hk' hb hbg)
    cases y with
    | bx t' cs =>
     obtain ⟨b,us,h1,h2,h3⟩:=hdd
     exact ⟨b,us,hup.trans h1,(he.block b (Array.getElem?_eq_some_iff.1 h2).1 (hne b h1 rfl)).trans h2,dcvs_map hcv h3⟩
    | rw t' size' es2 =>
     refine ⟨hdd.1,?_⟩
     rcases hdd.2 with h1|⟨b,cur,cap,h1,h2,h3,h4,h5,h6⟩
     ·exact .inl ⟨hup.trans h1.1,h1.2⟩
     ·have hb:=he.block b (Array.getElem?_eq_some_iff.1 h2).1 (hne b h1 rfl)
      exact .inr ⟨b,cur,cap,hup.trans h1,hb.trans h2,h3,h4,h5,rdEs_mono' hs size' es2 _ _ (Nat.le_refl _) (fun j _=>World.cell?_of_block (by rw [add_block];exact hb)) h6⟩
    | mp es2 =>
     obtain ⟨b,ents,clk,h1,h2,h3⟩:=hdd
     exact ⟨b,ents,clk,hup.trans h1,(he.block b (Array.getElem?_eq_some_iff.1 h2).1 (hne b h1 rfl)).trans h2,dents_mono hs h3⟩
    | px t' size' b cap es3 =>
     obtain ⟨h0,h1,cur,h2,h3,h4,h5,h6⟩:=hdd
     have hb:=he.block b (Array.getElem?_eq_some_iff.1 h2).1 (hne b h1 rfl)
     exact ⟨h0,hup.trans h1,cur,hb.trans h2,h3,h4,h5,rdEs_mono' hs size' es3 _ _ (Nat.le_refl _) (fun j _=>World.cell?_of_block (by rw [add_block];exact hb)) h6⟩
    | dead=>trivial
 ·intro jj jj' b hl hl' hb hb'
  replace hl:=(hlv jj).1 hl
  replace hl':=(hlv jj').1 hl'
  have key:∀ jj,live σ.ob jj→upd ι k g' jj=some b→(jj=k∧w.heap.size≤b)∨ι jj=some b:=by
   intro j1 hl1 hb1
   by_cases e:j1=k
   ·rw [e,upd_same] at hb1
    rcases r4 with r4|r4
    ·exact .inr (by rw [e,← r4];exact hb1)
    ·exact .inl ⟨e,r4 b hb1⟩
   ·rw [upd_ne _ _ e] at hb1;exact .inr hb1
  rcases key jj hl hb with ⟨e1,e2⟩|h1<;>rcases key jj' hl' hb' with ⟨e3,e4⟩|h2
  ·rw [e1,e3]
  ·have:=own_lt h (.inr ⟨jj',hl',h2⟩);omega
  ·have:=own_lt h (.inr ⟨jj,hl,h1⟩);omega
  ·exact h.inj jj jj' b hl hl' h1 h2
 ·intro jj b hl hb
  replace hl:=(hlv jj).1 hl
  by_cases e:jj=k
  ·rw [e,upd_same] at hb
   rcases r4 with r4|r4
   ·exact h.base k b hk' (by rw [← r4];exact hb)
   ·exact .inl (Nat.le_trans h.below.size (r4 b hb))
  ·rw [upd_ne _ _ e] at hb;exact h.base jj b hl hb
 ·exact h.below.grow he (fun b hb=>h.base k b hk' hb)
 ·intro jj t' size' es2 hj ht'
  rw [setOB_get] at hj
  by_cases e:jj=k
  ·subst e
   rw [if_pos rfl,hk] at hj
   simp only [Option.map_some,Option.some.injEq,OB.rw.injEq] at hj
   exact absurd (hj.1 ▸ hsm:t'<1000000) (by omega)
  ·rw [if_neg e] at hj
   cases ho:σ.ob[jj]? with
   | none=>simp [ho] at hj
   | some y =>
    simp [ho] at hj
    cases y<;>simp only [mapOB,reduceCtorEq,OB.rw.injEq] at hj
    obtain ⟨rfl,rfl,rfl⟩:=hj
    rw [upd_ne _ _ e]
    exact h.pin jj _ _ _ ho ht'
end
open Go Go.RowKit
inductive ER where
 | ok (p:Prop) (σ':LS) (x:LV)
 | no
def elemsB (σ:LS) (sz:Nat):Nat→List (Nat × Operand)→Option (List (List DV))
 | _,[]=>some []
 | i,(j,x)::r =>
  match (ev σ x).cellish,allD (cellsL (ev σ x)),elemsB σ sz (i+1) r with
  | true,some ds,some es=>if j=i∧ds.length=sz then some (ds::es) else none
  | _,_,_=>none
def capsB (σ:LS):List Operand→Option (List DV)
 | []=>some []
 | x::r =>
  match ev σ x,capsB σ r with
  | .c (.d d),some ds=>some (d::ds)
  | _,_=>none
def mset:List (ByteArray × DV)→ByteArray→DV→List (ByteArray × DV)
 | [],k,x=>[(k,x)]
 | (k',y)::r,k,x=>if k'=k then (k,x)::r else (k',y)::mset r k x
def zeroD:Value→List DV
 | .agg us=>us.toList.map .v
 | v=>[.v v]
/-! ### An empty slice,as a slice of elements -/
def nilsOf (T:Tab):Nat→TypeId→List (Option Nat)
 | 0,_=>[]
 | n+1,t=>match T t with
  | some i=>match i.desc with
   | .slice e=>match T e with|some j=>[some j.size]|none=>[]
   | .struct fs=>fs.toList.flatMap fun f=>nilsOf T n f.type
   | _=>List.replicate i.size none
  | none=>[]
def nzD:Option Nat→DV→DV
 | some k,.v (.slice none 0 0)=>.sl k []
 | _,d=>d
def nzDs:List (Option Nat)→List DV→List DV
 | n::ns,d::ds=>nzD n d::nzDs ns ds
 | _,ds=>ds
def nzC (n:Option Nat):CV→CV
 | .d d=>.d (nzD n d)
 | c=>c
def nzCs:List (Option Nat)→List CV→List CV
 | n::ns,d::ds=>nzC n d::nzCs ns ds
 | _,ds=>ds
def nzL (ns:List (Option Nat)):LV→LV
 | .c c=>match ns with|n::_=>.c (nzC n c)|[]=>.c c
 | .ag cs=>.ag (nzCs ns cs)
 | .tu xs=>.tu xs
def nzP:List (Nat × Operand)→List (Option Nat)→List (Option Nat)
 | [(_,.const (.slice none 0 0))],_=>[]
 | _,ns=>ns
def ebuildSlice (T:Tab) (σ:LS) (t n:Nat) (ps:List (Nat × Operand)):ER :=
 match T t with
 | some ⟨.slice e,_,_,_,_⟩ =>
  match T e,fzs σ (ps.flatMap fun p=>refL σ.ob (ev σ p.2)) with
  | some j,some σ1 =>
   match elemsB σ1 j.size 0 ps with
   | some es=>.ok (n=es.length∧0<j.size∧n*j.size≤16777216∧j.zero.cells.size=j.size) (σ1.add (.rw e j.size (es.map (nzDs (nzP ps (nilsOf T 4 e)))))) (.c (.os σ1.ob.length))
   | none=>.no
  | _,_=>.no
 | _=>.no
def emakeSlice (T:Tab) (σ:LS) (t:Nat) (l c:LV):ER :=
 match T t,l,c with
 | some ⟨.slice e,_,_,_,_⟩,.c (.d (.v (.int _ n))),.c (.d (.v (.int _ m))) =>
  match T e with
  | some j=>.ok (n=m∧0≤n∧n≤9223372036854775807∧(j.bytes:Int)*n≤281474976710656∧0<j.size∧okZero j.zero=true∧j.zero.cells.size=j.size) (σ.add (.rw e j.size (List.replicate n.toNat (zeroD j.zero)))) (.c (.os σ.ob.length))
  | none=>.no
 | _,_,_=>.no
def estore (T:Tab) (σ:LS) (t:Nat) (ad v:Operand):ER :=
 match T t,ev σ ad with
 | some i,.c (.op k off) =>
  match σ.ob[k]? with
  | some (.bx t' cs)=>if (ev σ v).cellish then .ok ((cellsL (ev σ v)).length=i.size∧off+i.size≤cs.length) { σ with ob:=σ.ob.set k (.bx t' (putL cs off (cellsL (ev σ v)))) } (.c .any) else .no
  | _=>.no
 | some i,.c (.oe _ _ _) =>
  match fzs σ (refL σ.ob (ev σ v)) with
  | some σ1 =>
   match ev σ1 ad with
   | .c (.oe k n off) =>
    match σ1.ob[k]?,(ev σ1 v).cellish,allD (cellsL (ev σ1 v)) with
    | some (.rw t' size es),true,some ds=>.ok (ds.length=i.size∧off+i.size≤size∧n<es.length) { σ1 with ob:=σ1.ob.set k (.rw t' size (es.set n ((es.getD n []).take off++ds++(es.getD n []).drop (off+ds.length)))) } (.c .any)
    | _,_,_=>.no
   | _=>.no
  | none=>.no
 | _,_=>.no
def eappend (T:Tab) (σ:LS) (ts:List Nat) (s x:Operand):ER :=
 match ts with
 | [t,t'] =>
  if t'=t then
   match T t with
   | some ⟨.slice e,_,_,_,_⟩ =>
    match T e with
    | some j =>
     match ev σ s,elemsL σ.ob (ev σ x) with
     | .c (.os k),some (size,xs) =>
      match σ.ob[k]? with
      | some (.rw e' size' es)=>.ok (e'=e∧size'=j.size∧(size=j.size∨xs=[])∧j.zero.cells.size=j.size∧es.length+xs.length≤maxLen∧(es.length+xs.length)*j.bytes≤140737488355328)
        ⟨mapSl (klR k) σ.sl,setOB (klR k) (.rw e j.size (es++xs)) σ.ob k⟩ (.c (.os k))
      | _=>.no
     | .c (.d (.v (.slice none 0 0))),some (size,xs)=>.ok (0<j.size∧(size=j.size∨xs=[])∧j.zero.cells.size=j.size∧xs.length≤maxLen∧xs.length*j.bytes≤140737488355328)
        (σ.add (.rw e j.size xs)) (.c (.os σ.ob.length))
     | _,_=>.no
    | none=>.no
   | _=>.no
  else .no
 | _=>.no
def strD (s:ByteArray):List (List DV):=s.data.toList.map bD
def eappendS (T:Tab) (σ:LS) (ts:List Nat) (s x:Operand):ER :=
 match ts with
 | [t,t'] =>
  match T t,T t' with
  | some ⟨.slice e,_,_,_,_⟩,some ⟨.string,_,_,_,_⟩ =>
   match T e,ev σ s,ev σ x with
   | some j,.c (.os k),.c (.d (.v (.string str))) =>
    match σ.ob[k]? with
    | some (.rw e' size es)=>.ok (e'=e∧size=1∧j.size=1∧j.bytes=1∧j.zero=.int .u8 0∧es.length+str.size≤140737488355328)
      ⟨mapSl (klR k) σ.sl,setOB (klR k) (.rw e 1 (es++strD str)) σ.ob k⟩ (.c (.os k))
    | _=>.no
   | _,_,_=>.no
  | _,_=>.no
 | _=>.no
def orS (e:ER) (T:Tab) (σ:LS) (ts:List Nat) (s x:Operand):ER:=match e with
 | .ok p σ' y=>.ok p σ' y
 | .no=>eappendS T σ ts s x
theorem orS_ok {p:Prop} {σ':LS} {y:LV} {T:Tab} {σ:LS} {ts:List Nat} {s x:Operand}:orS (.ok p σ' y) T σ ts s x=.ok p σ' y:=rfl
theorem orS_no {T:Tab} {σ:LS} {ts:List Nat} {s x:Operand}:orS .no T σ ts s x=eappendS T σ ts s x:=rfl
def mdel:List (ByteArray × DV)→ByteArray→List (ByteArray × DV)
 | [],_=>[]
 | (k',y)::r,k=>if k'=k then r else (k',y)::mdel r k
def emapDelete (T:Tab) (σ:LS) (ts:List Nat) (m k:Operand):ER :=
 match ts with
 | t::_ =>
  match T t with
  | some ⟨.map kt _,_,_,_,_⟩ =>
   match T kt with
   | some ⟨.string,_,_,_,_⟩ =>
    match ev σ m,ev σ k with
    | .c (.om n),.c (.d (.v (.string s))) =>
     match σ.ob[n]? with
     | some (.mp es)=>.ok True { σ with ob:=σ.ob.set n (.mp (mdel es s)) } (.tu [])
     | _=>.no
    | _,_=>.no
   | _=>.no
  | _=>.no
 | _=>.no
def emapUpdate (T:Tab) (σ:LS) (t:Nat) (m k v:Operand):ER :=
 match T t with
 | some ⟨.map kt _,_,_,_,_⟩ =>
  match T kt,fzs σ (refL σ.ob (ev σ v)) with
  | some ⟨.string,_,_,_,_⟩,some σ1 =>
   match ev σ1 m,ev σ1 k,ev σ1 v with
   | .c (.om n),.c (.d (.v (.string s))),.c (.d d) =>
    match σ1.ob[n]? with
    | some (.mp es)=>.ok True { σ1 with ob:=σ1.ob.set n (.mp (mset es s d)) } (.c .any)
    | _=>.no
   | _,_,_=>.no
  | _,_=>.no
 | _=>.no
def emakeFunc (σ:LS) (f:FuncId) (caps:List Operand):ER :=
 match fzs σ (caps.flatMap fun x=>refL σ.ob (ev σ x)) with
 | some σ1 =>
  match capsB σ1 caps with
  | some ds=>.ok True σ1 (.c (.d (.clo f ds)))
  | none=>.no
 | none=>.no
def ecall (T:Tab) (σ:LS) (c:Call):ER :=
 match c.callee,c.args.toList with
 | .builtin .append,[s,x]=>orS (eappend T σ c.argTypes.toList s x) T σ c.argTypes.toList s x
 | .builtin .delete,[m,k]=>emapDelete T σ c.argTypes.toList m k
 | _,_=>.no
def eff (T:Tab) (σ:LS):Op→ER
 | .box t v=>if (ev σ v).cellish then .ok True (σ.add (.bx t (cellsL (ev σ v)))) (.c (.op σ.ob.length 0)) else .no
 | .alloc t=>match T t with|some i=>if okZero i.zero then .ok True (σ.add (.bx t (zeroL i.zero))) (.c (.op σ.ob.length 0)) else .no|none=>.no
 | .buildSlice t n ps=>ebuildSlice T σ t n ps.toList
 | .makeSlice t l c=>emakeSlice T σ t (ev σ l) (ev σ c)
 | .makeMap _ none=>.ok True (σ.add (.mp [])) (.c (.om σ.ob.length))
 | .makeMap t (some x)=>match T t,ev σ x with
  | some ⟨.map _ _,_,_,_,_⟩,.c (.d (.v (.int _ _)))=>.ok True (σ.add (.mp [])) (.c (.om σ.ob.length))
  | _,_=>.no
 | .store t a v=>estore T σ t a v
 | .mapUpdate t m k v=>emapUpdate T σ t m k v
 | .makeFunc (.func f) first caps=>if first.size=0 then emakeFunc σ f caps.toList else .no
 | .call c=>ecall T σ c
 | _=>.no
def Does (P:Program) (ρ:Operand→Value) (op:Op) (w:World) (v:Value) (w':World):Prop :=
 ∀ (o:Oper),o.op=op→(execOp ρ o).run P w=.ok (.value v) w'∨((execOp ρ o).run P w=.ok .skip w'∧v=undef)
section
variable {P:Program} {T:Tab} {N:Nat} {w0:W0} {ι ι':Io} {σ σ':LS} {a:Act} {w w':World} {O:Nat→Prop} {ob ob':List OB}
def newOp:Op→Bool
 | .box _ _=>true
 | .alloc _=>true
 | .buildSlice _ _ _=>true
 | .makeSlice _ _ _=>true
 | .makeMap _ _=>true
 | .makeFunc _ _ _=>true
 | _=>false
def Eok (P:Program) (N:Nat) (w0:W0) (a:Act) (op:Op) (w:World) (σ':LS) (x:LV):Prop :=
 ∃ ι' v w',Does P a.eval op w v w'∧StI N w0 ι' σ' a w'∧dlv w' (own ι' σ'.ob) ι' σ'.ob x v∧(newOp op=true→Ext noB w w')
theorem live_new {ob:List OB} {o:OB} (hd:o.isDead=false):live (ob++[o]) ob.length:=⟨o,by simp,hd⟩
theorem e_box (h:StI N w0 ι σ a w) {t:Nat} {v:Operand} (hc:(ev σ v).cellish=true):Eok P N w0 a (.box t v) w (σ.add (.bx t (cellsL (ev σ v)))) (.c (.op σ.ob.length 0)):=by
 have hd:=cells_dl1 (h.ev v) hc
 refine ⟨_,.pointer (some ⟨w.heap.size,0,none⟩),_,fun o ho=>.inl ?_,h.newBox hd,?_,fun _=>Ext.alloc _ _ _⟩
 ·simp [execOp,ho,Instr.box,newVar,newRow]
 ·exact ⟨w.heap.size,live_new rfl,upd_same _ _ _,rfl⟩
theorem e_alloc (hT:okT P T) (h:StI N w0 ι σ a w) {t:Nat} {i:TI} (hi:T t=some i) (hz:okZero i.zero=true):Eok P N w0 a (.alloc t) w (σ.add (.bx t (zeroL i.zero))) (.c (.op σ.ob.length 0)):=by
 refine ⟨_,.pointer (some ⟨w.heap.size,0,none⟩),_,fun o ho=>.inl ?_,h.newBox (us:=i.zero.cells) (zeroL_den' hz),?_,fun _=>Ext.alloc _ _ _⟩
 ·simp [execOp,ho,Instr.alloc,newVar,newRow,(hT t i hi).run_zero]
 ·exact ⟨w.heap.size,live_new rfl,upd_same _ _ _,rfl⟩
theorem e_makeMap (h:StI N w0 ι σ a w) {t:Nat}:Eok P N w0 a (.makeMap t none) w (σ.add (.mp [])) (.c (.om σ.ob.length)):=by
 refine ⟨upd ι σ.ob.length (some w.heap.size),.map (some w.heap.size),w.alloc (.map #[] 0),fun o ho=>.inl ?_,h.add (Ext.alloc noB w _) (fun b hb=>by injection hb with hb;omega) (fun _ _ _ e=>by cases e) ?_,?_,fun _=>Ext.alloc _ _ _⟩
 ·simp [execOp,ho,Instr.makeMap]
 ·exact ⟨w.heap.size,#[],0,upd_same _ _ _,heap_alloc_new w _,rfl⟩
 ·exact ⟨w.heap.size,live_new rfl,upd_same _ _ _,rfl⟩
theorem e_makeMapN (hT:okT P T) (h:StI N w0 ι σ a w) {t:Nat} {x:Operand} {kt et:TypeId} {sz by_:Nat} {z:Value} {eqs:Option (List TypeDesc)} {k:IntKind} {n:Int} (hTt:T t=some ⟨.map kt et,sz,by_,z,eqs⟩) (hx:ev σ x=.c (.d (.v (.int k n)))):Eok P N w0 a (.makeMap t (some x)) w (σ.add (.mp [])) (.c (.om σ.ob.length)):=by
 have hv:=h.ev x
 rw [hx] at hv
 have hv':a.eval x=.int k n:=hv.1
 refine ⟨upd ι σ.ob.length (some w.heap.size),.map (some w.heap.size),w.alloc (.map #[] 0),fun o ho=>.inl ?_,h.add (Ext.alloc noB w _) (fun b hb=>by injection hb with hb;omega) (fun _ _ _ e=>by cases e) ?_,?_,fun _=>Ext.alloc _ _ _⟩
 ·simp [execOp,ho,Instr.makeMap,hv',Go.run_underlying (hT t _ hTt).und,asInt,asIntOf]
 ·exact ⟨w.heap.size,#[],0,upd_same _ _ _,heap_alloc_new w _,rfl⟩
 ·exact ⟨w.heap.size,live_new rfl,upd_same _ _ _,rfl⟩
theorem capsB_sound (h:StI N w0 ι σ a w):∀ {xs:List Operand} {ds:List DV},capsB σ xs=some ds→denVs w (own ι σ.ob) ds (xs.map a.eval)
 | [],ds,hc=>by simp only [capsB,Option.some.injEq] at hc;subst hc;rfl
 | x::r,ds,hc=>by
  simp only [capsB] at hc
  split at hc
  ·rename_i d ds' e1 e2
   injection hc with hc
   subst hc
   have:=h.ev x
   rw [e1] at this
   exact ⟨_,_,rfl,this,capsB_sound h e2⟩
  ·cases hc
theorem e_makeFunc (h:StI N w0 ι σ a w) {f:FuncId} {caps:Array Operand} {p:Prop} {x:LV} (he:emakeFunc σ f caps.toList=.ok p σ' x):Eok P N w0 a (.makeFunc (.func f) #[] caps) w σ' x:=by
 unfold emakeFunc at he
 split at he
 ·rename_i σ1 h1
  split at he
  ·rename_i ds h2
   injection he with e1 e2 e3
   subst e1 e2 e3
   have hs:=fzs_sound h h1
   have hd:=capsB_sound hs h2
   refine ⟨ι,.func (.func f) #[] (caps.map a.eval),w,fun o ho=>.inl ?_,hs,⟨_,rfl,by simpa using hd⟩,fun _=>Ext.refl _ _⟩
   simp [execOp,ho,Instr.makeFunc]
  ·cases he
 ·cases he
theorem flatten_len {size:Nat}:∀ {es:List (List DV)},(∀ e∈es,e.length=size)→es.flatten.length=es.length*size
 | [],_=>by simp
 | e::es,hl=>by
  have h1:=hl e (by simp)
  have h2:=flatten_len (es:=es) (fun x hx=>hl x (by simp [hx]))
  simp only [List.flatten_cons,List.length_append,List.length_cons,Nat.add_mul,Nat.one_mul]
  omega
theorem rdEs_vals_len {size:Nat} {es:List (List DV)} {us:List Value} (h:denVs w O es.flatten us) (hl:∀ e∈es,e.length=size):us.length=es.length*size:=by
 rw [denVs_length h,flatten_len hl]
theorem foldl_set (off:Nat):∀ (vs:List Value) (j:Nat) (cs:Array Value),off+j+vs.length≤cs.size →
  ((vs.zipIdx j).foldl (fun cs p=>cs.setIfInBounds (off+p.2) p.1) cs).toList=cs.toList.take (off+j)++vs++cs.toList.drop (off+j+vs.length)
 | [],j,cs,_=>by simp
 | v::vs,j,cs,h=>by
  simp only [List.length_cons] at h
  simp only [List.zipIdx_cons,List.foldl_cons]
  rw [foldl_set off vs (j+1) (cs.setIfInBounds (off+j) v) (by simp;omega)]
  have hlt:off+j<cs.toList.length:=by simp;omega
  have e:(cs.setIfInBounds (off+j) v).toList=cs.toList.take (off+j)++v::cs.toList.drop (off+j+1):=by
   rw [Array.toList_setIfInBounds,List.set_eq_take_append_cons_drop,if_pos hlt]
  rw [e]
  have l1:(cs.toList.take (off+j)).length=off+j:=by rw [List.length_take];omega
  have t1:(cs.toList.take (off+j)++v::cs.toList.drop (off+j+1)).take (off+(j+1))=cs.toList.take (off+j)++[v]:=by
   rw [List.take_append,l1,show off+(j+1) - (off+j)=1 by omega,List.take_of_length_le (by omega)]
   rfl
  have t2:(cs.toList.take (off+j)++v::cs.toList.drop (off+j+1)).drop (off+(j+1)+vs.length)=cs.toList.drop (off+j+(vs.length+1)):=by
   rw [List.drop_append,l1,List.drop_of_length_le (by omega),show off+(j+1)+vs.length - (off+j)=vs.length+1 by omega,List.nil_append,List.drop_succ_cons,List.drop_drop]
   congr 1;omega
  rw [t1,t2]
  simp
theorem fill_row (size:Nat):∀ (vs:List Value) (i:Nat) (cur:Array Value),(∀ v∈vs,v.cells.size=size)→(i+vs.length)*size≤cur.size →
  ∃ cur',Instr.fill (fun i=>some (i*size,size)) cur ((vs.zipIdx i).map fun p=>(p.2,p.1))=some cur'∧cur'.toList=cur.toList.take (i*size)++vs.flatMap (fun v=>v.cells.toList)++cur.toList.drop ((i+vs.length)*size)
 | [],i,cur,_,_=>⟨cur,rfl,by simp⟩
 | v::vs,i,cur,hv,hc=>by
  have hs:v.cells.size=size:=hv v (by simp)
  simp only [List.length_cons] at hc
  have e1:(i+(vs.length+1))*size=i*size+(vs.length*size+size):=by rw [Nat.add_mul,Nat.add_mul,Nat.one_mul]
  have hcond:(v.cells.size≠size || decide (i*size+v.cells.size > cur.size))=false:=by
   simp [hs];omega
  have hfold:=foldl_set (i*size) v.cells.toList 0 cur (by simp [hs];omega)
  simp only [Nat.add_zero] at hfold
  have hcur:(Array.foldl (fun cs (x:Value × Nat)=>cs.setIfInBounds (i*size+x.2) x.1) cur v.cells.zipIdx).toList=cur.toList.take (i*size)++v.cells.toList++cur.toList.drop (i*size+size):=by
   rw [← Array.foldl_toList,Array.toList_zipIdx,hfold]
   simp [hs]
  have e2:(i+1)*size=i*size+size:=by rw [Nat.add_mul,Nat.one_mul]
  have e3:(i+1+vs.length)*size=i*size+(vs.length*size+size):=by rw [show i+1+vs.length=i+(vs.length+1) by omega,e1]
  have hsz:(Array.foldl (fun cs (x:Value × Nat)=>cs.setIfInBounds (i*size+x.2) x.1) cur v.cells.zipIdx).size=cur.size:=by
   rw [← Array.length_toList,hcur]
   simp [hs]
   omega
  obtain ⟨cur',h1,h2⟩:=fill_row size vs (i+1) _ (fun x hx=>hv x (by simp [hx])) (by rw [hsz,e3];omega)
  refine ⟨cur',?_,?_⟩
  ·simp only [List.zipIdx_cons,List.map_cons,Instr.fill]
   rw [if_neg (by simpa using hcond)]
   exact h1
  ·rw [h2,hcur]
   have l1:(cur.toList.take (i*size)).length=i*size:=by rw [List.length_take];simp;omega
   have l2:(cur.toList.take (i*size)++v.cells.toList).length=i*size+size:=by rw [List.length_append,l1];simp [hs]
   rw [List.take_append,l2,e2,Nat.sub_self,List.take_zero,List.append_nil,List.take_of_length_le (by omega)]
   rw [List.drop_append,l2,e3,List.drop_of_length_le (by omega),List.nil_append,List.drop_drop]
   simp only [List.flatMap_cons,List.length_cons,List.append_assoc]
   congr 4
   rw [e1];omega
theorem elemsB_sound (h:StI N w0 ι σ a w) {sz:Nat}:∀ {ps:List (Nat × Operand)} {i:Nat} {es:List (List DV)},elemsB σ sz i ps=some es →
  ps.map (fun p=>(p.1,a.eval p.2))=((ps.map fun p=>a.eval p.2).zipIdx i).map (fun p=>(p.2,p.1))∧(∀ v∈ps.map (fun p=>a.eval p.2),v.cells.size=sz) ∧
   denVs w (own ι σ.ob) es.flatten ((ps.map fun p=>a.eval p.2).flatMap fun v=>v.cells.toList)∧(∀ e∈es,e.length=sz)∧es.length=ps.length
 | [],i,es,he=>by
  simp only [elemsB,Option.some.injEq] at he
  subst he
  exact ⟨rfl,by simp,rfl,by simp,rfl⟩
 | (j,x)::r,i,es,he=>by
  simp only [elemsB] at he
  split at he
  ·rename_i ds es' h1 h2 h3
   split at he
   ·rename_i hc
    obtain ⟨rfl,hl⟩:=hc
    injection he with he
    subst he
    have hd:=cells_dl1 (h.ev x) h1
    rw [allD_spec h2] at hd
    have hd':=denVs_of_dcvs hd
    have hsz:(a.eval x).cells.size=sz:=by rw [← hl];simpa using denVs_length hd'
    obtain ⟨k1,k2,k3,k4,k5⟩:=elemsB_sound h h3
    refine ⟨?_,?_,?_,?_,by simp [k5]⟩
    ·simp only [List.map_cons,List.zipIdx_cons,k1]
    ·intro v hv
     simp only [List.map_cons,List.mem_cons] at hv
     rcases hv with rfl|hv
     ·exact hsz
     ·exact k2 v hv
    ·simp only [List.map_cons,List.flatMap_cons,List.flatten_cons]
     exact denVs_append hd' k3
    ·intro e he
     rcases List.mem_cons.1 he with rfl|he
     ·exact hl
     ·exact k4 e he
   ·cases he
  ·cases he
theorem nzD_den {n:Option Nat} {d:DV} {u:Value} (h:den w O d u):den w O (nzD n d) u:=by
 unfold nzD
 split
 ·obtain ⟨rfl,_⟩:=h
  exact ⟨none,0,rfl,by simp,by simp [maxLen],fun h=>by simp at h⟩
 ·exact h
theorem nzDs_den:∀ {ns:List (Option Nat)} {ds:List DV} {us:List Value},denVs w O ds us→denVs w O (nzDs ns ds) us
 | [],ds,us,h=>by cases ds<;>exact h
 | n::ns,[],us,h=>h
 | n::ns,d::ds,us,h=>by
  obtain ⟨u,r,rfl,h1,h2⟩:=h
  exact ⟨u,r,rfl,nzD_den h1,nzDs_den h2⟩
theorem nzDs_len:∀ {ns:List (Option Nat)} {ds:List DV},(nzDs ns ds).length=ds.length
 | [],ds=>by cases ds<;>rfl
 | n::ns,[]=>rfl
 | n::ns,d::ds=>by simp [nzDs,nzDs_len]
theorem denVs_split:∀ {xs ys:List DV} {us:List Value},denVs w O (xs++ys) us→∃ a b,us=a++b∧denVs w O xs a∧denVs w O ys b
 | [],ys,us,h=>⟨[],us,rfl,rfl,h⟩
 | x::xs,ys,us,h=>by
  obtain ⟨u,r,rfl,h1,h2⟩:=h
  obtain ⟨a,b,rfl,h3,h4⟩:=denVs_split h2
  exact ⟨u::a,b,rfl,⟨u,a,rfl,h1,h3⟩,h4⟩
theorem nzEs_den {ns:List (Option Nat)}:∀ {es:List (List DV)} {us:List Value},denVs w O es.flatten us→denVs w O (es.map (nzDs ns)).flatten us
 | [],us,h=>h
 | e::es,us,h=>by
  simp only [List.flatten_cons] at h
  obtain ⟨a,b,rfl,h1,h2⟩:=denVs_split h
  simp only [List.map_cons,List.flatten_cons]
  exact denVs_append (nzDs_den h1) (nzEs_den h2)
theorem nzC_dcv {n:Option Nat} {c:CV} {u:Value} {ob:List OB} (h:dcv w O ι ob c u):dcv w O ι ob (nzC n c) u:=by
 cases c with
 | d d=>exact nzD_den h
 | _=>exact h
theorem nzCs_dcvs {ob:List OB}:∀ {ns:List (Option Nat)} {cs:List CV} {us:List Value},dcvs w O ι ob cs us→dcvs w O ι ob (nzCs ns cs) us
 | [],cs,us,h=>by cases cs<;>exact h
 | n::ns,[],us,h=>h
 | n::ns,c::cs,us,h=>by
  obtain ⟨u,r,rfl,h1,h2⟩:=h
  exact ⟨u,r,rfl,nzC_dcv h1,nzCs_dcvs h2⟩
theorem nzL_dl1 {ob:List OB} {ns:List (Option Nat)} {x:LV} {u:Value} (h:dl1 w O ι ob x u):dl1 w O ι ob (nzL ns x) u:=by
 cases x with
 | c c =>
  cases ns with
  | nil=>exact h
  | cons n ns =>
   cases c with
   | d d=>exact nzD_den (w:=w) (O:=O) h
   | _=>exact h
 | ag cs=>obtain ⟨us,rfl,hd⟩:=h;exact ⟨us,rfl,nzCs_dcvs hd⟩
 | tu xs=>exact h
theorem nzL_dlv {ob:List OB} {ns:List (Option Nat)} {x:LV} {u:Value} (h:dlv w O ι ob x u):dlv w O ι ob (nzL ns x) u:=by
 cases x with
 | c c =>
  have h1:dl1 w O ι ob (nzL ns (.c c)) u:=nzL_dl1 (x:=.c c) h
  cases ns<;>exact h1
 | ag cs=>exact nzL_dl1 (x:=.ag cs) h
 | tu xs=>exact h
theorem e_buildSlice (hT:okT P T) (h:StI N w0 ι σ a w) {t n:Nat} {ps:Array (Nat × Operand)} {p:Prop} {x:LV} (he:ebuildSlice T σ t n ps.toList=.ok p σ' x) (hp:p):Eok P N w0 a (.buildSlice t n ps) w σ' x:=by
 unfold ebuildSlice at he
 split at he
 ·rename_i e _ _ _ _ hTt
  split at he
  ·rename_i j σ1 hj hf
   split at he
   ·rename_i es hes
    injection he with e1 e2 e3
    subst e1 e2 e3
    obtain ⟨hn,hsz,hbig,hz⟩:=hp
    have hs:=fzs_sound h hf
    obtain ⟨k1,k2,k3,k4,k5⟩:=elemsB_sound hs hes
    have hnl:n=ps.toList.length:=by rw [hn,k5]
    have hlen:(ps.toList.map fun p=>a.eval p.2).length=n:=by rw [List.length_map,hnl]
    obtain ⟨cur',f1,f2⟩:=fill_row j.size (ps.toList.map fun p=>a.eval p.2) 0 ((Array.range (n*j.size)).map fun q=>(if n*j.size=0 then #[] else j.zero.cells)[q % (if n*j.size=0 then #[] else j.zero.cells).size]!) k2 (by rw [hlen];simp)
    have f2':cur'.toList=(ps.toList.map fun p=>a.eval p.2).flatMap fun v=>v.cells.toList:=by
     rw [f2]
     simp only [Nat.zero_mul,List.take_zero,List.nil_append,Nat.zero_add]
     rw [List.drop_of_length_le (by simp;rw [show ps.size=n by simpa using hnl.symm];exact Nat.le_refl _),List.append_nil]
    have hcs:cur'.size=n*j.size:=by
     have h1:=rdEs_vals_len k3 k4
     rw [← f2'] at h1
     rw [hn]
     simpa using h1
    have hadd:=hs.newRow (t:=e) (hT e j hj).small hsz (us:=cur') (es:=es.map (nzDs (nzP ps.toList (nilsOf T 4 e)))) (by rw [f2'];exact nzEs_den k3) (fun e he=>by
     obtain ⟨e',h1,rfl⟩:=List.mem_map.1 he
     rw [nzDs_len];exact k4 e' h1) (cap:=n) hcs (by simp only [maxLen];have:n≤n*j.size:=Nat.le_mul_of_pos_right n hsz;omega) (by simp;omega) (by simp;exact hn.symm)
    refine ⟨_,.slice (some ⟨w.heap.size,0,none⟩) n n,_,fun o ho=>.inl ?_,hadd,?_,fun _=>Ext.alloc _ _ _⟩
    ·have hu:=(hT t _ hTt).und
     have hfill:Instr.fill (fun i=>some (i*j.size,j.size)) ((Array.range (n*j.size)).map fun q=>(if n*j.size=0 then #[] else j.zero.cells)[q % (if n*j.size=0 then #[] else j.zero.cells).size]!) (Array.map (fun x=>(x.1,a.eval x.2)) ps).toList=some cur':=by
      rw [Array.toList_map,k1];exact f1
     have hnb:¬ (n*j.size > 2 ^ 24):=by omega
     simp only [execOp,ho,Instr.buildSlice,Sem.run_bind,Go.run_underlying hu,Result.andThen_ok,(hT e j hj).run_sizeOf]
     by_cases h0:n*j.size=0
     ·simp only [if_pos h0] at hfill
      simp only [if_neg hnb,if_pos h0,Sem.run_bind,Result.andThen_ok,hfill,newRow,run_newObj,World.alloc_eq,Sem.run_pure]
     ·simp only [if_neg h0] at hfill
      simp only [if_neg hnb,if_neg h0,Sem.run_bind,(hT e j hj).run_zero,Result.andThen_ok,hfill,newRow,run_newObj,World.alloc_eq,Sem.run_pure]
    ·refine ⟨e,j.size,es.map (nzDs (nzP ps.toList (nilsOf T 4 e))),by simp [LS.add],.inr ⟨w.heap.size,cur',n,e,upd_same _ _ _,heap_alloc_new w _,hcs,by simp;omega,by simp only [maxLen];have:n≤n*j.size:=Nat.le_mul_of_pos_right n hsz;omega,by simp [hn]⟩⟩
   ·cases he
  ·cases he
 ·cases he
end
open Go Go.RowKit
section
variable {P:Program} {T:Tab} {N:Nat} {w0:W0} {ι ι':Io} {σ σ':LS} {a:Act} {w w':World} {O:Nat→Prop} {ob ob':List OB}
theorem zeroD_den {z:Value} (h:okZero z=true):denVs w O (zeroD z) z.cells.toList:=by
 cases z with
 | agg us =>
  simp only [okZero,List.all_eq_true] at h
  simp only [zeroD,Value.cells]
  generalize us.toList=l at h
  induction l with
  | nil=>rfl
  | cons u l ih=>exact ⟨u,_,rfl,⟨rfl,h u (by simp)⟩,ih (fun x hx=>h x (by simp [hx]))⟩
 | tuple us=>cases h
 | _=>exact ⟨_,[],rfl,⟨rfl,rfl⟩,rfl⟩
theorem madeCells_rep {z:Array Value} (hz:0<z.size):∀ n,(madeCells z (n*z.size)).toList=(List.replicate n z.toList).flatten
 | 0=>by simp [madeCells]
 | n+1=>by
  rw [List.replicate_succ',List.flatten_append,← madeCells_rep hz n]
  apply List.ext_getElem?
  intro j
  rw [List.getElem?_append]
  simp only [Array.length_toList,size_madeCells]
  by_cases h1:j<n*z.size
  ·rw [if_pos h1]
   have:j<(n+1)*z.size:=by rw [Nat.add_mul];omega
   simp [madeCells,h1,this]
  ·rw [if_neg h1]
   simp only [List.flatten_cons,List.flatten_nil,List.append_nil]
   by_cases h2:j<(n+1)*z.size
   ·have h3:j - n*z.size<z.size:=by rw [Nat.add_mul,Nat.one_mul] at h2;omega
    have h4:j % z.size=j - n*z.size:=by
     have:j=(j - n*z.size)+z.size*n:=by rw [Nat.mul_comm z.size n];omega
     rw [this,Nat.add_mul_mod_self_left,Nat.mod_eq_of_lt (by omega)]
     omega
    simp [madeCells,h2,h3,h4]
   ·have h3:¬ j - n*z.size<z.size:=by rw [Nat.add_mul,Nat.one_mul] at h2;omega
    simp [madeCells,h2]
    omega
theorem e_makeSlice (hT:okT P T) (h:StI N w0 ι σ a w) {t:Nat} {l c:Operand} {p:Prop} {x:LV} (he:emakeSlice T σ t (ev σ l) (ev σ c)=.ok p σ' x) (hp:p):Eok P N w0 a (.makeSlice t l c) w σ' x:=by
 have hl:=h.ev l
 have hc:=h.ev c
 unfold emakeSlice at he
 split at he
 ·rename_i e _ _ _ _ kl n kc m hTt e1 e2
  rw [e1] at hl;rw [e2] at hc
  have el:a.eval l=.int kl n:=hl.1
  have ec:a.eval c=.int kc m:=hc.1
  split at he
  ·rename_i j hj
   injection he with g1 g2 g3
   subst g1 g2 g3
   obtain ⟨rfl,h0,h63,hb,hsz,hz,hzc⟩:=hp
   obtain ⟨ti,t1,t2,t3,t4⟩:=(hT e j hj).inf
   have hu:=(hT t _ hTt).und
   have hrun:=fun w=>run_make (P:=P) w t e ti j.zero hu t1 t4 kl kc n n h0 (Int.le_refl n) (by rw [t3];exact hb) h63
   have hden:∀ k,denVs w (own ι σ.ob) (List.replicate k (zeroD j.zero)).flatten (List.replicate k j.zero.cells.toList).flatten:=by
    intro k
    induction k with
    | zero=>rfl
    | succ k ih=>simp only [List.replicate_succ,List.flatten_cons];exact denVs_append (zeroD_den hz) ih
   have hmade:=madeCells_rep (z:=j.zero.cells) (by omega) n.toNat
   rw [hzc] at hmade
   have hlen1:∀ e∈List.replicate n.toNat (zeroD j.zero),e.length=j.size:=fun e he=>by
    rw [List.eq_of_mem_replicate he,← denVs_length (w:=w) (O:=own ι σ.ob) (zeroD_den hz)];simpa using hzc
   have hadd:=h.newRow (t:=e) (hT e j hj).small hsz (us:=madeCells j.zero.cells (n.toNat*j.size)) (es:=List.replicate n.toNat (zeroD j.zero)) (by rw [hmade];exact hden _) hlen1 (cap:=n.toNat) (size_madeCells _ _) (by simp only [maxLen];omega) (by simp) (by simp)
   refine ⟨_,.slice (some ⟨w.heap.size,0,none⟩) n.toNat n.toNat,_,fun o ho=>.inl ?_,hadd,?_,fun _=>Ext.alloc _ _ _⟩
   ·simp only [execOp,ho,el,ec,Sem.run_bind,hrun,t2,Result.andThen_ok,Sem.run_pure]
   ·exact ⟨e,j.size,List.replicate n.toNat (zeroD j.zero),by simp [LS.add],.inr ⟨w.heap.size,madeCells j.zero.cells (n.toNat*j.size),n.toNat,e,upd_same _ _ _,heap_alloc_new w _,size_madeCells _ _,by simp,by simp only [maxLen];omega,by simp⟩⟩
  ·cases he
 ·cases he
theorem putL_set:∀ (xs:List CV) (cs:List CV) (off:Nat) (us vs:List Value),dcvs w O ι ob cs us→dcvs w O ι ob xs vs→off+vs.length≤us.length →
  dcvs w O ι ob (putL cs off xs) (us.take off++vs++us.drop (off+vs.length))
 | [],cs,off,us,vs,hc,hx,_=>by simp only [dcvs] at hx;subst hx;simpa [putL] using hc
 | x::xs,cs,off,us,vs,hc,hx,hle=>by
  obtain ⟨v,r,rfl,hv,hr⟩:=hx
  simp only [List.length_cons] at hle
  have:=putL_set xs (cs.set off x) (off+1) (us.set off v) r (dcvs_set hc hv) hr (by simp;omega)
  simp only [putL]
  have e:us.set off v=us.take off++v::us.drop (off+1):=by rw [List.set_eq_take_append_cons_drop,if_pos (by omega)]
  have l1:(us.take off).length=off:=by rw [List.length_take];omega
  have t1:(us.set off v).take (off+1)=us.take off++[v]:=by
   rw [e,List.take_append,l1,show off+1 - off=1 by omega,List.take_of_length_le (by omega)];rfl
  have t2:(us.set off v).drop (off+1+r.length)=us.drop (off+(r.length+1)):=by
   rw [e,List.drop_append,l1,List.drop_of_length_le (by omega),show off+1+r.length - off=r.length+1 by omega,List.nil_append,List.drop_succ_cons,List.drop_drop]
   congr 1;omega
  rw [t1,t2] at this
  simpa using this
theorem run_storeAt (hT:okT P T) {t:Nat} {i:TI} (hi:T t=some i) {g off:Nat} {cur:Array Value} {t':Nat} (hg:w.heap[g]?=some (.cells cur t' (0,0))) {v:Value} (hl:v.cells.size=i.size) (hle:off+i.size≤cur.size) (h1:∀ u∈v.cells.toList,u.oneCell'=true) :
  (Instr.storeAt t (.pointer (some ⟨g,off,none⟩)) v).run P w=.ok () (w.setRow g (cur.toList.take off++v.cells.toList++cur.toList.drop (off+v.cells.size)).toArray):=by
 have hst:=run_storeCells_at P g off t' v.cells.toList 0 cur w hg (by simp;omega) h1
 simp only [Nat.add_zero,Array.length_toList] at hst
 have hne:¬ v.cells.size≠i.size:=by simp [hl]
 simp only [Instr.storeAt,Instr.sureAddr,storeVar,Sem.run_bind,Sem.run_pure,Result.andThen_ok,(hT t i hi).run_sizeOf,Sem.run_ite,if_neg hne,hst]
theorem rdEs_of_get {size:Nat}:∀ {es:List (List DV)} {ad:Addr},(∀ (i:Nat) (hi:i<es.length),es[i].length=size∧denCs w O (ad.add (i*size)) es[i])→rdEs w O size ad es
 | [],_,_=>trivial
 | e::es,ad,h=>by
  have h0:=h 0 (by simp)
  simp only [Nat.zero_mul] at h0
  refine ⟨h0.1,h0.2,rdEs_of_get (fun i hi=>?_)⟩
  have:=h (i+1) (by simpa using hi)
  rw [add_add,show size+i*size=(i+1)*size by rw [Nat.add_mul];omega]
  exact this
theorem ext_setRow {g:Nat} (cs:Array Value):Ext (·=g) w (w.setRow g cs):=⟨rfl,rfl,rfl,by simp [World.setRow],fun k _ hn=>setRow_other w g k cs hn⟩
theorem dcvs_one:∀ {cs:List CV} {us:List Value},dcvs w O ι ob cs us→∀ u∈us,u.oneCell'=true
 | [],us,h,u,hu=>by simp only [dcvs] at h;subst h;simp at hu
 | c::cs,us,h,u,hu=>by
  obtain ⟨y,r,rfl,hy,hr⟩:=h
  rcases List.mem_cons.1 hu with rfl|hu
  ·exact dcv_oneCell hy
  ·exact dcvs_one hr u hu
theorem e_store (hT:okT P T) (h:StI N w0 ι σ a w) {t:Nat} {ad v:Operand} {p:Prop} {x:LV} (he:estore T σ t ad v=.ok p σ' x) (hp:p):Eok P N w0 a (.store t ad v) w σ' x:=by
 have ha:=h.ev ad
 unfold estore at he
 split at he
 ·rename_i i k off hi e1
  rw [e1] at ha
  obtain ⟨g,hl,hg,ea⟩:=ha
  split at he
  ·rename_i t' cs hk
   split at he
   ·rename_i hc
    injection he with g1 g2 g3
    subst g1 g2 g3
    obtain ⟨hp1,hp2⟩:=hp
    obtain ⟨g',us,h1,h2,h3⟩:=h.objs k _ hk
    rw [hg] at h1
    injection h1 with h1
    subst h1
    have hcells:=cells_dl1 (h.ev v) hc
    have hvl:(a.eval v).cells.size=i.size:=by rw [← hp1];simpa using dcvs_length hcells
    have hus:us.size=cs.length:=by simpa using dcvs_length h3
    have hrun:=run_storeAt (P:=P) hT hi h2 (off:=off) hvl (by omega) (dcvs_one hcells)
    have hext:=ext_setRow (w:=w) (g:=g) (us.toList.take off++(a.eval v).cells.toList++us.toList.drop (off+(a.eval v).cells.size)).toArray
    have hog:own ι σ.ob g:=.inr ⟨k,hl,hg⟩
    refine ⟨ι,undef,_,fun o ho=>.inr ⟨?_,rfl⟩,h.set (o':=.bx t' (putL cs off (cellsL (ev σ v)))) hk rfl rfl hg hext (fun _ _ _ e=>by cases e) ?_ (fun _ _ _ e=>by cases e),trivial,fun hn=>Bool.noConfusion hn⟩
    ·simp only [execOp,ho,ea,Sem.run_bind,hrun,Result.andThen_ok,Sem.run_pure]
    ·refine ⟨g,_,hg,setRow_heap w g us _ t' _ h2,?_⟩
     have hput:=putL_set (cellsL (ev σ v)) cs off us.toList (a.eval v).cells.toList h3 hcells (by simp;omega)
     simp only [Array.length_toList] at hput
     have hs:Stays (·=g) (own ι σ.ob) (own ι σ.ob) w (w.setRow g (us.toList.take off++(a.eval v).cells.toList++us.toList.drop (off+(a.eval v).cells.size)).toArray):=⟨hext,fun b _ hb=>hb ▸ hog,fun _ _ h=>h⟩
     refine dcvs_imp (R:=fun _ _=>True) hput (fun c u _ hcu=>?_)
     cases c with
     | d y=>exact den_mono hs y u hcu
     | op j o'=>obtain ⟨b,q1,q2⟩:=hcu;exact ⟨b,(live_set hk rfl rfl j).2 q1,q2⟩
     | oe j i' o' =>
      obtain ⟨b,t2,size,es,q1,q2,q3⟩:=hcu
      have e:k≠j:=fun e=>by subst e;rw [hk] at q2;cases q2
      exact ⟨b,t2,size,es,q1,by rw [List.getElem?_set_ne e];exact q2,q3⟩
     | os j =>
      obtain ⟨t2,size,es,q1,q2⟩:=hcu
      have e:k≠j:=fun e=>by subst e;rw [hk] at q1;cases q1
      refine ⟨t2,size,es,by rw [List.getElem?_set_ne e];exact q1,hdr_ext hext (fun b hb hbg=>?_) q2⟩
      exact e (h.inj k j g hl ⟨_,q1,rfl⟩ hg (hbg ▸ hb))
     | om j=>obtain ⟨b,q1,q2⟩:=hcu;exact ⟨b,(live_set hk rfl rfl j).2 q1,q2⟩
     | any=>exact hcu
   ·cases he
  ·cases he
 ·rename_i i _ _ _ hi _
  split at he
  ·rename_i σ1 hf
   have hs1:=fzs_sound h hf
   split at he
   ·rename_i k n off e1
    split at he
    ·rename_i t' size es ds hk hc hD
     injection he with g1 g2 g3
     subst g1 g2 g3
     obtain ⟨hp1,hp2,hp3⟩:=hp
     have ha1:=hs1.ev ad
     rw [e1] at ha1
     obtain ⟨g,t2,size2,es2,hg,hk2,hn2,ea⟩:=ha1
     rw [hk] at hk2
     injection hk2 with hk2
     injection hk2 with q1 q2 q3
     subst q1 q2 q3
     obtain ⟨hsz,h1|⟨g',cur,cap,h1,h2,h3,h4,h5,h6⟩⟩:=hs1.objs k _ hk
     ·rw [hg] at h1;cases h1.1
     rw [hg] at h1
     injection h1 with h1
     subst h1
     have hcells:=cells_dl1 (hs1.ev v) hc
     rw [allD_spec hD] at hcells
     have hden:=denVs_of_dcvs hcells
     have hvl:(a.eval v).cells.size=i.size:=by rw [← hp1];simpa using denVs_length hden
     have hnn:(n+1)*size≤es.length*size:=Nat.mul_le_mul_right _ (by omega)
     have hcc:es.length*size≤cap*size:=Nat.mul_le_mul_right _ h4
     rw [Nat.add_mul,Nat.one_mul] at hnn
     have hrun:=run_storeAt (P:=P) hT hi h2 (off:=n*size+off) hvl (by omega) (dcvs_one hcells)
     have hext:=ext_setRow (w:=w) (g:=g) (cur.toList.take (n*size+off)++(a.eval v).cells.toList++cur.toList.drop (n*size+off+(a.eval v).cells.size)).toArray
     have hrow:=setRow_heap w g cur (cur.toList.take (n*size+off)++(a.eval v).cells.toList++cur.toList.drop (n*size+off+(a.eval v).cells.size)).toArray (tyOf t') _ h2
     generalize hcur:(cur.toList.take (n*size+off)++(a.eval v).cells.toList++cur.toList.drop (n*size+off+(a.eval v).cells.size)).toArray=cur' at *
     generalize hw':w.setRow g cur'=w' at *
     have hog:own ι σ1.ob g:=.inr ⟨k,⟨_,hk,rfl⟩,hg⟩
     have hs:Stays (·=g) (own ι σ1.ob) (own ι σ1.ob) w w':=⟨hext,fun b _ hb=>hb ▸ hog,fun _ _ h=>h⟩
     have hsz':cur'.size=cur.size:=by rw [← hcur];simp;omega
     have hl1:(cur.toList.take (n*size+off)).length=n*size+off:=by simp;omega
     have hout:∀ j,(j<n*size+off∨n*size+off+i.size≤j)→w'.cell? ⟨g,j,none⟩=w.cell? ⟨g,j,none⟩:=by
      intro j hj
      rw [cell_of_row w' g j cur' (tyOf t') (0,0) hrow,cell_of_row w g j cur (tyOf t') (0,0) h2,← hcur]
      rcases hj with hj|hj
      ·simp only [List.getElem?_toArray,List.append_assoc]
       rw [List.getElem?_append_left (by omega),List.getElem?_take,if_pos hj];simp
      ·simp only [List.getElem?_toArray,List.append_assoc]
       rw [List.getElem?_append_right (by omega),List.getElem?_append_right (by simp only [hl1,Array.length_toList,hvl];omega),List.getElem?_drop]
       simp only [hl1,Array.length_toList,hvl,Array.getElem?_toList]
       congr 1;omega
     have hin:∀ j u,(a.eval v).cells.toList[j]?=some u→w'.cell? ⟨g,n*size+off+j,none⟩=some u:=by
      intro j u hj
      have hj':j<i.size:=by rw [← hvl];simpa using (List.getElem?_eq_some_iff.1 hj).1
      rw [cell_of_row w' g _ cur' (tyOf t') (0,0) hrow,← hcur]
      simp only [List.getElem?_toArray,List.append_assoc]
      rw [List.getElem?_append_right (by omega),List.getElem?_append_left (by simp only [hl1,Array.length_toList,hvl];omega)]
      rw [hl1,show n*size+off+j - (n*size+off)=j by omega]
      exact hj
     obtain ⟨hel,hec⟩:=rdEs_get h6 hp3
     have hgD:es.getD n []=es[n]:=by simp [hp3]
     rw [hgD]
     refine ⟨ι,undef,w',fun o ho=>.inr ⟨?_,rfl⟩,hs1.set (o:=.rw t' size es) (o':=.rw t' size (es.set n (es[n].take off++ds++es[n].drop (off+ds.length)))) hk rfl rfl hg hext (fun t3 s3 e3 e=>?_) ?_ (fun _ _ _ e=>by injection e with q1 q2 q3;exact ⟨size,es,by rw [q1]⟩),trivial,fun hn=>Bool.noConfusion hn⟩
     ·simp only [execOp,ho,ea,Sem.run_bind,hrun,Result.andThen_ok,Sem.run_pure]
     ·injection e with q1 q2 q3
      subst q1 q2 q3
      refine ⟨_,rfl,by simp,fun m u hh=>?_⟩
      rcases hh with ⟨hh,_⟩|⟨b,cur0,cap0,t0,q1,q2,q3,q4,q5,q6⟩
      ·cases hh
      ·injection q1 with q1
       subst q1
       rw [h2] at q2
       injection q2 with q2
       injection q2 with r1 r2
       subst r1 r2
       exact .inr ⟨g,cur',cap0,tyOf t',rfl,hrow,by rw [hsz'];exact q3,q4,q5,q6⟩
     ·refine ⟨hsz,.inr ⟨g,cur',cap,hg,hrow,by rw [hsz'];exact h3,by simpa using h4,h5,?_⟩⟩
      refine rdEs_of_get (fun i' hi'=>?_)
      simp only [List.length_set] at hi'
      rw [add_lit',Nat.zero_add]
      obtain ⟨hl',hr'⟩:=rdEs_get h6 hi'
      rw [add_lit',Nat.zero_add] at hr'
      by_cases e:n=i'
      ·subst e
       rw [List.getElem_set_self]
       have l1:(es[n].take off).length=off:=by simp;omega
       refine ⟨by simp;omega,?_⟩
       rw [denCs_append,denCs_append]
       refine ⟨⟨?_,?_⟩,?_⟩
       ·refine denCs_mono' hs _ _ off (by omega) (fun j hj=>?_) (denCs_take hr' off)
        rw [add_lit'];exact hout _ (.inl (by omega))
       ·refine denCs_of_vals (denVs_mono hs _ _ hden) (fun j u hj=>?_)
        rw [l1,add_lit',add_lit'];exact hin j u hj
       ·have hd:=denCs_drop hr' (off+ds.length) (by omega)
        rw [List.length_append,l1]
        refine denCs_mono' hs _ _ (size - (off+ds.length)) (by simp;omega) (fun j hj=>?_) hd
        rw [add_lit',add_lit']
        exact hout _ (.inr (by omega))
      ·rw [List.getElem_set_ne e]
       refine ⟨hl',denCs_mono' hs _ _ size (by omega) (fun j hj=>?_) hr'⟩
       rw [add_lit']
       refine hout _ ?_
       rcases Nat.lt_or_gt_of_ne e with hlt|hlt
       ·have:(n+1)*size≤i'*size:=Nat.mul_le_mul_right _ hlt
        rw [Nat.add_mul,Nat.one_mul] at this
        right;omega
       ·have:(i'+1)*size≤n*size:=Nat.mul_le_mul_right _ hlt
        rw [Nat.add_mul,Nat.one_mul] at this
        left;omega
    ·cases he
   ·cases he
  ·cases he
 ·cases he
end
open Go Go.RowKit
section
variable {P:Program} {T:Tab} {N:Nat} {w0:W0} {ι ι':Io} {σ σ':LS} {a:Act} {w w':World} {O:Nat→Prop} {ob ob':List OB}
theorem klR_id {c:CV} {u:Value} (h:dcv w O ι ob c u):klR ob.length c=c:=by
 cases c with
 | op j off=>obtain ⟨_,h1,_⟩:=h;simp only [klR,bne_nat (Nat.ne_of_lt h1.lt),cond_false]
 | oe j i off=>obtain ⟨_,_,_,_,_,h1,_⟩:=h;simp only [klR,bne_nat (Nat.ne_of_lt (List.getElem?_eq_some_iff.1 h1).1),cond_false]
 | os j=>obtain ⟨_,_,_,h1,_⟩:=h;simp only [klR,bne_nat (Nat.ne_of_lt (List.getElem?_eq_some_iff.1 h1).1),cond_false]
 | om j=>obtain ⟨_,h1,_⟩:=h;simp only [klR,bne_nat (Nat.ne_of_lt h1.lt),cond_false]
 | _=>rfl
theorem klR_map:∀ {cs:List CV} {us:List Value},dcvs w O ι ob cs us→cs.map (klR ob.length)=cs
 | [],_,_=>rfl
 | c::cs,us,h=>by
  obtain ⟨u,r,rfl,hu,hr⟩:=h
  simp only [List.map_cons,klR_id hu,klR_map hr]
theorem klR_lv1s:∀ {xs:List LV} {us:List Value},dl1s w O ι ob xs us→(xs.map fun v=>match v with
  | .c .any=>.c .any
  | .c x=>.c (klR ob.length x)
  | .ag cs=>.ag (cs.map (klR ob.length))
  | .tu vs=>.tu vs)=xs
 | [],_,_=>rfl
 | x::xs,us,h=>by
  obtain ⟨u,r,rfl,hu,hr⟩:=h
  simp only [List.map_cons,klR_lv1s hr]
  congr 1
  cases x with
  | c c=>cases c<;>first|rfl|exact congrArg LV.c (klR_id (w:=w) (O:=O) (ι:=ι) (u:=u) hu)
  | ag cs=>obtain ⟨us,rfl,hd⟩:=hu;simp only [klR_map hd]
  | tu vs=>exact hu.elim
theorem klR_lv:∀ {x:LV} {u:Value},dlv w O ι ob x u→mapLV (klR ob.length) x=x
 | .c c,u,h=>by cases c<;>first|rfl|exact congrArg LV.c (klR_id (w:=w) (O:=O) (ι:=ι) (u:=u) h)
 | .ag cs,u,h=>by obtain ⟨us,rfl,hd⟩:=h;simp only [mapLV,klR_map hd]
 | .tu xs,u,h=>by obtain ⟨us,rfl,hd⟩:=h;exact congrArg LV.tu (klR_lv1s hd)
theorem mem_mapSl' {f:CV→CV}:∀ {l:List (Nat × LV)} {p:Nat × LV},p∈l→(p.1,mapLV f p.2)∈mapSl f l
 | [],p,h=>by cases h
 | (i,x)::r,p,h=>by
  rcases List.mem_cons.1 h with rfl|h
  ·exact List.mem_cons_self
  ·exact List.mem_cons_of_mem _ (mem_mapSl' h)
theorem setOB_new {f:CV→CV} {o x:OB}:∀ {ob:List OB},(∀ y∈ob,mapOB f y=y)→setOB f o (ob++[x]) ob.length=ob++[o]
 | [],_=>rfl
 | y::ob,h=>by
  simp only [List.cons_append,List.length_cons,setOB,h y (by simp)]
  rw [setOB_new (fun z hz=>h z (by simp [hz]))]
theorem e_append (hT:okT P T) (h:StI N w0 ι σ a w) {ts:Array Nat} {s x:Operand} {p:Prop} {y:LV} (he:eappend T σ ts.toList s x=.ok p σ' y) (hp:p) :
  Eok P N w0 a (.call { callee:=.builtin .append,args:=#[s,x],argTypes:=ts }) w σ' y:=by
 have hs:=h.ev s
 have hx:=h.ev x
 unfold eappend at he
 split at he
 ·rename_i t t' e0
  obtain rfl:ts=#[t,t']:=Array.toList_inj.1 e0
  split at he
  ·rename_i e1
   subst e1
   split at he
   ·rename_i e _ _ _ _ hTt
    split at he
    ·rename_i j hj
     split at he
     ·rename_i k size xs e2 e3
      split at he
      ·rename_i e' size' es hk
       injection he with g1 g2 g3
       subst g1 g2 g3
       obtain ⟨rfl,rfl,p3,p4,p5,p6⟩:=hp
       rw [e2] at hs
       obtain ⟨t2,s2,es2,hk2,hh⟩:=hs
       rw [hk] at hk2
       injection hk2 with hk2
       injection hk2 with q1 q2 q3
       subst q1 q2 q3
       have hrun:=fun ty=>StI.append hT h hTt rfl hj p4 hk hh e3 p3 hx p5 p6 ty
       obtain ⟨u',w',ι',r1,r2,r3⟩:=hrun 0
       refine ⟨ι',u',w',fun o ho=>.inl ?_,r2,⟨e',j.size,es++xs,by rw [setOB_get,if_pos rfl,hk];rfl,r3⟩,fun hn=>Bool.noConfusion hn⟩
       have e:Builtin.append_ #[t',t'] o.type #[a.eval s,a.eval x]=Builtin.append_ #[t',t'] 0 #[a.eval s,a.eval x]:=rfl
       simp only [execOp,ho,resolve,invoke,builtin,Sem.run_bind,Sem.run_pure,Result.andThen_ok,List.map_toArray,List.map_cons,List.map_nil,e,r1]
      ·cases he
     ·rename_i size xs e2 e3
      injection he with g1 g2 g3
      subst g1 g2 g3
      obtain ⟨hsz,p3,p4,p5,p6⟩:=hp
      rw [e2] at hs
      have es:a.eval s=.slice none 0 0:=hs.1
      have hv:StI N w0 (upd ι σ.ob.length none) (σ.add (.rw e j.size [])) a w:=h.add (Ext.refl _ _) (fun b hb=>by cases hb) (fun _ _ _ e=>by injection e with e;exact e ▸ (hT _ _ hj).small) ⟨hsz,.inl ⟨upd_same _ _ _,rfl⟩⟩
      have hk:(σ.add (.rw e j.size [])).ob[σ.ob.length]?=some (.rw e j.size []):=by simp [LS.add]
      have e3':elemsL (σ.add (.rw e j.size [])).ob (ev σ x)=some (size,xs):=by
       unfold elemsL at e3 ⊢
       split at e3
       ·exact e3
       ·exact e3
       ·rename_i k' _
        split at e3
        ·rename_i hk'
         simp only [LS.add]
         rw [List.getElem?_append_left (List.getElem?_eq_some_iff.1 hk').1,hk']
         exact e3
        ·cases e3
       ·cases e3
      have hx':dlv w (own (upd ι σ.ob.length none) (σ.add (.rw e j.size [])).ob) (upd ι σ.ob.length none) (σ.add (.rw e j.size [])).ob (ev σ x) (a.eval x):=by
       have:=hv.ev x
       exact this
      obtain ⟨u',w',ι',r1,r2,r3⟩:=StI.append hT hv hTt rfl hj p4 hk (u:=.slice none 0 0) (.inl ⟨upd_same _ _ _,rfl,rfl⟩) e3' p3 hx' (by simpa using p5) (by simpa using p6) 0
      have hob:setOB (klR σ.ob.length) (.rw e j.size ([]++xs)) (σ.add (.rw e j.size [])).ob σ.ob.length=(σ.add (.rw e j.size xs)).ob:=by
       simp only [LS.add,List.nil_append]
       refine setOB_new (fun y hy=>?_)
       obtain ⟨i,hi⟩:=List.getElem?_of_mem hy
       have:=h.objs i y hi
       cases y with
       | bx t'' cs=>obtain ⟨_,_,_,_,hd⟩:=this;simp only [mapOB,klR_map hd]
       | _=>rfl
      rw [hob] at r2
      have r2':StI N w0 ι' (σ.add (.rw e j.size xs)) a w':=r2.sub (sl:=σ.sl) (fun p hp=>by
       obtain ⟨v,_,hd⟩:=h.slots p hp
       have:=mem_mapSl' (f:=klR σ.ob.length) hp
       rw [klR_lv hd] at this
       exact this)
      refine ⟨ι',u',w',fun o ho=>.inl ?_,r2',⟨e,j.size,xs,by simp [LS.add],by simpa using r3⟩,fun hn=>Bool.noConfusion hn⟩
      have e':Builtin.append_ #[t',t'] o.type #[.slice none 0 0,a.eval x]=Builtin.append_ #[t',t'] 0 #[.slice none 0 0,a.eval x]:=rfl
      simp only [execOp,ho,resolve,invoke,builtin,Sem.run_bind,Sem.run_pure,Result.andThen_ok,List.map_toArray,List.map_cons,List.map_nil,es,e',r1]
     ·cases he
    ·cases he
   ·cases he
  ·cases he
 ·cases he
/-! ### A string's bytes behind a row -/
theorem run_append_string_at {t u ty e:TypeId} {i:TypeInfo} (ht:P.underlying t=some (.slice e)) (hu:P.underlying u=some .string) (hi:P.info? e=some i) (hz:i.zero=some (.int .u8 0))
  (hsize:i.size=1) (hby:i.bytes=1) {v:Value} {n:Nat} {xs:List Value} (hown:w.ownsRow 0 e 1 v n xs) (s:ByteArray) (hb:n+s.size≤140737488355328) :
  ∃ v' w',(Builtin.append_ #[t,u] ty #[v,.string s]).run P w=.ok v' w'∧w'.ownsRow 0 e 1 v' (n+s.size) (xs++Lib.strCells s)∧w.grownBy w' v.ownBlock∧(v'.ownBlock=v.ownBlock∨∀ b,v'.ownBlock=some b→w.heap.size≤b):=by
 have h63:n+s.size≤maxLen:=by simp only [maxLen];omega
 obtain ⟨v',w',r1,r2,r3,r4⟩:=Lib.run_append_own_string (P:=P) w 0 t u ty e i ht hu hi hz hsize hby v n xs hown s h63 hb (Nat.zero_le _)
 refine ⟨v',w',r1,r2,r3,?_⟩
 have hxl:xs.length=n:=by simpa using hown.1
 rcases hown.2 with ⟨rfl,rfl⟩|⟨g,cap,cur,rfl,hbg,hg,hnc,hcm,hcs,htake⟩
 ·have hx:xs=[]:=List.eq_nil_of_length_eq_zero hxl
  subst hx
  obtain ⟨v2,w2,q1,q2,_,_⟩:=Lib.run_append_own_string (P:=P) w w.heap.size t u ty e i ht hu hi hz hsize hby (.slice none 0 0) 0 [] (World.ownsRow_nil w _ e 1) s h63 hb (Nat.le_refl _)
  rw [r1] at q1
  injection q1 with q1 q1'
  subst q1 q1'
  rcases q2.2 with ⟨rfl,_⟩|⟨g,cap,cur,rfl,hbg,_⟩
  ·exact .inl rfl
  ·exact .inr (fun b hb=>by
    have:g=b:=by simpa [Value.ownBlock] using hb
    omega)
 ·by_cases hroom:n+s.size≤cap
  ·have hcs':cur.size=cap:=by simpa using hcs
   have hr:=Lib.run_append_room_string (P:=P) w t u ty e i ht hu hi hsize g n cap cur hg s hroom (by omega)
   rw [r1] at hr
   injection hr with hr _
   subst hr
   exact .inl rfl
  ·have holds:∀ j u,xs[j]?=some u→w.cell? ((⟨g,0,none⟩:Addr).add j)=some u:=hown.cells (g:=g) rfl
   have hr:=Lib.run_append_grow_string (P:=P) w t u ty e i (.int .u8 0) ht hu hi hz ⟨g,0,none⟩ n cap xs (by rw [hsize];simpa using hxl) holds s (by omega) (by omega) (by rw [hby];exact growslice_fits (by omega) (by omega))
   rw [r1] at hr
   injection hr with hr _
   subst hr
   exact .inr (fun b hb=>by
    have:w.heap.size=b:=by simpa [Value.ownBlock] using hb
    omega)
theorem denVs_str (s:ByteArray):denVs w O (strD s).flatten (Lib.strCells s):=by
 unfold strD Lib.strCells
 generalize s.data.toList=l
 induction l with
 | nil=>rfl
 | cons b l ih=>exact ⟨_,_,rfl,⟨rfl,rfl⟩,ih⟩
theorem strD_one (s:ByteArray):∀ e∈strD s,e.length=1:=by
 intro e he
 simp only [strD,List.mem_map] at he
 obtain ⟨b,_,rfl⟩:=he
 rfl
theorem e_appendS (hT:okT P T) (h:StI N w0 ι σ a w) {ts:Array Nat} {s x:Operand} {p:Prop} {y:LV} (he:eappendS T σ ts.toList s x=.ok p σ' y) (hp:p) :
  Eok P N w0 a (.call { callee:=.builtin .append,args:=#[s,x],argTypes:=ts }) w σ' y:=by
 have hs:=h.ev s
 have hx:=h.ev x
 unfold eappendS at he
 split at he
 ·rename_i t t' e0
  obtain rfl:ts=#[t,t']:=Array.toList_inj.1 e0
  split at he
  ·rename_i e _ _ _ _ _ _ _ _ hTt hTt'
   split at he
   ·rename_i j k str hj e2 e3
    split at he
    ·rename_i e' size es hk
     injection he with g1 g2 g3
     subst g1 g2 g3
     obtain ⟨rfl,rfl,p3,p4,p5,p6⟩:=hp
     rw [e2] at hs
     rw [e3] at hx
     obtain ⟨t2,s2,es2,hk2,hh⟩:=hs
     rw [hk] at hk2
     injection hk2 with hk2
     injection hk2 with q1 q2 q3
     subst q1 q2 q3
     have ex:a.eval x=.string str:=hx.1
     obtain ⟨xs0,k1,k2,k3,k4,hsz⟩:=row_owns h hk hh
     have hsm:=(hT e' j hj).small
     rw [tyOf_small hsm] at k1
     have hund:=(hT t _ hTt).und
     have hund':=(hT t' _ hTt').und
     obtain ⟨ti,g1,g2,g3,g4⟩:=(hT e' j hj).inf
     obtain ⟨u',w',r1,r2,r3,r4⟩:=run_append_string_at (P:=P) (ty:=0) hund hund' g1 (by rw [g4,p5]) (by rw [g2,p3]) (by rw [g3,p4]) k1 str p6
     have he:Ext (fun b=>ι k=some b) w w':=Ext.of_grown r3 (fun g hg=>by rw [← k4];exact hg)
     have hk':live σ.ob k:=⟨_,hk,rfl⟩
     have hlen:(es++strD str).length=es.length+str.size:=by
      rw [List.length_append]
      congr 1
      simp only [strD,List.length_map,Array.length_toList]
      rfl
     have hs2:Stays (fun b=>ι k=some b) (own ι σ.ob) (fun b=>(own ι σ.ob b∧ι k≠some b)∨u'.ownBlock=some b) w w' :=
      ⟨he,fun b _ hb=>.inr ⟨k,hk',hb⟩,fun b hb ho=>ho.elim (fun h=>h.1) (fun h=>by
        rcases r4 with r4|r4
        ·exact .inr ⟨k,hk',by rw [← k4,← r4];exact h⟩
        ·have:=r4 b h;omega)⟩
     have hreg:=h.regrow (g':=u'.ownBlock) (es':=es++strD str) hk hsm he (r4.imp (fun r=>r.trans k4) id)
      (owns_dob hsm (by rw [hlen];exact r2) (by decide) (by rw [List.flatten_append];exact denVs_append (denVs_mono hs2 _ _ k2) (denVs_str str)) (fun e he=>by
        rcases List.mem_append.1 he with he|he
        ·exact k3 e he
        ·exact strD_one str e he) rfl)
     refine ⟨_,u',w',fun o ho=>.inl ?_,hreg,⟨e',1,es++strD str,by rw [setOB_get,if_pos rfl,hk];rfl,by rw [upd_same,hlen];exact owns_hdr r2⟩,fun hn=>Bool.noConfusion hn⟩
     have e:Builtin.append_ #[t,t'] o.type #[a.eval s,.string str]=Builtin.append_ #[t,t'] 0 #[a.eval s,.string str]:=rfl
     simp only [execOp,ho,resolve,invoke,builtin,Sem.run_bind,Sem.run_pure,Result.andThen_ok,List.map_toArray,List.map_cons,List.map_nil,ex,e,r1]
    ·cases he
   ·cases he
  ·cases he
 ·cases he
/-! ### Maps -/
theorem mdel_dents {s:ByteArray}:∀ {es:List (ByteArray × DV)} {l:List MapEntry},dents w O es l→∀ i,
  (Instr.findNow .string (.string s) l i=some none∧dents w O (mdel es s) l) ∨
  ∃ j u,Instr.findNow .string (.string s) l i=some (some (i+j,u))∧j<l.length∧dents w O (mdel es s) (l.eraseIdx j)
 | [],l,h,i=>by
  simp only [dents] at h
  subst h
  exact .inl ⟨rfl,rfl⟩
 | (k,x)::r,l,h,i=>by
  obtain ⟨e,l',rfl,hk,hx,hr⟩:=h
  by_cases hks:k=s
  ·subst hks
   refine .inr ⟨0,e.val,?_,by simp,?_⟩
   ·simp [Instr.findNow,hk,Instr.sameNow,baEq]
   ·simpa only [mdel,if_true,List.eraseIdx_cons_zero] using hr
  ·have hne:(s == k)=false:=by rw [baEq];exact decide_eq_false (fun e=>hks e.symm)
   simp only [mdel,if_neg hks]
   rcases mdel_dents (s:=s) hr (i+1) with ⟨h1,h2⟩|⟨j,u,h1,h4,h3⟩
   ·exact .inl ⟨by simp [Instr.findNow,hk,Instr.sameNow,hne,h1],⟨e,_,rfl,hk,hx,h2⟩⟩
   ·refine .inr ⟨j+1,u,?_,by simpa using h4,?_⟩
    ·simp [Instr.findNow,hk,Instr.sameNow,hne,h1];omega
    ·simp only [List.eraseIdx_cons_succ]
     exact ⟨e,_,rfl,hk,hx,h3⟩
theorem mset_dents {s:ByteArray} {d:DV} {v:Value} (hd:den w O d v):∀ {es:List (ByteArray × DV)} {l:List MapEntry},dents w O es l→∀ i,
  (Instr.findNow .string (.string s) l i=some none∧∀ b,dents w O (mset es s d) (l++[{ key:=.string s,val:=v,born:=b }])) ∨
  ∃ j u,Instr.findNow .string (.string s) l i=some (some (i+j,u))∧(∃ e,l[j]?=some e∧e.key=.string s)∧dents w O (mset es s d) (l.modify j fun e=>{ e with key:=.string s,val:=v })
 | [],l,h,i=>by
  simp only [dents] at h
  subst h
  exact .inl ⟨rfl,fun b=>⟨_,_,rfl,rfl,hd,rfl⟩⟩
 | (k,x)::r,l,h,i=>by
  obtain ⟨e,l',rfl,hk,hx,hr⟩:=h
  by_cases hks:k=s
  ·subst hks
   refine .inr ⟨0,e.val,?_,⟨e,rfl,hk⟩,?_⟩
   ·simp [Instr.findNow,hk,Instr.sameNow,baEq]
   ·simp only [mset,if_true,List.modify_zero_cons]
    exact ⟨_,_,rfl,rfl,hd,hr⟩
  ·have hne:(s == k)=false:=by rw [baEq];exact decide_eq_false (fun e=>hks e.symm)
   simp only [mset,if_neg hks]
   rcases mset_dents (s:=s) hd hr (i+1) with ⟨h1,h2⟩|⟨j,u,h1,⟨e',h4,h5⟩,h3⟩
   ·refine .inl ⟨by simp [Instr.findNow,hk,Instr.sameNow,hne,h1],fun b=>⟨e,_,rfl,hk,hx,h2 b⟩⟩
   ·refine .inr ⟨j+1,u,?_,⟨e',by simpa using h4,h5⟩,?_⟩
    ·simp [Instr.findNow,hk,Instr.sameNow,hne,h1];omega
    ·simp only [List.modify_succ_cons]
     exact ⟨e,_,rfl,hk,hx,h3⟩
def World.putObj' (w:World) (g:Nat) (o:Obj):World:={ w with heap:=w.heap.setIfInBounds g o }
theorem run_setObj_map {g:Nat} {ents:Array MapEntry} {clk:Nat} (h:w.heap[g]?=some (.map ents clk)) (o:Obj):(setObj g o).run P w=.ok () (World.putObj' w g o):=by
 simp [setObj,Sem.run,h,World.putObj']
theorem putObj_heap {g:Nat} {o o':Obj} (h:w.heap[g]?=some o'):(World.putObj' w g o).heap[g]?=some o:=by
 have hlt:=(Array.getElem?_eq_some_iff.1 h).1
 simp [World.putObj',hlt]
theorem ext_putObj {g:Nat} (o:Obj):Ext (·=g) w (World.putObj' w g o):=⟨rfl,rfl,rfl,by simp [World.putObj'],fun k _ hn=>by
 simp only [World.putObj']
 rw [Array.getElem?_setIfInBounds_ne (Ne.symm hn)]⟩
theorem run_keyStays (s:ByteArray):(Instr.keyThatStays (.string s) (.string s)).run P w=.ok (.string s) w:=by
 simp [Instr.keyThatStays,Instr.sameBits,baEq]
theorem e_mapUpdate (hT:okT P T) (h:StI N w0 ι σ a w) {t:Nat} {m k v:Operand} {p:Prop} {x:LV} (he:emapUpdate T σ t m k v=.ok p σ' x):Eok P N w0 a (.mapUpdate t m k v) w σ' x:=by
 unfold emapUpdate at he
 split at he
 ·rename_i kt e _ _ _ _ hTt
  split at he
  ·rename_i _ _ _ _ σ1 hTk hf
   have hs:=fzs_sound h hf
   split at he
   ·rename_i n s d e1 e2 e3
    split at he
    ·rename_i es hk
     injection he with g1 g2 g3
     subst g1 g2 g3
     have hm:=hs.ev m
     have hkk:=hs.ev k
     have hv:=hs.ev v
     rw [e1] at hm;rw [e2] at hkk;rw [e3] at hv
     obtain ⟨g,hl,hg,em⟩:=hm
     have ek:a.eval k=.string s:=hkk.1
     obtain ⟨g',ents,clk,h1,h2,h3⟩:=hs.objs n _ hk
     rw [hg] at h1
     injection h1 with h1
     subst h1
     have hund:=(hT t _ hTt).und
     have hundk:=(hT kt _ hTk).und
     have hden:den w (own ι σ1.ob) d (a.eval v):=hv
     have key:∃ ents' clk',(Instr.mapUpdate t (.map (some g)) (.string s) (a.eval v)).run P w=.ok () (World.putObj' w g (.map ents' clk'))∧dents w (own ι σ1.ob) (mset es s d) ents'.toList:=by
      rcases mset_dents (s:=s) hden h3 0 with ⟨f1,f2⟩|⟨j,u,f1,⟨e',f2,f3⟩,f4⟩
      ·refine ⟨ents.push { key:=.string s,val:=a.eval v,born:=clk },clk+1,?_,by simpa using f2 clk⟩
       simp [Instr.mapUpdate,Go.run_underlying hund,run_getObj_map h2,run_checkKey_string hundk _ 9999,run_findKey_string hundk f1,run_setObj_map h2]
      ·refine ⟨ents.modify j fun e=>{ e with key:=.string s,val:=a.eval v },clk,?_,by rw [Array.toList_modify];exact f4⟩
       have:ents[j]?=some e':=by simpa using f2
       simp [Instr.mapUpdate,Go.run_underlying hund,run_getObj_map h2,run_checkKey_string hundk _ 9999,run_findKey_string hundk f1,this,f3,run_keyStays,run_setObj_map h2]
     obtain ⟨ents',clk',k1,k2⟩:=key
     have hext:=ext_putObj (w:=w) (g:=g) (.map ents' clk')
     have hs':Stays (·=g) (own ι σ1.ob) (own ι σ1.ob) w (World.putObj' w g (.map ents' clk')):=⟨hext,fun b _ hb=>hb ▸ .inr ⟨n,hl,hg⟩,fun _ _ h=>h⟩
     refine ⟨ι,undef,_,fun o ho=>.inr ⟨?_,rfl⟩,hs.set (o':=.mp (mset es s d)) hk rfl rfl hg hext (fun _ _ _ e=>by cases e) ⟨g,ents',clk',hg,putObj_heap h2,dents_mono hs' k2⟩ (fun _ _ _ e=>by cases e),trivial,fun hn=>Bool.noConfusion hn⟩
     simp only [execOp,ho,em,ek,Sem.run_bind,k1,Result.andThen_ok,Sem.run_pure]
    ·cases he
   ·cases he
  ·cases he
 ·cases he
theorem e_mapDelete (hT:okT P T) (h:StI N w0 ι σ a w) {ts:Array Nat} {m k:Operand} {p:Prop} {x:LV} (he:emapDelete T σ ts.toList m k=.ok p σ' x) :
  Eok P N w0 a (.call { callee:=.builtin .delete,args:=#[m,k],argTypes:=ts }) w σ' x:=by
 unfold emapDelete at he
 split at he
 ·rename_i t tr ets
  split at he
  ·rename_i kt e _ _ _ _ hTt
   split at he
   ·rename_i _ _ _ _ hTk
    split at he
    ·rename_i n s e1 e2
     split at he
     ·rename_i es hk
      injection he with g1 g2 g3
      subst g1 g2 g3
      have hm:=h.ev m
      have hkk:=h.ev k
      rw [e1] at hm;rw [e2] at hkk
      obtain ⟨g,hl,hg,em⟩:=hm
      have ek:a.eval k=.string s:=hkk.1
      obtain ⟨g',ents,clk,h1,h2,h3⟩:=h.objs n _ hk
      rw [hg] at h1
      injection h1 with h1
      subst h1
      have hund:=(hT t _ hTt).und
      have hundk:=(hT kt _ hTk).und
      have ht0:ts[0]?=some t:=by
       have:ts.toList[0]?=some t:=by rw [ets];rfl
       simpa using this
      have key:∀ ty,∃ ents' clk',(Builtin.delete_ ts ty #[.map (some g),.string s]).run P w=.ok (.tuple #[]) (World.putObj' w g (.map ents' clk'))∧dents w (own ι σ.ob) (mdel es s) ents'.toList:=by
       intro ty
       rcases mdel_dents (s:=s) h3 0 with ⟨f1,f2⟩|⟨j,u,f1,f2,f3⟩
       ·refine ⟨ents,clk,?_,f2⟩
        simp [Builtin.delete_,ht0,Go.run_underlying hund,run_getObj_map h2,run_checkKey_string hundk _ 9999,run_findKey_string hundk f1,run_setObj_map h2]
       ·refine ⟨ents.eraseIdxIfInBounds j,clk,?_,?_⟩
        ·simp [Builtin.delete_,ht0,Go.run_underlying hund,run_getObj_map h2,run_checkKey_string hundk _ 9999,run_findKey_string hundk f1,run_setObj_map h2]
        ·have hj:j<ents.size:=by simpa using f2
         rw [Array.eraseIdxIfInBounds,dif_pos hj,Array.toList_eraseIdx]
         exact f3
      have key0:∀ ty,(Builtin.delete_ ts ty #[.map (some g),.string s])=Builtin.delete_ ts 0 #[.map (some g),.string s]:=fun _=>rfl
      obtain ⟨ents',clk',k1,k2⟩:=key 0
      have hext:=ext_putObj (w:=w) (g:=g) (.map ents' clk')
      have hs':Stays (·=g) (own ι σ.ob) (own ι σ.ob) w (World.putObj' w g (.map ents' clk')):=⟨hext,fun b _ hb=>hb ▸ .inr ⟨n,hl,hg⟩,fun _ _ h=>h⟩
      refine ⟨ι,.tuple #[],_,fun o ho=>.inl ?_,h.set (o':=.mp (mdel es s)) hk rfl rfl hg hext (fun _ _ _ e=>by cases e) ⟨g,ents',clk',hg,putObj_heap h2,dents_mono hs' k2⟩ (fun _ _ _ e=>by cases e),⟨#[],rfl,rfl⟩,fun hn=>Bool.noConfusion hn⟩
      simp only [execOp,ho,resolve,invoke,builtin,Sem.run_bind,Sem.run_pure,Result.andThen_ok,List.map_toArray,List.map_cons,List.map_nil,em,ek,key0,k1]
     ·cases he
    ·cases he
   ·cases he
  ·cases he
 ·cases he
theorem eff_sound (hT:okT P T) (h:StI N w0 ι σ a w) {op:Op} {p:Prop} {x:LV} (he:eff T σ op=.ok p σ' x) (hp:p):Eok P N w0 a op w σ' x:=by
 unfold eff at he
 split at he
 ·split at he
  ·rename_i hc;injection he with g1 g2 g3;subst g1 g2 g3;exact e_box h hc
  ·cases he
 ·split at he
  ·rename_i i hi
   split at he
   ·rename_i hz;injection he with g1 g2 g3;subst g1 g2 g3;exact e_alloc hT h hi hz
   ·cases he
  ·cases he
 ·exact e_buildSlice hT h he hp
 ·exact e_makeSlice hT h he hp
 ·injection he with g1 g2 g3;subst g1 g2 g3;exact e_makeMap h
 ·split at he
  ·rename_i hTt hx
   injection he with g1 g2 g3;subst g1 g2 g3;exact e_makeMapN hT h hTt hx
  ·cases he
 ·exact e_store hT h he hp
 ·exact e_mapUpdate hT h he
 ·rename_i f first caps
  split at he
  ·rename_i hf
   obtain rfl:first=#[]:=Array.eq_empty_of_size_eq_zero hf
   exact e_makeFunc h he
  ·cases he
 ·rename_i c
  obtain ⟨callee,args,ts⟩:=c
  unfold ecall at he
  split at he
  ·rename_i s x e1 e2
   simp only at e1 e2 he
   subst e1
   obtain rfl:args=#[s,x]:=Array.toList_inj.1 e2
   unfold orS at he
   split at he
   ·rename_i p' σ2 y' hq
    injection he with g1 g2 g3
    subst g1 g2 g3
    exact e_append hT h hq hp
   ·exact e_appendS hT h he hp
  ·rename_i m k e1 e2
   simp only at e1 e2 he
   subst e1
   obtain rfl:args=#[m,k]:=Array.toList_inj.1 e2
   exact e_mapDelete hT h he
  ·cases he
 ·cases he
end
open Go Go.RowKit
inductive PxR where
 | old (t size g n cap:Nat) (xs:List (List DV)) (p:Prop)
 | new (t size:Nat) (xs:List (List DV)) (p:Prop)
@[reducible] def hdL (g n cap:Nat):LV:=.c (.d (.v (.slice (some ⟨g,0,none⟩) n cap)))
def appP (T:Tab) (σ:LS) (ts:List Nat) (s x:Operand):Option PxR :=
 match ts with
 | [t,t'] =>
  if t'=t then
   match T t with
   | some ⟨.slice e,_,_,_,_⟩ =>
    match T e with
    | some j =>
     match ev σ s,elemsL σ.ob (ev σ x) with
     | .c (.d (.v (.slice (some ⟨g,0,none⟩) n cap))),some (size,xs) =>
      some (.old e j.size g n cap xs (size=j.size∧0<xs.length∧j.zero.cells.size=j.size∧n+xs.length≤maxLen∧(n+xs.length)*j.bytes≤140737488355328))
     | .c (.d (.v (.slice none 0 0))),some (size,xs) =>
      some (.new e j.size xs (0<j.size∧size=j.size∧0<xs.length∧j.zero.cells.size=j.size∧xs.length≤maxLen∧xs.length*j.bytes≤140737488355328))
     | _,_=>none
    | none=>none
   | _=>none
  else none
 | _=>none
def effP (T:Tab) (σ:LS):Op→Option PxR
 | .call ⟨.builtin .append,as,ts⟩=>match as.toList with
  | [s,x]=>appP T σ ts.toList s x
  | _=>none
 | _=>none
/-! ### No pointer to an object -/
def noC (k:Nat):CV→Prop
 | .d _=>True
 | .op j _=>j≠k
 | .oe _ _ _=>True
 | .os _=>True
 | .om j=>j≠k
 | .any=>True
def noCs (k:Nat):List CV→Prop
 | []=>True
 | c::r=>noC k c∧noCs k r
def no1 (k:Nat):LV→Prop
 | .c c=>noC k c
 | .ag cs=>noCs k cs
 | .tu _=>True
def no1s (k:Nat):List LV→Prop
 | []=>True
 | x::r=>no1 k x∧no1s k r
def noL (k:Nat):LV→Prop
 | .c c=>noC k c
 | .ag cs=>noCs k cs
 | .tu vs=>no1s k vs
def noS (k:Nat):List (Nat × LV)→Prop
 | []=>True
 | p::r=>noL k p.2∧noS k r
def noOb (k:Nat):OB→Prop
 | .bx _ cs=>noCs k cs
 | .rw _ _ _=>True
 | .mp _=>True
 | .px _ _ _ _ _=>True
 | .dead=>True
def noO (k:Nat):List OB→Prop
 | []=>True
 | o::r=>noOb k o∧noO k r
theorem noCs_mem {k:Nat} {c:CV}:∀ {cs:List CV},noCs k cs→c∈cs→noC k c
 | x::cs,h,hc=>by
  rcases List.mem_cons.1 hc with rfl|hc
  ·exact h.1
  ·exact noCs_mem h.2 hc
theorem noS_mem {k:Nat} {p:Nat × LV}:∀ {l:List (Nat × LV)},noS k l→p∈l→noL k p.2
 | x::l,h,hc=>by
  rcases List.mem_cons.1 hc with rfl|hc
  ·exact h.1
  ·exact noS_mem h.2 hc
theorem noO_get {k j:Nat} {o:OB}:∀ {ob:List OB},noO k ob→ob[j]?=some o→noOb k o
 | [],_,h=>by simp at h
 | x::ob,h,ho=>by
  cases j with
  | zero=>simp at ho;exact ho ▸ h.1
  | succ j=>exact noO_get h.2 (by simpa using ho)
section
variable {P:Program} {T:Tab} {N:Nat} {w0:W0} {ι ι':Io} {σ σ':LS} {a:Act} {w w':World} {O O':Nat→Prop} {ob ob':List OB}
theorem dl1_no {k:Nat} (hi:∀ c u,noC k c→dcv w O ι ob c u→dcv w' O' ι' ob' c u):∀ {x:LV} {u:Value},no1 k x→dl1 w O ι ob x u→dl1 w' O' ι' ob' x u
 | .c .any,_,_,_=>trivial
 | .c (.d x),u,hn,h=>hi (.d x) u hn h
 | .c (.op k off),u,hn,h=>hi (.op k off) u hn h
 | .c (.oe k i off),u,hn,h=>hi (.oe k i off) u hn h
 | .c (.os k),u,hn,h=>hi (.os k) u hn h
 | .c (.om k),u,hn,h=>hi (.om k) u hn h
 | .ag cs,u,hn,h=>by
  obtain ⟨us,rfl,hd⟩:=h
  exact ⟨us,rfl,dcvs_imp (R:=fun _ _=>True) hd (fun c u hc=>hi c u (noCs_mem hn hc))⟩
 | .tu _,_,_,h=>h.elim
theorem dl1s_no {k:Nat} (hi:∀ c u,noC k c→dcv w O ι ob c u→dcv w' O' ι' ob' c u):∀ {xs:List LV} {us:List Value},no1s k xs→dl1s w O ι ob xs us→dl1s w' O' ι' ob' xs us
 | [],_,_,h=>h
 | x::xs,us,hn,h=>by
  obtain ⟨u,r,rfl,hu,hr⟩:=h
  exact ⟨u,r,rfl,dl1_no hi hn.1 hu,dl1s_no hi hn.2 hr⟩
theorem dlv_no {k:Nat} (hi:∀ c u,noC k c→dcv w O ι ob c u→dcv w' O' ι' ob' c u):∀ {x:LV} {u:Value},noL k x→dlv w O ι ob x u→dlv w' O' ι' ob' x u
 | .c x,u,hn,h=>dl1_no (x:=.c x) hi hn h
 | .ag cs,u,hn,h=>dl1_no (x:=.ag cs) hi hn h
 | .tu xs,u,hn,h=>by
  obtain ⟨us,rfl,hd⟩:=h
  exact ⟨us,rfl,dl1s_no hi hn hd⟩
theorem StI.pxset (h:StI N w0 ι σ a w) {k t size g cap g' cap':Nat} {es es':List (List DV)} (hk:σ.ob[k]?=some (.px t size g cap es)) (hn:noS k σ.sl) (hno:noO k σ.ob)
  (he:Ext (·=g) w w') (r4:g'=g∨w.heap.size≤g')
  (hob:dob w' (own (upd ι k (some g')) (σ.ob.set k (.px t size g' cap' es'))) (upd ι k (some g')) (σ.ob.set k (.px t size g' cap' es')) k (.px t size g' cap' es')) :
  StI N w0 (upd ι k (some g')) { σ with ob:=σ.ob.set k (.px t size g' cap' es') } a w':=by
 have hk':live σ.ob k:=⟨_,hk,rfl⟩
 have hlt:=hk'.lt
 have hιk:ι k=some g:=(h.objs k _ hk).2.1
 have hlv:∀ jj,live (σ.ob.set k (.px t size g' cap' es')) jj↔live σ.ob jj:=fun jj=>live_set hk rfl rfl jj
 have hup:∀ jj,jj≠k→upd ι k (some g') jj=ι jj:=fun jj hj=>upd_ne _ _ hj
 have hkk:upd ι k (some g') k=some g':=upd_same _ _ _
 have hO2:∀ b,own (upd ι k (some g')) (σ.ob.set k (.px t size g' cap' es')) b→own ι σ.ob b∨b=g':=by
  rintro b (ho|⟨jj,hl,hb⟩)
  ·exact .inl (.inl ho)
  by_cases e:jj=k
  ·rw [e,hkk] at hb;injection hb with hb;exact .inr hb.symm
  ·rw [hup jj e] at hb;exact .inl (.inr ⟨jj,(hlv jj).1 hl,hb⟩)
 have hs:Stays (·=g) (own ι σ.ob) (own (upd ι k (some g')) (σ.ob.set k (.px t size g' cap' es'))) w w' :=
  ⟨he,fun b _ hb=>.inr ⟨k,hk',by rw [hιk,hb]⟩,fun b hb ho=>by
    rcases hO2 b ho with h1|h1
    ·exact h1
    ·rcases r4 with r4|r4
     ·exact .inr ⟨k,hk',by rw [hιk,h1,r4]⟩
     ·omega⟩
 have hcv:∀ c u,noC k c→dcv w (own ι σ.ob) ι σ.ob c u→dcv w' (own (upd ι k (some g')) (σ.ob.set k (.px t size g' cap' es'))) (upd ι k (some g')) (σ.ob.set k (.px t size g' cap' es')) c u:=by
  intro c u hnc hc
  cases c with
  | d z=>exact den_mono hs z u hc
  | op j off =>
   obtain ⟨b,h1,h2,h3⟩:=hc
   exact ⟨b,(hlv j).2 h1,(hup j hnc).trans h2,h3⟩
  | oe j i off =>
   obtain ⟨b,t2,s2,es2,h1,h2,h3⟩:=hc
   have e:j≠k:=fun e=>by subst e;rw [hk] at h2;cases h2
   exact ⟨b,t2,s2,es2,(hup j e).trans h1,by rw [List.getElem?_set_ne (Ne.symm e)];exact h2,h3⟩
  | os j =>
   obtain ⟨t2,s2,es2,h1,h2⟩:=hc
   have e:j≠k:=fun e=>by subst e;rw [hk] at h1;cases h1
   refine ⟨t2,s2,es2,by rw [List.getElem?_set_ne (Ne.symm e)];exact h1,?_⟩
   rw [hup j e]
   exact hdr_ext he (fun b hb hbg=>e (h.inj j k b ⟨_,h1,rfl⟩ hk' hb (by rw [hιk,hbg]))) h2
  | om j =>
   obtain ⟨b,h1,h2,h3⟩:=hc
   exact ⟨b,(hlv j).2 h1,(hup j hnc).trans h2,h3⟩
  | any=>exact hc
 refine ⟨h.defers,h.size,h.below.grow he (fun b hb=>by rw [hb];exact h.base k g hk' hιk),fun p hp=>?_,fun j o hj=>?_,fun jj jj' b hl hl' hb hb'=>?_,fun jj b hl hb=>?_,h.out,fun j t2 s2 es2 hj ht=>?_⟩
 ·obtain ⟨v,hv,hd⟩:=h.slots p hp
  exact ⟨v,hv,dlv_no hcv (noS_mem hn hp) hd⟩
 ·by_cases e:k=j
  ·subst e
   have hj':(σ.ob.set k (.px t size g' cap' es'))[k]?=some o:=hj
   rw [List.getElem?_set_self hlt] at hj'
   injection hj' with hj'
   subst hj'
   exact hob
  ·have hj':(σ.ob.set k (.px t size g' cap' es'))[j]?=some o:=hj
   rw [List.getElem?_set_ne e] at hj'
   have hd:=h.objs j o hj'
   have hne:∀ b,ι j=some b→o.isDead=false→b≠g:=fun b hb hdd eb=>e (h.inj j k g ⟨o,hj',hdd⟩ hk' (eb ▸ hb) hιk).symm
   have hu:=hup j (Ne.symm e)
   cases o with
   | bx t2 cs =>
    obtain ⟨b,us,h1,h2,h3⟩:=hd
    exact ⟨b,us,hu.trans h1,(he.block b (Array.getElem?_eq_some_iff.1 h2).1 (hne b h1 rfl)).trans h2,dcvs_imp (R:=fun _ _=>True) h3 (fun c u hc=>hcv c u (noCs_mem (noO_get hno hj') hc))⟩
   | rw t2 s2 es2 =>
    refine ⟨hd.1,?_⟩
    rcases hd.2 with h1|⟨b,cur,cp,h1,h2,h3,h4,h5,h6⟩
    ·exact .inl ⟨hu.trans h1.1,h1.2⟩
    ·have hb:=he.block b (Array.getElem?_eq_some_iff.1 h2).1 (hne b h1 rfl)
     exact .inr ⟨b,cur,cp,hu.trans h1,hb.trans h2,h3,h4,h5,rdEs_mono' hs s2 es2 _ _ (Nat.le_refl _) (fun j _=>World.cell?_of_block (by rw [add_block];exact hb)) h6⟩
   | mp es2 =>
    obtain ⟨b,ents,clk,h1,h2,h3⟩:=hd
    exact ⟨b,ents,clk,hu.trans h1,(he.block b (Array.getElem?_eq_some_iff.1 h2).1 (hne b h1 rfl)).trans h2,dents_mono hs h3⟩
   | px t2 s2 b cp es2 =>
    obtain ⟨h0,h1,cur,h2,h3,h4,h5,h6⟩:=hd
    have hb:=he.block b (Array.getElem?_eq_some_iff.1 h2).1 (hne b h1 rfl)
    exact ⟨h0,hu.trans h1,cur,hb.trans h2,h3,h4,h5,rdEs_mono' hs s2 es2 _ _ (Nat.le_refl _) (fun j _=>World.cell?_of_block (by rw [add_block];exact hb)) h6⟩
   | dead=>trivial
 ·replace hl:=(hlv jj).1 hl
  replace hl':=(hlv jj').1 hl'
  have key:∀ jj,live σ.ob jj→upd ι k (some g') jj=some b→(jj=k∧w.heap.size≤b)∨ι jj=some b:=by
   intro j1 hl1 hb1
   by_cases e:j1=k
   ·rw [e,hkk] at hb1
    injection hb1 with hb1
    rcases r4 with r4|r4
    ·exact .inr (by rw [e,hιk,← r4,hb1])
    ·exact .inl ⟨e,by omega⟩
   ·rw [hup j1 e] at hb1;exact .inr hb1
  rcases key jj hl hb with ⟨e1,e2⟩|h1<;>rcases key jj' hl' hb' with ⟨e3,e4⟩|h2
  ·rw [e1,e3]
  ·have:=own_lt h (.inr ⟨jj',hl',h2⟩);omega
  ·have:=own_lt h (.inr ⟨jj,hl,h1⟩);omega
  ·exact h.inj jj jj' b hl hl' h1 h2
 ·replace hl:=(hlv jj).1 hl
  by_cases e:jj=k
  ·rw [e,hkk] at hb
   injection hb with hb
   rcases r4 with r4|r4
   ·exact h.base k b hk' (by rw [hιk,← r4,hb])
   ·exact .inl (Nat.le_trans h.below.size (by omega))
  ·rw [hup jj e] at hb;exact h.base jj b hl hb
 ·by_cases e:k=j
  ·subst e
   have hj':(σ.ob.set k (.px t size g' cap' es'))[k]?=some (.rw t2 s2 es2):=hj
   rw [List.getElem?_set_self hlt] at hj'
   cases hj'
  ·have hj':(σ.ob.set k (.px t size g' cap' es'))[j]?=some (.rw t2 s2 es2):=hj
   rw [List.getElem?_set_ne e] at hj'
   rw [hup j (Ne.symm e)]
   exact h.pin j t2 s2 es2 hj' ht
theorem px_owns {t size g cap:Nat} {es:List (List DV)} {cur:Array Value} (h2:w.heap[g]?=some (.cells cur t (0,0))) (h3:cur.size=cap*size) (h4:es.length≤cap) (h5:cap≤maxLen) (h6:rdEs w O size ⟨g,0,none⟩ es) :
  ∃ xs,w.ownsRow 0 t size (.slice (some ⟨g,0,none⟩) es.length cap) es.length xs∧denVs w O es.flatten xs∧∀ e∈es,e.length=size:=by
 obtain ⟨us,k1,k2,k3,k4⟩:=rdEs_vals size h6
 refine ⟨us,⟨k2,.inr ⟨g,cap,cur,rfl,Nat.zero_le _,h2,h4,h5,h3,?_⟩⟩,k1,k3⟩
 apply List.ext_getElem?
 intro j
 rw [List.getElem?_take]
 split
 ·rename_i hj
  have hj':j<us.length:=by omega
  have h10:=k4 j us[j] (List.getElem?_eq_getElem hj')
  rw [add_lit',Nat.zero_add,cell_of_row w g j cur t (0,0) h2] at h10
  rw [List.getElem?_eq_getElem hj',← h10]
  simp
 ·rename_i hj
  rw [List.getElem?_eq_none (by omega)]
theorem owns_px {t size n:Nat} {u:Value} {xs:List Value} (h:w.ownsRow 0 t size u n xs) (hn:0<n):∃ g cap,u=.slice (some ⟨g,0,none⟩) n cap∧u.ownBlock=some g ∧
  ∀ (O:Nat→Prop) (ι:Io) (ob:List OB) (k:Nat) (es:List (List DV)),0<size→t<1000000→es.length=n→ι k=some g→denVs w O es.flatten xs→(∀ e∈es,e.length=size)→dob w O ι ob k (.px t size g cap es):=by
 rcases h.2 with ⟨rfl,h0⟩|⟨g,cap,cur,rfl,_,hg,h1,h2,h3,h4⟩
 ·omega
 ·refine ⟨g,cap,rfl,rfl,fun O ι ob k es hs ht hl hι hd hle=>⟨⟨hs,ht⟩,hι,cur,hg,h3,by omega,h2,rdEs_of_vals size hd hle (fun j v hj=>?_)⟩⟩
  rw [add_lit',Nat.zero_add,cell_of_row w g j cur t (0,0) hg]
  rw [← h4,List.getElem?_take] at hj
  split at hj
  ·simpa using hj
  ·cases hj
theorem den_ones:∀ {ds:List DV} {us:List Value},denVs w O ds us→∀ u∈us,u.oneCell'=true
 | [],us,hd,u,hu=>by simp only [denVs] at hd;subst hd;simp at hu
 | d::ds,us,hd,u,hu=>by
  obtain ⟨y,r,rfl,hy,hr⟩:=hd
  rcases List.mem_cons.1 hu with rfl|hu
  ·exact den_oneCell hy
  ·exact den_ones hr u hu
theorem px_old (hT:okT P T) (h:StI N w0 ι σ a w) {t e:TypeId} {i j:TI} (hTt:T t=some i) (hd:i.desc=.slice e) (hTe:T e=some j) (hz:j.zero.cells.size=j.size)
  {k g cap:Nat} {es:List (List DV)} (hk:σ.ob[k]?=some (.px e j.size g cap es)) (hn:noS k σ.sl) (hno:noO k σ.ob) {x:LV} {xs:List (List DV)} (hx:elemsL σ.ob x=some (j.size,xs)) (hpos:0<xs.length)
  {v:Value} (hv:dlv w (own ι σ.ob) ι σ.ob x v) (h63:es.length+xs.length≤maxLen) (hby:(es.length+xs.length)*j.bytes≤140737488355328) (ty:TypeId) :
  ∃ g' cap' w' ι',(Builtin.append_ #[t,t] ty #[.slice (some ⟨g,0,none⟩) es.length cap,v]).run P w=.ok (.slice (some ⟨g',0,none⟩) (es++xs).length cap') w' ∧
   StI N w0 ι' { σ with ob:=σ.ob.set k (.px e j.size g' cap' (es++xs)) } a w':=by
 have hdk:=h.objs k _ hk
 obtain ⟨⟨hsz,hsm⟩,hιk,cur,h2,h3,h4,h5,h6⟩:=hdk
 obtain ⟨xs0,k1,k2,k3⟩:=px_owns h2 h3 h4 h5 h6
 obtain ⟨A,c,news,rfl,n1,n2,n3,n4⟩:=elems_den h hx hv
 have hund:=(hT t i hTt).und
 rw [hd] at hund
 obtain ⟨ti,g1,g2,g3,g4⟩:=(hT e j hTe).inf
 obtain ⟨ad,rfl,hc⟩:=n4 hpos
 obtain ⟨u',w',r1,r2,r3,_,r5⟩:=run_append_own_at (P:=P) w 0 t ty e ti j.zero j.size j.bytes hund g1 g4 g2 g3 hz hsz _ es.length xs0 k1 ad xs.length c news n2 hc (den_ones n1) h63 hby (Nat.zero_le _)
 have hlen:(es++xs).length=es.length+xs.length:=List.length_append
 obtain ⟨g',cap',rfl,q2,q3⟩:=owns_px r2 (by omega)
 have hk':live σ.ob k:=⟨_,hk,rfl⟩
 have he:Ext (·=g) w w':=Ext.of_grown r3 (fun b hb=>by simp only [Value.ownBlock,Option.some.injEq] at hb;exact hb.symm)
 have r4:g'=g∨w.heap.size≤g':=by
  simp only [Value.ownBlock,Option.some.injEq] at r5
  rcases r5 with r5|r5
  ·exact .inl r5
  ·exact .inr (by omega)
 refine ⟨g',cap',w',upd ι k (some g'),by rw [hlen];exact r1,h.pxset hk hn hno he r4 ?_⟩
 have hkk:upd ι k (some g') k=some g':=upd_same _ _ _
 have hs:Stays (·=g) (own ι σ.ob) (own (upd ι k (some g')) (σ.ob.set k (.px e j.size g' cap' (es++xs)))) w w':=by
  refine ⟨he,fun b _ hb=>.inr ⟨k,hk',by rw [hιk,hb]⟩,fun b hb ho=>?_⟩
  rcases ho with ho|⟨jj,hl,hbb⟩
  ·exact .inl ho
  ·replace hl:=(live_set hk rfl rfl jj).1 hl
   by_cases e:jj=k
   ·rw [e,hkk] at hbb
    injection hbb with hbb
    rcases r4 with r4|r4
    ·exact .inr ⟨k,hk',by rw [hιk,← hbb,r4]⟩
    ·omega
   ·rw [upd_ne _ _ e] at hbb;exact .inr ⟨jj,hl,hbb⟩
 refine q3 _ _ _ k (es++xs) hsz hsm hlen hkk ?_ (fun e he=>?_)
 ·rw [List.flatten_append]
  exact denVs_mono hs _ _ (denVs_append k2 n1)
 ·rcases List.mem_append.1 he with he|he
  ·exact k3 e he
  ·exact n3 e he
theorem px_new (hT:okT P T) (h:StI N w0 ι σ a w) {t e:TypeId} {i j:TI} (hTt:T t=some i) (hd:i.desc=.slice e) (hTe:T e=some j) (hz:j.zero.cells.size=j.size) (hsz:0<j.size)
  {x:LV} {xs:List (List DV)} (hx:elemsL σ.ob x=some (j.size,xs)) (hpos:0<xs.length)
  {v:Value} (hv:dlv w (own ι σ.ob) ι σ.ob x v) (h63:xs.length≤maxLen) (hby:xs.length*j.bytes≤140737488355328) (ty:TypeId) :
  ∃ g' cap' w' ι',(Builtin.append_ #[t,t] ty #[.slice none 0 0,v]).run P w=.ok (.slice (some ⟨g',0,none⟩) xs.length cap') w' ∧
   StI N w0 ι' (σ.add (.px e j.size g' cap' xs)) a w':=by
 obtain ⟨A,c,news,rfl,n1,n2,n3,n4⟩:=elems_den h hx hv
 have hund:=(hT t i hTt).und
 rw [hd] at hund
 have hsm:=(hT e j hTe).small
 obtain ⟨ti,g1,g2,g3,g4⟩:=(hT e j hTe).inf
 obtain ⟨ad,rfl,hc⟩:=n4 hpos
 obtain ⟨u',w',r1,r2,r3,_,r5⟩:=run_append_own_at (P:=P) w 0 t ty e ti j.zero j.size j.bytes hund g1 g4 g2 g3 hz hsz (.slice none 0 0) 0 [] (World.ownsRow_nil w _ e j.size) ad xs.length c news n2 hc (den_ones n1) (by simpa using h63) (by simpa using hby) (Nat.zero_le _)
 rw [Nat.zero_add,List.nil_append] at r2
 obtain ⟨g',cap',rfl,q2,q3⟩:=owns_px r2 hpos
 have he:Ext noB w w':=Ext.of_grown r3 (fun b hb=>by cases hb)
 have hg:w.heap.size≤g':=by
  simp only [Value.ownBlock,Option.some.injEq,reduceCtorEq,false_or] at r5
  omega
 refine ⟨g',cap',w',upd ι σ.ob.length (some g'),r1,h.add he (fun b hb=>by injection hb with hb;omega) (fun _ _ _ e=>by cases e) ?_⟩
 have hs:Stays noB (own ι σ.ob) (own (upd ι σ.ob.length (some g')) (σ.ob++[OB.px e j.size g' cap' xs])) w w':=⟨he,fun _ _ h=>h.elim,fun b hb ho=>by
  rcases ho with ho|⟨k,hl,hi⟩
  ·exact .inl ho
  rcases live_add hl with hl|⟨rfl,_⟩
  ·exact .inr ⟨k,hl,by rwa [upd_ne ι _ (by have:=hl.lt;omega)] at hi⟩
  ·rw [upd_same] at hi;injection hi with hi;omega⟩
 exact q3 _ _ _ _ xs hsz hsm rfl (upd_same _ _ _) (denVs_mono hs _ _ n1) n3
/-! ### As a step -/
def PxP {α β:Type} (x:Option PxR) (f:α→β→LS→Prop) (i:α) (S:β) (σ:LS) (dst:Option Nat) (e:LS→Prop):Prop:=match x with
 | some (.old t size g n cap xs p)=>p∧∃ k es,σ.ob[k]?=some (.px t size g cap es)∧n=es.length∧noS k σ.sl∧noO k σ.ob∧∀ g' cap',f i S (LS.putO { σ with ob:=σ.ob.set k (.px t size g' cap' (es++xs)) } dst (hdL g' (es++xs).length cap'))
 | some (.new t size xs p)=>p∧∀ g' cap',f i S (LS.putO (σ.add (.px t size g' cap' xs)) dst (hdL g' xs.length cap'))
 | none=>e σ
theorem PxP_old {α β:Type} {f:α→β→LS→Prop} {i:α} {S:β} {σ:LS} {dst:Option Nat} {e:LS→Prop} {t size g n cap:Nat} {xs:List (List DV)} {p:Prop} :
  PxP (some (.old t size g n cap xs p)) f i S σ dst e=(p∧∃ k es,σ.ob[k]?=some (.px t size g cap es)∧n=es.length∧noS k σ.sl∧noO k σ.ob∧∀ g' cap',f i S (LS.putO { σ with ob:=σ.ob.set k (.px t size g' cap' (es++xs)) } dst (hdL g' (es++xs).length cap'))):=rfl
theorem PxP_new {α β:Type} {f:α→β→LS→Prop} {i:α} {S:β} {σ:LS} {dst:Option Nat} {e:LS→Prop} {t size:Nat} {xs:List (List DV)} {p:Prop} :
  PxP (some (.new t size xs p)) f i S σ dst e=(p∧∀ g' cap',f i S (LS.putO (σ.add (.px t size g' cap' xs)) dst (hdL g' xs.length cap'))):=rfl
theorem PxP_none {α β:Type} {f:α→β→LS→Prop} {i:α} {S:β} {σ:LS} {dst:Option Nat} {e:LS→Prop}:PxP none f i S σ dst e=e σ:=rfl
theorem px_sound (hT:okT P T) (h:StI N w0 ι σ a w) {op:Op} {r:PxR} (hr:effP T σ op=some r) {α β:Type} {f:α→β→LS→Prop} {i:α} {S:β} {dst:Option Nat} {e:LS→Prop} (hp:PxP (some r) f i S σ dst e) :
  ∃ ι' v w' σ' x,Does P a.eval op w v w'∧StI N w0 ι' σ' a w'∧dlv w' (own ι' σ'.ob) ι' σ'.ob x v∧f i S (LS.putO σ' dst x)∧∃ as ts,op=.call ⟨.builtin .append,as,ts⟩:=by
 unfold effP at hr
 split at hr
 ·rename_i as ts
  split at hr
  ·rename_i s x eas
   obtain rfl:as=#[s,x]:=Array.toList_inj.1 eas
   have hs:=h.ev s
   have hx:=h.ev x
   unfold appP at hr
   split at hr
   ·rename_i t t' e0
    obtain rfl:ts=#[t,t']:=Array.toList_inj.1 e0
    split at hr
    ·rename_i e1
     subst e1
     split at hr
     ·rename_i e _ _ _ _ hTt
      split at hr
      ·rename_i j hj
       split at hr
       ·rename_i g n cap size xs e2 e3
        injection hr with hr
        subst hr
        obtain ⟨⟨rfl,p1,p2,p3,p4⟩,k,es,hk,rfl,hn,hno,hf⟩:=hp
        rw [e2] at hs
        have es':a.eval s=.slice (some ⟨g,0,none⟩) es.length cap:=hs.1
        obtain ⟨g',cap',w',ι',r1,r2⟩:=px_old hT h hTt rfl hj p2 hk hn hno e3 p1 hx p3 p4 0
        refine ⟨ι',.slice (some ⟨g',0,none⟩) (es++xs).length cap',w',_,hdL g' (es++xs).length cap',fun o ho=>.inl ?_,r2,?_,hf g' cap',_,_,rfl⟩
        ·have e':Builtin.append_ #[t',t'] o.type #[a.eval s,a.eval x]=Builtin.append_ #[t',t'] 0 #[a.eval s,a.eval x]:=rfl
         simp only [execOp,ho,resolve,invoke,builtin,Sem.run_bind,Sem.run_pure,Result.andThen_ok,List.map_toArray,List.map_cons,List.map_nil,e']
         rw [es',r1]
         rfl
        ·exact ⟨rfl,rfl⟩
       ·rename_i size xs e2 e3
        injection hr with hr
        subst hr
        obtain ⟨⟨p0,rfl,p1,p2,p3,p4⟩,hf⟩:=hp
        rw [e2] at hs
        have es':a.eval s=.slice none 0 0:=hs.1
        obtain ⟨g',cap',w',ι',r1,r2⟩:=px_new hT h hTt rfl hj p2 p0 e3 p1 hx p3 p4 0
        refine ⟨ι',.slice (some ⟨g',0,none⟩) xs.length cap',w',_,hdL g' xs.length cap',fun o ho=>.inl ?_,r2,?_,hf g' cap',_,_,rfl⟩
        ·have e':Builtin.append_ #[t',t'] o.type #[a.eval s,a.eval x]=Builtin.append_ #[t',t'] 0 #[a.eval s,a.eval x]:=rfl
         simp only [execOp,ho,resolve,invoke,builtin,Sem.run_bind,Sem.run_pure,Result.andThen_ok,List.map_toArray,List.map_cons,List.map_nil,e']
         rw [es',r1]
         rfl
        ·exact ⟨rfl,rfl⟩
       ·cases hr
      ·cases hr
     ·cases hr
    ·cases hr
   ·cases hr
  ·cases hr
 ·cases hr
end
end Go.LS
