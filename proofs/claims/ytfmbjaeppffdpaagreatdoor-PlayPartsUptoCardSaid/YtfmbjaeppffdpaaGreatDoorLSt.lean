/- strconv.AppendInt at base 10,as a function that appends to the row that it is handed: the kit's walks of it,turned so that they tell which blocks they leave alone. -/
import Derived.Test.YtfmbjaeppffdpaaGreatDoorLD
import Derived.Shelf.Strconv.AppendUint10
namespace Go.LS
set_option linter.unusedVariables false
set_option linter.unusedSimpArgs false
open Go Go.RowKit Go.Proofs Go.Shelf Go.Sort Go.Lib
structure Grew (w w':World) (e:TypeId) (sv:Value) (n:Nat) (ys:List Value) (v':Value):Prop where
 owns:w'.ownsRow 0 e 1 v' n ys
 ext:Ext (fun b=>sv.ownBlock=some b) w w'
 blk:v'.ownBlock=sv.ownBlock∨∀ b,v'.ownBlock=some b→w.heap.size≤b
theorem Grew.trans {w w1 w2:World} {e:TypeId} {sv v1 v2:Value} {n m:Nat} {ys zs:List Value} (h:Grew w w1 e sv n ys v1) (k:Grew w1 w2 e v1 m zs v2):Grew w w2 e sv m zs v2 where
 owns:=k.owns
 ext:=h.ext.grow k.ext (fun b hb=>by
  rcases h.blk with h1|h1
  ·exact .inr (h1 ▸ hb)
  ·exact .inl (h1 b hb))
 blk:=by
  rcases k.blk with k1|k1
  ·rcases h.blk with h1|h1
   ·exact .inl (k1.trans h1)
   ·exact .inr (fun b hb=>h1 b (k1 ▸ hb))
  ·exact .inr (fun b hb=>Nat.le_trans h.ext.size (k1 b hb))
section
variable {P:Program} {ρ:Ren}
theorem wpList_append_string_at {w:World} {ops:Array Oper} {rest:List Oper} {o:Oper} {a:Act} {Q:Exit→Act→World→Prop} (hgd:o.guard=none) (sl x:Operand) (t u:TypeId)
  (ho:o.op=.call { callee:=.builtin .append,args:=#[sl,x],argTypes:=#[t,u] })
  (e:TypeId) (i:TypeInfo) (ht:P.underlying t=some (.slice e)) (hu:P.underlying u=some .string) (hi:P.info? e=some i) (hz:i.zero=some (.int .u8 0))
  (hsize:i.size=1) (hby:i.bytes=1)
  (v:Value) (n:Nat) (xs:List Value) (hs:a.eval sl=v) (hown:w.ownsRow 0 e 1 v n xs) (s:ByteArray) (hx:a.eval x=.string s) (hbytes:n+s.size≤140737488355328)
  (h:∀ v' w',Grew w w' e v (n+s.size) (xs++strCells s) v'→wpList P ops Q rest (a.put o.dst v') w'):wpList P ops Q (o::rest) a w:=by
 refine wpList_plain hgd fun K hK=>?_
 obtain ⟨v',w',hr,h2,h3,h4⟩:=run_append_string_at (P:=P) (ty:=o.type) ht hu hi hz hsize hby hown s hbytes
 unfold Oper.wp execOp
 simp only [ho,resolve,invoke,builtin,Sem.run_bind,Sem.run_pure,Result.andThen_ok,List.map_toArray,List.map_cons,List.map_nil,hs,hx,hr]
 exact hK _ _ (h v' w' ⟨h2,Ext.of_grown h3 (fun g hg=>hg),h4⟩)
set_option maxHeartbeats 6400000 in
set_option maxRecDepth 100000 in
theorem appUint_small (L:LaysM.n288 P ρ) (n u:Nat) (hu:u<100) (sv:Value) (xs:List Value) (w:World) (hown:w.ownsRow 0 (ρ.t 5) 1 sv n xs) (hlim:n+20≤140737488355328) :
  Calls P (ρ.f 288) #[sv,.int .u64 u,.int .i64 10] w fun e w'=>∃ v',e=.returned v'∧Grew w w' (ρ.t 5) sv (n+(Lib.decDigits u).length) (xs++Lib.byteCells (Lib.decDigits u)) v':=by
 have mixed:=L.mixed
 have t5:=L.t5;have a5:=L.a5;have z5:=L.z5;have v5:=L.v5
 have t37:=L.t37;have u37:=run_underlying L.t37;have a37:=L.a37;have z37:=L.z37;have v37:=L.v37
 have t53:=L.t53;have a53:=L.a53;have z53:=L.z53;have v53:=L.v53
 have t3:=L.t3;have a3:=L.a3;have z3:=L.z3;have v3:=L.v3
 have t4:=L.t4;have a4:=L.a4;have z4:=L.z4;have v4:=L.v4
 have t9:=L.t9;have a9:=L.a9;have z9:=L.z9;have v9:=L.v9
 have t171:=L.t171;have a171:=L.a171;have z171:=L.z171;have v171:=L.v171
 have t0:=L.t0;have a0:=L.a0;have z0:=L.z0;have v0:=L.v0
 have t173:=L.t173;have a173:=L.a173;have z173:=L.z173;have v173:=L.v173
 have e283:∀ args w,(callFunc (ρ.f 283) args).run P w=.ok (.enter (ρ.f 283) args) w:=enters_of L.f283 (by kernel_rfl) rfl
 obtain ⟨i0,hi,hz0,hz1,hz2⟩:=info_parts L.i5
 have hlen:(Lib.decDigits u).length≤20:=by
  rw [Lib.decDigits_length]
  by_cases h10:u<10
  ·rw [Lib.nDigits_small h10];omega
  ·rw [Lib.nDigits_big h10,Lib.nDigits_small (show u / 10<10 by omega)];omega
 have hsz:(⟨(Lib.decDigits u).toArray⟩:ByteArray).size=(Lib.decDigits u).length:=by simp [ByteArray.size]
 go_enter L.f288,Body.n288_ntmps ρ
 go_wp2_with (first
  | (go_at_fn (ρ.f 283);refine (Any.internal_strconv_small { L with } u hu _).mono ?_;rintro e w' ⟨rfl,rfl⟩)
  | (at_builtin;refine wpList_append_string_at rfl _ _ (ρ.t 37) (ρ.t 9) rfl (ρ.t 5) i0 L.t37 L.t9 hi hz0 hz1 hz2 _ _ _ rfl hown ⟨(Lib.decDigits u).toArray⟩ rfl (by rw [hsz];omega) ?_))
 intro v' w1 hgrew
 go_wp2
 go_ret
 refine ⟨v',rfl,?_⟩
 first|exact hgrew|(rw [hsz] at hgrew;exact hgrew)
set_option maxHeartbeats 12800000 in
set_option maxRecDepth 100000 in
theorem appUint_big (L:LaysM.n288 P ρ) (n u:Nat) (hu:100≤u) (hu64:u<18446744073709551616) (sv:Value) (xs:List Value) (w:World) (hown:w.ownsRow 0 (ρ.t 5) 1 sv n xs) (hlim:n+20≤140737488355328)
  (htab:Lib.TabIs P w "internal/strconv.uint64pow10" .u64 Lib.pow10Tab) :
  Calls P (ρ.f 288) #[sv,.int .u64 u,.int .i64 10] w fun e w'=>∃ v',e=.returned v'∧Grew w w' (ρ.t 5) sv (n+(Lib.decDigits u).length) (xs++Lib.byteCells (Lib.decDigits u)) v':=by
 have mixed:=L.mixed
 have t5:=L.t5;have a5:=L.a5;have z5:=L.z5;have v5:=L.v5
 have t37:=L.t37;have u37:=run_underlying L.t37;have a37:=L.a37;have z37:=L.z37;have v37:=L.v37
 have t53:=L.t53;have a53:=L.a53;have z53:=L.z53;have v53:=L.v53
 have t3:=L.t3;have a3:=L.a3;have z3:=L.z3;have v3:=L.v3
 have t4:=L.t4;have a4:=L.a4;have z4:=L.z4;have v4:=L.v4
 have t9:=L.t9;have a9:=L.a9;have z9:=L.z9;have v9:=L.v9
 have t171:=L.t171;have a171:=L.a171;have z171:=L.z171;have v171:=L.v171
 have t0:=L.t0;have a0:=L.a0;have z0:=L.z0;have v0:=L.v0
 have t173:=L.t173;have a173:=L.a173;have z173:=L.z173;have v173:=L.v173
 have e284:∀ args w,(callFunc (ρ.f 284) args).run P w=.ok (.enter (ρ.f 284) args) w:=enters_of L.f284 (by kernel_rfl) rfl
 have e285:∀ args w,(callFunc (ρ.f 285) args).run P w=.ok (.enter (ρ.f 285) args) w:=enters_of L.f285 (by kernel_rfl) rfl
 obtain ⟨i0,hi,hz0,hz1,hz2⟩:=info_parts L.i5
 have hu1:1≤u:=by omega
 have hnd20:Lib.nDigits u≤20:=by have:=Lib.numDigits_eq u hu1 hu64;split at this<;>omega
 have hal:P.arrayLen (ρ.t 171)=24:=by simp [Program.arrayLen,L.t171]
 have hsl:∀ W,(Instr.sliceAt (ρ.t 171) (.pointer (some ⟨w.heap.size,0,none⟩)) none (some (.int .i64 (Lib.nDigits u:Int))) none).run P W=.ok (.slice (some ⟨w.heap.size,0,none⟩) (Lib.nDigits u) 24) W:=fun W=>by
  rw [run_sliceAt_array_h W (ρ.t 171) ⟨w.heap.size,0,none⟩ (by simp [Program.arrayLen,Program.elem,L.t171]) .i64 (Lib.nDigits u:Int) (by omega) (by rw [hal];omega)]
  go_simp
 have hH0:=Lib.holds_zero0 w (ρ.t 171) (Lib.nDigits u) (by omega)
 have hfmt:=Any.internal_strconv_formatBase10 { L with } w.heap.size 0 24 u (Array.replicate (Lib.nDigits u) 0) (w.alloc (.cells Lib.zeros24 (ρ.t 171))) hH0 (by rw [Array.size_replicate];exact Lib.lt_pow_nDigits u) hu64 (by rw [Array.size_replicate];omega)
 rw [Array.size_replicate] at hfmt
 have HH0:=Lib.hid hH0
 have iu:(100:Int)≤(u:Int):=by omega
 clear hH0 hal
 go_enter L.f288,Body.n288_ntmps ρ
 go_wp2_with (first
  | (go_at_fn (ρ.f 284);refine (Any.internal_strconv_numDigits { L with } u hu1 hu64 _ (Lib.tabIs_alloc htab _)).mono ?_;rintro e w' ⟨rfl,rfl⟩))
 go_at_fn (ρ.f 285)
 refine hfmt.mono ?_
 rintro e w' ⟨rfl,k,v',dk,rfl,hF⟩
 have hcells:∀ j u',(Lib.byteCells (Lib.decDigits u))[j]?=some u'→((putRow (fun (b:UInt8)=>Value.int .u8 (b.toNat:Int)) (w.alloc (.cells Lib.zeros24 (ρ.t 171))) w.heap.size 0 dk).drewN k).cell? ((⟨w.heap.size,0,none⟩:Addr).add j)=some u':=by
  intro j u' hj
  have hjl:j<(Lib.decDigits u).length:=by
   have h5:=(List.getElem?_eq_some_iff.1 hj).1
   rwa [Lib.byteCells_length] at h5
  have e5:(Lib.byteCells (Lib.decDigits u))[j]?=some (Value.int .u8 ((Lib.decDigits u)[j].toNat:Int)):=by simp [Lib.byteCells,hjl]
  rw [e5] at hj
  cases hj
  rw [Lib.row_is_numeral hF j hjl,Lib.add_plain,World.cell?_drewN]
  exact cell?_putRow (fun (b:UInt8)=>Value.int .u8 (b.toNat:Int)) _ w.heap.size 0 _ dk HH0.out (by rw [hF.size,Array.size_replicate]) j (by rw [hF.size];rw [Lib.decDigits_length] at hjl;exact hjl)
 obtain ⟨os,eo⟩:=Lib.fin_at w (.cells Lib.zeros24 (ρ.t 171)) dk k 0
 have hown2:((putRow (fun (b:UInt8)=>Value.int .u8 (b.toNat:Int)) (w.alloc (.cells Lib.zeros24 (ρ.t 171))) w.heap.size 0 dk).drewN k).ownsRow 0 (ρ.t 5) 1 sv n xs:=by rw [eo];exact Lib.ownsRow_grow hown k os
 have hnx2:Below w.heap.size w ((putRow (fun (b:UInt8)=>Value.int .u8 (b.toNat:Int)) (w.alloc (.cells Lib.zeros24 (ρ.t 171))) w.heap.size 0 dk).drewN k):=by rw [eo];exact Lib.below_grow w.heap.size w (Nat.le_refl _) k os
 generalize (putRow (fun (b:UInt8)=>Value.int .u8 (b.toNat:Int)) (w.alloc (.cells Lib.zeros24 (ρ.t 171))) w.heap.size 0 dk).drewN k=W2 at hcells hown2 hnx2 ⊢
 clear eo HH0 hfmt
 go_wp2_with (at_builtin;refine wpList_append_own_at _ rfl _ _ (ρ.t 37) rfl 0 (ρ.t 5) i0 (.int .u8 0) 1 1 L.t37 hi hz0 hz1 hz2 rfl (by decide) _ _ _ rfl hown2 ⟨w.heap.size,0,none⟩ (Lib.nDigits u) 24 (Lib.byteCells (Lib.decDigits u)) rfl ?c0 hcells ?c2 ?c3 ?c4 ?c5 ?_)
 case c0=>rw [Lib.byteCells_length,Lib.decDigits_length,Nat.mul_one]
 case c2=>intro u' hu';simp only [Lib.byteCells,List.mem_map] at hu';obtain ⟨b,_,rfl⟩:=hu';rfl
 case c3=>unfold maxLen;omega
 case c4=>omega
 case c5=>omega
 intro v2 w3 hown' hgrow _ hat
 go_wp2
 go_ret
 refine ⟨v2,rfl,?_,((Ext.of_below hnx2).weaken (fun _ _ h=>h.elim)).grow (Ext.of_grown hgrow (fun g hg=>hg)) (fun b hb=>.inr hb),?_⟩
 ·rw [Lib.decDigits_length]
  exact hown'
 ·exact hat.imp id (fun h b hb=>by rw [h] at hb;injection hb with hb;have:=hnx2.size;omega)
theorem appUint (L:LaysM.n288 P ρ) (n u:Nat) (hu64:u<18446744073709551616) (sv:Value) (xs:List Value) (w:World) (hown:w.ownsRow 0 (ρ.t 5) 1 sv n xs) (hlim:n+20≤140737488355328)
  (htab:Lib.TabIs P w "internal/strconv.uint64pow10" .u64 Lib.pow10Tab) :
  Calls P (ρ.f 288) #[sv,.int .u64 u,.int .i64 10] w fun e w'=>∃ v',e=.returned v'∧Grew w w' (ρ.t 5) sv (n+(Lib.decDigits u).length) (xs++Lib.byteCells (Lib.decDigits u)) v':=by
 by_cases h:u<100
 ·exact appUint_small { L with } n u h sv xs w hown hlim
 ·exact appUint_big { L with } n u (by omega) hu64 sv xs w hown hlim htab
set_option maxHeartbeats 6400000 in
set_option maxRecDepth 100000 in
theorem appInt_in (L:LaysM.n249 P ρ) (n:Nat) (i:Int) (h0:-9223372036854775808≤i) (h1:i≤9223372036854775807) (sv:Value) (xs:List Value) (w:World) (hown:w.ownsRow 0 (ρ.t 5) 1 sv n xs) (hlim:n+21≤140737488355328)
  (htab:∀ w',Ext (fun b=>sv.ownBlock=some b) w w'→Lib.TabIs P w' "internal/strconv.uint64pow10" .u64 Lib.pow10Tab) :
  Calls P (ρ.f 249) #[sv,.int .i64 i,.int .i64 10] w fun e w'=>∃ v',e=.returned v'∧Grew w w' (ρ.t 5) sv (n+(Lib.itoa i).length) (xs++Lib.byteCells (Lib.itoa i)) v':=by
 have mixed:=L.mixed
 have t5:=L.t5;have a5:=L.a5;have z5:=L.z5;have v5:=L.v5
 have t37:=L.t37;have u37:=run_underlying L.t37;have a37:=L.a37;have z37:=L.z37;have v37:=L.v37
 have t2:=L.t2;have a2:=L.a2;have z2:=L.z2;have v2:=L.v2
 have t3:=L.t3;have a3:=L.a3;have z3:=L.z3;have v3:=L.v3
 have t53:=L.t53;have a53:=L.a53;have z53:=L.z53;have v53:=L.v53
 have t4:=L.t4;have a4:=L.a4;have z4:=L.z4;have v4:=L.v4
 have e288:∀ args w,(callFunc (ρ.f 288) args).run P w=.ok (.enter (ρ.f 288) args) w:=enters_of L.f288 (by kernel_rfl) rfl
 obtain ⟨i0,hi,hz0,hz1,hz2⟩:=info_parts L.i5
 by_cases hneg:i<0
 ·obtain ⟨u,rfl⟩:∃ u:Nat,i=-(u:Int):=⟨i.natAbs,by omega⟩
  have hu1:1≤u:=by omega
  have hu64:u<18446744073709551616:=by omega
  have hwr:IntKind.u64.wrap (-IntKind.u64.wrap (-(u:Int)))=(u:Int):=by rw [IntKind.wrap_u64,IntKind.wrap_u64];omega
  rw [Lib.itoa_neg u hu1]
  go_enter L.f249,Body.n249_ntmps ρ
  go_wp2_with (at_builtin;refine wpList_append_own_at _ rfl _ _ (ρ.t 37) rfl 0 (ρ.t 5) i0 (.int .u8 0) 1 1 L.t37 hi hz0 hz1 hz2 rfl (by decide) _ _ _ rfl (hown.alloc _) ⟨w.heap.size,0,none⟩ 1 1 [Value.int .u8 45] rfl rfl (by intro j u' hj;match j,hj with|0,hj=>simp at hj;subst hj;simp [Addr.add]) (by intro u' hu';simp at hu';subst hu';rfl) (by unfold maxLen;omega) (by omega) (by simp) ?_)
  intro v1 w1 hown1 hgrow _ hat
  have hg1:Grew w w1 (ρ.t 5) sv (n+1) (xs++[Value.int .u8 45]) v1:=⟨hown1,((Ext.alloc noB w _).weaken (fun _ _ h=>h.elim)).grow (Ext.of_grown hgrow (fun g hg=>hg)) (fun b hb=>.inr hb),hat.imp id (fun h b hb=>by rw [h] at hb;injection hb with hb;first|omega|(simp at hb;omega)|(have:=World.size_alloc w (.cells #[Value.int .u8 45] (ρ.t 5));omega))⟩
  have htab1:Lib.TabIs P w1 "internal/strconv.uint64pow10" .u64 Lib.pow10Tab:=htab w1 hg1.ext
  go_wp2_with (go_at_fn (ρ.f 288);refine (appUint { L with } (n+1) u hu64 v1 _ w1 hown1 (by omega) htab1).mono ?_;rintro e w2 ⟨v2,rfl,hg2⟩)
  go_wp2
  go_ret
  refine ⟨v2,rfl,?_⟩
  have e1:n+((Lib.decDigits u).length+1)=n+1+(Lib.decDigits u).length:=by omega
  have e2:xs++Lib.byteCells (45::Lib.decDigits u)=xs++[Value.int .u8 45]++Lib.byteCells (Lib.decDigits u):=by simp [Lib.byteCells]
  rw [e1,e2]
  exact hg1.trans hg2
 ·obtain ⟨u,rfl⟩:∃ u:Nat,i=u:=⟨i.toNat,by omega⟩
  have hu64:u<18446744073709551616:=by omega
  rw [Lib.itoa_nonneg]
  go_enter L.f249,Body.n249_ntmps ρ
  go_wp2_with (go_at_fn (ρ.f 288);refine (appUint { L with } n u hu64 sv xs w hown (by omega) (htab w (Ext.refl _ _))).mono ?_;rintro e w2 ⟨v2,rfl,hg2⟩)
  go_wp2
  first|go_ret|go_ret2
  exact ⟨v2,rfl,hg2⟩
set_option maxRecDepth 100000 in
theorem appInt (L:LaysM.n176 P ρ) (n:Nat) (i:Int) (h0:-9223372036854775808≤i) (h1:i≤9223372036854775807) (sv:Value) (xs:List Value) (w:World) (hown:w.ownsRow 0 (ρ.t 5) 1 sv n xs) (hlim:n+21≤140737488355328)
  (htab:∀ w',Ext (fun b=>sv.ownBlock=some b) w w'→Lib.TabIs P w' "internal/strconv.uint64pow10" .u64 Lib.pow10Tab) :
  Calls P (ρ.f 176) #[sv,.int .i64 i,.int .i64 10] w fun e w'=>∃ v',e=.returned v'∧Grew w w' (ρ.t 5) sv (n+(Lib.itoa i).length) (xs++Lib.byteCells (Lib.itoa i)) v':=by
 have mixed:=L.mixed
 have t5:=L.t5;have a5:=L.a5;have z5:=L.z5;have v5:=L.v5
 have t37:=L.t37;have u37:=run_underlying L.t37;have a37:=L.a37;have z37:=L.z37;have v37:=L.v37
 have t2:=L.t2;have a2:=L.a2;have z2:=L.z2;have v2:=L.v2
 have t3:=L.t3;have a3:=L.a3;have z3:=L.z3;have v3:=L.v3
 have e249:∀ args w,(callFunc (ρ.f 249) args).run P w=.ok (.enter (ρ.f 249) args) w:=enters_of L.f249 (by kernel_rfl) rfl
 go_enter L.f176,Body.n176_ntmps ρ
 go_wp2_with (go_at_fn (ρ.f 249);refine (appInt_in { L with } n i h0 h1 sv xs w hown hlim htab).mono ?_;rintro e w2 ⟨v2,rfl,hg2⟩)
 go_wp2
 go_ret
 exact ⟨v2,rfl,hg2⟩
end
/-! ### A table of the library's,that lies below all that is written to -/
theorem tab_gz {P:Program} {w:World} {name:String} {k:IntKind} {zs:List Int} {g:Nat} (h:Lib.TabIs P w name k zs) (hg:P.globalNamed name=some g):g+1≤w.heap.size:=by
 unfold Lib.TabIs World.var? at h
 rw [hg] at h
 simp only [Option.bind_some] at h
 rcases Nat.lt_or_ge g w.heap.size with h'|h'
 ·exact h'
 ·rw [Array.getElem?_eq_none h'] at h;simp at h
theorem tab_gs {P:Program} {w w':World} {name:String} {k:IntKind} {zs:List Int} {g:Nat} (hg:P.globalNamed name=some g) (hb:Below (g+1) w w') (h:Lib.TabIs P w name k zs):Lib.TabIs P w' name k zs:=by
 unfold Lib.TabIs World.var? at h ⊢
 rw [hg] at h ⊢
 simp only [Option.bind_some] at h ⊢
 rw [hb.block g (Nat.lt_succ_self _)]
 exact h
theorem denVs_bytes {w:World} {O:Nat→Prop}:∀ {bs:List UInt8} {xs:List Value},denVs w O (bs.map bD).flatten xs→xs=Lib.byteCells bs
 | [],xs,h=>h
 | b::bs,xs,h=>by
  obtain ⟨u,r,rfl,⟨rfl,_⟩,hr⟩:=h
  rw [denVs_bytes (bs:=bs) hr]
  rfl
theorem denVs_of_bytes {w:World} {O:Nat→Prop}:∀ (bs:List UInt8),denVs w O (bs.map bD).flatten (Lib.byteCells bs)
 | []=>rfl
 | b::bs=>⟨_,_,rfl,⟨rfl,rfl⟩,denVs_of_bytes bs⟩
theorem dob_owns {w:World} {O:Nat→Prop} {ι:Io} {ob:List OB} {k t size:Nat} {es:List (List DV)} (h:dob w O ι ob k (.rw t size es)) {u:Value} (hu:hdr w (ι k) size es.length u) :
  ∃ xs,w.ownsRow 0 (tyOf t) size u es.length xs∧denVs w O es.flatten xs∧u.ownBlock=ι k:=by
 obtain ⟨hsz,h1|⟨g,cur,cap,h1,h2,h3,h4,h5,h6⟩⟩:=h
 ·obtain ⟨h1,rfl⟩:=h1
  rcases hu with ⟨_,_,rfl⟩|⟨b,_,_,_,h2,_⟩
  ·exact ⟨[],World.ownsRow_nil w _ (tyOf t) size,rfl,by rw [h1];rfl⟩
  ·rw [h1] at h2;cases h2
 ·rcases hu with ⟨h7,_⟩|⟨b,cur',cap',t',h7,h8,h9,h10,h11,rfl⟩
  ·rw [h1] at h7;cases h7
  ·rw [h1] at h7
   injection h7 with h7
   subst h7
   rw [h2] at h8
   injection h8 with h8
   injection h8 with e1 e2
   subst e1 e2
   have hcc:cap=cap':=by
    have:cap*size=cap'*size:=by rw [← h3,← h9]
    exact Nat.eq_of_mul_eq_mul_right hsz this
   subst hcc
   obtain ⟨us,k1,k2,k3,k4⟩:=rdEs_vals size h6
   refine ⟨us,⟨k2,.inr ⟨g,cap,cur,rfl,Nat.zero_le _,h2,h4,h5.1,h3,?_⟩⟩,k1,h1.symm⟩
   apply List.ext_getElem?
   intro j
   rw [List.getElem?_take]
   split
   ·rename_i hj
    have hj':j<us.length:=by omega
    have h10:=k4 j us[j] (List.getElem?_eq_getElem hj')
    rw [add_lit',Nat.zero_add,cell_of_row w g j cur (tyOf t) (0,0) h2] at h10
    rw [List.getElem?_eq_getElem hj',← h10]
    simp
   ·rename_i hj
    rw [List.getElem?_eq_none (by omega)]
theorem appInt_spec {V:Env} {ρ:Ren} (L:LaysM.n176 V.P ρ) (hG:∀ w,V.G w→Lib.TabIs V.P w "internal/strconv.uint64pow10" .u64 Lib.pow10Tab) (hcall:callable V.P (ρ.f 176)) (h5:ρ.t 5<1000000)
  (bs:List UInt8) (i:Int) (hi:inK .i64 i) (hlim:bs.length+21≤140737488355328):SpecA V (ρ.f 176) (ρ.t 5) 1 (bs.map bD) [i2 .i64 i,i2 .i64 10] ((bs++Lib.itoa i).map bD):=by
 refine ⟨hcall,h5,fun w E g u us hGw hE hgb hob hh hd=>?_⟩
 obtain ⟨u1,r1,e1,hd1,u2,r2,e2,hd2,e3⟩:=hd
 subst e3
 have q1:u1=.int .i64 i:=hd1.1
 have q2:u2=.int .i64 10:=hd2.1
 subst q1 q2 e2
 have eus:us=#[.int .i64 i,.int .i64 10]:=Array.toList_inj.1 e1
 subst eus
 obtain ⟨xs,k1,k2,k3⟩:=dob_owns hob hh
 rw [denVs_bytes k2,tyOf_small h5,List.length_map] at k1
 have k3':u.ownBlock=g:=k3
 refine (appInt L bs.length i hi.1 hi.2 u _ w k1 hlim (fun w' he=>hG w' (V.gs w w' ⟨he.os,he.tape,he.output,he.size,fun k hk=>he.block k (Nat.lt_of_lt_of_le hk (V.gz _ hGw)) (fun hm=>by
  have hm':u.ownBlock=some k:=hm
  rw [k3'] at hm'
  have:=hgb k hm'
  omega)⟩ hGw))).mono ?_
 rintro e w' ⟨v',rfl,hg⟩
 have hlen:((bs++Lib.itoa i).map bD).length=bs.length+(Lib.itoa i).length:=by simp
 have hcells:Lib.byteCells bs++Lib.byteCells (Lib.itoa i)=Lib.byteCells (bs++Lib.itoa i):=by simp [Lib.byteCells]
 have hown:=hg.owns
 rw [hcells] at hown
 have hext:=hg.ext
 rw [k3'] at hext
 refine ⟨v',v'.ownBlock,rfl,hext,hg.blk.imp (fun h=>h.trans k3') id,owns_dob h5 (by rw [hlen];exact hown) (by decide) (denVs_of_bytes _) (fun e he=>?_) rfl,by rw [hlen];exact owns_hdr hown⟩
 simp only [List.mem_map] at he
 obtain ⟨b,_,rfl⟩:=he
 rfl
end Go.LS
