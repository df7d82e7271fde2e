/- The law PlayParts holds,as its tied card says: for every table,steps and number,together of bulk at most 1048576,it returns true,and its arguments read as they did;where the three listed tables of the library read as the program lays them. -/
import Derived.Test.YtfmbjaeppffdpaaGreatDoorZe
import Derived.Test.YtfmbjaeppffdpaaGreatDoorDR7
import Derived.Test.YtfmbjaeppffdpaaGreatDoorDW
import Derived.Test.YtfmbjaeppffdpaaGreatDoorCards
import Derived.Test.YtfmbjaeppffdpaaGreatDoorTie
namespace Go.Proofs.YtfmbjaeppffdpaaGreatDoor.playParts
open Go Go.LS Go.LS.Tryz Go.RowKit Go.ChangeShapes Go.WideShapes Go.ChangeAt
set_option maxRecDepth 100000
set_option linter.unusedVariables false
theorem own:ownKnob Tryz.prog.godebug=none:=by kernel_rfl
theorem laidOut:laidOutB Tryz.prog=true:=by kernel_rfl
theorem contract (H:Type) (enc:TypeId × Value→H) (W:World) (base:Nat) (args:Array Value) (ds gs:List (DataW H)) (before:List MemPlace)
  (hval:∀ (j:Nat) t v,Tryz.f8.params[j]?=some t→args[j]?=some v→Value.okWide Tryz.prog W .any base t v)
  (hW:DataW.Whole enc Tryz.prog Tryz.f8.params.toList Rows.playPartsSpec.vars false W args.toList ds gs before) (hk:Rows.uptoSmall H (ds++gs)=true) (hL:laidMetH Tryz.prog laid3 W) :
  Calls Tryz.prog 8 args W fun e W'=>∃ v,e=.returned v∧Rows.playPartsSpec.post enc Tryz.prog Tryz.f8 false true false false W args v W':=by
 have hW':=hW
 obtain ⟨p,q,hA,hV,rfl,hfz,hnd⟩:=hW
 have hps:Tryz.f8.params.toList=[25,68,5]:=by kernel_rfl
 have hp0:Tryz.f8.params[0]?=some 25:=by kernel_rfl
 have hp1:Tryz.f8.params[1]?=some 68:=by kernel_rfl
 have hp2:Tryz.f8.params[2]?=some 5:=by kernel_rfl
 rw [hps] at hA
 obtain ⟨v0,vs0,d0,ds0,p0,q0,hargs,rfl,rfl,h0,r0⟩:=trodAll_cons hA
 obtain ⟨v1,vs1,d1,ds1,p1,q1,rfl,rfl,rfl,h1,r1⟩:=trodAll_cons r0
 obtain ⟨v2,vs2,d2,ds2,p2,q2,rfl,rfl,rfl,h2,r2⟩:=trodAll_cons r1
 obtain ⟨rfl,rfl,rfl⟩:=trodAll_nil r2
 obtain rfl:args=#[v0,v1,v2]:=by cases args;simp_all
 obtain ⟨rfl,rfl⟩:=trodVars_none hV
 have hb:=bound hk
 simp only [List.append_nil,blks] at hb
 obtain ⟨us0,rfl,_⟩:=okWide_struct ok25.und (hval 0 25 v0 hp0 rfl)
 obtain ⟨a1,l1,c1,rfl⟩:=okWide_slice ok68.und (hval 1 68 v1 hp1 rfl)
 obtain ⟨a2,rfl⟩:=okWide_int ok5.und (hval 2 5 v2 hp2 rfl)
 obtain ⟨x0,k0,m0,i0⟩:=dat_one rdT h0
 obtain ⟨x1,k1,m1,i1⟩:=dat_one rdStps h1
 obtain ⟨x2,k2,m2,i2⟩:=dat_one (fun _=>Rd.int ok5.und) h2
 have o0:=okT_of (t:=x0) (by omega) i0
 have o1:=okStps_of (l:=x1) (by omega) i1
 have hspec:=z8 x0 x1 x2 o0 o1.1 o1.2 i2
 exact contract_of_spec (V:=V) rfl (table hL) hspec ⟨_,_,rfl,dat_agg k0,_,_,rfl,dat_cell rfl k1,_,_,rfl,dat_cell rfl k2,rfl⟩ hW' (tb:=4) (by kernel_rfl) ok4.und laidOut (by rw [hps];kernel_rfl) rfl rfl
theorem reads (os:Os) {H:Type} (enc:TypeId × Value→H):∃ places,DataW.whole enc Tryz.prog ((laidWorld os).forCall (fun _ _=>0) ⟨#[],#[Value.agg #[.slice none 0 0,.slice none 0 0],Value.slice none 0 0,Value.int .u8 0],[]⟩).memory Tryz.f8.params.toList Rows.playPartsSpec.vars false #[Value.agg #[.slice none 0 0,.slice none 0 0],Value.slice none 0 0,Value.int .u8 0].toList 8=some ([.agg [.nil,.nil],.nil,.lit (.int .u8 0)],[],places) :=
 ⟨[],by kernel_rfl⟩
theorem lifted (os:Os) (started:os.Started) (H:Type) (enc:TypeId × Value→H) (F:Stop.Interp) :
  ReturnsInHanded {} Tryz.checked os 8 .any ((Rows.OpenSpec.upto Rows.playPartsSpec).preRow enc Tryz.prog Tryz.f8 Rows.playPartsUptoRow.domain false Rows.playPartsUptoRow.laid) (((Rows.OpenSpec.upto Rows.playPartsSpec).at F).post enc Tryz.prog Tryz.f8 false true false false):=by
 obtain ⟨places,hx⟩:=reads os enc
 refine returnsInHanded_of_row (C:=Tryz.checked) (s:=Rows.OpenSpec.upto Rows.playPartsSpec) own started (by kernel_rfl) Tryz.func8
  (witness_row_at (enc:=enc) (C:=Tryz.checked) false (laidWorld os) #[Value.agg #[.slice none 0 0,.slice none 0 0],Value.slice none 0 0,Value.int .u8 0] rfl (by kernel_rfl) (by kernel_rfl) (by kernel_rfl)
    (OpenSpec.preRow_of_cond 8 hx (by kernel_rfl) (fun k hk=>by cases hk;kernel_rfl) (by kernel_rfl) (laid_met os _))) ?_
 intro W base args ds gs before hval hW _ hcond _ hL _ _
 exact contract H enc W base args ds gs before hval hW (hcond _ rfl) hL
theorem saidUpto:Rows.PlayPartsUptoSaid :=
 OpenClaim.holds_of_cond 8 Tryz.f8 rfl rfl rfl rfl rfl rfl rfl ⟨rfl,rfl,rfl,rfl,rfl⟩ rfl rfl rfl rfl rfl (by kernel_rfl) Tryz.func8 (by kernel_rfl)
  (of_decide_eq_true (by kernel_rfl)) (by unfold Func.isWrapper;first|(rw [if_pos (by decide +kernel)];kernel_rfl)|(rw [if_neg (by decide +kernel)];exact ⟨rfl,rfl⟩))
  (fun os started H enc _ F=>by rw [OpenClaim.pre_eq_preRow];exact lifted os started H enc F)
theorem plain (f:FuncId) (fn:Func) (hf:Tryz.pinned.checked.prog.funcNamed "quillpen/quillpenlaw29.PlayParts" = some f) (hfn:Tryz.pinned.checked.prog.funcs[f]?=some fn) :
  false=Tryz.pinned.checked.prog.looks []∧∀ (j:Nat) t,fn.params[j]?=some t→Tryz.pinned.checked.prog.wantsStandIn t=false:=by
 obtain rfl:f=8:=Option.some.inj ((show Tryz.prog.funcNamed "quillpen/quillpenlaw29.PlayParts" = some 8 by kernel_rfl).symm.trans hf) |>.symm
 obtain rfl:fn=Tryz.f8:=(Option.some.inj (Tryz.func8.symm.trans hfn)).symm
 refine ⟨by kernel_rfl,fun j t ht=>?_⟩
 have hm:t∈Tryz.f8.params.toList:=by simpa using Array.mem_of_getElem? ht
 rw [show Tryz.f8.params.toList=[25,68,5] by kernel_rfl] at hm
 simp only [List.mem_cons,List.not_mem_nil,or_false] at hm
 rcases hm with rfl|rfl|rfl
 ·exact (show Tryz.prog.wantsStandIn 25=false by kernel_rfl)
 ·exact (show Tryz.prog.wantsStandIn 68=false by kernel_rfl)
 ·exact (show Tryz.prog.wantsStandIn 5=false by kernel_rfl)
theorem proved:Rows.PlayPartsUptoCardSaid :=
 Claim7.holds_tied_plain_at .later [] _ _ _ _ saidUpto (fun _ h=>by cases h) (by kernel_rfl) (fun _ h=>by cases h) playPartsUpto_row_tie rfl ⟨rfl,rfl⟩ (by kernel_rfl) rfl plain (by kernel_rfl)
end Go.Proofs.YtfmbjaeppffdpaaGreatDoor.playParts
