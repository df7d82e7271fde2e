/- Contracts of the functions of the seat,one by one (part DS);no condition but those that each bears. -/
import Derived.Test.YtfmbjaeppffdpaaGreatDoorE
import Derived.Test.YtfmbjaeppffdpaaGreatDoorPG
import Derived.WalkKit
import Derived.Lib.Walk
import Derived.Laws.Externs
import Derived.LoopTactic
import Derived.KernelRfl
namespace Go.Proofs
open Go Go.RowKit Go.Lib
set_option maxRecDepth 100000
set_option linter.unusedSimpArgs false
set_option linter.unusedVariables false
theorem Tryz.add64 (x y:Int) (hx:0≤x) (hy:0≤y) (w:World):(callFunc 166 #[.int .u64 x,.int .u64 y,.int .u64 0]).run Go.Proofs.Tryz.prog w =
  .ok (.value (.tuple #[.int .u64 ((x+y) % 18446744073709551616),.int .u64 ((x+y) / 18446744073709551616)])) w:=by
 rw [run_callFunc_extern (P:=Go.Proofs.Tryz.prog) (e:=add64Entry) Go.Proofs.Tryz.func166 rfl rfl (by kernel_rfl) (by kernel_rfl),run_add64 x y 0 hx hy (Int.le_refl 0) (by decide)]
 simp [Result.andThen]
theorem sumI_take {zs:List Int} {k:Nat} (hk:k<zs.length):Go.LS.sumI (zs.take (k+1))=Go.LS.sumI (zs.take k)+zs.getD k 0:=by
 have key:∀ (l:List Int) (x:Int),Go.LS.sumI (l++[x])=Go.LS.sumI l+x:=by
  intro l x
  induction l with
  | nil=>simp [Go.LS.sumI]
  | cons y l ih=>simp only [List.cons_append,Go.LS.sumI,ih];omega
 rw [List.take_add_one,List.getElem?_eq_getElem hk,Option.toList_some,key]
 simp [List.getD,List.getElem?_eq_getElem hk]
theorem wrapU (n:Int):0≤IntKind.u64.wrap n:=by
 show 0≤n % _
 exact Int.emod_nonneg _ (by decide)
theorem wrap64_in {x:Int} (h0:-9223372036854775808≤x) (h1:x≤9223372036854775807):wrap64 x=x:=by unfold wrap64;omega
theorem hi_step (S n:Int) (h0:-1000000000000000000000000000000000≤S) (h1:S≤1000000000000000000000000000000000) (h2:-9223372036854775808≤n) (h3:n≤9223372036854775807) :
  wrap64 (S / 18446744073709551616+wrap64 (n / 9223372036854775808+wrap64 ((S % 18446744073709551616+n % 18446744073709551616) / 18446744073709551616)))=(S+n) / 18446744073709551616:=by
 have a1:0≤(S % 18446744073709551616+n % 18446744073709551616) / 18446744073709551616:=by omega
 have a2:(S % 18446744073709551616+n % 18446744073709551616) / 18446744073709551616≤1:=by omega
 rw [wrap64_in (x:=(S % 18446744073709551616+n % 18446744073709551616) / 18446744073709551616) (by omega) (by omega)]
 have b1:-1≤n / 9223372036854775808:=by omega
 have b2:n / 9223372036854775808≤0:=by omega
 rw [wrap64_in (x:=n / 9223372036854775808+_) (by omega) (by omega)]
 rw [wrap64_in (by omega) (by omega)]
 by_cases hn:n<0
 ·have e1:n % 18446744073709551616=n+18446744073709551616:=by omega
  have e2:n / 9223372036854775808=-1:=by omega
  rw [e1,e2];omega
 ·have e1:n % 18446744073709551616=n:=by omega
  have e2:n / 9223372036854775808=0:=by omega
  rw [e1,e2];omega
theorem hi_ok (S:Int) (h0:-9223372036854775808≤S) (h1:S≤9223372036854775807):S / 18446744073709551616=wrap64 (S % 18446744073709551616) / 9223372036854775808:=by
 unfold wrap64
 omega
theorem ok_hi (S:Int) (h:S / 18446744073709551616=wrap64 (S % 18446744073709551616) / 9223372036854775808):-9223372036854775808≤S∧S≤9223372036854775807∧wrap64 (S % 18446744073709551616)=S:=by
 unfold wrap64 at *
 omega
theorem sumI_bound:∀ (l:List Int),(∀ x∈l,-9223372036854775808≤x∧x≤9223372036854775807)→-(9223372036854775808*(l.length:Int))≤Go.LS.sumI l∧Go.LS.sumI l≤9223372036854775808*(l.length:Int)
 | [],_=>by simp [Go.LS.sumI]
 | x::l,h=>by
  have h1:=h x (by simp)
  have h2:=sumI_bound l fun y hy=>h y (by simp [hy])
  simp only [Go.LS.sumI,List.length_cons]
  omega
theorem Tryz.sumNil (a:Option Addr) (cap:Nat) (w:World):Calls Go.Proofs.Tryz.prog 139 #[.slice a 0 cap] w fun e w'=>e=.returned (.tuple #[.int .i64 0,.int .i64 0])∧w'=w:=by
 go_enter Tryz.func139,Tryz.ntmps139
 go_wp2
 go_loop [4,5,11] (fun hi lo i=>i=.int .i64 0∧hi=.int .i64 0∧lo=.int .u64 0) (fun _ _ _=>0)
 case atStart=>exact ⟨rfl,rfl,rfl⟩
 case round =>
  obtain ⟨rfl,rfl,rfl⟩:=hrel
  go_wp2
  go_ret2
  exact ⟨rfl,rfl⟩
set_option maxHeartbeats 2000000 in
theorem Tryz.sumAny (a:Addr) (len cap:Nat) (zs:List Int) (w:World) (hz:len=zs.length) (hbig:len≤1099511627776) (hr:∀ j,j<zs.length→-9223372036854775808≤zs.getD j 0∧zs.getD j 0≤9223372036854775807)
  (hc:∀ j,j<zs.length→w.cell? (a.add j)=some (.int .i64 (zs.getD j 0))) :
  Calls Go.Proofs.Tryz.prog 139 #[.slice (some a) len cap] w fun e w'=>e=.returned (.tuple #[.int .i64 (Go.LS.sumG zs).1,.int .i64 (Go.LS.sumG zs).2])∧w'=w:=by
 have hmem:∀ x∈zs,-9223372036854775808≤x∧x≤9223372036854775807:=by
  intro x hx
  obtain ⟨j,hj,rfl⟩:=List.mem_iff_getElem.1 hx
  have:=hr j hj
  simpa [List.getD,List.getElem?_eq_getElem hj] using this
 go_enter Tryz.func139,Tryz.ntmps139
 go_wp2
 go_loop [4,5,11] (fun hi lo i=>∃ k:Nat,k≤len∧i=.int .i64 k∧hi=.int .i64 (Go.LS.sumI (zs.take k) / 18446744073709551616)∧lo=.int .u64 (Go.LS.sumI (zs.take k) % 18446744073709551616)) (fun _ _ i=>len - (Go.RowKit.intOf i).toNat)
 case atStart=>exact ⟨0,Nat.zero_le _,rfl,rfl,rfl⟩
 case round =>
  obtain ⟨k,hk,rfl,rfl,rfl⟩:=hrel
  have hcell:k<len→w.cell? (a.add k)=some (.int .i64 (zs.getD k 0)):=fun _=>hc k (by omega)
  go_wp2_with (simp only [Tryz.add64 _ _ (Int.emod_nonneg _ (by decide:(18446744073709551616:Int)≠0)) (wrapU _)])
  ·have hlt:k<zs.length:=by assumption
   have hS:=sumI_take hlt
   have hB:=sumI_bound (zs.take k) (fun x hx=>hmem x (List.mem_of_mem_take hx))
   rw [List.length_take] at hB
   have hn:=hr k hlt
   have hg:zs.getD k 0=zs[k]:=by simp [List.getD,List.getElem?_eq_getElem hlt]
   rw [hg] at hS hn
   have hkb:((min k zs.length:Nat):Int)≤1099511627776:=by omega
   refine ⟨⟨_,_,_,_,_,⟨k+1,by omega,by go_num,?_,?_⟩,rfl,rfl,rfl,rfl,rfl⟩,?_⟩
   ·rw [hS]
    simp only [IntKind.wrap_u64]
    generalize Go.LS.sumI (zs.take k)=S at *
    generalize zs[k]=n at *
    congr 1
    exact hi_step S n (by omega) (by omega) hn.1 hn.2
   ·rw [hS]
    simp only [IntKind.wrap_u64]
    generalize Go.LS.sumI (zs.take k)=S at *
    generalize zs[k]=n at *
    congr 1
    omega
   ·simp [Go.RowKit.intOf];omega
  ·obtain rfl:k=zs.length:=by omega
   rw [List.take_length] at *
   have hne:(Go.LS.sumI zs / 18446744073709551616 != wrap64 (Go.LS.sumI zs % 18446744073709551616) / 9223372036854775808)=true:=by assumption
   have hG:Go.LS.sumG zs=(0,18):=by
    unfold Go.LS.sumG
    rw [if_neg]
    intro hh
    have:=hi_ok _ hh.1 hh.2
    simp [this] at hne
   go_ret2
   refine ⟨?_,rfl⟩
   rw [hG]
   rfl
  ·obtain rfl:k=zs.length:=by omega
   rw [List.take_length] at *
   have hne:(Go.LS.sumI zs / 18446744073709551616 != wrap64 (Go.LS.sumI zs % 18446744073709551616) / 9223372036854775808)=false:=by assumption
   have hne':Go.LS.sumI zs / 18446744073709551616=wrap64 (Go.LS.sumI zs % 18446744073709551616) / 9223372036854775808:=by simpa using hne
   obtain ⟨q1,q2,q3⟩:=ok_hi _ hne'
   have hG:Go.LS.sumG zs=(Go.LS.sumI zs,0):=by
    unfold Go.LS.sumG
    rw [if_pos ⟨q1,q2⟩]
   go_ret2
   refine ⟨?_,rfl⟩
   rw [hG]
   show Ending.returned (Value.tuple #[Value.int .i64 (wrap64 (Go.LS.sumI zs % 18446744073709551616)),Value.int .i64 0])=_
   rw [q3]
end Go.Proofs
namespace Go.LS.Tryz
open Go Go.LS Go.RowKit
set_option maxRecDepth 100000
theorem d131 (l:List Int) (hl:okLen l) (hr:∀ n∈l,inK .i64 n):Spec V 139 [.c (.d (.sl 1 (l.map eI)))] (.tu [i2 .i64 (sumG l).1,i2 .i64 (sumG l).2]):=by
 refine ⟨⟨_,Go.Proofs.Tryz.func139,rfl,rfl⟩,rfl,fun w E us hG hE hd=>?_⟩
 obtain ⟨u1,r1,e1,hd1,e3⟩:=hd
 subst e3
 obtain ⟨A,cap,rfl,h1,h2,h3⟩:=hd1
 have eus:us=#[.slice A (l.map eI).length cap]:=Array.toList_inj.1 e1
 subst eus
 have fin:∀ (e:Ending) (w':World),(e=.returned (.tuple #[.int .i64 (sumG l).1,.int .i64 (sumG l).2])∧w'=w)→∃ v,e=.returned v∧Ext noB w w'∧dat w' E (.tu [i2 .i64 (sumG l).1,i2 .i64 (sumG l).2]) v:=by
  rintro e w' ⟨rfl,rfl⟩
  exact ⟨_,rfl,Ext.refl _ _,_,rfl,_,_,rfl,⟨rfl,rfl⟩,_,_,rfl,⟨rfl,rfl⟩,rfl⟩
 by_cases h0:0<l.length
 ·obtain ⟨a,rfl,hb,ho,hrd⟩:=h3 (by simpa using h0)
  refine (Go.Proofs.Tryz.sumAny a (l.map eI).length cap l w (by simp) (by rw [List.length_map];exact hl) (fun j hj=>?_) (fun j hj=>?_)).mono fin
  ·have:=hr l[j] (List.getElem_mem hj)
   rw [List.getD_eq_getElem?_getD,List.getElem?_eq_getElem hj]
   exact this
  ·obtain ⟨_,hc⟩:=rdEs_get hrd (i:=j) (by simpa using hj)
   rw [Nat.mul_one,List.getElem_map] at hc
   obtain ⟨⟨u,q1,q2⟩,_⟩:=hc
   rw [q1,q2.1,List.getD_eq_getElem?_getD,List.getElem?_eq_getElem hj]
   rfl
 ·obtain rfl:l=[]:=List.eq_nil_of_length_eq_zero (by omega)
  refine (Go.Proofs.Tryz.sumNil A cap w).mono fin
end Go.LS.Tryz
