/- Part RE: 3 texts,one behind the other. -/
import Derived.Test.YtfmbjaeppffdpaaGreatDoorRD
import Derived.Test.YtfmbjaeppffdpaaGreatDoorPA
import Derived.Test.YtfmbjaeppffdpaaGreatDoorDE
import Derived.Test.YtfmbjaeppffdpaaGreatDoorPP
/- What an argument that is a case of order reads as. -/
namespace Go.LS.Tryz
open Go Go.LS Go.RowKit
set_option maxRecDepth 100000
set_option linter.unusedSimpArgs false
set_option linter.unusedVariables false
def μK (k:Ky):Nat:=k.col.size+1
theorem rdKy (n:Nat):Rd Go.Proofs.Tryz.prog n 54 eK μK (fun _=>True):=by
 refine Rd.mono (m:=n+1) ?_ (by omega)
 have h:=(Rd.struct (n:=n) (tot:=2) ok54.und (by kernel_rfl) (RdF.cons (sz:=1) rfl (by kernel_rfl) (fun _=>rfl) (Rd.string ok9.und) (RdF.cons (sz:=1) rfl (by kernel_rfl) (fun _=>rfl) (Rd.bool ok4.und) (RdF.nil 2))))
 exact h.map (fun x=>⟨x.1,x.2.1⟩) (fun _=>rfl) (fun _ _=>by simp only [μK];omega) (fun _ _=>trivial)
theorem rdKs (n:Nat):Rd Go.Proofs.Tryz.prog n 45 (fun l:List Ky=>[DV.sl 2 (l.map eK)]) (fun l=>sumOf μK l+1) (fun l=>∀ a∈l,True) :=
 Rd.slice (sz:=2) ok45.und (by kernel_rfl) (by decide) (fun _=>rfl) (rdKy n)
def μZ (z:Cs):Nat:=sumOf μK z.k+sumOf μC z.l+sumOf μR z.r
theorem sumK_len:∀ l:List Ky,l.length≤sumOf μK l
 | []=>by simp
 | c::l=>by
  have:=sumK_len l
  simp only [sumOf,μK,List.length_cons];omega
def μAg (o:Ag):Nat:=o.col.size+o.nm.size+2
theorem rdAg (n:Nat):Rd Go.Proofs.Tryz.prog n 60 eAg μAg (fun a=>inK .i64 a.op):=by
 refine Rd.mono (m:=n+1) ?_ (by omega)
 have h:=(Rd.struct (n:=n) (tot:=3) ok60.und (by kernel_rfl) (RdF.cons (sz:=1) rfl (by kernel_rfl) (fun _=>rfl) (Rd.int ok3.und) (RdF.cons (sz:=1) rfl (by kernel_rfl) (fun _=>rfl) (Rd.string ok9.und) (RdF.cons (sz:=1) rfl (by kernel_rfl) (fun _=>rfl) (Rd.string ok9.und) (RdF.nil 3)))))
 exact h.map (fun x=>⟨x.1,x.2.1,x.2.2.1⟩) (fun _=>rfl) (fun _ _=>by simp only [μAg];omega) (fun _ h=>h.1)
theorem rdAgs (n:Nat):Rd Go.Proofs.Tryz.prog n 48 (fun l:List Ag=>[DV.sl 3 (l.map eAg)]) (fun l=>sumOf μAg l+1) (fun l=>∀ a∈l,inK .i64 a.op) :=
 Rd.slice (sz:=3) ok48.und (by kernel_rfl) (by decide) (fun _=>rfl) (rdAg n)
def μGc (z:Gc):Nat:=μT z.T+sumOf μS z.K+sumOf μAg z.A
theorem sumAg_len:∀ l:List Ag,l.length≤sumOf μAg l
 | []=>by simp
 | c::l=>by
  have h1:=sumAg_len l
  simp only [sumOf,μAg,List.length_cons];omega
def μStp (s:Stp):Nat:=bN s.q+sumOf μK s.ks+sumOf μS s.nm+μT s.w+sumOf μJo s.on+sumOf μAg s.ag
def invStp (s:Stp):Prop:=inK .i64 s.kind∧inK .i64 s.n∧invT s.w∧inK .i64 s.how
theorem rdStp (n:Nat):Rd Go.Proofs.Tryz.prog n 50 eSt μStp invStp:=by
 refine Rd.mono (m:=n+1) ?_ (by omega)
 have h:=(Rd.struct (n:=n) (tot:=17) ok50.und (by kernel_rfl) (RdF.cons (sz:=1) rfl (by kernel_rfl) (fun _=>rfl) (Rd.int ok3.und) (RdF.cons (sz:=8) rfl (by kernel_rfl) (fun q=>by rw [eN_eq];rfl) (rdN n)
  (RdF.cons (sz:=1) rfl (by kernel_rfl) (fun _=>rfl) (rdKs n) (RdF.cons (sz:=1) rfl (by kernel_rfl) (fun _=>rfl) (Rd.int ok3.und) (RdF.cons (sz:=1) rfl (by kernel_rfl) (fun _=>rfl) (rdSs n)
    (RdF.cons (sz:=2) rfl (by kernel_rfl) (fun _=>rfl) (rdT n) (RdF.cons (sz:=1) rfl (by kernel_rfl) (fun _=>rfl) (rdJos n) (RdF.cons (sz:=1) rfl (by kernel_rfl) (fun _=>rfl) (Rd.int ok3.und)
      (RdF.cons (sz:=1) rfl (by kernel_rfl) (fun _=>rfl) (rdAgs n) (RdF.nil 17)))))))))))
 exact h.map (fun x=>⟨x.1,x.2.1,x.2.2.1,x.2.2.2.1,x.2.2.2.2.1,x.2.2.2.2.2.1,x.2.2.2.2.2.2.1,x.2.2.2.2.2.2.2.1,x.2.2.2.2.2.2.2.2.1⟩) (fun x=>by rw [eN_eq];rfl)
  (fun _ _=>by simp only [μStp];omega) (fun _ h=>⟨h.1,h.2.2.2.1,h.2.2.2.2.2.1,h.2.2.2.2.2.2.2.1⟩)
theorem okStp_of {s:Stp} (h:μStp s≤300000000000) (hi:invStp s):okStp s:=by
 have h1:=sumK_len s.ks
 have h2:=(sumS_len s.nm).1
 have h3:=sumJo_len s.on
 have h4:=sumAg_len s.ag
 simp only [μStp] at h
 exact ⟨hi.1,by simp only [okNd];omega,by simp only [okLen];omega,hi.2.1,by simp only [okLen];omega,okT_of (by omega) hi.2.2.1,by simp only [okLen];omega,hi.2.2.2,by simp only [okLen];omega,by omega⟩
theorem rdStps (n:Nat):Rd Go.Proofs.Tryz.prog n 68 (fun l:List Stp=>[DV.sl 17 (l.map eSt)]) (fun l=>sumOf μStp l+1) (fun l=>∀ s∈l,invStp s) :=
 Rd.slice (sz:=17) ok68.und (by kernel_rfl) (by decide) (fun _=>rfl) (rdStp n)
theorem sumStp_mem:∀ {l:List Stp} {s:Stp},s∈l→μStp s≤sumOf μStp l
 | [],_,h=>by cases h
 | x::l,s,h=>by
  rcases List.mem_cons.1 h with rfl|h
  ·simp only [sumOf];omega
  ·have:=sumStp_mem h
   simp only [sumOf];omega
end Go.LS.Tryz
