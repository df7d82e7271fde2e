/- Part RD: 3 texts,one behind the other. -/
import Derived.Test.YtfmbjaeppffdpaaGreatDoorLSz
import Derived.Test.YtfmbjaeppffdpaaGreatDoorPA
import Derived.Test.YtfmbjaeppffdpaaGreatDoorE
import Derived.Test.YtfmbjaeppffdpaaGreatDoorRows
import Derived.KernelRfl
import Derived.Test.YtfmbjaeppffdpaaGreatDoorPD
import Derived.Test.YtfmbjaeppffdpaaGreatDoorPJ
/- What arguments read as: values,columns,queries,rows;the bound on their bulk. -/
namespace Go.LS.Tryz
open Go Go.LS Go.RowKit
set_option maxRecDepth 100000
mutual
theorem bulk_eq {H:Type}:∀ d:DataW H,Go.Proofs.YtfmbjaeppffdpaaGreatDoor.Rows.uptoBulk d=blk d
 | .lit l=>by cases l<;>rfl
 | .nil=>rfl
 | .ptr d=>by simp only [Go.Proofs.YtfmbjaeppffdpaaGreatDoor.Rows.uptoBulk,blk,bulk_eq d]
 | .slice e s=>by simp only [Go.Proofs.YtfmbjaeppffdpaaGreatDoor.Rows.uptoBulk,blk,bulks_eq e,bulks_eq s]
 | .agg p=>by simp only [Go.Proofs.YtfmbjaeppffdpaaGreatDoor.Rows.uptoBulk,blk,bulks_eq p]
 | .iface _ d=>by simp only [Go.Proofs.YtfmbjaeppffdpaaGreatDoor.Rows.uptoBulk,blk,bulk_eq d]
 | .map e=>by simp only [Go.Proofs.YtfmbjaeppffdpaaGreatDoor.Rows.uptoBulk,blk,bulkEs_eq e]
 | .held _=>rfl
theorem bulks_eq {H:Type}:∀ l:List (DataW H),Go.Proofs.YtfmbjaeppffdpaaGreatDoor.Rows.uptoBulkAll l=blks l
 | []=>rfl
 | d::r=>by simp only [Go.Proofs.YtfmbjaeppffdpaaGreatDoor.Rows.uptoBulkAll,blks,bulk_eq d,bulks_eq r]
theorem bulkEs_eq {H:Type}:∀ l:List (Lit × DataW H),Go.Proofs.YtfmbjaeppffdpaaGreatDoor.Rows.uptoBulkEntries l=blkEs l
 | []=>rfl
 | d::r=>by simp only [Go.Proofs.YtfmbjaeppffdpaaGreatDoor.Rows.uptoBulkEntries,blkEs,bulkE_eq d,bulkEs_eq r]
theorem bulkE_eq {H:Type}:∀ x:Lit × DataW H,Go.Proofs.YtfmbjaeppffdpaaGreatDoor.Rows.uptoBulkEntry x=blkE x
 | (l,d)=>by cases l<;>simp only [Go.Proofs.YtfmbjaeppffdpaaGreatDoor.Rows.uptoBulkEntry,blkE,bulk_eq d]
end
theorem bound {H:Type} {l:List (DataW H)} (hk:Go.Proofs.YtfmbjaeppffdpaaGreatDoor.Rows.uptoSmall H l=true):blks l≤1048576:=by
 rw [← bulks_eq]
 exact of_decide_eq_true hk
def invV (v:Vl):Prop:=inK .i64 v.k∧inK .i64 v.n
def μV (v:Vl):Nat:=v.s.size+1
theorem rdV (n:Nat):Rd Go.Proofs.Tryz.prog n 27 eV μV invV:=by
 refine Rd.mono (m:=n+1) ?_ (by omega)
 have h:=(Rd.struct (n:=n) (tot:=4) ok27.und (by kernel_rfl) (RdF.cons (sz:=1) rfl (by kernel_rfl) (fun _=>rfl) (Rd.int ok3.und) (RdF.cons (sz:=1) rfl (by kernel_rfl) (fun _=>rfl) (Rd.string ok9.und)
  (RdF.cons (sz:=1) rfl (by kernel_rfl) (fun _=>rfl) (Rd.int ok2.und) (RdF.cons (sz:=1) rfl (by kernel_rfl) (fun _=>rfl) (Rd.bool ok4.und) (RdF.nil 4))))))
 exact h.map
  (fun x=>⟨x.1,x.2.1,x.2.2.1,x.2.2.2.1⟩) (fun _=>rfl) (fun _ _=>by simp only [μV];omega) (fun _ h=>⟨h.1,h.2.2.1⟩)
def μC (c:Cl):Nat:=c.name.size+1
def invC (c:Cl):Prop:=inK .i64 c.kind
theorem rdC (n:Nat):Rd Go.Proofs.Tryz.prog n 52 eC μC invC:=by
 refine Rd.mono (m:=n+1) ?_ (by omega)
 have h:=(Rd.struct (n:=n) (tot:=3) ok52.und (by kernel_rfl) (RdF.cons (sz:=1) rfl (by kernel_rfl) (fun _=>rfl) (Rd.string ok9.und) (RdF.cons (sz:=1) rfl (by kernel_rfl) (fun _=>rfl) (Rd.int ok3.und)
  (RdF.cons (sz:=1) rfl (by kernel_rfl) (fun _=>rfl) (Rd.bool ok4.und) (RdF.nil 3)))))
 exact h.map
  (fun x=>⟨x.1,x.2.1,x.2.2.1⟩) (fun _=>rfl) (fun _ _=>by simp only [μC];omega) (fun _ h=>h.2.1)
theorem rdVs (n:Nat):Rd Go.Proofs.Tryz.prog n 28 (fun l:List Vl=>[DV.sl 4 (l.map eV)]) (fun l=>sumOf μV l+1) (fun l=>∀ a∈l,invV a) :=
 Rd.slice (sz:=4) ok28.und (by kernel_rfl) (by decide) (fun _=>rfl) (rdV n)
theorem rdCs (n:Nat):Rd Go.Proofs.Tryz.prog n 22 (fun l:List Cl=>[DV.sl 3 (l.map eC)]) (fun l=>sumOf μC l+1) (fun l=>∀ a∈l,invC a) :=
 Rd.slice (sz:=3) ok22.und (by kernel_rfl) (by decide) (fun _=>rfl) (rdC n)
theorem sumV:∀ l:List Vl,sumOf μV l=bVs l
 | []=>rfl
 | v::l=>by simp only [sumOf,μV,bVs,sumV l];omega
theorem sumN:∀ l:List Nd,sumOf bN l=bNs l
 | []=>rfl
 | v::l=>by simp only [sumOf,bNs,sumN l]
theorem rdN:∀ n:Nat,Rd Go.Proofs.Tryz.prog n 31 eN bN (fun _=>True)
 | 0=>Rd.zero
 | n+1=>by
  have h:=(Rd.struct (n:=n) (tot:=8) ok31.und (by kernel_rfl) (RdF.cons (sz:=1) rfl (by kernel_rfl) (fun _=>rfl) (Rd.int ok3.und) (RdF.cons (sz:=1) rfl (by kernel_rfl) (fun _=>rfl) (Rd.string ok9.und)
   (RdF.cons (sz:=4) rfl (by kernel_rfl) (fun _=>rfl) (rdV n) (RdF.cons (sz:=1) rfl (by kernel_rfl) (fun _=>rfl) (rdVs n)
     (RdF.cons (sz:=1) rfl (by kernel_rfl) (fun _=>rfl) (Rd.slice (sz:=8) ok29.und (by kernel_rfl) (by decide) (fun a=>by rw [eN_eq];rfl) (rdN n)) (RdF.nil 8)))))))
  exact h.map
   (fun x=>Nd.mk x.1 x.2.1 x.2.2.1 x.2.2.2.1 x.2.2.2.2.1) (fun x=>by rw [eN_eq];rfl) (fun x _=>by simp only [bN,sumV,sumN,μV];omega) (fun _ _=>trivial)
theorem sumC_len:∀ l:List Cl,l.length≤sumOf μC l∧∀ c∈l,c.name.size≤sumOf μC l
 | []=>⟨by simp,by simp⟩
 | c::l=>by
  obtain ⟨h1,h2⟩:=sumC_len l
  refine ⟨by simp only [sumOf,μC,List.length_cons];omega,fun x hx=>?_⟩
  rcases List.mem_cons.1 hx with rfl|hx
  ·simp only [sumOf,μC];omega
  ·have:=h2 x hx;simp only [sumOf];omega
theorem sumV_len:∀ l:List Vl,l.length≤sumOf μV l∧∀ v∈l,v.s.size≤sumOf μV l
 | []=>⟨by simp,by simp⟩
 | c::l=>by
  obtain ⟨h1,h2⟩:=sumV_len l
  refine ⟨by simp only [sumOf,μV,List.length_cons];omega,fun x hx=>?_⟩
  rcases List.mem_cons.1 hx with rfl|hx
  ·simp only [sumOf,μV];omega
  ·have:=h2 x hx;simp only [sumOf];omega
def μR (r:List Vl):Nat:=sumOf μV r+1
theorem rdRs (n:Nat):Rd Go.Proofs.Tryz.prog n 23 (fun l:List (List Vl)=>[DV.sl 1 (l.map eR)]) (fun l=>sumOf μR l+1) (fun l=>∀ r∈l,∀ v∈r,invV v) :=
 Rd.slice (sz:=1) (e:=eR) ok23.und (by kernel_rfl) (by decide) (fun _=>rfl) (rdVs n)
theorem sumR_len:∀ l:List (List Vl),l.length≤sumOf μR l∧∀ r∈l,r.length≤sumOf μR l∧∀ v∈r,v.s.size≤sumOf μR l
 | []=>⟨by simp,by simp⟩
 | c::l=>by
  obtain ⟨h1,h2⟩:=sumR_len l
  obtain ⟨h3,h4⟩:=sumV_len c
  refine ⟨by simp only [sumOf,μR,List.length_cons];omega,fun x hx=>?_⟩
  rcases List.mem_cons.1 hx with rfl|hx
  ·exact ⟨by simp only [sumOf,μR];omega,fun v hv=>by have:=h4 v hv;simp only [sumOf,μR];omega⟩
  ·exact ⟨by have:=(h2 x hx).1;simp only [sumOf];omega,fun v hv=>by have:=(h2 x hx).2 v hv;simp only [sumOf];omega⟩
set_option linter.unusedSimpArgs false
set_option linter.unusedVariables false
def μT (t:Tb):Nat:=sumOf μC t.L+sumOf μR t.R+2
def invT (t:Tb):Prop:=(∀ c∈t.L,invC c)∧∀ r∈t.R,∀ v∈r,invV v
theorem rdT (n:Nat):Rd Go.Proofs.Tryz.prog n 25 eT μT invT:=by
 refine Rd.mono (m:=n+1) ?_ (by omega)
 have h:=(Rd.struct (n:=n) (tot:=2) ok25.und (by kernel_rfl) (RdF.cons (sz:=1) rfl (by kernel_rfl) (fun _=>rfl) (rdCs n) (RdF.cons (sz:=1) rfl (by kernel_rfl) (fun _=>rfl) (rdRs n) (RdF.nil 2))))
 exact h.map (fun x=>⟨x.1,x.2.1⟩) (fun _=>rfl) (fun _ _=>by simp only [μT];omega) (fun _ h=>⟨h.1,h.2.1⟩)
def μS (s:ByteArray):Nat:=s.size+1
theorem rdSs (n:Nat):Rd Go.Proofs.Tryz.prog n 46 (fun l:List ByteArray=>[DV.sl 1 (l.map eS)]) (fun l=>sumOf μS l+1) (fun l=>∀ a∈l,True) :=
 Rd.slice (sz:=1) (e:=eS) ok46.und (by kernel_rfl) (by decide) (fun _=>rfl) (Rd.string ok9.und)
def μD (z:Dc):Nat:=μT z.A+μT z.B+sumOf μS z.K
theorem sumS_len:∀ l:List ByteArray,l.length≤sumOf μS l∧∀ s∈l,s.size≤sumOf μS l
 | []=>⟨by simp,by simp⟩
 | c::l=>by
  obtain ⟨h1,h2⟩:=sumS_len l
  refine ⟨by simp only [sumOf,μS,List.length_cons];omega,fun x hx=>?_⟩
  rcases List.mem_cons.1 hx with rfl|hx
  ·simp only [sumOf,μS];omega
  ·have:=h2 x hx;simp only [sumOf];omega
theorem okT_of {t:Tb} (h:μT t≤1099511627776) (hi:invT t):okT0 t:=by
 have h2:=sumC_len t.L
 have h3:=sumR_len t.R
 simp only [μT] at h
 exact ⟨⟨by simp only [okLen];omega,fun c hc=>by have:=h2.2 c hc;omega⟩,by simp only [okLen];omega,fun r hr=>⟨by have:=(h3.2 r hr).1;simp only [okLen];omega,fun v hv=>⟨by have:=(h3.2 r hr).2 v hv;omega,(hi.2 r hr v hv).2⟩⟩⟩
def μJo (o:Jo):Nat:=o.l.size+o.r.size+2
theorem rdJo (n:Nat):Rd Go.Proofs.Tryz.prog n 65 eJo μJo (fun _=>True):=by
 refine Rd.mono (m:=n+1) ?_ (by omega)
 have h:=(Rd.struct (n:=n) (tot:=2) ok65.und (by kernel_rfl) (RdF.cons (sz:=1) rfl (by kernel_rfl) (fun _=>rfl) (Rd.string ok9.und) (RdF.cons (sz:=1) rfl (by kernel_rfl) (fun _=>rfl) (Rd.string ok9.und) (RdF.nil 2))))
 exact h.map (fun x=>⟨x.1,x.2.1⟩) (fun _=>rfl) (fun _ _=>by simp only [μJo];omega) (fun _ _=>trivial)
theorem rdJos (n:Nat):Rd Go.Proofs.Tryz.prog n 47 (fun l:List Jo=>[DV.sl 2 (l.map eJo)]) (fun l=>sumOf μJo l+1) (fun l=>∀ a∈l,True) :=
 Rd.slice (sz:=2) ok47.und (by kernel_rfl) (by decide) (fun _=>rfl) (rdJo n)
def μJc (z:Jc):Nat:=μT z.A+μT z.B+sumOf μJo z.On
theorem sumJo_len:∀ l:List Jo,l.length≤sumOf μJo l
 | []=>by simp
 | c::l=>by
  have h1:=sumJo_len l
  simp only [sumOf,μJo,List.length_cons];omega
end Go.LS.Tryz
