/- Contracts of the functions of the seat, one by one (part DR4); no condition but those that each bears. -/
import Derived.Test.YtfmbjaeppffdpaaDoorRD
import Derived.Test.YtfmbjaeppffdpaaDoorD36
namespace Go.LS.Tryd
open Go Go.LS Go.RowKit
set_option maxRecDepth 100000
set_option linter.unusedSimpArgs false
set_option linter.unusedVariables false

def μAg (o : Ag) : Nat := o.col.size + o.nm.size + 2
theorem rdAg (n : Nat) : Rd Go.Proofs.Tryd.prog n 101 eAg μAg (fun a => inK .i64 a.op) := by
  refine Rd.mono (m := n + 1) ?_ (by omega)
  have h := (Rd.struct (n := n) (tot := 3) ok101.und (by kernel_rfl) (RdF.cons (sz := 1) rfl (by kernel_rfl) (fun _ => rfl) (Rd.int ok3.und) (RdF.cons (sz := 1) rfl (by kernel_rfl) (fun _ => rfl) (Rd.string ok9.und) (RdF.cons (sz := 1) rfl (by kernel_rfl) (fun _ => rfl) (Rd.string ok9.und) (RdF.nil 3)))))
  exact h.map (fun x => ⟨x.1, x.2.1, x.2.2.1⟩) (fun _ => rfl) (fun _ _ => by simp only [μAg]; omega) (fun _ h => h.1)
theorem rdAgs (n : Nat) : Rd Go.Proofs.Tryd.prog n 82 (fun l : List Ag => [DV.sl 3 (l.map eAg)]) (fun l => sumOf μAg l + 1) (fun l => ∀ a ∈ l, inK .i64 a.op) :=
  Rd.slice (sz := 3) ok82.und (by kernel_rfl) (by decide) (fun _ => rfl) (rdAg n)
def μGc (z : Gc) : Nat := μT z.T + sumOf μS z.K + sumOf μAg z.A
theorem rdGc (n : Nat) : Rd Go.Proofs.Tryd.prog n 84 eGc μGc (fun z => invT z.T) := by
  refine Rd.mono (m := n + 1) ?_ (by omega)
  have h := (Rd.struct (n := n) (tot := 4) ok84.und (by kernel_rfl) (RdF.cons (sz := 2) rfl (by kernel_rfl) (fun _ => rfl) (rdT n)
    (RdF.cons (sz := 1) rfl (by kernel_rfl) (fun _ => rfl) (rdSs n) (RdF.cons (sz := 1) rfl (by kernel_rfl) (fun _ => rfl) (rdAgs n) (RdF.nil 4)))))
  exact h.map (fun x => ⟨x.1, x.2.1, x.2.2.1⟩) (fun _ => rfl) (fun _ _ => by simp only [μGc]; omega) (fun _ h => h.1)
theorem sumAg_len : ∀ l : List Ag, l.length ≤ sumOf μAg l
  | [] => by simp
  | c :: l => by
    have h1 := sumAg_len l
    simp only [sumOf, μAg, List.length_cons]; omega
theorem okGc_of {z : Gc} (h : μGc z ≤ 1099511627776) (hi : invT z.T) : okGc z := by
  have h3 := sumAg_len z.A
  have h4 := (sumS_len z.K).1
  simp only [μGc] at h
  exact ⟨okT_of (by omega) hi, by simp only [okLen]; omega, by simp only [okLen]; omega⟩
end Go.LS.Tryd
