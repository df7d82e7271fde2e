/- Contracts of the functions of the seat, one by one (part DR6); no condition but those that each bears. -/
import Derived.Test.YtfmbjaeppffdpaaGreatDoorRD
import Derived.Test.YtfmbjaeppffdpaaGreatDoorPT
namespace Go.LS.Tryz
open Go Go.LS Go.RowKit
set_option maxRecDepth 100000
set_option linter.unusedSimpArgs false
set_option linter.unusedVariables false
def μPai (z : Pai) : Nat := μT z.T + μT z.W
def invPai (z : Pai) : Prop := invT z.T ∧ invT z.W ∧ inK .u8 z.At ∧ inK .u8 z.With
theorem rdPai (n : Nat) : Rd Go.Proofs.Tryz.prog n 63 ePai μPai invPai := by
 refine Rd.mono (m := n + 1) ?_ (by omega)
 have h := (Rd.struct (n := n) (tot := 6) ok63.und (by kernel_rfl) (RdF.cons (sz := 2) rfl (by kernel_rfl) (fun _ => rfl) (rdT n) (RdF.cons (sz := 2) rfl (by kernel_rfl) (fun _ => rfl) (rdT n)
  (RdF.cons (sz := 1) rfl (by kernel_rfl) (fun _ => rfl) (Rd.int ok5.und) (RdF.cons (sz := 1) rfl (by kernel_rfl) (fun _ => rfl) (Rd.int ok5.und) (RdF.nil 6))))))
 exact h.map (fun x => ⟨x.1, x.2.1, x.2.2.1, x.2.2.2.1⟩) (fun _ => rfl) (fun _ _ => by simp only [μPai]; omega) (fun _ h => ⟨h.1, h.2.1, h.2.2.1, h.2.2.2.1⟩)
theorem okPai_of {z : Pai} (h : μPai z ≤ 1099511627776) (hi : invPai z) : okPai z := by
 simp only [μPai] at h
 exact ⟨okT_of (by omega) hi.1, okT_of (by omega) hi.2.1, hi.2.2.1, hi.2.2.2⟩
end Go.LS.Tryz
