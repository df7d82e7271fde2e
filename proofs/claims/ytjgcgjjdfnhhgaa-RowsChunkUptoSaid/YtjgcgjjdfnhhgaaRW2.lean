/- Contracts of the functions of the seat, one by one (part RW2); no condition but those that each bears. -/
import Derived.Test.YtjgcgjjdfnhhgaaRW1
namespace Go.LS.Tryr
open Go Go.LS
set_option maxRecDepth 100000
set_option linter.unusedVariables false
set_option linter.unusedSimpArgs false
set_option linter.unusedVariables false

abbrev bL (b : Bool) : LV := .c (.d (.v (.bool b)))
abbrev bD (b : Bool) : List DV := [.v (.bool b)]
theorem f10 (l : List Int) : Spec V 10 [.c (.d (rowD l))] (.c (.d (.clo 34 [.at_ [rowD l]]))) := by
  (refine Spec.of_go (L := fun | 0 => some [1] | 1 => some [2] | _ => none) 1000 Go.Proofs.Try.func10 rfl rfl ⟨Nat.le_of_ble_eq_true rfl, rfl⟩ rfl ?_; unfold Go.Proofs.Try.f10; push_cast (maxSteps := 1000000))
theorem f9 (d : DV) (n : Int) : Spec V 9 [.c (.d d), nL n] (.c (.d (.clo 33 [.at_ [.v (.int .i64 n)], .at_ [d]]))) := by
  (refine Spec.of_go (L := fun | 0 => some [2, 3] | 1 => some [4] | _ => none) 1000 Go.Proofs.Try.func9 rfl rfl ⟨Nat.le_of_ble_eq_true rfl, rfl⟩ rfl ?_; unfold Go.Proofs.Try.f9; push_cast (maxSteps := 1000000))
theorem f16 (d p : DV) : Spec V 16 [.c (.d d), .c (.d p)] (.c (.d (.clo 35 [.at_ [d], .at_ [p]]))) := by
  (refine Spec.of_go (L := fun | 0 => some [2, 3] | 1 => some [4] | _ => none) 1000 Go.Proofs.Try.func16 rfl rfl ⟨Nat.le_of_ble_eq_true rfl, rfl⟩ rfl ?_; unfold Go.Proofs.Try.f16; push_cast (maxSteps := 1000000))
theorem f17 (l : List Int) (u : Value) : Spec V 17 [.c (.d (rowD l)), .c (.d (.v u))] (.c (.d (.clo 36 [.at_ [rowD l], .at_ [.v u]]))) := by
  (refine Spec.of_go (L := fun | 0 => some [2, 3] | 1 => some [4] | _ => none) 1000 Go.Proofs.Try.func17 rfl rfl ⟨Nat.le_of_ble_eq_true rfl, rfl⟩ rfl ?_; unfold Go.Proofs.Try.f17; push_cast (maxSteps := 1000000))
theorem f19 (d p : DV) : Spec V 19 [.c (.d d), .c (.d p)] (.c (.d (.clo 37 [.at_ [d], .at_ [p]]))) := by
  (refine Spec.of_go (L := fun | 0 => some [2, 3] | 1 => some [4] | _ => none) 1000 Go.Proofs.Try.func19 rfl rfl ⟨Nat.le_of_ble_eq_true rfl, rfl⟩ rfl ?_; unfold Go.Proofs.Try.f19; push_cast (maxSteps := 1000000))
theorem f22 (d p : DV) : Spec V 22 [.c (.d d), .c (.d p)] (.c (.d (.clo 38 [.at_ [d], .at_ [p]]))) := by
  (refine Spec.of_go (L := fun | 0 => some [2, 3] | 1 => some [4] | _ => none) 1000 Go.Proofs.Try.func22 rfl rfl ⟨Nat.le_of_ble_eq_true rfl, rfl⟩ rfl ?_; unfold Go.Proofs.Try.f22; push_cast (maxSteps := 1000000))
theorem f23 (d : DV) (n : Int) : Spec V 23 [.c (.d d), nL n] (.c (.d (.clo 39 [.at_ [.v (.int .i64 n)], .at_ [d]]))) := by
  (refine Spec.of_go (L := fun | 0 => some [2, 3] | 1 => some [4] | _ => none) 1000 Go.Proofs.Try.func23 rfl rfl ⟨Nat.le_of_ble_eq_true rfl, rfl⟩ rfl ?_; unfold Go.Proofs.Try.f23; push_cast (maxSteps := 1000000))
theorem f25 (d : DV) (n : Int) : Spec V 25 [.c (.d d), nL n] (.c (.d (.clo 40 [.at_ [d], .at_ [.v (.int .i64 n)]]))) := by
  (refine Spec.of_go (L := fun | 0 => some [2, 3] | 1 => some [4] | _ => none) 1000 Go.Proofs.Try.func25 rfl rfl ⟨Nat.le_of_ble_eq_true rfl, rfl⟩ rfl ?_; unfold Go.Proofs.Try.f25; push_cast (maxSteps := 1000000))
theorem f27 (d p : DV) : Spec V 27 [.c (.d d), .c (.d p)] (.c (.d (.clo 41 [.at_ [d], .at_ [p]]))) := by
  (refine Spec.of_go (L := fun | 0 => some [2, 3] | 1 => some [4] | _ => none) 1000 Go.Proofs.Try.func27 rfl rfl ⟨Nat.le_of_ble_eq_true rfl, rfl⟩ rfl ?_; unfold Go.Proofs.Try.f27; push_cast (maxSteps := 1000000))
theorem f30 (ds : List DV) : Spec V 30 [.c (.d (.sl 1 (ds.map fun d => [d])))] (.c (.d (.clo 42 [.at_ [.sl 1 (ds.map fun d => [d])]]))) := by
  (refine Spec.of_go (L := fun | 0 => some [1] | 1 => some [2] | _ => none) 1000 Go.Proofs.Try.func30 rfl rfl ⟨Nat.le_of_ble_eq_true rfl, rfl⟩ rfl ?_; unfold Go.Proofs.Try.f30; push_cast (maxSteps := 1000000))
end Go.LS.Tryr
