/- Contracts of the functions of the seat, one by one (part WF); no condition but those that each bears. -/
import Derived.Test.YtfmbjaeppffdpaaGreatDoorWE
import Derived.Test.YtfmbjaeppffdpaaGreatDoorZ3w
import Derived.Test.YtfmbjaeppffdpaaGreatDoorSA
import Derived.Test.YtfmbjaeppffdpaaGreatDoorPTd
namespace Go.LS.Tryz
open Go Go.LS
set_option maxRecDepth 100000
set_option linter.unusedVariables false
set_option linter.unusedSimpArgs false
set_option linter.unusedVariables false
theorem run25 {t u v : Tb} {a b : Stp} (ht : okG t) (hu : okG u) (hv : okG v) (ha : okH a) (hb : okH b) (ka : a.kind = 1 ∨ a.kind = 2) (kb : b.kind = 1 ∨ b.kind = 2) (h1 : stepT t a = (u, 0)) (h2 : stepT u b = (v, 0)) :
  Spec V 25 [.ag ((eT t).map .d), .c (.d (.sl 17 ([a, b].map eSt)))] (.tu [.ag ((eT v).map .d), i2 .i64 (2 : Nat), i2 .i64 0]) := by
 have h := z25w t [a, b] (by simp) (fun s hs => by
  rcases List.mem_cons.1 hs with rfl | hs
  ·exact ha
  ·rw [List.mem_singleton.1 hs]; exact hb) (fun s hs => by
  rcases List.mem_cons.1 hs with rfl | hs
  ·exact ka
  ·rw [List.mem_singleton.1 hs]; exact kb) (fun i x => (i = 0 ∧ x = t) ∨ (i = 1 ∧ x = u) ∨ (i = 2 ∧ x = v))
  (fun i x hx => by rcases hx with ⟨_, rfl⟩ | ⟨_, rfl⟩ | ⟨_, rfl⟩ <;> assumption) (.inl ⟨rfl, rfl⟩)
  (fun i x s hx hs _ => by
    rcases hx with ⟨rfl, rfl⟩ | ⟨rfl, rfl⟩ | ⟨rfl, rfl⟩
    ·simp at hs; subst hs; rw [h1]; exact .inr (.inl ⟨rfl, rfl⟩)
    ·simp at hs; subst hs; rw [h2]; exact .inr (.inr ⟨rfl, rfl⟩)
    ·simp at hs)
 rw [run_two h1 h2] at h
 exact h
theorem run25o {t u : Tb} {a : Stp} (ht : okG t) (hu : okG u) (ha : okH a) (ka : a.kind = 1 ∨ a.kind = 2) (h1 : stepT t a = (u, 0)) :
  Spec V 25 [.ag ((eT t).map .d), .c (.d (.sl 17 ([a].map eSt)))] (.tu [.ag ((eT u).map .d), i2 .i64 (1 : Nat), i2 .i64 0]) := by
 have h := z25w t [a] (by simp) (fun s hs => by rw [List.mem_singleton.1 hs]; exact ha) (fun s hs => by rw [List.mem_singleton.1 hs]; exact ka) (fun i x => (i = 0 ∧ x = t) ∨ (i = 1 ∧ x = u))
  (fun i x hx => by rcases hx with ⟨_, rfl⟩ | ⟨_, rfl⟩ <;> assumption) (.inl ⟨rfl, rfl⟩)
  (fun i x s hx hs _ => by
    rcases hx with ⟨rfl, rfl⟩ | ⟨rfl, rfl⟩
    ·simp at hs; subst hs; rw [h1]; exact .inr ⟨rfl, rfl⟩
    ·simp at hs)
 rw [run_one h1] at h
 exact h
end Go.LS.Tryz
