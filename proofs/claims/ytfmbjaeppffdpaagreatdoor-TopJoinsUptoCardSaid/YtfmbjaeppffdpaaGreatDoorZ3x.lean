/- Contracts of the functions of the seat, one by one (part Z3x); no condition but those that each bears. -/
import Derived.Test.YtfmbjaeppffdpaaGreatDoorZ2
namespace Go.LS.Tryz
open Go Go.LS
set_option maxRecDepth 100000
set_option linter.unusedSimpArgs false
set_option linter.unusedVariables false
set_option maxHeartbeats 4000000 in
theorem z25x (t : Tb) (l : List Stp) (hl : l.length ≤ 100) (ht : okG t) (P : Nat → Tb → Prop) (h0 : P 0 t)
  (h20 : ∀ i u s, P i u → l[i]? = some s → Spec V 20 [.ag ((eT u).map .d), .ag ((eSt s).map .d)] (.tu [.ag ((eT (stepT u s).1).map .d), i2 .i64 (stepT u s).2]))
  (hn : ∀ i u s, P i u → l[i]? = some s → (stepT u s).2 = 0 → P (i + 1) (stepT u s).1) :
  Spec V 25 [.ag ((eT t).map .d), .c (.d (.sl 17 (l.map eSt)))] (.tu [.ag ((eT (runA t l).1).map .d), i2 .i64 (runA t l).2.1, i2 .i64 (runA t l).2.2]) := by
 have h45 := z45 t ht.ok.l ht.ok.r (fun r h => (ht.ok.v r h).1)
 have h47 := z47 t.L t.R (chkT t) ht.ok.l.1 ht.ok.r (fun r h => (ht.ok.v r h).1)
 obtain ⟨F, hF⟩ : ∃ F, F = runA t l := ⟨_, rfl⟩
 rw [← hF]
 unfold runA at hF
 simp only [eT_eq] at h45 h47
 (refine Spec.of_go (L := fun | 0 => some [1, 2, 4] | 1 => some [1, 2, 4, 15] | 2 => some [4, 7, 8] | 3 => some [4, 5, 6] | 4 => some [1, 2, 4, 28, 29, 30] | 5 => some [1, 2, 4, 28, 29, 30, 31] | 6 => some [1, 2, 4, 9, 10, 28, 29, 30] | 7 => some [1, 2, 4, 9, 11, 12, 28, 29, 30] | 8 => some [1, 2, 4, 9, 11, 12, 28, 29, 30, 42] | 9 => some [4, 5, 6] | 10 => some [1, 2, 4, 28, 29, 30] | 11 => some [1, 2, 4, 28, 29, 30] | 12 => some [4, 5, 6] | _ => none) 1000 Go.Proofs.Tryz.func25 rfl rfl ⟨Nat.le_of_ble_eq_true rfl, rfl⟩ rfl ?_; unfold Go.Proofs.Tryz.f25; push_cast (maxSteps := mS))
 by_cases c0 : l.length = 0
 ·rw [if_pos c0] at hF
  subst hF
  (try push_cast (maxSteps := mS) [c0])
  (refine DrawK.of (.take 0 (.take 1 (.take 2 (.take 3 (.take 4 (.two 5 (.two 6 (.take 7 (.take 8 (.two 9 (.one 10 (.one 11 (.one 12 .done))) 10 (.two 9 (.one 11 (.one 12 .done)) 11 (.one 9 (.one 12 .done)))))) 10 (.one 6 (.take 7 (.take 8 (.two 9 (.one 11 (.one 12 .done)) 11 (.one 9 (.one 12 .done))))))) 10 (.one 5 (.one 6 (.take 7 (.take 8 (.two 9 (.one 11 (.one 12 .done)) 11 (.one 9 (.one 12 .done))))))))))))) 1000 (by decide +kernel) ?_; try (push_cast (maxSteps := mS)))
  ((repeat' with_reducible refine And.intro ?_ ?_) <;> try first | trivial | omega | exact ix | exact iu | exact im | exact .inl trivial | exact .inl rfl)
  all_goals (refine ⟨_, h45, rfl, ?_⟩)
  all_goals (try push_cast (maxSteps := mS))
  all_goals ((repeat' with_reducible refine And.intro ?_ ?_) <;> try first | trivial | omega | exact ix | exact iu | exact im | exact .inl trivial | exact .inl rfl)
  all_goals (refine ⟨_, h47, rfl, ?_⟩)
  all_goals (try push_cast (maxSteps := mS))
  all_goals trace_state
 ·rw [if_neg c0] at hF
  have c1 : ¬ (l.length : Int) = 0 := by omega
  (try push_cast (maxSteps := mS) [c1])
  refine LoopK.ov (α := Nat × Tb) [30] (fun p => [i2 .i64 p.1]) (fun p => [.bx 25 [.d (.sl 3 (p.2.L.map eC)), .d (.sl 1 (p.2.R.map eR))], .bx 25 [.d (.v (.slice none 0 0)), .d (.v (.slice none 0 0))]])
   (fun p => p.1 ≤ l.length ∧ P p.1 p.2 ∧ runT p.2 (l.drop p.1) p.1 = F) (fun p => l.length - p.1) 1000 (0, t) ⟨by simp, h0, hF.symm⟩ (by (try push_cast (maxSteps := mS)) <;> first | rfl | exact ⟨rfl, rfl⟩ | exact ⟨rfl, rfl, rfl⟩ | trivial) ?_
  rintro ⟨k, u⟩ ⟨hk, hp, hc⟩
  simp only at hk hp hc
  clear h45 h47
  by_cases hlt : k < l.length
  ·have hv := List.getElem?_eq_getElem hlt; have hd : decide ((k : Int) < (l.length : Int)) = true := decide_eq_true (by omega)
   rw [drop_cons hv] at hc
   simp only [runT] at hc
   replace h20 := h20 k u l[k] hp hv
   replace hn := hn k u l[k] hp hv
   generalize l[k] = s at *
   simp only [eT_eq, eSt_eq] at h20
   (try push_cast (maxSteps := mS) [hd, getD_map hv])
   ((repeat' with_reducible refine And.intro ?_ ?_) <;> try first | trivial | omega | exact ix | exact iu | exact im | exact .inl trivial | exact .inl rfl)
   refine ⟨_, h20, rfl, ?_⟩
   (try push_cast (maxSteps := mS))
   ((repeat' with_reducible refine And.intro ?_ ?_) <;> try first | trivial | omega | exact ix | exact iu | exact im | exact .inl trivial | exact .inl rfl)
   by_cases e : (stepT u s).2 = 0
   ·rw [if_neg (by simp [e])] at hc
    replace hn := hn e
    generalize stepT u s = S at *
    (try push_cast (maxSteps := mS) [e])
    ((repeat' with_reducible refine And.intro ?_ ?_) <;> try first | trivial | omega | exact ix | exact iu | exact im | exact .inl trivial | exact .inl rfl)
    refine ⟨(k + 1, S.1), ⟨by simp only; omega, hn, hc⟩, by simp only; omega, Le.st ?_⟩
    (try push_cast (maxSteps := mS))
    all_goals (first | rfl | exact ⟨rfl, rfl⟩ | trace_state)
   ·rw [if_pos e] at hc
    subst hc
    (try push_cast (maxSteps := mS) [e, tb0])
  ·have hd : decide ((k : Int) < (l.length : Int)) = false := decide_eq_false (by omega)
   have hkk : k = l.length := by omega
   subst hkk
   rw [List.drop_length, runT] at hc
   subst hc
   (try push_cast (maxSteps := mS) [hd])
theorem run1 {t : Tb} {a : Stp} (ht : okG t) (h : Spec V 20 [.ag ((eT t).map .d), .ag ((eSt a).map .d)] (.tu [.ag ((eT (stepT t a).1).map .d), i2 .i64 (stepT t a).2])) :
  Spec V 25 [.ag ((eT t).map .d), .c (.d (.sl 17 ([a].map eSt)))] (.tu [.ag ((eT (runA t [a]).1).map .d), i2 .i64 (runA t [a]).2.1, i2 .i64 (runA t [a]).2.2]) :=
 z25x t [a] (by simp) ht (fun i x => i = 0 → x = t) (fun _ => rfl) (fun i u s hp hs => by
  cases i with
  | zero =>
   obtain rfl := hp rfl
   simp at hs
   subst hs
   exact h
  | succ i => simp at hs) (fun i u s hp hs he h0 => by omega)
end Go.LS.Tryz
