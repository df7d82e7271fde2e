/- Contracts of the functions of the seat, one by one (part Z2); no condition but those that each bears. -/
import Derived.Test.YtfmbjaeppffdpaaGreatDoorPP
import Derived.Test.YtfmbjaeppffdpaaGreatDoorDC
import Derived.Test.YtfmbjaeppffdpaaGreatDoorDB
namespace Go.LS.Tryz
open Go Go.LS
set_option maxRecDepth 100000
set_option linter.unusedSimpArgs false
set_option linter.unusedVariables false
theorem z83 (r : List Cl) (hr : okLen r) : Spec V 83 [.c (.d (.sl 3 (r.map eC)))] (.c (.d (.sl 3 (r.map eC)))) := by
 (refine Spec.of_go (L := fun | 0 => some [0] | 1 => some [0, 4] | 2 => some [2] | 3 => some [2] | _ => none) 1000 Go.Proofs.Tryz.func83 rfl rfl ⟨Nat.le_of_ble_eq_true rfl, rfl⟩ rfl ?_; unfold Go.Proofs.Tryz.f83; push_cast (maxSteps := mS))
 intro b hb
 (try push_cast (maxSteps := mS))
 refine BrP.mk (fun h => ?_) (fun h => ?_) <;> try (push_cast (maxSteps := mS) [h])
 ·have := hb h
  simp at this
  simp [this]
 ·((repeat' with_reducible refine And.intro ?_ ?_) <;> try first | trivial | omega | exact ix | exact iu | exact im | exact .inl trivial | exact .inl rfl)
  all_goals trace_state
theorem z45 (t : Tb) (ht : okCl t.L) (hr : okLen t.R) (hrr : ∀ r ∈ t.R, okLen r) : Spec V 45 [.ag ((eT t).map .d)] (i2 .i64 (chkT t)) := by
 obtain ⟨L, A⟩ := t
 simp only at ht hr hrr
 have h34 := f47 L ht
 obtain ⟨R, hR⟩ : ∃ R, R = chkT ⟨L, A⟩ := ⟨_, rfl⟩
 rw [← hR]
 unfold chkT at hR
 simp only at hR
 (refine Spec.of_go (L := fun | 0 => some [1] | 1 => some [1, 4] | 2 => some [1, 4, 14] | 3 => some [2] | 4 => some [1, 17, 18, 19] | 5 => some [1, 17, 18, 19, 20] | 6 => some [1, 6, 17, 18, 19] | 7 => some [1, 17, 18, 19, 28] | 8 => some [2] | 9 => some [1, 17, 18, 19] | 10 => some [2] | _ => none) 1000 Go.Proofs.Tryz.func45 rfl rfl ⟨Nat.le_of_ble_eq_true rfl, rfl⟩ rfl ?_; unfold Go.Proofs.Tryz.f45; push_cast (maxSteps := mS))
 refine ⟨_, h34, rfl, ?_⟩
 by_cases c1 : (checkC L).2 = 0
 ·rw [if_neg (by simp [c1])] at hR
  (try push_cast (maxSteps := mS) [c1])
  refine LoopK.s1 (α := Nat) [19] (fun k => [i2 .i64 k]) (fun k => k ≤ A.length ∧ ((A.drop k).all fun r => decide (r.length = L.length)) = evenF ⟨L, A⟩) (fun k => A.length - k) 1000 0 ⟨by omega, rfl⟩ (by (try push_cast (maxSteps := mS)) <;> first | rfl | exact ⟨rfl, rfl⟩ | exact ⟨rfl, rfl, rfl⟩ | trivial) ?_
  rintro k ⟨hk, hc⟩
  by_cases hlt : k < A.length
  ·have hv := List.getElem?_eq_getElem hlt; have hd : decide ((k : Int) < (A.length : Int)) = true := decide_eq_true (by omega)
   rw [drop_cons hv, List.all_cons] at hc
   have hrl := hrr _ (List.getElem_mem hlt)
   generalize A[k] = r at *
   by_cases hw : r.length = L.length
   ·rw [decide_eq_true hw, Bool.true_and] at hc
    (try push_cast (maxSteps := mS) [hd, getD_map hv, hw])
    ((repeat' with_reducible refine And.intro ?_ ?_) <;> try first | trivial | omega | exact ix | exact iu | exact im | exact .inl trivial | exact .inl rfl)
    refine ⟨k + 1, ⟨by omega, hc⟩, by omega, Le.st ?_⟩
    (try push_cast (maxSteps := mS)); (all_goals first | rfl | skip)
   ·have hw' : ¬ (r.length : Int) = (L.length : Int) := by omega
    rw [decide_eq_false hw, Bool.false_and] at hc
    rw [← hc, if_pos rfl] at hR
    subst hR
    (try push_cast (maxSteps := mS) [hd, getD_map hv, hw, hw'])
    ((repeat' with_reducible refine And.intro ?_ ?_) <;> try first | trivial | omega | exact ix | exact iu | exact im | exact .inl trivial | exact .inl rfl)
  ·have hd : decide ((k : Int) < (A.length : Int)) = false := decide_eq_false (by omega)
   rw [List.drop_eq_nil_of_le (by omega), List.all_nil] at hc
   rw [← hc, if_neg (by simp)] at hR
   subst hR
   (try push_cast (maxSteps := mS) [hd])
 ·rw [if_pos c1] at hR
  subst hR
  (try push_cast (maxSteps := mS) [c1])
set_option maxHeartbeats 2000000 in
theorem z47 (l : List Cl) (rows : List (List Vl)) (e : Int) (hl : okLen l) (hr : okLen rows) (hrr : ∀ r ∈ rows, okLen r) :
  Spec V 47 [.c (.d (.sl 3 (l.map eC))), .c (.d (.sl 1 (rows.map eR))), i2 .i64 e] (.tu [.ag ((eT (tabT l rows e).1).map .d), i2 .i64 (tabT l rows e).2]) := by
 have h83 := z83 l hl
 have hrl : rows.length ≤ 1099511627776 := hr
 (refine Spec.of_go (L := fun | 0 => some [0, 1, 2, 6] | 1 => some [0, 1, 2, 6, 12] | 2 => some [6, 7] | 3 => some [1, 6, 8] | 4 => some [6, 8, 18, 19, 20] | 5 => some [6, 8, 18, 19, 20, 21] | 6 => some [6, 8, 10, 18, 19, 20] | 7 => some [6, 8, 18, 19, 20] | 8 => some [6, 8, 18, 19, 20] | 9 => some [6, 7] | _ => none) 1000 Go.Proofs.Tryz.func47 rfl rfl ⟨Nat.le_of_ble_eq_true rfl, rfl⟩ rfl ?_; unfold Go.Proofs.Tryz.f47; push_cast (maxSteps := mS))
 by_cases c1 : e = 0
 ·subst c1
  simp only [tabT]
  (try push_cast (maxSteps := mS))
  refine ⟨_, h83, rfl, ?_⟩
  (try push_cast (maxSteps := mS))
  refine LoopK.le (Le.nilB 1 1 28 1 (by decide) rfl rfl) ?_
  (try push_cast (maxSteps := mS))
  refine LoopK.ov (α := Nat) [20] (fun k => [i2 .i64 k]) (fun k => [.bx 25 [.d (.v (.slice none 0 0)), .d (.v (.slice none 0 0))], .bx 25 [.d (.sl 3 (l.map eC)), .os 2], .rw 28 1 ((rows.take k).map eR)]) (fun k => k ≤ rows.length) (fun k => rows.length - k) 1000 0 (by omega) (by (try push_cast (maxSteps := mS)) <;> first | rfl | exact ⟨rfl, rfl⟩ | exact ⟨rfl, rfl, rfl⟩ | trivial) ?_
  rintro k hk1
  by_cases hlt : k < rows.length
  ·have hv := List.getElem?_eq_getElem hlt; have hd : decide ((k : Int) < (rows.length : Int)) = true := decide_eq_true (by omega)
   have htk : rows.take (k + 1) = rows.take k ++ [rows[k]] := by rw [List.take_add_one, hv]; rfl
   have hlk : (rows.take k).length = k := by rw [List.length_take]; omega
   have h58 := f58 rows[k] (hrr _ (List.getElem_mem hlt))
   generalize rows[k] = r at *
   (try push_cast (maxSteps := mS) [hd, getD_map hv])
   ((repeat' with_reducible refine And.intro ?_ ?_) <;> try first | trivial | omega | exact ix | exact iu | exact im | exact .inl trivial | exact .inl rfl)
   (refine DrawK.of (.take 0 (.take 1 (.take 2 (.one 3 (.one 4 (.one 5 (.one 6 (.one 7 .done)))))))) 1000 (by decide +kernel) ?_; try (push_cast (maxSteps := mS)))
   ((repeat' with_reducible refine And.intro ?_ ?_) <;> try first | trivial | omega | exact ix | exact iu | exact im | exact .inl trivial | exact .inl rfl)
   all_goals (refine ⟨_, h58, rfl, ?_⟩)
   all_goals (try push_cast (maxSteps := mS) [List.length_map, hlk])
   all_goals ((repeat' with_reducible refine And.intro ?_ ?_) <;> try first | trivial | omega | exact ix | exact iu | exact im | exact .inl trivial | exact .inl rfl)
   all_goals (try (simp only [maxLen]; omega))
   all_goals (refine ⟨k + 1, by omega, by omega, Le.st ?_⟩)
   all_goals rw [htk]
   all_goals (try push_cast (maxSteps := mS))
   all_goals (first | rfl | exact ⟨rfl, rfl⟩ | (simp; done) | (simp; rfl) | trace_state)
  ·have hd : decide ((k : Int) < (rows.length : Int)) = false := decide_eq_false (by omega)
   rw [show rows.take k = rows from List.take_of_length_le (by omega)]
   (try push_cast (maxSteps := mS) [hd])
 ·have e1 : tabT l rows e = (tb0, e) := by unfold tabT; rw [if_pos c1]
  rw [e1]
  (try push_cast (maxSteps := mS) [c1, tb0])
end Go.LS.Tryz
