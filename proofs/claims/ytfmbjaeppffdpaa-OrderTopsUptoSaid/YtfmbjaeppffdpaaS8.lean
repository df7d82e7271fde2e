/- Contracts of the functions of the seat, one by one (part S8); no condition but those that each bears. -/
import Derived.Test.YtfmbjaeppffdpaaS7
import Derived.Test.YtfmbjaeppffdpaaPd
namespace Go.LS.Try
open Go Go.LS
set_option maxRecDepth 100000
set_option linter.unusedSimpArgs false
set_option linter.unusedVariables false

theorem f20 (n : Nd) (l : List Cl) (row : List Vl) (hn : okNd n) (hl : okCl l) : Spec V 20 [.ag ((eN n).map .d), .c (.d (.sl 3 (l.map eC))), .c (.d (.sl 4 (row.map eV)))] (.tu [b2 (hold2 n l row).1, i2 .i64 (hold2 n l row).2]) := by
  (refine Spec.of_go (L := fun | 0 => some [1, 2, 3] | 1 => some [1, 2, 3, 8] | 2 => some [1, 2, 3, 8, 13] | 3 => some [6, 7] | 4 => some [1, 2, 3, 19] | 5 => some [6, 7] | 6 => some [6, 7] | _ => none) 1000 Go.Proofs.Try.func20 rfl rfl ⟨Nat.le_of_ble_eq_true rfl, rfl⟩ rfl ?_; unfold Go.Proofs.Try.f20; simp (config := { maxSteps := 1000000 }) only [push_cast, Nat.reduceBEq, Nat.reduceBNe, Nat.reduceAdd, Nat.reduceSub, Nat.reduceMul, Nat.reduceLT, Nat.reduceLeDiff, Nat.reduceEqDiff, Nat.blt_eq, Int.reduceLT, Int.reduceLE, Int.reduceEq, Int.reduceToNat, Int.reduceNeg, Int.reduceAdd, Int.reduceSub, Int.reduceMul, Int.reducePow, reduceIte, decide_true, decide_false, reduceCtorEq])
  (have hS := f15 n l hn hl; simp only [eS_eq, eN_eq, eV_eq, eRN_eq, eRV_eq, eC_eq, eRC_eq, List.map_cons, List.map_nil, i2, b2, s2] at hS; refine ⟨_, hS, rfl, ?_⟩; clear hS; try (simp (config := { maxSteps := 1000000 }) only [push_cast, Nat.reduceBEq, Nat.reduceBNe, Nat.reduceAdd, Nat.reduceSub, Nat.reduceMul, Nat.reduceLT, Nat.reduceLeDiff, Nat.reduceEqDiff, Nat.blt_eq, Int.reduceLT, Int.reduceLE, Int.reduceEq, Int.reduceToNat, Int.reduceNeg, Int.reduceAdd, Int.reduceSub, Int.reduceMul, Int.reducePow, reduceIte, decide_true, decide_false, reduceCtorEq]))
  refine BrP.mk (fun h => ?_) (fun h => ?_) <;> try (simp (config := { maxSteps := 1000000 }) only [push_cast, Nat.reduceBEq, Nat.reduceBNe, Nat.reduceAdd, Nat.reduceSub, Nat.reduceMul, Nat.reduceLT, Nat.reduceLeDiff, Nat.reduceEqDiff, Nat.blt_eq, Int.reduceLT, Int.reduceLE, Int.reduceEq, Int.reduceToNat, Int.reduceNeg, Int.reduceAdd, Int.reduceSub, Int.reduceMul, Int.reducePow, reduceIte, decide_true, decide_false, reduceCtorEq, h])
  · simp at h
    simp [hold2, h]
  · simp at h
    refine BrP.mk (fun h => ?_) (fun h => ?_) <;> try (simp (config := { maxSteps := 1000000 }) only [push_cast, Nat.reduceBEq, Nat.reduceBNe, Nat.reduceAdd, Nat.reduceSub, Nat.reduceMul, Nat.reduceLT, Nat.reduceLeDiff, Nat.reduceEqDiff, Nat.blt_eq, Int.reduceLT, Int.reduceLE, Int.reduceEq, Int.reduceToNat, Int.reduceNeg, Int.reduceAdd, Int.reduceSub, Int.reduceMul, Int.reducePow, reduceIte, decide_true, decide_false, reduceCtorEq, h])
    · have h' : ¬ row.length = l.length := by simp at h; omega
      simp [hold2, *]
    · simp at h
      have hg : everyF n l = 0 := check_every (by assumption)
      have h' : row.length = l.length := by omega
      (have hS := f53 l row hl h' _ n (Nat.le_refl _) hn hg; simp only [eS_eq, eN_eq, eV_eq, eRN_eq, eRV_eq, eC_eq, eRC_eq, List.map_cons, List.map_nil, i2, b2, s2] at hS; refine ⟨_, hS, rfl, ?_⟩; clear hS; try (simp (config := { maxSteps := 1000000 }) only [push_cast, Nat.reduceBEq, Nat.reduceBNe, Nat.reduceAdd, Nat.reduceSub, Nat.reduceMul, Nat.reduceLT, Nat.reduceLeDiff, Nat.reduceEqDiff, Nat.blt_eq, Int.reduceLT, Int.reduceLE, Int.reduceEq, Int.reduceToNat, Int.reduceNeg, Int.reduceAdd, Int.reduceSub, Int.reduceMul, Int.reducePow, reduceIte, decide_true, decide_false, reduceCtorEq]))
      simp [hold2, *]

theorem f50 (l : List Cl) (hl : okCl l) : Spec V 50 [.c (.d (.sl 3 (l.map eRC)))] (.tu [i2 .i64 ((checkC l).1 : Int), i2 .i64 (checkC l).2]) := by
  obtain ⟨hl1, hl2⟩ := hl
  (refine Spec.of_go (L := fun | 0 => some [0] | 1 => some [0, 8] | 2 => some [2, 3] | 3 => some [0, 9, 10, 11] | 4 => some [0, 9, 10, 11, 12] | 5 => some [0, 4, 5, 9, 10, 11] | 6 => some [0, 4, 5, 9, 10, 11, 23] | 7 => some [2, 3] | 8 => some [0, 4, 5, 9, 10, 11, 31] | 9 => some [2, 3] | 10 => some [0, 4, 9, 10, 11, 40] | 11 => some [2, 3] | 12 => some [0, 9, 10, 11] | 13 => some [2, 3] | _ => none) 1000 Go.Proofs.Try.func50 rfl rfl ⟨Nat.le_of_ble_eq_true rfl, rfl⟩ rfl ?_; unfold Go.Proofs.Try.f50; simp (config := { maxSteps := 1000000 }) only [push_cast, Nat.reduceBEq, Nat.reduceBNe, Nat.reduceAdd, Nat.reduceSub, Nat.reduceMul, Nat.reduceLT, Nat.reduceLeDiff, Nat.reduceEqDiff, Nat.blt_eq, Int.reduceLT, Int.reduceLE, Int.reduceEq, Int.reduceToNat, Int.reduceNeg, Int.reduceAdd, Int.reduceSub, Int.reduceMul, Int.reducePow, reduceIte, decide_true, decide_false, reduceCtorEq])
  refine BrP.mk (fun h => ?_) (fun h => ?_) <;> try (simp (config := { maxSteps := 1000000 }) only [push_cast, Nat.reduceBEq, Nat.reduceBNe, Nat.reduceAdd, Nat.reduceSub, Nat.reduceMul, Nat.reduceLT, Nat.reduceLeDiff, Nat.reduceEqDiff, Nat.blt_eq, Int.reduceLT, Int.reduceLE, Int.reduceEq, Int.reduceToNat, Int.reduceNeg, Int.reduceAdd, Int.reduceSub, Int.reduceMul, Int.reducePow, reduceIte, decide_true, decide_false, reduceCtorEq, h])
  · have h' : l.length = 0 := by simp at h; simp [h]
    simp [checkC, h']
  · have h' : ¬ l.length = 0 := by simp at h; simpa using h
    simp only [checkC, if_neg h']
    refine LoopK.s1 (α := Nat) [11] (fun k => [i2 .i64 k]) (fun k => k ≤ l.length ∧ chkF ((l.take k).map (·.name)) (l.drop k) k = chkF [] l 0) (fun k => l.length - k) 1000 0 ⟨by omega, rfl⟩ (by (try (simp (config := { maxSteps := 1000000 }) only [push_cast, Nat.reduceBEq, Nat.reduceBNe, Nat.reduceAdd, Nat.reduceSub, Nat.reduceMul, Nat.reduceLT, Nat.reduceLeDiff, Nat.reduceEqDiff, Nat.blt_eq, Int.reduceLT, Int.reduceLE, Int.reduceEq, Int.reduceToNat, Int.reduceNeg, Int.reduceAdd, Int.reduceSub, Int.reduceMul, Int.reducePow, reduceIte, decide_true, decide_false, reduceCtorEq]))) ?_
    rintro k ⟨hk, hc⟩
    by_cases hlt : k < l.length
    · have hv := List.getElem?_eq_getElem hlt; have hd : decide ((k : Int) < (l.length : Int)) = true := decide_eq_true (by omega)
      rw [drop_cons hv] at hc
      simp only [chkF] at hc
      have hkind := word_kind l[k].kind
      (try (simp (config := { maxSteps := 1000000 }) only [push_cast, Nat.reduceBEq, Nat.reduceBNe, Nat.reduceAdd, Nat.reduceSub, Nat.reduceMul, Nat.reduceLT, Nat.reduceLeDiff, Nat.reduceEqDiff, Nat.blt_eq, Int.reduceLT, Int.reduceLE, Int.reduceEq, Int.reduceToNat, Int.reduceNeg, Int.reduceAdd, Int.reduceSub, Int.reduceMul, Int.reducePow, reduceIte, decide_true, decide_false, reduceCtorEq, hd, getD_map hv]))
      (repeat ((with_reducible refine And.intro ?_ ?_); focus (first | trivial | omega | exact inK64 (by omega) (by omega) | exact inKu8 (by omega) (by omega))))
      refine BrP.mk (fun h => ?_) (fun h => ?_) <;> try (simp (config := { maxSteps := 1000000 }) only [push_cast, Nat.reduceBEq, Nat.reduceBNe, Nat.reduceAdd, Nat.reduceSub, Nat.reduceMul, Nat.reduceLT, Nat.reduceLeDiff, Nat.reduceEqDiff, Nat.blt_eq, Int.reduceLT, Int.reduceLE, Int.reduceEq, Int.reduceToNat, Int.reduceNeg, Int.reduceAdd, Int.reduceSub, Int.reduceMul, Int.reducePow, reduceIte, decide_true, decide_false, reduceCtorEq, h])
      · have h' : l[k].kind < 1 := by simpa using h
        rw [if_pos (hkind.2 (.inl h'))] at hc
        simp [← hc]
      · have h1' : ¬ l[k].kind < 1 := by simpa using h
        refine BrP.mk (fun h => ?_) (fun h => ?_) <;> try (simp (config := { maxSteps := 1000000 }) only [push_cast, Nat.reduceBEq, Nat.reduceBNe, Nat.reduceAdd, Nat.reduceSub, Nat.reduceMul, Nat.reduceLT, Nat.reduceLeDiff, Nat.reduceEqDiff, Nat.blt_eq, Int.reduceLT, Int.reduceLE, Int.reduceEq, Int.reduceToNat, Int.reduceNeg, Int.reduceAdd, Int.reduceSub, Int.reduceMul, Int.reducePow, reduceIte, decide_true, decide_false, reduceCtorEq, h])
        · have h' : 3 < l[k].kind := by simpa using h
          rw [if_pos (hkind.2 (.inr h'))] at hc
          simp [← hc]
        · have h2' : ¬ 3 < l[k].kind := by simpa using h
          rw [if_neg (by rw [hkind]; omega)] at hc
          (refine DrawK.of (.take 0 (.take 1 (.take 3 (.take 4 (.take 5 (.one 2 (.take 6 .done))))))) 1000 (by decide +kernel) ?_; try (simp (config := { maxSteps := 1000000 }) only [push_cast, Nat.reduceBEq, Nat.reduceBNe, Nat.reduceAdd, Nat.reduceSub, Nat.reduceMul, Nat.reduceLT, Nat.reduceLeDiff, Nat.reduceEqDiff, Nat.blt_eq, Int.reduceLT, Int.reduceLE, Int.reduceEq, Int.reduceToNat, Int.reduceNeg, Int.reduceAdd, Int.reduceSub, Int.reduceMul, Int.reducePow, reduceIte, decide_true, decide_false, reduceCtorEq]))
          refine ⟨_, f54 l[k].name (hl2 _ (List.getElem_mem hlt)), rfl, ?_⟩
          (try (simp (config := { maxSteps := 1000000 }) only [push_cast, Nat.reduceBEq, Nat.reduceBNe, Nat.reduceAdd, Nat.reduceSub, Nat.reduceMul, Nat.reduceLT, Nat.reduceLeDiff, Nat.reduceEqDiff, Nat.blt_eq, Int.reduceLT, Int.reduceLE, Int.reduceEq, Int.reduceToNat, Int.reduceNeg, Int.reduceAdd, Int.reduceSub, Int.reduceMul, Int.reducePow, reduceIte, decide_true, decide_false, reduceCtorEq]))
          have hw := valid_whole l[k].name
          have hwl := whole_le l[k].name
          refine BrP.mk (fun h => ?_) (fun h => ?_) <;> try (simp (config := { maxSteps := 1000000 }) only [push_cast, Nat.reduceBEq, Nat.reduceBNe, Nat.reduceAdd, Nat.reduceSub, Nat.reduceMul, Nat.reduceLT, Nat.reduceLeDiff, Nat.reduceEqDiff, Nat.blt_eq, Int.reduceLT, Int.reduceLE, Int.reduceEq, Int.reduceToNat, Int.reduceNeg, Int.reduceAdd, Int.reduceSub, Int.reduceMul, Int.reducePow, reduceIte, decide_true, decide_false, reduceCtorEq, h])
          · have h' : validB l[k].name = false := by rw [hw]; simp at h ⊢; omega
            rw [if_pos h'] at hc
            simp [← hc]
          · have h' : ¬ validB l[k].name = false := by rw [hw]; simp at h ⊢; omega
            rw [if_neg h'] at hc
            (refine DrawK.of (.take 0 (.take 1 (.take 2 (.take 4 (.take 5 (.one 3 (.one 6 (.take 7 .done)))))))) 1000 (by decide +kernel) ?_; try (simp (config := { maxSteps := 1000000 }) only [push_cast, Nat.reduceBEq, Nat.reduceBNe, Nat.reduceAdd, Nat.reduceSub, Nat.reduceMul, Nat.reduceLT, Nat.reduceLeDiff, Nat.reduceEqDiff, Nat.blt_eq, Int.reduceLT, Int.reduceLE, Int.reduceEq, Int.reduceToNat, Int.reduceNeg, Int.reduceAdd, Int.reduceSub, Int.reduceMul, Int.reducePow, reduceIte, decide_true, decide_false, reduceCtorEq]))
            (repeat ((with_reducible refine And.intro ?_ ?_); focus (first | trivial | omega | exact inK64 (by omega) (by omega) | exact inKu8 (by omega) (by omega))))
            have e1 : ((l.map eRC).take k).drop 0 = (l.take k).map eRC := by rw [List.drop_zero, List.map_take]
            have hS := f56 (l.take k) (by simp only [okLen, List.length_take]; omega)
            have e2 : ((l.take k).map fun c => eS c.name) = ((l.take k).map (·.name)).map eS := by rw [List.map_map]; rfl
            rw [e2, show (l.take k).map eRC = (l.map eRC).take k from List.map_take] at hS
            refine ⟨_, hS, rfl, ?_⟩
            (try (simp (config := { maxSteps := 1000000 }) only [push_cast, Nat.reduceBEq, Nat.reduceBNe, Nat.reduceAdd, Nat.reduceSub, Nat.reduceMul, Nat.reduceLT, Nat.reduceLeDiff, Nat.reduceEqDiff, Nat.blt_eq, Int.reduceLT, Int.reduceLE, Int.reduceEq, Int.reduceToNat, Int.reduceNeg, Int.reduceAdd, Int.reduceSub, Int.reduceMul, Int.reducePow, reduceIte, decide_true, decide_false, reduceCtorEq]))
            refine ⟨_, f55 ((l.take k).map (·.name)) l[k].name (by simp only [okLen, List.length_map, List.length_take]; omega), rfl, ?_⟩
            (try (simp (config := { maxSteps := 1000000 }) only [push_cast, Nat.reduceBEq, Nat.reduceBNe, Nat.reduceAdd, Nat.reduceSub, Nat.reduceMul, Nat.reduceLT, Nat.reduceLeDiff, Nat.reduceEqDiff, Nat.blt_eq, Int.reduceLT, Int.reduceLE, Int.reduceEq, Int.reduceToNat, Int.reduceNeg, Int.reduceAdd, Int.reduceSub, Int.reduceMul, Int.reducePow, reduceIte, decide_true, decide_false, reduceCtorEq]))
            have hm := atF_memB l[k].name ((l.take k).map (·.name))
            simp only [hm]
            refine BrP.mk (fun h => ?_) (fun h => ?_) <;> try (simp (config := { maxSteps := 1000000 }) only [push_cast, Nat.reduceBEq, Nat.reduceBNe, Nat.reduceAdd, Nat.reduceSub, Nat.reduceMul, Nat.reduceLT, Nat.reduceLeDiff, Nat.reduceEqDiff, Nat.blt_eq, Int.reduceLT, Int.reduceLE, Int.reduceEq, Int.reduceToNat, Int.reduceNeg, Int.reduceAdd, Int.reduceSub, Int.reduceMul, Int.reducePow, reduceIte, decide_true, decide_false, reduceCtorEq, h])
            · rw [if_pos h] at hc
              simp [← hc]
            · rw [if_neg (by rw [h]; decide)] at hc
              (repeat ((with_reducible refine And.intro ?_ ?_); focus (first | trivial | omega | exact inK64 (by omega) (by omega) | exact inKu8 (by omega) (by omega))))
              refine ⟨k + 1, ⟨by omega, ?_⟩, by omega, Le.st ?_⟩
              · rw [mapTake hv]; exact hc
              · (try (simp (config := { maxSteps := 1000000 }) only [push_cast, Nat.reduceBEq, Nat.reduceBNe, Nat.reduceAdd, Nat.reduceSub, Nat.reduceMul, Nat.reduceLT, Nat.reduceLeDiff, Nat.reduceEqDiff, Nat.blt_eq, Int.reduceLT, Int.reduceLE, Int.reduceEq, Int.reduceToNat, Int.reduceNeg, Int.reduceAdd, Int.reduceSub, Int.reduceMul, Int.reducePow, reduceIte, decide_true, decide_false, reduceCtorEq]))
    · have hd : decide ((k : Int) < (l.length : Int)) = false := decide_eq_false (by omega)
      rw [List.drop_eq_nil_of_le (by omega)] at hc
      simp only [chkF] at hc
      have : k = l.length := by omega
      subst this
      (try (simp (config := { maxSteps := 1000000 }) only [push_cast, Nat.reduceBEq, Nat.reduceBNe, Nat.reduceAdd, Nat.reduceSub, Nat.reduceMul, Nat.reduceLT, Nat.reduceLeDiff, Nat.reduceEqDiff, Nat.blt_eq, Int.reduceLT, Int.reduceLE, Int.reduceEq, Int.reduceToNat, Int.reduceNeg, Int.reduceAdd, Int.reduceSub, Int.reduceMul, Int.reducePow, reduceIte, decide_true, decide_false, reduceCtorEq, hd]))
      rw [← hc]
      simp

theorem f21 (v : Vl) (hv : okVl v) : Spec V 21 [.ag ((eRV v).map .d)] (b2 (rightF v)) := by
  (refine Spec.of_go (L := fun | 0 => some [1] | 1 => some [1, 40] | 2 => some [2] | 3 => some [2] | _ => none) 1000 Go.Proofs.Try.func21 rfl rfl ⟨Nat.le_of_ble_eq_true rfl, rfl⟩ rfl ?_; unfold Go.Proofs.Try.f21; simp (config := { maxSteps := 1000000 }) only [push_cast, Nat.reduceBEq, Nat.reduceBNe, Nat.reduceAdd, Nat.reduceSub, Nat.reduceMul, Nat.reduceLT, Nat.reduceLeDiff, Nat.reduceEqDiff, Nat.blt_eq, Int.reduceLT, Int.reduceLE, Int.reduceEq, Int.reduceToNat, Int.reduceNeg, Int.reduceAdd, Int.reduceSub, Int.reduceMul, Int.reducePow, reduceIte, decide_true, decide_false, reduceCtorEq])
  (repeat' (first | (simp (config := { maxSteps := 1000000 }) only [push_cast, Nat.reduceBEq, Nat.reduceBNe, Nat.reduceAdd, Nat.reduceSub, Nat.reduceMul, Nat.reduceLT, Nat.reduceLeDiff, Nat.reduceEqDiff, Nat.blt_eq, Int.reduceLT, Int.reduceLE, Int.reduceEq, Int.reduceToNat, Int.reduceNeg, Int.reduceAdd, Int.reduceSub, Int.reduceMul, Int.reducePow, reduceIte, decide_true, decide_false, reduceCtorEq]) | (refine BrP.mk (fun h => ?_) (fun h => ?_) <;> (try simp only [h]))))
  all_goals try ((refine DrawK.of (.take 0 (.take 1 (.take 3 (.take 4 (.take 5 (.one 2 (.take 6 (.take 7 .done)))))))) 1000 (by decide +kernel) ?_; try (simp (config := { maxSteps := 1000000 }) only [push_cast, Nat.reduceBEq, Nat.reduceBNe, Nat.reduceAdd, Nat.reduceSub, Nat.reduceMul, Nat.reduceLT, Nat.reduceLeDiff, Nat.reduceEqDiff, Nat.blt_eq, Int.reduceLT, Int.reduceLE, Int.reduceEq, Int.reduceToNat, Int.reduceNeg, Int.reduceAdd, Int.reduceSub, Int.reduceMul, Int.reducePow, reduceIte, decide_true, decide_false, reduceCtorEq])); refine ⟨_, f54 v.s hv, rfl, ?_⟩; (try (simp (config := { maxSteps := 1000000 }) only [push_cast, Nat.reduceBEq, Nat.reduceBNe, Nat.reduceAdd, Nat.reduceSub, Nat.reduceMul, Nat.reduceLT, Nat.reduceLeDiff, Nat.reduceEqDiff, Nat.blt_eq, Int.reduceLT, Int.reduceLE, Int.reduceEq, Int.reduceToNat, Int.reduceNeg, Int.reduceAdd, Int.reduceSub, Int.reduceMul, Int.reducePow, reduceIte, decide_true, decide_false, reduceCtorEq])))
  all_goals (try simp only [whole_dec, bi_zero] at *)
  all_goals (try simp only [Bool.not_eq_true', Bool.not_eq_false', Bool.not_eq_eq_eq_not, Bool.not_true, Bool.not_false, Bool.not_not, decide_eq_true_eq, decide_eq_false_iff_not] at *)
  all_goals (rcases (show v.k < 0 ∨ 3 < v.k ∨ v.k = 0 ∨ v.k = 1 ∨ v.k = 2 ∨ v.k = 3 by omega) with hk | hk | hk | hk | hk | hk)
  all_goals (try (exfalso; omega))
  all_goals (have k0 : v.k = 0 ∨ v.k ≠ 0 := by omega)
  all_goals (have k1 : v.k = 1 ∨ v.k ≠ 1 := by omega)
  all_goals (have k2 : v.k = 2 ∨ v.k ≠ 2 := by omega)
  all_goals (have k3 : v.k = 3 ∨ v.k ≠ 3 := by omega)
  all_goals (simp_all [rightF, valid_empty])
  all_goals (rw [if_neg (by omega), if_neg (by omega), if_neg (by omega)]; intro; omega)
end Go.LS.Try
