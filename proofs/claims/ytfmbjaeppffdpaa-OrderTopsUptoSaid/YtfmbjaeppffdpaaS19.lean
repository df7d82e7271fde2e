/- Contracts of the functions of the seat, one by one (part S19); no condition but those that each bears. -/
import Derived.Test.YtfmbjaeppffdpaaS18
namespace Go.LS.Try
open Go Go.LS
set_option maxRecDepth 100000
set_option linter.unusedSimpArgs false
set_option linter.unusedVariables false

theorem f63 (ks : List Ky) (l : List Cl) (lists : List (List (List Vl))) (hk : okLen ks) (hl : okCl l) (hls : okLen lists) (hrs : ∀ r ∈ lists, okLen r) :
    Spec V 63 [.c (.d (.sl 2 (ks.map eK))), .c (.d (.sl 3 (l.map eC))), .c (.d (.sl 1 (lists.map eRs)))] (.tu [.c (.d (.sl 2 ((placesR ks l lists).1.map eP))), i2 .i64 (placesR ks l lists).2]) := by
  (refine Spec.of_go (L := fun | 0 => some [0, 1, 2] | 1 => some [0, 1, 2, 9] | 2 => some [0, 1, 2, 9, 27] | 3 => some [6, 7] | 4 => some [0, 1, 29, 30, 31] | 5 => some [0, 1, 29, 30, 31, 32] | 6 => some [0, 1, 11, 29, 30, 31] | 7 => some [0, 1, 29, 30, 31, 35, 36, 37] | 8 => some [0, 1, 29, 30, 31, 35, 36, 37, 38] | 9 => some [0, 1, 13, 29, 30, 31, 35, 36, 37] | 10 => some [0, 1, 29, 30, 31, 35, 36, 37, 45] | 11 => some [6, 7] | 12 => some [0, 1, 29, 30, 31, 35, 36, 37] | 13 => some [0, 1, 29, 30, 31] | 14 => some [0, 1, 14] | 15 => some [1, 14, 48, 49, 50] | 16 => some [1, 14, 48, 49, 50, 51] | 17 => some [1, 14, 16, 48, 49, 50] | 18 => some [1, 14, 16, 18, 48, 49, 50] | 19 => some [1, 14, 48, 49, 50] | 20 => some [1, 14, 48, 49, 50] | 21 => some [6, 7] | _ => none) 1000 Go.Proofs.Try.func63 rfl rfl ⟨Nat.le_of_ble_eq_true rfl, rfl⟩ rfl ?_; unfold Go.Proofs.Try.f63; simp (config := { maxSteps := 1000000 }) only [push_cast, Nat.reduceBEq, Nat.reduceBNe, Nat.reduceAdd, Nat.reduceSub, Nat.reduceMul, Nat.reduceLT, Nat.reduceLeDiff, Nat.reduceEqDiff, Nat.blt_eq, Int.reduceLT, Int.reduceLE, Int.reduceEq, Int.reduceToNat, Int.reduceNeg, Int.reduceAdd, Int.reduceSub, Int.reduceMul, Int.reducePow, reduceIte, decide_true, decide_false, reduceCtorEq])
  refine ⟨_, f32 ks l hk hl, rfl, ?_⟩
  (try (simp (config := { maxSteps := 1000000 }) only [push_cast, Nat.reduceBEq, Nat.reduceBNe, Nat.reduceAdd, Nat.reduceSub, Nat.reduceMul, Nat.reduceLT, Nat.reduceLeDiff, Nat.reduceEqDiff, Nat.blt_eq, Int.reduceLT, Int.reduceLE, Int.reduceEq, Int.reduceToNat, Int.reduceNeg, Int.reduceAdd, Int.reduceSub, Int.reduceMul, Int.reducePow, reduceIte, decide_true, decide_false, reduceCtorEq]))
  refine BrP.mk (fun h => ?_) (fun h => ?_) <;> try (simp (config := { maxSteps := 1000000 }) only [push_cast, Nat.reduceBEq, Nat.reduceBNe, Nat.reduceAdd, Nat.reduceSub, Nat.reduceMul, Nat.reduceLT, Nat.reduceLeDiff, Nat.reduceEqDiff, Nat.blt_eq, Int.reduceLT, Int.reduceLE, Int.reduceEq, Int.reduceToNat, Int.reduceNeg, Int.reduceAdd, Int.reduceSub, Int.reduceMul, Int.reducePow, reduceIte, decide_true, decide_false, reduceCtorEq, h])
  · have h' : ¬ (ordC ks l).2 = 0 := by simpa using h
    simp [placesR, h']
  · have h' : (ordC ks l).2 = 0 := by simpa using h
    have hkl : ks.length ≤ 1099511627776 := hk
    refine LoopK.s1 (α := Nat) [31] (fun k => [i2 .i64 k]) (fun k => k ≤ lists.length ∧ (lists.drop k).all (wideF l) = lists.all (wideF l)) (fun k => lists.length - k) 1000 0 ⟨by omega, rfl⟩ (by (try (simp (config := { maxSteps := 1000000 }) only [push_cast, Nat.reduceBEq, Nat.reduceBNe, Nat.reduceAdd, Nat.reduceSub, Nat.reduceMul, Nat.reduceLT, Nat.reduceLeDiff, Nat.reduceEqDiff, Nat.blt_eq, Int.reduceLT, Int.reduceLE, Int.reduceEq, Int.reduceToNat, Int.reduceNeg, Int.reduceAdd, Int.reduceSub, Int.reduceMul, Int.reducePow, reduceIte, decide_true, decide_false, reduceCtorEq]))) ?_
    rintro k ⟨hk', hc⟩
    by_cases hlt : k < lists.length
    · have hv := List.getElem?_eq_getElem hlt; have hd : decide ((k : Int) < (lists.length : Int)) = true := decide_eq_true (by omega)
      rw [drop_cons hv] at hc
      simp only [List.all_cons] at hc
      have hrk := hrs _ (List.getElem_mem hlt)
      have hF : wideF l lists[k] = false → placesR ks l lists = ([], 10) := fun h0 => by
        rw [h0, Bool.false_and] at hc
        simp only [placesR, h', ← hc]
        simp
      have hT : wideF l lists[k] = true → (lists.drop (k + 1)).all (wideF l) = lists.all (wideF l) := fun h0 => by
        rw [h0, Bool.true_and] at hc
        exact hc
      clear hc
      generalize lists[k] = rows at *
      (try (simp (config := { maxSteps := 1000000 }) only [push_cast, Nat.reduceBEq, Nat.reduceBNe, Nat.reduceAdd, Nat.reduceSub, Nat.reduceMul, Nat.reduceLT, Nat.reduceLeDiff, Nat.reduceEqDiff, Nat.blt_eq, Int.reduceLT, Int.reduceLE, Int.reduceEq, Int.reduceToNat, Int.reduceNeg, Int.reduceAdd, Int.reduceSub, Int.reduceMul, Int.reducePow, reduceIte, decide_true, decide_false, reduceCtorEq, hd, getD_map hv]))
      ((repeat' (with_reducible refine And.intro ?_ ?_)) <;> try (first | trivial | omega | exact inK64 (by omega) (by omega) | exact inKu8 (by omega) (by omega) | (simp only [maxLen]; omega) | exact .inl trivial | exact .inl rfl))
      refine LoopK.s1 (α := Nat) [37] (fun j => [i2 .i64 j]) (fun j => j ≤ rows.length ∧ (rows.drop j).all (fun r => decide (r.length = l.length)) = wideF l rows) (fun j => rows.length - j) 1000 0 ⟨by omega, rfl⟩ (by (try (simp (config := { maxSteps := 1000000 }) only [push_cast, Nat.reduceBEq, Nat.reduceBNe, Nat.reduceAdd, Nat.reduceSub, Nat.reduceMul, Nat.reduceLT, Nat.reduceLeDiff, Nat.reduceEqDiff, Nat.blt_eq, Int.reduceLT, Int.reduceLE, Int.reduceEq, Int.reduceToNat, Int.reduceNeg, Int.reduceAdd, Int.reduceSub, Int.reduceMul, Int.reducePow, reduceIte, decide_true, decide_false, reduceCtorEq]))) ?_
      rintro j ⟨hj, hc2⟩
      by_cases hlt2 : j < rows.length
      · have hv2 := List.getElem?_eq_getElem hlt2
        have hd2 : decide ((j : Int) < (rows.length : Int)) = true := decide_eq_true (by omega)
        rw [drop_cons hv2] at hc2
        simp only [List.all_cons] at hc2
        (try (simp (config := { maxSteps := 1000000 }) only [push_cast, Nat.reduceBEq, Nat.reduceBNe, Nat.reduceAdd, Nat.reduceSub, Nat.reduceMul, Nat.reduceLT, Nat.reduceLeDiff, Nat.reduceEqDiff, Nat.blt_eq, Int.reduceLT, Int.reduceLE, Int.reduceEq, Int.reduceToNat, Int.reduceNeg, Int.reduceAdd, Int.reduceSub, Int.reduceMul, Int.reducePow, reduceIte, decide_true, decide_false, reduceCtorEq, hd2, getD_map hv2]))
        ((repeat' (with_reducible refine And.intro ?_ ?_)) <;> try (first | trivial | omega | exact inK64 (by omega) (by omega) | exact inKu8 (by omega) (by omega) | (simp only [maxLen]; omega) | exact .inl trivial | exact .inl rfl))
        refine BrP.mk (fun h => ?_) (fun h => ?_) <;> try (simp (config := { maxSteps := 1000000 }) only [push_cast, Nat.reduceBEq, Nat.reduceBNe, Nat.reduceAdd, Nat.reduceSub, Nat.reduceMul, Nat.reduceLT, Nat.reduceLeDiff, Nat.reduceEqDiff, Nat.blt_eq, Int.reduceLT, Int.reduceLE, Int.reduceEq, Int.reduceToNat, Int.reduceNeg, Int.reduceAdd, Int.reduceSub, Int.reduceMul, Int.reducePow, reduceIte, decide_true, decide_false, reduceCtorEq, h])
        · have hw : ¬ rows[j].length = l.length := by simp at h; omega
          rw [decide_eq_false hw, Bool.false_and] at hc2
          rw [hF hc2.symm]
          simp
        · have hw : rows[j].length = l.length := by simp at h; omega
          rw [decide_eq_true hw, Bool.true_and] at hc2
          ((repeat' (with_reducible refine And.intro ?_ ?_)) <;> try (first | trivial | omega | exact inK64 (by omega) (by omega) | exact inKu8 (by omega) (by omega) | (simp only [maxLen]; omega) | exact .inl trivial | exact .inl rfl))
          refine ⟨j + 1, ⟨by omega, hc2⟩, by omega, Le.st ?_⟩
          (try (simp (config := { maxSteps := 1000000 }) only [push_cast, Nat.reduceBEq, Nat.reduceBNe, Nat.reduceAdd, Nat.reduceSub, Nat.reduceMul, Nat.reduceLT, Nat.reduceLeDiff, Nat.reduceEqDiff, Nat.blt_eq, Int.reduceLT, Int.reduceLE, Int.reduceEq, Int.reduceToNat, Int.reduceNeg, Int.reduceAdd, Int.reduceSub, Int.reduceMul, Int.reducePow, reduceIte, decide_true, decide_false, reduceCtorEq]))
      · have hd2 : decide ((j : Int) < (rows.length : Int)) = false := decide_eq_false (by omega)
        rw [List.drop_eq_nil_of_le (by omega)] at hc2
        (try (simp (config := { maxSteps := 1000000 }) only [push_cast, Nat.reduceBEq, Nat.reduceBNe, Nat.reduceAdd, Nat.reduceSub, Nat.reduceMul, Nat.reduceLT, Nat.reduceLeDiff, Nat.reduceEqDiff, Nat.blt_eq, Int.reduceLT, Int.reduceLE, Int.reduceEq, Int.reduceToNat, Int.reduceNeg, Int.reduceAdd, Int.reduceSub, Int.reduceMul, Int.reducePow, reduceIte, decide_true, decide_false, reduceCtorEq, hd2]))
        ((repeat' (with_reducible refine And.intro ?_ ?_)) <;> try (first | trivial | omega | exact inK64 (by omega) (by omega) | exact inKu8 (by omega) (by omega) | (simp only [maxLen]; omega) | exact .inl trivial | exact .inl rfl))
        refine ⟨k + 1, ⟨by omega, hT hc2.symm⟩, by omega, Le.st ?_⟩
        (try (simp (config := { maxSteps := 1000000 }) only [push_cast, Nat.reduceBEq, Nat.reduceBNe, Nat.reduceAdd, Nat.reduceSub, Nat.reduceMul, Nat.reduceLT, Nat.reduceLeDiff, Nat.reduceEqDiff, Nat.blt_eq, Int.reduceLT, Int.reduceLE, Int.reduceEq, Int.reduceToNat, Int.reduceNeg, Int.reduceAdd, Int.reduceSub, Int.reduceMul, Int.reducePow, reduceIte, decide_true, decide_false, reduceCtorEq]))
    · have hd : decide ((k : Int) < (lists.length : Int)) = false := decide_eq_false (by omega)
      rw [List.drop_eq_nil_of_le (by omega)] at hc
      have e : placesR ks l lists = (placesF ks l, 0) := by simp only [placesR, h', ← hc]; simp
      rw [e]
      (try (simp (config := { maxSteps := 1000000 }) only [push_cast, Nat.reduceBEq, Nat.reduceBNe, Nat.reduceAdd, Nat.reduceSub, Nat.reduceMul, Nat.reduceLT, Nat.reduceLeDiff, Nat.reduceEqDiff, Nat.blt_eq, Int.reduceLT, Int.reduceLE, Int.reduceEq, Int.reduceToNat, Int.reduceNeg, Int.reduceAdd, Int.reduceSub, Int.reduceMul, Int.reducePow, reduceIte, decide_true, decide_false, reduceCtorEq, hd]))
      clear hc hd hlt hk'
      have hfnd := ordC_found h'
      refine LoopK.le (Le.nil 14 129 2 (by decide) (by (try (simp (config := { maxSteps := 1000000 }) only [push_cast, Nat.reduceBEq, Nat.reduceBNe, Nat.reduceAdd, Nat.reduceSub, Nat.reduceMul, Nat.reduceLT, Nat.reduceLeDiff, Nat.reduceEqDiff, Nat.blt_eq, Int.reduceLT, Int.reduceLE, Int.reduceEq, Int.reduceToNat, Int.reduceNeg, Int.reduceAdd, Int.reduceSub, Int.reduceMul, Int.reducePow, reduceIte, decide_true, decide_false, reduceCtorEq])))) ?_
      (try (simp (config := { maxSteps := 1000000 }) only [push_cast, Nat.reduceBEq, Nat.reduceBNe, Nat.reduceAdd, Nat.reduceSub, Nat.reduceMul, Nat.reduceLT, Nat.reduceLeDiff, Nat.reduceEqDiff, Nat.blt_eq, Int.reduceLT, Int.reduceLE, Int.reduceEq, Int.reduceToNat, Int.reduceNeg, Int.reduceAdd, Int.reduceSub, Int.reduceMul, Int.reducePow, reduceIte, decide_true, decide_false, reduceCtorEq]))
      refine LoopK.ov (α := Nat) [50] (fun k => [i2 .i64 k]) (fun k => [.rw 129 2 ((placesF (ks.take k) l).map eP)]) (fun k => k ≤ ks.length) (fun k => ks.length - k) 1000 0 (by omega) (by (try (simp (config := { maxSteps := 1000000 }) only [push_cast, Nat.reduceBEq, Nat.reduceBNe, Nat.reduceAdd, Nat.reduceSub, Nat.reduceMul, Nat.reduceLT, Nat.reduceLeDiff, Nat.reduceEqDiff, Nat.blt_eq, Int.reduceLT, Int.reduceLE, Int.reduceEq, Int.reduceToNat, Int.reduceNeg, Int.reduceAdd, Int.reduceSub, Int.reduceMul, Int.reducePow, reduceIte, decide_true, decide_false, reduceCtorEq])) <;> first | rfl | simp [placesF]) ?_
      rintro k hk'
      by_cases hlt : k < ks.length
      · have hv := List.getElem?_eq_getElem hlt; have hd : decide ((k : Int) < (ks.length : Int)) = true := decide_eq_true (by omega)
        have htl : (placesF (ks.take k) l).length ≤ k := by simp only [placesF, List.length_map]; exact List.length_take_le _ _
        (try (simp (config := { maxSteps := 1000000 }) only [push_cast, Nat.reduceBEq, Nat.reduceBNe, Nat.reduceAdd, Nat.reduceSub, Nat.reduceMul, Nat.reduceLT, Nat.reduceLeDiff, Nat.reduceEqDiff, Nat.blt_eq, Int.reduceLT, Int.reduceLE, Int.reduceEq, Int.reduceToNat, Int.reduceNeg, Int.reduceAdd, Int.reduceSub, Int.reduceMul, Int.reducePow, reduceIte, decide_true, decide_false, reduceCtorEq, hd, getD_map hv]))
        ((repeat' (with_reducible refine And.intro ?_ ?_)) <;> try (first | trivial | omega | exact inK64 (by omega) (by omega) | exact inKu8 (by omega) (by omega) | (simp only [maxLen]; omega) | exact .inl trivial | exact .inl rfl))
        refine ⟨_, f62 l ks[k].col hl.1, rfl, ?_⟩
        (try (simp (config := { maxSteps := 1000000 }) only [push_cast, Nat.reduceBEq, Nat.reduceBNe, Nat.reduceAdd, Nat.reduceSub, Nat.reduceMul, Nat.reduceLT, Nat.reduceLeDiff, Nat.reduceEqDiff, Nat.blt_eq, Int.reduceLT, Int.reduceLE, Int.reduceEq, Int.reduceToNat, Int.reduceNeg, Int.reduceAdd, Int.reduceSub, Int.reduceMul, Int.reducePow, reduceIte, decide_true, decide_false, reduceCtorEq]))
        ((repeat' (with_reducible refine And.intro ?_ ?_)) <;> try (first | trivial | omega | exact inK64 (by omega) (by omega) | exact inKu8 (by omega) (by omega) | (simp only [maxLen]; omega) | exact .inl trivial | exact .inl rfl))
        refine ⟨k + 1, by omega, by omega, Le.st ?_⟩
        have em : placesF (ks.take (k + 1)) l = placesF (ks.take k) l ++ [⟨(findF ks[k].col l 0).2.1, ks[k].down⟩] := by
          simp only [placesF]
          exact mapTake hv
        rw [em]
        (try (simp (config := { maxSteps := 1000000 }) only [push_cast, Nat.reduceBEq, Nat.reduceBNe, Nat.reduceAdd, Nat.reduceSub, Nat.reduceMul, Nat.reduceLT, Nat.reduceLeDiff, Nat.reduceEqDiff, Nat.blt_eq, Int.reduceLT, Int.reduceLE, Int.reduceEq, Int.reduceToNat, Int.reduceNeg, Int.reduceAdd, Int.reduceSub, Int.reduceMul, Int.reducePow, reduceIte, decide_true, decide_false, reduceCtorEq]))
        all_goals first | rfl | (simp [eP]; done) | exact ⟨by simp [eP], rfl⟩
      · have hd : decide ((k : Int) < (ks.length : Int)) = false := decide_eq_false (by omega)
        (try (simp (config := { maxSteps := 1000000 }) only [push_cast, Nat.reduceBEq, Nat.reduceBNe, Nat.reduceAdd, Nat.reduceSub, Nat.reduceMul, Nat.reduceLT, Nat.reduceLeDiff, Nat.reduceEqDiff, Nat.blt_eq, Int.reduceLT, Int.reduceLE, Int.reduceEq, Int.reduceToNat, Int.reduceNeg, Int.reduceAdd, Int.reduceSub, Int.reduceMul, Int.reducePow, reduceIte, decide_true, decide_false, reduceCtorEq, hd]))
        rw [List.take_of_length_le (by omega)]
end Go.LS.Try
