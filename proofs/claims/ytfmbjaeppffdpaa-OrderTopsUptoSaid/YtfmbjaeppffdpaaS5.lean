/- Contracts of the functions of the seat, one by one (part S5); no condition but those that each bears. -/
import Derived.Test.YtfmbjaeppffdpaaS4
import Derived.Test.YtfmbjaeppffdpaaPc
namespace Go.LS.Try
open Go Go.LS
set_option maxRecDepth 100000
set_option linter.unusedSimpArgs false
set_option linter.unusedVariables false

theorem f73_0 (col : ByteArray) (v : Vl) (vl : List Vl) (ks : List Nd) (l : List Cl) : Spec V 73 [.ag ((eN (.mk 0 col v vl ks)).map .d), .c (.d (.sl 3 (l.map eC)))] (i2 .i64 (oneF (.mk 0 col v vl ks) l)) := by
  (refine Spec.of_go (L := fun | 0 => some [1, 2] | 1 => some [1, 2, 5, 6, 7, 8] | 2 => some [1, 2, 5, 6, 7, 8, 15] | 3 => some [4] | 4 => some [1, 2, 5, 6, 7, 8, 15, 16] | 5 => some [1, 2, 5, 6, 7, 8, 15, 18] | 6 => some [1, 2, 5, 6, 7, 8, 15, 18] | 7 => some [1, 2, 5, 6, 7, 8, 15, 18] | 8 => some [1, 2, 5, 6, 7, 8] | 9 => some [1, 2, 5, 6, 7, 8, 15, 22] | 10 => some [1, 2, 5, 6, 7, 8] | 11 => some [1, 2, 5, 6, 7, 8, 15, 24] | 12 => some [1, 2, 5, 6, 7, 8, 15, 24] | 13 => some [1, 2, 5, 6, 7, 8, 15, 24] | 14 => some [1, 2, 5, 6, 7, 8] | 15 => some [1, 2, 6, 8, 28] | 16 => some [1, 2, 5, 6, 7, 8] | 17 => some [1, 2, 5, 77] | 18 => some [4] | 19 => some [1, 2, 79] | 20 => some [4] | 21 => some [2, 9, 11] | 22 => some [2, 9, 89] | 23 => some [4] | 24 => some [2, 9, 94] | 25 => some [4] | 26 => some [9, 96, 97, 98] | 27 => some [9, 96, 97, 98, 99] | 28 => some [9, 13, 96, 97, 98] | 29 => some [9, 96, 97, 98, 105] | 30 => some [4] | 31 => some [9, 96, 97, 98] | 32 => some [4] | _ => none) 1000 Go.Proofs.Try.func73 rfl rfl ⟨Nat.le_of_ble_eq_true rfl, rfl⟩ rfl ?_; unfold Go.Proofs.Try.f73; simp (config := { maxSteps := 1000000 }) only [push_cast, Nat.reduceBEq, Nat.reduceBNe, Nat.reduceAdd, Nat.reduceSub, Nat.reduceMul, Nat.reduceLT, Nat.reduceLeDiff, Nat.reduceEqDiff, Nat.blt_eq, Int.reduceLT, Int.reduceLE, Int.reduceEq, Int.reduceToNat, Int.reduceNeg, Int.reduceAdd, Int.reduceSub, Int.reduceMul, Int.reducePow, reduceIte, decide_true, decide_false, reduceCtorEq])
  (repeat' (first | (simp (config := { maxSteps := 1000000 }) only [push_cast, Nat.reduceBEq, Nat.reduceBNe, Nat.reduceAdd, Nat.reduceSub, Nat.reduceMul, Nat.reduceLT, Nat.reduceLeDiff, Nat.reduceEqDiff, Nat.blt_eq, Int.reduceLT, Int.reduceLE, Int.reduceEq, Int.reduceToNat, Int.reduceNeg, Int.reduceAdd, Int.reduceSub, Int.reduceMul, Int.reducePow, reduceIte, decide_true, decide_false, reduceCtorEq]) | (refine BrP.mk (fun h => ?_) (fun h => ?_) <;> (try simp only [h]))))
  all_goals (try simp only [zeroV_fold, Bool.not_eq_true', Bool.not_eq_false', Bool.not_eq_eq_eq_not, Bool.not_true, Bool.not_false, decide_eq_true_eq, decide_eq_false_iff_not] at *)
  all_goals simp [oneF, op_mk, col_mk, v_mk, l_mk, ks_mk, *]
  all_goals (try (rcases vl with _ | ⟨x, vl⟩ <;> simp_all <;> (try omega)))
  all_goals (try (rcases ks with _ | ⟨x, ks⟩ <;> simp_all <;> (try omega)))
theorem f73_5 (col : ByteArray) (v : Vl) (vl : List Vl) (ks : List Nd) (l : List Cl) : Spec V 73 [.ag ((eN (.mk 5 col v vl ks)).map .d), .c (.d (.sl 3 (l.map eC)))] (i2 .i64 (oneF (.mk 5 col v vl ks) l)) := by
  (refine Spec.of_go (L := fun | 0 => some [1, 2] | 1 => some [1, 2, 5, 6, 7, 8] | 2 => some [1, 2, 5, 6, 7, 8, 15] | 3 => some [4] | 4 => some [1, 2, 5, 6, 7, 8, 15, 16] | 5 => some [1, 2, 5, 6, 7, 8, 15, 18] | 6 => some [1, 2, 5, 6, 7, 8, 15, 18] | 7 => some [1, 2, 5, 6, 7, 8, 15, 18] | 8 => some [1, 2, 5, 6, 7, 8] | 9 => some [1, 2, 5, 6, 7, 8, 15, 22] | 10 => some [1, 2, 5, 6, 7, 8] | 11 => some [1, 2, 5, 6, 7, 8, 15, 24] | 12 => some [1, 2, 5, 6, 7, 8, 15, 24] | 13 => some [1, 2, 5, 6, 7, 8, 15, 24] | 14 => some [1, 2, 5, 6, 7, 8] | 15 => some [1, 2, 6, 8, 28] | 16 => some [1, 2, 5, 6, 7, 8] | 17 => some [1, 2, 5, 77] | 18 => some [4] | 19 => some [1, 2, 79] | 20 => some [4] | 21 => some [2, 9, 11] | 22 => some [2, 9, 89] | 23 => some [4] | 24 => some [2, 9, 94] | 25 => some [4] | 26 => some [9, 96, 97, 98] | 27 => some [9, 96, 97, 98, 99] | 28 => some [9, 13, 96, 97, 98] | 29 => some [9, 96, 97, 98, 105] | 30 => some [4] | 31 => some [9, 96, 97, 98] | 32 => some [4] | _ => none) 1000 Go.Proofs.Try.func73 rfl rfl ⟨Nat.le_of_ble_eq_true rfl, rfl⟩ rfl ?_; unfold Go.Proofs.Try.f73; simp (config := { maxSteps := 1000000 }) only [push_cast, Nat.reduceBEq, Nat.reduceBNe, Nat.reduceAdd, Nat.reduceSub, Nat.reduceMul, Nat.reduceLT, Nat.reduceLeDiff, Nat.reduceEqDiff, Nat.blt_eq, Int.reduceLT, Int.reduceLE, Int.reduceEq, Int.reduceToNat, Int.reduceNeg, Int.reduceAdd, Int.reduceSub, Int.reduceMul, Int.reducePow, reduceIte, decide_true, decide_false, reduceCtorEq])
  (repeat' (first | (simp (config := { maxSteps := 1000000 }) only [push_cast, Nat.reduceBEq, Nat.reduceBNe, Nat.reduceAdd, Nat.reduceSub, Nat.reduceMul, Nat.reduceLT, Nat.reduceLeDiff, Nat.reduceEqDiff, Nat.blt_eq, Int.reduceLT, Int.reduceLE, Int.reduceEq, Int.reduceToNat, Int.reduceNeg, Int.reduceAdd, Int.reduceSub, Int.reduceMul, Int.reducePow, reduceIte, decide_true, decide_false, reduceCtorEq]) | (refine BrP.mk (fun h => ?_) (fun h => ?_) <;> (try simp only [h]))))
  all_goals (try simp only [zeroV_fold, Bool.not_eq_true', Bool.not_eq_false', Bool.not_eq_eq_eq_not, Bool.not_true, Bool.not_false, decide_eq_true_eq, decide_eq_false_iff_not] at *)
  all_goals simp [oneF, op_mk, col_mk, v_mk, l_mk, ks_mk, *]
  all_goals (try (rcases vl with _ | ⟨x, vl⟩ <;> simp_all <;> (try omega)))
  all_goals (try (rcases ks with _ | ⟨x, ks⟩ <;> simp_all <;> (try omega)))
theorem f73_6 (col : ByteArray) (v : Vl) (vl : List Vl) (ks : List Nd) (l : List Cl) : Spec V 73 [.ag ((eN (.mk 6 col v vl ks)).map .d), .c (.d (.sl 3 (l.map eC)))] (i2 .i64 (oneF (.mk 6 col v vl ks) l)) := by
  (refine Spec.of_go (L := fun | 0 => some [1, 2] | 1 => some [1, 2, 5, 6, 7, 8] | 2 => some [1, 2, 5, 6, 7, 8, 15] | 3 => some [4] | 4 => some [1, 2, 5, 6, 7, 8, 15, 16] | 5 => some [1, 2, 5, 6, 7, 8, 15, 18] | 6 => some [1, 2, 5, 6, 7, 8, 15, 18] | 7 => some [1, 2, 5, 6, 7, 8, 15, 18] | 8 => some [1, 2, 5, 6, 7, 8] | 9 => some [1, 2, 5, 6, 7, 8, 15, 22] | 10 => some [1, 2, 5, 6, 7, 8] | 11 => some [1, 2, 5, 6, 7, 8, 15, 24] | 12 => some [1, 2, 5, 6, 7, 8, 15, 24] | 13 => some [1, 2, 5, 6, 7, 8, 15, 24] | 14 => some [1, 2, 5, 6, 7, 8] | 15 => some [1, 2, 6, 8, 28] | 16 => some [1, 2, 5, 6, 7, 8] | 17 => some [1, 2, 5, 77] | 18 => some [4] | 19 => some [1, 2, 79] | 20 => some [4] | 21 => some [2, 9, 11] | 22 => some [2, 9, 89] | 23 => some [4] | 24 => some [2, 9, 94] | 25 => some [4] | 26 => some [9, 96, 97, 98] | 27 => some [9, 96, 97, 98, 99] | 28 => some [9, 13, 96, 97, 98] | 29 => some [9, 96, 97, 98, 105] | 30 => some [4] | 31 => some [9, 96, 97, 98] | 32 => some [4] | _ => none) 1000 Go.Proofs.Try.func73 rfl rfl ⟨Nat.le_of_ble_eq_true rfl, rfl⟩ rfl ?_; unfold Go.Proofs.Try.f73; simp (config := { maxSteps := 1000000 }) only [push_cast, Nat.reduceBEq, Nat.reduceBNe, Nat.reduceAdd, Nat.reduceSub, Nat.reduceMul, Nat.reduceLT, Nat.reduceLeDiff, Nat.reduceEqDiff, Nat.blt_eq, Int.reduceLT, Int.reduceLE, Int.reduceEq, Int.reduceToNat, Int.reduceNeg, Int.reduceAdd, Int.reduceSub, Int.reduceMul, Int.reducePow, reduceIte, decide_true, decide_false, reduceCtorEq])
  (repeat' (first | (simp (config := { maxSteps := 1000000 }) only [push_cast, Nat.reduceBEq, Nat.reduceBNe, Nat.reduceAdd, Nat.reduceSub, Nat.reduceMul, Nat.reduceLT, Nat.reduceLeDiff, Nat.reduceEqDiff, Nat.blt_eq, Int.reduceLT, Int.reduceLE, Int.reduceEq, Int.reduceToNat, Int.reduceNeg, Int.reduceAdd, Int.reduceSub, Int.reduceMul, Int.reducePow, reduceIte, decide_true, decide_false, reduceCtorEq]) | (refine BrP.mk (fun h => ?_) (fun h => ?_) <;> (try simp only [h]))))
  all_goals (try simp only [zeroV_fold, Bool.not_eq_true', Bool.not_eq_false', Bool.not_eq_eq_eq_not, Bool.not_true, Bool.not_false, decide_eq_true_eq, decide_eq_false_iff_not] at *)
  all_goals simp [oneF, op_mk, col_mk, v_mk, l_mk, ks_mk, *]
  all_goals (try (rcases vl with _ | ⟨x, vl⟩ <;> simp_all <;> (try omega)))
  all_goals (try (rcases ks with _ | ⟨x, ks⟩ <;> simp_all <;> (try omega)))
theorem f73_7 (col : ByteArray) (v : Vl) (vl : List Vl) (ks : List Nd) (l : List Cl) : Spec V 73 [.ag ((eN (.mk 7 col v vl ks)).map .d), .c (.d (.sl 3 (l.map eC)))] (i2 .i64 (oneF (.mk 7 col v vl ks) l)) := by
  (refine Spec.of_go (L := fun | 0 => some [1, 2] | 1 => some [1, 2, 5, 6, 7, 8] | 2 => some [1, 2, 5, 6, 7, 8, 15] | 3 => some [4] | 4 => some [1, 2, 5, 6, 7, 8, 15, 16] | 5 => some [1, 2, 5, 6, 7, 8, 15, 18] | 6 => some [1, 2, 5, 6, 7, 8, 15, 18] | 7 => some [1, 2, 5, 6, 7, 8, 15, 18] | 8 => some [1, 2, 5, 6, 7, 8] | 9 => some [1, 2, 5, 6, 7, 8, 15, 22] | 10 => some [1, 2, 5, 6, 7, 8] | 11 => some [1, 2, 5, 6, 7, 8, 15, 24] | 12 => some [1, 2, 5, 6, 7, 8, 15, 24] | 13 => some [1, 2, 5, 6, 7, 8, 15, 24] | 14 => some [1, 2, 5, 6, 7, 8] | 15 => some [1, 2, 6, 8, 28] | 16 => some [1, 2, 5, 6, 7, 8] | 17 => some [1, 2, 5, 77] | 18 => some [4] | 19 => some [1, 2, 79] | 20 => some [4] | 21 => some [2, 9, 11] | 22 => some [2, 9, 89] | 23 => some [4] | 24 => some [2, 9, 94] | 25 => some [4] | 26 => some [9, 96, 97, 98] | 27 => some [9, 96, 97, 98, 99] | 28 => some [9, 13, 96, 97, 98] | 29 => some [9, 96, 97, 98, 105] | 30 => some [4] | 31 => some [9, 96, 97, 98] | 32 => some [4] | _ => none) 1000 Go.Proofs.Try.func73 rfl rfl ⟨Nat.le_of_ble_eq_true rfl, rfl⟩ rfl ?_; unfold Go.Proofs.Try.f73; simp (config := { maxSteps := 1000000 }) only [push_cast, Nat.reduceBEq, Nat.reduceBNe, Nat.reduceAdd, Nat.reduceSub, Nat.reduceMul, Nat.reduceLT, Nat.reduceLeDiff, Nat.reduceEqDiff, Nat.blt_eq, Int.reduceLT, Int.reduceLE, Int.reduceEq, Int.reduceToNat, Int.reduceNeg, Int.reduceAdd, Int.reduceSub, Int.reduceMul, Int.reducePow, reduceIte, decide_true, decide_false, reduceCtorEq])
  (repeat' (first | (simp (config := { maxSteps := 1000000 }) only [push_cast, Nat.reduceBEq, Nat.reduceBNe, Nat.reduceAdd, Nat.reduceSub, Nat.reduceMul, Nat.reduceLT, Nat.reduceLeDiff, Nat.reduceEqDiff, Nat.blt_eq, Int.reduceLT, Int.reduceLE, Int.reduceEq, Int.reduceToNat, Int.reduceNeg, Int.reduceAdd, Int.reduceSub, Int.reduceMul, Int.reducePow, reduceIte, decide_true, decide_false, reduceCtorEq]) | (refine BrP.mk (fun h => ?_) (fun h => ?_) <;> (try simp only [h]))))
  all_goals (try simp only [zeroV_fold, Bool.not_eq_true', Bool.not_eq_false', Bool.not_eq_eq_eq_not, Bool.not_true, Bool.not_false, decide_eq_true_eq, decide_eq_false_iff_not] at *)
  all_goals simp [oneF, op_mk, col_mk, v_mk, l_mk, ks_mk, *]
  all_goals (try (rcases vl with _ | ⟨x, vl⟩ <;> simp_all <;> (try omega)))
  all_goals (try (rcases ks with _ | ⟨x, ks⟩ <;> simp_all <;> (try omega)))
set_option maxHeartbeats 1000000 in
theorem f73_1 (col : ByteArray) (v : Vl) (vl : List Vl) (ks : List Nd) (l : List Cl) (hn : okNd (.mk 1 col v vl ks)) (hl : okCl l) : Spec V 73 [.ag ((eN (.mk 1 col v vl ks)).map .d), .c (.d (.sl 3 (l.map eC)))] (i2 .i64 (oneF (.mk 1 col v vl ks) l)) := by
  obtain ⟨h1, h2, h3, h4⟩ := okNd_v hn
  (refine Spec.of_go (L := fun | 0 => some [1, 2] | 1 => some [1, 2, 5, 6, 7, 8] | 2 => some [1, 2, 5, 6, 7, 8, 15] | 3 => some [4] | 4 => some [1, 2, 5, 6, 7, 8, 15, 16] | 5 => some [1, 2, 5, 6, 7, 8, 15, 18] | 6 => some [1, 2, 5, 6, 7, 8, 15, 18] | 7 => some [1, 2, 5, 6, 7, 8, 15, 18] | 8 => some [1, 2, 5, 6, 7, 8] | 9 => some [1, 2, 5, 6, 7, 8, 15, 22] | 10 => some [1, 2, 5, 6, 7, 8] | 11 => some [1, 2, 5, 6, 7, 8, 15, 24] | 12 => some [1, 2, 5, 6, 7, 8, 15, 24] | 13 => some [1, 2, 5, 6, 7, 8, 15, 24] | 14 => some [1, 2, 5, 6, 7, 8] | 15 => some [1, 2, 6, 8, 28] | 16 => some [1, 2, 5, 6, 7, 8] | 17 => some [1, 2, 5, 77] | 18 => some [4] | 19 => some [1, 2, 79] | 20 => some [4] | 21 => some [2, 9, 11] | 22 => some [2, 9, 89] | 23 => some [4] | 24 => some [2, 9, 94] | 25 => some [4] | 26 => some [9, 96, 97, 98] | 27 => some [9, 96, 97, 98, 99] | 28 => some [9, 13, 96, 97, 98] | 29 => some [9, 96, 97, 98, 105] | 30 => some [4] | 31 => some [9, 96, 97, 98] | 32 => some [4] | _ => none) 1000 Go.Proofs.Try.func73 rfl rfl ⟨Nat.le_of_ble_eq_true rfl, rfl⟩ rfl ?_; unfold Go.Proofs.Try.f73; simp (config := { maxSteps := 1000000 }) only [push_cast, Nat.reduceBEq, Nat.reduceBNe, Nat.reduceAdd, Nat.reduceSub, Nat.reduceMul, Nat.reduceLT, Nat.reduceLeDiff, Nat.reduceEqDiff, Nat.blt_eq, Int.reduceLT, Int.reduceLE, Int.reduceEq, Int.reduceToNat, Int.reduceNeg, Int.reduceAdd, Int.reduceSub, Int.reduceMul, Int.reducePow, reduceIte, decide_true, decide_false, reduceCtorEq])
  (repeat' (first | (simp (config := { maxSteps := 1000000 }) only [push_cast, Nat.reduceBEq, Nat.reduceBNe, Nat.reduceAdd, Nat.reduceSub, Nat.reduceMul, Nat.reduceLT, Nat.reduceLeDiff, Nat.reduceEqDiff, Nat.blt_eq, Int.reduceLT, Int.reduceLE, Int.reduceEq, Int.reduceToNat, Int.reduceNeg, Int.reduceAdd, Int.reduceSub, Int.reduceMul, Int.reducePow, reduceIte, decide_true, decide_false, reduceCtorEq]) | (refine BrP.mk (fun h => ?_) (fun h => ?_) <;> (try simp only [h]))))
  all_goals (try simp only [zeroV_fold, Bool.not_eq_true', Bool.not_eq_false', Bool.not_eq_eq_eq_not, Bool.not_true, Bool.not_false, decide_eq_true_eq, decide_eq_false_iff_not] at *)
  all_goals (try ((rcases vl with _ | ⟨x, vl⟩ <;> rcases ks with _ | ⟨y, ks⟩ <;> simp_all [oneF, op_mk, col_mk, v_mk, l_mk, ks_mk]); done))
  obtain ⟨F, hF⟩ : ∃ F, findF col l 0 = F := ⟨_, rfl⟩
  have hS := f62 l col hl.1
  rw [hF] at hS
  have e : oneF (.mk 1 col v vl ks) l = if F.2.2 = false then 16 else if fitsF v F.1 = false then 21 else if (vl.all fun v => fitsF v F.1) = true then 0 else 21 := by
    subst hF
    rcases vl with _ | ⟨x, vl⟩ <;> rcases ks with _ | ⟨y, ks⟩ <;> simp_all [oneF, tailF, op_mk, col_mk, v_mk, l_mk, ks_mk]
  rw [e]
  refine ⟨_, hS, rfl, ?_⟩
  clear hS e hF
  (try (simp (config := { maxSteps := 1000000 }) only [push_cast, Nat.reduceBEq, Nat.reduceBNe, Nat.reduceAdd, Nat.reduceSub, Nat.reduceMul, Nat.reduceLT, Nat.reduceLeDiff, Nat.reduceEqDiff, Nat.blt_eq, Int.reduceLT, Int.reduceLE, Int.reduceEq, Int.reduceToNat, Int.reduceNeg, Int.reduceAdd, Int.reduceSub, Int.reduceMul, Int.reducePow, reduceIte, decide_true, decide_false, reduceCtorEq]))
  refine BrP.mk (fun h => ?_) (fun h => ?_) <;> try (simp (config := { maxSteps := 1000000 }) only [push_cast, Nat.reduceBEq, Nat.reduceBNe, Nat.reduceAdd, Nat.reduceSub, Nat.reduceMul, Nat.reduceLT, Nat.reduceLeDiff, Nat.reduceEqDiff, Nat.blt_eq, Int.reduceLT, Int.reduceLE, Int.reduceEq, Int.reduceToNat, Int.reduceNeg, Int.reduceAdd, Int.reduceSub, Int.reduceMul, Int.reducePow, reduceIte, decide_true, decide_false, reduceCtorEq, h])
  · have h' : F.2.2 = false := by simpa using h
    simp [h']
  · have h' : F.2.2 = true := by simpa using h
    rw [if_neg (by simp [h'])]
    (have hS := f85 v F.1 h1; simp only [eS_eq, eN_eq, eV_eq, eRN_eq, eRV_eq, eC_eq, eRC_eq, List.map_cons, List.map_nil, i2, b2, s2] at hS; refine ⟨_, hS, rfl, ?_⟩; clear hS; try (simp (config := { maxSteps := 1000000 }) only [push_cast, Nat.reduceBEq, Nat.reduceBNe, Nat.reduceAdd, Nat.reduceSub, Nat.reduceMul, Nat.reduceLT, Nat.reduceLeDiff, Nat.reduceEqDiff, Nat.blt_eq, Int.reduceLT, Int.reduceLE, Int.reduceEq, Int.reduceToNat, Int.reduceNeg, Int.reduceAdd, Int.reduceSub, Int.reduceMul, Int.reducePow, reduceIte, decide_true, decide_false, reduceCtorEq]))
    refine BrP.mk (fun h => ?_) (fun h => ?_) <;> try (simp (config := { maxSteps := 1000000 }) only [push_cast, Nat.reduceBEq, Nat.reduceBNe, Nat.reduceAdd, Nat.reduceSub, Nat.reduceMul, Nat.reduceLT, Nat.reduceLeDiff, Nat.reduceEqDiff, Nat.blt_eq, Int.reduceLT, Int.reduceLE, Int.reduceEq, Int.reduceToNat, Int.reduceNeg, Int.reduceAdd, Int.reduceSub, Int.reduceMul, Int.reducePow, reduceIte, decide_true, decide_false, reduceCtorEq, h])
    · rw [if_pos (by simpa using h)]
    · rw [if_neg (by simpa using h)]
      refine LoopK.s1 (α := Nat) [98] (fun k => [i2 .i64 k]) (fun k => k ≤ vl.length ∧ ((vl.drop k).all fun v => fitsF v F.1) = (vl.all fun v => fitsF v F.1)) (fun k => vl.length - k) 1000 0 ⟨by omega, rfl⟩ (by (try (simp (config := { maxSteps := 1000000 }) only [push_cast, Nat.reduceBEq, Nat.reduceBNe, Nat.reduceAdd, Nat.reduceSub, Nat.reduceMul, Nat.reduceLT, Nat.reduceLeDiff, Nat.reduceEqDiff, Nat.blt_eq, Int.reduceLT, Int.reduceLE, Int.reduceEq, Int.reduceToNat, Int.reduceNeg, Int.reduceAdd, Int.reduceSub, Int.reduceMul, Int.reducePow, reduceIte, decide_true, decide_false, reduceCtorEq]))) ?_
      rintro k ⟨hk, hc⟩
      by_cases hlt : k < vl.length
      · have hv := List.getElem?_eq_getElem hlt; have hd : decide ((k : Int) < (vl.length : Int)) = true := decide_eq_true (by omega)
        rw [drop_cons hv] at hc
        simp only [List.all_cons] at hc
        (try (simp (config := { maxSteps := 1000000 }) only [push_cast, Nat.reduceBEq, Nat.reduceBNe, Nat.reduceAdd, Nat.reduceSub, Nat.reduceMul, Nat.reduceLT, Nat.reduceLeDiff, Nat.reduceEqDiff, Nat.blt_eq, Int.reduceLT, Int.reduceLE, Int.reduceEq, Int.reduceToNat, Int.reduceNeg, Int.reduceAdd, Int.reduceSub, Int.reduceMul, Int.reducePow, reduceIte, decide_true, decide_false, reduceCtorEq, hd, getD_map hv]))
        (repeat ((with_reducible refine And.intro ?_ ?_); focus (first | trivial | omega | exact inK64 (by omega) (by omega) | exact inKu8 (by omega) (by omega))))
        (have hS := f85 vl[k] F.1 (h2 _ (List.getElem_mem hlt)); simp only [eS_eq, eN_eq, eV_eq, eRN_eq, eRV_eq, eC_eq, eRC_eq, List.map_cons, List.map_nil, i2, b2, s2] at hS; refine ⟨_, hS, rfl, ?_⟩; clear hS; try (simp (config := { maxSteps := 1000000 }) only [push_cast, Nat.reduceBEq, Nat.reduceBNe, Nat.reduceAdd, Nat.reduceSub, Nat.reduceMul, Nat.reduceLT, Nat.reduceLeDiff, Nat.reduceEqDiff, Nat.blt_eq, Int.reduceLT, Int.reduceLE, Int.reduceEq, Int.reduceToNat, Int.reduceNeg, Int.reduceAdd, Int.reduceSub, Int.reduceMul, Int.reducePow, reduceIte, decide_true, decide_false, reduceCtorEq]))
        refine BrP.mk (fun h => ?_) (fun h => ?_) <;> try (simp (config := { maxSteps := 1000000 }) only [push_cast, Nat.reduceBEq, Nat.reduceBNe, Nat.reduceAdd, Nat.reduceSub, Nat.reduceMul, Nat.reduceLT, Nat.reduceLeDiff, Nat.reduceEqDiff, Nat.blt_eq, Int.reduceLT, Int.reduceLE, Int.reduceEq, Int.reduceToNat, Int.reduceNeg, Int.reduceAdd, Int.reduceSub, Int.reduceMul, Int.reducePow, reduceIte, decide_true, decide_false, reduceCtorEq, h])
        · have h0 : fitsF vl[k] F.1 = false := by simpa using h
          rw [h0, Bool.false_and] at hc
          rw [if_neg (by rw [← hc]; decide)]
        · have h0 : fitsF vl[k] F.1 = true := by simpa using h
          rw [h0, Bool.true_and] at hc
          (repeat ((with_reducible refine And.intro ?_ ?_); focus (first | trivial | omega | exact inK64 (by omega) (by omega) | exact inKu8 (by omega) (by omega))))
          refine ⟨k + 1, ⟨by omega, hc⟩, by omega, Le.st ?_⟩
          (try (simp (config := { maxSteps := 1000000 }) only [push_cast, Nat.reduceBEq, Nat.reduceBNe, Nat.reduceAdd, Nat.reduceSub, Nat.reduceMul, Nat.reduceLT, Nat.reduceLeDiff, Nat.reduceEqDiff, Nat.blt_eq, Int.reduceLT, Int.reduceLE, Int.reduceEq, Int.reduceToNat, Int.reduceNeg, Int.reduceAdd, Int.reduceSub, Int.reduceMul, Int.reducePow, reduceIte, decide_true, decide_false, reduceCtorEq]))
      · have hd : decide ((k : Int) < (vl.length : Int)) = false := decide_eq_false (by omega)
        rw [List.drop_eq_nil_of_le (by omega)] at hc
        (try (simp (config := { maxSteps := 1000000 }) only [push_cast, Nat.reduceBEq, Nat.reduceBNe, Nat.reduceAdd, Nat.reduceSub, Nat.reduceMul, Nat.reduceLT, Nat.reduceLeDiff, Nat.reduceEqDiff, Nat.blt_eq, Int.reduceLT, Int.reduceLE, Int.reduceEq, Int.reduceToNat, Int.reduceNeg, Int.reduceAdd, Int.reduceSub, Int.reduceMul, Int.reducePow, reduceIte, decide_true, decide_false, reduceCtorEq, hd]))
        rw [← hc]; rfl
set_option maxHeartbeats 1000000 in
theorem f73_2 (col : ByteArray) (v : Vl) (vl : List Vl) (ks : List Nd) (l : List Cl) (hn : okNd (.mk 2 col v vl ks)) (hl : okCl l) : Spec V 73 [.ag ((eN (.mk 2 col v vl ks)).map .d), .c (.d (.sl 3 (l.map eC)))] (i2 .i64 (oneF (.mk 2 col v vl ks) l)) := by
  obtain ⟨h1, h2, h3, h4⟩ := okNd_v hn
  (refine Spec.of_go (L := fun | 0 => some [1, 2] | 1 => some [1, 2, 5, 6, 7, 8] | 2 => some [1, 2, 5, 6, 7, 8, 15] | 3 => some [4] | 4 => some [1, 2, 5, 6, 7, 8, 15, 16] | 5 => some [1, 2, 5, 6, 7, 8, 15, 18] | 6 => some [1, 2, 5, 6, 7, 8, 15, 18] | 7 => some [1, 2, 5, 6, 7, 8, 15, 18] | 8 => some [1, 2, 5, 6, 7, 8] | 9 => some [1, 2, 5, 6, 7, 8, 15, 22] | 10 => some [1, 2, 5, 6, 7, 8] | 11 => some [1, 2, 5, 6, 7, 8, 15, 24] | 12 => some [1, 2, 5, 6, 7, 8, 15, 24] | 13 => some [1, 2, 5, 6, 7, 8, 15, 24] | 14 => some [1, 2, 5, 6, 7, 8] | 15 => some [1, 2, 6, 8, 28] | 16 => some [1, 2, 5, 6, 7, 8] | 17 => some [1, 2, 5, 77] | 18 => some [4] | 19 => some [1, 2, 79] | 20 => some [4] | 21 => some [2, 9, 11] | 22 => some [2, 9, 89] | 23 => some [4] | 24 => some [2, 9, 94] | 25 => some [4] | 26 => some [9, 96, 97, 98] | 27 => some [9, 96, 97, 98, 99] | 28 => some [9, 13, 96, 97, 98] | 29 => some [9, 96, 97, 98, 105] | 30 => some [4] | 31 => some [9, 96, 97, 98] | 32 => some [4] | _ => none) 1000 Go.Proofs.Try.func73 rfl rfl ⟨Nat.le_of_ble_eq_true rfl, rfl⟩ rfl ?_; unfold Go.Proofs.Try.f73; simp (config := { maxSteps := 1000000 }) only [push_cast, Nat.reduceBEq, Nat.reduceBNe, Nat.reduceAdd, Nat.reduceSub, Nat.reduceMul, Nat.reduceLT, Nat.reduceLeDiff, Nat.reduceEqDiff, Nat.blt_eq, Int.reduceLT, Int.reduceLE, Int.reduceEq, Int.reduceToNat, Int.reduceNeg, Int.reduceAdd, Int.reduceSub, Int.reduceMul, Int.reducePow, reduceIte, decide_true, decide_false, reduceCtorEq])
  (repeat' (first | (simp (config := { maxSteps := 1000000 }) only [push_cast, Nat.reduceBEq, Nat.reduceBNe, Nat.reduceAdd, Nat.reduceSub, Nat.reduceMul, Nat.reduceLT, Nat.reduceLeDiff, Nat.reduceEqDiff, Nat.blt_eq, Int.reduceLT, Int.reduceLE, Int.reduceEq, Int.reduceToNat, Int.reduceNeg, Int.reduceAdd, Int.reduceSub, Int.reduceMul, Int.reducePow, reduceIte, decide_true, decide_false, reduceCtorEq]) | (refine BrP.mk (fun h => ?_) (fun h => ?_) <;> (try simp only [h]))))
  all_goals (try simp only [zeroV_fold, Bool.not_eq_true', Bool.not_eq_false', Bool.not_eq_eq_eq_not, Bool.not_true, Bool.not_false, decide_eq_true_eq, decide_eq_false_iff_not] at *)
  all_goals (try ((rcases vl with _ | ⟨x, vl⟩ <;> rcases ks with _ | ⟨y, ks⟩ <;> simp_all [oneF, op_mk, col_mk, v_mk, l_mk, ks_mk]); done))
  obtain ⟨F, hF⟩ : ∃ F, findF col l 0 = F := ⟨_, rfl⟩
  have hS := f62 l col hl.1
  rw [hF] at hS
  have e : oneF (.mk 2 col v vl ks) l = if F.2.2 = false then 16 else if fitsF v F.1 = false then 21 else if (vl.all fun v => fitsF v F.1) = true then 0 else 21 := by
    subst hF
    rcases vl with _ | ⟨x, vl⟩ <;> rcases ks with _ | ⟨y, ks⟩ <;> simp_all [oneF, tailF, op_mk, col_mk, v_mk, l_mk, ks_mk]
  rw [e]
  refine ⟨_, hS, rfl, ?_⟩
  clear hS e hF
  (try (simp (config := { maxSteps := 1000000 }) only [push_cast, Nat.reduceBEq, Nat.reduceBNe, Nat.reduceAdd, Nat.reduceSub, Nat.reduceMul, Nat.reduceLT, Nat.reduceLeDiff, Nat.reduceEqDiff, Nat.blt_eq, Int.reduceLT, Int.reduceLE, Int.reduceEq, Int.reduceToNat, Int.reduceNeg, Int.reduceAdd, Int.reduceSub, Int.reduceMul, Int.reducePow, reduceIte, decide_true, decide_false, reduceCtorEq]))
  refine BrP.mk (fun h => ?_) (fun h => ?_) <;> try (simp (config := { maxSteps := 1000000 }) only [push_cast, Nat.reduceBEq, Nat.reduceBNe, Nat.reduceAdd, Nat.reduceSub, Nat.reduceMul, Nat.reduceLT, Nat.reduceLeDiff, Nat.reduceEqDiff, Nat.blt_eq, Int.reduceLT, Int.reduceLE, Int.reduceEq, Int.reduceToNat, Int.reduceNeg, Int.reduceAdd, Int.reduceSub, Int.reduceMul, Int.reducePow, reduceIte, decide_true, decide_false, reduceCtorEq, h])
  · have h' : F.2.2 = false := by simpa using h
    simp [h']
  · have h' : F.2.2 = true := by simpa using h
    rw [if_neg (by simp [h'])]
    (have hS := f85 v F.1 h1; simp only [eS_eq, eN_eq, eV_eq, eRN_eq, eRV_eq, eC_eq, eRC_eq, List.map_cons, List.map_nil, i2, b2, s2] at hS; refine ⟨_, hS, rfl, ?_⟩; clear hS; try (simp (config := { maxSteps := 1000000 }) only [push_cast, Nat.reduceBEq, Nat.reduceBNe, Nat.reduceAdd, Nat.reduceSub, Nat.reduceMul, Nat.reduceLT, Nat.reduceLeDiff, Nat.reduceEqDiff, Nat.blt_eq, Int.reduceLT, Int.reduceLE, Int.reduceEq, Int.reduceToNat, Int.reduceNeg, Int.reduceAdd, Int.reduceSub, Int.reduceMul, Int.reducePow, reduceIte, decide_true, decide_false, reduceCtorEq]))
    refine BrP.mk (fun h => ?_) (fun h => ?_) <;> try (simp (config := { maxSteps := 1000000 }) only [push_cast, Nat.reduceBEq, Nat.reduceBNe, Nat.reduceAdd, Nat.reduceSub, Nat.reduceMul, Nat.reduceLT, Nat.reduceLeDiff, Nat.reduceEqDiff, Nat.blt_eq, Int.reduceLT, Int.reduceLE, Int.reduceEq, Int.reduceToNat, Int.reduceNeg, Int.reduceAdd, Int.reduceSub, Int.reduceMul, Int.reducePow, reduceIte, decide_true, decide_false, reduceCtorEq, h])
    · rw [if_pos (by simpa using h)]
    · rw [if_neg (by simpa using h)]
      refine LoopK.s1 (α := Nat) [98] (fun k => [i2 .i64 k]) (fun k => k ≤ vl.length ∧ ((vl.drop k).all fun v => fitsF v F.1) = (vl.all fun v => fitsF v F.1)) (fun k => vl.length - k) 1000 0 ⟨by omega, rfl⟩ (by (try (simp (config := { maxSteps := 1000000 }) only [push_cast, Nat.reduceBEq, Nat.reduceBNe, Nat.reduceAdd, Nat.reduceSub, Nat.reduceMul, Nat.reduceLT, Nat.reduceLeDiff, Nat.reduceEqDiff, Nat.blt_eq, Int.reduceLT, Int.reduceLE, Int.reduceEq, Int.reduceToNat, Int.reduceNeg, Int.reduceAdd, Int.reduceSub, Int.reduceMul, Int.reducePow, reduceIte, decide_true, decide_false, reduceCtorEq]))) ?_
      rintro k ⟨hk, hc⟩
      by_cases hlt : k < vl.length
      · have hv := List.getElem?_eq_getElem hlt; have hd : decide ((k : Int) < (vl.length : Int)) = true := decide_eq_true (by omega)
        rw [drop_cons hv] at hc
        simp only [List.all_cons] at hc
        (try (simp (config := { maxSteps := 1000000 }) only [push_cast, Nat.reduceBEq, Nat.reduceBNe, Nat.reduceAdd, Nat.reduceSub, Nat.reduceMul, Nat.reduceLT, Nat.reduceLeDiff, Nat.reduceEqDiff, Nat.blt_eq, Int.reduceLT, Int.reduceLE, Int.reduceEq, Int.reduceToNat, Int.reduceNeg, Int.reduceAdd, Int.reduceSub, Int.reduceMul, Int.reducePow, reduceIte, decide_true, decide_false, reduceCtorEq, hd, getD_map hv]))
        (repeat ((with_reducible refine And.intro ?_ ?_); focus (first | trivial | omega | exact inK64 (by omega) (by omega) | exact inKu8 (by omega) (by omega))))
        (have hS := f85 vl[k] F.1 (h2 _ (List.getElem_mem hlt)); simp only [eS_eq, eN_eq, eV_eq, eRN_eq, eRV_eq, eC_eq, eRC_eq, List.map_cons, List.map_nil, i2, b2, s2] at hS; refine ⟨_, hS, rfl, ?_⟩; clear hS; try (simp (config := { maxSteps := 1000000 }) only [push_cast, Nat.reduceBEq, Nat.reduceBNe, Nat.reduceAdd, Nat.reduceSub, Nat.reduceMul, Nat.reduceLT, Nat.reduceLeDiff, Nat.reduceEqDiff, Nat.blt_eq, Int.reduceLT, Int.reduceLE, Int.reduceEq, Int.reduceToNat, Int.reduceNeg, Int.reduceAdd, Int.reduceSub, Int.reduceMul, Int.reducePow, reduceIte, decide_true, decide_false, reduceCtorEq]))
        refine BrP.mk (fun h => ?_) (fun h => ?_) <;> try (simp (config := { maxSteps := 1000000 }) only [push_cast, Nat.reduceBEq, Nat.reduceBNe, Nat.reduceAdd, Nat.reduceSub, Nat.reduceMul, Nat.reduceLT, Nat.reduceLeDiff, Nat.reduceEqDiff, Nat.blt_eq, Int.reduceLT, Int.reduceLE, Int.reduceEq, Int.reduceToNat, Int.reduceNeg, Int.reduceAdd, Int.reduceSub, Int.reduceMul, Int.reducePow, reduceIte, decide_true, decide_false, reduceCtorEq, h])
        · have h0 : fitsF vl[k] F.1 = false := by simpa using h
          rw [h0, Bool.false_and] at hc
          rw [if_neg (by rw [← hc]; decide)]
        · have h0 : fitsF vl[k] F.1 = true := by simpa using h
          rw [h0, Bool.true_and] at hc
          (repeat ((with_reducible refine And.intro ?_ ?_); focus (first | trivial | omega | exact inK64 (by omega) (by omega) | exact inKu8 (by omega) (by omega))))
          refine ⟨k + 1, ⟨by omega, hc⟩, by omega, Le.st ?_⟩
          (try (simp (config := { maxSteps := 1000000 }) only [push_cast, Nat.reduceBEq, Nat.reduceBNe, Nat.reduceAdd, Nat.reduceSub, Nat.reduceMul, Nat.reduceLT, Nat.reduceLeDiff, Nat.reduceEqDiff, Nat.blt_eq, Int.reduceLT, Int.reduceLE, Int.reduceEq, Int.reduceToNat, Int.reduceNeg, Int.reduceAdd, Int.reduceSub, Int.reduceMul, Int.reducePow, reduceIte, decide_true, decide_false, reduceCtorEq]))
      · have hd : decide ((k : Int) < (vl.length : Int)) = false := decide_eq_false (by omega)
        rw [List.drop_eq_nil_of_le (by omega)] at hc
        (try (simp (config := { maxSteps := 1000000 }) only [push_cast, Nat.reduceBEq, Nat.reduceBNe, Nat.reduceAdd, Nat.reduceSub, Nat.reduceMul, Nat.reduceLT, Nat.reduceLeDiff, Nat.reduceEqDiff, Nat.blt_eq, Int.reduceLT, Int.reduceLE, Int.reduceEq, Int.reduceToNat, Int.reduceNeg, Int.reduceAdd, Int.reduceSub, Int.reduceMul, Int.reducePow, reduceIte, decide_true, decide_false, reduceCtorEq, hd]))
        rw [← hc]; rfl
set_option maxHeartbeats 1000000 in
theorem f73_3 (col : ByteArray) (v : Vl) (vl : List Vl) (ks : List Nd) (l : List Cl) (hn : okNd (.mk 3 col v vl ks)) (hl : okCl l) : Spec V 73 [.ag ((eN (.mk 3 col v vl ks)).map .d), .c (.d (.sl 3 (l.map eC)))] (i2 .i64 (oneF (.mk 3 col v vl ks) l)) := by
  obtain ⟨h1, h2, h3, h4⟩ := okNd_v hn
  (refine Spec.of_go (L := fun | 0 => some [1, 2] | 1 => some [1, 2, 5, 6, 7, 8] | 2 => some [1, 2, 5, 6, 7, 8, 15] | 3 => some [4] | 4 => some [1, 2, 5, 6, 7, 8, 15, 16] | 5 => some [1, 2, 5, 6, 7, 8, 15, 18] | 6 => some [1, 2, 5, 6, 7, 8, 15, 18] | 7 => some [1, 2, 5, 6, 7, 8, 15, 18] | 8 => some [1, 2, 5, 6, 7, 8] | 9 => some [1, 2, 5, 6, 7, 8, 15, 22] | 10 => some [1, 2, 5, 6, 7, 8] | 11 => some [1, 2, 5, 6, 7, 8, 15, 24] | 12 => some [1, 2, 5, 6, 7, 8, 15, 24] | 13 => some [1, 2, 5, 6, 7, 8, 15, 24] | 14 => some [1, 2, 5, 6, 7, 8] | 15 => some [1, 2, 6, 8, 28] | 16 => some [1, 2, 5, 6, 7, 8] | 17 => some [1, 2, 5, 77] | 18 => some [4] | 19 => some [1, 2, 79] | 20 => some [4] | 21 => some [2, 9, 11] | 22 => some [2, 9, 89] | 23 => some [4] | 24 => some [2, 9, 94] | 25 => some [4] | 26 => some [9, 96, 97, 98] | 27 => some [9, 96, 97, 98, 99] | 28 => some [9, 13, 96, 97, 98] | 29 => some [9, 96, 97, 98, 105] | 30 => some [4] | 31 => some [9, 96, 97, 98] | 32 => some [4] | _ => none) 1000 Go.Proofs.Try.func73 rfl rfl ⟨Nat.le_of_ble_eq_true rfl, rfl⟩ rfl ?_; unfold Go.Proofs.Try.f73; simp (config := { maxSteps := 1000000 }) only [push_cast, Nat.reduceBEq, Nat.reduceBNe, Nat.reduceAdd, Nat.reduceSub, Nat.reduceMul, Nat.reduceLT, Nat.reduceLeDiff, Nat.reduceEqDiff, Nat.blt_eq, Int.reduceLT, Int.reduceLE, Int.reduceEq, Int.reduceToNat, Int.reduceNeg, Int.reduceAdd, Int.reduceSub, Int.reduceMul, Int.reducePow, reduceIte, decide_true, decide_false, reduceCtorEq])
  (repeat' (first | (simp (config := { maxSteps := 1000000 }) only [push_cast, Nat.reduceBEq, Nat.reduceBNe, Nat.reduceAdd, Nat.reduceSub, Nat.reduceMul, Nat.reduceLT, Nat.reduceLeDiff, Nat.reduceEqDiff, Nat.blt_eq, Int.reduceLT, Int.reduceLE, Int.reduceEq, Int.reduceToNat, Int.reduceNeg, Int.reduceAdd, Int.reduceSub, Int.reduceMul, Int.reducePow, reduceIte, decide_true, decide_false, reduceCtorEq]) | (refine BrP.mk (fun h => ?_) (fun h => ?_) <;> (try simp only [h]))))
  all_goals (try simp only [zeroV_fold, Bool.not_eq_true', Bool.not_eq_false', Bool.not_eq_eq_eq_not, Bool.not_true, Bool.not_false, decide_eq_true_eq, decide_eq_false_iff_not] at *)
  all_goals (try ((rcases vl with _ | ⟨x, vl⟩ <;> rcases ks with _ | ⟨y, ks⟩ <;> simp_all [oneF, op_mk, col_mk, v_mk, l_mk, ks_mk]); done))
  obtain ⟨F, hF⟩ : ∃ F, findF col l 0 = F := ⟨_, rfl⟩
  have hS := f62 l col hl.1
  rw [hF] at hS
  have e : oneF (.mk 3 col v vl ks) l = if F.2.2 = false then 16 else if fitsF v F.1 = false then 21 else if (vl.all fun v => fitsF v F.1) = true then 0 else 21 := by
    subst hF
    rcases vl with _ | ⟨x, vl⟩ <;> rcases ks with _ | ⟨y, ks⟩ <;> simp_all [oneF, tailF, op_mk, col_mk, v_mk, l_mk, ks_mk]
  rw [e]
  refine ⟨_, hS, rfl, ?_⟩
  clear hS e hF
  (try (simp (config := { maxSteps := 1000000 }) only [push_cast, Nat.reduceBEq, Nat.reduceBNe, Nat.reduceAdd, Nat.reduceSub, Nat.reduceMul, Nat.reduceLT, Nat.reduceLeDiff, Nat.reduceEqDiff, Nat.blt_eq, Int.reduceLT, Int.reduceLE, Int.reduceEq, Int.reduceToNat, Int.reduceNeg, Int.reduceAdd, Int.reduceSub, Int.reduceMul, Int.reducePow, reduceIte, decide_true, decide_false, reduceCtorEq]))
  refine BrP.mk (fun h => ?_) (fun h => ?_) <;> try (simp (config := { maxSteps := 1000000 }) only [push_cast, Nat.reduceBEq, Nat.reduceBNe, Nat.reduceAdd, Nat.reduceSub, Nat.reduceMul, Nat.reduceLT, Nat.reduceLeDiff, Nat.reduceEqDiff, Nat.blt_eq, Int.reduceLT, Int.reduceLE, Int.reduceEq, Int.reduceToNat, Int.reduceNeg, Int.reduceAdd, Int.reduceSub, Int.reduceMul, Int.reducePow, reduceIte, decide_true, decide_false, reduceCtorEq, h])
  · have h' : F.2.2 = false := by simpa using h
    simp [h']
  · have h' : F.2.2 = true := by simpa using h
    rw [if_neg (by simp [h'])]
    (have hS := f85 v F.1 h1; simp only [eS_eq, eN_eq, eV_eq, eRN_eq, eRV_eq, eC_eq, eRC_eq, List.map_cons, List.map_nil, i2, b2, s2] at hS; refine ⟨_, hS, rfl, ?_⟩; clear hS; try (simp (config := { maxSteps := 1000000 }) only [push_cast, Nat.reduceBEq, Nat.reduceBNe, Nat.reduceAdd, Nat.reduceSub, Nat.reduceMul, Nat.reduceLT, Nat.reduceLeDiff, Nat.reduceEqDiff, Nat.blt_eq, Int.reduceLT, Int.reduceLE, Int.reduceEq, Int.reduceToNat, Int.reduceNeg, Int.reduceAdd, Int.reduceSub, Int.reduceMul, Int.reducePow, reduceIte, decide_true, decide_false, reduceCtorEq]))
    refine BrP.mk (fun h => ?_) (fun h => ?_) <;> try (simp (config := { maxSteps := 1000000 }) only [push_cast, Nat.reduceBEq, Nat.reduceBNe, Nat.reduceAdd, Nat.reduceSub, Nat.reduceMul, Nat.reduceLT, Nat.reduceLeDiff, Nat.reduceEqDiff, Nat.blt_eq, Int.reduceLT, Int.reduceLE, Int.reduceEq, Int.reduceToNat, Int.reduceNeg, Int.reduceAdd, Int.reduceSub, Int.reduceMul, Int.reducePow, reduceIte, decide_true, decide_false, reduceCtorEq, h])
    · rw [if_pos (by simpa using h)]
    · rw [if_neg (by simpa using h)]
      refine LoopK.s1 (α := Nat) [98] (fun k => [i2 .i64 k]) (fun k => k ≤ vl.length ∧ ((vl.drop k).all fun v => fitsF v F.1) = (vl.all fun v => fitsF v F.1)) (fun k => vl.length - k) 1000 0 ⟨by omega, rfl⟩ (by (try (simp (config := { maxSteps := 1000000 }) only [push_cast, Nat.reduceBEq, Nat.reduceBNe, Nat.reduceAdd, Nat.reduceSub, Nat.reduceMul, Nat.reduceLT, Nat.reduceLeDiff, Nat.reduceEqDiff, Nat.blt_eq, Int.reduceLT, Int.reduceLE, Int.reduceEq, Int.reduceToNat, Int.reduceNeg, Int.reduceAdd, Int.reduceSub, Int.reduceMul, Int.reducePow, reduceIte, decide_true, decide_false, reduceCtorEq]))) ?_
      rintro k ⟨hk, hc⟩
      by_cases hlt : k < vl.length
      · have hv := List.getElem?_eq_getElem hlt; have hd : decide ((k : Int) < (vl.length : Int)) = true := decide_eq_true (by omega)
        rw [drop_cons hv] at hc
        simp only [List.all_cons] at hc
        (try (simp (config := { maxSteps := 1000000 }) only [push_cast, Nat.reduceBEq, Nat.reduceBNe, Nat.reduceAdd, Nat.reduceSub, Nat.reduceMul, Nat.reduceLT, Nat.reduceLeDiff, Nat.reduceEqDiff, Nat.blt_eq, Int.reduceLT, Int.reduceLE, Int.reduceEq, Int.reduceToNat, Int.reduceNeg, Int.reduceAdd, Int.reduceSub, Int.reduceMul, Int.reducePow, reduceIte, decide_true, decide_false, reduceCtorEq, hd, getD_map hv]))
        (repeat ((with_reducible refine And.intro ?_ ?_); focus (first | trivial | omega | exact inK64 (by omega) (by omega) | exact inKu8 (by omega) (by omega))))
        (have hS := f85 vl[k] F.1 (h2 _ (List.getElem_mem hlt)); simp only [eS_eq, eN_eq, eV_eq, eRN_eq, eRV_eq, eC_eq, eRC_eq, List.map_cons, List.map_nil, i2, b2, s2] at hS; refine ⟨_, hS, rfl, ?_⟩; clear hS; try (simp (config := { maxSteps := 1000000 }) only [push_cast, Nat.reduceBEq, Nat.reduceBNe, Nat.reduceAdd, Nat.reduceSub, Nat.reduceMul, Nat.reduceLT, Nat.reduceLeDiff, Nat.reduceEqDiff, Nat.blt_eq, Int.reduceLT, Int.reduceLE, Int.reduceEq, Int.reduceToNat, Int.reduceNeg, Int.reduceAdd, Int.reduceSub, Int.reduceMul, Int.reducePow, reduceIte, decide_true, decide_false, reduceCtorEq]))
        refine BrP.mk (fun h => ?_) (fun h => ?_) <;> try (simp (config := { maxSteps := 1000000 }) only [push_cast, Nat.reduceBEq, Nat.reduceBNe, Nat.reduceAdd, Nat.reduceSub, Nat.reduceMul, Nat.reduceLT, Nat.reduceLeDiff, Nat.reduceEqDiff, Nat.blt_eq, Int.reduceLT, Int.reduceLE, Int.reduceEq, Int.reduceToNat, Int.reduceNeg, Int.reduceAdd, Int.reduceSub, Int.reduceMul, Int.reducePow, reduceIte, decide_true, decide_false, reduceCtorEq, h])
        · have h0 : fitsF vl[k] F.1 = false := by simpa using h
          rw [h0, Bool.false_and] at hc
          rw [if_neg (by rw [← hc]; decide)]
        · have h0 : fitsF vl[k] F.1 = true := by simpa using h
          rw [h0, Bool.true_and] at hc
          (repeat ((with_reducible refine And.intro ?_ ?_); focus (first | trivial | omega | exact inK64 (by omega) (by omega) | exact inKu8 (by omega) (by omega))))
          refine ⟨k + 1, ⟨by omega, hc⟩, by omega, Le.st ?_⟩
          (try (simp (config := { maxSteps := 1000000 }) only [push_cast, Nat.reduceBEq, Nat.reduceBNe, Nat.reduceAdd, Nat.reduceSub, Nat.reduceMul, Nat.reduceLT, Nat.reduceLeDiff, Nat.reduceEqDiff, Nat.blt_eq, Int.reduceLT, Int.reduceLE, Int.reduceEq, Int.reduceToNat, Int.reduceNeg, Int.reduceAdd, Int.reduceSub, Int.reduceMul, Int.reducePow, reduceIte, decide_true, decide_false, reduceCtorEq]))
      · have hd : decide ((k : Int) < (vl.length : Int)) = false := decide_eq_false (by omega)
        rw [List.drop_eq_nil_of_le (by omega)] at hc
        (try (simp (config := { maxSteps := 1000000 }) only [push_cast, Nat.reduceBEq, Nat.reduceBNe, Nat.reduceAdd, Nat.reduceSub, Nat.reduceMul, Nat.reduceLT, Nat.reduceLeDiff, Nat.reduceEqDiff, Nat.blt_eq, Int.reduceLT, Int.reduceLE, Int.reduceEq, Int.reduceToNat, Int.reduceNeg, Int.reduceAdd, Int.reduceSub, Int.reduceMul, Int.reducePow, reduceIte, decide_true, decide_false, reduceCtorEq, hd]))
        rw [← hc]; rfl
set_option maxHeartbeats 1000000 in
theorem f73_4 (col : ByteArray) (v : Vl) (vl : List Vl) (ks : List Nd) (l : List Cl) (hn : okNd (.mk 4 col v vl ks)) (hl : okCl l) : Spec V 73 [.ag ((eN (.mk 4 col v vl ks)).map .d), .c (.d (.sl 3 (l.map eC)))] (i2 .i64 (oneF (.mk 4 col v vl ks) l)) := by
  obtain ⟨h1, h2, h3, h4⟩ := okNd_v hn
  (refine Spec.of_go (L := fun | 0 => some [1, 2] | 1 => some [1, 2, 5, 6, 7, 8] | 2 => some [1, 2, 5, 6, 7, 8, 15] | 3 => some [4] | 4 => some [1, 2, 5, 6, 7, 8, 15, 16] | 5 => some [1, 2, 5, 6, 7, 8, 15, 18] | 6 => some [1, 2, 5, 6, 7, 8, 15, 18] | 7 => some [1, 2, 5, 6, 7, 8, 15, 18] | 8 => some [1, 2, 5, 6, 7, 8] | 9 => some [1, 2, 5, 6, 7, 8, 15, 22] | 10 => some [1, 2, 5, 6, 7, 8] | 11 => some [1, 2, 5, 6, 7, 8, 15, 24] | 12 => some [1, 2, 5, 6, 7, 8, 15, 24] | 13 => some [1, 2, 5, 6, 7, 8, 15, 24] | 14 => some [1, 2, 5, 6, 7, 8] | 15 => some [1, 2, 6, 8, 28] | 16 => some [1, 2, 5, 6, 7, 8] | 17 => some [1, 2, 5, 77] | 18 => some [4] | 19 => some [1, 2, 79] | 20 => some [4] | 21 => some [2, 9, 11] | 22 => some [2, 9, 89] | 23 => some [4] | 24 => some [2, 9, 94] | 25 => some [4] | 26 => some [9, 96, 97, 98] | 27 => some [9, 96, 97, 98, 99] | 28 => some [9, 13, 96, 97, 98] | 29 => some [9, 96, 97, 98, 105] | 30 => some [4] | 31 => some [9, 96, 97, 98] | 32 => some [4] | _ => none) 1000 Go.Proofs.Try.func73 rfl rfl ⟨Nat.le_of_ble_eq_true rfl, rfl⟩ rfl ?_; unfold Go.Proofs.Try.f73; simp (config := { maxSteps := 1000000 }) only [push_cast, Nat.reduceBEq, Nat.reduceBNe, Nat.reduceAdd, Nat.reduceSub, Nat.reduceMul, Nat.reduceLT, Nat.reduceLeDiff, Nat.reduceEqDiff, Nat.blt_eq, Int.reduceLT, Int.reduceLE, Int.reduceEq, Int.reduceToNat, Int.reduceNeg, Int.reduceAdd, Int.reduceSub, Int.reduceMul, Int.reducePow, reduceIte, decide_true, decide_false, reduceCtorEq])
  (repeat' (first | (simp (config := { maxSteps := 1000000 }) only [push_cast, Nat.reduceBEq, Nat.reduceBNe, Nat.reduceAdd, Nat.reduceSub, Nat.reduceMul, Nat.reduceLT, Nat.reduceLeDiff, Nat.reduceEqDiff, Nat.blt_eq, Int.reduceLT, Int.reduceLE, Int.reduceEq, Int.reduceToNat, Int.reduceNeg, Int.reduceAdd, Int.reduceSub, Int.reduceMul, Int.reducePow, reduceIte, decide_true, decide_false, reduceCtorEq]) | (refine BrP.mk (fun h => ?_) (fun h => ?_) <;> (try simp only [h]))))
  all_goals (try simp only [zeroV_fold, Bool.not_eq_true', Bool.not_eq_false', Bool.not_eq_eq_eq_not, Bool.not_true, Bool.not_false, decide_eq_true_eq, decide_eq_false_iff_not] at *)
  all_goals (try ((rcases vl with _ | ⟨x, vl⟩ <;> rcases ks with _ | ⟨y, ks⟩ <;> simp_all [oneF, op_mk, col_mk, v_mk, l_mk, ks_mk]); done))
  obtain ⟨F, hF⟩ : ∃ F, findF col l 0 = F := ⟨_, rfl⟩
  have hS := f62 l col hl.1
  rw [hF] at hS
  have e : oneF (.mk 4 col v vl ks) l = if F.2.2 = false then 16 else if fitsF v F.1 = false then 21 else if (vl.all fun v => fitsF v F.1) = true then 0 else 21 := by
    subst hF
    rcases vl with _ | ⟨x, vl⟩ <;> rcases ks with _ | ⟨y, ks⟩ <;> simp_all [oneF, tailF, op_mk, col_mk, v_mk, l_mk, ks_mk]
  rw [e]
  refine ⟨_, hS, rfl, ?_⟩
  clear hS e hF
  (try (simp (config := { maxSteps := 1000000 }) only [push_cast, Nat.reduceBEq, Nat.reduceBNe, Nat.reduceAdd, Nat.reduceSub, Nat.reduceMul, Nat.reduceLT, Nat.reduceLeDiff, Nat.reduceEqDiff, Nat.blt_eq, Int.reduceLT, Int.reduceLE, Int.reduceEq, Int.reduceToNat, Int.reduceNeg, Int.reduceAdd, Int.reduceSub, Int.reduceMul, Int.reducePow, reduceIte, decide_true, decide_false, reduceCtorEq]))
  refine BrP.mk (fun h => ?_) (fun h => ?_) <;> try (simp (config := { maxSteps := 1000000 }) only [push_cast, Nat.reduceBEq, Nat.reduceBNe, Nat.reduceAdd, Nat.reduceSub, Nat.reduceMul, Nat.reduceLT, Nat.reduceLeDiff, Nat.reduceEqDiff, Nat.blt_eq, Int.reduceLT, Int.reduceLE, Int.reduceEq, Int.reduceToNat, Int.reduceNeg, Int.reduceAdd, Int.reduceSub, Int.reduceMul, Int.reducePow, reduceIte, decide_true, decide_false, reduceCtorEq, h])
  · have h' : F.2.2 = false := by simpa using h
    simp [h']
  · have h' : F.2.2 = true := by simpa using h
    rw [if_neg (by simp [h'])]
    (have hS := f85 v F.1 h1; simp only [eS_eq, eN_eq, eV_eq, eRN_eq, eRV_eq, eC_eq, eRC_eq, List.map_cons, List.map_nil, i2, b2, s2] at hS; refine ⟨_, hS, rfl, ?_⟩; clear hS; try (simp (config := { maxSteps := 1000000 }) only [push_cast, Nat.reduceBEq, Nat.reduceBNe, Nat.reduceAdd, Nat.reduceSub, Nat.reduceMul, Nat.reduceLT, Nat.reduceLeDiff, Nat.reduceEqDiff, Nat.blt_eq, Int.reduceLT, Int.reduceLE, Int.reduceEq, Int.reduceToNat, Int.reduceNeg, Int.reduceAdd, Int.reduceSub, Int.reduceMul, Int.reducePow, reduceIte, decide_true, decide_false, reduceCtorEq]))
    refine BrP.mk (fun h => ?_) (fun h => ?_) <;> try (simp (config := { maxSteps := 1000000 }) only [push_cast, Nat.reduceBEq, Nat.reduceBNe, Nat.reduceAdd, Nat.reduceSub, Nat.reduceMul, Nat.reduceLT, Nat.reduceLeDiff, Nat.reduceEqDiff, Nat.blt_eq, Int.reduceLT, Int.reduceLE, Int.reduceEq, Int.reduceToNat, Int.reduceNeg, Int.reduceAdd, Int.reduceSub, Int.reduceMul, Int.reducePow, reduceIte, decide_true, decide_false, reduceCtorEq, h])
    · rw [if_pos (by simpa using h)]
    · rw [if_neg (by simpa using h)]
      refine LoopK.s1 (α := Nat) [98] (fun k => [i2 .i64 k]) (fun k => k ≤ vl.length ∧ ((vl.drop k).all fun v => fitsF v F.1) = (vl.all fun v => fitsF v F.1)) (fun k => vl.length - k) 1000 0 ⟨by omega, rfl⟩ (by (try (simp (config := { maxSteps := 1000000 }) only [push_cast, Nat.reduceBEq, Nat.reduceBNe, Nat.reduceAdd, Nat.reduceSub, Nat.reduceMul, Nat.reduceLT, Nat.reduceLeDiff, Nat.reduceEqDiff, Nat.blt_eq, Int.reduceLT, Int.reduceLE, Int.reduceEq, Int.reduceToNat, Int.reduceNeg, Int.reduceAdd, Int.reduceSub, Int.reduceMul, Int.reducePow, reduceIte, decide_true, decide_false, reduceCtorEq]))) ?_
      rintro k ⟨hk, hc⟩
      by_cases hlt : k < vl.length
      · have hv := List.getElem?_eq_getElem hlt; have hd : decide ((k : Int) < (vl.length : Int)) = true := decide_eq_true (by omega)
        rw [drop_cons hv] at hc
        simp only [List.all_cons] at hc
        (try (simp (config := { maxSteps := 1000000 }) only [push_cast, Nat.reduceBEq, Nat.reduceBNe, Nat.reduceAdd, Nat.reduceSub, Nat.reduceMul, Nat.reduceLT, Nat.reduceLeDiff, Nat.reduceEqDiff, Nat.blt_eq, Int.reduceLT, Int.reduceLE, Int.reduceEq, Int.reduceToNat, Int.reduceNeg, Int.reduceAdd, Int.reduceSub, Int.reduceMul, Int.reducePow, reduceIte, decide_true, decide_false, reduceCtorEq, hd, getD_map hv]))
        (repeat ((with_reducible refine And.intro ?_ ?_); focus (first | trivial | omega | exact inK64 (by omega) (by omega) | exact inKu8 (by omega) (by omega))))
        (have hS := f85 vl[k] F.1 (h2 _ (List.getElem_mem hlt)); simp only [eS_eq, eN_eq, eV_eq, eRN_eq, eRV_eq, eC_eq, eRC_eq, List.map_cons, List.map_nil, i2, b2, s2] at hS; refine ⟨_, hS, rfl, ?_⟩; clear hS; try (simp (config := { maxSteps := 1000000 }) only [push_cast, Nat.reduceBEq, Nat.reduceBNe, Nat.reduceAdd, Nat.reduceSub, Nat.reduceMul, Nat.reduceLT, Nat.reduceLeDiff, Nat.reduceEqDiff, Nat.blt_eq, Int.reduceLT, Int.reduceLE, Int.reduceEq, Int.reduceToNat, Int.reduceNeg, Int.reduceAdd, Int.reduceSub, Int.reduceMul, Int.reducePow, reduceIte, decide_true, decide_false, reduceCtorEq]))
        refine BrP.mk (fun h => ?_) (fun h => ?_) <;> try (simp (config := { maxSteps := 1000000 }) only [push_cast, Nat.reduceBEq, Nat.reduceBNe, Nat.reduceAdd, Nat.reduceSub, Nat.reduceMul, Nat.reduceLT, Nat.reduceLeDiff, Nat.reduceEqDiff, Nat.blt_eq, Int.reduceLT, Int.reduceLE, Int.reduceEq, Int.reduceToNat, Int.reduceNeg, Int.reduceAdd, Int.reduceSub, Int.reduceMul, Int.reducePow, reduceIte, decide_true, decide_false, reduceCtorEq, h])
        · have h0 : fitsF vl[k] F.1 = false := by simpa using h
          rw [h0, Bool.false_and] at hc
          rw [if_neg (by rw [← hc]; decide)]
        · have h0 : fitsF vl[k] F.1 = true := by simpa using h
          rw [h0, Bool.true_and] at hc
          (repeat ((with_reducible refine And.intro ?_ ?_); focus (first | trivial | omega | exact inK64 (by omega) (by omega) | exact inKu8 (by omega) (by omega))))
          refine ⟨k + 1, ⟨by omega, hc⟩, by omega, Le.st ?_⟩
          (try (simp (config := { maxSteps := 1000000 }) only [push_cast, Nat.reduceBEq, Nat.reduceBNe, Nat.reduceAdd, Nat.reduceSub, Nat.reduceMul, Nat.reduceLT, Nat.reduceLeDiff, Nat.reduceEqDiff, Nat.blt_eq, Int.reduceLT, Int.reduceLE, Int.reduceEq, Int.reduceToNat, Int.reduceNeg, Int.reduceAdd, Int.reduceSub, Int.reduceMul, Int.reducePow, reduceIte, decide_true, decide_false, reduceCtorEq]))
      · have hd : decide ((k : Int) < (vl.length : Int)) = false := decide_eq_false (by omega)
        rw [List.drop_eq_nil_of_le (by omega)] at hc
        (try (simp (config := { maxSteps := 1000000 }) only [push_cast, Nat.reduceBEq, Nat.reduceBNe, Nat.reduceAdd, Nat.reduceSub, Nat.reduceMul, Nat.reduceLT, Nat.reduceLeDiff, Nat.reduceEqDiff, Nat.blt_eq, Int.reduceLT, Int.reduceLE, Int.reduceEq, Int.reduceToNat, Int.reduceNeg, Int.reduceAdd, Int.reduceSub, Int.reduceMul, Int.reducePow, reduceIte, decide_true, decide_false, reduceCtorEq, hd]))
        rw [← hc]; rfl
set_option maxHeartbeats 1000000 in
theorem f73_8 (col : ByteArray) (v : Vl) (vl : List Vl) (ks : List Nd) (l : List Cl) (hn : okNd (.mk 8 col v vl ks)) (hl : okCl l) : Spec V 73 [.ag ((eN (.mk 8 col v vl ks)).map .d), .c (.d (.sl 3 (l.map eC)))] (i2 .i64 (oneF (.mk 8 col v vl ks) l)) := by
  obtain ⟨h1, h2, h3, h4⟩ := okNd_v hn
  (refine Spec.of_go (L := fun | 0 => some [1, 2] | 1 => some [1, 2, 5, 6, 7, 8] | 2 => some [1, 2, 5, 6, 7, 8, 15] | 3 => some [4] | 4 => some [1, 2, 5, 6, 7, 8, 15, 16] | 5 => some [1, 2, 5, 6, 7, 8, 15, 18] | 6 => some [1, 2, 5, 6, 7, 8, 15, 18] | 7 => some [1, 2, 5, 6, 7, 8, 15, 18] | 8 => some [1, 2, 5, 6, 7, 8] | 9 => some [1, 2, 5, 6, 7, 8, 15, 22] | 10 => some [1, 2, 5, 6, 7, 8] | 11 => some [1, 2, 5, 6, 7, 8, 15, 24] | 12 => some [1, 2, 5, 6, 7, 8, 15, 24] | 13 => some [1, 2, 5, 6, 7, 8, 15, 24] | 14 => some [1, 2, 5, 6, 7, 8] | 15 => some [1, 2, 6, 8, 28] | 16 => some [1, 2, 5, 6, 7, 8] | 17 => some [1, 2, 5, 77] | 18 => some [4] | 19 => some [1, 2, 79] | 20 => some [4] | 21 => some [2, 9, 11] | 22 => some [2, 9, 89] | 23 => some [4] | 24 => some [2, 9, 94] | 25 => some [4] | 26 => some [9, 96, 97, 98] | 27 => some [9, 96, 97, 98, 99] | 28 => some [9, 13, 96, 97, 98] | 29 => some [9, 96, 97, 98, 105] | 30 => some [4] | 31 => some [9, 96, 97, 98] | 32 => some [4] | _ => none) 1000 Go.Proofs.Try.func73 rfl rfl ⟨Nat.le_of_ble_eq_true rfl, rfl⟩ rfl ?_; unfold Go.Proofs.Try.f73; simp (config := { maxSteps := 1000000 }) only [push_cast, Nat.reduceBEq, Nat.reduceBNe, Nat.reduceAdd, Nat.reduceSub, Nat.reduceMul, Nat.reduceLT, Nat.reduceLeDiff, Nat.reduceEqDiff, Nat.blt_eq, Int.reduceLT, Int.reduceLE, Int.reduceEq, Int.reduceToNat, Int.reduceNeg, Int.reduceAdd, Int.reduceSub, Int.reduceMul, Int.reducePow, reduceIte, decide_true, decide_false, reduceCtorEq])
  (repeat' (first | (simp (config := { maxSteps := 1000000 }) only [push_cast, Nat.reduceBEq, Nat.reduceBNe, Nat.reduceAdd, Nat.reduceSub, Nat.reduceMul, Nat.reduceLT, Nat.reduceLeDiff, Nat.reduceEqDiff, Nat.blt_eq, Int.reduceLT, Int.reduceLE, Int.reduceEq, Int.reduceToNat, Int.reduceNeg, Int.reduceAdd, Int.reduceSub, Int.reduceMul, Int.reducePow, reduceIte, decide_true, decide_false, reduceCtorEq]) | (refine BrP.mk (fun h => ?_) (fun h => ?_) <;> (try simp only [h]))))
  all_goals (try simp only [zeroV_fold, Bool.not_eq_true', Bool.not_eq_false', Bool.not_eq_eq_eq_not, Bool.not_true, Bool.not_false, decide_eq_true_eq, decide_eq_false_iff_not] at *)
  all_goals (try ((rcases vl with _ | ⟨x, vl⟩ <;> rcases ks with _ | ⟨y, ks⟩ <;> simp_all [oneF, op_mk, col_mk, v_mk, l_mk, ks_mk]); done))
  obtain ⟨F, hF⟩ : ∃ F, findF col l 0 = F := ⟨_, rfl⟩
  have hS := f62 l col hl.1
  rw [hF] at hS
  have e : oneF (.mk 8 col v vl ks) l = if F.2.2 = false then 16 else if fitsF v F.1 = false then 21 else if (vl.all fun v => fitsF v F.1) = true then 0 else 21 := by
    subst hF
    rcases vl with _ | ⟨x, vl⟩ <;> rcases ks with _ | ⟨y, ks⟩ <;> simp_all [oneF, tailF, op_mk, col_mk, v_mk, l_mk, ks_mk]
  rw [e]
  refine ⟨_, hS, rfl, ?_⟩
  clear hS e hF
  (try (simp (config := { maxSteps := 1000000 }) only [push_cast, Nat.reduceBEq, Nat.reduceBNe, Nat.reduceAdd, Nat.reduceSub, Nat.reduceMul, Nat.reduceLT, Nat.reduceLeDiff, Nat.reduceEqDiff, Nat.blt_eq, Int.reduceLT, Int.reduceLE, Int.reduceEq, Int.reduceToNat, Int.reduceNeg, Int.reduceAdd, Int.reduceSub, Int.reduceMul, Int.reducePow, reduceIte, decide_true, decide_false, reduceCtorEq]))
  refine BrP.mk (fun h => ?_) (fun h => ?_) <;> try (simp (config := { maxSteps := 1000000 }) only [push_cast, Nat.reduceBEq, Nat.reduceBNe, Nat.reduceAdd, Nat.reduceSub, Nat.reduceMul, Nat.reduceLT, Nat.reduceLeDiff, Nat.reduceEqDiff, Nat.blt_eq, Int.reduceLT, Int.reduceLE, Int.reduceEq, Int.reduceToNat, Int.reduceNeg, Int.reduceAdd, Int.reduceSub, Int.reduceMul, Int.reducePow, reduceIte, decide_true, decide_false, reduceCtorEq, h])
  · have h' : F.2.2 = false := by simpa using h
    simp [h']
  · have h' : F.2.2 = true := by simpa using h
    rw [if_neg (by simp [h'])]
    (have hS := f85 v F.1 h1; simp only [eS_eq, eN_eq, eV_eq, eRN_eq, eRV_eq, eC_eq, eRC_eq, List.map_cons, List.map_nil, i2, b2, s2] at hS; refine ⟨_, hS, rfl, ?_⟩; clear hS; try (simp (config := { maxSteps := 1000000 }) only [push_cast, Nat.reduceBEq, Nat.reduceBNe, Nat.reduceAdd, Nat.reduceSub, Nat.reduceMul, Nat.reduceLT, Nat.reduceLeDiff, Nat.reduceEqDiff, Nat.blt_eq, Int.reduceLT, Int.reduceLE, Int.reduceEq, Int.reduceToNat, Int.reduceNeg, Int.reduceAdd, Int.reduceSub, Int.reduceMul, Int.reducePow, reduceIte, decide_true, decide_false, reduceCtorEq]))
    refine BrP.mk (fun h => ?_) (fun h => ?_) <;> try (simp (config := { maxSteps := 1000000 }) only [push_cast, Nat.reduceBEq, Nat.reduceBNe, Nat.reduceAdd, Nat.reduceSub, Nat.reduceMul, Nat.reduceLT, Nat.reduceLeDiff, Nat.reduceEqDiff, Nat.blt_eq, Int.reduceLT, Int.reduceLE, Int.reduceEq, Int.reduceToNat, Int.reduceNeg, Int.reduceAdd, Int.reduceSub, Int.reduceMul, Int.reducePow, reduceIte, decide_true, decide_false, reduceCtorEq, h])
    · rw [if_pos (by simpa using h)]
    · rw [if_neg (by simpa using h)]
      refine LoopK.s1 (α := Nat) [98] (fun k => [i2 .i64 k]) (fun k => k ≤ vl.length ∧ ((vl.drop k).all fun v => fitsF v F.1) = (vl.all fun v => fitsF v F.1)) (fun k => vl.length - k) 1000 0 ⟨by omega, rfl⟩ (by (try (simp (config := { maxSteps := 1000000 }) only [push_cast, Nat.reduceBEq, Nat.reduceBNe, Nat.reduceAdd, Nat.reduceSub, Nat.reduceMul, Nat.reduceLT, Nat.reduceLeDiff, Nat.reduceEqDiff, Nat.blt_eq, Int.reduceLT, Int.reduceLE, Int.reduceEq, Int.reduceToNat, Int.reduceNeg, Int.reduceAdd, Int.reduceSub, Int.reduceMul, Int.reducePow, reduceIte, decide_true, decide_false, reduceCtorEq]))) ?_
      rintro k ⟨hk, hc⟩
      by_cases hlt : k < vl.length
      · have hv := List.getElem?_eq_getElem hlt; have hd : decide ((k : Int) < (vl.length : Int)) = true := decide_eq_true (by omega)
        rw [drop_cons hv] at hc
        simp only [List.all_cons] at hc
        (try (simp (config := { maxSteps := 1000000 }) only [push_cast, Nat.reduceBEq, Nat.reduceBNe, Nat.reduceAdd, Nat.reduceSub, Nat.reduceMul, Nat.reduceLT, Nat.reduceLeDiff, Nat.reduceEqDiff, Nat.blt_eq, Int.reduceLT, Int.reduceLE, Int.reduceEq, Int.reduceToNat, Int.reduceNeg, Int.reduceAdd, Int.reduceSub, Int.reduceMul, Int.reducePow, reduceIte, decide_true, decide_false, reduceCtorEq, hd, getD_map hv]))
        (repeat ((with_reducible refine And.intro ?_ ?_); focus (first | trivial | omega | exact inK64 (by omega) (by omega) | exact inKu8 (by omega) (by omega))))
        (have hS := f85 vl[k] F.1 (h2 _ (List.getElem_mem hlt)); simp only [eS_eq, eN_eq, eV_eq, eRN_eq, eRV_eq, eC_eq, eRC_eq, List.map_cons, List.map_nil, i2, b2, s2] at hS; refine ⟨_, hS, rfl, ?_⟩; clear hS; try (simp (config := { maxSteps := 1000000 }) only [push_cast, Nat.reduceBEq, Nat.reduceBNe, Nat.reduceAdd, Nat.reduceSub, Nat.reduceMul, Nat.reduceLT, Nat.reduceLeDiff, Nat.reduceEqDiff, Nat.blt_eq, Int.reduceLT, Int.reduceLE, Int.reduceEq, Int.reduceToNat, Int.reduceNeg, Int.reduceAdd, Int.reduceSub, Int.reduceMul, Int.reducePow, reduceIte, decide_true, decide_false, reduceCtorEq]))
        refine BrP.mk (fun h => ?_) (fun h => ?_) <;> try (simp (config := { maxSteps := 1000000 }) only [push_cast, Nat.reduceBEq, Nat.reduceBNe, Nat.reduceAdd, Nat.reduceSub, Nat.reduceMul, Nat.reduceLT, Nat.reduceLeDiff, Nat.reduceEqDiff, Nat.blt_eq, Int.reduceLT, Int.reduceLE, Int.reduceEq, Int.reduceToNat, Int.reduceNeg, Int.reduceAdd, Int.reduceSub, Int.reduceMul, Int.reducePow, reduceIte, decide_true, decide_false, reduceCtorEq, h])
        · have h0 : fitsF vl[k] F.1 = false := by simpa using h
          rw [h0, Bool.false_and] at hc
          rw [if_neg (by rw [← hc]; decide)]
        · have h0 : fitsF vl[k] F.1 = true := by simpa using h
          rw [h0, Bool.true_and] at hc
          (repeat ((with_reducible refine And.intro ?_ ?_); focus (first | trivial | omega | exact inK64 (by omega) (by omega) | exact inKu8 (by omega) (by omega))))
          refine ⟨k + 1, ⟨by omega, hc⟩, by omega, Le.st ?_⟩
          (try (simp (config := { maxSteps := 1000000 }) only [push_cast, Nat.reduceBEq, Nat.reduceBNe, Nat.reduceAdd, Nat.reduceSub, Nat.reduceMul, Nat.reduceLT, Nat.reduceLeDiff, Nat.reduceEqDiff, Nat.blt_eq, Int.reduceLT, Int.reduceLE, Int.reduceEq, Int.reduceToNat, Int.reduceNeg, Int.reduceAdd, Int.reduceSub, Int.reduceMul, Int.reducePow, reduceIte, decide_true, decide_false, reduceCtorEq]))
      · have hd : decide ((k : Int) < (vl.length : Int)) = false := decide_eq_false (by omega)
        rw [List.drop_eq_nil_of_le (by omega)] at hc
        (try (simp (config := { maxSteps := 1000000 }) only [push_cast, Nat.reduceBEq, Nat.reduceBNe, Nat.reduceAdd, Nat.reduceSub, Nat.reduceMul, Nat.reduceLT, Nat.reduceLeDiff, Nat.reduceEqDiff, Nat.blt_eq, Int.reduceLT, Int.reduceLE, Int.reduceEq, Int.reduceToNat, Int.reduceNeg, Int.reduceAdd, Int.reduceSub, Int.reduceMul, Int.reducePow, reduceIte, decide_true, decide_false, reduceCtorEq, hd]))
        rw [← hc]; rfl
theorem f73 (n : Nd) (l : List Cl) (hn : okNd n) (hl : okCl l) : Spec V 73 [.ag ((eN n).map .d), .c (.d (.sl 3 (l.map eC)))] (i2 .i64 (oneF n l)) := by
  obtain ⟨op, col, v, vl, ks⟩ := n
  by_cases h0 : op = 0
  · subst h0; exact f73_0 col v vl ks l
  by_cases h1 : op = 1
  · subst h1; exact f73_1 col v vl ks l hn hl
  by_cases h2 : op = 2
  · subst h2; exact f73_2 col v vl ks l hn hl
  by_cases h3 : op = 3
  · subst h3; exact f73_3 col v vl ks l hn hl
  by_cases h4 : op = 4
  · subst h4; exact f73_4 col v vl ks l hn hl
  by_cases h5 : op = 5
  · subst h5; exact f73_5 col v vl ks l
  by_cases h6 : op = 6
  · subst h6; exact f73_6 col v vl ks l
  by_cases h7 : op = 7
  · subst h7; exact f73_7 col v vl ks l
  by_cases h8 : op = 8
  · subst h8; exact f73_8 col v vl ks l hn hl
  have e : oneF (.mk op col v vl ks) l = 22 := by simp [oneF, op_mk, h0, h1, h2, h3, h4, h5, h6, h7, h8]
  rw [e]
  have d0 := decide_eq_false h0
  have d1 := decide_eq_false h1
  have d2 := decide_eq_false h2
  have d3 := decide_eq_false h3
  have d4 := decide_eq_false h4
  have d5 := decide_eq_false h5
  have d6 := decide_eq_false h6
  have d7 := decide_eq_false h7
  have d8 := decide_eq_false h8
  (refine Spec.of_go (L := fun | 0 => some [1, 2] | 1 => some [1, 2, 5, 6, 7, 8] | 2 => some [1, 2, 5, 6, 7, 8, 15] | 3 => some [4] | 4 => some [1, 2, 5, 6, 7, 8, 15, 16] | 5 => some [1, 2, 5, 6, 7, 8, 15, 18] | 6 => some [1, 2, 5, 6, 7, 8, 15, 18] | 7 => some [1, 2, 5, 6, 7, 8, 15, 18] | 8 => some [1, 2, 5, 6, 7, 8] | 9 => some [1, 2, 5, 6, 7, 8, 15, 22] | 10 => some [1, 2, 5, 6, 7, 8] | 11 => some [1, 2, 5, 6, 7, 8, 15, 24] | 12 => some [1, 2, 5, 6, 7, 8, 15, 24] | 13 => some [1, 2, 5, 6, 7, 8, 15, 24] | 14 => some [1, 2, 5, 6, 7, 8] | 15 => some [1, 2, 6, 8, 28] | 16 => some [1, 2, 5, 6, 7, 8] | 17 => some [1, 2, 5, 77] | 18 => some [4] | 19 => some [1, 2, 79] | 20 => some [4] | 21 => some [2, 9, 11] | 22 => some [2, 9, 89] | 23 => some [4] | 24 => some [2, 9, 94] | 25 => some [4] | 26 => some [9, 96, 97, 98] | 27 => some [9, 96, 97, 98, 99] | 28 => some [9, 13, 96, 97, 98] | 29 => some [9, 96, 97, 98, 105] | 30 => some [4] | 31 => some [9, 96, 97, 98] | 32 => some [4] | _ => none) 1000 Go.Proofs.Try.func73 rfl rfl ⟨Nat.le_of_ble_eq_true rfl, rfl⟩ rfl ?_; unfold Go.Proofs.Try.f73; simp (config := { maxSteps := 1000000 }) only [push_cast, Nat.reduceBEq, Nat.reduceBNe, Nat.reduceAdd, Nat.reduceSub, Nat.reduceMul, Nat.reduceLT, Nat.reduceLeDiff, Nat.reduceEqDiff, Nat.blt_eq, Int.reduceLT, Int.reduceLE, Int.reduceEq, Int.reduceToNat, Int.reduceNeg, Int.reduceAdd, Int.reduceSub, Int.reduceMul, Int.reducePow, reduceIte, decide_true, decide_false, reduceCtorEq])
  simp only [d0, d1, d2, d3, d4, d5, d6, d7, d8]
  (try (simp (config := { maxSteps := 1000000 }) only [push_cast, Nat.reduceBEq, Nat.reduceBNe, Nat.reduceAdd, Nat.reduceSub, Nat.reduceMul, Nat.reduceLT, Nat.reduceLeDiff, Nat.reduceEqDiff, Nat.blt_eq, Int.reduceLT, Int.reduceLE, Int.reduceEq, Int.reduceToNat, Int.reduceNeg, Int.reduceAdd, Int.reduceSub, Int.reduceMul, Int.reducePow, reduceIte, decide_true, decide_false, reduceCtorEq, d0, d1, d2, d3, d4, d5, d6, d7, d8]))
end Go.LS.Try
