/- Contracts of the functions of the seat, one by one (part S9); no condition but those that each bears. -/
import Derived.Test.YtfmbjaeppffdpaaS8
namespace Go.LS.Try
open Go Go.LS
set_option maxRecDepth 100000
set_option linter.unusedSimpArgs false
set_option linter.unusedVariables false

theorem f74_0 (col : ByteArray) (v : Vl) (vl : List Vl) (ks : List Nd) (l : List Cl) : Spec V 74 [.ag ((eRN (.mk 0 col v vl ks)).map .d), .c (.d (.sl 3 (l.map eRC)))] (i2 .i64 (oneF (.mk 0 col v vl ks) l)) := by
  (refine Spec.of_go (L := fun | 0 => some [1, 2] | 1 => some [1, 2, 5] | 2 => some [1, 2, 6, 7, 8, 9] | 3 => some [1, 2, 6, 7, 8, 9, 30] | 4 => some [4] | 5 => some [1, 2, 6, 7, 8, 9, 30, 31] | 6 => some [43] | 7 => some [4] | 8 => some [4] | 9 => some [1, 2, 6, 7, 8, 9, 30, 44] | 10 => some [1, 2, 6, 7, 8, 9, 30, 44] | 11 => some [1, 2, 6, 7, 8, 9, 30, 44] | 12 => some [1, 2, 52] | 13 => some [4] | 14 => some [1, 2, 6, 7, 8, 9, 30, 53] | 15 => some [1, 2, 62] | 16 => some [4] | 17 => some [1, 2, 6, 7, 8, 9, 30, 63] | 18 => some [75] | 19 => some [4] | 20 => some [4] | 21 => some [1, 2, 6, 7, 8, 9, 30, 76] | 22 => some [1, 2, 6, 7, 8, 9, 30, 76] | 23 => some [85] | 24 => some [4] | 25 => some [4] | 26 => some [1, 2, 6, 9, 86] | 27 => some [1, 2, 92] | 28 => some [4] | 29 => some [1, 2, 10] | 30 => some [1, 2, 10, 99] | 31 => some [4] | 32 => some [1, 2, 10, 11] | 33 => some [1, 10, 11] | 34 => some [1, 10, 108, 109, 110] | 35 => some [1, 10, 108, 109, 110, 111] | 36 => some [1, 10, 13, 108, 109, 110] | 37 => some [1, 10, 108, 109, 110, 131] | 38 => some [4] | 39 => some [1, 10, 108, 109, 110] | 40 => some [4] | _ => none) 1000 Go.Proofs.Try.func74 rfl rfl ⟨Nat.le_of_ble_eq_true rfl, rfl⟩ rfl ?_; unfold Go.Proofs.Try.f74; simp (config := { maxSteps := 1000000 }) only [push_cast, Nat.reduceBEq, Nat.reduceBNe, Nat.reduceAdd, Nat.reduceSub, Nat.reduceMul, Nat.reduceLT, Nat.reduceLeDiff, Nat.reduceEqDiff, Nat.blt_eq, Int.reduceLT, Int.reduceLE, Int.reduceEq, Int.reduceToNat, Int.reduceNeg, Int.reduceAdd, Int.reduceSub, Int.reduceMul, Int.reducePow, reduceIte, decide_true, decide_false, reduceCtorEq])
  (refine DrawK.of (.take 0 (.take 1 (.take 2 (.take 3 (.take 4 (.take 5 (.take 6 (.take 7 (.take 8 (.take 9 (.take 10 (.take 11 (.take 12 (.take 13 (.take 14 (.take 15 (.take 16 (.take 17 .done)))))))))))))))))) 1000 (by decide +kernel) ?_; try (simp (config := { maxSteps := 1000000 }) only [push_cast, Nat.reduceBEq, Nat.reduceBNe, Nat.reduceAdd, Nat.reduceSub, Nat.reduceMul, Nat.reduceLT, Nat.reduceLeDiff, Nat.reduceEqDiff, Nat.blt_eq, Int.reduceLT, Int.reduceLE, Int.reduceEq, Int.reduceToNat, Int.reduceNeg, Int.reduceAdd, Int.reduceSub, Int.reduceMul, Int.reducePow, reduceIte, decide_true, decide_false, reduceCtorEq]))
  (repeat' (first | (simp (config := { maxSteps := 1000000 }) only [push_cast, Nat.reduceBEq, Nat.reduceBNe, Nat.reduceAdd, Nat.reduceSub, Nat.reduceMul, Nat.reduceLT, Nat.reduceLeDiff, Nat.reduceEqDiff, Nat.blt_eq, Int.reduceLT, Int.reduceLE, Int.reduceEq, Int.reduceToNat, Int.reduceNeg, Int.reduceAdd, Int.reduceSub, Int.reduceMul, Int.reducePow, reduceIte, decide_true, decide_false, reduceCtorEq]) | (refine BrP.mk (fun h => ?_) (fun h => ?_) <;> (try simp only [h]))))
  all_goals (try simp only [zeroV_ref, Bool.not_eq_true', Bool.not_eq_false', Bool.not_eq_eq_eq_not, Bool.not_true, Bool.not_false, decide_eq_true_eq, decide_eq_false_iff_not] at *)
  all_goals rw [one_mk]
  all_goals (try (rcases vl with _ | ⟨x, vl⟩ <;> simp_all <;> (try omega)))
  all_goals (try (rcases ks with _ | ⟨x, ks⟩ <;> simp_all <;> (try omega)))
theorem f74_5 (col : ByteArray) (v : Vl) (vl : List Vl) (ks : List Nd) (l : List Cl) : Spec V 74 [.ag ((eRN (.mk 5 col v vl ks)).map .d), .c (.d (.sl 3 (l.map eRC)))] (i2 .i64 (oneF (.mk 5 col v vl ks) l)) := by
  (refine Spec.of_go (L := fun | 0 => some [1, 2] | 1 => some [1, 2, 5] | 2 => some [1, 2, 6, 7, 8, 9] | 3 => some [1, 2, 6, 7, 8, 9, 30] | 4 => some [4] | 5 => some [1, 2, 6, 7, 8, 9, 30, 31] | 6 => some [43] | 7 => some [4] | 8 => some [4] | 9 => some [1, 2, 6, 7, 8, 9, 30, 44] | 10 => some [1, 2, 6, 7, 8, 9, 30, 44] | 11 => some [1, 2, 6, 7, 8, 9, 30, 44] | 12 => some [1, 2, 52] | 13 => some [4] | 14 => some [1, 2, 6, 7, 8, 9, 30, 53] | 15 => some [1, 2, 62] | 16 => some [4] | 17 => some [1, 2, 6, 7, 8, 9, 30, 63] | 18 => some [75] | 19 => some [4] | 20 => some [4] | 21 => some [1, 2, 6, 7, 8, 9, 30, 76] | 22 => some [1, 2, 6, 7, 8, 9, 30, 76] | 23 => some [85] | 24 => some [4] | 25 => some [4] | 26 => some [1, 2, 6, 9, 86] | 27 => some [1, 2, 92] | 28 => some [4] | 29 => some [1, 2, 10] | 30 => some [1, 2, 10, 99] | 31 => some [4] | 32 => some [1, 2, 10, 11] | 33 => some [1, 10, 11] | 34 => some [1, 10, 108, 109, 110] | 35 => some [1, 10, 108, 109, 110, 111] | 36 => some [1, 10, 13, 108, 109, 110] | 37 => some [1, 10, 108, 109, 110, 131] | 38 => some [4] | 39 => some [1, 10, 108, 109, 110] | 40 => some [4] | _ => none) 1000 Go.Proofs.Try.func74 rfl rfl ⟨Nat.le_of_ble_eq_true rfl, rfl⟩ rfl ?_; unfold Go.Proofs.Try.f74; simp (config := { maxSteps := 1000000 }) only [push_cast, Nat.reduceBEq, Nat.reduceBNe, Nat.reduceAdd, Nat.reduceSub, Nat.reduceMul, Nat.reduceLT, Nat.reduceLeDiff, Nat.reduceEqDiff, Nat.blt_eq, Int.reduceLT, Int.reduceLE, Int.reduceEq, Int.reduceToNat, Int.reduceNeg, Int.reduceAdd, Int.reduceSub, Int.reduceMul, Int.reducePow, reduceIte, decide_true, decide_false, reduceCtorEq])
  (refine DrawK.of (.take 0 (.take 1 (.take 2 (.take 3 (.take 4 (.take 5 (.take 6 (.take 7 (.take 8 (.take 9 (.take 10 (.take 11 (.take 12 (.take 13 (.take 14 (.take 15 (.take 16 (.take 17 .done)))))))))))))))))) 1000 (by decide +kernel) ?_; try (simp (config := { maxSteps := 1000000 }) only [push_cast, Nat.reduceBEq, Nat.reduceBNe, Nat.reduceAdd, Nat.reduceSub, Nat.reduceMul, Nat.reduceLT, Nat.reduceLeDiff, Nat.reduceEqDiff, Nat.blt_eq, Int.reduceLT, Int.reduceLE, Int.reduceEq, Int.reduceToNat, Int.reduceNeg, Int.reduceAdd, Int.reduceSub, Int.reduceMul, Int.reducePow, reduceIte, decide_true, decide_false, reduceCtorEq]))
  (repeat' (first | (simp (config := { maxSteps := 1000000 }) only [push_cast, Nat.reduceBEq, Nat.reduceBNe, Nat.reduceAdd, Nat.reduceSub, Nat.reduceMul, Nat.reduceLT, Nat.reduceLeDiff, Nat.reduceEqDiff, Nat.blt_eq, Int.reduceLT, Int.reduceLE, Int.reduceEq, Int.reduceToNat, Int.reduceNeg, Int.reduceAdd, Int.reduceSub, Int.reduceMul, Int.reducePow, reduceIte, decide_true, decide_false, reduceCtorEq]) | (refine BrP.mk (fun h => ?_) (fun h => ?_) <;> (try simp only [h]))))
  all_goals (try simp only [zeroV_ref, Bool.not_eq_true', Bool.not_eq_false', Bool.not_eq_eq_eq_not, Bool.not_true, Bool.not_false, decide_eq_true_eq, decide_eq_false_iff_not] at *)
  all_goals rw [one_mk]
  all_goals (try (rcases vl with _ | ⟨x, vl⟩ <;> simp_all <;> (try omega)))
  all_goals (try (rcases ks with _ | ⟨x, ks⟩ <;> simp_all <;> (try omega)))
theorem f74_6 (col : ByteArray) (v : Vl) (vl : List Vl) (ks : List Nd) (l : List Cl) : Spec V 74 [.ag ((eRN (.mk 6 col v vl ks)).map .d), .c (.d (.sl 3 (l.map eRC)))] (i2 .i64 (oneF (.mk 6 col v vl ks) l)) := by
  (refine Spec.of_go (L := fun | 0 => some [1, 2] | 1 => some [1, 2, 5] | 2 => some [1, 2, 6, 7, 8, 9] | 3 => some [1, 2, 6, 7, 8, 9, 30] | 4 => some [4] | 5 => some [1, 2, 6, 7, 8, 9, 30, 31] | 6 => some [43] | 7 => some [4] | 8 => some [4] | 9 => some [1, 2, 6, 7, 8, 9, 30, 44] | 10 => some [1, 2, 6, 7, 8, 9, 30, 44] | 11 => some [1, 2, 6, 7, 8, 9, 30, 44] | 12 => some [1, 2, 52] | 13 => some [4] | 14 => some [1, 2, 6, 7, 8, 9, 30, 53] | 15 => some [1, 2, 62] | 16 => some [4] | 17 => some [1, 2, 6, 7, 8, 9, 30, 63] | 18 => some [75] | 19 => some [4] | 20 => some [4] | 21 => some [1, 2, 6, 7, 8, 9, 30, 76] | 22 => some [1, 2, 6, 7, 8, 9, 30, 76] | 23 => some [85] | 24 => some [4] | 25 => some [4] | 26 => some [1, 2, 6, 9, 86] | 27 => some [1, 2, 92] | 28 => some [4] | 29 => some [1, 2, 10] | 30 => some [1, 2, 10, 99] | 31 => some [4] | 32 => some [1, 2, 10, 11] | 33 => some [1, 10, 11] | 34 => some [1, 10, 108, 109, 110] | 35 => some [1, 10, 108, 109, 110, 111] | 36 => some [1, 10, 13, 108, 109, 110] | 37 => some [1, 10, 108, 109, 110, 131] | 38 => some [4] | 39 => some [1, 10, 108, 109, 110] | 40 => some [4] | _ => none) 1000 Go.Proofs.Try.func74 rfl rfl ⟨Nat.le_of_ble_eq_true rfl, rfl⟩ rfl ?_; unfold Go.Proofs.Try.f74; simp (config := { maxSteps := 1000000 }) only [push_cast, Nat.reduceBEq, Nat.reduceBNe, Nat.reduceAdd, Nat.reduceSub, Nat.reduceMul, Nat.reduceLT, Nat.reduceLeDiff, Nat.reduceEqDiff, Nat.blt_eq, Int.reduceLT, Int.reduceLE, Int.reduceEq, Int.reduceToNat, Int.reduceNeg, Int.reduceAdd, Int.reduceSub, Int.reduceMul, Int.reducePow, reduceIte, decide_true, decide_false, reduceCtorEq])
  (refine DrawK.of (.take 0 (.take 1 (.take 2 (.take 3 (.take 4 (.take 5 (.take 6 (.take 7 (.take 8 (.take 9 (.take 10 (.take 11 (.take 12 (.take 13 (.take 14 (.take 15 (.take 16 (.take 17 .done)))))))))))))))))) 1000 (by decide +kernel) ?_; try (simp (config := { maxSteps := 1000000 }) only [push_cast, Nat.reduceBEq, Nat.reduceBNe, Nat.reduceAdd, Nat.reduceSub, Nat.reduceMul, Nat.reduceLT, Nat.reduceLeDiff, Nat.reduceEqDiff, Nat.blt_eq, Int.reduceLT, Int.reduceLE, Int.reduceEq, Int.reduceToNat, Int.reduceNeg, Int.reduceAdd, Int.reduceSub, Int.reduceMul, Int.reducePow, reduceIte, decide_true, decide_false, reduceCtorEq]))
  (repeat' (first | (simp (config := { maxSteps := 1000000 }) only [push_cast, Nat.reduceBEq, Nat.reduceBNe, Nat.reduceAdd, Nat.reduceSub, Nat.reduceMul, Nat.reduceLT, Nat.reduceLeDiff, Nat.reduceEqDiff, Nat.blt_eq, Int.reduceLT, Int.reduceLE, Int.reduceEq, Int.reduceToNat, Int.reduceNeg, Int.reduceAdd, Int.reduceSub, Int.reduceMul, Int.reducePow, reduceIte, decide_true, decide_false, reduceCtorEq]) | (refine BrP.mk (fun h => ?_) (fun h => ?_) <;> (try simp only [h]))))
  all_goals (try simp only [zeroV_ref, Bool.not_eq_true', Bool.not_eq_false', Bool.not_eq_eq_eq_not, Bool.not_true, Bool.not_false, decide_eq_true_eq, decide_eq_false_iff_not] at *)
  all_goals rw [one_mk]
  all_goals (try (rcases vl with _ | ⟨x, vl⟩ <;> simp_all <;> (try omega)))
  all_goals (try (rcases ks with _ | ⟨x, ks⟩ <;> simp_all <;> (try omega)))
theorem f74_7 (col : ByteArray) (v : Vl) (vl : List Vl) (ks : List Nd) (l : List Cl) : Spec V 74 [.ag ((eRN (.mk 7 col v vl ks)).map .d), .c (.d (.sl 3 (l.map eRC)))] (i2 .i64 (oneF (.mk 7 col v vl ks) l)) := by
  (refine Spec.of_go (L := fun | 0 => some [1, 2] | 1 => some [1, 2, 5] | 2 => some [1, 2, 6, 7, 8, 9] | 3 => some [1, 2, 6, 7, 8, 9, 30] | 4 => some [4] | 5 => some [1, 2, 6, 7, 8, 9, 30, 31] | 6 => some [43] | 7 => some [4] | 8 => some [4] | 9 => some [1, 2, 6, 7, 8, 9, 30, 44] | 10 => some [1, 2, 6, 7, 8, 9, 30, 44] | 11 => some [1, 2, 6, 7, 8, 9, 30, 44] | 12 => some [1, 2, 52] | 13 => some [4] | 14 => some [1, 2, 6, 7, 8, 9, 30, 53] | 15 => some [1, 2, 62] | 16 => some [4] | 17 => some [1, 2, 6, 7, 8, 9, 30, 63] | 18 => some [75] | 19 => some [4] | 20 => some [4] | 21 => some [1, 2, 6, 7, 8, 9, 30, 76] | 22 => some [1, 2, 6, 7, 8, 9, 30, 76] | 23 => some [85] | 24 => some [4] | 25 => some [4] | 26 => some [1, 2, 6, 9, 86] | 27 => some [1, 2, 92] | 28 => some [4] | 29 => some [1, 2, 10] | 30 => some [1, 2, 10, 99] | 31 => some [4] | 32 => some [1, 2, 10, 11] | 33 => some [1, 10, 11] | 34 => some [1, 10, 108, 109, 110] | 35 => some [1, 10, 108, 109, 110, 111] | 36 => some [1, 10, 13, 108, 109, 110] | 37 => some [1, 10, 108, 109, 110, 131] | 38 => some [4] | 39 => some [1, 10, 108, 109, 110] | 40 => some [4] | _ => none) 1000 Go.Proofs.Try.func74 rfl rfl ⟨Nat.le_of_ble_eq_true rfl, rfl⟩ rfl ?_; unfold Go.Proofs.Try.f74; simp (config := { maxSteps := 1000000 }) only [push_cast, Nat.reduceBEq, Nat.reduceBNe, Nat.reduceAdd, Nat.reduceSub, Nat.reduceMul, Nat.reduceLT, Nat.reduceLeDiff, Nat.reduceEqDiff, Nat.blt_eq, Int.reduceLT, Int.reduceLE, Int.reduceEq, Int.reduceToNat, Int.reduceNeg, Int.reduceAdd, Int.reduceSub, Int.reduceMul, Int.reducePow, reduceIte, decide_true, decide_false, reduceCtorEq])
  (refine DrawK.of (.take 0 (.take 1 (.take 2 (.take 3 (.take 4 (.take 5 (.take 6 (.take 7 (.take 8 (.take 9 (.take 10 (.take 11 (.take 12 (.take 13 (.take 14 (.take 15 (.take 16 (.take 17 .done)))))))))))))))))) 1000 (by decide +kernel) ?_; try (simp (config := { maxSteps := 1000000 }) only [push_cast, Nat.reduceBEq, Nat.reduceBNe, Nat.reduceAdd, Nat.reduceSub, Nat.reduceMul, Nat.reduceLT, Nat.reduceLeDiff, Nat.reduceEqDiff, Nat.blt_eq, Int.reduceLT, Int.reduceLE, Int.reduceEq, Int.reduceToNat, Int.reduceNeg, Int.reduceAdd, Int.reduceSub, Int.reduceMul, Int.reducePow, reduceIte, decide_true, decide_false, reduceCtorEq]))
  (repeat' (first | (simp (config := { maxSteps := 1000000 }) only [push_cast, Nat.reduceBEq, Nat.reduceBNe, Nat.reduceAdd, Nat.reduceSub, Nat.reduceMul, Nat.reduceLT, Nat.reduceLeDiff, Nat.reduceEqDiff, Nat.blt_eq, Int.reduceLT, Int.reduceLE, Int.reduceEq, Int.reduceToNat, Int.reduceNeg, Int.reduceAdd, Int.reduceSub, Int.reduceMul, Int.reducePow, reduceIte, decide_true, decide_false, reduceCtorEq]) | (refine BrP.mk (fun h => ?_) (fun h => ?_) <;> (try simp only [h]))))
  all_goals (try simp only [zeroV_ref, Bool.not_eq_true', Bool.not_eq_false', Bool.not_eq_eq_eq_not, Bool.not_true, Bool.not_false, decide_eq_true_eq, decide_eq_false_iff_not] at *)
  all_goals rw [one_mk]
  all_goals (try (rcases vl with _ | ⟨x, vl⟩ <;> simp_all <;> (try omega)))
  all_goals (try (rcases ks with _ | ⟨x, ks⟩ <;> simp_all <;> (try omega)))
set_option maxHeartbeats 1000000 in
theorem f74_1 (col : ByteArray) (v : Vl) (vl : List Vl) (ks : List Nd) (l : List Cl) (hn : okNd (.mk 1 col v vl ks)) (hl : okCl l) : Spec V 74 [.ag ((eRN (.mk 1 col v vl ks)).map .d), .c (.d (.sl 3 (l.map eRC)))] (i2 .i64 (oneF (.mk 1 col v vl ks) l)) := by
  obtain ⟨h1, h2, h3, h4⟩ := okNd_v hn
  (refine Spec.of_go (L := fun | 0 => some [1, 2] | 1 => some [1, 2, 5] | 2 => some [1, 2, 6, 7, 8, 9] | 3 => some [1, 2, 6, 7, 8, 9, 30] | 4 => some [4] | 5 => some [1, 2, 6, 7, 8, 9, 30, 31] | 6 => some [43] | 7 => some [4] | 8 => some [4] | 9 => some [1, 2, 6, 7, 8, 9, 30, 44] | 10 => some [1, 2, 6, 7, 8, 9, 30, 44] | 11 => some [1, 2, 6, 7, 8, 9, 30, 44] | 12 => some [1, 2, 52] | 13 => some [4] | 14 => some [1, 2, 6, 7, 8, 9, 30, 53] | 15 => some [1, 2, 62] | 16 => some [4] | 17 => some [1, 2, 6, 7, 8, 9, 30, 63] | 18 => some [75] | 19 => some [4] | 20 => some [4] | 21 => some [1, 2, 6, 7, 8, 9, 30, 76] | 22 => some [1, 2, 6, 7, 8, 9, 30, 76] | 23 => some [85] | 24 => some [4] | 25 => some [4] | 26 => some [1, 2, 6, 9, 86] | 27 => some [1, 2, 92] | 28 => some [4] | 29 => some [1, 2, 10] | 30 => some [1, 2, 10, 99] | 31 => some [4] | 32 => some [1, 2, 10, 11] | 33 => some [1, 10, 11] | 34 => some [1, 10, 108, 109, 110] | 35 => some [1, 10, 108, 109, 110, 111] | 36 => some [1, 10, 13, 108, 109, 110] | 37 => some [1, 10, 108, 109, 110, 131] | 38 => some [4] | 39 => some [1, 10, 108, 109, 110] | 40 => some [4] | _ => none) 1000 Go.Proofs.Try.func74 rfl rfl ⟨Nat.le_of_ble_eq_true rfl, rfl⟩ rfl ?_; unfold Go.Proofs.Try.f74; simp (config := { maxSteps := 1000000 }) only [push_cast, Nat.reduceBEq, Nat.reduceBNe, Nat.reduceAdd, Nat.reduceSub, Nat.reduceMul, Nat.reduceLT, Nat.reduceLeDiff, Nat.reduceEqDiff, Nat.blt_eq, Int.reduceLT, Int.reduceLE, Int.reduceEq, Int.reduceToNat, Int.reduceNeg, Int.reduceAdd, Int.reduceSub, Int.reduceMul, Int.reducePow, reduceIte, decide_true, decide_false, reduceCtorEq])
  (refine DrawK.of (.take 0 (.take 1 (.take 2 (.take 3 (.take 4 (.take 5 (.take 6 (.take 7 (.take 8 (.take 9 (.take 10 (.take 11 (.take 12 (.take 13 (.take 14 (.take 15 (.take 16 (.take 17 .done)))))))))))))))))) 1000 (by decide +kernel) ?_; try (simp (config := { maxSteps := 1000000 }) only [push_cast, Nat.reduceBEq, Nat.reduceBNe, Nat.reduceAdd, Nat.reduceSub, Nat.reduceMul, Nat.reduceLT, Nat.reduceLeDiff, Nat.reduceEqDiff, Nat.blt_eq, Int.reduceLT, Int.reduceLE, Int.reduceEq, Int.reduceToNat, Int.reduceNeg, Int.reduceAdd, Int.reduceSub, Int.reduceMul, Int.reducePow, reduceIte, decide_true, decide_false, reduceCtorEq]))
  (repeat' (first | (simp (config := { maxSteps := 1000000 }) only [push_cast, Nat.reduceBEq, Nat.reduceBNe, Nat.reduceAdd, Nat.reduceSub, Nat.reduceMul, Nat.reduceLT, Nat.reduceLeDiff, Nat.reduceEqDiff, Nat.blt_eq, Int.reduceLT, Int.reduceLE, Int.reduceEq, Int.reduceToNat, Int.reduceNeg, Int.reduceAdd, Int.reduceSub, Int.reduceMul, Int.reducePow, reduceIte, decide_true, decide_false, reduceCtorEq]) | (refine BrP.mk (fun h => ?_) (fun h => ?_) <;> (try simp only [h]))))
  all_goals (try simp only [zeroV_ref, Bool.not_eq_true', Bool.not_eq_false', Bool.not_eq_eq_eq_not, Bool.not_true, Bool.not_false, decide_eq_true_eq, decide_eq_false_iff_not] at *)
  all_goals (try ((rcases vl with _ | ⟨x, vl⟩ <;> rcases ks with _ | ⟨y, ks⟩ <;> simp_all [oneF, op_mk, col_mk, v_mk, l_mk, ks_mk]); done))
  have e : oneF (.mk 1 col v vl ks) l = tailF (.mk 1 col v vl ks) l := by
    rcases vl with _ | ⟨x, vl⟩ <;> rcases ks with _ | ⟨y, ks⟩ <;> simp_all [oneF, op_mk, col_mk, v_mk, l_mk, ks_mk]
  rw [e, tail_all]
  have hS := f56 l hl.1
  rw [show (l.map fun c => eS c.name) = (l.map (·.name)).map eS by rw [List.map_map]; rfl] at hS
  (refine DrawK.of (.take 0 (.take 2 (.take 3 (.one 1 (.one 4 (.take 5 .done)))))) 1000 (by decide +kernel) ?_; try (simp (config := { maxSteps := 1000000 }) only [push_cast, Nat.reduceBEq, Nat.reduceBNe, Nat.reduceAdd, Nat.reduceSub, Nat.reduceMul, Nat.reduceLT, Nat.reduceLeDiff, Nat.reduceEqDiff, Nat.blt_eq, Int.reduceLT, Int.reduceLE, Int.reduceEq, Int.reduceToNat, Int.reduceNeg, Int.reduceAdd, Int.reduceSub, Int.reduceMul, Int.reducePow, reduceIte, decide_true, decide_false, reduceCtorEq]))
  refine ⟨_, hS, rfl, ?_⟩
  (try (simp (config := { maxSteps := 1000000 }) only [push_cast, Nat.reduceBEq, Nat.reduceBNe, Nat.reduceAdd, Nat.reduceSub, Nat.reduceMul, Nat.reduceLT, Nat.reduceLeDiff, Nat.reduceEqDiff, Nat.blt_eq, Int.reduceLT, Int.reduceLE, Int.reduceEq, Int.reduceToNat, Int.reduceNeg, Int.reduceAdd, Int.reduceSub, Int.reduceMul, Int.reducePow, reduceIte, decide_true, decide_false, reduceCtorEq]))
  refine ⟨_, f55 (l.map (·.name)) col (by simpa only [okLen, List.length_map] using hl.1), rfl, ?_⟩
  (try (simp (config := { maxSteps := 1000000 }) only [push_cast, Nat.reduceBEq, Nat.reduceBNe, Nat.reduceAdd, Nat.reduceSub, Nat.reduceMul, Nat.reduceLT, Nat.reduceLeDiff, Nat.reduceEqDiff, Nat.blt_eq, Int.reduceLT, Int.reduceLE, Int.reduceEq, Int.reduceToNat, Int.reduceNeg, Int.reduceAdd, Int.reduceSub, Int.reduceMul, Int.reducePow, reduceIte, decide_true, decide_false, reduceCtorEq]))
  have hfa := (find_at col l 0).1
  refine BrP.mk (fun h => ?_) (fun h => ?_) <;> try (simp (config := { maxSteps := 1000000 }) only [push_cast, Nat.reduceBEq, Nat.reduceBNe, Nat.reduceAdd, Nat.reduceSub, Nat.reduceMul, Nat.reduceLT, Nat.reduceLeDiff, Nat.reduceEqDiff, Nat.blt_eq, Int.reduceLT, Int.reduceLE, Int.reduceEq, Int.reduceToNat, Int.reduceNeg, Int.reduceAdd, Int.reduceSub, Int.reduceMul, Int.reducePow, reduceIte, decide_true, decide_false, reduceCtorEq, h])
  · have hf : (findF col l 0).2.2 = false := by rw [hfa]; simp at h ⊢; omega
    rw [if_pos hf]
  · have hf : (findF col l 0).2.2 = true := by rw [hfa]; simp at h ⊢; omega
    obtain ⟨hlt0, hi0, hi1⟩ := find_lt hf
    rw [if_neg (by simp [hf])]
    clear hfa hS e
    generalize hk : atF col (l.map (·.name)) 0 = K at *
    generalize hF : findF col l 0 = F at *
    obtain ⟨all, hall⟩ : ∃ all, all = vl ++ [v] := ⟨_, rfl⟩
    rw [← hall]
    have hal : ∀ x ∈ all, okVl x := fun x hx => by
      rw [hall] at hx
      rcases List.mem_append.1 hx with hx | hx
      · exact h2 x hx
      · rw [List.mem_singleton.1 hx]; exact h1
    have hlen : all.length = vl.length + 1 := by rw [hall]; simp
    have he : vl.map eRV ++ [eRV v] = all.map eRV := by rw [hall]; simp
    refine DrawK.cut (.take 0 (.take 1 (.take 2 (.two 3 (.one 4 (.one 5 (.one 6 (.one 7 (.one 8 .done))))) 4 (.two 3 (.one 5 (.one 6 (.one 7 (.one 8 .done)))) 5 (.two 3 (.one 6 (.one 7 (.one 8 .done))) 6 (.one 3 (.one 7 (.one 8 .done))))))))) 1000 (by decide +kernel) ⟨[(11, .c (.d (.sl 4 (all.map eRV)))), (10, .c (.d (.v (.int .i64 K)))), (1, .c (.d (.sl 3 (l.map eRC))))], []⟩ ?_ ?_
    · rw [← he]
      (try (simp (config := { maxSteps := 1000000 }) only [push_cast, Nat.reduceBEq, Nat.reduceBNe, Nat.reduceAdd, Nat.reduceSub, Nat.reduceMul, Nat.reduceLT, Nat.reduceLeDiff, Nat.reduceEqDiff, Nat.blt_eq, Int.reduceLT, Int.reduceLE, Int.reduceEq, Int.reduceToNat, Int.reduceNeg, Int.reduceAdd, Int.reduceSub, Int.reduceMul, Int.reducePow, reduceIte, decide_true, decide_false, reduceCtorEq]))
      ((repeat' (with_reducible refine And.intro ?_ ?_)) <;> try (first | trivial | omega | exact inK64 (by omega) (by omega) | exact inKu8 (by omega) (by omega) | (simp only [maxLen]; omega) | exact .inl trivial | exact .inl rfl))
      all_goals (refine Le.frz [2, 3] ?_; (try (simp (config := { maxSteps := 1000000 }) only [push_cast, Nat.reduceBEq, Nat.reduceBNe, Nat.reduceAdd, Nat.reduceSub, Nat.reduceMul, Nat.reduceLT, Nat.reduceLeDiff, Nat.reduceEqDiff, Nat.blt_eq, Int.reduceLT, Int.reduceLE, Int.reduceEq, Int.reduceToNat, Int.reduceNeg, Int.reduceAdd, Int.reduceSub, Int.reduceMul, Int.reducePow, reduceIte, decide_true, decide_false, reduceCtorEq])))
    (try (simp (config := { maxSteps := 1000000 }) only [push_cast, Nat.reduceBEq, Nat.reduceBNe, Nat.reduceAdd, Nat.reduceSub, Nat.reduceMul, Nat.reduceLT, Nat.reduceLeDiff, Nat.reduceEqDiff, Nat.blt_eq, Int.reduceLT, Int.reduceLE, Int.reduceEq, Int.reduceToNat, Int.reduceNeg, Int.reduceAdd, Int.reduceSub, Int.reduceMul, Int.reducePow, reduceIte, decide_true, decide_false, reduceCtorEq]))
    refine LoopK.s1 (α := Nat) [110] (fun k => [i2 .i64 k]) (fun k => k ≤ all.length ∧ ((all.drop k).all fun v => fitsF v F.1) = (all.all fun v => fitsF v F.1)) (fun k => all.length - k) 1000 0 ⟨by omega, rfl⟩ (by (try (simp (config := { maxSteps := 1000000 }) only [push_cast, Nat.reduceBEq, Nat.reduceBNe, Nat.reduceAdd, Nat.reduceSub, Nat.reduceMul, Nat.reduceLT, Nat.reduceLeDiff, Nat.reduceEqDiff, Nat.blt_eq, Int.reduceLT, Int.reduceLE, Int.reduceEq, Int.reduceToNat, Int.reduceNeg, Int.reduceAdd, Int.reduceSub, Int.reduceMul, Int.reducePow, reduceIte, decide_true, decide_false, reduceCtorEq]))) ?_
    rintro k ⟨hk', hc⟩
    by_cases hlt : k < all.length
    · have hv := List.getElem?_eq_getElem hlt; have hd : decide ((k : Int) < (all.length : Int)) = true := decide_eq_true (by omega)
      rw [drop_cons hv] at hc
      simp only [List.all_cons] at hc
      (try (simp (config := { maxSteps := 1000000 }) only [push_cast, Nat.reduceBEq, Nat.reduceBNe, Nat.reduceAdd, Nat.reduceSub, Nat.reduceMul, Nat.reduceLT, Nat.reduceLeDiff, Nat.reduceEqDiff, Nat.blt_eq, Int.reduceLT, Int.reduceLE, Int.reduceEq, Int.reduceToNat, Int.reduceNeg, Int.reduceAdd, Int.reduceSub, Int.reduceMul, Int.reducePow, reduceIte, decide_true, decide_false, reduceCtorEq, hd, getD_map hv]))
      (repeat ((with_reducible refine And.intro ?_ ?_); focus (first | trivial | omega | exact inK64 (by omega) (by omega) | exact inKu8 (by omega) (by omega))))
      (refine DrawK.of (.take 0 (.one 1 (.take 2 (.take 3 (.take 4 (.take 5 (.take 6 (.take 7 (.take 8 (.take 9 (.take 10 (.take 11 (.take 12 (.take 13 (.take 14 (.take 15 (.take 16 (.take 17 .done)))))))))))))))))) 1000 (by decide +kernel) ?_; try (simp (config := { maxSteps := 1000000 }) only [push_cast, Nat.reduceBEq, Nat.reduceBNe, Nat.reduceAdd, Nat.reduceSub, Nat.reduceMul, Nat.reduceLT, Nat.reduceLeDiff, Nat.reduceEqDiff, Nat.blt_eq, Int.reduceLT, Int.reduceLE, Int.reduceEq, Int.reduceToNat, Int.reduceNeg, Int.reduceAdd, Int.reduceSub, Int.reduceMul, Int.reducePow, reduceIte, decide_true, decide_false, reduceCtorEq]))
      (have hS := f21 all[k] (hal _ (List.getElem_mem hlt)); simp only [eS_eq, eN_eq, eV_eq, eRN_eq, eRV_eq, eC_eq, eRC_eq, List.map_cons, List.map_nil, i2, b2, s2] at hS; refine ⟨_, hS, rfl, ?_⟩; clear hS; try (simp (config := { maxSteps := 1000000 }) only [push_cast, Nat.reduceBEq, Nat.reduceBNe, Nat.reduceAdd, Nat.reduceSub, Nat.reduceMul, Nat.reduceLT, Nat.reduceLeDiff, Nat.reduceEqDiff, Nat.blt_eq, Int.reduceLT, Int.reduceLE, Int.reduceEq, Int.reduceToNat, Int.reduceNeg, Int.reduceAdd, Int.reduceSub, Int.reduceMul, Int.reducePow, reduceIte, decide_true, decide_false, reduceCtorEq]))
      have hgl : (l.map eRC).getD K.toNat [] = eRC F.1 := getD_map (by rw [← hi1]; exact hi0)
      have hKl : K < (l.length : Int) := by omega
      have hK0 : 0 ≤ K := by omega
      have hfit : fitsF all[k] F.1 = (rightF all[k] && (decide (all[k].k = 0) || decide (all[k].k = F.1.kind))) := rfl
      clear hi0 hi1
      have hF : fitsF all[k] F.1 = false → (if (all.all fun v => fitsF v F.1) = true then (0 : Int) else 21) = 21 := fun h0 => by
        rw [h0, Bool.false_and] at hc
        rw [if_neg (by rw [← hc]; decide)]
      have hT : fitsF all[k] F.1 = true → ((all.drop (k + 1)).all fun v => fitsF v F.1) = (all.all fun v => fitsF v F.1) := fun h0 => by
        rw [h0, Bool.true_and] at hc
        exact hc
      clear hc
      refine BrP.mk (fun h => ?_) (fun h => ?_) <;> try (simp (config := { maxSteps := 1000000 }) only [push_cast, Nat.reduceBEq, Nat.reduceBNe, Nat.reduceAdd, Nat.reduceSub, Nat.reduceMul, Nat.reduceLT, Nat.reduceLeDiff, Nat.reduceEqDiff, Nat.blt_eq, Int.reduceLT, Int.reduceLE, Int.reduceEq, Int.reduceToNat, Int.reduceNeg, Int.reduceAdd, Int.reduceSub, Int.reduceMul, Int.reducePow, reduceIte, decide_true, decide_false, reduceCtorEq, h])
      · exact (hF (by rw [hfit]; simp at h; simp [h])).symm
      · have hr : rightF all[k] = true := by simpa using h
        refine BrP.mk (fun h => ?_) (fun h => ?_) <;> try (simp (config := { maxSteps := 1000000 }) only [push_cast, Nat.reduceBEq, Nat.reduceBNe, Nat.reduceAdd, Nat.reduceSub, Nat.reduceMul, Nat.reduceLT, Nat.reduceLeDiff, Nat.reduceEqDiff, Nat.blt_eq, Int.reduceLT, Int.reduceLE, Int.reduceEq, Int.reduceToNat, Int.reduceNeg, Int.reduceAdd, Int.reduceSub, Int.reduceMul, Int.reducePow, reduceIte, decide_true, decide_false, reduceCtorEq, h])
        · have h0 : ¬ all[k].k = 0 := by simpa using h
          (try (simp (config := { maxSteps := 1000000 }) only [push_cast, Nat.reduceBEq, Nat.reduceBNe, Nat.reduceAdd, Nat.reduceSub, Nat.reduceMul, Nat.reduceLT, Nat.reduceLeDiff, Nat.reduceEqDiff, Nat.blt_eq, Int.reduceLT, Int.reduceLE, Int.reduceEq, Int.reduceToNat, Int.reduceNeg, Int.reduceAdd, Int.reduceSub, Int.reduceMul, Int.reducePow, reduceIte, decide_true, decide_false, reduceCtorEq, hgl]))
          ((repeat' (with_reducible refine And.intro ?_ ?_)) <;> try (first | trivial | omega | exact inK64 (by omega) (by omega) | exact inKu8 (by omega) (by omega) | (simp only [maxLen]; omega) | exact .inl trivial | exact .inl rfl))
          all_goals (try (try (simp (config := { maxSteps := 1000000 }) only [push_cast, Nat.reduceBEq, Nat.reduceBNe, Nat.reduceAdd, Nat.reduceSub, Nat.reduceMul, Nat.reduceLT, Nat.reduceLeDiff, Nat.reduceEqDiff, Nat.blt_eq, Int.reduceLT, Int.reduceLE, Int.reduceEq, Int.reduceToNat, Int.reduceNeg, Int.reduceAdd, Int.reduceSub, Int.reduceMul, Int.reducePow, reduceIte, decide_true, decide_false, reduceCtorEq])))
          refine BrP.mk (fun h => ?_) (fun h => ?_) <;> try (simp (config := { maxSteps := 1000000 }) only [push_cast, Nat.reduceBEq, Nat.reduceBNe, Nat.reduceAdd, Nat.reduceSub, Nat.reduceMul, Nat.reduceLT, Nat.reduceLeDiff, Nat.reduceEqDiff, Nat.blt_eq, Int.reduceLT, Int.reduceLE, Int.reduceEq, Int.reduceToNat, Int.reduceNeg, Int.reduceAdd, Int.reduceSub, Int.reduceMul, Int.reducePow, reduceIte, decide_true, decide_false, reduceCtorEq, h])
          · have h1' : ¬ all[k].k = F.1.kind := by simpa using h
            exact (hF (by rw [hfit]; simp [hr, h0, h1'])).symm
          · have h1' : all[k].k = F.1.kind := by simpa using h
            ((repeat' (with_reducible refine And.intro ?_ ?_)) <;> try (first | trivial | omega | exact inK64 (by omega) (by omega) | exact inKu8 (by omega) (by omega) | (simp only [maxLen]; omega) | exact .inl trivial | exact .inl rfl))
            refine ⟨k + 1, ⟨by omega, hT (by rw [hfit]; simp [hr, h1'])⟩, by omega, Le.st ?_⟩
            (try (simp (config := { maxSteps := 1000000 }) only [push_cast, Nat.reduceBEq, Nat.reduceBNe, Nat.reduceAdd, Nat.reduceSub, Nat.reduceMul, Nat.reduceLT, Nat.reduceLeDiff, Nat.reduceEqDiff, Nat.blt_eq, Int.reduceLT, Int.reduceLE, Int.reduceEq, Int.reduceToNat, Int.reduceNeg, Int.reduceAdd, Int.reduceSub, Int.reduceMul, Int.reducePow, reduceIte, decide_true, decide_false, reduceCtorEq]))
        · have h0 : all[k].k = 0 := by simpa using h
          ((repeat' (with_reducible refine And.intro ?_ ?_)) <;> try (first | trivial | omega | exact inK64 (by omega) (by omega) | exact inKu8 (by omega) (by omega) | (simp only [maxLen]; omega) | exact .inl trivial | exact .inl rfl))
          refine ⟨k + 1, ⟨by omega, hT (by rw [hfit]; simp [hr, h0])⟩, by omega, Le.st ?_⟩
          (try (simp (config := { maxSteps := 1000000 }) only [push_cast, Nat.reduceBEq, Nat.reduceBNe, Nat.reduceAdd, Nat.reduceSub, Nat.reduceMul, Nat.reduceLT, Nat.reduceLeDiff, Nat.reduceEqDiff, Nat.blt_eq, Int.reduceLT, Int.reduceLE, Int.reduceEq, Int.reduceToNat, Int.reduceNeg, Int.reduceAdd, Int.reduceSub, Int.reduceMul, Int.reducePow, reduceIte, decide_true, decide_false, reduceCtorEq]))
    · have hd : decide ((k : Int) < (all.length : Int)) = false := decide_eq_false (by omega)
      rw [List.drop_eq_nil_of_le (by omega)] at hc
      (try (simp (config := { maxSteps := 1000000 }) only [push_cast, Nat.reduceBEq, Nat.reduceBNe, Nat.reduceAdd, Nat.reduceSub, Nat.reduceMul, Nat.reduceLT, Nat.reduceLeDiff, Nat.reduceEqDiff, Nat.blt_eq, Int.reduceLT, Int.reduceLE, Int.reduceEq, Int.reduceToNat, Int.reduceNeg, Int.reduceAdd, Int.reduceSub, Int.reduceMul, Int.reducePow, reduceIte, decide_true, decide_false, reduceCtorEq, hd]))
      rw [← hc]; rfl
set_option maxHeartbeats 1000000 in
theorem f74_2 (col : ByteArray) (v : Vl) (vl : List Vl) (ks : List Nd) (l : List Cl) (hn : okNd (.mk 2 col v vl ks)) (hl : okCl l) : Spec V 74 [.ag ((eRN (.mk 2 col v vl ks)).map .d), .c (.d (.sl 3 (l.map eRC)))] (i2 .i64 (oneF (.mk 2 col v vl ks) l)) := by
  obtain ⟨h1, h2, h3, h4⟩ := okNd_v hn
  (refine Spec.of_go (L := fun | 0 => some [1, 2] | 1 => some [1, 2, 5] | 2 => some [1, 2, 6, 7, 8, 9] | 3 => some [1, 2, 6, 7, 8, 9, 30] | 4 => some [4] | 5 => some [1, 2, 6, 7, 8, 9, 30, 31] | 6 => some [43] | 7 => some [4] | 8 => some [4] | 9 => some [1, 2, 6, 7, 8, 9, 30, 44] | 10 => some [1, 2, 6, 7, 8, 9, 30, 44] | 11 => some [1, 2, 6, 7, 8, 9, 30, 44] | 12 => some [1, 2, 52] | 13 => some [4] | 14 => some [1, 2, 6, 7, 8, 9, 30, 53] | 15 => some [1, 2, 62] | 16 => some [4] | 17 => some [1, 2, 6, 7, 8, 9, 30, 63] | 18 => some [75] | 19 => some [4] | 20 => some [4] | 21 => some [1, 2, 6, 7, 8, 9, 30, 76] | 22 => some [1, 2, 6, 7, 8, 9, 30, 76] | 23 => some [85] | 24 => some [4] | 25 => some [4] | 26 => some [1, 2, 6, 9, 86] | 27 => some [1, 2, 92] | 28 => some [4] | 29 => some [1, 2, 10] | 30 => some [1, 2, 10, 99] | 31 => some [4] | 32 => some [1, 2, 10, 11] | 33 => some [1, 10, 11] | 34 => some [1, 10, 108, 109, 110] | 35 => some [1, 10, 108, 109, 110, 111] | 36 => some [1, 10, 13, 108, 109, 110] | 37 => some [1, 10, 108, 109, 110, 131] | 38 => some [4] | 39 => some [1, 10, 108, 109, 110] | 40 => some [4] | _ => none) 1000 Go.Proofs.Try.func74 rfl rfl ⟨Nat.le_of_ble_eq_true rfl, rfl⟩ rfl ?_; unfold Go.Proofs.Try.f74; simp (config := { maxSteps := 1000000 }) only [push_cast, Nat.reduceBEq, Nat.reduceBNe, Nat.reduceAdd, Nat.reduceSub, Nat.reduceMul, Nat.reduceLT, Nat.reduceLeDiff, Nat.reduceEqDiff, Nat.blt_eq, Int.reduceLT, Int.reduceLE, Int.reduceEq, Int.reduceToNat, Int.reduceNeg, Int.reduceAdd, Int.reduceSub, Int.reduceMul, Int.reducePow, reduceIte, decide_true, decide_false, reduceCtorEq])
  (refine DrawK.of (.take 0 (.take 1 (.take 2 (.take 3 (.take 4 (.take 5 (.take 6 (.take 7 (.take 8 (.take 9 (.take 10 (.take 11 (.take 12 (.take 13 (.take 14 (.take 15 (.take 16 (.take 17 .done)))))))))))))))))) 1000 (by decide +kernel) ?_; try (simp (config := { maxSteps := 1000000 }) only [push_cast, Nat.reduceBEq, Nat.reduceBNe, Nat.reduceAdd, Nat.reduceSub, Nat.reduceMul, Nat.reduceLT, Nat.reduceLeDiff, Nat.reduceEqDiff, Nat.blt_eq, Int.reduceLT, Int.reduceLE, Int.reduceEq, Int.reduceToNat, Int.reduceNeg, Int.reduceAdd, Int.reduceSub, Int.reduceMul, Int.reducePow, reduceIte, decide_true, decide_false, reduceCtorEq]))
  (repeat' (first | (simp (config := { maxSteps := 1000000 }) only [push_cast, Nat.reduceBEq, Nat.reduceBNe, Nat.reduceAdd, Nat.reduceSub, Nat.reduceMul, Nat.reduceLT, Nat.reduceLeDiff, Nat.reduceEqDiff, Nat.blt_eq, Int.reduceLT, Int.reduceLE, Int.reduceEq, Int.reduceToNat, Int.reduceNeg, Int.reduceAdd, Int.reduceSub, Int.reduceMul, Int.reducePow, reduceIte, decide_true, decide_false, reduceCtorEq]) | (refine BrP.mk (fun h => ?_) (fun h => ?_) <;> (try simp only [h]))))
  all_goals (try simp only [zeroV_ref, Bool.not_eq_true', Bool.not_eq_false', Bool.not_eq_eq_eq_not, Bool.not_true, Bool.not_false, decide_eq_true_eq, decide_eq_false_iff_not] at *)
  all_goals (try ((rcases vl with _ | ⟨x, vl⟩ <;> rcases ks with _ | ⟨y, ks⟩ <;> simp_all [oneF, op_mk, col_mk, v_mk, l_mk, ks_mk]); done))
  have e : oneF (.mk 2 col v vl ks) l = tailF (.mk 2 col v vl ks) l := by
    rcases vl with _ | ⟨x, vl⟩ <;> rcases ks with _ | ⟨y, ks⟩ <;> simp_all [oneF, op_mk, col_mk, v_mk, l_mk, ks_mk]
  rw [e, tail_all]
  have hS := f56 l hl.1
  rw [show (l.map fun c => eS c.name) = (l.map (·.name)).map eS by rw [List.map_map]; rfl] at hS
  (refine DrawK.of (.take 0 (.take 2 (.take 3 (.one 1 (.one 4 (.take 5 .done)))))) 1000 (by decide +kernel) ?_; try (simp (config := { maxSteps := 1000000 }) only [push_cast, Nat.reduceBEq, Nat.reduceBNe, Nat.reduceAdd, Nat.reduceSub, Nat.reduceMul, Nat.reduceLT, Nat.reduceLeDiff, Nat.reduceEqDiff, Nat.blt_eq, Int.reduceLT, Int.reduceLE, Int.reduceEq, Int.reduceToNat, Int.reduceNeg, Int.reduceAdd, Int.reduceSub, Int.reduceMul, Int.reducePow, reduceIte, decide_true, decide_false, reduceCtorEq]))
  refine ⟨_, hS, rfl, ?_⟩
  (try (simp (config := { maxSteps := 1000000 }) only [push_cast, Nat.reduceBEq, Nat.reduceBNe, Nat.reduceAdd, Nat.reduceSub, Nat.reduceMul, Nat.reduceLT, Nat.reduceLeDiff, Nat.reduceEqDiff, Nat.blt_eq, Int.reduceLT, Int.reduceLE, Int.reduceEq, Int.reduceToNat, Int.reduceNeg, Int.reduceAdd, Int.reduceSub, Int.reduceMul, Int.reducePow, reduceIte, decide_true, decide_false, reduceCtorEq]))
  refine ⟨_, f55 (l.map (·.name)) col (by simpa only [okLen, List.length_map] using hl.1), rfl, ?_⟩
  (try (simp (config := { maxSteps := 1000000 }) only [push_cast, Nat.reduceBEq, Nat.reduceBNe, Nat.reduceAdd, Nat.reduceSub, Nat.reduceMul, Nat.reduceLT, Nat.reduceLeDiff, Nat.reduceEqDiff, Nat.blt_eq, Int.reduceLT, Int.reduceLE, Int.reduceEq, Int.reduceToNat, Int.reduceNeg, Int.reduceAdd, Int.reduceSub, Int.reduceMul, Int.reducePow, reduceIte, decide_true, decide_false, reduceCtorEq]))
  have hfa := (find_at col l 0).1
  refine BrP.mk (fun h => ?_) (fun h => ?_) <;> try (simp (config := { maxSteps := 1000000 }) only [push_cast, Nat.reduceBEq, Nat.reduceBNe, Nat.reduceAdd, Nat.reduceSub, Nat.reduceMul, Nat.reduceLT, Nat.reduceLeDiff, Nat.reduceEqDiff, Nat.blt_eq, Int.reduceLT, Int.reduceLE, Int.reduceEq, Int.reduceToNat, Int.reduceNeg, Int.reduceAdd, Int.reduceSub, Int.reduceMul, Int.reducePow, reduceIte, decide_true, decide_false, reduceCtorEq, h])
  · have hf : (findF col l 0).2.2 = false := by rw [hfa]; simp at h ⊢; omega
    rw [if_pos hf]
  · have hf : (findF col l 0).2.2 = true := by rw [hfa]; simp at h ⊢; omega
    obtain ⟨hlt0, hi0, hi1⟩ := find_lt hf
    rw [if_neg (by simp [hf])]
    clear hfa hS e
    generalize hk : atF col (l.map (·.name)) 0 = K at *
    generalize hF : findF col l 0 = F at *
    obtain ⟨all, hall⟩ : ∃ all, all = vl ++ [v] := ⟨_, rfl⟩
    rw [← hall]
    have hal : ∀ x ∈ all, okVl x := fun x hx => by
      rw [hall] at hx
      rcases List.mem_append.1 hx with hx | hx
      · exact h2 x hx
      · rw [List.mem_singleton.1 hx]; exact h1
    have hlen : all.length = vl.length + 1 := by rw [hall]; simp
    have he : vl.map eRV ++ [eRV v] = all.map eRV := by rw [hall]; simp
    refine DrawK.cut (.take 0 (.take 1 (.take 2 (.two 3 (.one 4 (.one 5 (.one 6 (.one 7 (.one 8 .done))))) 4 (.two 3 (.one 5 (.one 6 (.one 7 (.one 8 .done)))) 5 (.two 3 (.one 6 (.one 7 (.one 8 .done))) 6 (.one 3 (.one 7 (.one 8 .done))))))))) 1000 (by decide +kernel) ⟨[(11, .c (.d (.sl 4 (all.map eRV)))), (10, .c (.d (.v (.int .i64 K)))), (1, .c (.d (.sl 3 (l.map eRC))))], []⟩ ?_ ?_
    · rw [← he]
      (try (simp (config := { maxSteps := 1000000 }) only [push_cast, Nat.reduceBEq, Nat.reduceBNe, Nat.reduceAdd, Nat.reduceSub, Nat.reduceMul, Nat.reduceLT, Nat.reduceLeDiff, Nat.reduceEqDiff, Nat.blt_eq, Int.reduceLT, Int.reduceLE, Int.reduceEq, Int.reduceToNat, Int.reduceNeg, Int.reduceAdd, Int.reduceSub, Int.reduceMul, Int.reducePow, reduceIte, decide_true, decide_false, reduceCtorEq]))
      ((repeat' (with_reducible refine And.intro ?_ ?_)) <;> try (first | trivial | omega | exact inK64 (by omega) (by omega) | exact inKu8 (by omega) (by omega) | (simp only [maxLen]; omega) | exact .inl trivial | exact .inl rfl))
      all_goals (refine Le.frz [2, 3] ?_; (try (simp (config := { maxSteps := 1000000 }) only [push_cast, Nat.reduceBEq, Nat.reduceBNe, Nat.reduceAdd, Nat.reduceSub, Nat.reduceMul, Nat.reduceLT, Nat.reduceLeDiff, Nat.reduceEqDiff, Nat.blt_eq, Int.reduceLT, Int.reduceLE, Int.reduceEq, Int.reduceToNat, Int.reduceNeg, Int.reduceAdd, Int.reduceSub, Int.reduceMul, Int.reducePow, reduceIte, decide_true, decide_false, reduceCtorEq])))
    (try (simp (config := { maxSteps := 1000000 }) only [push_cast, Nat.reduceBEq, Nat.reduceBNe, Nat.reduceAdd, Nat.reduceSub, Nat.reduceMul, Nat.reduceLT, Nat.reduceLeDiff, Nat.reduceEqDiff, Nat.blt_eq, Int.reduceLT, Int.reduceLE, Int.reduceEq, Int.reduceToNat, Int.reduceNeg, Int.reduceAdd, Int.reduceSub, Int.reduceMul, Int.reducePow, reduceIte, decide_true, decide_false, reduceCtorEq]))
    refine LoopK.s1 (α := Nat) [110] (fun k => [i2 .i64 k]) (fun k => k ≤ all.length ∧ ((all.drop k).all fun v => fitsF v F.1) = (all.all fun v => fitsF v F.1)) (fun k => all.length - k) 1000 0 ⟨by omega, rfl⟩ (by (try (simp (config := { maxSteps := 1000000 }) only [push_cast, Nat.reduceBEq, Nat.reduceBNe, Nat.reduceAdd, Nat.reduceSub, Nat.reduceMul, Nat.reduceLT, Nat.reduceLeDiff, Nat.reduceEqDiff, Nat.blt_eq, Int.reduceLT, Int.reduceLE, Int.reduceEq, Int.reduceToNat, Int.reduceNeg, Int.reduceAdd, Int.reduceSub, Int.reduceMul, Int.reducePow, reduceIte, decide_true, decide_false, reduceCtorEq]))) ?_
    rintro k ⟨hk', hc⟩
    by_cases hlt : k < all.length
    · have hv := List.getElem?_eq_getElem hlt; have hd : decide ((k : Int) < (all.length : Int)) = true := decide_eq_true (by omega)
      rw [drop_cons hv] at hc
      simp only [List.all_cons] at hc
      (try (simp (config := { maxSteps := 1000000 }) only [push_cast, Nat.reduceBEq, Nat.reduceBNe, Nat.reduceAdd, Nat.reduceSub, Nat.reduceMul, Nat.reduceLT, Nat.reduceLeDiff, Nat.reduceEqDiff, Nat.blt_eq, Int.reduceLT, Int.reduceLE, Int.reduceEq, Int.reduceToNat, Int.reduceNeg, Int.reduceAdd, Int.reduceSub, Int.reduceMul, Int.reducePow, reduceIte, decide_true, decide_false, reduceCtorEq, hd, getD_map hv]))
      (repeat ((with_reducible refine And.intro ?_ ?_); focus (first | trivial | omega | exact inK64 (by omega) (by omega) | exact inKu8 (by omega) (by omega))))
      (refine DrawK.of (.take 0 (.one 1 (.take 2 (.take 3 (.take 4 (.take 5 (.take 6 (.take 7 (.take 8 (.take 9 (.take 10 (.take 11 (.take 12 (.take 13 (.take 14 (.take 15 (.take 16 (.take 17 .done)))))))))))))))))) 1000 (by decide +kernel) ?_; try (simp (config := { maxSteps := 1000000 }) only [push_cast, Nat.reduceBEq, Nat.reduceBNe, Nat.reduceAdd, Nat.reduceSub, Nat.reduceMul, Nat.reduceLT, Nat.reduceLeDiff, Nat.reduceEqDiff, Nat.blt_eq, Int.reduceLT, Int.reduceLE, Int.reduceEq, Int.reduceToNat, Int.reduceNeg, Int.reduceAdd, Int.reduceSub, Int.reduceMul, Int.reducePow, reduceIte, decide_true, decide_false, reduceCtorEq]))
      (have hS := f21 all[k] (hal _ (List.getElem_mem hlt)); simp only [eS_eq, eN_eq, eV_eq, eRN_eq, eRV_eq, eC_eq, eRC_eq, List.map_cons, List.map_nil, i2, b2, s2] at hS; refine ⟨_, hS, rfl, ?_⟩; clear hS; try (simp (config := { maxSteps := 1000000 }) only [push_cast, Nat.reduceBEq, Nat.reduceBNe, Nat.reduceAdd, Nat.reduceSub, Nat.reduceMul, Nat.reduceLT, Nat.reduceLeDiff, Nat.reduceEqDiff, Nat.blt_eq, Int.reduceLT, Int.reduceLE, Int.reduceEq, Int.reduceToNat, Int.reduceNeg, Int.reduceAdd, Int.reduceSub, Int.reduceMul, Int.reducePow, reduceIte, decide_true, decide_false, reduceCtorEq]))
      have hgl : (l.map eRC).getD K.toNat [] = eRC F.1 := getD_map (by rw [← hi1]; exact hi0)
      have hKl : K < (l.length : Int) := by omega
      have hK0 : 0 ≤ K := by omega
      have hfit : fitsF all[k] F.1 = (rightF all[k] && (decide (all[k].k = 0) || decide (all[k].k = F.1.kind))) := rfl
      clear hi0 hi1
      have hF : fitsF all[k] F.1 = false → (if (all.all fun v => fitsF v F.1) = true then (0 : Int) else 21) = 21 := fun h0 => by
        rw [h0, Bool.false_and] at hc
        rw [if_neg (by rw [← hc]; decide)]
      have hT : fitsF all[k] F.1 = true → ((all.drop (k + 1)).all fun v => fitsF v F.1) = (all.all fun v => fitsF v F.1) := fun h0 => by
        rw [h0, Bool.true_and] at hc
        exact hc
      clear hc
      refine BrP.mk (fun h => ?_) (fun h => ?_) <;> try (simp (config := { maxSteps := 1000000 }) only [push_cast, Nat.reduceBEq, Nat.reduceBNe, Nat.reduceAdd, Nat.reduceSub, Nat.reduceMul, Nat.reduceLT, Nat.reduceLeDiff, Nat.reduceEqDiff, Nat.blt_eq, Int.reduceLT, Int.reduceLE, Int.reduceEq, Int.reduceToNat, Int.reduceNeg, Int.reduceAdd, Int.reduceSub, Int.reduceMul, Int.reducePow, reduceIte, decide_true, decide_false, reduceCtorEq, h])
      · exact (hF (by rw [hfit]; simp at h; simp [h])).symm
      · have hr : rightF all[k] = true := by simpa using h
        refine BrP.mk (fun h => ?_) (fun h => ?_) <;> try (simp (config := { maxSteps := 1000000 }) only [push_cast, Nat.reduceBEq, Nat.reduceBNe, Nat.reduceAdd, Nat.reduceSub, Nat.reduceMul, Nat.reduceLT, Nat.reduceLeDiff, Nat.reduceEqDiff, Nat.blt_eq, Int.reduceLT, Int.reduceLE, Int.reduceEq, Int.reduceToNat, Int.reduceNeg, Int.reduceAdd, Int.reduceSub, Int.reduceMul, Int.reducePow, reduceIte, decide_true, decide_false, reduceCtorEq, h])
        · have h0 : ¬ all[k].k = 0 := by simpa using h
          (try (simp (config := { maxSteps := 1000000 }) only [push_cast, Nat.reduceBEq, Nat.reduceBNe, Nat.reduceAdd, Nat.reduceSub, Nat.reduceMul, Nat.reduceLT, Nat.reduceLeDiff, Nat.reduceEqDiff, Nat.blt_eq, Int.reduceLT, Int.reduceLE, Int.reduceEq, Int.reduceToNat, Int.reduceNeg, Int.reduceAdd, Int.reduceSub, Int.reduceMul, Int.reducePow, reduceIte, decide_true, decide_false, reduceCtorEq, hgl]))
          ((repeat' (with_reducible refine And.intro ?_ ?_)) <;> try (first | trivial | omega | exact inK64 (by omega) (by omega) | exact inKu8 (by omega) (by omega) | (simp only [maxLen]; omega) | exact .inl trivial | exact .inl rfl))
          all_goals (try (try (simp (config := { maxSteps := 1000000 }) only [push_cast, Nat.reduceBEq, Nat.reduceBNe, Nat.reduceAdd, Nat.reduceSub, Nat.reduceMul, Nat.reduceLT, Nat.reduceLeDiff, Nat.reduceEqDiff, Nat.blt_eq, Int.reduceLT, Int.reduceLE, Int.reduceEq, Int.reduceToNat, Int.reduceNeg, Int.reduceAdd, Int.reduceSub, Int.reduceMul, Int.reducePow, reduceIte, decide_true, decide_false, reduceCtorEq])))
          refine BrP.mk (fun h => ?_) (fun h => ?_) <;> try (simp (config := { maxSteps := 1000000 }) only [push_cast, Nat.reduceBEq, Nat.reduceBNe, Nat.reduceAdd, Nat.reduceSub, Nat.reduceMul, Nat.reduceLT, Nat.reduceLeDiff, Nat.reduceEqDiff, Nat.blt_eq, Int.reduceLT, Int.reduceLE, Int.reduceEq, Int.reduceToNat, Int.reduceNeg, Int.reduceAdd, Int.reduceSub, Int.reduceMul, Int.reducePow, reduceIte, decide_true, decide_false, reduceCtorEq, h])
          · have h1' : ¬ all[k].k = F.1.kind := by simpa using h
            exact (hF (by rw [hfit]; simp [hr, h0, h1'])).symm
          · have h1' : all[k].k = F.1.kind := by simpa using h
            ((repeat' (with_reducible refine And.intro ?_ ?_)) <;> try (first | trivial | omega | exact inK64 (by omega) (by omega) | exact inKu8 (by omega) (by omega) | (simp only [maxLen]; omega) | exact .inl trivial | exact .inl rfl))
            refine ⟨k + 1, ⟨by omega, hT (by rw [hfit]; simp [hr, h1'])⟩, by omega, Le.st ?_⟩
            (try (simp (config := { maxSteps := 1000000 }) only [push_cast, Nat.reduceBEq, Nat.reduceBNe, Nat.reduceAdd, Nat.reduceSub, Nat.reduceMul, Nat.reduceLT, Nat.reduceLeDiff, Nat.reduceEqDiff, Nat.blt_eq, Int.reduceLT, Int.reduceLE, Int.reduceEq, Int.reduceToNat, Int.reduceNeg, Int.reduceAdd, Int.reduceSub, Int.reduceMul, Int.reducePow, reduceIte, decide_true, decide_false, reduceCtorEq]))
        · have h0 : all[k].k = 0 := by simpa using h
          ((repeat' (with_reducible refine And.intro ?_ ?_)) <;> try (first | trivial | omega | exact inK64 (by omega) (by omega) | exact inKu8 (by omega) (by omega) | (simp only [maxLen]; omega) | exact .inl trivial | exact .inl rfl))
          refine ⟨k + 1, ⟨by omega, hT (by rw [hfit]; simp [hr, h0])⟩, by omega, Le.st ?_⟩
          (try (simp (config := { maxSteps := 1000000 }) only [push_cast, Nat.reduceBEq, Nat.reduceBNe, Nat.reduceAdd, Nat.reduceSub, Nat.reduceMul, Nat.reduceLT, Nat.reduceLeDiff, Nat.reduceEqDiff, Nat.blt_eq, Int.reduceLT, Int.reduceLE, Int.reduceEq, Int.reduceToNat, Int.reduceNeg, Int.reduceAdd, Int.reduceSub, Int.reduceMul, Int.reducePow, reduceIte, decide_true, decide_false, reduceCtorEq]))
    · have hd : decide ((k : Int) < (all.length : Int)) = false := decide_eq_false (by omega)
      rw [List.drop_eq_nil_of_le (by omega)] at hc
      (try (simp (config := { maxSteps := 1000000 }) only [push_cast, Nat.reduceBEq, Nat.reduceBNe, Nat.reduceAdd, Nat.reduceSub, Nat.reduceMul, Nat.reduceLT, Nat.reduceLeDiff, Nat.reduceEqDiff, Nat.blt_eq, Int.reduceLT, Int.reduceLE, Int.reduceEq, Int.reduceToNat, Int.reduceNeg, Int.reduceAdd, Int.reduceSub, Int.reduceMul, Int.reducePow, reduceIte, decide_true, decide_false, reduceCtorEq, hd]))
      rw [← hc]; rfl
set_option maxHeartbeats 1000000 in
theorem f74_3 (col : ByteArray) (v : Vl) (vl : List Vl) (ks : List Nd) (l : List Cl) (hn : okNd (.mk 3 col v vl ks)) (hl : okCl l) : Spec V 74 [.ag ((eRN (.mk 3 col v vl ks)).map .d), .c (.d (.sl 3 (l.map eRC)))] (i2 .i64 (oneF (.mk 3 col v vl ks) l)) := by
  obtain ⟨h1, h2, h3, h4⟩ := okNd_v hn
  (refine Spec.of_go (L := fun | 0 => some [1, 2] | 1 => some [1, 2, 5] | 2 => some [1, 2, 6, 7, 8, 9] | 3 => some [1, 2, 6, 7, 8, 9, 30] | 4 => some [4] | 5 => some [1, 2, 6, 7, 8, 9, 30, 31] | 6 => some [43] | 7 => some [4] | 8 => some [4] | 9 => some [1, 2, 6, 7, 8, 9, 30, 44] | 10 => some [1, 2, 6, 7, 8, 9, 30, 44] | 11 => some [1, 2, 6, 7, 8, 9, 30, 44] | 12 => some [1, 2, 52] | 13 => some [4] | 14 => some [1, 2, 6, 7, 8, 9, 30, 53] | 15 => some [1, 2, 62] | 16 => some [4] | 17 => some [1, 2, 6, 7, 8, 9, 30, 63] | 18 => some [75] | 19 => some [4] | 20 => some [4] | 21 => some [1, 2, 6, 7, 8, 9, 30, 76] | 22 => some [1, 2, 6, 7, 8, 9, 30, 76] | 23 => some [85] | 24 => some [4] | 25 => some [4] | 26 => some [1, 2, 6, 9, 86] | 27 => some [1, 2, 92] | 28 => some [4] | 29 => some [1, 2, 10] | 30 => some [1, 2, 10, 99] | 31 => some [4] | 32 => some [1, 2, 10, 11] | 33 => some [1, 10, 11] | 34 => some [1, 10, 108, 109, 110] | 35 => some [1, 10, 108, 109, 110, 111] | 36 => some [1, 10, 13, 108, 109, 110] | 37 => some [1, 10, 108, 109, 110, 131] | 38 => some [4] | 39 => some [1, 10, 108, 109, 110] | 40 => some [4] | _ => none) 1000 Go.Proofs.Try.func74 rfl rfl ⟨Nat.le_of_ble_eq_true rfl, rfl⟩ rfl ?_; unfold Go.Proofs.Try.f74; simp (config := { maxSteps := 1000000 }) only [push_cast, Nat.reduceBEq, Nat.reduceBNe, Nat.reduceAdd, Nat.reduceSub, Nat.reduceMul, Nat.reduceLT, Nat.reduceLeDiff, Nat.reduceEqDiff, Nat.blt_eq, Int.reduceLT, Int.reduceLE, Int.reduceEq, Int.reduceToNat, Int.reduceNeg, Int.reduceAdd, Int.reduceSub, Int.reduceMul, Int.reducePow, reduceIte, decide_true, decide_false, reduceCtorEq])
  (refine DrawK.of (.take 0 (.take 1 (.take 2 (.take 3 (.take 4 (.take 5 (.take 6 (.take 7 (.take 8 (.take 9 (.take 10 (.take 11 (.take 12 (.take 13 (.take 14 (.take 15 (.take 16 (.take 17 .done)))))))))))))))))) 1000 (by decide +kernel) ?_; try (simp (config := { maxSteps := 1000000 }) only [push_cast, Nat.reduceBEq, Nat.reduceBNe, Nat.reduceAdd, Nat.reduceSub, Nat.reduceMul, Nat.reduceLT, Nat.reduceLeDiff, Nat.reduceEqDiff, Nat.blt_eq, Int.reduceLT, Int.reduceLE, Int.reduceEq, Int.reduceToNat, Int.reduceNeg, Int.reduceAdd, Int.reduceSub, Int.reduceMul, Int.reducePow, reduceIte, decide_true, decide_false, reduceCtorEq]))
  (repeat' (first | (simp (config := { maxSteps := 1000000 }) only [push_cast, Nat.reduceBEq, Nat.reduceBNe, Nat.reduceAdd, Nat.reduceSub, Nat.reduceMul, Nat.reduceLT, Nat.reduceLeDiff, Nat.reduceEqDiff, Nat.blt_eq, Int.reduceLT, Int.reduceLE, Int.reduceEq, Int.reduceToNat, Int.reduceNeg, Int.reduceAdd, Int.reduceSub, Int.reduceMul, Int.reducePow, reduceIte, decide_true, decide_false, reduceCtorEq]) | (refine BrP.mk (fun h => ?_) (fun h => ?_) <;> (try simp only [h]))))
  all_goals (try simp only [zeroV_ref, Bool.not_eq_true', Bool.not_eq_false', Bool.not_eq_eq_eq_not, Bool.not_true, Bool.not_false, decide_eq_true_eq, decide_eq_false_iff_not] at *)
  all_goals (try ((rcases vl with _ | ⟨x, vl⟩ <;> rcases ks with _ | ⟨y, ks⟩ <;> simp_all [oneF, op_mk, col_mk, v_mk, l_mk, ks_mk]); done))
  have e : oneF (.mk 3 col v vl ks) l = tailF (.mk 3 col v vl ks) l := by
    rcases vl with _ | ⟨x, vl⟩ <;> rcases ks with _ | ⟨y, ks⟩ <;> simp_all [oneF, op_mk, col_mk, v_mk, l_mk, ks_mk]
  rw [e, tail_all]
  have hS := f56 l hl.1
  rw [show (l.map fun c => eS c.name) = (l.map (·.name)).map eS by rw [List.map_map]; rfl] at hS
  (refine DrawK.of (.take 0 (.take 2 (.take 3 (.one 1 (.one 4 (.take 5 .done)))))) 1000 (by decide +kernel) ?_; try (simp (config := { maxSteps := 1000000 }) only [push_cast, Nat.reduceBEq, Nat.reduceBNe, Nat.reduceAdd, Nat.reduceSub, Nat.reduceMul, Nat.reduceLT, Nat.reduceLeDiff, Nat.reduceEqDiff, Nat.blt_eq, Int.reduceLT, Int.reduceLE, Int.reduceEq, Int.reduceToNat, Int.reduceNeg, Int.reduceAdd, Int.reduceSub, Int.reduceMul, Int.reducePow, reduceIte, decide_true, decide_false, reduceCtorEq]))
  refine ⟨_, hS, rfl, ?_⟩
  (try (simp (config := { maxSteps := 1000000 }) only [push_cast, Nat.reduceBEq, Nat.reduceBNe, Nat.reduceAdd, Nat.reduceSub, Nat.reduceMul, Nat.reduceLT, Nat.reduceLeDiff, Nat.reduceEqDiff, Nat.blt_eq, Int.reduceLT, Int.reduceLE, Int.reduceEq, Int.reduceToNat, Int.reduceNeg, Int.reduceAdd, Int.reduceSub, Int.reduceMul, Int.reducePow, reduceIte, decide_true, decide_false, reduceCtorEq]))
  refine ⟨_, f55 (l.map (·.name)) col (by simpa only [okLen, List.length_map] using hl.1), rfl, ?_⟩
  (try (simp (config := { maxSteps := 1000000 }) only [push_cast, Nat.reduceBEq, Nat.reduceBNe, Nat.reduceAdd, Nat.reduceSub, Nat.reduceMul, Nat.reduceLT, Nat.reduceLeDiff, Nat.reduceEqDiff, Nat.blt_eq, Int.reduceLT, Int.reduceLE, Int.reduceEq, Int.reduceToNat, Int.reduceNeg, Int.reduceAdd, Int.reduceSub, Int.reduceMul, Int.reducePow, reduceIte, decide_true, decide_false, reduceCtorEq]))
  have hfa := (find_at col l 0).1
  refine BrP.mk (fun h => ?_) (fun h => ?_) <;> try (simp (config := { maxSteps := 1000000 }) only [push_cast, Nat.reduceBEq, Nat.reduceBNe, Nat.reduceAdd, Nat.reduceSub, Nat.reduceMul, Nat.reduceLT, Nat.reduceLeDiff, Nat.reduceEqDiff, Nat.blt_eq, Int.reduceLT, Int.reduceLE, Int.reduceEq, Int.reduceToNat, Int.reduceNeg, Int.reduceAdd, Int.reduceSub, Int.reduceMul, Int.reducePow, reduceIte, decide_true, decide_false, reduceCtorEq, h])
  · have hf : (findF col l 0).2.2 = false := by rw [hfa]; simp at h ⊢; omega
    rw [if_pos hf]
  · have hf : (findF col l 0).2.2 = true := by rw [hfa]; simp at h ⊢; omega
    obtain ⟨hlt0, hi0, hi1⟩ := find_lt hf
    rw [if_neg (by simp [hf])]
    clear hfa hS e
    generalize hk : atF col (l.map (·.name)) 0 = K at *
    generalize hF : findF col l 0 = F at *
    obtain ⟨all, hall⟩ : ∃ all, all = vl ++ [v] := ⟨_, rfl⟩
    rw [← hall]
    have hal : ∀ x ∈ all, okVl x := fun x hx => by
      rw [hall] at hx
      rcases List.mem_append.1 hx with hx | hx
      · exact h2 x hx
      · rw [List.mem_singleton.1 hx]; exact h1
    have hlen : all.length = vl.length + 1 := by rw [hall]; simp
    have he : vl.map eRV ++ [eRV v] = all.map eRV := by rw [hall]; simp
    refine DrawK.cut (.take 0 (.take 1 (.take 2 (.two 3 (.one 4 (.one 5 (.one 6 (.one 7 (.one 8 .done))))) 4 (.two 3 (.one 5 (.one 6 (.one 7 (.one 8 .done)))) 5 (.two 3 (.one 6 (.one 7 (.one 8 .done))) 6 (.one 3 (.one 7 (.one 8 .done))))))))) 1000 (by decide +kernel) ⟨[(11, .c (.d (.sl 4 (all.map eRV)))), (10, .c (.d (.v (.int .i64 K)))), (1, .c (.d (.sl 3 (l.map eRC))))], []⟩ ?_ ?_
    · rw [← he]
      (try (simp (config := { maxSteps := 1000000 }) only [push_cast, Nat.reduceBEq, Nat.reduceBNe, Nat.reduceAdd, Nat.reduceSub, Nat.reduceMul, Nat.reduceLT, Nat.reduceLeDiff, Nat.reduceEqDiff, Nat.blt_eq, Int.reduceLT, Int.reduceLE, Int.reduceEq, Int.reduceToNat, Int.reduceNeg, Int.reduceAdd, Int.reduceSub, Int.reduceMul, Int.reducePow, reduceIte, decide_true, decide_false, reduceCtorEq]))
      ((repeat' (with_reducible refine And.intro ?_ ?_)) <;> try (first | trivial | omega | exact inK64 (by omega) (by omega) | exact inKu8 (by omega) (by omega) | (simp only [maxLen]; omega) | exact .inl trivial | exact .inl rfl))
      all_goals (refine Le.frz [2, 3] ?_; (try (simp (config := { maxSteps := 1000000 }) only [push_cast, Nat.reduceBEq, Nat.reduceBNe, Nat.reduceAdd, Nat.reduceSub, Nat.reduceMul, Nat.reduceLT, Nat.reduceLeDiff, Nat.reduceEqDiff, Nat.blt_eq, Int.reduceLT, Int.reduceLE, Int.reduceEq, Int.reduceToNat, Int.reduceNeg, Int.reduceAdd, Int.reduceSub, Int.reduceMul, Int.reducePow, reduceIte, decide_true, decide_false, reduceCtorEq])))
    (try (simp (config := { maxSteps := 1000000 }) only [push_cast, Nat.reduceBEq, Nat.reduceBNe, Nat.reduceAdd, Nat.reduceSub, Nat.reduceMul, Nat.reduceLT, Nat.reduceLeDiff, Nat.reduceEqDiff, Nat.blt_eq, Int.reduceLT, Int.reduceLE, Int.reduceEq, Int.reduceToNat, Int.reduceNeg, Int.reduceAdd, Int.reduceSub, Int.reduceMul, Int.reducePow, reduceIte, decide_true, decide_false, reduceCtorEq]))
    refine LoopK.s1 (α := Nat) [110] (fun k => [i2 .i64 k]) (fun k => k ≤ all.length ∧ ((all.drop k).all fun v => fitsF v F.1) = (all.all fun v => fitsF v F.1)) (fun k => all.length - k) 1000 0 ⟨by omega, rfl⟩ (by (try (simp (config := { maxSteps := 1000000 }) only [push_cast, Nat.reduceBEq, Nat.reduceBNe, Nat.reduceAdd, Nat.reduceSub, Nat.reduceMul, Nat.reduceLT, Nat.reduceLeDiff, Nat.reduceEqDiff, Nat.blt_eq, Int.reduceLT, Int.reduceLE, Int.reduceEq, Int.reduceToNat, Int.reduceNeg, Int.reduceAdd, Int.reduceSub, Int.reduceMul, Int.reducePow, reduceIte, decide_true, decide_false, reduceCtorEq]))) ?_
    rintro k ⟨hk', hc⟩
    by_cases hlt : k < all.length
    · have hv := List.getElem?_eq_getElem hlt; have hd : decide ((k : Int) < (all.length : Int)) = true := decide_eq_true (by omega)
      rw [drop_cons hv] at hc
      simp only [List.all_cons] at hc
      (try (simp (config := { maxSteps := 1000000 }) only [push_cast, Nat.reduceBEq, Nat.reduceBNe, Nat.reduceAdd, Nat.reduceSub, Nat.reduceMul, Nat.reduceLT, Nat.reduceLeDiff, Nat.reduceEqDiff, Nat.blt_eq, Int.reduceLT, Int.reduceLE, Int.reduceEq, Int.reduceToNat, Int.reduceNeg, Int.reduceAdd, Int.reduceSub, Int.reduceMul, Int.reducePow, reduceIte, decide_true, decide_false, reduceCtorEq, hd, getD_map hv]))
      (repeat ((with_reducible refine And.intro ?_ ?_); focus (first | trivial | omega | exact inK64 (by omega) (by omega) | exact inKu8 (by omega) (by omega))))
      (refine DrawK.of (.take 0 (.one 1 (.take 2 (.take 3 (.take 4 (.take 5 (.take 6 (.take 7 (.take 8 (.take 9 (.take 10 (.take 11 (.take 12 (.take 13 (.take 14 (.take 15 (.take 16 (.take 17 .done)))))))))))))))))) 1000 (by decide +kernel) ?_; try (simp (config := { maxSteps := 1000000 }) only [push_cast, Nat.reduceBEq, Nat.reduceBNe, Nat.reduceAdd, Nat.reduceSub, Nat.reduceMul, Nat.reduceLT, Nat.reduceLeDiff, Nat.reduceEqDiff, Nat.blt_eq, Int.reduceLT, Int.reduceLE, Int.reduceEq, Int.reduceToNat, Int.reduceNeg, Int.reduceAdd, Int.reduceSub, Int.reduceMul, Int.reducePow, reduceIte, decide_true, decide_false, reduceCtorEq]))
      (have hS := f21 all[k] (hal _ (List.getElem_mem hlt)); simp only [eS_eq, eN_eq, eV_eq, eRN_eq, eRV_eq, eC_eq, eRC_eq, List.map_cons, List.map_nil, i2, b2, s2] at hS; refine ⟨_, hS, rfl, ?_⟩; clear hS; try (simp (config := { maxSteps := 1000000 }) only [push_cast, Nat.reduceBEq, Nat.reduceBNe, Nat.reduceAdd, Nat.reduceSub, Nat.reduceMul, Nat.reduceLT, Nat.reduceLeDiff, Nat.reduceEqDiff, Nat.blt_eq, Int.reduceLT, Int.reduceLE, Int.reduceEq, Int.reduceToNat, Int.reduceNeg, Int.reduceAdd, Int.reduceSub, Int.reduceMul, Int.reducePow, reduceIte, decide_true, decide_false, reduceCtorEq]))
      have hgl : (l.map eRC).getD K.toNat [] = eRC F.1 := getD_map (by rw [← hi1]; exact hi0)
      have hKl : K < (l.length : Int) := by omega
      have hK0 : 0 ≤ K := by omega
      have hfit : fitsF all[k] F.1 = (rightF all[k] && (decide (all[k].k = 0) || decide (all[k].k = F.1.kind))) := rfl
      clear hi0 hi1
      have hF : fitsF all[k] F.1 = false → (if (all.all fun v => fitsF v F.1) = true then (0 : Int) else 21) = 21 := fun h0 => by
        rw [h0, Bool.false_and] at hc
        rw [if_neg (by rw [← hc]; decide)]
      have hT : fitsF all[k] F.1 = true → ((all.drop (k + 1)).all fun v => fitsF v F.1) = (all.all fun v => fitsF v F.1) := fun h0 => by
        rw [h0, Bool.true_and] at hc
        exact hc
      clear hc
      refine BrP.mk (fun h => ?_) (fun h => ?_) <;> try (simp (config := { maxSteps := 1000000 }) only [push_cast, Nat.reduceBEq, Nat.reduceBNe, Nat.reduceAdd, Nat.reduceSub, Nat.reduceMul, Nat.reduceLT, Nat.reduceLeDiff, Nat.reduceEqDiff, Nat.blt_eq, Int.reduceLT, Int.reduceLE, Int.reduceEq, Int.reduceToNat, Int.reduceNeg, Int.reduceAdd, Int.reduceSub, Int.reduceMul, Int.reducePow, reduceIte, decide_true, decide_false, reduceCtorEq, h])
      · exact (hF (by rw [hfit]; simp at h; simp [h])).symm
      · have hr : rightF all[k] = true := by simpa using h
        refine BrP.mk (fun h => ?_) (fun h => ?_) <;> try (simp (config := { maxSteps := 1000000 }) only [push_cast, Nat.reduceBEq, Nat.reduceBNe, Nat.reduceAdd, Nat.reduceSub, Nat.reduceMul, Nat.reduceLT, Nat.reduceLeDiff, Nat.reduceEqDiff, Nat.blt_eq, Int.reduceLT, Int.reduceLE, Int.reduceEq, Int.reduceToNat, Int.reduceNeg, Int.reduceAdd, Int.reduceSub, Int.reduceMul, Int.reducePow, reduceIte, decide_true, decide_false, reduceCtorEq, h])
        · have h0 : ¬ all[k].k = 0 := by simpa using h
          (try (simp (config := { maxSteps := 1000000 }) only [push_cast, Nat.reduceBEq, Nat.reduceBNe, Nat.reduceAdd, Nat.reduceSub, Nat.reduceMul, Nat.reduceLT, Nat.reduceLeDiff, Nat.reduceEqDiff, Nat.blt_eq, Int.reduceLT, Int.reduceLE, Int.reduceEq, Int.reduceToNat, Int.reduceNeg, Int.reduceAdd, Int.reduceSub, Int.reduceMul, Int.reducePow, reduceIte, decide_true, decide_false, reduceCtorEq, hgl]))
          ((repeat' (with_reducible refine And.intro ?_ ?_)) <;> try (first | trivial | omega | exact inK64 (by omega) (by omega) | exact inKu8 (by omega) (by omega) | (simp only [maxLen]; omega) | exact .inl trivial | exact .inl rfl))
          all_goals (try (try (simp (config := { maxSteps := 1000000 }) only [push_cast, Nat.reduceBEq, Nat.reduceBNe, Nat.reduceAdd, Nat.reduceSub, Nat.reduceMul, Nat.reduceLT, Nat.reduceLeDiff, Nat.reduceEqDiff, Nat.blt_eq, Int.reduceLT, Int.reduceLE, Int.reduceEq, Int.reduceToNat, Int.reduceNeg, Int.reduceAdd, Int.reduceSub, Int.reduceMul, Int.reducePow, reduceIte, decide_true, decide_false, reduceCtorEq])))
          refine BrP.mk (fun h => ?_) (fun h => ?_) <;> try (simp (config := { maxSteps := 1000000 }) only [push_cast, Nat.reduceBEq, Nat.reduceBNe, Nat.reduceAdd, Nat.reduceSub, Nat.reduceMul, Nat.reduceLT, Nat.reduceLeDiff, Nat.reduceEqDiff, Nat.blt_eq, Int.reduceLT, Int.reduceLE, Int.reduceEq, Int.reduceToNat, Int.reduceNeg, Int.reduceAdd, Int.reduceSub, Int.reduceMul, Int.reducePow, reduceIte, decide_true, decide_false, reduceCtorEq, h])
          · have h1' : ¬ all[k].k = F.1.kind := by simpa using h
            exact (hF (by rw [hfit]; simp [hr, h0, h1'])).symm
          · have h1' : all[k].k = F.1.kind := by simpa using h
            ((repeat' (with_reducible refine And.intro ?_ ?_)) <;> try (first | trivial | omega | exact inK64 (by omega) (by omega) | exact inKu8 (by omega) (by omega) | (simp only [maxLen]; omega) | exact .inl trivial | exact .inl rfl))
            refine ⟨k + 1, ⟨by omega, hT (by rw [hfit]; simp [hr, h1'])⟩, by omega, Le.st ?_⟩
            (try (simp (config := { maxSteps := 1000000 }) only [push_cast, Nat.reduceBEq, Nat.reduceBNe, Nat.reduceAdd, Nat.reduceSub, Nat.reduceMul, Nat.reduceLT, Nat.reduceLeDiff, Nat.reduceEqDiff, Nat.blt_eq, Int.reduceLT, Int.reduceLE, Int.reduceEq, Int.reduceToNat, Int.reduceNeg, Int.reduceAdd, Int.reduceSub, Int.reduceMul, Int.reducePow, reduceIte, decide_true, decide_false, reduceCtorEq]))
        · have h0 : all[k].k = 0 := by simpa using h
          ((repeat' (with_reducible refine And.intro ?_ ?_)) <;> try (first | trivial | omega | exact inK64 (by omega) (by omega) | exact inKu8 (by omega) (by omega) | (simp only [maxLen]; omega) | exact .inl trivial | exact .inl rfl))
          refine ⟨k + 1, ⟨by omega, hT (by rw [hfit]; simp [hr, h0])⟩, by omega, Le.st ?_⟩
          (try (simp (config := { maxSteps := 1000000 }) only [push_cast, Nat.reduceBEq, Nat.reduceBNe, Nat.reduceAdd, Nat.reduceSub, Nat.reduceMul, Nat.reduceLT, Nat.reduceLeDiff, Nat.reduceEqDiff, Nat.blt_eq, Int.reduceLT, Int.reduceLE, Int.reduceEq, Int.reduceToNat, Int.reduceNeg, Int.reduceAdd, Int.reduceSub, Int.reduceMul, Int.reducePow, reduceIte, decide_true, decide_false, reduceCtorEq]))
    · have hd : decide ((k : Int) < (all.length : Int)) = false := decide_eq_false (by omega)
      rw [List.drop_eq_nil_of_le (by omega)] at hc
      (try (simp (config := { maxSteps := 1000000 }) only [push_cast, Nat.reduceBEq, Nat.reduceBNe, Nat.reduceAdd, Nat.reduceSub, Nat.reduceMul, Nat.reduceLT, Nat.reduceLeDiff, Nat.reduceEqDiff, Nat.blt_eq, Int.reduceLT, Int.reduceLE, Int.reduceEq, Int.reduceToNat, Int.reduceNeg, Int.reduceAdd, Int.reduceSub, Int.reduceMul, Int.reducePow, reduceIte, decide_true, decide_false, reduceCtorEq, hd]))
      rw [← hc]; rfl
set_option maxHeartbeats 1000000 in
theorem f74_4 (col : ByteArray) (v : Vl) (vl : List Vl) (ks : List Nd) (l : List Cl) (hn : okNd (.mk 4 col v vl ks)) (hl : okCl l) : Spec V 74 [.ag ((eRN (.mk 4 col v vl ks)).map .d), .c (.d (.sl 3 (l.map eRC)))] (i2 .i64 (oneF (.mk 4 col v vl ks) l)) := by
  obtain ⟨h1, h2, h3, h4⟩ := okNd_v hn
  (refine Spec.of_go (L := fun | 0 => some [1, 2] | 1 => some [1, 2, 5] | 2 => some [1, 2, 6, 7, 8, 9] | 3 => some [1, 2, 6, 7, 8, 9, 30] | 4 => some [4] | 5 => some [1, 2, 6, 7, 8, 9, 30, 31] | 6 => some [43] | 7 => some [4] | 8 => some [4] | 9 => some [1, 2, 6, 7, 8, 9, 30, 44] | 10 => some [1, 2, 6, 7, 8, 9, 30, 44] | 11 => some [1, 2, 6, 7, 8, 9, 30, 44] | 12 => some [1, 2, 52] | 13 => some [4] | 14 => some [1, 2, 6, 7, 8, 9, 30, 53] | 15 => some [1, 2, 62] | 16 => some [4] | 17 => some [1, 2, 6, 7, 8, 9, 30, 63] | 18 => some [75] | 19 => some [4] | 20 => some [4] | 21 => some [1, 2, 6, 7, 8, 9, 30, 76] | 22 => some [1, 2, 6, 7, 8, 9, 30, 76] | 23 => some [85] | 24 => some [4] | 25 => some [4] | 26 => some [1, 2, 6, 9, 86] | 27 => some [1, 2, 92] | 28 => some [4] | 29 => some [1, 2, 10] | 30 => some [1, 2, 10, 99] | 31 => some [4] | 32 => some [1, 2, 10, 11] | 33 => some [1, 10, 11] | 34 => some [1, 10, 108, 109, 110] | 35 => some [1, 10, 108, 109, 110, 111] | 36 => some [1, 10, 13, 108, 109, 110] | 37 => some [1, 10, 108, 109, 110, 131] | 38 => some [4] | 39 => some [1, 10, 108, 109, 110] | 40 => some [4] | _ => none) 1000 Go.Proofs.Try.func74 rfl rfl ⟨Nat.le_of_ble_eq_true rfl, rfl⟩ rfl ?_; unfold Go.Proofs.Try.f74; simp (config := { maxSteps := 1000000 }) only [push_cast, Nat.reduceBEq, Nat.reduceBNe, Nat.reduceAdd, Nat.reduceSub, Nat.reduceMul, Nat.reduceLT, Nat.reduceLeDiff, Nat.reduceEqDiff, Nat.blt_eq, Int.reduceLT, Int.reduceLE, Int.reduceEq, Int.reduceToNat, Int.reduceNeg, Int.reduceAdd, Int.reduceSub, Int.reduceMul, Int.reducePow, reduceIte, decide_true, decide_false, reduceCtorEq])
  (refine DrawK.of (.take 0 (.take 1 (.take 2 (.take 3 (.take 4 (.take 5 (.take 6 (.take 7 (.take 8 (.take 9 (.take 10 (.take 11 (.take 12 (.take 13 (.take 14 (.take 15 (.take 16 (.take 17 .done)))))))))))))))))) 1000 (by decide +kernel) ?_; try (simp (config := { maxSteps := 1000000 }) only [push_cast, Nat.reduceBEq, Nat.reduceBNe, Nat.reduceAdd, Nat.reduceSub, Nat.reduceMul, Nat.reduceLT, Nat.reduceLeDiff, Nat.reduceEqDiff, Nat.blt_eq, Int.reduceLT, Int.reduceLE, Int.reduceEq, Int.reduceToNat, Int.reduceNeg, Int.reduceAdd, Int.reduceSub, Int.reduceMul, Int.reducePow, reduceIte, decide_true, decide_false, reduceCtorEq]))
  (repeat' (first | (simp (config := { maxSteps := 1000000 }) only [push_cast, Nat.reduceBEq, Nat.reduceBNe, Nat.reduceAdd, Nat.reduceSub, Nat.reduceMul, Nat.reduceLT, Nat.reduceLeDiff, Nat.reduceEqDiff, Nat.blt_eq, Int.reduceLT, Int.reduceLE, Int.reduceEq, Int.reduceToNat, Int.reduceNeg, Int.reduceAdd, Int.reduceSub, Int.reduceMul, Int.reducePow, reduceIte, decide_true, decide_false, reduceCtorEq]) | (refine BrP.mk (fun h => ?_) (fun h => ?_) <;> (try simp only [h]))))
  all_goals (try simp only [zeroV_ref, Bool.not_eq_true', Bool.not_eq_false', Bool.not_eq_eq_eq_not, Bool.not_true, Bool.not_false, decide_eq_true_eq, decide_eq_false_iff_not] at *)
  all_goals (try ((rcases vl with _ | ⟨x, vl⟩ <;> rcases ks with _ | ⟨y, ks⟩ <;> simp_all [oneF, op_mk, col_mk, v_mk, l_mk, ks_mk]); done))
  have e : oneF (.mk 4 col v vl ks) l = tailF (.mk 4 col v vl ks) l := by
    rcases vl with _ | ⟨x, vl⟩ <;> rcases ks with _ | ⟨y, ks⟩ <;> simp_all [oneF, op_mk, col_mk, v_mk, l_mk, ks_mk]
  rw [e, tail_all]
  have hS := f56 l hl.1
  rw [show (l.map fun c => eS c.name) = (l.map (·.name)).map eS by rw [List.map_map]; rfl] at hS
  (refine DrawK.of (.take 0 (.take 2 (.take 3 (.one 1 (.one 4 (.take 5 .done)))))) 1000 (by decide +kernel) ?_; try (simp (config := { maxSteps := 1000000 }) only [push_cast, Nat.reduceBEq, Nat.reduceBNe, Nat.reduceAdd, Nat.reduceSub, Nat.reduceMul, Nat.reduceLT, Nat.reduceLeDiff, Nat.reduceEqDiff, Nat.blt_eq, Int.reduceLT, Int.reduceLE, Int.reduceEq, Int.reduceToNat, Int.reduceNeg, Int.reduceAdd, Int.reduceSub, Int.reduceMul, Int.reducePow, reduceIte, decide_true, decide_false, reduceCtorEq]))
  refine ⟨_, hS, rfl, ?_⟩
  (try (simp (config := { maxSteps := 1000000 }) only [push_cast, Nat.reduceBEq, Nat.reduceBNe, Nat.reduceAdd, Nat.reduceSub, Nat.reduceMul, Nat.reduceLT, Nat.reduceLeDiff, Nat.reduceEqDiff, Nat.blt_eq, Int.reduceLT, Int.reduceLE, Int.reduceEq, Int.reduceToNat, Int.reduceNeg, Int.reduceAdd, Int.reduceSub, Int.reduceMul, Int.reducePow, reduceIte, decide_true, decide_false, reduceCtorEq]))
  refine ⟨_, f55 (l.map (·.name)) col (by simpa only [okLen, List.length_map] using hl.1), rfl, ?_⟩
  (try (simp (config := { maxSteps := 1000000 }) only [push_cast, Nat.reduceBEq, Nat.reduceBNe, Nat.reduceAdd, Nat.reduceSub, Nat.reduceMul, Nat.reduceLT, Nat.reduceLeDiff, Nat.reduceEqDiff, Nat.blt_eq, Int.reduceLT, Int.reduceLE, Int.reduceEq, Int.reduceToNat, Int.reduceNeg, Int.reduceAdd, Int.reduceSub, Int.reduceMul, Int.reducePow, reduceIte, decide_true, decide_false, reduceCtorEq]))
  have hfa := (find_at col l 0).1
  refine BrP.mk (fun h => ?_) (fun h => ?_) <;> try (simp (config := { maxSteps := 1000000 }) only [push_cast, Nat.reduceBEq, Nat.reduceBNe, Nat.reduceAdd, Nat.reduceSub, Nat.reduceMul, Nat.reduceLT, Nat.reduceLeDiff, Nat.reduceEqDiff, Nat.blt_eq, Int.reduceLT, Int.reduceLE, Int.reduceEq, Int.reduceToNat, Int.reduceNeg, Int.reduceAdd, Int.reduceSub, Int.reduceMul, Int.reducePow, reduceIte, decide_true, decide_false, reduceCtorEq, h])
  · have hf : (findF col l 0).2.2 = false := by rw [hfa]; simp at h ⊢; omega
    rw [if_pos hf]
  · have hf : (findF col l 0).2.2 = true := by rw [hfa]; simp at h ⊢; omega
    obtain ⟨hlt0, hi0, hi1⟩ := find_lt hf
    rw [if_neg (by simp [hf])]
    clear hfa hS e
    generalize hk : atF col (l.map (·.name)) 0 = K at *
    generalize hF : findF col l 0 = F at *
    obtain ⟨all, hall⟩ : ∃ all, all = vl ++ [v] := ⟨_, rfl⟩
    rw [← hall]
    have hal : ∀ x ∈ all, okVl x := fun x hx => by
      rw [hall] at hx
      rcases List.mem_append.1 hx with hx | hx
      · exact h2 x hx
      · rw [List.mem_singleton.1 hx]; exact h1
    have hlen : all.length = vl.length + 1 := by rw [hall]; simp
    have he : vl.map eRV ++ [eRV v] = all.map eRV := by rw [hall]; simp
    refine DrawK.cut (.take 0 (.take 1 (.take 2 (.two 3 (.one 4 (.one 5 (.one 6 (.one 7 (.one 8 .done))))) 4 (.two 3 (.one 5 (.one 6 (.one 7 (.one 8 .done)))) 5 (.two 3 (.one 6 (.one 7 (.one 8 .done))) 6 (.one 3 (.one 7 (.one 8 .done))))))))) 1000 (by decide +kernel) ⟨[(11, .c (.d (.sl 4 (all.map eRV)))), (10, .c (.d (.v (.int .i64 K)))), (1, .c (.d (.sl 3 (l.map eRC))))], []⟩ ?_ ?_
    · rw [← he]
      (try (simp (config := { maxSteps := 1000000 }) only [push_cast, Nat.reduceBEq, Nat.reduceBNe, Nat.reduceAdd, Nat.reduceSub, Nat.reduceMul, Nat.reduceLT, Nat.reduceLeDiff, Nat.reduceEqDiff, Nat.blt_eq, Int.reduceLT, Int.reduceLE, Int.reduceEq, Int.reduceToNat, Int.reduceNeg, Int.reduceAdd, Int.reduceSub, Int.reduceMul, Int.reducePow, reduceIte, decide_true, decide_false, reduceCtorEq]))
      ((repeat' (with_reducible refine And.intro ?_ ?_)) <;> try (first | trivial | omega | exact inK64 (by omega) (by omega) | exact inKu8 (by omega) (by omega) | (simp only [maxLen]; omega) | exact .inl trivial | exact .inl rfl))
      all_goals (refine Le.frz [2, 3] ?_; (try (simp (config := { maxSteps := 1000000 }) only [push_cast, Nat.reduceBEq, Nat.reduceBNe, Nat.reduceAdd, Nat.reduceSub, Nat.reduceMul, Nat.reduceLT, Nat.reduceLeDiff, Nat.reduceEqDiff, Nat.blt_eq, Int.reduceLT, Int.reduceLE, Int.reduceEq, Int.reduceToNat, Int.reduceNeg, Int.reduceAdd, Int.reduceSub, Int.reduceMul, Int.reducePow, reduceIte, decide_true, decide_false, reduceCtorEq])))
    (try (simp (config := { maxSteps := 1000000 }) only [push_cast, Nat.reduceBEq, Nat.reduceBNe, Nat.reduceAdd, Nat.reduceSub, Nat.reduceMul, Nat.reduceLT, Nat.reduceLeDiff, Nat.reduceEqDiff, Nat.blt_eq, Int.reduceLT, Int.reduceLE, Int.reduceEq, Int.reduceToNat, Int.reduceNeg, Int.reduceAdd, Int.reduceSub, Int.reduceMul, Int.reducePow, reduceIte, decide_true, decide_false, reduceCtorEq]))
    refine LoopK.s1 (α := Nat) [110] (fun k => [i2 .i64 k]) (fun k => k ≤ all.length ∧ ((all.drop k).all fun v => fitsF v F.1) = (all.all fun v => fitsF v F.1)) (fun k => all.length - k) 1000 0 ⟨by omega, rfl⟩ (by (try (simp (config := { maxSteps := 1000000 }) only [push_cast, Nat.reduceBEq, Nat.reduceBNe, Nat.reduceAdd, Nat.reduceSub, Nat.reduceMul, Nat.reduceLT, Nat.reduceLeDiff, Nat.reduceEqDiff, Nat.blt_eq, Int.reduceLT, Int.reduceLE, Int.reduceEq, Int.reduceToNat, Int.reduceNeg, Int.reduceAdd, Int.reduceSub, Int.reduceMul, Int.reducePow, reduceIte, decide_true, decide_false, reduceCtorEq]))) ?_
    rintro k ⟨hk', hc⟩
    by_cases hlt : k < all.length
    · have hv := List.getElem?_eq_getElem hlt; have hd : decide ((k : Int) < (all.length : Int)) = true := decide_eq_true (by omega)
      rw [drop_cons hv] at hc
      simp only [List.all_cons] at hc
      (try (simp (config := { maxSteps := 1000000 }) only [push_cast, Nat.reduceBEq, Nat.reduceBNe, Nat.reduceAdd, Nat.reduceSub, Nat.reduceMul, Nat.reduceLT, Nat.reduceLeDiff, Nat.reduceEqDiff, Nat.blt_eq, Int.reduceLT, Int.reduceLE, Int.reduceEq, Int.reduceToNat, Int.reduceNeg, Int.reduceAdd, Int.reduceSub, Int.reduceMul, Int.reducePow, reduceIte, decide_true, decide_false, reduceCtorEq, hd, getD_map hv]))
      (repeat ((with_reducible refine And.intro ?_ ?_); focus (first | trivial | omega | exact inK64 (by omega) (by omega) | exact inKu8 (by omega) (by omega))))
      (refine DrawK.of (.take 0 (.one 1 (.take 2 (.take 3 (.take 4 (.take 5 (.take 6 (.take 7 (.take 8 (.take 9 (.take 10 (.take 11 (.take 12 (.take 13 (.take 14 (.take 15 (.take 16 (.take 17 .done)))))))))))))))))) 1000 (by decide +kernel) ?_; try (simp (config := { maxSteps := 1000000 }) only [push_cast, Nat.reduceBEq, Nat.reduceBNe, Nat.reduceAdd, Nat.reduceSub, Nat.reduceMul, Nat.reduceLT, Nat.reduceLeDiff, Nat.reduceEqDiff, Nat.blt_eq, Int.reduceLT, Int.reduceLE, Int.reduceEq, Int.reduceToNat, Int.reduceNeg, Int.reduceAdd, Int.reduceSub, Int.reduceMul, Int.reducePow, reduceIte, decide_true, decide_false, reduceCtorEq]))
      (have hS := f21 all[k] (hal _ (List.getElem_mem hlt)); simp only [eS_eq, eN_eq, eV_eq, eRN_eq, eRV_eq, eC_eq, eRC_eq, List.map_cons, List.map_nil, i2, b2, s2] at hS; refine ⟨_, hS, rfl, ?_⟩; clear hS; try (simp (config := { maxSteps := 1000000 }) only [push_cast, Nat.reduceBEq, Nat.reduceBNe, Nat.reduceAdd, Nat.reduceSub, Nat.reduceMul, Nat.reduceLT, Nat.reduceLeDiff, Nat.reduceEqDiff, Nat.blt_eq, Int.reduceLT, Int.reduceLE, Int.reduceEq, Int.reduceToNat, Int.reduceNeg, Int.reduceAdd, Int.reduceSub, Int.reduceMul, Int.reducePow, reduceIte, decide_true, decide_false, reduceCtorEq]))
      have hgl : (l.map eRC).getD K.toNat [] = eRC F.1 := getD_map (by rw [← hi1]; exact hi0)
      have hKl : K < (l.length : Int) := by omega
      have hK0 : 0 ≤ K := by omega
      have hfit : fitsF all[k] F.1 = (rightF all[k] && (decide (all[k].k = 0) || decide (all[k].k = F.1.kind))) := rfl
      clear hi0 hi1
      have hF : fitsF all[k] F.1 = false → (if (all.all fun v => fitsF v F.1) = true then (0 : Int) else 21) = 21 := fun h0 => by
        rw [h0, Bool.false_and] at hc
        rw [if_neg (by rw [← hc]; decide)]
      have hT : fitsF all[k] F.1 = true → ((all.drop (k + 1)).all fun v => fitsF v F.1) = (all.all fun v => fitsF v F.1) := fun h0 => by
        rw [h0, Bool.true_and] at hc
        exact hc
      clear hc
      refine BrP.mk (fun h => ?_) (fun h => ?_) <;> try (simp (config := { maxSteps := 1000000 }) only [push_cast, Nat.reduceBEq, Nat.reduceBNe, Nat.reduceAdd, Nat.reduceSub, Nat.reduceMul, Nat.reduceLT, Nat.reduceLeDiff, Nat.reduceEqDiff, Nat.blt_eq, Int.reduceLT, Int.reduceLE, Int.reduceEq, Int.reduceToNat, Int.reduceNeg, Int.reduceAdd, Int.reduceSub, Int.reduceMul, Int.reducePow, reduceIte, decide_true, decide_false, reduceCtorEq, h])
      · exact (hF (by rw [hfit]; simp at h; simp [h])).symm
      · have hr : rightF all[k] = true := by simpa using h
        refine BrP.mk (fun h => ?_) (fun h => ?_) <;> try (simp (config := { maxSteps := 1000000 }) only [push_cast, Nat.reduceBEq, Nat.reduceBNe, Nat.reduceAdd, Nat.reduceSub, Nat.reduceMul, Nat.reduceLT, Nat.reduceLeDiff, Nat.reduceEqDiff, Nat.blt_eq, Int.reduceLT, Int.reduceLE, Int.reduceEq, Int.reduceToNat, Int.reduceNeg, Int.reduceAdd, Int.reduceSub, Int.reduceMul, Int.reducePow, reduceIte, decide_true, decide_false, reduceCtorEq, h])
        · have h0 : ¬ all[k].k = 0 := by simpa using h
          (try (simp (config := { maxSteps := 1000000 }) only [push_cast, Nat.reduceBEq, Nat.reduceBNe, Nat.reduceAdd, Nat.reduceSub, Nat.reduceMul, Nat.reduceLT, Nat.reduceLeDiff, Nat.reduceEqDiff, Nat.blt_eq, Int.reduceLT, Int.reduceLE, Int.reduceEq, Int.reduceToNat, Int.reduceNeg, Int.reduceAdd, Int.reduceSub, Int.reduceMul, Int.reducePow, reduceIte, decide_true, decide_false, reduceCtorEq, hgl]))
          ((repeat' (with_reducible refine And.intro ?_ ?_)) <;> try (first | trivial | omega | exact inK64 (by omega) (by omega) | exact inKu8 (by omega) (by omega) | (simp only [maxLen]; omega) | exact .inl trivial | exact .inl rfl))
          all_goals (try (try (simp (config := { maxSteps := 1000000 }) only [push_cast, Nat.reduceBEq, Nat.reduceBNe, Nat.reduceAdd, Nat.reduceSub, Nat.reduceMul, Nat.reduceLT, Nat.reduceLeDiff, Nat.reduceEqDiff, Nat.blt_eq, Int.reduceLT, Int.reduceLE, Int.reduceEq, Int.reduceToNat, Int.reduceNeg, Int.reduceAdd, Int.reduceSub, Int.reduceMul, Int.reducePow, reduceIte, decide_true, decide_false, reduceCtorEq])))
          refine BrP.mk (fun h => ?_) (fun h => ?_) <;> try (simp (config := { maxSteps := 1000000 }) only [push_cast, Nat.reduceBEq, Nat.reduceBNe, Nat.reduceAdd, Nat.reduceSub, Nat.reduceMul, Nat.reduceLT, Nat.reduceLeDiff, Nat.reduceEqDiff, Nat.blt_eq, Int.reduceLT, Int.reduceLE, Int.reduceEq, Int.reduceToNat, Int.reduceNeg, Int.reduceAdd, Int.reduceSub, Int.reduceMul, Int.reducePow, reduceIte, decide_true, decide_false, reduceCtorEq, h])
          · have h1' : ¬ all[k].k = F.1.kind := by simpa using h
            exact (hF (by rw [hfit]; simp [hr, h0, h1'])).symm
          · have h1' : all[k].k = F.1.kind := by simpa using h
            ((repeat' (with_reducible refine And.intro ?_ ?_)) <;> try (first | trivial | omega | exact inK64 (by omega) (by omega) | exact inKu8 (by omega) (by omega) | (simp only [maxLen]; omega) | exact .inl trivial | exact .inl rfl))
            refine ⟨k + 1, ⟨by omega, hT (by rw [hfit]; simp [hr, h1'])⟩, by omega, Le.st ?_⟩
            (try (simp (config := { maxSteps := 1000000 }) only [push_cast, Nat.reduceBEq, Nat.reduceBNe, Nat.reduceAdd, Nat.reduceSub, Nat.reduceMul, Nat.reduceLT, Nat.reduceLeDiff, Nat.reduceEqDiff, Nat.blt_eq, Int.reduceLT, Int.reduceLE, Int.reduceEq, Int.reduceToNat, Int.reduceNeg, Int.reduceAdd, Int.reduceSub, Int.reduceMul, Int.reducePow, reduceIte, decide_true, decide_false, reduceCtorEq]))
        · have h0 : all[k].k = 0 := by simpa using h
          ((repeat' (with_reducible refine And.intro ?_ ?_)) <;> try (first | trivial | omega | exact inK64 (by omega) (by omega) | exact inKu8 (by omega) (by omega) | (simp only [maxLen]; omega) | exact .inl trivial | exact .inl rfl))
          refine ⟨k + 1, ⟨by omega, hT (by rw [hfit]; simp [hr, h0])⟩, by omega, Le.st ?_⟩
          (try (simp (config := { maxSteps := 1000000 }) only [push_cast, Nat.reduceBEq, Nat.reduceBNe, Nat.reduceAdd, Nat.reduceSub, Nat.reduceMul, Nat.reduceLT, Nat.reduceLeDiff, Nat.reduceEqDiff, Nat.blt_eq, Int.reduceLT, Int.reduceLE, Int.reduceEq, Int.reduceToNat, Int.reduceNeg, Int.reduceAdd, Int.reduceSub, Int.reduceMul, Int.reducePow, reduceIte, decide_true, decide_false, reduceCtorEq]))
    · have hd : decide ((k : Int) < (all.length : Int)) = false := decide_eq_false (by omega)
      rw [List.drop_eq_nil_of_le (by omega)] at hc
      (try (simp (config := { maxSteps := 1000000 }) only [push_cast, Nat.reduceBEq, Nat.reduceBNe, Nat.reduceAdd, Nat.reduceSub, Nat.reduceMul, Nat.reduceLT, Nat.reduceLeDiff, Nat.reduceEqDiff, Nat.blt_eq, Int.reduceLT, Int.reduceLE, Int.reduceEq, Int.reduceToNat, Int.reduceNeg, Int.reduceAdd, Int.reduceSub, Int.reduceMul, Int.reducePow, reduceIte, decide_true, decide_false, reduceCtorEq, hd]))
      rw [← hc]; rfl
set_option maxHeartbeats 1000000 in
theorem f74_8 (col : ByteArray) (v : Vl) (vl : List Vl) (ks : List Nd) (l : List Cl) (hn : okNd (.mk 8 col v vl ks)) (hl : okCl l) : Spec V 74 [.ag ((eRN (.mk 8 col v vl ks)).map .d), .c (.d (.sl 3 (l.map eRC)))] (i2 .i64 (oneF (.mk 8 col v vl ks) l)) := by
  obtain ⟨h1, h2, h3, h4⟩ := okNd_v hn
  (refine Spec.of_go (L := fun | 0 => some [1, 2] | 1 => some [1, 2, 5] | 2 => some [1, 2, 6, 7, 8, 9] | 3 => some [1, 2, 6, 7, 8, 9, 30] | 4 => some [4] | 5 => some [1, 2, 6, 7, 8, 9, 30, 31] | 6 => some [43] | 7 => some [4] | 8 => some [4] | 9 => some [1, 2, 6, 7, 8, 9, 30, 44] | 10 => some [1, 2, 6, 7, 8, 9, 30, 44] | 11 => some [1, 2, 6, 7, 8, 9, 30, 44] | 12 => some [1, 2, 52] | 13 => some [4] | 14 => some [1, 2, 6, 7, 8, 9, 30, 53] | 15 => some [1, 2, 62] | 16 => some [4] | 17 => some [1, 2, 6, 7, 8, 9, 30, 63] | 18 => some [75] | 19 => some [4] | 20 => some [4] | 21 => some [1, 2, 6, 7, 8, 9, 30, 76] | 22 => some [1, 2, 6, 7, 8, 9, 30, 76] | 23 => some [85] | 24 => some [4] | 25 => some [4] | 26 => some [1, 2, 6, 9, 86] | 27 => some [1, 2, 92] | 28 => some [4] | 29 => some [1, 2, 10] | 30 => some [1, 2, 10, 99] | 31 => some [4] | 32 => some [1, 2, 10, 11] | 33 => some [1, 10, 11] | 34 => some [1, 10, 108, 109, 110] | 35 => some [1, 10, 108, 109, 110, 111] | 36 => some [1, 10, 13, 108, 109, 110] | 37 => some [1, 10, 108, 109, 110, 131] | 38 => some [4] | 39 => some [1, 10, 108, 109, 110] | 40 => some [4] | _ => none) 1000 Go.Proofs.Try.func74 rfl rfl ⟨Nat.le_of_ble_eq_true rfl, rfl⟩ rfl ?_; unfold Go.Proofs.Try.f74; simp (config := { maxSteps := 1000000 }) only [push_cast, Nat.reduceBEq, Nat.reduceBNe, Nat.reduceAdd, Nat.reduceSub, Nat.reduceMul, Nat.reduceLT, Nat.reduceLeDiff, Nat.reduceEqDiff, Nat.blt_eq, Int.reduceLT, Int.reduceLE, Int.reduceEq, Int.reduceToNat, Int.reduceNeg, Int.reduceAdd, Int.reduceSub, Int.reduceMul, Int.reducePow, reduceIte, decide_true, decide_false, reduceCtorEq])
  (refine DrawK.of (.take 0 (.take 1 (.take 2 (.take 3 (.take 4 (.take 5 (.take 6 (.take 7 (.take 8 (.take 9 (.take 10 (.take 11 (.take 12 (.take 13 (.take 14 (.take 15 (.take 16 (.take 17 .done)))))))))))))))))) 1000 (by decide +kernel) ?_; try (simp (config := { maxSteps := 1000000 }) only [push_cast, Nat.reduceBEq, Nat.reduceBNe, Nat.reduceAdd, Nat.reduceSub, Nat.reduceMul, Nat.reduceLT, Nat.reduceLeDiff, Nat.reduceEqDiff, Nat.blt_eq, Int.reduceLT, Int.reduceLE, Int.reduceEq, Int.reduceToNat, Int.reduceNeg, Int.reduceAdd, Int.reduceSub, Int.reduceMul, Int.reducePow, reduceIte, decide_true, decide_false, reduceCtorEq]))
  (repeat' (first | (simp (config := { maxSteps := 1000000 }) only [push_cast, Nat.reduceBEq, Nat.reduceBNe, Nat.reduceAdd, Nat.reduceSub, Nat.reduceMul, Nat.reduceLT, Nat.reduceLeDiff, Nat.reduceEqDiff, Nat.blt_eq, Int.reduceLT, Int.reduceLE, Int.reduceEq, Int.reduceToNat, Int.reduceNeg, Int.reduceAdd, Int.reduceSub, Int.reduceMul, Int.reducePow, reduceIte, decide_true, decide_false, reduceCtorEq]) | (refine BrP.mk (fun h => ?_) (fun h => ?_) <;> (try simp only [h]))))
  all_goals (try simp only [zeroV_ref, Bool.not_eq_true', Bool.not_eq_false', Bool.not_eq_eq_eq_not, Bool.not_true, Bool.not_false, decide_eq_true_eq, decide_eq_false_iff_not] at *)
  all_goals (try ((rcases vl with _ | ⟨x, vl⟩ <;> rcases ks with _ | ⟨y, ks⟩ <;> simp_all [oneF, op_mk, col_mk, v_mk, l_mk, ks_mk]); done))
  have e : oneF (.mk 8 col v vl ks) l = tailF (.mk 8 col v vl ks) l := by
    rcases vl with _ | ⟨x, vl⟩ <;> rcases ks with _ | ⟨y, ks⟩ <;> simp_all [oneF, op_mk, col_mk, v_mk, l_mk, ks_mk]
  rw [e, tail_all]
  have hS := f56 l hl.1
  rw [show (l.map fun c => eS c.name) = (l.map (·.name)).map eS by rw [List.map_map]; rfl] at hS
  (refine DrawK.of (.take 0 (.take 2 (.take 3 (.one 1 (.one 4 (.take 5 .done)))))) 1000 (by decide +kernel) ?_; try (simp (config := { maxSteps := 1000000 }) only [push_cast, Nat.reduceBEq, Nat.reduceBNe, Nat.reduceAdd, Nat.reduceSub, Nat.reduceMul, Nat.reduceLT, Nat.reduceLeDiff, Nat.reduceEqDiff, Nat.blt_eq, Int.reduceLT, Int.reduceLE, Int.reduceEq, Int.reduceToNat, Int.reduceNeg, Int.reduceAdd, Int.reduceSub, Int.reduceMul, Int.reducePow, reduceIte, decide_true, decide_false, reduceCtorEq]))
  refine ⟨_, hS, rfl, ?_⟩
  (try (simp (config := { maxSteps := 1000000 }) only [push_cast, Nat.reduceBEq, Nat.reduceBNe, Nat.reduceAdd, Nat.reduceSub, Nat.reduceMul, Nat.reduceLT, Nat.reduceLeDiff, Nat.reduceEqDiff, Nat.blt_eq, Int.reduceLT, Int.reduceLE, Int.reduceEq, Int.reduceToNat, Int.reduceNeg, Int.reduceAdd, Int.reduceSub, Int.reduceMul, Int.reducePow, reduceIte, decide_true, decide_false, reduceCtorEq]))
  refine ⟨_, f55 (l.map (·.name)) col (by simpa only [okLen, List.length_map] using hl.1), rfl, ?_⟩
  (try (simp (config := { maxSteps := 1000000 }) only [push_cast, Nat.reduceBEq, Nat.reduceBNe, Nat.reduceAdd, Nat.reduceSub, Nat.reduceMul, Nat.reduceLT, Nat.reduceLeDiff, Nat.reduceEqDiff, Nat.blt_eq, Int.reduceLT, Int.reduceLE, Int.reduceEq, Int.reduceToNat, Int.reduceNeg, Int.reduceAdd, Int.reduceSub, Int.reduceMul, Int.reducePow, reduceIte, decide_true, decide_false, reduceCtorEq]))
  have hfa := (find_at col l 0).1
  refine BrP.mk (fun h => ?_) (fun h => ?_) <;> try (simp (config := { maxSteps := 1000000 }) only [push_cast, Nat.reduceBEq, Nat.reduceBNe, Nat.reduceAdd, Nat.reduceSub, Nat.reduceMul, Nat.reduceLT, Nat.reduceLeDiff, Nat.reduceEqDiff, Nat.blt_eq, Int.reduceLT, Int.reduceLE, Int.reduceEq, Int.reduceToNat, Int.reduceNeg, Int.reduceAdd, Int.reduceSub, Int.reduceMul, Int.reducePow, reduceIte, decide_true, decide_false, reduceCtorEq, h])
  · have hf : (findF col l 0).2.2 = false := by rw [hfa]; simp at h ⊢; omega
    rw [if_pos hf]
  · have hf : (findF col l 0).2.2 = true := by rw [hfa]; simp at h ⊢; omega
    obtain ⟨hlt0, hi0, hi1⟩ := find_lt hf
    rw [if_neg (by simp [hf])]
    clear hfa hS e
    generalize hk : atF col (l.map (·.name)) 0 = K at *
    generalize hF : findF col l 0 = F at *
    obtain ⟨all, hall⟩ : ∃ all, all = vl ++ [v] := ⟨_, rfl⟩
    rw [← hall]
    have hal : ∀ x ∈ all, okVl x := fun x hx => by
      rw [hall] at hx
      rcases List.mem_append.1 hx with hx | hx
      · exact h2 x hx
      · rw [List.mem_singleton.1 hx]; exact h1
    have hlen : all.length = vl.length + 1 := by rw [hall]; simp
    have he : vl.map eRV ++ [eRV v] = all.map eRV := by rw [hall]; simp
    refine DrawK.cut (.take 0 (.take 1 (.take 2 (.two 3 (.one 4 (.one 5 (.one 6 (.one 7 (.one 8 .done))))) 4 (.two 3 (.one 5 (.one 6 (.one 7 (.one 8 .done)))) 5 (.two 3 (.one 6 (.one 7 (.one 8 .done))) 6 (.one 3 (.one 7 (.one 8 .done))))))))) 1000 (by decide +kernel) ⟨[(11, .c (.d (.sl 4 (all.map eRV)))), (10, .c (.d (.v (.int .i64 K)))), (1, .c (.d (.sl 3 (l.map eRC))))], []⟩ ?_ ?_
    · rw [← he]
      (try (simp (config := { maxSteps := 1000000 }) only [push_cast, Nat.reduceBEq, Nat.reduceBNe, Nat.reduceAdd, Nat.reduceSub, Nat.reduceMul, Nat.reduceLT, Nat.reduceLeDiff, Nat.reduceEqDiff, Nat.blt_eq, Int.reduceLT, Int.reduceLE, Int.reduceEq, Int.reduceToNat, Int.reduceNeg, Int.reduceAdd, Int.reduceSub, Int.reduceMul, Int.reducePow, reduceIte, decide_true, decide_false, reduceCtorEq]))
      ((repeat' (with_reducible refine And.intro ?_ ?_)) <;> try (first | trivial | omega | exact inK64 (by omega) (by omega) | exact inKu8 (by omega) (by omega) | (simp only [maxLen]; omega) | exact .inl trivial | exact .inl rfl))
      all_goals (refine Le.frz [2, 3] ?_; (try (simp (config := { maxSteps := 1000000 }) only [push_cast, Nat.reduceBEq, Nat.reduceBNe, Nat.reduceAdd, Nat.reduceSub, Nat.reduceMul, Nat.reduceLT, Nat.reduceLeDiff, Nat.reduceEqDiff, Nat.blt_eq, Int.reduceLT, Int.reduceLE, Int.reduceEq, Int.reduceToNat, Int.reduceNeg, Int.reduceAdd, Int.reduceSub, Int.reduceMul, Int.reducePow, reduceIte, decide_true, decide_false, reduceCtorEq])))
    (try (simp (config := { maxSteps := 1000000 }) only [push_cast, Nat.reduceBEq, Nat.reduceBNe, Nat.reduceAdd, Nat.reduceSub, Nat.reduceMul, Nat.reduceLT, Nat.reduceLeDiff, Nat.reduceEqDiff, Nat.blt_eq, Int.reduceLT, Int.reduceLE, Int.reduceEq, Int.reduceToNat, Int.reduceNeg, Int.reduceAdd, Int.reduceSub, Int.reduceMul, Int.reducePow, reduceIte, decide_true, decide_false, reduceCtorEq]))
    refine LoopK.s1 (α := Nat) [110] (fun k => [i2 .i64 k]) (fun k => k ≤ all.length ∧ ((all.drop k).all fun v => fitsF v F.1) = (all.all fun v => fitsF v F.1)) (fun k => all.length - k) 1000 0 ⟨by omega, rfl⟩ (by (try (simp (config := { maxSteps := 1000000 }) only [push_cast, Nat.reduceBEq, Nat.reduceBNe, Nat.reduceAdd, Nat.reduceSub, Nat.reduceMul, Nat.reduceLT, Nat.reduceLeDiff, Nat.reduceEqDiff, Nat.blt_eq, Int.reduceLT, Int.reduceLE, Int.reduceEq, Int.reduceToNat, Int.reduceNeg, Int.reduceAdd, Int.reduceSub, Int.reduceMul, Int.reducePow, reduceIte, decide_true, decide_false, reduceCtorEq]))) ?_
    rintro k ⟨hk', hc⟩
    by_cases hlt : k < all.length
    · have hv := List.getElem?_eq_getElem hlt; have hd : decide ((k : Int) < (all.length : Int)) = true := decide_eq_true (by omega)
      rw [drop_cons hv] at hc
      simp only [List.all_cons] at hc
      (try (simp (config := { maxSteps := 1000000 }) only [push_cast, Nat.reduceBEq, Nat.reduceBNe, Nat.reduceAdd, Nat.reduceSub, Nat.reduceMul, Nat.reduceLT, Nat.reduceLeDiff, Nat.reduceEqDiff, Nat.blt_eq, Int.reduceLT, Int.reduceLE, Int.reduceEq, Int.reduceToNat, Int.reduceNeg, Int.reduceAdd, Int.reduceSub, Int.reduceMul, Int.reducePow, reduceIte, decide_true, decide_false, reduceCtorEq, hd, getD_map hv]))
      (repeat ((with_reducible refine And.intro ?_ ?_); focus (first | trivial | omega | exact inK64 (by omega) (by omega) | exact inKu8 (by omega) (by omega))))
      (refine DrawK.of (.take 0 (.one 1 (.take 2 (.take 3 (.take 4 (.take 5 (.take 6 (.take 7 (.take 8 (.take 9 (.take 10 (.take 11 (.take 12 (.take 13 (.take 14 (.take 15 (.take 16 (.take 17 .done)))))))))))))))))) 1000 (by decide +kernel) ?_; try (simp (config := { maxSteps := 1000000 }) only [push_cast, Nat.reduceBEq, Nat.reduceBNe, Nat.reduceAdd, Nat.reduceSub, Nat.reduceMul, Nat.reduceLT, Nat.reduceLeDiff, Nat.reduceEqDiff, Nat.blt_eq, Int.reduceLT, Int.reduceLE, Int.reduceEq, Int.reduceToNat, Int.reduceNeg, Int.reduceAdd, Int.reduceSub, Int.reduceMul, Int.reducePow, reduceIte, decide_true, decide_false, reduceCtorEq]))
      (have hS := f21 all[k] (hal _ (List.getElem_mem hlt)); simp only [eS_eq, eN_eq, eV_eq, eRN_eq, eRV_eq, eC_eq, eRC_eq, List.map_cons, List.map_nil, i2, b2, s2] at hS; refine ⟨_, hS, rfl, ?_⟩; clear hS; try (simp (config := { maxSteps := 1000000 }) only [push_cast, Nat.reduceBEq, Nat.reduceBNe, Nat.reduceAdd, Nat.reduceSub, Nat.reduceMul, Nat.reduceLT, Nat.reduceLeDiff, Nat.reduceEqDiff, Nat.blt_eq, Int.reduceLT, Int.reduceLE, Int.reduceEq, Int.reduceToNat, Int.reduceNeg, Int.reduceAdd, Int.reduceSub, Int.reduceMul, Int.reducePow, reduceIte, decide_true, decide_false, reduceCtorEq]))
      have hgl : (l.map eRC).getD K.toNat [] = eRC F.1 := getD_map (by rw [← hi1]; exact hi0)
      have hKl : K < (l.length : Int) := by omega
      have hK0 : 0 ≤ K := by omega
      have hfit : fitsF all[k] F.1 = (rightF all[k] && (decide (all[k].k = 0) || decide (all[k].k = F.1.kind))) := rfl
      clear hi0 hi1
      have hF : fitsF all[k] F.1 = false → (if (all.all fun v => fitsF v F.1) = true then (0 : Int) else 21) = 21 := fun h0 => by
        rw [h0, Bool.false_and] at hc
        rw [if_neg (by rw [← hc]; decide)]
      have hT : fitsF all[k] F.1 = true → ((all.drop (k + 1)).all fun v => fitsF v F.1) = (all.all fun v => fitsF v F.1) := fun h0 => by
        rw [h0, Bool.true_and] at hc
        exact hc
      clear hc
      refine BrP.mk (fun h => ?_) (fun h => ?_) <;> try (simp (config := { maxSteps := 1000000 }) only [push_cast, Nat.reduceBEq, Nat.reduceBNe, Nat.reduceAdd, Nat.reduceSub, Nat.reduceMul, Nat.reduceLT, Nat.reduceLeDiff, Nat.reduceEqDiff, Nat.blt_eq, Int.reduceLT, Int.reduceLE, Int.reduceEq, Int.reduceToNat, Int.reduceNeg, Int.reduceAdd, Int.reduceSub, Int.reduceMul, Int.reducePow, reduceIte, decide_true, decide_false, reduceCtorEq, h])
      · exact (hF (by rw [hfit]; simp at h; simp [h])).symm
      · have hr : rightF all[k] = true := by simpa using h
        refine BrP.mk (fun h => ?_) (fun h => ?_) <;> try (simp (config := { maxSteps := 1000000 }) only [push_cast, Nat.reduceBEq, Nat.reduceBNe, Nat.reduceAdd, Nat.reduceSub, Nat.reduceMul, Nat.reduceLT, Nat.reduceLeDiff, Nat.reduceEqDiff, Nat.blt_eq, Int.reduceLT, Int.reduceLE, Int.reduceEq, Int.reduceToNat, Int.reduceNeg, Int.reduceAdd, Int.reduceSub, Int.reduceMul, Int.reducePow, reduceIte, decide_true, decide_false, reduceCtorEq, h])
        · have h0 : ¬ all[k].k = 0 := by simpa using h
          (try (simp (config := { maxSteps := 1000000 }) only [push_cast, Nat.reduceBEq, Nat.reduceBNe, Nat.reduceAdd, Nat.reduceSub, Nat.reduceMul, Nat.reduceLT, Nat.reduceLeDiff, Nat.reduceEqDiff, Nat.blt_eq, Int.reduceLT, Int.reduceLE, Int.reduceEq, Int.reduceToNat, Int.reduceNeg, Int.reduceAdd, Int.reduceSub, Int.reduceMul, Int.reducePow, reduceIte, decide_true, decide_false, reduceCtorEq, hgl]))
          ((repeat' (with_reducible refine And.intro ?_ ?_)) <;> try (first | trivial | omega | exact inK64 (by omega) (by omega) | exact inKu8 (by omega) (by omega) | (simp only [maxLen]; omega) | exact .inl trivial | exact .inl rfl))
          all_goals (try (try (simp (config := { maxSteps := 1000000 }) only [push_cast, Nat.reduceBEq, Nat.reduceBNe, Nat.reduceAdd, Nat.reduceSub, Nat.reduceMul, Nat.reduceLT, Nat.reduceLeDiff, Nat.reduceEqDiff, Nat.blt_eq, Int.reduceLT, Int.reduceLE, Int.reduceEq, Int.reduceToNat, Int.reduceNeg, Int.reduceAdd, Int.reduceSub, Int.reduceMul, Int.reducePow, reduceIte, decide_true, decide_false, reduceCtorEq])))
          refine BrP.mk (fun h => ?_) (fun h => ?_) <;> try (simp (config := { maxSteps := 1000000 }) only [push_cast, Nat.reduceBEq, Nat.reduceBNe, Nat.reduceAdd, Nat.reduceSub, Nat.reduceMul, Nat.reduceLT, Nat.reduceLeDiff, Nat.reduceEqDiff, Nat.blt_eq, Int.reduceLT, Int.reduceLE, Int.reduceEq, Int.reduceToNat, Int.reduceNeg, Int.reduceAdd, Int.reduceSub, Int.reduceMul, Int.reducePow, reduceIte, decide_true, decide_false, reduceCtorEq, h])
          · have h1' : ¬ all[k].k = F.1.kind := by simpa using h
            exact (hF (by rw [hfit]; simp [hr, h0, h1'])).symm
          · have h1' : all[k].k = F.1.kind := by simpa using h
            ((repeat' (with_reducible refine And.intro ?_ ?_)) <;> try (first | trivial | omega | exact inK64 (by omega) (by omega) | exact inKu8 (by omega) (by omega) | (simp only [maxLen]; omega) | exact .inl trivial | exact .inl rfl))
            refine ⟨k + 1, ⟨by omega, hT (by rw [hfit]; simp [hr, h1'])⟩, by omega, Le.st ?_⟩
            (try (simp (config := { maxSteps := 1000000 }) only [push_cast, Nat.reduceBEq, Nat.reduceBNe, Nat.reduceAdd, Nat.reduceSub, Nat.reduceMul, Nat.reduceLT, Nat.reduceLeDiff, Nat.reduceEqDiff, Nat.blt_eq, Int.reduceLT, Int.reduceLE, Int.reduceEq, Int.reduceToNat, Int.reduceNeg, Int.reduceAdd, Int.reduceSub, Int.reduceMul, Int.reducePow, reduceIte, decide_true, decide_false, reduceCtorEq]))
        · have h0 : all[k].k = 0 := by simpa using h
          ((repeat' (with_reducible refine And.intro ?_ ?_)) <;> try (first | trivial | omega | exact inK64 (by omega) (by omega) | exact inKu8 (by omega) (by omega) | (simp only [maxLen]; omega) | exact .inl trivial | exact .inl rfl))
          refine ⟨k + 1, ⟨by omega, hT (by rw [hfit]; simp [hr, h0])⟩, by omega, Le.st ?_⟩
          (try (simp (config := { maxSteps := 1000000 }) only [push_cast, Nat.reduceBEq, Nat.reduceBNe, Nat.reduceAdd, Nat.reduceSub, Nat.reduceMul, Nat.reduceLT, Nat.reduceLeDiff, Nat.reduceEqDiff, Nat.blt_eq, Int.reduceLT, Int.reduceLE, Int.reduceEq, Int.reduceToNat, Int.reduceNeg, Int.reduceAdd, Int.reduceSub, Int.reduceMul, Int.reducePow, reduceIte, decide_true, decide_false, reduceCtorEq]))
    · have hd : decide ((k : Int) < (all.length : Int)) = false := decide_eq_false (by omega)
      rw [List.drop_eq_nil_of_le (by omega)] at hc
      (try (simp (config := { maxSteps := 1000000 }) only [push_cast, Nat.reduceBEq, Nat.reduceBNe, Nat.reduceAdd, Nat.reduceSub, Nat.reduceMul, Nat.reduceLT, Nat.reduceLeDiff, Nat.reduceEqDiff, Nat.blt_eq, Int.reduceLT, Int.reduceLE, Int.reduceEq, Int.reduceToNat, Int.reduceNeg, Int.reduceAdd, Int.reduceSub, Int.reduceMul, Int.reducePow, reduceIte, decide_true, decide_false, reduceCtorEq, hd]))
      rw [← hc]; rfl
theorem f74 (n : Nd) (l : List Cl) (hn : okNd n) (hl : okCl l) : Spec V 74 [.ag ((eRN n).map .d), .c (.d (.sl 3 (l.map eRC)))] (i2 .i64 (oneF n l)) := by
  obtain ⟨op, col, v, vl, ks⟩ := n
  by_cases h0 : op = 0
  · subst h0; exact f74_0 col v vl ks l
  by_cases h1 : op = 1
  · subst h1; exact f74_1 col v vl ks l hn hl
  by_cases h2 : op = 2
  · subst h2; exact f74_2 col v vl ks l hn hl
  by_cases h3 : op = 3
  · subst h3; exact f74_3 col v vl ks l hn hl
  by_cases h4 : op = 4
  · subst h4; exact f74_4 col v vl ks l hn hl
  by_cases h5 : op = 5
  · subst h5; exact f74_5 col v vl ks l
  by_cases h6 : op = 6
  · subst h6; exact f74_6 col v vl ks l
  by_cases h7 : op = 7
  · subst h7; exact f74_7 col v vl ks l
  by_cases h8 : op = 8
  · subst h8; exact f74_8 col v vl ks l hn hl
  have e : oneF (.mk op col v vl ks) l = 22 := by simp [oneF, op_mk, h0, h1, h2, h3, h4, h5, h6, h7, h8]
  rw [e]
  have d0 := decide_eq_false h0
  have d1 := decide_eq_false h1
  have d2 := decide_eq_false h2
  have d3 := decide_eq_false h3
  have d4 := decide_eq_false h4
  have d5 := decide_eq_false h5
  have d6 := decide_eq_false h6
  have d7 := decide_eq_false h7
  have d8 := decide_eq_false h8
  (refine Spec.of_go (L := fun | 0 => some [1, 2] | 1 => some [1, 2, 5] | 2 => some [1, 2, 6, 7, 8, 9] | 3 => some [1, 2, 6, 7, 8, 9, 30] | 4 => some [4] | 5 => some [1, 2, 6, 7, 8, 9, 30, 31] | 6 => some [43] | 7 => some [4] | 8 => some [4] | 9 => some [1, 2, 6, 7, 8, 9, 30, 44] | 10 => some [1, 2, 6, 7, 8, 9, 30, 44] | 11 => some [1, 2, 6, 7, 8, 9, 30, 44] | 12 => some [1, 2, 52] | 13 => some [4] | 14 => some [1, 2, 6, 7, 8, 9, 30, 53] | 15 => some [1, 2, 62] | 16 => some [4] | 17 => some [1, 2, 6, 7, 8, 9, 30, 63] | 18 => some [75] | 19 => some [4] | 20 => some [4] | 21 => some [1, 2, 6, 7, 8, 9, 30, 76] | 22 => some [1, 2, 6, 7, 8, 9, 30, 76] | 23 => some [85] | 24 => some [4] | 25 => some [4] | 26 => some [1, 2, 6, 9, 86] | 27 => some [1, 2, 92] | 28 => some [4] | 29 => some [1, 2, 10] | 30 => some [1, 2, 10, 99] | 31 => some [4] | 32 => some [1, 2, 10, 11] | 33 => some [1, 10, 11] | 34 => some [1, 10, 108, 109, 110] | 35 => some [1, 10, 108, 109, 110, 111] | 36 => some [1, 10, 13, 108, 109, 110] | 37 => some [1, 10, 108, 109, 110, 131] | 38 => some [4] | 39 => some [1, 10, 108, 109, 110] | 40 => some [4] | _ => none) 1000 Go.Proofs.Try.func74 rfl rfl ⟨Nat.le_of_ble_eq_true rfl, rfl⟩ rfl ?_; unfold Go.Proofs.Try.f74; simp (config := { maxSteps := 1000000 }) only [push_cast, Nat.reduceBEq, Nat.reduceBNe, Nat.reduceAdd, Nat.reduceSub, Nat.reduceMul, Nat.reduceLT, Nat.reduceLeDiff, Nat.reduceEqDiff, Nat.blt_eq, Int.reduceLT, Int.reduceLE, Int.reduceEq, Int.reduceToNat, Int.reduceNeg, Int.reduceAdd, Int.reduceSub, Int.reduceMul, Int.reducePow, reduceIte, decide_true, decide_false, reduceCtorEq])
  (refine DrawK.of (.take 0 (.take 1 (.take 2 (.take 3 (.take 4 (.take 5 (.take 6 (.take 7 (.take 8 (.take 9 (.take 10 (.take 11 (.take 12 (.take 13 (.take 14 (.take 15 (.take 16 (.take 17 .done)))))))))))))))))) 1000 (by decide +kernel) ?_; try (simp (config := { maxSteps := 1000000 }) only [push_cast, Nat.reduceBEq, Nat.reduceBNe, Nat.reduceAdd, Nat.reduceSub, Nat.reduceMul, Nat.reduceLT, Nat.reduceLeDiff, Nat.reduceEqDiff, Nat.blt_eq, Int.reduceLT, Int.reduceLE, Int.reduceEq, Int.reduceToNat, Int.reduceNeg, Int.reduceAdd, Int.reduceSub, Int.reduceMul, Int.reducePow, reduceIte, decide_true, decide_false, reduceCtorEq]))
  simp only [d0, d1, d2, d3, d4, d5, d6, d7, d8]
  (try (simp (config := { maxSteps := 1000000 }) only [push_cast, Nat.reduceBEq, Nat.reduceBNe, Nat.reduceAdd, Nat.reduceSub, Nat.reduceMul, Nat.reduceLT, Nat.reduceLeDiff, Nat.reduceEqDiff, Nat.blt_eq, Int.reduceLT, Int.reduceLE, Int.reduceEq, Int.reduceToNat, Int.reduceNeg, Int.reduceAdd, Int.reduceSub, Int.reduceMul, Int.reducePow, reduceIte, decide_true, decide_false, reduceCtorEq, d0, d1, d2, d3, d4, d5, d6, d7, d8]))
end Go.LS.Try
