/- Part SA: 15 texts, one behind the other. -/
import Derived.Test.YtfmbjaeppffdpaaDoorPA
import Derived.Test.YtfmbjaeppffdpaaDoorE
namespace Go.LS.Tryd
open Go Go.LS
set_option maxRecDepth 100000
set_option linter.unusedSimpArgs false
set_option linter.unusedVariables false

theorem f71 (k : Int) : Spec V 114 [i2 .i64 k] (s2 (wordF k)) := by
  (refine Spec.of_go (L := fun | 0 => some [0] | 1 => some [3] | 2 => some [3, 4] | 3 => some [2] | 4 => some [3, 6] | 5 => some [2] | 6 => some [8] | 7 => some [2] | 8 => some [2] | _ => none) 1000 Go.Proofs.Tryd.func114 rfl rfl ⟨Nat.le_of_ble_eq_true rfl, rfl⟩ rfl ?_; unfold Go.Proofs.Tryd.f114; push_cast (maxSteps := 1000000))
  (repeat' (first | (simp (config := { maxSteps := 1000000 }) only [push_cast, Nat.reduceBEq, Nat.reduceBNe, Nat.reduceAdd, Nat.reduceSub, Nat.reduceMul, Nat.reduceLT, Nat.reduceLeDiff, Nat.reduceEqDiff, Nat.blt_eq, Int.reduceLT, Int.reduceLE, Int.reduceEq, Int.reduceToNat, Int.reduceNeg, Int.reduceAdd, Int.reduceSub, Int.reduceMul, Int.reducePow, reduceIte, decide_true, decide_false, reduceCtorEq]) | (refine BrP.mk (fun h => ?_) (fun h => ?_) <;> (try simp only [h]))))
  all_goals simp_all [wordF, lit] <;> rfl
theorem f98 (k : Int) : Spec V 145 [i2 .i64 k] (b2 false) := by
  (refine Spec.of_go (L := fun | 0 => some [0] | 1 => some [2] | _ => none) 1000 Go.Proofs.Tryd.func145 rfl rfl ⟨Nat.le_of_ble_eq_true rfl, rfl⟩ rfl ?_; unfold Go.Proofs.Tryd.f145; push_cast (maxSteps := 1000000))
  all_goals simp
theorem f99 (k : ByteArray) : Spec V 146 [s2 k] (b2 false) := by
  (refine Spec.of_go (L := fun | 0 => some [0] | 1 => some [2] | _ => none) 1000 Go.Proofs.Tryd.func146 rfl rfl ⟨Nat.le_of_ble_eq_true rfl, rfl⟩ rfl ?_; unfold Go.Proofs.Tryd.f146; push_cast (maxSteps := 1000000))
  all_goals simp
theorem f100 (k : Int) : Spec V 147 [i2 .i64 k] (b2 false) := by
  (refine Spec.of_go (L := fun | 0 => some [0] | 1 => some [2] | _ => none) 1000 Go.Proofs.Tryd.func147 rfl rfl ⟨Nat.le_of_ble_eq_true rfl, rfl⟩ rfl ?_; unfold Go.Proofs.Tryd.f147; push_cast (maxSteps := 1000000))
  all_goals simp
theorem f87 (a b : Int) : Spec V 138 [i2 .i64 a, i2 .i64 b] (i2 .i64 (cmpI a b)) := by
  (refine Spec.of_go (L := fun | 0 => some [0, 1] | 1 => some [0, 1, 5] | 2 => some [0, 1, 5, 6] | 3 => some [0, 1, 6, 11] | 4 => some [12] | 5 => some [4] | 6 => some [4] | 7 => some [0, 1, 13] | 8 => some [4] | 9 => some [0, 1, 16] | 10 => some [4] | 11 => some [19] | 12 => some [4] | 13 => some [4] | _ => none) 1000 Go.Proofs.Tryd.func138 rfl rfl ⟨Nat.le_of_ble_eq_true rfl, rfl⟩ rfl ?_; unfold Go.Proofs.Tryd.f138; push_cast (maxSteps := 1000000))
  (refine ⟨_, f98 _, rfl, ?_⟩; try (push_cast (maxSteps := 1000000)))
  (refine ⟨_, f98 _, rfl, ?_⟩; try (push_cast (maxSteps := 1000000)))
  (repeat' (first | (simp (config := { maxSteps := 1000000 }) only [push_cast, Nat.reduceBEq, Nat.reduceBNe, Nat.reduceAdd, Nat.reduceSub, Nat.reduceMul, Nat.reduceLT, Nat.reduceLeDiff, Nat.reduceEqDiff, Nat.blt_eq, Int.reduceLT, Int.reduceLE, Int.reduceEq, Int.reduceToNat, Int.reduceNeg, Int.reduceAdd, Int.reduceSub, Int.reduceMul, Int.reducePow, reduceIte, decide_true, decide_false, reduceCtorEq]) | (refine BrP.mk (fun h => ?_) (fun h => ?_) <;> (try simp only [h]))))
  all_goals (simp_all [cmpI] <;> omega)
theorem f89 (a b : Int) : Spec V 140 [i2 .i64 a, i2 .i64 b] (i2 .i64 (cmpI a b)) := by
  (refine Spec.of_go (L := fun | 0 => some [0, 1] | 1 => some [0, 1, 5] | 2 => some [0, 1, 5, 6] | 3 => some [0, 1, 6, 11] | 4 => some [12] | 5 => some [4] | 6 => some [4] | 7 => some [0, 1, 13] | 8 => some [4] | 9 => some [0, 1, 16] | 10 => some [4] | 11 => some [19] | 12 => some [4] | 13 => some [4] | _ => none) 1000 Go.Proofs.Tryd.func140 rfl rfl ⟨Nat.le_of_ble_eq_true rfl, rfl⟩ rfl ?_; unfold Go.Proofs.Tryd.f140; push_cast (maxSteps := 1000000))
  (refine ⟨_, f100 _, rfl, ?_⟩; try (push_cast (maxSteps := 1000000)))
  (refine ⟨_, f100 _, rfl, ?_⟩; try (push_cast (maxSteps := 1000000)))
  (repeat' (first | (simp (config := { maxSteps := 1000000 }) only [push_cast, Nat.reduceBEq, Nat.reduceBNe, Nat.reduceAdd, Nat.reduceSub, Nat.reduceMul, Nat.reduceLT, Nat.reduceLeDiff, Nat.reduceEqDiff, Nat.blt_eq, Int.reduceLT, Int.reduceLE, Int.reduceEq, Int.reduceToNat, Int.reduceNeg, Int.reduceAdd, Int.reduceSub, Int.reduceMul, Int.reducePow, reduceIte, decide_true, decide_false, reduceCtorEq]) | (refine BrP.mk (fun h => ?_) (fun h => ?_) <;> (try simp only [h]))))
  all_goals (simp_all [cmpI] <;> omega)
theorem f88 (a b : ByteArray) : Spec V 139 [s2 a, s2 b] (i2 .i64 (cmpS a b)) := by
  (refine Spec.of_go (L := fun | 0 => some [0, 1] | 1 => some [0, 1, 5] | 2 => some [0, 1, 5, 6] | 3 => some [0, 1, 6, 11] | 4 => some [12] | 5 => some [4] | 6 => some [4] | 7 => some [0, 1, 13] | 8 => some [4] | 9 => some [0, 1, 16] | 10 => some [4] | 11 => some [19] | 12 => some [4] | 13 => some [4] | _ => none) 1000 Go.Proofs.Tryd.func139 rfl rfl ⟨Nat.le_of_ble_eq_true rfl, rfl⟩ rfl ?_; unfold Go.Proofs.Tryd.f139; push_cast (maxSteps := 1000000))
  (refine ⟨_, f99 _, rfl, ?_⟩; try (push_cast (maxSteps := 1000000)))
  (refine ⟨_, f99 _, rfl, ?_⟩; try (push_cast (maxSteps := 1000000)))
  (repeat' (first | (simp (config := { maxSteps := 1000000 }) only [push_cast, Nat.reduceBEq, Nat.reduceBNe, Nat.reduceAdd, Nat.reduceSub, Nat.reduceMul, Nat.reduceLT, Nat.reduceLeDiff, Nat.reduceEqDiff, Nat.blt_eq, Int.reduceLT, Int.reduceLE, Int.reduceEq, Int.reduceToNat, Int.reduceNeg, Int.reduceAdd, Int.reduceSub, Int.reduceMul, Int.reducePow, reduceIte, decide_true, decide_false, reduceCtorEq]) | (refine BrP.mk (fun h => ?_) (fun h => ?_) <;> (try simp only [h]))))

  all_goals simp_all [cmpS]
theorem f106 (n : Int) : Spec V 127 [i2 .i64 n] (.ag ((aV 2 ByteArray.empty n false).map .d)) := by
  (refine Spec.of_go (L := fun | 0 => some [0, 2] | 1 => some [2] | _ => none) 1000 Go.Proofs.Tryd.func127 rfl rfl ⟨Nat.le_of_ble_eq_true rfl, rfl⟩ rfl ?_; unfold Go.Proofs.Tryd.f127; push_cast (maxSteps := 1000000))
theorem f13 (l : List Cl) (hl : okLen l) : Spec V 108 [.c (.d (.sl 3 (l.map eC)))] (b2 (!longC l && decide (l.length ≤ 12))) := by
  (refine Spec.of_go (L := fun | 0 => some [0] | 1 => some [0, 5, 6, 7] | 2 => some [0, 5, 6, 7, 8] | 3 => some [0, 4, 5, 6, 7] | 4 => some [0, 5, 6, 7, 14] | 5 => some [2] | 6 => some [0, 5, 6, 7] | 7 => some [2] | _ => none) 1000 Go.Proofs.Tryd.func108 rfl rfl ⟨Nat.le_of_ble_eq_true rfl, rfl⟩ rfl ?_; unfold Go.Proofs.Tryd.f108; push_cast (maxSteps := 1000000))
  refine LoopK.s1 (α := Nat) [7] (fun k => [i2 .i64 k]) (fun k => k ≤ l.length ∧ longC (l.drop k) = longC l) (fun k => l.length - k) 1000 0 ⟨by omega, rfl⟩ (by (try (push_cast (maxSteps := 1000000)))) ?_
  rintro k ⟨hk, hc⟩
  by_cases hlt : k < l.length
  · have hv := List.getElem?_eq_getElem hlt; have hd : decide ((k : Int) < (l.length : Int)) = true := decide_eq_true (by omega)
    rw [drop_cons hv] at hc; simp only [longC] at hc
    (try (push_cast (maxSteps := 1000000) [hd, getD_map hv]))
    (repeat ((with_reducible refine And.intro ?_ ?_); focus (first | trivial | omega | exact inK64 (by omega) (by omega) | exact inKu8 (by omega) (by omega))))
    refine BrP.mk (fun h => ?_) (fun h => ?_) <;> try (push_cast (maxSteps := 1000000) [h])
    · rw [if_pos (by have := of_decide_eq_true h; omega)] at hc
      (first | rfl | exact hc | exact hc.symm | (simp [← hc]; done) | (simp_all; done) | (simp_all <;> omega))
    · rw [if_neg (by have := of_decide_eq_false h; omega)] at hc
      refine ⟨inK64 (by omega) (by omega), k + 1, ⟨by omega, hc⟩, by omega, Le.st ?_⟩
      (try (push_cast (maxSteps := 1000000)))
  · have hd : decide ((k : Int) < (l.length : Int)) = false := decide_eq_false (by omega)
    rw [List.drop_eq_nil_of_le (by omega)] at hc; simp only [longC] at hc
    (try (push_cast (maxSteps := 1000000) [hd]))
    rw [← hc]; simp; omega

theorem f22 (v : Vl) : Spec V 75 [.ag ((eV v).map .d)] (.ag ((eRV v).map .d)) := by
  (refine Spec.of_go (L := fun | 0 => some [1, 2] | 1 => some [1, 2, 3] | 2 => some [2, 3, 12] | 3 => some [2, 3] | 4 => some [2] | _ => none) 1000 Go.Proofs.Tryd.func75 rfl rfl ⟨Nat.le_of_ble_eq_true rfl, rfl⟩ rfl ?_; unfold Go.Proofs.Tryd.f75; push_cast (maxSteps := 1000000))
  refine BrP.mk (fun h => ?_) (fun h => ?_) <;> try (push_cast (maxSteps := 1000000) [h])
  · rfl
  · rfl

end Go.LS.Tryd
namespace Go.LS.Tryd
open Go Go.LS
set_option maxRecDepth 100000
set_option linter.unusedSimpArgs false
set_option linter.unusedVariables false

theorem f103 (b : Int) : Spec V 148 [i2 .u8 b] (.tu [i2 .i64 (beginF b).1, b2 (beginF b).2]) := by
  (refine Spec.of_go (L := fun | 0 => some [0] | 1 => some [0, 4] | 2 => some [2, 3] | 3 => some [0, 7] | 4 => some [2, 3] | 5 => some [0, 10] | 6 => some [2, 3] | 7 => some [0, 13] | 8 => some [2, 3] | 9 => some [0, 16] | 10 => some [2, 3] | 11 => some [0, 19] | 12 => some [2, 3] | 13 => some [0, 22] | 14 => some [2, 3] | 15 => some [0, 25] | 16 => some [2, 3] | 17 => some [28] | 18 => some [2, 3] | 19 => some [2, 3] | _ => none) 1000 Go.Proofs.Tryd.func148 rfl rfl ⟨Nat.le_of_ble_eq_true rfl, rfl⟩ rfl ?_; unfold Go.Proofs.Tryd.f148; push_cast (maxSteps := 1000000))
  (repeat' (first | (simp (config := { maxSteps := 1000000 }) only [push_cast, Nat.reduceBEq, Nat.reduceBNe, Nat.reduceAdd, Nat.reduceSub, Nat.reduceMul, Nat.reduceLT, Nat.reduceLeDiff, Nat.reduceEqDiff, Nat.blt_eq, Int.reduceLT, Int.reduceLE, Int.reduceEq, Int.reduceToNat, Int.reduceNeg, Int.reduceAdd, Int.reduceSub, Int.reduceMul, Int.reducePow, reduceIte, decide_true, decide_false, reduceCtorEq]) | (refine BrP.mk (fun h => ?_) (fun h => ?_) <;> (try simp only [h]))))
  all_goals simp only [decide_eq_true_eq, decide_eq_false_iff_not] at *
  all_goals simp [beginF, *]
theorem f104 (b lo hi nx : Int) : Spec V 149 [i2 .u8 b, i2 .u8 lo, i2 .u8 hi, i2 .i64 nx] (.tu [i2 .i64 (followF b lo hi nx).1, b2 (followF b lo hi nx).2]) := by
  (refine Spec.of_go (L := fun | 0 => some [0, 1, 2, 3] | 1 => some [3, 17] | 2 => some [8, 9] | 3 => some [8, 9] | _ => none) 1000 Go.Proofs.Tryd.func149 rfl rfl ⟨Nat.le_of_ble_eq_true rfl, rfl⟩ rfl ?_; unfold Go.Proofs.Tryd.f149; push_cast (maxSteps := 1000000))
  (repeat' (first | (simp (config := { maxSteps := 1000000 }) only [push_cast, Nat.reduceBEq, Nat.reduceBNe, Nat.reduceAdd, Nat.reduceSub, Nat.reduceMul, Nat.reduceLT, Nat.reduceLeDiff, Nat.reduceEqDiff, Nat.blt_eq, Int.reduceLT, Int.reduceLE, Int.reduceEq, Int.reduceToNat, Int.reduceNeg, Int.reduceAdd, Int.reduceSub, Int.reduceMul, Int.reducePow, reduceIte, decide_true, decide_false, reduceCtorEq]) | (refine BrP.mk (fun h => ?_) (fun h => ?_) <;> (try simp only [h]))))
  all_goals simp only [decide_eq_true_eq, decide_eq_false_iff_not] at *
  all_goals (unfold followF; (repeat' split) <;> first | (exfalso; omega) | exact ⟨rfl, rfl⟩ | (simp_all; done))
theorem f96 (st b : Int) : Spec V 142 [i2 .i64 st, i2 .u8 b] (.tu [i2 .i64 (stepF st b).1, b2 (stepF st b).2]) := by
  (refine Spec.of_go (L := fun | 0 => some [0, 1] | 1 => some [1, 6] | 2 => some [1, 6, 7] | 3 => some [4, 5] | 4 => some [1, 6, 13] | 5 => some [4, 5] | 6 => some [1, 6, 19] | 7 => some [4, 5] | 8 => some [1, 6, 25] | 9 => some [4, 5] | 10 => some [1, 6, 31] | 11 => some [4, 5] | 12 => some [1, 6, 37] | 13 => some [4, 5] | 14 => some [1, 6, 43] | 15 => some [4, 5] | 16 => some [1, 49] | 17 => some [4, 5] | 18 => some [4, 5] | _ => none) 1000 Go.Proofs.Tryd.func142 rfl rfl ⟨Nat.le_of_ble_eq_true rfl, rfl⟩ rfl ?_; unfold Go.Proofs.Tryd.f142; push_cast (maxSteps := 1000000))
  (repeat' (first | (simp (config := { maxSteps := 1000000 }) only [push_cast, Nat.reduceBEq, Nat.reduceBNe, Nat.reduceAdd, Nat.reduceSub, Nat.reduceMul, Nat.reduceLT, Nat.reduceLeDiff, Nat.reduceEqDiff, Nat.blt_eq, Int.reduceLT, Int.reduceLE, Int.reduceEq, Int.reduceToNat, Int.reduceNeg, Int.reduceAdd, Int.reduceSub, Int.reduceMul, Int.reducePow, reduceIte, decide_true, decide_false, reduceCtorEq]) | (refine BrP.mk (fun h => ?_) (fun h => ?_) <;> (try simp only [h]))))
  all_goals try (refine ⟨_, f103 _, rfl, ?_⟩; (try (push_cast (maxSteps := 1000000))))
  all_goals try (refine ⟨_, f104 _ _ _ _, rfl, ?_⟩; (try (push_cast (maxSteps := 1000000))))
  all_goals simp only [decide_eq_true_eq, decide_eq_false_iff_not] at *
  all_goals simp [stepF, *]

theorem f84 (st : Int) (s : ByteArray) (hs : s.size ≤ 1099511627776) : Spec V 132 [i2 .i64 st, s2 s] (.tu [i2 .i64 (runS st (bytes s)).1, i2 .i64 ((runS st (bytes s)).2 : Int)]) := by
  (refine Spec.of_go (L := fun | 0 => some [0, 1, 5] | 1 => some [0, 1, 5, 11] | 2 => some [0, 1, 5, 6, 7] | 3 => some [0, 1, 5, 6, 21] | 4 => some [0, 1, 5] | 5 => some [0, 1, 5] | 6 => some [4, 5] | _ => none) 1000 Go.Proofs.Tryd.func132 rfl rfl ⟨Nat.le_of_ble_eq_true rfl, rfl⟩ rfl ?_; unfold Go.Proofs.Tryd.f132; push_cast (maxSteps := 1000000))
  refine LoopK.s1 (α := Int × Nat) [0, 5] (fun x => [i2 .i64 x.1, i2 .i64 x.2]) (fun x => x.2 ≤ s.size ∧ (runS x.1 ((bytes s).drop x.2)).1 = (runS st (bytes s)).1 ∧ x.2 + (runS x.1 ((bytes s).drop x.2)).2 = (runS st (bytes s)).2) (fun x => s.size - x.2) 1000 (st, 0) ⟨by omega, by simp, by simp⟩ (by (try (push_cast (maxSteps := 1000000)))) ?_
  rintro ⟨st', k⟩ ⟨hk, hc1, hc2⟩
  simp only at hk hc1 hc2
  by_cases hlt : k < s.size
  · have hv : (bytes s)[k]? = some (sB s k) := by
      have : k < (bytes s).length := by rw [← size_bytes]; exact hlt
      simp [sB, List.getD, List.getElem?_eq_getElem this]
    have hd : decide ((k : Int) < (s.size : Int)) = true := decide_eq_true (by omega)
    rw [drop_cons hv] at hc1 hc2
    simp only [runS] at hc1 hc2
    (try (push_cast (maxSteps := 1000000) [hd]))
    refine ⟨by omega, ?_⟩
    refine ⟨_, f96 _ _, rfl, ?_⟩
    (try (push_cast (maxSteps := 1000000)))
    generalize hp : stepF st' (sB s k).toNat = p at *
    refine BrP.mk (fun h => ?_) (fun h => ?_) <;> try (push_cast (maxSteps := 1000000) [h])
    · have h' : ¬ p.2 = true := by simpa using h
      rw [if_neg h'] at hc1 hc2
      (try (push_cast (maxSteps := 1000000)))
      exact ⟨hc1, by omega⟩
    · have h' : p.2 = true := by simpa using h
      rw [if_pos h'] at hc1 hc2
      (try (push_cast (maxSteps := 1000000)))
      refine ⟨inK64 (by omega) (by omega), (p.1, k + 1), ⟨by simp only; omega, hc1, by simp only at hc2 ⊢; omega⟩, by simp only; omega, Le.st ?_⟩
      (try (push_cast (maxSteps := 1000000)))
  · have hd : decide ((k : Int) < (s.size : Int)) = false := decide_eq_false (by omega)
    have hn : (bytes s).drop k = [] := List.drop_eq_nil_of_le (by rw [← size_bytes]; omega)
    rw [hn] at hc1 hc2; simp only [runS] at hc1 hc2
    (try (push_cast (maxSteps := 1000000) [hd]))
    exact ⟨hc1, by omega⟩
theorem f72 (s : ByteArray) (hs : s.size ≤ 1099511627776) : Spec V 115 [s2 s] (b2 (validB s)) := by
  (refine Spec.of_go (L := fun | 0 => some [0] | 1 => some [0, 3, 4] | 2 => some [2] | _ => none) 1000 Go.Proofs.Tryd.func115 rfl rfl ⟨Nat.le_of_ble_eq_true rfl, rfl⟩ rfl ?_; unfold Go.Proofs.Tryd.f115; push_cast (maxSteps := 1000000))
  refine ⟨_, f84 0 s hs, rfl, ?_⟩
  (try (push_cast (maxSteps := 1000000)))
  have e : ((((runS 0 (bytes s)).2 : Int) = (s.size : Int))) = ((runS 0 (bytes s)).2 = s.size) := propext (by omega)
  simp only [e]
  (repeat' (first | (simp (config := { maxSteps := 1000000 }) only [push_cast, Nat.reduceBEq, Nat.reduceBNe, Nat.reduceAdd, Nat.reduceSub, Nat.reduceMul, Nat.reduceLT, Nat.reduceLeDiff, Nat.reduceEqDiff, Nat.blt_eq, Int.reduceLT, Int.reduceLE, Int.reduceEq, Int.reduceToNat, Int.reduceNeg, Int.reduceAdd, Int.reduceSub, Int.reduceMul, Int.reducePow, reduceIte, decide_true, decide_false, reduceCtorEq]) | (refine BrP.mk (fun h => ?_) (fun h => ?_) <;> (try simp only [h]))))
  all_goals simp_all [validB]

theorem f91 (c : Int) (h0 : 0 ≤ c) (h1 : c ≤ 1114111) : Spec V 144 [i2 .i64 c] (s2 (strN (putF c))) := by
  (refine Spec.of_go (L := fun | 0 => some [0] | 1 => some [0, 4] | 2 => some [2] | 3 => some [0, 10] | 4 => some [2] | 5 => some [0, 22] | 6 => some [2] | 7 => some [2] | _ => none) 1000 Go.Proofs.Tryd.func144 rfl rfl ⟨Nat.le_of_ble_eq_true rfl, rfl⟩ rfl ?_; unfold Go.Proofs.Tryd.f144; push_cast (maxSteps := 1000000))
  have e1 : ∀ k : Int, c.tdiv k = c / k := fun k => Int.tdiv_eq_ediv_of_nonneg h0
  have e2 : ∀ k : Int, c.tmod k = c % k := fun k => Int.tmod_eq_emod_of_nonneg h0
  have e3 : ∀ k m : Int, 0 < k → (c / k).tmod m = c / k % m := fun k m hk => Int.tmod_eq_emod_of_nonneg (Int.ediv_nonneg h0 (by omega))
  refine BrP.mk (fun h => ?_) (fun h => ?_) <;> try (push_cast (maxSteps := 1000000) [h])
  · have h' := of_decide_eq_true h
    (repeat ((with_reducible refine And.intro ?_ ?_); focus (first | trivial | omega | exact inK64 (by omega) (by omega) | exact inKu8 (by omega) (by omega))))
    rw [putF, if_pos h']
  · have h' := of_decide_eq_false h
    rw [putF, if_neg h']
    refine BrP.mk (fun h => ?_) (fun h => ?_) <;> try (push_cast (maxSteps := 1000000) [h])
    · have h' := of_decide_eq_true h
      rw [if_pos h']
      simp only [e1, e2, e3 64 64 (by decide), e3 4096 64 (by decide)]
      (repeat ((with_reducible refine And.intro ?_ ?_); focus (first | trivial | omega | exact inK64 (by omega) (by omega) | exact inKu8 (by omega) (by omega))))
      trivial
    · have h' := of_decide_eq_false h
      rw [if_neg h']
      refine BrP.mk (fun h => ?_) (fun h => ?_) <;> try (push_cast (maxSteps := 1000000) [h])
      · have h' := of_decide_eq_true h
        rw [if_pos h']
        simp only [e1, e2, e3 64 64 (by decide), e3 4096 64 (by decide)]
        (repeat ((with_reducible refine And.intro ?_ ?_); focus (first | trivial | omega | exact inK64 (by omega) (by omega) | exact inKu8 (by omega) (by omega))))
        trivial
      · have h' := of_decide_eq_false h
        rw [if_neg h']
        simp only [e1, e2, e3 64 64 (by decide), e3 4096 64 (by decide)]
        (repeat ((with_reducible refine And.intro ?_ ?_); focus (first | trivial | omega | exact inK64 (by omega) (by omega) | exact inKu8 (by omega) (by omega))))
        trivial

set_option maxHeartbeats 4000000 in
theorem f78 (s : ByteArray) (hs : s.size ≤ 1099511627776) : Spec V 135 [s2 s] (i2 .i64 (sizeF s : Int)) := by
  (refine Spec.of_go (L := fun | 0 => some [0] | 1 => some [0, 3] | 2 => some [0, 3, 12] | 3 => some [0, 3] | 4 => some [0, 3, 4] | 5 => some [0, 3, 4, 19] | 6 => some [0, 3, 4] | 7 => some [0, 3, 4, 31] | 8 => some [0, 3, 4] | 9 => some [0, 3, 4, 49] | 10 => some [0, 3, 4] | 11 => some [0, 3, 93] | 12 => some [2] | 13 => some [2] | _ => none) 1000 Go.Proofs.Tryd.func135 rfl rfl ⟨Nat.le_of_ble_eq_true rfl, rfl⟩ rfl ?_; unfold Go.Proofs.Tryd.f135; push_cast (maxSteps := 1000000))
  refine LoopK.s1 (α := Nat) [3] (fun n => [i2 .i64 n]) (fun n => 1 ≤ n ∧ n ≤ 5 ∧ szF s (5 - n) n = sizeF s) (fun n => 5 - n) 1000 1 ⟨by omega, by omega, rfl⟩ (by (try (push_cast (maxSteps := 1000000)))) ?_
  rintro n ⟨h1, h5, hc⟩
  have b0 := (sB s 0).toNat_lt
  have b1 := (sB s 1).toNat_lt
  have b2 := (sB s 2).toNat_lt
  have b3 := (sB s 3).toNat_lt
  by_cases h4 : n ≤ 4
  · by_cases hl : n ≤ s.size
    · have hd : decide ((n : Int) ≤ 4) = true := decide_eq_true (by omega)
      have hd' : decide ((n : Int) ≤ (s.size : Int)) = true := decide_eq_true (by omega)
      have hf : szF s (5 - n) n = if okN s n = true then n else szF s (5 - (n + 1)) (n + 1) := by
        rw [show 5 - n = (5 - (n + 1)) + 1 by omega]; simp only [szF, if_pos hl]
      rw [hf] at hc

      clear hd hd' hf
      obtain rfl | rfl | rfl | rfl : n = 1 ∨ n = 2 ∨ n = 3 ∨ n = 4 := by omega
      · have hd : decide ((1 : Int) ≤ (s.size : Int)) = true := decide_eq_true (by omega)
        (try (push_cast (maxSteps := 1000000) [hd]))
        (repeat ((with_reducible refine And.intro ?_ ?_); focus (first | trivial | omega | exact inK64 (by omega) (by omega) | exact inKu8 (by omega) (by omega))))
        have hcp : ((sB s 0).toNat : Int) = cpF s 1 := rfl
        rw [hcp]
        (refine DrawK.of (.take 0 (.take 1 (.take 2 (.take 3 (.take 4 (.take 5 (.take 6 (.take 7 (.take 8 (.take 9 (.take 10 (.take 11 (.take 12 (.take 13 (.take 14 (.take 15 (.take 17 (.take 18 (.take 19 (.one 16 (.take 20 (.take 21 .done)))))))))))))))))))))) 1000 (by decide +kernel) ?_; try (push_cast (maxSteps := 1000000)))
        have hokd : okN s 1 = (decide (0 ≤ cpF s 1) && decide (cpF s 1 ≤ 1114111) && (decide (cpF s 1 < 55296) || decide (57343 < cpF s 1)) && decide (strN (putF (cpF s 1)) = s.extract 0 1)) := rfl
        generalize cpF s 1 = c at *
        clear hcp
        (repeat' (first | (simp (config := { maxSteps := 1000000 }) only [push_cast, Nat.reduceBEq, Nat.reduceBNe, Nat.reduceAdd, Nat.reduceSub, Nat.reduceMul, Nat.reduceLT, Nat.reduceLeDiff, Nat.reduceEqDiff, Nat.blt_eq, Int.reduceLT, Int.reduceLE, Int.reduceEq, Int.reduceToNat, Int.reduceNeg, Int.reduceAdd, Int.reduceSub, Int.reduceMul, Int.reducePow, reduceIte, decide_true, decide_false, reduceCtorEq]) | (refine BrP.mk (fun h => ?_) (fun h => ?_) <;> (try simp only [h]))))
        all_goals simp only [decide_eq_true_eq, decide_eq_false_iff_not] at *
        all_goals try (refine ⟨by omega, ?_⟩)
        all_goals try (refine ⟨_, f91 c (by omega) (by omega), rfl, ?_⟩; (try (push_cast (maxSteps := 1000000))))
        all_goals (repeat' (first | (simp (config := { maxSteps := 1000000 }) only [push_cast, Nat.reduceBEq, Nat.reduceBNe, Nat.reduceAdd, Nat.reduceSub, Nat.reduceMul, Nat.reduceLT, Nat.reduceLeDiff, Nat.reduceEqDiff, Nat.blt_eq, Int.reduceLT, Int.reduceLE, Int.reduceEq, Int.reduceToNat, Int.reduceNeg, Int.reduceAdd, Int.reduceSub, Int.reduceMul, Int.reducePow, reduceIte, decide_true, decide_false, reduceCtorEq]) | (refine BrP.mk (fun h => ?_) (fun h => ?_) <;> (try simp only [h]))))
        all_goals try simp only [decide_eq_true_eq, decide_eq_false_iff_not] at *
        all_goals first
          | (have hk : okN s 1 = true := by
               rw [hokd]; simp only [Bool.and_eq_true, Bool.or_eq_true, decide_eq_true_eq]; refine ⟨⟨⟨by omega, by omega⟩, by omega⟩, by assumption⟩
             rw [if_pos hk] at hc; rw [← hc]; rfl)
          | (have hk : ¬ okN s 1 = true := by
               rw [hokd]; simp only [Bool.and_eq_true, Bool.or_eq_true, decide_eq_true_eq]; rintro ⟨⟨⟨_, _⟩, _⟩, _⟩; first | omega | contradiction
             rw [if_neg hk] at hc
             (repeat ((with_reducible refine And.intro ?_ ?_); focus (first | trivial | omega | exact inK64 (by omega) (by omega) | exact inKu8 (by omega) (by omega))))
             refine ⟨1 + 1, ⟨by omega, by omega, hc⟩, by omega, Le.st ?_⟩
             (try (push_cast (maxSteps := 1000000))))
      · have hd : decide ((2 : Int) ≤ (s.size : Int)) = true := decide_eq_true (by omega)
        (try (push_cast (maxSteps := 1000000) [hd]))
        (repeat ((with_reducible refine And.intro ?_ ?_); focus (first | trivial | omega | exact inK64 (by omega) (by omega) | exact inKu8 (by omega) (by omega))))
        (refine DrawK.of (.take 0 (.take 1 (.take 2 (.take 3 (.take 4 (.take 5 (.take 6 (.take 7 (.take 8 (.take 9 (.take 10 .done))))))))))) 1000 (by decide +kernel) ?_; try (push_cast (maxSteps := 1000000)))
        (repeat ((with_reducible refine And.intro ?_ ?_); focus (first | trivial | omega | exact inK64 (by omega) (by omega) | exact inKu8 (by omega) (by omega))))
        have hcp : ((sB s 0).toNat - 192 : Int) * 64 + (sB s 1).toNat - 128 = cpF s 2 := rfl
        rw [hcp]
        (refine DrawK.of (.take 0 (.take 1 (.take 2 (.take 3 (.take 4 (.take 5 (.take 6 (.take 7 (.take 8 (.take 9 (.take 10 (.take 11 (.take 12 (.take 13 (.take 14 (.take 15 (.take 17 (.take 18 (.take 19 (.one 16 (.take 20 (.take 21 .done)))))))))))))))))))))) 1000 (by decide +kernel) ?_; try (push_cast (maxSteps := 1000000)))
        have hokd : okN s 2 = (decide (0 ≤ cpF s 2) && decide (cpF s 2 ≤ 1114111) && (decide (cpF s 2 < 55296) || decide (57343 < cpF s 2)) && decide (strN (putF (cpF s 2)) = s.extract 0 2)) := rfl
        generalize cpF s 2 = c at *
        clear hcp
        (repeat' (first | (simp (config := { maxSteps := 1000000 }) only [push_cast, Nat.reduceBEq, Nat.reduceBNe, Nat.reduceAdd, Nat.reduceSub, Nat.reduceMul, Nat.reduceLT, Nat.reduceLeDiff, Nat.reduceEqDiff, Nat.blt_eq, Int.reduceLT, Int.reduceLE, Int.reduceEq, Int.reduceToNat, Int.reduceNeg, Int.reduceAdd, Int.reduceSub, Int.reduceMul, Int.reducePow, reduceIte, decide_true, decide_false, reduceCtorEq]) | (refine BrP.mk (fun h => ?_) (fun h => ?_) <;> (try simp only [h]))))
        all_goals simp only [decide_eq_true_eq, decide_eq_false_iff_not] at *
        all_goals try (refine ⟨by omega, ?_⟩)
        all_goals try (refine ⟨_, f91 c (by omega) (by omega), rfl, ?_⟩; (try (push_cast (maxSteps := 1000000))))
        all_goals (repeat' (first | (simp (config := { maxSteps := 1000000 }) only [push_cast, Nat.reduceBEq, Nat.reduceBNe, Nat.reduceAdd, Nat.reduceSub, Nat.reduceMul, Nat.reduceLT, Nat.reduceLeDiff, Nat.reduceEqDiff, Nat.blt_eq, Int.reduceLT, Int.reduceLE, Int.reduceEq, Int.reduceToNat, Int.reduceNeg, Int.reduceAdd, Int.reduceSub, Int.reduceMul, Int.reducePow, reduceIte, decide_true, decide_false, reduceCtorEq]) | (refine BrP.mk (fun h => ?_) (fun h => ?_) <;> (try simp only [h]))))
        all_goals try simp only [decide_eq_true_eq, decide_eq_false_iff_not] at *
        all_goals first
          | (have hk : okN s 2 = true := by
               rw [hokd]; simp only [Bool.and_eq_true, Bool.or_eq_true, decide_eq_true_eq]; refine ⟨⟨⟨by omega, by omega⟩, by omega⟩, by assumption⟩
             rw [if_pos hk] at hc; rw [← hc]; rfl)
          | (have hk : ¬ okN s 2 = true := by
               rw [hokd]; simp only [Bool.and_eq_true, Bool.or_eq_true, decide_eq_true_eq]; rintro ⟨⟨⟨_, _⟩, _⟩, _⟩; first | omega | contradiction
             rw [if_neg hk] at hc
             (repeat ((with_reducible refine And.intro ?_ ?_); focus (first | trivial | omega | exact inK64 (by omega) (by omega) | exact inKu8 (by omega) (by omega))))
             refine ⟨2 + 1, ⟨by omega, by omega, hc⟩, by omega, Le.st ?_⟩
             (try (push_cast (maxSteps := 1000000))))
      · have hd : decide ((3 : Int) ≤ (s.size : Int)) = true := decide_eq_true (by omega)
        (try (push_cast (maxSteps := 1000000) [hd]))
        (repeat ((with_reducible refine And.intro ?_ ?_); focus (first | trivial | omega | exact inK64 (by omega) (by omega) | exact inKu8 (by omega) (by omega))))
        (refine DrawK.of (.take 0 (.take 1 (.take 2 (.take 3 (.take 4 (.take 5 (.take 6 (.take 7 (.take 8 (.take 9 (.take 10 (.take 11 (.take 12 (.take 13 (.take 14 (.take 15 (.take 16 .done))))))))))))))))) 1000 (by decide +kernel) ?_; try (push_cast (maxSteps := 1000000)))
        (repeat ((with_reducible refine And.intro ?_ ?_); focus (first | trivial | omega | exact inK64 (by omega) (by omega) | exact inKu8 (by omega) (by omega))))
        have hcp : ((sB s 0).toNat - 224 : Int) * 4096 + ((sB s 1).toNat - 128 : Int) * 64 + (sB s 2).toNat - 128 = cpF s 3 := rfl
        rw [hcp]
        (refine DrawK.of (.take 0 (.take 1 (.take 2 (.take 3 (.take 4 (.take 5 (.take 6 (.take 7 (.take 8 (.take 9 (.take 10 (.take 11 (.take 12 (.take 13 (.take 14 (.take 15 (.take 17 (.take 18 (.take 19 (.one 16 (.take 20 (.take 21 .done)))))))))))))))))))))) 1000 (by decide +kernel) ?_; try (push_cast (maxSteps := 1000000)))
        have hokd : okN s 3 = (decide (0 ≤ cpF s 3) && decide (cpF s 3 ≤ 1114111) && (decide (cpF s 3 < 55296) || decide (57343 < cpF s 3)) && decide (strN (putF (cpF s 3)) = s.extract 0 3)) := rfl
        generalize cpF s 3 = c at *
        clear hcp
        (repeat' (first | (simp (config := { maxSteps := 1000000 }) only [push_cast, Nat.reduceBEq, Nat.reduceBNe, Nat.reduceAdd, Nat.reduceSub, Nat.reduceMul, Nat.reduceLT, Nat.reduceLeDiff, Nat.reduceEqDiff, Nat.blt_eq, Int.reduceLT, Int.reduceLE, Int.reduceEq, Int.reduceToNat, Int.reduceNeg, Int.reduceAdd, Int.reduceSub, Int.reduceMul, Int.reducePow, reduceIte, decide_true, decide_false, reduceCtorEq]) | (refine BrP.mk (fun h => ?_) (fun h => ?_) <;> (try simp only [h]))))
        all_goals simp only [decide_eq_true_eq, decide_eq_false_iff_not] at *
        all_goals try (refine ⟨by omega, ?_⟩)
        all_goals try (refine ⟨_, f91 c (by omega) (by omega), rfl, ?_⟩; (try (push_cast (maxSteps := 1000000))))
        all_goals (repeat' (first | (simp (config := { maxSteps := 1000000 }) only [push_cast, Nat.reduceBEq, Nat.reduceBNe, Nat.reduceAdd, Nat.reduceSub, Nat.reduceMul, Nat.reduceLT, Nat.reduceLeDiff, Nat.reduceEqDiff, Nat.blt_eq, Int.reduceLT, Int.reduceLE, Int.reduceEq, Int.reduceToNat, Int.reduceNeg, Int.reduceAdd, Int.reduceSub, Int.reduceMul, Int.reducePow, reduceIte, decide_true, decide_false, reduceCtorEq]) | (refine BrP.mk (fun h => ?_) (fun h => ?_) <;> (try simp only [h]))))
        all_goals try simp only [decide_eq_true_eq, decide_eq_false_iff_not] at *
        all_goals first
          | (have hk : okN s 3 = true := by
               rw [hokd]; simp only [Bool.and_eq_true, Bool.or_eq_true, decide_eq_true_eq]; refine ⟨⟨⟨by omega, by omega⟩, by omega⟩, by assumption⟩
             rw [if_pos hk] at hc; rw [← hc]; rfl)
          | (have hk : ¬ okN s 3 = true := by
               rw [hokd]; simp only [Bool.and_eq_true, Bool.or_eq_true, decide_eq_true_eq]; rintro ⟨⟨⟨_, _⟩, _⟩, _⟩; first | omega | contradiction
             rw [if_neg hk] at hc
             (repeat ((with_reducible refine And.intro ?_ ?_); focus (first | trivial | omega | exact inK64 (by omega) (by omega) | exact inKu8 (by omega) (by omega))))
             refine ⟨3 + 1, ⟨by omega, by omega, hc⟩, by omega, Le.st ?_⟩
             (try (push_cast (maxSteps := 1000000))))
      · have hd : decide ((4 : Int) ≤ (s.size : Int)) = true := decide_eq_true (by omega)
        (try (push_cast (maxSteps := 1000000) [hd]))
        (repeat ((with_reducible refine And.intro ?_ ?_); focus (first | trivial | omega | exact inK64 (by omega) (by omega) | exact inKu8 (by omega) (by omega))))
        (refine DrawK.of (.take 0 (.take 1 (.take 2 (.take 3 (.take 4 (.take 5 (.take 6 (.take 7 (.take 8 (.take 9 (.take 10 (.take 11 (.take 12 (.take 13 (.take 14 (.take 15 (.take 16 (.take 17 (.take 18 (.take 19 (.take 20 (.take 21 (.take 22 .done))))))))))))))))))))))) 1000 (by decide +kernel) ?_; try (push_cast (maxSteps := 1000000)))
        (repeat ((with_reducible refine And.intro ?_ ?_); focus (first | trivial | omega | exact inK64 (by omega) (by omega) | exact inKu8 (by omega) (by omega))))
        have hcp : ((sB s 0).toNat - 240 : Int) * 262144 + ((sB s 1).toNat - 128 : Int) * 4096 + ((sB s 2).toNat - 128 : Int) * 64 + (sB s 3).toNat - 128 = cpF s 4 := rfl
        rw [hcp]
        (refine DrawK.of (.take 0 (.take 1 (.take 2 (.take 3 (.take 4 (.take 5 (.take 6 (.take 7 (.take 8 (.take 9 (.take 10 (.take 11 (.take 12 (.take 13 (.take 14 (.take 15 (.take 17 (.take 18 (.take 19 (.one 16 (.take 20 (.take 21 .done)))))))))))))))))))))) 1000 (by decide +kernel) ?_; try (push_cast (maxSteps := 1000000)))
        have hokd : okN s 4 = (decide (0 ≤ cpF s 4) && decide (cpF s 4 ≤ 1114111) && (decide (cpF s 4 < 55296) || decide (57343 < cpF s 4)) && decide (strN (putF (cpF s 4)) = s.extract 0 4)) := rfl
        generalize cpF s 4 = c at *
        clear hcp
        (repeat' (first | (simp (config := { maxSteps := 1000000 }) only [push_cast, Nat.reduceBEq, Nat.reduceBNe, Nat.reduceAdd, Nat.reduceSub, Nat.reduceMul, Nat.reduceLT, Nat.reduceLeDiff, Nat.reduceEqDiff, Nat.blt_eq, Int.reduceLT, Int.reduceLE, Int.reduceEq, Int.reduceToNat, Int.reduceNeg, Int.reduceAdd, Int.reduceSub, Int.reduceMul, Int.reducePow, reduceIte, decide_true, decide_false, reduceCtorEq]) | (refine BrP.mk (fun h => ?_) (fun h => ?_) <;> (try simp only [h]))))
        all_goals simp only [decide_eq_true_eq, decide_eq_false_iff_not] at *
        all_goals try (refine ⟨by omega, ?_⟩)
        all_goals try (refine ⟨_, f91 c (by omega) (by omega), rfl, ?_⟩; (try (push_cast (maxSteps := 1000000))))
        all_goals (repeat' (first | (simp (config := { maxSteps := 1000000 }) only [push_cast, Nat.reduceBEq, Nat.reduceBNe, Nat.reduceAdd, Nat.reduceSub, Nat.reduceMul, Nat.reduceLT, Nat.reduceLeDiff, Nat.reduceEqDiff, Nat.blt_eq, Int.reduceLT, Int.reduceLE, Int.reduceEq, Int.reduceToNat, Int.reduceNeg, Int.reduceAdd, Int.reduceSub, Int.reduceMul, Int.reducePow, reduceIte, decide_true, decide_false, reduceCtorEq]) | (refine BrP.mk (fun h => ?_) (fun h => ?_) <;> (try simp only [h]))))
        all_goals try simp only [decide_eq_true_eq, decide_eq_false_iff_not] at *
        all_goals first
          | (have hk : okN s 4 = true := by
               rw [hokd]; simp only [Bool.and_eq_true, Bool.or_eq_true, decide_eq_true_eq]; refine ⟨⟨⟨by omega, by omega⟩, by omega⟩, by assumption⟩
             rw [if_pos hk] at hc; rw [← hc]; rfl)
          | (have hk : ¬ okN s 4 = true := by
               rw [hokd]; simp only [Bool.and_eq_true, Bool.or_eq_true, decide_eq_true_eq]; rintro ⟨⟨⟨_, _⟩, _⟩, _⟩; first | omega | contradiction
             rw [if_neg hk] at hc
             (repeat ((with_reducible refine And.intro ?_ ?_); focus (first | trivial | omega | exact inK64 (by omega) (by omega) | exact inKu8 (by omega) (by omega))))
             refine ⟨4 + 1, ⟨by omega, by omega, hc⟩, by omega, Le.st ?_⟩
             (try (push_cast (maxSteps := 1000000))))
    · have hd : decide ((n : Int) ≤ (s.size : Int)) = false := decide_eq_false (by omega)
      have hd' : decide ((n : Int) ≤ 4) = true := decide_eq_true (by omega)
      have hf : szF s (5 - n) n = 0 := by
        rw [show 5 - n = (5 - (n + 1)) + 1 by omega]; simp only [szF, if_neg hl]
      rw [hf] at hc
      (try (push_cast (maxSteps := 1000000) [hd, hd']))
      rw [← hc]; rfl
  · have hd' : decide ((n : Int) ≤ 4) = false := decide_eq_false (by omega)
    have hf : szF s (5 - n) n = 0 := by
      rw [show 5 - n = 0 by omega]; rfl
    rw [hf] at hc
    (try (push_cast (maxSteps := 1000000) [hd']))
    rw [← hc]; rfl
end Go.LS.Tryd
namespace Go.LS.Tryd
open Go Go.LS
set_option maxRecDepth 100000
set_option linter.unusedSimpArgs false
set_option linter.unusedVariables false

theorem f54 (s : ByteArray) (hs : s.size ≤ 1099511627776) : Spec V 119 [s2 s] (i2 .i64 (wholeF s : Int)) := by
  (refine Spec.of_go (L := fun | 0 => some [0] | 1 => some [0, 3] | 2 => some [0, 3, 14] | 3 => some [0, 3] | 4 => some [2] | _ => none) 1000 Go.Proofs.Tryd.func119 rfl rfl ⟨Nat.le_of_ble_eq_true rfl, rfl⟩ rfl ?_; unfold Go.Proofs.Tryd.f119; push_cast (maxSteps := 1000000))
  refine LoopK.s1 (α := Nat) [3] (fun n => [i2 .i64 n]) (fun n => n ≤ s.size ∧ ∃ f, s.size - n ≤ f ∧ whF s f n = wholeF s) (fun n => s.size - n) 1000 0 ⟨by omega, s.size, by omega, rfl⟩ (by (try (push_cast (maxSteps := 1000000)))) ?_
  rintro n ⟨hn, f, hf, hc⟩
  have hsz : (s.extract n s.size).size = s.size - n := by simp
  have hle : sizeF (s.extract n s.size) ≤ s.size - n := by have := szF_le (s.extract n s.size) 4 1; rw [hsz] at this; exact this
  have hspec := f78 (s.extract n s.size) (by omega)
  by_cases hlt : n < s.size
  · have hd : decide ((n : Int) < (s.size : Int)) = true := decide_eq_true (by omega)
    obtain ⟨f, rfl⟩ : ∃ g, f = g + 1 := ⟨f - 1, by omega⟩
    simp only [whF, if_pos hlt] at hc
    generalize hS : sizeF (s.extract n s.size) = S at *
    (try (push_cast (maxSteps := 1000000) [hd]))
    refine ⟨⟨by omega, by omega⟩, ?_⟩
    refine ⟨_, hspec, rfl, ?_⟩
    (try (push_cast (maxSteps := 1000000)))
    refine BrP.mk (fun h => ?_) (fun h => ?_) <;> try (push_cast (maxSteps := 1000000) [h])
    · have h' := of_decide_eq_true h
      rw [if_pos (by omega)] at hc
      refine ⟨⟨by omega, by omega⟩, ?_⟩
      refine ⟨_, hspec, rfl, ?_⟩
      (try (push_cast (maxSteps := 1000000)))
      refine ⟨inK64 (by omega) (by omega), n + S, ⟨by omega, f, by omega, hc⟩, by omega, Le.st ?_⟩
      (try (push_cast (maxSteps := 1000000)))
    · have h' := of_decide_eq_false h
      rw [if_neg (by omega)] at hc
      exact congrArg _ hc
  · have hd : decide ((n : Int) < (s.size : Int)) = false := decide_eq_false (by omega)
    (try (push_cast (maxSteps := 1000000) [hd]))
    cases f with
    | zero => exact congrArg _ hc
    | succ f => simp only [whF, if_neg hlt] at hc; exact congrArg _ hc

theorem f18 (l : List Cl) (hl : okLen l) : Spec V 23 [.c (.d (.sl 3 (l.map eC)))] (.c (.d (.sl 3 (l.map eRC)))) := by
  (refine Spec.of_go (L := fun | 0 => some [0] | 1 => some [0, 3] | 2 => some [3, 7, 8, 9] | 3 => some [3, 7, 8, 9, 10] | 4 => some [3, 5, 7, 8, 9] | 5 => some [3, 5, 6, 7, 8, 9] | 6 => some [3, 6, 7, 8, 9, 19] | 7 => some [3, 6, 7, 8, 9] | 8 => some [3, 7, 8, 9] | 9 => some [3, 7, 8, 9] | 10 => some [2] | _ => none) 1000 Go.Proofs.Tryd.func23 rfl rfl ⟨Nat.le_of_ble_eq_true rfl, rfl⟩ rfl ?_; unfold Go.Proofs.Tryd.f23; push_cast (maxSteps := 1000000))
  refine LoopK.le (Le.nil 3 131 3 (by decide) (by (try (push_cast (maxSteps := 1000000))))) ?_
  (try (push_cast (maxSteps := 1000000)))
  refine LoopK.ov (α := Nat) [9] (fun k => [i2 .i64 k]) (fun k => [.rw 131 3 ((l.take k).map eRC)]) (fun k => k ≤ l.length) (fun k => l.length - k) 1000 0 (by omega) (by (try (push_cast (maxSteps := 1000000)))) ?_
  rintro k hk
  by_cases hlt : k < l.length
  · have hv := List.getElem?_eq_getElem hlt; have hd : decide ((k : Int) < (l.length : Int)) = true := decide_eq_true (by omega)
    (try (push_cast (maxSteps := 1000000) [hd, getD_map hv]))
    (repeat ((with_reducible refine And.intro ?_ ?_); focus (first | trivial | omega | exact inK64 (by omega) (by omega) | exact inKu8 (by omega) (by omega))))
    refine BrP.mk (fun h => ?_) (fun h => ?_) <;> try (push_cast (maxSteps := 1000000) [h])
    · refine ⟨⟨.inl trivial, by simp [maxLen]; omega, by simp; omega⟩, inK64 (by omega) (by omega), k + 1, by omega, by omega, Le.st ?_⟩
      (try (push_cast (maxSteps := 1000000)))
      rw [map_take_succ hv]; simp [eRC, bi, h]
    · refine ⟨⟨.inl trivial, by simp [maxLen]; omega, by simp; omega⟩, inK64 (by omega) (by omega), k + 1, by omega, by omega, Le.st ?_⟩
      (try (push_cast (maxSteps := 1000000)))
      rw [map_take_succ hv]; simp [eRC, bi, h]
  · have hd : decide ((k : Int) < (l.length : Int)) = false := decide_eq_false (by omega)
    (try (push_cast (maxSteps := 1000000) [hd]))
    rw [List.take_of_length_le (by omega)]

theorem f56 (l : List Cl) (hl : okLen l) : Spec V 69 [.c (.d (.sl 3 (l.map eRC)))] (.c (.d (.sl 1 (l.map fun c => eS c.name)))) := by
  (refine Spec.of_go (L := fun | 0 => some [0] | 1 => some [0, 3] | 2 => some [3, 6, 7, 8] | 3 => some [3, 6, 7, 8, 9] | 4 => some [3, 5, 6, 7, 8] | 5 => some [3, 6, 7, 8] | 6 => some [3, 6, 7, 8] | 7 => some [2] | _ => none) 1000 Go.Proofs.Tryd.func69 rfl rfl ⟨Nat.le_of_ble_eq_true rfl, rfl⟩ rfl ?_; unfold Go.Proofs.Tryd.f69; push_cast (maxSteps := 1000000))
  refine LoopK.le (Le.nil 3 9 1 (by decide) (by (try (push_cast (maxSteps := 1000000))))) ?_
  (try (push_cast (maxSteps := 1000000)))
  refine LoopK.ov (α := Nat) [8] (fun k => [i2 .i64 k]) (fun k => [.rw 9 1 ((l.take k).map fun c => eS c.name)]) (fun k => k ≤ l.length) (fun k => l.length - k) 1000 0 (by omega) (by (try (push_cast (maxSteps := 1000000)))) ?_
  rintro k hk
  by_cases hlt : k < l.length
  · have hv := List.getElem?_eq_getElem hlt; have hd : decide ((k : Int) < (l.length : Int)) = true := decide_eq_true (by omega)
    (try (push_cast (maxSteps := 1000000) [hd, getD_map hv]))
    (repeat ((with_reducible refine And.intro ?_ ?_); focus (first | trivial | omega | exact inK64 (by omega) (by omega) | exact inKu8 (by omega) (by omega))))
    refine ⟨⟨.inl trivial, by simp [maxLen]; omega, by simp; omega⟩, inK64 (by omega) (by omega), k + 1, by omega, by omega, Le.st ?_⟩
    (try (push_cast (maxSteps := 1000000)))
    rw [map_take_succ hv]; try rfl
  · have hd : decide ((k : Int) < (l.length : Int)) = false := decide_eq_false (by omega)
    (try (push_cast (maxSteps := 1000000) [hd]))
    rw [List.take_of_length_le (by omega)]

theorem f55 (l : List ByteArray) (name : ByteArray) (hl : okLen l) : Spec V 68 [.c (.d (.sl 1 (l.map eS))), s2 name] (i2 .i64 (atF name l 0)) := by
  (refine Spec.of_go (L := fun | 0 => some [0, 1] | 1 => some [1, 7, 8, 9] | 2 => some [1, 7, 8, 9, 10] | 3 => some [1, 5, 6, 7, 8, 9] | 4 => some [1, 5, 7, 8, 9, 16] | 5 => some [4] | 6 => some [1, 7, 8, 9] | 7 => some [4] | _ => none) 1000 Go.Proofs.Tryd.func68 rfl rfl ⟨Nat.le_of_ble_eq_true rfl, rfl⟩ rfl ?_; unfold Go.Proofs.Tryd.f68; push_cast (maxSteps := 1000000))
  refine LoopK.s1 (α := Nat) [9] (fun k => [i2 .i64 k]) (fun k => k ≤ l.length ∧ atF name (l.drop k) k = atF name l 0) (fun k => l.length - k) 1000 0 ⟨by omega, rfl⟩ (by (try (push_cast (maxSteps := 1000000)))) ?_
  rintro k ⟨hk, hc⟩
  by_cases hlt : k < l.length
  · have hv := List.getElem?_eq_getElem hlt; have hd : decide ((k : Int) < (l.length : Int)) = true := decide_eq_true (by omega)
    rw [drop_cons hv] at hc; simp only [atF] at hc
    (try (push_cast (maxSteps := 1000000) [hd, getD_map hv]))
    (repeat ((with_reducible refine And.intro ?_ ?_); focus (first | trivial | omega | exact inK64 (by omega) (by omega) | exact inKu8 (by omega) (by omega))))
    refine BrP.mk (fun h => ?_) (fun h => ?_) <;> try (push_cast (maxSteps := 1000000) [h])
    · rw [if_pos (of_decide_eq_true h)] at hc
      exact hc
    · rw [if_neg (of_decide_eq_false h)] at hc
      (repeat ((with_reducible refine And.intro ?_ ?_); focus (first | trivial | omega | exact inK64 (by omega) (by omega) | exact inKu8 (by omega) (by omega))))
      refine ⟨k + 1, ⟨by omega, hc⟩, by omega, Le.st ?_⟩
      (try (push_cast (maxSteps := 1000000)))
  · have hd : decide ((k : Int) < (l.length : Int)) = false := decide_eq_false (by omega)
    rw [List.drop_eq_nil_of_le (by omega)] at hc; simp only [atF] at hc
    (try (push_cast (maxSteps := 1000000) [hd]))
    exact hc

theorem f62 (l : List Cl) (name : ByteArray) (hl : okLen l) : Spec V 64 [.c (.d (.sl 3 (l.map eC))), s2 name] (.tu [.ag ((eC (findF name l 0).1).map .d), i2 .i64 ((findF name l 0).2.1 : Int), b2 (findF name l 0).2.2]) := by
  (refine Spec.of_go (L := fun | 0 => some [0, 1, 4] | 1 => some [1, 4, 9, 10, 11] | 2 => some [1, 4, 9, 10, 11, 12] | 3 => some [1, 4, 7, 8, 9, 10, 11] | 4 => some [1, 4, 7, 8, 9, 10, 11, 19] | 5 => some [4, 5, 6] | 6 => some [1, 4, 9, 10, 11] | 7 => some [4, 5, 6] | _ => none) 1000 Go.Proofs.Tryd.func64 rfl rfl ⟨Nat.le_of_ble_eq_true rfl, rfl⟩ rfl ?_; unfold Go.Proofs.Tryd.f64; push_cast (maxSteps := 1000000))
  refine LoopK.s1 (α := Nat) [11] (fun k => [i2 .i64 k]) (fun k => k ≤ l.length ∧ findF name (l.drop k) k = findF name l 0) (fun k => l.length - k) 1000 0 ⟨by omega, rfl⟩ (by (try (push_cast (maxSteps := 1000000)))) ?_
  rintro k ⟨hk, hc⟩
  by_cases hlt : k < l.length
  · have hv := List.getElem?_eq_getElem hlt; have hd : decide ((k : Int) < (l.length : Int)) = true := decide_eq_true (by omega)
    rw [drop_cons hv] at hc; simp only [findF] at hc
    (try (push_cast (maxSteps := 1000000) [hd, getD_map hv]))
    (repeat ((with_reducible refine And.intro ?_ ?_); focus (first | trivial | omega | exact inK64 (by omega) (by omega) | exact inKu8 (by omega) (by omega))))
    refine BrP.mk (fun h => ?_) (fun h => ?_) <;> try (push_cast (maxSteps := 1000000) [h])
    · rw [if_pos (of_decide_eq_true h)] at hc
      rw [← hc]
      (try (push_cast (maxSteps := 1000000)))
    · rw [if_neg (of_decide_eq_false h)] at hc
      (repeat ((with_reducible refine And.intro ?_ ?_); focus (first | trivial | omega | exact inK64 (by omega) (by omega) | exact inKu8 (by omega) (by omega))))
      refine ⟨k + 1, ⟨by omega, hc⟩, by omega, Le.st ?_⟩
      (try (push_cast (maxSteps := 1000000)))
  · have hd : decide ((k : Int) < (l.length : Int)) = false := decide_eq_false (by omega)
    rw [List.drop_eq_nil_of_le (by omega)] at hc; simp only [findF] at hc
    (try (push_cast (maxSteps := 1000000) [hd]))
    rw [← hc]
    exact ⟨⟨rfl, rfl, rfl⟩, rfl, rfl⟩

set_option maxHeartbeats 1000000 in
theorem f47 (l : List Cl) (hl : okCl l) : Spec V 63 [.c (.d (.sl 3 (l.map eC)))] (.tu [i2 .i64 ((checkC l).1 : Int), i2 .i64 (checkC l).2]) := by
  obtain ⟨hl, hnm⟩ := hl
  (refine Spec.of_go (L := fun | 0 => some [0] | 1 => some [0, 9] | 2 => some [2, 3] | 3 => some [0, 4] | 4 => some [0, 4, 11, 12, 13] | 5 => some [0, 4, 11, 12, 13, 14] | 6 => some [0, 4, 5, 6, 11, 12, 13] | 7 => some [0, 4, 5, 6, 11, 12, 13, 18] | 8 => some [2, 3] | 9 => some [0, 4, 5, 6, 11, 12, 13, 24] | 10 => some [2, 3] | 11 => some [0, 4, 5, 6, 11, 12, 13, 30] | 12 => some [2, 3] | 13 => some [0, 4, 11, 12, 13] | 14 => some [0, 4, 11, 12, 13] | 15 => some [2, 3] | _ => none) 1000 Go.Proofs.Tryd.func63 rfl rfl ⟨Nat.le_of_ble_eq_true rfl, rfl⟩ rfl ?_; unfold Go.Proofs.Tryd.f63; push_cast (maxSteps := 1000000))
  refine BrP.mk (fun h => ?_) (fun h => ?_) <;> try (push_cast (maxSteps := 1000000) [h])
  · have h' := of_decide_eq_true h
    rw [checkC, if_pos (by omega)]
    exact ⟨rfl, rfl⟩
  · have h' := of_decide_eq_false h
    rw [checkC, if_neg (by omega)]
    refine LoopK.ov (α := Nat × List ByteArray) [13] (fun x => [i2 .i64 x.1]) (fun x => [.mp (truS x.2)]) (fun x => x.1 ≤ l.length ∧ chkF x.2 (l.drop x.1) x.1 = chkF [] l 0) (fun x => l.length - x.1) 1000 (0, []) ⟨by omega, rfl⟩ ?_ ?_
    · (try (push_cast (maxSteps := 1000000)))
      rfl
    rintro ⟨k, seen⟩ ⟨hk, hc⟩
    simp only at hk hc
    by_cases hlt : k < l.length
    · have hv := List.getElem?_eq_getElem hlt; have hd : decide ((k : Int) < (l.length : Int)) = true := decide_eq_true (by omega)
      rw [drop_cons hv] at hc; simp only [chkF] at hc
      have hnk := hnm l[k] (List.getElem_mem hlt)
      (try (push_cast (maxSteps := 1000000) [hd, getD_map hv]))
      (repeat ((with_reducible refine And.intro ?_ ?_); focus (first | trivial | omega | exact inK64 (by omega) (by omega) | exact inKu8 (by omega) (by omega))))
      refine ⟨_, f71 _, rfl, ?_⟩
      (try (push_cast (maxSteps := 1000000)))
      refine BrP.mk (fun h => ?_) (fun h => ?_) <;> try (push_cast (maxSteps := 1000000) [h])
      · rw [if_pos (of_decide_eq_true h)] at hc
        exact ⟨congrArg (fun x => ((x.1 : Nat) : Int)) hc, congrArg (fun x => x.2) hc⟩
      · rw [if_neg (of_decide_eq_false h)] at hc
        refine ⟨_, f72 _ hnk, rfl, ?_⟩
        (try (push_cast (maxSteps := 1000000)))
        cases hvb : validB l[k].name with
        | false =>
          rw [hvb, if_pos rfl] at hc
          (try (push_cast (maxSteps := 1000000) [hvb]))
          exact ⟨congrArg (fun x => ((x.1 : Nat) : Int)) hc, congrArg (fun x => x.2) hc⟩
        | true =>
          rw [hvb, if_neg (by simp)] at hc
          (try (push_cast (maxSteps := 1000000) [hvb]))
          refine BrP.mk (fun h => ?_) (fun h => ?_) <;> try (push_cast (maxSteps := 1000000) [h])
          · rw [if_pos h] at hc
            exact ⟨congrArg (fun x => ((x.1 : Nat) : Int)) hc, congrArg (fun x => x.2) hc⟩
          · rw [if_neg (by simp [h])] at hc
            (repeat ((with_reducible refine And.intro ?_ ?_); focus (first | trivial | omega | exact inK64 (by omega) (by omega) | exact inKu8 (by omega) (by omega))))
            refine ⟨(k + 1, seen ++ [l[k].name]), ⟨by simp only; omega, hc⟩, by simp only; omega, Le.st ?_⟩
            (try (push_cast (maxSteps := 1000000)))
            exact mset_truS _ _ h
    · have hd : decide ((k : Int) < (l.length : Int)) = false := decide_eq_false (by omega)
      rw [List.drop_eq_nil_of_le (by omega)] at hc; simp only [chkF] at hc
      (try (push_cast (maxSteps := 1000000) [hd]))
      have : k = l.length := by omega
      subst this
      exact ⟨congrArg (fun x => ((x.1 : Nat) : Int)) hc, congrArg (fun x => x.2) hc⟩

end Go.LS.Tryd
namespace Go.LS.Tryd
open Go Go.LS
set_option maxRecDepth 100000
set_option linter.unusedSimpArgs false
set_option linter.unusedVariables false

theorem f86 (l : List Int) (hl : okLen l) : Spec V 137 [.c (.d (.sl 1 (l.map eI)))] (i2 .i64 (orF l)) := by
  (refine Spec.of_go (L := fun | 0 => some [0] | 1 => some [0, 3] | 2 => some [3, 6, 7, 8] | 3 => some [3, 6, 7, 8, 9] | 4 => some [3, 5, 6, 7, 8] | 5 => some [3, 5, 6, 7, 8, 14] | 6 => some [2] | 7 => some [3, 6, 7, 8] | 8 => some [2] | _ => none) 1000 Go.Proofs.Tryd.func137 rfl rfl ⟨Nat.le_of_ble_eq_true rfl, rfl⟩ rfl ?_; unfold Go.Proofs.Tryd.f137; push_cast (maxSteps := 1000000))
  refine LoopK.s1 (α := Nat) [8] (fun k => [i2 .i64 k]) (fun k => k ≤ l.length ∧ orF (l.drop k) = orF l) (fun k => l.length - k) 1000 0 ⟨by omega, rfl⟩ (by (try (push_cast (maxSteps := 1000000)))) ?_
  rintro k ⟨hk, hc⟩
  by_cases hlt : k < l.length
  · have hv := List.getElem?_eq_getElem hlt; have hd : decide ((k : Int) < (l.length : Int)) = true := decide_eq_true (by omega)
    rw [drop_cons hv] at hc; simp only [orF] at hc
    (try (push_cast (maxSteps := 1000000) [hd, getD_map hv]))
    (repeat ((with_reducible refine And.intro ?_ ?_); focus (first | trivial | omega | exact inK64 (by omega) (by omega) | exact inKu8 (by omega) (by omega))))
    refine BrP.mk (fun h => ?_) (fun h => ?_) <;> try (push_cast (maxSteps := 1000000) [h])
    · rw [if_neg (by simpa using h)] at hc
      exact hc
    · rw [if_pos (by simpa using h)] at hc
      (repeat ((with_reducible refine And.intro ?_ ?_); focus (first | trivial | omega | exact inK64 (by omega) (by omega) | exact inKu8 (by omega) (by omega))))
      refine ⟨k + 1, ⟨by omega, hc⟩, by omega, Le.st ?_⟩
      (try (push_cast (maxSteps := 1000000)))
  · have hd : decide ((k : Int) < (l.length : Int)) = false := decide_eq_false (by omega)
    rw [List.drop_eq_nil_of_le (by omega)] at hc; simp only [orF] at hc
    (try (push_cast (maxSteps := 1000000) [hd]))
    exact hc
theorem f75 (a b : Vl) : Spec V 129 [.ag ((eV a).map .d), .ag ((eV b).map .d)] (i2 .i64 (cmpF a b)) := by
  (refine Spec.of_go (L := fun | 0 => some [2, 3] | 1 => some [2, 3, 5] | 2 => some [3, 5, 23] | 3 => some [4] | 4 => some [34] | 5 => some [4] | 6 => some [4] | _ => none) 1000 Go.Proofs.Tryd.func129 rfl rfl ⟨Nat.le_of_ble_eq_true rfl, rfl⟩ rfl ?_; unfold Go.Proofs.Tryd.f129; push_cast (maxSteps := 1000000))
  (refine DrawK.of (.take 0 (.take 1 (.take 2 (.take 3 (.take 5 (.take 6 (.take 7 (.take 8 (.take 10 (.take 11 (.take 12 (.take 13 (.one 4 (.one 9 (.one 14 (.one 15 (.one 16 (.take 17 .done)))))))))))))))))) 1000 (by decide +kernel) ?_; try (push_cast (maxSteps := 1000000)))
  refine ⟨_, f87 _ _, rfl, ?_⟩
  (try (push_cast (maxSteps := 1000000)))
  refine ⟨_, f88 _ _, rfl, ?_⟩
  (try (push_cast (maxSteps := 1000000)))
  refine ⟨_, f89 _ _, rfl, ?_⟩
  (try (push_cast (maxSteps := 1000000)))
  (repeat ((with_reducible refine And.intro ?_ ?_); focus (first | trivial | omega | exact inK64 (by omega) (by omega) | exact inKu8 (by omega) (by omega))))
  refine ⟨_, f86 [cmpI a.k b.k, cmpS a.s b.s, cmpI a.n b.n] (by simp [okLen]), rfl, ?_⟩
  (try (push_cast (maxSteps := 1000000)))
  (repeat' (first | (simp (config := { maxSteps := 1000000 }) only [push_cast, Nat.reduceBEq, Nat.reduceBNe, Nat.reduceAdd, Nat.reduceSub, Nat.reduceMul, Nat.reduceLT, Nat.reduceLeDiff, Nat.reduceEqDiff, Nat.blt_eq, Int.reduceLT, Int.reduceLE, Int.reduceEq, Int.reduceToNat, Int.reduceNeg, Int.reduceAdd, Int.reduceSub, Int.reduceMul, Int.reducePow, reduceIte, decide_true, decide_false, reduceCtorEq]) | (refine BrP.mk (fun h => ?_) (fun h => ?_) <;> (try simp only [h]))))
  all_goals simp_all [cmpF]

theorem f59 (l m : List Vl) (hl : okLen l) (hm : okLen m) : Spec V 29 [.c (.d (.sl 4 (l.map eRV))), .c (.d (.sl 4 (m.map eRV)))] (b2 (decide (l.length = m.length) && sameL l m)) := by
  (refine Spec.of_go (L := fun | 0 => some [0, 1] | 1 => some [0, 1, 10] | 2 => some [4] | 3 => some [0, 1, 12, 13] | 4 => some [0, 1, 12, 13, 14] | 5 => some [0, 1, 5, 12, 13] | 6 => some [0, 1, 12, 13, 24] | 7 => some [4] | 8 => some [0, 1, 12, 13] | 9 => some [4] | _ => none) 1000 Go.Proofs.Tryd.func29 rfl rfl ⟨Nat.le_of_ble_eq_true rfl, rfl⟩ rfl ?_; unfold Go.Proofs.Tryd.f29; push_cast (maxSteps := 1000000))
  refine BrP.mk (fun h => ?_) (fun h => ?_) <;> try (push_cast (maxSteps := 1000000) [h])
  · have : ¬ l.length = m.length := by simp at h; omega
    simp [this]
  · have hlm : l.length = m.length := by simp at h; omega
    simp only [hlm, decide_true, Bool.true_and]
    refine LoopK.s1 (α := Nat) [13] (fun k => [i2 .i64 k]) (fun k => k ≤ l.length ∧ sameL (l.drop k) (m.drop k) = sameL l m) (fun k => l.length - k) 1000 0 ⟨by omega, rfl⟩ (by (try (push_cast (maxSteps := 1000000)))) ?_
    rintro k ⟨hk, hc⟩
    by_cases hlt : k < l.length
    · have hv := List.getElem?_eq_getElem hlt
      have hlt2 : k < m.length := by omega
      have hv2 := List.getElem?_eq_getElem hlt2
      have hd : decide ((k : Int) < (m.length : Int)) = true := decide_eq_true (by omega)
      rw [drop_cons hv, drop_cons hv2] at hc; simp only [sameL] at hc
      (try (push_cast (maxSteps := 1000000) [hd, getD_map hv, getD_map hv2]))
      (refine DrawK.of (.take 0 (.take 1 (.take 2 (.take 3 (.take 4 (.take 5 (.take 6 (.take 7 (.take 8 .done))))))))) 1000 (by decide +kernel) ?_; try (push_cast (maxSteps := 1000000)))
      (try (push_cast (maxSteps := 1000000) [hd, getD_map hv, getD_map hv2]))
      (repeat ((with_reducible refine And.intro ?_ ?_); focus (first | trivial | omega | exact inK64 (by omega) (by omega) | exact inKu8 (by omega) (by omega))))
      have hf : (decide (l[k].k = m[k].k) && (decide (l[k].s = m[k].s) && (decide (l[k].n = m[k].n) && decide (bi l[k].b = bi m[k].b)))) = sameV l[k] m[k] := rfl
      rw [hf]
      refine BrP.mk (fun h => ?_) (fun h => ?_) <;> try (push_cast (maxSteps := 1000000) [h])
      · rw [if_pos (by simpa using h)] at hc
        exact hc
      · rw [if_neg (by simpa using h)] at hc
        (repeat ((with_reducible refine And.intro ?_ ?_); focus (first | trivial | omega | exact inK64 (by omega) (by omega) | exact inKu8 (by omega) (by omega))))
        refine ⟨k + 1, ⟨by omega, hc⟩, by omega, Le.st ?_⟩
        (try (push_cast (maxSteps := 1000000)))
    · have hd : decide ((k : Int) < (m.length : Int)) = false := decide_eq_false (by omega)
      rw [List.drop_eq_nil_of_le (by omega)] at hc; simp only [sameL] at hc
      (try (push_cast (maxSteps := 1000000) [hd]))
      exact hc
end Go.LS.Tryd
namespace Go.LS.Tryd
open Go Go.LS
set_option maxRecDepth 100000
set_option linter.unusedSimpArgs false
set_option linter.unusedVariables false

end Go.LS.Tryd
namespace Go.LS.Tryd
open Go Go.LS
set_option maxRecDepth 100000
set_option linter.unusedSimpArgs false
set_option linter.unusedVariables false

end Go.LS.Tryd
namespace Go.LS.Tryd
open Go Go.LS
set_option maxRecDepth 100000
set_option linter.unusedSimpArgs false
set_option linter.unusedVariables false

end Go.LS.Tryd
namespace Go.LS.Tryd
open Go Go.LS
set_option maxRecDepth 100000
set_option linter.unusedSimpArgs false
set_option linter.unusedVariables false

theorem f50 (l : List Cl) (hl : okCl l) : Spec V 67 [.c (.d (.sl 3 (l.map eRC)))] (.tu [i2 .i64 ((checkC l).1 : Int), i2 .i64 (checkC l).2]) := by
  obtain ⟨hl1, hl2⟩ := hl
  (refine Spec.of_go (L := fun | 0 => some [0] | 1 => some [0, 8] | 2 => some [2, 3] | 3 => some [0, 9, 10, 11] | 4 => some [0, 9, 10, 11, 12] | 5 => some [0, 4, 5, 9, 10, 11] | 6 => some [0, 4, 5, 9, 10, 11, 23] | 7 => some [2, 3] | 8 => some [0, 4, 5, 9, 10, 11, 31] | 9 => some [2, 3] | 10 => some [0, 4, 9, 10, 11, 40] | 11 => some [2, 3] | 12 => some [0, 9, 10, 11] | 13 => some [2, 3] | _ => none) 1000 Go.Proofs.Tryd.func67 rfl rfl ⟨Nat.le_of_ble_eq_true rfl, rfl⟩ rfl ?_; unfold Go.Proofs.Tryd.f67; push_cast (maxSteps := 1000000))
  refine BrP.mk (fun h => ?_) (fun h => ?_) <;> try (push_cast (maxSteps := 1000000) [h])
  · have h' : l.length = 0 := by simp at h; simp [h]
    simp [checkC, h']
  · have h' : ¬ l.length = 0 := by simp at h; simpa using h
    simp only [checkC, if_neg h']
    refine LoopK.s1 (α := Nat) [11] (fun k => [i2 .i64 k]) (fun k => k ≤ l.length ∧ chkF ((l.take k).map (·.name)) (l.drop k) k = chkF [] l 0) (fun k => l.length - k) 1000 0 ⟨by omega, rfl⟩ (by (try (push_cast (maxSteps := 1000000)))) ?_
    rintro k ⟨hk, hc⟩
    by_cases hlt : k < l.length
    · have hv := List.getElem?_eq_getElem hlt; have hd : decide ((k : Int) < (l.length : Int)) = true := decide_eq_true (by omega)
      rw [drop_cons hv] at hc
      simp only [chkF] at hc
      have hkind := word_kind l[k].kind
      (try (push_cast (maxSteps := 1000000) [hd, getD_map hv]))
      (repeat ((with_reducible refine And.intro ?_ ?_); focus (first | trivial | omega | exact inK64 (by omega) (by omega) | exact inKu8 (by omega) (by omega))))
      refine BrP.mk (fun h => ?_) (fun h => ?_) <;> try (push_cast (maxSteps := 1000000) [h])
      · have h' : l[k].kind < 1 := by simpa using h
        rw [if_pos (hkind.2 (.inl h'))] at hc
        simp [← hc]
      · have h1' : ¬ l[k].kind < 1 := by simpa using h
        refine BrP.mk (fun h => ?_) (fun h => ?_) <;> try (push_cast (maxSteps := 1000000) [h])
        · have h' : 3 < l[k].kind := by simpa using h
          rw [if_pos (hkind.2 (.inr h'))] at hc
          simp [← hc]
        · have h2' : ¬ 3 < l[k].kind := by simpa using h
          rw [if_neg (by rw [hkind]; omega)] at hc
          (refine DrawK.of (.take 0 (.take 1 (.take 3 (.take 4 (.take 5 (.one 2 (.take 6 .done))))))) 1000 (by decide +kernel) ?_; try (push_cast (maxSteps := 1000000)))
          refine ⟨_, f54 l[k].name (hl2 _ (List.getElem_mem hlt)), rfl, ?_⟩
          (try (push_cast (maxSteps := 1000000)))
          have hw := valid_whole l[k].name
          have hwl := whole_le l[k].name
          refine BrP.mk (fun h => ?_) (fun h => ?_) <;> try (push_cast (maxSteps := 1000000) [h])
          · have h' : validB l[k].name = false := by rw [hw]; simp at h ⊢; omega
            rw [if_pos h'] at hc
            simp [← hc]
          · have h' : ¬ validB l[k].name = false := by rw [hw]; simp at h ⊢; omega
            rw [if_neg h'] at hc
            (refine DrawK.of (.take 0 (.take 1 (.take 2 (.take 4 (.take 5 (.one 3 (.one 6 (.take 7 .done)))))))) 1000 (by decide +kernel) ?_; try (push_cast (maxSteps := 1000000)))
            (repeat ((with_reducible refine And.intro ?_ ?_); focus (first | trivial | omega | exact inK64 (by omega) (by omega) | exact inKu8 (by omega) (by omega))))
            have e1 : ((l.map eRC).take k).drop 0 = (l.take k).map eRC := by rw [List.drop_zero, List.map_take]
            have hS := f56 (l.take k) (by simp only [okLen, List.length_take]; omega)
            have e2 : ((l.take k).map fun c => eS c.name) = ((l.take k).map (·.name)).map eS := by rw [List.map_map]; rfl
            rw [e2, show (l.take k).map eRC = (l.map eRC).take k from List.map_take] at hS
            refine ⟨_, hS, rfl, ?_⟩
            (try (push_cast (maxSteps := 1000000)))
            refine ⟨_, f55 ((l.take k).map (·.name)) l[k].name (by simp only [okLen, List.length_map, List.length_take]; omega), rfl, ?_⟩
            (try (push_cast (maxSteps := 1000000)))
            have hm := atF_memB l[k].name ((l.take k).map (·.name))
            simp only [hm]
            refine BrP.mk (fun h => ?_) (fun h => ?_) <;> try (push_cast (maxSteps := 1000000) [h])
            · rw [if_pos h] at hc
              simp [← hc]
            · rw [if_neg (by rw [h]; decide)] at hc
              (repeat ((with_reducible refine And.intro ?_ ?_); focus (first | trivial | omega | exact inK64 (by omega) (by omega) | exact inKu8 (by omega) (by omega))))
              refine ⟨k + 1, ⟨by omega, ?_⟩, by omega, Le.st ?_⟩
              · rw [mapTake hv]; exact hc
              · (try (push_cast (maxSteps := 1000000)))
    · have hd : decide ((k : Int) < (l.length : Int)) = false := decide_eq_false (by omega)
      rw [List.drop_eq_nil_of_le (by omega)] at hc
      simp only [chkF] at hc
      have : k = l.length := by omega
      subst this
      (try (push_cast (maxSteps := 1000000) [hd]))
      rw [← hc]
      simp

theorem f21 (v : Vl) (hv : okVl v) : Spec V 110 [.ag ((eRV v).map .d)] (b2 (rightF v)) := by
  (refine Spec.of_go (L := fun | 0 => some [1] | 1 => some [1, 40] | 2 => some [2] | 3 => some [2] | _ => none) 1000 Go.Proofs.Tryd.func110 rfl rfl ⟨Nat.le_of_ble_eq_true rfl, rfl⟩ rfl ?_; unfold Go.Proofs.Tryd.f110; push_cast (maxSteps := 1000000))
  (repeat' (first | (simp (config := { maxSteps := 1000000 }) only [push_cast, Nat.reduceBEq, Nat.reduceBNe, Nat.reduceAdd, Nat.reduceSub, Nat.reduceMul, Nat.reduceLT, Nat.reduceLeDiff, Nat.reduceEqDiff, Nat.blt_eq, Int.reduceLT, Int.reduceLE, Int.reduceEq, Int.reduceToNat, Int.reduceNeg, Int.reduceAdd, Int.reduceSub, Int.reduceMul, Int.reducePow, reduceIte, decide_true, decide_false, reduceCtorEq]) | (refine BrP.mk (fun h => ?_) (fun h => ?_) <;> (try simp only [h]))))
  all_goals try ((refine DrawK.of (.take 0 (.take 1 (.take 3 (.take 4 (.take 5 (.one 2 (.take 6 (.take 7 .done)))))))) 1000 (by decide +kernel) ?_; try (push_cast (maxSteps := 1000000))); refine ⟨_, f54 v.s hv, rfl, ?_⟩; (try (push_cast (maxSteps := 1000000))))
  all_goals (try simp only [whole_dec, bi_zero] at *)
  all_goals (try simp only [Bool.not_eq_true', Bool.not_eq_false', Bool.not_eq_eq_eq_not, Bool.not_true, Bool.not_false, Bool.not_not, decide_eq_true_eq, decide_eq_false_iff_not] at *)
  all_goals (rcases (show v.k < 0 ∨ 3 < v.k ∨ v.k = 0 ∨ v.k = 1 ∨ v.k = 2 ∨ v.k = 3 by omega) with hk | hk | hk | hk | hk | hk)
  all_goals (try (exfalso; omega))
  all_goals (have k0 : v.k = 0 ∨ v.k ≠ 0 := by omega)
  all_goals (have k1 : v.k = 1 ∨ v.k ≠ 1 := by omega)
  all_goals (have k2 : v.k = 2 ∨ v.k ≠ 2 := by omega)
  all_goals (have k3 : v.k = 3 ∨ v.k ≠ 3 := by omega)
  all_goals (simp_all [rightF, valid_empty])
  all_goals (rw [if_neg (by omega), if_neg (by omega), if_neg (by omega)]; intro; omega)
end Go.LS.Tryd
namespace Go.LS.Tryd
open Go Go.LS
set_option maxRecDepth 100000
set_option linter.unusedSimpArgs false
set_option linter.unusedVariables false

end Go.LS.Tryd
namespace Go.LS.Tryd
open Go Go.LS
set_option maxRecDepth 100000
set_option linter.unusedSimpArgs false
set_option linter.unusedVariables false

end Go.LS.Tryd
namespace Go.LS.Tryd
open Go Go.LS
set_option maxRecDepth 100000
set_option linter.unusedSimpArgs false
set_option linter.unusedVariables false

end Go.LS.Tryd
namespace Go.LS.Tryd
open Go Go.LS
set_option maxRecDepth 100000
set_option linter.unusedSimpArgs false
set_option linter.unusedVariables false

theorem f19 (rows : List (List Vl)) (hl : okLen rows) (hr : ∀ r ∈ rows, okLen r) : Spec V 109 [.c (.d (.sl 1 (rows.map eR)))] (b2 (smallF rows)) := by
  (refine Spec.of_go (L := fun | 0 => some [0] | 1 => some [0, 7, 8, 9] | 2 => some [0, 7, 8, 9, 10] | 3 => some [0, 4, 7, 8, 9] | 4 => some [0, 4, 7, 8, 9, 15] | 5 => some [2] | 6 => some [0, 7, 8, 9, 16, 17, 18] | 7 => some [0, 7, 8, 9, 16, 17, 18, 19] | 8 => some [0, 6, 7, 8, 9, 16, 17, 18] | 9 => some [0, 7, 8, 9, 16, 17, 18, 25] | 10 => some [2] | 11 => some [0, 7, 8, 9, 16, 17, 18] | 12 => some [0, 7, 8, 9] | 13 => some [2] | _ => none) 1000 Go.Proofs.Tryd.func109 rfl rfl ⟨Nat.le_of_ble_eq_true rfl, rfl⟩ rfl ?_; unfold Go.Proofs.Tryd.f109; push_cast (maxSteps := 1000000))
  refine LoopK.s1 (α := Nat) [9] (fun k => [i2 .i64 k]) (fun k => k ≤ rows.length ∧ (rows.drop k).all okRow = rows.all okRow) (fun k => rows.length - k) 1000 0 ⟨by omega, rfl⟩ (by (try (push_cast (maxSteps := 1000000)))) ?_
  rintro k ⟨hk, hc⟩
  by_cases hlt : k < rows.length
  · have hv := List.getElem?_eq_getElem hlt; have hd : decide ((k : Int) < (rows.length : Int)) = true := decide_eq_true (by omega)
    rw [drop_cons hv] at hc
    simp only [List.all_cons] at hc
    have hF : okRow rows[k] = false → smallF rows = false := fun h0 => by
      rw [h0, Bool.false_and] at hc
      simp [smallF, ← hc]
    have hrk := hr _ (List.getElem_mem hlt)
    generalize hrow : rows[k] = r at *
    (try (push_cast (maxSteps := 1000000) [hd, getD_map hv]))
    ((repeat' (with_reducible refine And.intro ?_ ?_)) <;> try (first | trivial | omega | exact inK64 (by omega) (by omega) | exact inKu8 (by omega) (by omega) | (simp only [maxLen]; omega) | exact .inl trivial | exact .inl rfl))
    refine BrP.mk (fun h => ?_) (fun h => ?_) <;> try (push_cast (maxSteps := 1000000) [h])
    · exact (hF (by simp at h; simp [okRow]; intro h'; omega)).symm
    · have h12 : r.length ≤ 12 := by simp at h; omega
      refine LoopK.s1 (α := Nat) [18] (fun j => [i2 .i64 j]) (fun j => j ≤ r.length ∧ ((r.drop j).all fun v => decide (v.s.size ≤ 40)) = r.all fun v => decide (v.s.size ≤ 40)) (fun j => r.length - j) 1000 0 ⟨by omega, rfl⟩ (by (try (push_cast (maxSteps := 1000000)))) ?_
      rintro j ⟨hj, hc2⟩
      by_cases hlt2 : j < r.length
      · have hv2 := List.getElem?_eq_getElem hlt2
        have hd2 : decide ((j : Int) < (r.length : Int)) = true := decide_eq_true (by omega)
        rw [drop_cons hv2] at hc2
        simp only [List.all_cons] at hc2
        (try (push_cast (maxSteps := 1000000) [hd2, getD_map hv2]))
        ((repeat' (with_reducible refine And.intro ?_ ?_)) <;> try (first | trivial | omega | exact inK64 (by omega) (by omega) | exact inKu8 (by omega) (by omega) | (simp only [maxLen]; omega) | exact .inl trivial | exact .inl rfl))
        refine BrP.mk (fun h => ?_) (fun h => ?_) <;> try (push_cast (maxSteps := 1000000) [h])
        · have h0 : decide (r[j].s.size ≤ 40) = false := by simp at h ⊢; omega
          rw [h0, Bool.false_and] at hc2
          exact (hF (by simp only [okRow, ← hc2, Bool.and_false])).symm
        · have h0 : decide (r[j].s.size ≤ 40) = true := by simp at h ⊢; omega
          rw [h0, Bool.true_and] at hc2
          ((repeat' (with_reducible refine And.intro ?_ ?_)) <;> try (first | trivial | omega | exact inK64 (by omega) (by omega) | exact inKu8 (by omega) (by omega) | (simp only [maxLen]; omega) | exact .inl trivial | exact .inl rfl))
          refine ⟨j + 1, ⟨by omega, hc2⟩, by omega, Le.st ?_⟩
          (try (push_cast (maxSteps := 1000000)))
      · have hd2 : decide ((j : Int) < (r.length : Int)) = false := decide_eq_false (by omega)
        rw [List.drop_eq_nil_of_le (by omega)] at hc2
        (try (push_cast (maxSteps := 1000000) [hd2]))
        ((repeat' (with_reducible refine And.intro ?_ ?_)) <;> try (first | trivial | omega | exact inK64 (by omega) (by omega) | exact inKu8 (by omega) (by omega) | (simp only [maxLen]; omega) | exact .inl trivial | exact .inl rfl))
        have h0 : okRow r = true := by simp only [okRow, ← hc2, decide_eq_true h12, List.all_nil, Bool.and_self]
        rw [h0, Bool.true_and] at hc
        refine ⟨k + 1, ⟨by omega, hc⟩, by omega, Le.st ?_⟩
        (try (push_cast (maxSteps := 1000000)))
  · have hd : decide ((k : Int) < (rows.length : Int)) = false := decide_eq_false (by omega)
    rw [List.drop_eq_nil_of_le (by omega)] at hc
    (try (push_cast (maxSteps := 1000000) [hd]))
    simp only [smallF, ← hc, List.all_nil, Bool.true_and]
    rw [Bool.eq_iff_iff]; simp; omega
end Go.LS.Tryd
namespace Go.LS.Tryd
open Go Go.LS
set_option maxRecDepth 100000
set_option linter.unusedSimpArgs false
set_option linter.unusedVariables false

end Go.LS.Tryd
namespace Go.LS.Tryd
open Go Go.LS
set_option maxRecDepth 100000
set_option linter.unusedSimpArgs false
set_option linter.unusedVariables false

theorem f60 (l m : List Vl) (hl : okLen l) (hm : okLen m) : Spec V 73 [.c (.d (.sl 4 (l.map eV))), .c (.d (.sl 4 (m.map eV)))] (b2 (decide (l.length = m.length) && sameL l m)) := by
  (refine Spec.of_go (L := fun | 0 => some [0, 1] | 1 => some [0, 1, 10] | 2 => some [4] | 3 => some [0, 1, 12, 13] | 4 => some [0, 1, 12, 13, 14] | 5 => some [0, 1, 5, 12, 13] | 6 => some [0, 1, 12, 13, 24] | 7 => some [4] | 8 => some [0, 1, 12, 13] | 9 => some [4] | _ => none) 1000 Go.Proofs.Tryd.func73 rfl rfl ⟨Nat.le_of_ble_eq_true rfl, rfl⟩ rfl ?_; unfold Go.Proofs.Tryd.f73; push_cast (maxSteps := 1000000))
  refine BrP.mk (fun h => ?_) (fun h => ?_) <;> try (push_cast (maxSteps := 1000000) [h])
  · have : ¬ l.length = m.length := by simp at h; omega
    simp [this]
  · have hlm : l.length = m.length := by simp at h; omega
    simp only [hlm, decide_true, Bool.true_and]
    refine LoopK.s1 (α := Nat) [13] (fun k => [i2 .i64 k]) (fun k => k ≤ l.length ∧ sameL (l.drop k) (m.drop k) = sameL l m) (fun k => l.length - k) 1000 0 ⟨by omega, rfl⟩ (by (try (push_cast (maxSteps := 1000000)))) ?_
    rintro k ⟨hk, hc⟩
    by_cases hlt : k < l.length
    · have hv := List.getElem?_eq_getElem hlt
      have hlt2 : k < m.length := by omega
      have hv2 := List.getElem?_eq_getElem hlt2
      have hd : decide ((k : Int) < (m.length : Int)) = true := decide_eq_true (by omega)
      rw [drop_cons hv, drop_cons hv2] at hc; simp only [sameL] at hc
      (try (push_cast (maxSteps := 1000000) [hd, getD_map hv, getD_map hv2]))
      (refine DrawK.of (.take 0 (.take 1 (.take 2 (.take 3 (.take 4 (.take 5 (.take 6 (.take 7 (.take 8 .done))))))))) 1000 (by decide +kernel) ?_; try (push_cast (maxSteps := 1000000)))
      (try (push_cast (maxSteps := 1000000) [hd, getD_map hv, getD_map hv2]))
      (repeat ((with_reducible refine And.intro ?_ ?_); focus (first | trivial | omega | exact inK64 (by omega) (by omega) | exact inKu8 (by omega) (by omega))))
      have hf := sameV_p l[k] m[k]
      rw [hf]
      refine BrP.mk (fun h => ?_) (fun h => ?_) <;> try (push_cast (maxSteps := 1000000) [h])
      · rw [if_pos (by simpa using h)] at hc
        exact hc
      · rw [if_neg (by simpa using h)] at hc
        (repeat ((with_reducible refine And.intro ?_ ?_); focus (first | trivial | omega | exact inK64 (by omega) (by omega) | exact inKu8 (by omega) (by omega))))
        refine ⟨k + 1, ⟨by omega, hc⟩, by omega, Le.st ?_⟩
        (try (push_cast (maxSteps := 1000000)))
    · have hd : decide ((k : Int) < (m.length : Int)) = false := decide_eq_false (by omega)
      rw [List.drop_eq_nil_of_le (by omega)] at hc; simp only [sameL] at hc
      (try (push_cast (maxSteps := 1000000) [hd]))
      exact hc

end Go.LS.Tryd
namespace Go.LS.Tryd
open Go Go.LS
set_option maxRecDepth 100000
set_option linter.unusedSimpArgs false
set_option linter.unusedVariables false

theorem f58 (r : List Vl) (hr : okLen r) : Spec V 72 [.c (.d (.sl 4 (r.map eV)))] (.c (.d (.sl 4 (r.map eV)))) := by
  (refine Spec.of_go (L := fun | 0 => some [0] | 1 => some [0, 4] | 2 => some [2] | 3 => some [2] | _ => none) 1000 Go.Proofs.Tryd.func72 rfl rfl ⟨Nat.le_of_ble_eq_true rfl, rfl⟩ rfl ?_; unfold Go.Proofs.Tryd.f72; push_cast (maxSteps := 1000000))
  intro b hb
  (try (push_cast (maxSteps := 1000000)))
  refine BrP.mk (fun h => ?_) (fun h => ?_) <;> try (push_cast (maxSteps := 1000000) [h])
  · have := hb h
    simp at this
    simp [this]
  · ((repeat' (with_reducible refine And.intro ?_ ?_)) <;> try (first | trivial | omega | exact inK64 (by omega) (by omega) | exact inKu8 (by omega) (by omega) | (simp only [maxLen]; omega) | exact .inl trivial | exact .inl rfl))
end Go.LS.Tryd
