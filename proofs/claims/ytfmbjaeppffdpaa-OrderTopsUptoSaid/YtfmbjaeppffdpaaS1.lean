/- Contracts of the functions of the seat, one by one (part S1); no condition but those that each bears. -/
import Derived.Test.YtfmbjaeppffdpaaPa
import Derived.Test.YtfmbjaeppffdpaaE
namespace Go.LS.Try
open Go Go.LS
set_option maxRecDepth 100000
set_option linter.unusedSimpArgs false
set_option linter.unusedVariables false

theorem f71 (k : Int) : Spec V 71 [i2 .i64 k] (s2 (wordF k)) := by
  (refine Spec.of_go (L := fun | 0 => some [0] | 1 => some [3] | 2 => some [3, 4] | 3 => some [2] | 4 => some [3, 6] | 5 => some [2] | 6 => some [8] | 7 => some [2] | 8 => some [2] | _ => none) 1000 Go.Proofs.Try.func71 rfl rfl ⟨Nat.le_of_ble_eq_true rfl, rfl⟩ rfl ?_; unfold Go.Proofs.Try.f71; simp (config := { maxSteps := 1000000 }) only [push_cast, Nat.reduceBEq, Nat.reduceBNe, Nat.reduceAdd, Nat.reduceSub, Nat.reduceMul, Nat.reduceLT, Nat.reduceLeDiff, Nat.reduceEqDiff, Nat.blt_eq, Int.reduceLT, Int.reduceLE, Int.reduceEq, Int.reduceToNat, Int.reduceNeg, Int.reduceAdd, Int.reduceSub, Int.reduceMul, Int.reducePow, reduceIte, decide_true, decide_false, reduceCtorEq])
  (repeat' (first | (simp (config := { maxSteps := 1000000 }) only [push_cast, Nat.reduceBEq, Nat.reduceBNe, Nat.reduceAdd, Nat.reduceSub, Nat.reduceMul, Nat.reduceLT, Nat.reduceLeDiff, Nat.reduceEqDiff, Nat.blt_eq, Int.reduceLT, Int.reduceLE, Int.reduceEq, Int.reduceToNat, Int.reduceNeg, Int.reduceAdd, Int.reduceSub, Int.reduceMul, Int.reducePow, reduceIte, decide_true, decide_false, reduceCtorEq]) | (refine BrP.mk (fun h => ?_) (fun h => ?_) <;> (try simp only [h]))))
  all_goals simp_all [wordF, lit] <;> rfl
theorem f98 (k : Int) : Spec V 98 [i2 .i64 k] (b2 false) := by
  (refine Spec.of_go (L := fun | 0 => some [0] | 1 => some [2] | _ => none) 1000 Go.Proofs.Try.func98 rfl rfl ⟨Nat.le_of_ble_eq_true rfl, rfl⟩ rfl ?_; unfold Go.Proofs.Try.f98; simp (config := { maxSteps := 1000000 }) only [push_cast, Nat.reduceBEq, Nat.reduceBNe, Nat.reduceAdd, Nat.reduceSub, Nat.reduceMul, Nat.reduceLT, Nat.reduceLeDiff, Nat.reduceEqDiff, Nat.blt_eq, Int.reduceLT, Int.reduceLE, Int.reduceEq, Int.reduceToNat, Int.reduceNeg, Int.reduceAdd, Int.reduceSub, Int.reduceMul, Int.reducePow, reduceIte, decide_true, decide_false, reduceCtorEq])
  all_goals simp
theorem f99 (k : ByteArray) : Spec V 99 [s2 k] (b2 false) := by
  (refine Spec.of_go (L := fun | 0 => some [0] | 1 => some [2] | _ => none) 1000 Go.Proofs.Try.func99 rfl rfl ⟨Nat.le_of_ble_eq_true rfl, rfl⟩ rfl ?_; unfold Go.Proofs.Try.f99; simp (config := { maxSteps := 1000000 }) only [push_cast, Nat.reduceBEq, Nat.reduceBNe, Nat.reduceAdd, Nat.reduceSub, Nat.reduceMul, Nat.reduceLT, Nat.reduceLeDiff, Nat.reduceEqDiff, Nat.blt_eq, Int.reduceLT, Int.reduceLE, Int.reduceEq, Int.reduceToNat, Int.reduceNeg, Int.reduceAdd, Int.reduceSub, Int.reduceMul, Int.reducePow, reduceIte, decide_true, decide_false, reduceCtorEq])
  all_goals simp
theorem f100 (k : Int) : Spec V 100 [i2 .i64 k] (b2 false) := by
  (refine Spec.of_go (L := fun | 0 => some [0] | 1 => some [2] | _ => none) 1000 Go.Proofs.Try.func100 rfl rfl ⟨Nat.le_of_ble_eq_true rfl, rfl⟩ rfl ?_; unfold Go.Proofs.Try.f100; simp (config := { maxSteps := 1000000 }) only [push_cast, Nat.reduceBEq, Nat.reduceBNe, Nat.reduceAdd, Nat.reduceSub, Nat.reduceMul, Nat.reduceLT, Nat.reduceLeDiff, Nat.reduceEqDiff, Nat.blt_eq, Int.reduceLT, Int.reduceLE, Int.reduceEq, Int.reduceToNat, Int.reduceNeg, Int.reduceAdd, Int.reduceSub, Int.reduceMul, Int.reducePow, reduceIte, decide_true, decide_false, reduceCtorEq])
  all_goals simp
theorem f87 (a b : Int) : Spec V 87 [i2 .i64 a, i2 .i64 b] (i2 .i64 (cmpI a b)) := by
  (refine Spec.of_go (L := fun | 0 => some [0, 1] | 1 => some [0, 1, 5] | 2 => some [0, 1, 5, 6] | 3 => some [0, 1, 6, 11] | 4 => some [12] | 5 => some [4] | 6 => some [4] | 7 => some [0, 1, 13] | 8 => some [4] | 9 => some [0, 1, 16] | 10 => some [4] | 11 => some [19] | 12 => some [4] | 13 => some [4] | _ => none) 1000 Go.Proofs.Try.func87 rfl rfl ⟨Nat.le_of_ble_eq_true rfl, rfl⟩ rfl ?_; unfold Go.Proofs.Try.f87; simp (config := { maxSteps := 1000000 }) only [push_cast, Nat.reduceBEq, Nat.reduceBNe, Nat.reduceAdd, Nat.reduceSub, Nat.reduceMul, Nat.reduceLT, Nat.reduceLeDiff, Nat.reduceEqDiff, Nat.blt_eq, Int.reduceLT, Int.reduceLE, Int.reduceEq, Int.reduceToNat, Int.reduceNeg, Int.reduceAdd, Int.reduceSub, Int.reduceMul, Int.reducePow, reduceIte, decide_true, decide_false, reduceCtorEq])
  (refine ⟨_, f98 _, rfl, ?_⟩; try (simp (config := { maxSteps := 1000000 }) only [push_cast, Nat.reduceBEq, Nat.reduceBNe, Nat.reduceAdd, Nat.reduceSub, Nat.reduceMul, Nat.reduceLT, Nat.reduceLeDiff, Nat.reduceEqDiff, Nat.blt_eq, Int.reduceLT, Int.reduceLE, Int.reduceEq, Int.reduceToNat, Int.reduceNeg, Int.reduceAdd, Int.reduceSub, Int.reduceMul, Int.reducePow, reduceIte, decide_true, decide_false, reduceCtorEq]))
  (refine ⟨_, f98 _, rfl, ?_⟩; try (simp (config := { maxSteps := 1000000 }) only [push_cast, Nat.reduceBEq, Nat.reduceBNe, Nat.reduceAdd, Nat.reduceSub, Nat.reduceMul, Nat.reduceLT, Nat.reduceLeDiff, Nat.reduceEqDiff, Nat.blt_eq, Int.reduceLT, Int.reduceLE, Int.reduceEq, Int.reduceToNat, Int.reduceNeg, Int.reduceAdd, Int.reduceSub, Int.reduceMul, Int.reducePow, reduceIte, decide_true, decide_false, reduceCtorEq]))
  (repeat' (first | (simp (config := { maxSteps := 1000000 }) only [push_cast, Nat.reduceBEq, Nat.reduceBNe, Nat.reduceAdd, Nat.reduceSub, Nat.reduceMul, Nat.reduceLT, Nat.reduceLeDiff, Nat.reduceEqDiff, Nat.blt_eq, Int.reduceLT, Int.reduceLE, Int.reduceEq, Int.reduceToNat, Int.reduceNeg, Int.reduceAdd, Int.reduceSub, Int.reduceMul, Int.reducePow, reduceIte, decide_true, decide_false, reduceCtorEq]) | (refine BrP.mk (fun h => ?_) (fun h => ?_) <;> (try simp only [h]))))
  all_goals (simp_all [cmpI] <;> omega)
theorem f89 (a b : Int) : Spec V 89 [i2 .i64 a, i2 .i64 b] (i2 .i64 (cmpI a b)) := by
  (refine Spec.of_go (L := fun | 0 => some [0, 1] | 1 => some [0, 1, 5] | 2 => some [0, 1, 5, 6] | 3 => some [0, 1, 6, 11] | 4 => some [12] | 5 => some [4] | 6 => some [4] | 7 => some [0, 1, 13] | 8 => some [4] | 9 => some [0, 1, 16] | 10 => some [4] | 11 => some [19] | 12 => some [4] | 13 => some [4] | _ => none) 1000 Go.Proofs.Try.func89 rfl rfl ⟨Nat.le_of_ble_eq_true rfl, rfl⟩ rfl ?_; unfold Go.Proofs.Try.f89; simp (config := { maxSteps := 1000000 }) only [push_cast, Nat.reduceBEq, Nat.reduceBNe, Nat.reduceAdd, Nat.reduceSub, Nat.reduceMul, Nat.reduceLT, Nat.reduceLeDiff, Nat.reduceEqDiff, Nat.blt_eq, Int.reduceLT, Int.reduceLE, Int.reduceEq, Int.reduceToNat, Int.reduceNeg, Int.reduceAdd, Int.reduceSub, Int.reduceMul, Int.reducePow, reduceIte, decide_true, decide_false, reduceCtorEq])
  (refine ⟨_, f100 _, rfl, ?_⟩; try (simp (config := { maxSteps := 1000000 }) only [push_cast, Nat.reduceBEq, Nat.reduceBNe, Nat.reduceAdd, Nat.reduceSub, Nat.reduceMul, Nat.reduceLT, Nat.reduceLeDiff, Nat.reduceEqDiff, Nat.blt_eq, Int.reduceLT, Int.reduceLE, Int.reduceEq, Int.reduceToNat, Int.reduceNeg, Int.reduceAdd, Int.reduceSub, Int.reduceMul, Int.reducePow, reduceIte, decide_true, decide_false, reduceCtorEq]))
  (refine ⟨_, f100 _, rfl, ?_⟩; try (simp (config := { maxSteps := 1000000 }) only [push_cast, Nat.reduceBEq, Nat.reduceBNe, Nat.reduceAdd, Nat.reduceSub, Nat.reduceMul, Nat.reduceLT, Nat.reduceLeDiff, Nat.reduceEqDiff, Nat.blt_eq, Int.reduceLT, Int.reduceLE, Int.reduceEq, Int.reduceToNat, Int.reduceNeg, Int.reduceAdd, Int.reduceSub, Int.reduceMul, Int.reducePow, reduceIte, decide_true, decide_false, reduceCtorEq]))
  (repeat' (first | (simp (config := { maxSteps := 1000000 }) only [push_cast, Nat.reduceBEq, Nat.reduceBNe, Nat.reduceAdd, Nat.reduceSub, Nat.reduceMul, Nat.reduceLT, Nat.reduceLeDiff, Nat.reduceEqDiff, Nat.blt_eq, Int.reduceLT, Int.reduceLE, Int.reduceEq, Int.reduceToNat, Int.reduceNeg, Int.reduceAdd, Int.reduceSub, Int.reduceMul, Int.reducePow, reduceIte, decide_true, decide_false, reduceCtorEq]) | (refine BrP.mk (fun h => ?_) (fun h => ?_) <;> (try simp only [h]))))
  all_goals (simp_all [cmpI] <;> omega)
theorem f88 (a b : ByteArray) : Spec V 88 [s2 a, s2 b] (i2 .i64 (cmpS a b)) := by
  (refine Spec.of_go (L := fun | 0 => some [0, 1] | 1 => some [0, 1, 5] | 2 => some [0, 1, 5, 6] | 3 => some [0, 1, 6, 11] | 4 => some [12] | 5 => some [4] | 6 => some [4] | 7 => some [0, 1, 13] | 8 => some [4] | 9 => some [0, 1, 16] | 10 => some [4] | 11 => some [19] | 12 => some [4] | 13 => some [4] | _ => none) 1000 Go.Proofs.Try.func88 rfl rfl ⟨Nat.le_of_ble_eq_true rfl, rfl⟩ rfl ?_; unfold Go.Proofs.Try.f88; simp (config := { maxSteps := 1000000 }) only [push_cast, Nat.reduceBEq, Nat.reduceBNe, Nat.reduceAdd, Nat.reduceSub, Nat.reduceMul, Nat.reduceLT, Nat.reduceLeDiff, Nat.reduceEqDiff, Nat.blt_eq, Int.reduceLT, Int.reduceLE, Int.reduceEq, Int.reduceToNat, Int.reduceNeg, Int.reduceAdd, Int.reduceSub, Int.reduceMul, Int.reducePow, reduceIte, decide_true, decide_false, reduceCtorEq])
  (refine ⟨_, f99 _, rfl, ?_⟩; try (simp (config := { maxSteps := 1000000 }) only [push_cast, Nat.reduceBEq, Nat.reduceBNe, Nat.reduceAdd, Nat.reduceSub, Nat.reduceMul, Nat.reduceLT, Nat.reduceLeDiff, Nat.reduceEqDiff, Nat.blt_eq, Int.reduceLT, Int.reduceLE, Int.reduceEq, Int.reduceToNat, Int.reduceNeg, Int.reduceAdd, Int.reduceSub, Int.reduceMul, Int.reducePow, reduceIte, decide_true, decide_false, reduceCtorEq]))
  (refine ⟨_, f99 _, rfl, ?_⟩; try (simp (config := { maxSteps := 1000000 }) only [push_cast, Nat.reduceBEq, Nat.reduceBNe, Nat.reduceAdd, Nat.reduceSub, Nat.reduceMul, Nat.reduceLT, Nat.reduceLeDiff, Nat.reduceEqDiff, Nat.blt_eq, Int.reduceLT, Int.reduceLE, Int.reduceEq, Int.reduceToNat, Int.reduceNeg, Int.reduceAdd, Int.reduceSub, Int.reduceMul, Int.reducePow, reduceIte, decide_true, decide_false, reduceCtorEq]))
  (repeat' (first | (simp (config := { maxSteps := 1000000 }) only [push_cast, Nat.reduceBEq, Nat.reduceBNe, Nat.reduceAdd, Nat.reduceSub, Nat.reduceMul, Nat.reduceLT, Nat.reduceLeDiff, Nat.reduceEqDiff, Nat.blt_eq, Int.reduceLT, Int.reduceLE, Int.reduceEq, Int.reduceToNat, Int.reduceNeg, Int.reduceAdd, Int.reduceSub, Int.reduceMul, Int.reducePow, reduceIte, decide_true, decide_false, reduceCtorEq]) | (refine BrP.mk (fun h => ?_) (fun h => ?_) <;> (try simp only [h]))))

  all_goals simp_all [cmpS]
theorem f105 (s : ByteArray) : Spec V 105 [s2 s] (.ag ((aV 1 s 0 false).map .d)) := by
  (refine Spec.of_go (L := fun | 0 => some [0, 2] | 1 => some [2] | _ => none) 1000 Go.Proofs.Try.func105 rfl rfl ⟨Nat.le_of_ble_eq_true rfl, rfl⟩ rfl ?_; unfold Go.Proofs.Try.f105; simp (config := { maxSteps := 1000000 }) only [push_cast, Nat.reduceBEq, Nat.reduceBNe, Nat.reduceAdd, Nat.reduceSub, Nat.reduceMul, Nat.reduceLT, Nat.reduceLeDiff, Nat.reduceEqDiff, Nat.blt_eq, Int.reduceLT, Int.reduceLE, Int.reduceEq, Int.reduceToNat, Int.reduceNeg, Int.reduceAdd, Int.reduceSub, Int.reduceMul, Int.reducePow, reduceIte, decide_true, decide_false, reduceCtorEq])
  trace_state
theorem f106 (n : Int) : Spec V 106 [i2 .i64 n] (.ag ((aV 2 ByteArray.empty n false).map .d)) := by
  (refine Spec.of_go (L := fun | 0 => some [0, 2] | 1 => some [2] | _ => none) 1000 Go.Proofs.Try.func106 rfl rfl ⟨Nat.le_of_ble_eq_true rfl, rfl⟩ rfl ?_; unfold Go.Proofs.Try.f106; simp (config := { maxSteps := 1000000 }) only [push_cast, Nat.reduceBEq, Nat.reduceBNe, Nat.reduceAdd, Nat.reduceSub, Nat.reduceMul, Nat.reduceLT, Nat.reduceLeDiff, Nat.reduceEqDiff, Nat.blt_eq, Int.reduceLT, Int.reduceLE, Int.reduceEq, Int.reduceToNat, Int.reduceNeg, Int.reduceAdd, Int.reduceSub, Int.reduceMul, Int.reducePow, reduceIte, decide_true, decide_false, reduceCtorEq])
theorem f107 (b : Bool) : Spec V 107 [b2 b] (.ag ((aV 3 ByteArray.empty 0 b).map .d)) := by
  (refine Spec.of_go (L := fun | 0 => some [0, 2] | 1 => some [2] | _ => none) 1000 Go.Proofs.Try.func107 rfl rfl ⟨Nat.le_of_ble_eq_true rfl, rfl⟩ rfl ?_; unfold Go.Proofs.Try.f107; simp (config := { maxSteps := 1000000 }) only [push_cast, Nat.reduceBEq, Nat.reduceBNe, Nat.reduceAdd, Nat.reduceSub, Nat.reduceMul, Nat.reduceLT, Nat.reduceLeDiff, Nat.reduceEqDiff, Nat.blt_eq, Int.reduceLT, Int.reduceLE, Int.reduceEq, Int.reduceToNat, Int.reduceNeg, Int.reduceAdd, Int.reduceSub, Int.reduceMul, Int.reducePow, reduceIte, decide_true, decide_false, reduceCtorEq])

theorem f46 : ∀ (m : Nat) (n : Nd), bN n ≤ m → bN n ≤ 1099511627776 → Spec V 46 [.ag ((eN n).map .d)] (i2 .i64 (cnt n))
  | 0, .mk _ _ _ _ _, h, _ => by simp only [bN] at h; omega
  | m + 1, .mk op col v l ks, hm, hb => by
    have IH : ∀ k ∈ ks, Spec V 46 [.ag ((eN k).map .d)] (i2 .i64 (cnt k)) := fun k hk => by
      have := bN_mem hk
      simp only [bN] at hm hb
      exact f46 m k (by omega) (by omega)
    have h1 := td col.size 40
    have h2 := td v.s.size 40
    have h3 := td l.length 4
    have h4 := bVs_len l
    have h5 := cntL_bd l (1 + (col.size : Int).tdiv 40 + (v.s.size : Int).tdiv 40 + (l.length : Int).tdiv 4)
    simp only [bN] at hm hb
    push_cast at h1 h2 h3
    (refine Spec.of_go (L := fun | 0 => some [1] | 1 => some [1, 3] | 2 => some [1, 3, 25, 26, 27] | 3 => some [1, 3, 25, 26, 27, 28] | 4 => some [1, 3, 5, 25, 26, 27] | 5 => some [1, 3, 25, 26, 27] | 6 => some [1, 3, 25, 26, 27] | 7 => some [3, 39, 40, 41] | 8 => some [3, 39, 40, 41, 42] | 9 => some [3, 7, 39, 40, 41] | 10 => some [3, 7, 39, 40, 41, 46] | 11 => some [2] | 12 => some [3, 39, 40, 41] | 13 => some [3, 39, 40, 41] | 14 => some [2] | _ => none) 1000 Go.Proofs.Try.func46 rfl rfl ⟨Nat.le_of_ble_eq_true rfl, rfl⟩ rfl ?_; unfold Go.Proofs.Try.f46; simp (config := { maxSteps := 1000000 }) only [push_cast, Nat.reduceBEq, Nat.reduceBNe, Nat.reduceAdd, Nat.reduceSub, Nat.reduceMul, Nat.reduceLT, Nat.reduceLeDiff, Nat.reduceEqDiff, Nat.blt_eq, Int.reduceLT, Int.reduceLE, Int.reduceEq, Int.reduceToNat, Int.reduceNeg, Int.reduceAdd, Int.reduceSub, Int.reduceMul, Int.reducePow, reduceIte, decide_true, decide_false, reduceCtorEq])
    refine ⟨inK64 (by omega) (by omega), inK64 (by omega) (by omega), inK64 (by omega) (by omega), inK64 (by omega) (by omega), inK64 (by omega) (by omega), inK64 (by omega) (by omega), ?_⟩
    refine LoopK.s1 (α := Nat × Int) [3, 27] (fun x => [i2 .i64 x.2, i2 .i64 x.1]) (fun x => x.1 ≤ l.length ∧ 0 ≤ x.2 ∧ cntL x.2 (l.drop x.1) = cntL (1 + (col.size : Int).tdiv 40 + (v.s.size : Int).tdiv 40 + (l.length : Int).tdiv 4) l) (fun x => l.length - x.1) 1000 (0, _) ⟨by omega, ?_, rfl⟩ (by (try (simp (config := { maxSteps := 1000000 }) only [push_cast, Nat.reduceBEq, Nat.reduceBNe, Nat.reduceAdd, Nat.reduceSub, Nat.reduceMul, Nat.reduceLT, Nat.reduceLeDiff, Nat.reduceEqDiff, Nat.blt_eq, Int.reduceLT, Int.reduceLE, Int.reduceEq, Int.reduceToNat, Int.reduceNeg, Int.reduceAdd, Int.reduceSub, Int.reduceMul, Int.reducePow, reduceIte, decide_true, decide_false, reduceCtorEq]))) ?_
    · omega
    rintro ⟨k, out⟩ ⟨hk, h0, hc⟩
    by_cases hlt : k < l.length
    · have hv := List.getElem?_eq_getElem hlt
      have hd : decide ((k : Int) < (l.length : Int)) = true := decide_eq_true (by omega)
      rw [drop_cons hv] at hc
      have g1 := td l[k].s.size 40
      have g2 := cntL_bd (l.drop (k + 1)) (out + (l[k].s.size : Int).tdiv 40)
      simp only [cntL] at hc
      push_cast at g1
      (try (simp (config := { maxSteps := 1000000 }) only [push_cast, Nat.reduceBEq, Nat.reduceBNe, Nat.reduceAdd, Nat.reduceSub, Nat.reduceMul, Nat.reduceLT, Nat.reduceLeDiff, Nat.reduceEqDiff, Nat.blt_eq, Int.reduceLT, Int.reduceLE, Int.reduceEq, Int.reduceToNat, Int.reduceNeg, Int.reduceAdd, Int.reduceSub, Int.reduceMul, Int.reducePow, reduceIte, decide_true, decide_false, reduceCtorEq, hd, getD_map hv]))
      refine ⟨by omega, inK64 (by omega) (by omega), inK64 (by omega) (by omega), inK64 (by omega) (by omega), (k + 1, out + (l[k].s.size : Int).tdiv 40), ⟨by omega, by omega, hc⟩, by omega, Le.st ?_⟩
      (try (simp (config := { maxSteps := 1000000 }) only [push_cast, Nat.reduceBEq, Nat.reduceBNe, Nat.reduceAdd, Nat.reduceSub, Nat.reduceMul, Nat.reduceLT, Nat.reduceLeDiff, Nat.reduceEqDiff, Nat.blt_eq, Int.reduceLT, Int.reduceLE, Int.reduceEq, Int.reduceToNat, Int.reduceNeg, Int.reduceAdd, Int.reduceSub, Int.reduceMul, Int.reducePow, reduceIte, decide_true, decide_false, reduceCtorEq]))
    · have hd : decide ((k : Int) < (l.length : Int)) = false := decide_eq_false (by omega)
      rw [List.drop_eq_nil_of_le (by omega)] at hc
      simp only [cntL] at hc
      subst hc
      (try (simp (config := { maxSteps := 1000000 }) only [push_cast, Nat.reduceBEq, Nat.reduceBNe, Nat.reduceAdd, Nat.reduceSub, Nat.reduceMul, Nat.reduceLT, Nat.reduceLeDiff, Nat.reduceEqDiff, Nat.blt_eq, Int.reduceLT, Int.reduceLE, Int.reduceEq, Int.reduceToNat, Int.reduceNeg, Int.reduceAdd, Int.reduceSub, Int.reduceMul, Int.reducePow, reduceIte, decide_true, decide_false, reduceCtorEq, hd]))
      have hcnt : cnt (.mk op col v l ks) = cntK (cntL (1 + (col.size : Int).tdiv 40 + (v.s.size : Int).tdiv 40 + (l.length : Int).tdiv 4) l) ks := rfl
      rw [hcnt]
      clear hcnt h0 hk
      generalize cntL (1 + (col.size : Int).tdiv 40 + (v.s.size : Int).tdiv 40 + (l.length : Int).tdiv 4) l = B at *
      refine LoopK.s1 (α := Nat × Int) [3, 41] (fun x => [i2 .i64 x.2, i2 .i64 x.1]) (fun x => x.1 ≤ ks.length ∧ 0 ≤ x.2 ∧ x.2 + bNs (ks.drop x.1) ≤ B + bNs ks ∧ cntK x.2 (ks.drop x.1) = cntK B ks) (fun x => ks.length - x.1) 1000 (0, B) ⟨by omega, by omega, by simp, rfl⟩ (by (try (simp (config := { maxSteps := 1000000 }) only [push_cast, Nat.reduceBEq, Nat.reduceBNe, Nat.reduceAdd, Nat.reduceSub, Nat.reduceMul, Nat.reduceLT, Nat.reduceLeDiff, Nat.reduceEqDiff, Nat.blt_eq, Int.reduceLT, Int.reduceLE, Int.reduceEq, Int.reduceToNat, Int.reduceNeg, Int.reduceAdd, Int.reduceSub, Int.reduceMul, Int.reducePow, reduceIte, decide_true, decide_false, reduceCtorEq]))) ?_
      rintro ⟨i, out⟩ ⟨hi, h0, hbd, hc⟩
      by_cases hlt : i < ks.length
      · have hv := List.getElem?_eq_getElem hlt
        have hd : decide ((i : Int) < (ks.length : Int)) = true := decide_eq_true (by omega)
        have hbk := cnt_bd ks[i]
        have hkl := bNs_len ks
        rw [drop_cons hv] at hc hbd
        simp only [cntK, bNs] at hc hbd
        (try (simp (config := { maxSteps := 1000000 }) only [push_cast, Nat.reduceBEq, Nat.reduceBNe, Nat.reduceAdd, Nat.reduceSub, Nat.reduceMul, Nat.reduceLT, Nat.reduceLeDiff, Nat.reduceEqDiff, Nat.blt_eq, Int.reduceLT, Int.reduceLE, Int.reduceEq, Int.reduceToNat, Int.reduceNeg, Int.reduceAdd, Int.reduceSub, Int.reduceMul, Int.reducePow, reduceIte, decide_true, decide_false, reduceCtorEq, hd, getD_map hv]))
        (repeat ((with_reducible refine And.intro ?_ ?_); focus (first | trivial | omega | exact inK64 (by omega) (by omega) | exact inKu8 (by omega) (by omega))))
        refine BrP.mk (fun h => ?_) (fun h => ?_) <;> try (simp (config := { maxSteps := 1000000 }) only [push_cast, Nat.reduceBEq, Nat.reduceBNe, Nat.reduceAdd, Nat.reduceSub, Nat.reduceMul, Nat.reduceLT, Nat.reduceLeDiff, Nat.reduceEqDiff, Nat.blt_eq, Int.reduceLT, Int.reduceLE, Int.reduceEq, Int.reduceToNat, Int.reduceNeg, Int.reduceAdd, Int.reduceSub, Int.reduceMul, Int.reducePow, reduceIte, decide_true, decide_false, reduceCtorEq, h])
        · rw [if_pos (by simpa using h)] at hc
          exact hc
        · rw [if_neg (by simpa using h)] at hc
          (have hS := IH ks[i] (List.getElem_mem hlt); simp only [eS_eq, eN_eq, eV_eq, eRN_eq, eRV_eq, eC_eq, eRC_eq, List.map_cons, List.map_nil, i2, b2, s2] at hS; refine ⟨_, hS, rfl, ?_⟩; clear hS; try (simp (config := { maxSteps := 1000000 }) only [push_cast, Nat.reduceBEq, Nat.reduceBNe, Nat.reduceAdd, Nat.reduceSub, Nat.reduceMul, Nat.reduceLT, Nat.reduceLeDiff, Nat.reduceEqDiff, Nat.blt_eq, Int.reduceLT, Int.reduceLE, Int.reduceEq, Int.reduceToNat, Int.reduceNeg, Int.reduceAdd, Int.reduceSub, Int.reduceMul, Int.reducePow, reduceIte, decide_true, decide_false, reduceCtorEq]))
          refine ⟨inK64 (by omega) (by omega), inK64 (by omega) (by omega), (i + 1, out + cnt ks[i]), ⟨by omega, by omega, by simp only at hbd ⊢; omega, hc⟩, by simp only; omega, Le.st ?_⟩
          (try (simp (config := { maxSteps := 1000000 }) only [push_cast, Nat.reduceBEq, Nat.reduceBNe, Nat.reduceAdd, Nat.reduceSub, Nat.reduceMul, Nat.reduceLT, Nat.reduceLeDiff, Nat.reduceEqDiff, Nat.blt_eq, Int.reduceLT, Int.reduceLE, Int.reduceEq, Int.reduceToNat, Int.reduceNeg, Int.reduceAdd, Int.reduceSub, Int.reduceMul, Int.reducePow, reduceIte, decide_true, decide_false, reduceCtorEq]))
      · have hd : decide ((i : Int) < (ks.length : Int)) = false := decide_eq_false (by omega)
        rw [List.drop_eq_nil_of_le (by simp only at hi ⊢; omega)] at hc
        simp only [cntK] at hc
        (try (simp (config := { maxSteps := 1000000 }) only [push_cast, Nat.reduceBEq, Nat.reduceBNe, Nat.reduceAdd, Nat.reduceSub, Nat.reduceMul, Nat.reduceLT, Nat.reduceLeDiff, Nat.reduceEqDiff, Nat.blt_eq, Int.reduceLT, Int.reduceLE, Int.reduceEq, Int.reduceToNat, Int.reduceNeg, Int.reduceAdd, Int.reduceSub, Int.reduceMul, Int.reducePow, reduceIte, decide_true, decide_false, reduceCtorEq, hd]))
        exact hc

theorem f12 (n : Nd) (h : bN n ≤ 1099511627776) : Spec V 12 [.ag ((eN n).map .d)] (b2 (decide (cnt n ≤ 120))) := by
  (refine Spec.of_go (L := fun | 0 => some [1] | 1 => some [2] | _ => none) 1000 Go.Proofs.Try.func12 rfl rfl ⟨Nat.le_of_ble_eq_true rfl, rfl⟩ rfl ?_; unfold Go.Proofs.Try.f12; simp (config := { maxSteps := 1000000 }) only [push_cast, Nat.reduceBEq, Nat.reduceBNe, Nat.reduceAdd, Nat.reduceSub, Nat.reduceMul, Nat.reduceLT, Nat.reduceLeDiff, Nat.reduceEqDiff, Nat.blt_eq, Int.reduceLT, Int.reduceLE, Int.reduceEq, Int.reduceToNat, Int.reduceNeg, Int.reduceAdd, Int.reduceSub, Int.reduceMul, Int.reducePow, reduceIte, decide_true, decide_false, reduceCtorEq])
  (have hS := f46 (bN n) n (Nat.le_refl _) h; simp only [eS_eq, eN_eq, eV_eq, eRN_eq, eRV_eq, eC_eq, eRC_eq, List.map_cons, List.map_nil, i2, b2, s2] at hS; refine ⟨_, hS, rfl, ?_⟩; clear hS; try (simp (config := { maxSteps := 1000000 }) only [push_cast, Nat.reduceBEq, Nat.reduceBNe, Nat.reduceAdd, Nat.reduceSub, Nat.reduceMul, Nat.reduceLT, Nat.reduceLeDiff, Nat.reduceEqDiff, Nat.blt_eq, Int.reduceLT, Int.reduceLE, Int.reduceEq, Int.reduceToNat, Int.reduceNeg, Int.reduceAdd, Int.reduceSub, Int.reduceMul, Int.reducePow, reduceIte, decide_true, decide_false, reduceCtorEq]))

theorem f13 (l : List Cl) (hl : okLen l) : Spec V 13 [.c (.d (.sl 3 (l.map eC)))] (b2 (!longC l && decide (l.length ≤ 12))) := by
  (refine Spec.of_go (L := fun | 0 => some [0] | 1 => some [0, 5, 6, 7] | 2 => some [0, 5, 6, 7, 8] | 3 => some [0, 4, 5, 6, 7] | 4 => some [0, 5, 6, 7, 14] | 5 => some [2] | 6 => some [0, 5, 6, 7] | 7 => some [2] | _ => none) 1000 Go.Proofs.Try.func13 rfl rfl ⟨Nat.le_of_ble_eq_true rfl, rfl⟩ rfl ?_; unfold Go.Proofs.Try.f13; simp (config := { maxSteps := 1000000 }) only [push_cast, Nat.reduceBEq, Nat.reduceBNe, Nat.reduceAdd, Nat.reduceSub, Nat.reduceMul, Nat.reduceLT, Nat.reduceLeDiff, Nat.reduceEqDiff, Nat.blt_eq, Int.reduceLT, Int.reduceLE, Int.reduceEq, Int.reduceToNat, Int.reduceNeg, Int.reduceAdd, Int.reduceSub, Int.reduceMul, Int.reducePow, reduceIte, decide_true, decide_false, reduceCtorEq])
  refine LoopK.s1 (α := Nat) [7] (fun k => [i2 .i64 k]) (fun k => k ≤ l.length ∧ longC (l.drop k) = longC l) (fun k => l.length - k) 1000 0 ⟨by omega, rfl⟩ (by (try (simp (config := { maxSteps := 1000000 }) only [push_cast, Nat.reduceBEq, Nat.reduceBNe, Nat.reduceAdd, Nat.reduceSub, Nat.reduceMul, Nat.reduceLT, Nat.reduceLeDiff, Nat.reduceEqDiff, Nat.blt_eq, Int.reduceLT, Int.reduceLE, Int.reduceEq, Int.reduceToNat, Int.reduceNeg, Int.reduceAdd, Int.reduceSub, Int.reduceMul, Int.reducePow, reduceIte, decide_true, decide_false, reduceCtorEq]))) ?_
  rintro k ⟨hk, hc⟩
  by_cases hlt : k < l.length
  · have hv := List.getElem?_eq_getElem hlt; have hd : decide ((k : Int) < (l.length : Int)) = true := decide_eq_true (by omega)
    rw [drop_cons hv] at hc; simp only [longC] at hc
    (try (simp (config := { maxSteps := 1000000 }) only [push_cast, Nat.reduceBEq, Nat.reduceBNe, Nat.reduceAdd, Nat.reduceSub, Nat.reduceMul, Nat.reduceLT, Nat.reduceLeDiff, Nat.reduceEqDiff, Nat.blt_eq, Int.reduceLT, Int.reduceLE, Int.reduceEq, Int.reduceToNat, Int.reduceNeg, Int.reduceAdd, Int.reduceSub, Int.reduceMul, Int.reducePow, reduceIte, decide_true, decide_false, reduceCtorEq, hd, getD_map hv]))
    (repeat ((with_reducible refine And.intro ?_ ?_); focus (first | trivial | omega | exact inK64 (by omega) (by omega) | exact inKu8 (by omega) (by omega))))
    refine BrP.mk (fun h => ?_) (fun h => ?_) <;> try (simp (config := { maxSteps := 1000000 }) only [push_cast, Nat.reduceBEq, Nat.reduceBNe, Nat.reduceAdd, Nat.reduceSub, Nat.reduceMul, Nat.reduceLT, Nat.reduceLeDiff, Nat.reduceEqDiff, Nat.blt_eq, Int.reduceLT, Int.reduceLE, Int.reduceEq, Int.reduceToNat, Int.reduceNeg, Int.reduceAdd, Int.reduceSub, Int.reduceMul, Int.reducePow, reduceIte, decide_true, decide_false, reduceCtorEq, h])
    · rw [if_pos (by have := of_decide_eq_true h; omega)] at hc
      (first | rfl | exact hc | exact hc.symm | (simp [← hc]; done) | (simp_all; done) | (simp_all <;> omega))
    · rw [if_neg (by have := of_decide_eq_false h; omega)] at hc
      refine ⟨inK64 (by omega) (by omega), k + 1, ⟨by omega, hc⟩, by omega, Le.st ?_⟩
      (try (simp (config := { maxSteps := 1000000 }) only [push_cast, Nat.reduceBEq, Nat.reduceBNe, Nat.reduceAdd, Nat.reduceSub, Nat.reduceMul, Nat.reduceLT, Nat.reduceLeDiff, Nat.reduceEqDiff, Nat.blt_eq, Int.reduceLT, Int.reduceLE, Int.reduceEq, Int.reduceToNat, Int.reduceNeg, Int.reduceAdd, Int.reduceSub, Int.reduceMul, Int.reducePow, reduceIte, decide_true, decide_false, reduceCtorEq]))
  · have hd : decide ((k : Int) < (l.length : Int)) = false := decide_eq_false (by omega)
    rw [List.drop_eq_nil_of_le (by omega)] at hc; simp only [longC] at hc
    (try (simp (config := { maxSteps := 1000000 }) only [push_cast, Nat.reduceBEq, Nat.reduceBNe, Nat.reduceAdd, Nat.reduceSub, Nat.reduceMul, Nat.reduceLT, Nat.reduceLeDiff, Nat.reduceEqDiff, Nat.blt_eq, Int.reduceLT, Int.reduceLE, Int.reduceEq, Int.reduceToNat, Int.reduceNeg, Int.reduceAdd, Int.reduceSub, Int.reduceMul, Int.reducePow, reduceIte, decide_true, decide_false, reduceCtorEq, hd]))
    rw [← hc]; simp; omega

theorem f48 : ∀ (m : Nat) (n : Nd) (r : Int), bN n ≤ m → bN n ≤ 1099511627776 → 0 ≤ r → r ≤ 1000 → Spec V 48 [.ag ((eN n).map .d), i2 .i64 r] (b2 (deep n r))
  | 0, .mk _ _ _ _ _, r, h, _, _, _ => by simp only [bN] at h; omega
  | m + 1, .mk op col v l ks, r, hm, hb, h0, h1 => by
    have IH : ∀ k ∈ ks, ∀ r : Int, 0 ≤ r → r ≤ 1000 → Spec V 48 [.ag ((eN k).map .d), i2 .i64 r] (b2 (deep k r)) := fun k hk => by
      have := bN_mem hk
      simp only [bN] at hm hb
      exact fun r => f48 m k r (by omega) (by omega)
    have hkl := bNs_len ks
    simp only [bN] at hm hb
    (refine Spec.of_go (L := fun | 0 => some [1, 2] | 1 => some [1, 2, 8] | 2 => some [4] | 3 => some [1, 10, 11, 12] | 4 => some [1, 10, 11, 12, 13] | 5 => some [1, 6, 10, 11, 12] | 6 => some [1, 10, 11, 12, 19] | 7 => some [4] | 8 => some [1, 10, 11, 12] | 9 => some [4] | _ => none) 1000 Go.Proofs.Try.func48 rfl rfl ⟨Nat.le_of_ble_eq_true rfl, rfl⟩ rfl ?_; unfold Go.Proofs.Try.f48; simp (config := { maxSteps := 1000000 }) only [push_cast, Nat.reduceBEq, Nat.reduceBNe, Nat.reduceAdd, Nat.reduceSub, Nat.reduceMul, Nat.reduceLT, Nat.reduceLeDiff, Nat.reduceEqDiff, Nat.blt_eq, Int.reduceLT, Int.reduceLE, Int.reduceEq, Int.reduceToNat, Int.reduceNeg, Int.reduceAdd, Int.reduceSub, Int.reduceMul, Int.reducePow, reduceIte, decide_true, decide_false, reduceCtorEq])
    refine BrP.mk (fun h => ?_) (fun h => ?_) <;> try (simp (config := { maxSteps := 1000000 }) only [push_cast, Nat.reduceBEq, Nat.reduceBNe, Nat.reduceAdd, Nat.reduceSub, Nat.reduceMul, Nat.reduceLT, Nat.reduceLeDiff, Nat.reduceEqDiff, Nat.blt_eq, Int.reduceLT, Int.reduceLE, Int.reduceEq, Int.reduceToNat, Int.reduceNeg, Int.reduceAdd, Int.reduceSub, Int.reduceMul, Int.reducePow, reduceIte, decide_true, decide_false, reduceCtorEq, h])
    · rw [deep_eq, if_pos (by simpa using h)]
    · rw [deep_eq, if_neg (by simpa using h)]
      have hr : r ≠ 0 := by simpa using h
      (try (simp (config := { maxSteps := 1000000 }) only [push_cast, Nat.reduceBEq, Nat.reduceBNe, Nat.reduceAdd, Nat.reduceSub, Nat.reduceMul, Nat.reduceLT, Nat.reduceLeDiff, Nat.reduceEqDiff, Nat.blt_eq, Int.reduceLT, Int.reduceLE, Int.reduceEq, Int.reduceToNat, Int.reduceNeg, Int.reduceAdd, Int.reduceSub, Int.reduceMul, Int.reducePow, reduceIte, decide_true, decide_false, reduceCtorEq]))
      refine LoopK.s1 (α := Nat) [12] (fun k => [i2 .i64 k]) (fun k => k ≤ ks.length ∧ deepK (ks.drop k) (r - 1) = deepK ks (r - 1)) (fun k => ks.length - k) 1000 0 ⟨by omega, rfl⟩ (by (try (simp (config := { maxSteps := 1000000 }) only [push_cast, Nat.reduceBEq, Nat.reduceBNe, Nat.reduceAdd, Nat.reduceSub, Nat.reduceMul, Nat.reduceLT, Nat.reduceLeDiff, Nat.reduceEqDiff, Nat.blt_eq, Int.reduceLT, Int.reduceLE, Int.reduceEq, Int.reduceToNat, Int.reduceNeg, Int.reduceAdd, Int.reduceSub, Int.reduceMul, Int.reducePow, reduceIte, decide_true, decide_false, reduceCtorEq]))) ?_
      rintro k ⟨hk, hc⟩
      by_cases hlt : k < ks.length
      · have hv := List.getElem?_eq_getElem hlt; have hd : decide ((k : Int) < (ks.length : Int)) = true := decide_eq_true (by omega)
        rw [drop_cons hv] at hc; simp only [deepK] at hc
        (try (simp (config := { maxSteps := 1000000 }) only [push_cast, Nat.reduceBEq, Nat.reduceBNe, Nat.reduceAdd, Nat.reduceSub, Nat.reduceMul, Nat.reduceLT, Nat.reduceLeDiff, Nat.reduceEqDiff, Nat.blt_eq, Int.reduceLT, Int.reduceLE, Int.reduceEq, Int.reduceToNat, Int.reduceNeg, Int.reduceAdd, Int.reduceSub, Int.reduceMul, Int.reducePow, reduceIte, decide_true, decide_false, reduceCtorEq, hd, getD_map hv]))
        refine ⟨by omega, inK64 (by omega) (by omega), ?_⟩
        (have hS := IH ks[k] (List.getElem_mem hlt) (r - 1) (by omega) (by omega); simp only [eS_eq, eN_eq, eV_eq, eRN_eq, eRV_eq, eC_eq, eRC_eq, List.map_cons, List.map_nil, i2, b2, s2] at hS; refine ⟨_, hS, rfl, ?_⟩; clear hS; try (simp (config := { maxSteps := 1000000 }) only [push_cast, Nat.reduceBEq, Nat.reduceBNe, Nat.reduceAdd, Nat.reduceSub, Nat.reduceMul, Nat.reduceLT, Nat.reduceLeDiff, Nat.reduceEqDiff, Nat.blt_eq, Int.reduceLT, Int.reduceLE, Int.reduceEq, Int.reduceToNat, Int.reduceNeg, Int.reduceAdd, Int.reduceSub, Int.reduceMul, Int.reducePow, reduceIte, decide_true, decide_false, reduceCtorEq]))
        refine BrP.mk (fun h => ?_) (fun h => ?_) <;> try (simp (config := { maxSteps := 1000000 }) only [push_cast, Nat.reduceBEq, Nat.reduceBNe, Nat.reduceAdd, Nat.reduceSub, Nat.reduceMul, Nat.reduceLT, Nat.reduceLeDiff, Nat.reduceEqDiff, Nat.blt_eq, Int.reduceLT, Int.reduceLE, Int.reduceEq, Int.reduceToNat, Int.reduceNeg, Int.reduceAdd, Int.reduceSub, Int.reduceMul, Int.reducePow, reduceIte, decide_true, decide_false, reduceCtorEq, h])
        · rw [if_pos h] at hc
          (first | rfl | exact hc | exact hc.symm | (simp [← hc]; done) | (simp_all; done) | (simp_all <;> omega))
        · rw [if_neg (by simp [h])] at hc
          (try (simp (config := { maxSteps := 1000000 }) only [push_cast, Nat.reduceBEq, Nat.reduceBNe, Nat.reduceAdd, Nat.reduceSub, Nat.reduceMul, Nat.reduceLT, Nat.reduceLeDiff, Nat.reduceEqDiff, Nat.blt_eq, Int.reduceLT, Int.reduceLE, Int.reduceEq, Int.reduceToNat, Int.reduceNeg, Int.reduceAdd, Int.reduceSub, Int.reduceMul, Int.reducePow, reduceIte, decide_true, decide_false, reduceCtorEq]))
          refine ⟨inK64 (by omega) (by omega), k + 1, ⟨by omega, hc⟩, by omega, Le.st ?_⟩
          (try (simp (config := { maxSteps := 1000000 }) only [push_cast, Nat.reduceBEq, Nat.reduceBNe, Nat.reduceAdd, Nat.reduceSub, Nat.reduceMul, Nat.reduceLT, Nat.reduceLeDiff, Nat.reduceEqDiff, Nat.blt_eq, Int.reduceLT, Int.reduceLE, Int.reduceEq, Int.reduceToNat, Int.reduceNeg, Int.reduceAdd, Int.reduceSub, Int.reduceMul, Int.reducePow, reduceIte, decide_true, decide_false, reduceCtorEq]))
      · have hd : decide ((k : Int) < (ks.length : Int)) = false := decide_eq_false (by omega)
        rw [List.drop_eq_nil_of_le (by omega)] at hc; simp only [deepK] at hc
        (try (simp (config := { maxSteps := 1000000 }) only [push_cast, Nat.reduceBEq, Nat.reduceBNe, Nat.reduceAdd, Nat.reduceSub, Nat.reduceMul, Nat.reduceLT, Nat.reduceLeDiff, Nat.reduceEqDiff, Nat.blt_eq, Int.reduceLT, Int.reduceLE, Int.reduceEq, Int.reduceToNat, Int.reduceNeg, Int.reduceAdd, Int.reduceSub, Int.reduceMul, Int.reducePow, reduceIte, decide_true, decide_false, reduceCtorEq, hd]))
        (first | rfl | exact hc | exact hc.symm | (simp [← hc]; done) | (simp_all; done) | (simp_all <;> omega))

theorem f22 (v : Vl) : Spec V 22 [.ag ((eV v).map .d)] (.ag ((eRV v).map .d)) := by
  (refine Spec.of_go (L := fun | 0 => some [1, 2] | 1 => some [1, 2, 3] | 2 => some [2, 3, 12] | 3 => some [2, 3] | 4 => some [2] | _ => none) 1000 Go.Proofs.Try.func22 rfl rfl ⟨Nat.le_of_ble_eq_true rfl, rfl⟩ rfl ?_; unfold Go.Proofs.Try.f22; simp (config := { maxSteps := 1000000 }) only [push_cast, Nat.reduceBEq, Nat.reduceBNe, Nat.reduceAdd, Nat.reduceSub, Nat.reduceMul, Nat.reduceLT, Nat.reduceLeDiff, Nat.reduceEqDiff, Nat.blt_eq, Int.reduceLT, Int.reduceLE, Int.reduceEq, Int.reduceToNat, Int.reduceNeg, Int.reduceAdd, Int.reduceSub, Int.reduceMul, Int.reducePow, reduceIte, decide_true, decide_false, reduceCtorEq])
  refine BrP.mk (fun h => ?_) (fun h => ?_) <;> try (simp (config := { maxSteps := 1000000 }) only [push_cast, Nat.reduceBEq, Nat.reduceBNe, Nat.reduceAdd, Nat.reduceSub, Nat.reduceMul, Nat.reduceLT, Nat.reduceLeDiff, Nat.reduceEqDiff, Nat.blt_eq, Int.reduceLT, Int.reduceLE, Int.reduceEq, Int.reduceToNat, Int.reduceNeg, Int.reduceAdd, Int.reduceSub, Int.reduceMul, Int.reducePow, reduceIte, decide_true, decide_false, reduceCtorEq, h])
  · rfl
  · rfl

theorem f24 (l : List Vl) (hl : okLen l) : Spec V 24 [.c (.d (.sl 4 (l.map eV)))] (.c (.d (.sl 4 (l.map eRV)))) := by
  (refine Spec.of_go (L := fun | 0 => some [0] | 1 => some [0, 3] | 2 => some [3, 6, 7, 8] | 3 => some [3, 6, 7, 8, 9] | 4 => some [3, 5, 6, 7, 8] | 5 => some [3, 6, 7, 8] | 6 => some [3, 6, 7, 8] | 7 => some [2] | _ => none) 1000 Go.Proofs.Try.func24 rfl rfl ⟨Nat.le_of_ble_eq_true rfl, rfl⟩ rfl ?_; unfold Go.Proofs.Try.f24; simp (config := { maxSteps := 1000000 }) only [push_cast, Nat.reduceBEq, Nat.reduceBNe, Nat.reduceAdd, Nat.reduceSub, Nat.reduceMul, Nat.reduceLT, Nat.reduceLeDiff, Nat.reduceEqDiff, Nat.blt_eq, Int.reduceLT, Int.reduceLE, Int.reduceEq, Int.reduceToNat, Int.reduceNeg, Int.reduceAdd, Int.reduceSub, Int.reduceMul, Int.reducePow, reduceIte, decide_true, decide_false, reduceCtorEq])
  refine LoopK.le (Le.nil 3 36 4 (by decide) (by (try (simp (config := { maxSteps := 1000000 }) only [push_cast, Nat.reduceBEq, Nat.reduceBNe, Nat.reduceAdd, Nat.reduceSub, Nat.reduceMul, Nat.reduceLT, Nat.reduceLeDiff, Nat.reduceEqDiff, Nat.blt_eq, Int.reduceLT, Int.reduceLE, Int.reduceEq, Int.reduceToNat, Int.reduceNeg, Int.reduceAdd, Int.reduceSub, Int.reduceMul, Int.reducePow, reduceIte, decide_true, decide_false, reduceCtorEq])))) ?_
  (try (simp (config := { maxSteps := 1000000 }) only [push_cast, Nat.reduceBEq, Nat.reduceBNe, Nat.reduceAdd, Nat.reduceSub, Nat.reduceMul, Nat.reduceLT, Nat.reduceLeDiff, Nat.reduceEqDiff, Nat.blt_eq, Int.reduceLT, Int.reduceLE, Int.reduceEq, Int.reduceToNat, Int.reduceNeg, Int.reduceAdd, Int.reduceSub, Int.reduceMul, Int.reducePow, reduceIte, decide_true, decide_false, reduceCtorEq]))
  refine LoopK.ov (α := Nat) [8] (fun k => [i2 .i64 k]) (fun k => [.rw 36 4 ((l.take k).map eRV)]) (fun k => k ≤ l.length) (fun k => l.length - k) 1000 0 (by omega) (by (try (simp (config := { maxSteps := 1000000 }) only [push_cast, Nat.reduceBEq, Nat.reduceBNe, Nat.reduceAdd, Nat.reduceSub, Nat.reduceMul, Nat.reduceLT, Nat.reduceLeDiff, Nat.reduceEqDiff, Nat.blt_eq, Int.reduceLT, Int.reduceLE, Int.reduceEq, Int.reduceToNat, Int.reduceNeg, Int.reduceAdd, Int.reduceSub, Int.reduceMul, Int.reducePow, reduceIte, decide_true, decide_false, reduceCtorEq]))) ?_
  rintro k hk
  by_cases hlt : k < l.length
  · have hv := List.getElem?_eq_getElem hlt; have hd : decide ((k : Int) < (l.length : Int)) = true := decide_eq_true (by omega)
    (try (simp (config := { maxSteps := 1000000 }) only [push_cast, Nat.reduceBEq, Nat.reduceBNe, Nat.reduceAdd, Nat.reduceSub, Nat.reduceMul, Nat.reduceLT, Nat.reduceLeDiff, Nat.reduceEqDiff, Nat.blt_eq, Int.reduceLT, Int.reduceLE, Int.reduceEq, Int.reduceToNat, Int.reduceNeg, Int.reduceAdd, Int.reduceSub, Int.reduceMul, Int.reducePow, reduceIte, decide_true, decide_false, reduceCtorEq, hd, getD_map hv]))
    refine ⟨by omega, ?_⟩
    (have hS := f22 l[k]; simp only [eS_eq, eN_eq, eV_eq, eRN_eq, eRV_eq, eC_eq, eRC_eq, List.map_cons, List.map_nil, i2, b2, s2] at hS; refine ⟨_, hS, rfl, ?_⟩; clear hS; try (simp (config := { maxSteps := 1000000 }) only [push_cast, Nat.reduceBEq, Nat.reduceBNe, Nat.reduceAdd, Nat.reduceSub, Nat.reduceMul, Nat.reduceLT, Nat.reduceLeDiff, Nat.reduceEqDiff, Nat.blt_eq, Int.reduceLT, Int.reduceLE, Int.reduceEq, Int.reduceToNat, Int.reduceNeg, Int.reduceAdd, Int.reduceSub, Int.reduceMul, Int.reducePow, reduceIte, decide_true, decide_false, reduceCtorEq]))
    refine ⟨⟨.inl trivial, by simp [maxLen]; omega, by simp; omega⟩, inK64 (by omega) (by omega), k + 1, by omega, by omega, Le.st ?_⟩
    (try (simp (config := { maxSteps := 1000000 }) only [push_cast, Nat.reduceBEq, Nat.reduceBNe, Nat.reduceAdd, Nat.reduceSub, Nat.reduceMul, Nat.reduceLT, Nat.reduceLeDiff, Nat.reduceEqDiff, Nat.blt_eq, Int.reduceLT, Int.reduceLE, Int.reduceEq, Int.reduceToNat, Int.reduceNeg, Int.reduceAdd, Int.reduceSub, Int.reduceMul, Int.reducePow, reduceIte, decide_true, decide_false, reduceCtorEq]))
    rw [map_take_succ hv]; rfl
  · have hd : decide ((k : Int) < (l.length : Int)) = false := decide_eq_false (by omega)
    (try (simp (config := { maxSteps := 1000000 }) only [push_cast, Nat.reduceBEq, Nat.reduceBNe, Nat.reduceAdd, Nat.reduceSub, Nat.reduceMul, Nat.reduceLT, Nat.reduceLeDiff, Nat.reduceEqDiff, Nat.blt_eq, Int.reduceLT, Int.reduceLE, Int.reduceEq, Int.reduceToNat, Int.reduceNeg, Int.reduceAdd, Int.reduceSub, Int.reduceMul, Int.reducePow, reduceIte, decide_true, decide_false, reduceCtorEq, hd]))
    rw [List.take_of_length_le (by omega)]
end Go.LS.Try
