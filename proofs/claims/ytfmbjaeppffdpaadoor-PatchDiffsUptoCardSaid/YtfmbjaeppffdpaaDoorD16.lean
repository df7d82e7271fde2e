/- Contracts of the functions of the seat, one by one (part D16); no condition but those that each bears. -/
import Derived.Test.YtfmbjaeppffdpaaDoorD15
import Derived.Test.YtfmbjaeppffdpaaDoorPZ
namespace Go.LS.Tryd
open Go Go.LS
set_option maxRecDepth 100000
set_option linter.unusedSimpArgs false
set_option linter.unusedVariables false

theorem d57 (a b : Tb) (ha : okT0 a) (hb : okT0 b) : Spec V 57 [.ag ((eRT a).map .d), .ag ((eRT b).map .d)] (b2 (sameT a b)) := by
  obtain ⟨L, A⟩ := a
  obtain ⟨M, B⟩ := b
  have h22 := d22 L M ha.l.1 hb.l.1
  have hA := ha.r
  have hB := hb.r
  have hAl : A.length ≤ 1099511627776 := ha.r
  have hav := ha.v
  have hbv := hb.v
  simp only at hA hB hav hbv
  obtain ⟨R, hR⟩ : ∃ R, R = sameT ⟨L, A⟩ ⟨M, B⟩ := ⟨_, rfl⟩
  rw [← hR]
  simp only [sameT] at hR
  (refine Spec.of_go (L := fun | 0 => some [2, 3] | 1 => some [2, 3, 21] | 2 => some [4] | 3 => some [2, 3, 23, 24, 25] | 4 => some [2, 3, 23, 24, 25, 26] | 5 => some [2, 3, 6, 23, 24, 25] | 6 => some [2, 3, 23, 24, 25, 37] | 7 => some [4] | 8 => some [2, 3, 23, 24, 25] | 9 => some [4] | _ => none) 1000 Go.Proofs.Tryd.func57 rfl rfl ⟨Nat.le_of_ble_eq_true rfl, rfl⟩ rfl ?_; unfold Go.Proofs.Tryd.f57; simp (config := { maxSteps := 1000000 }) only [push_cast, Nat.reduceBEq, Nat.reduceBNe, Nat.reduceAdd, Nat.reduceSub, Nat.reduceMul, Nat.reduceLT, Nat.reduceLeDiff, Nat.reduceEqDiff, Nat.blt_eq, Int.reduceLT, Int.reduceLE, Int.reduceEq, Int.reduceToNat, Int.reduceNeg, Int.reduceAdd, Int.reduceSub, Int.reduceMul, Int.reducePow, reduceIte, decide_true, decide_false, reduceCtorEq])
  refine ⟨_, h22, rfl, ?_⟩
  (try (simp (config := { maxSteps := 1000000 }) only [push_cast, Nat.reduceBEq, Nat.reduceBNe, Nat.reduceAdd, Nat.reduceSub, Nat.reduceMul, Nat.reduceLT, Nat.reduceLeDiff, Nat.reduceEqDiff, Nat.blt_eq, Int.reduceLT, Int.reduceLE, Int.reduceEq, Int.reduceToNat, Int.reduceNeg, Int.reduceAdd, Int.reduceSub, Int.reduceMul, Int.reducePow, reduceIte, decide_true, decide_false, reduceCtorEq]))
  cases hs : sameCs L M with
  | false =>
    rw [hs] at hR
    simp only [Bool.false_and] at hR
    subst hR
    (try (simp (config := { maxSteps := 1000000 }) only [push_cast, Nat.reduceBEq, Nat.reduceBNe, Nat.reduceAdd, Nat.reduceSub, Nat.reduceMul, Nat.reduceLT, Nat.reduceLeDiff, Nat.reduceEqDiff, Nat.blt_eq, Int.reduceLT, Int.reduceLE, Int.reduceEq, Int.reduceToNat, Int.reduceNeg, Int.reduceAdd, Int.reduceSub, Int.reduceMul, Int.reducePow, reduceIte, decide_true, decide_false, reduceCtorEq]))
  | true =>
    rw [hs] at hR
    (try (simp (config := { maxSteps := 1000000 }) only [push_cast, Nat.reduceBEq, Nat.reduceBNe, Nat.reduceAdd, Nat.reduceSub, Nat.reduceMul, Nat.reduceLT, Nat.reduceLeDiff, Nat.reduceEqDiff, Nat.blt_eq, Int.reduceLT, Int.reduceLE, Int.reduceEq, Int.reduceToNat, Int.reduceNeg, Int.reduceAdd, Int.reduceSub, Int.reduceMul, Int.reducePow, reduceIte, decide_true, decide_false, reduceCtorEq]))
    refine BrP.mk (fun h => ?_) (fun h => ?_) <;> try (simp (config := { maxSteps := 1000000 }) only [push_cast, Nat.reduceBEq, Nat.reduceBNe, Nat.reduceAdd, Nat.reduceSub, Nat.reduceMul, Nat.reduceLT, Nat.reduceLeDiff, Nat.reduceEqDiff, Nat.blt_eq, Int.reduceLT, Int.reduceLE, Int.reduceEq, Int.reduceToNat, Int.reduceNeg, Int.reduceAdd, Int.reduceSub, Int.reduceMul, Int.reducePow, reduceIte, decide_true, decide_false, reduceCtorEq, h])
    · have : ¬ A.length = B.length := by simp at h; omega
      simp [hR, this]
    · have hlen : A.length = B.length := by simp at h; omega
      simp only [hlen, decide_true, Bool.true_and] at hR
      (try (simp (config := { maxSteps := 1000000 }) only [push_cast, Nat.reduceBEq, Nat.reduceBNe, Nat.reduceAdd, Nat.reduceSub, Nat.reduceMul, Nat.reduceLT, Nat.reduceLeDiff, Nat.reduceEqDiff, Nat.blt_eq, Int.reduceLT, Int.reduceLE, Int.reduceEq, Int.reduceToNat, Int.reduceNeg, Int.reduceAdd, Int.reduceSub, Int.reduceMul, Int.reducePow, reduceIte, decide_true, decide_false, reduceCtorEq]))
      refine LoopK.s1 (α := Nat) [25] (fun k => [i2 .i64 k]) (fun k => k ≤ A.length ∧ ((A.drop k).all fun r => decide (cntR A r = cntR B r)) = R) (fun k => A.length - k) 1000 0 ⟨by omega, hR.symm⟩ (by (try (simp (config := { maxSteps := 1000000 }) only [push_cast, Nat.reduceBEq, Nat.reduceBNe, Nat.reduceAdd, Nat.reduceSub, Nat.reduceMul, Nat.reduceLT, Nat.reduceLeDiff, Nat.reduceEqDiff, Nat.blt_eq, Int.reduceLT, Int.reduceLE, Int.reduceEq, Int.reduceToNat, Int.reduceNeg, Int.reduceAdd, Int.reduceSub, Int.reduceMul, Int.reducePow, reduceIte, decide_true, decide_false, reduceCtorEq]))) ?_
      rintro k ⟨hk, hc⟩
      by_cases hlt : k < A.length
      · have hv := List.getElem?_eq_getElem hlt; have hd : decide ((k : Int) < (A.length : Int)) = true := decide_eq_true (by omega)
        rw [drop_cons hv, List.all_cons] at hc
        have hrv := hav _ (List.getElem_mem hlt)
        generalize A[k] = r at *
        have h1 := d107 A r hA (fun x hx => (hav x hx).1) hrv.1
        have h2 := d107 B r hB (fun x hx => (hbv x hx).1) hrv.1
        rw [show (A.filter fun x => sameR x r).length = cntR A r from rfl] at h1
        rw [show (B.filter fun x => sameR x r).length = cntR B r from rfl] at h2
        have hdd : decide ((cntR A r : Int) = (cntR B r : Int)) = decide (cntR A r = cntR B r) := by
          rw [Bool.eq_iff_iff, decide_eq_true_eq, decide_eq_true_eq]; omega
        (try (simp (config := { maxSteps := 1000000 }) only [push_cast, Nat.reduceBEq, Nat.reduceBNe, Nat.reduceAdd, Nat.reduceSub, Nat.reduceMul, Nat.reduceLT, Nat.reduceLeDiff, Nat.reduceEqDiff, Nat.blt_eq, Int.reduceLT, Int.reduceLE, Int.reduceEq, Int.reduceToNat, Int.reduceNeg, Int.reduceAdd, Int.reduceSub, Int.reduceMul, Int.reducePow, reduceIte, decide_true, decide_false, reduceCtorEq, hd, getD_map hv]))
        ((repeat' (with_reducible refine And.intro ?_ ?_)) <;> try (first | trivial | omega | exact inK64 (by omega) (by omega) | exact inKu8 (by omega) (by omega) | (simp only [maxLen]; omega) | exact .inl trivial | exact .inl rfl))
        (refine DrawK.of (.take 0 (.take 1 (.take 2 (.take 4 (.take 5 (.take 6 (.one 3 (.one 7 (.take 8 .done))))))))) 1000 (by decide +kernel) ?_; try (simp (config := { maxSteps := 1000000 }) only [push_cast, Nat.reduceBEq, Nat.reduceBNe, Nat.reduceAdd, Nat.reduceSub, Nat.reduceMul, Nat.reduceLT, Nat.reduceLeDiff, Nat.reduceEqDiff, Nat.blt_eq, Int.reduceLT, Int.reduceLE, Int.reduceEq, Int.reduceToNat, Int.reduceNeg, Int.reduceAdd, Int.reduceSub, Int.reduceMul, Int.reducePow, reduceIte, decide_true, decide_false, reduceCtorEq]))
        ((repeat' (with_reducible refine And.intro ?_ ?_)) <;> try (first | trivial | omega | exact inK64 (by omega) (by omega) | exact inKu8 (by omega) (by omega) | (simp only [maxLen]; omega) | exact .inl trivial | exact .inl rfl))
        all_goals (refine ⟨_, h1, rfl, ?_⟩)
        all_goals (try (simp (config := { maxSteps := 1000000 }) only [push_cast, Nat.reduceBEq, Nat.reduceBNe, Nat.reduceAdd, Nat.reduceSub, Nat.reduceMul, Nat.reduceLT, Nat.reduceLeDiff, Nat.reduceEqDiff, Nat.blt_eq, Int.reduceLT, Int.reduceLE, Int.reduceEq, Int.reduceToNat, Int.reduceNeg, Int.reduceAdd, Int.reduceSub, Int.reduceMul, Int.reducePow, reduceIte, decide_true, decide_false, reduceCtorEq]))
        all_goals ((repeat' (with_reducible refine And.intro ?_ ?_)) <;> try (first | trivial | omega | exact inK64 (by omega) (by omega) | exact inKu8 (by omega) (by omega) | (simp only [maxLen]; omega) | exact .inl trivial | exact .inl rfl))
        all_goals (refine ⟨_, h2, rfl, ?_⟩)
        all_goals (try (simp (config := { maxSteps := 1000000 }) only [push_cast, Nat.reduceBEq, Nat.reduceBNe, Nat.reduceAdd, Nat.reduceSub, Nat.reduceMul, Nat.reduceLT, Nat.reduceLeDiff, Nat.reduceEqDiff, Nat.blt_eq, Int.reduceLT, Int.reduceLE, Int.reduceEq, Int.reduceToNat, Int.reduceNeg, Int.reduceAdd, Int.reduceSub, Int.reduceMul, Int.reducePow, reduceIte, decide_true, decide_false, reduceCtorEq, hdd]))
        all_goals ((repeat' (with_reducible refine And.intro ?_ ?_)) <;> try (first | trivial | omega | exact inK64 (by omega) (by omega) | exact inKu8 (by omega) (by omega) | (simp only [maxLen]; omega) | exact .inl trivial | exact .inl rfl))
        refine BrP.mk (fun h => ?_) (fun h => ?_) <;> try (simp (config := { maxSteps := 1000000 }) only [push_cast, Nat.reduceBEq, Nat.reduceBNe, Nat.reduceAdd, Nat.reduceSub, Nat.reduceMul, Nat.reduceLT, Nat.reduceLeDiff, Nat.reduceEqDiff, Nat.blt_eq, Int.reduceLT, Int.reduceLE, Int.reduceEq, Int.reduceToNat, Int.reduceNeg, Int.reduceAdd, Int.reduceSub, Int.reduceMul, Int.reducePow, reduceIte, decide_true, decide_false, reduceCtorEq, h])
        · have h' : decide (cntR A r = cntR B r) = false := by simpa using h
          rw [h', Bool.false_and] at hc
          exact hc
        · have h' : decide (cntR A r = cntR B r) = true := by simpa using h
          rw [h', Bool.true_and] at hc
          ((repeat' (with_reducible refine And.intro ?_ ?_)) <;> try (first | trivial | omega | exact inK64 (by omega) (by omega) | exact inKu8 (by omega) (by omega) | (simp only [maxLen]; omega) | exact .inl trivial | exact .inl rfl))
          refine ⟨k + 1, ⟨by omega, hc⟩, by omega, Le.st ?_⟩
          (try (simp (config := { maxSteps := 1000000 }) only [push_cast, Nat.reduceBEq, Nat.reduceBNe, Nat.reduceAdd, Nat.reduceSub, Nat.reduceMul, Nat.reduceLT, Nat.reduceLeDiff, Nat.reduceEqDiff, Nat.blt_eq, Int.reduceLT, Int.reduceLE, Int.reduceEq, Int.reduceToNat, Int.reduceNeg, Int.reduceAdd, Int.reduceSub, Int.reduceMul, Int.reducePow, reduceIte, decide_true, decide_false, reduceCtorEq])); (all_goals first | rfl | skip)
      · have hd : decide ((k : Int) < (A.length : Int)) = false := decide_eq_false (by omega)
        rw [List.drop_eq_nil_of_le (by omega), List.all_nil] at hc
        subst hc
        (try (simp (config := { maxSteps := 1000000 }) only [push_cast, Nat.reduceBEq, Nat.reduceBNe, Nat.reduceAdd, Nat.reduceSub, Nat.reduceMul, Nat.reduceLT, Nat.reduceLeDiff, Nat.reduceEqDiff, Nat.blt_eq, Int.reduceLT, Int.reduceLE, Int.reduceEq, Int.reduceToNat, Int.reduceNeg, Int.reduceAdd, Int.reduceSub, Int.reduceMul, Int.reducePow, reduceIte, decide_true, decide_false, reduceCtorEq, hd]))
def InvN (es : List (ByteArray × DV)) (f : List Vl → Nat) : Prop := ∀ x, (∀ v ∈ x, rightF v = true) → mget es (fullM x) = some (.v (.int .i64 (f x))) ∨ (mget es (fullM x) = none ∧ f x = 0)
theorem InvN.set {es : List (ByteArray × DV)} {f g : List Vl → Nat} {r : List Vl} {n : Int} (h : InvN es f) (hr : ∀ v ∈ r, rightF v = true) (hn : n = g r) (hg : ∀ x, x ≠ r → g x = f x) : InvN (mset es (fullM r) (.v (.int .i64 n))) g := by
  intro x hx
  rw [mget_mset]
  by_cases e : x = r
  · subst e; rw [if_pos rfl, hn]; exact .inl rfl
  · rw [if_neg (fun he => e ((fullM_inj hr hx).1 he).symm), hg x e]
    exact h x hx
theorem fewT_width {t : Tb} (h : fewT t = true) : ∀ r ∈ t.R, r.length ≤ 12 := by
  simp only [fewT, smallF, okRow, Bool.and_eq_true, List.all_eq_true, decide_eq_true_eq] at h
  exact fun r hr => (h.2.1.1 r hr).1
theorem sameT_self (t : Tb) : sameT t t = true := sameT_iff.2 ⟨rfl, List.Perm.refl _⟩
end Go.LS.Tryd
