/- Contracts of the functions of the seat, one by one (part D19); no condition but those that each bears. -/
import Derived.Test.YtfmbjaeppffdpaaDoorD18
import Derived.Test.YtfmbjaeppffdpaaDoorPZ
namespace Go.LS.Tryd
open Go Go.LS
set_option maxRecDepth 100000
set_option linter.unusedSimpArgs false
set_option linter.unusedVariables false

theorem okT2.zero {t : Tb} (h : okT2 t) : okT0 t := ⟨h.l, h.r, h.v⟩
set_option maxHeartbeats 1000000 in
theorem d15 (z : Dc) (ha : okT0 z.A) (hb : okT0 z.B) (hk : okLen z.K) : Spec V 15 [.ag ((eD z).map .d)] (b2 true) := by
  have h16 := d16 z ha hb hk
  obtain ⟨⟨L, A⟩, ⟨M, B⟩, K⟩ := z
  simp only at ha hb hk
  simp only [eD_eq] at h16
  (refine Spec.of_go (L := fun | 0 => some [1] | 1 => some [1, 13] | 2 => some [2] | 3 => some [1, 3, 4] | 4 => some [1, 3, 26] | 5 => some [2] | 6 => some [1, 3, 5, 6, 7] | 7 => some [1, 3, 5, 6, 7, 8, 9, 10] | 8 => some [2] | _ => none) 1000 Go.Proofs.Tryd.func15 rfl rfl ⟨Nat.le_of_ble_eq_true rfl, rfl⟩ rfl ?_; unfold Go.Proofs.Tryd.f15; simp (config := { maxSteps := 1000000 }) only [push_cast, Nat.reduceBEq, Nat.reduceBNe, Nat.reduceAdd, Nat.reduceSub, Nat.reduceMul, Nat.reduceLT, Nat.reduceLeDiff, Nat.reduceEqDiff, Nat.blt_eq, Int.reduceLT, Int.reduceLE, Int.reduceEq, Int.reduceToNat, Int.reduceNeg, Int.reduceAdd, Int.reduceSub, Int.reduceMul, Int.reducePow, reduceIte, decide_true, decide_false, reduceCtorEq])
  refine ⟨_, h16, rfl, ?_⟩
  (try (simp (config := { maxSteps := 1000000 }) only [push_cast, Nat.reduceBEq, Nat.reduceBNe, Nat.reduceAdd, Nat.reduceSub, Nat.reduceMul, Nat.reduceLT, Nat.reduceLeDiff, Nat.reduceEqDiff, Nat.blt_eq, Int.reduceLT, Int.reduceLE, Int.reduceEq, Int.reduceToNat, Int.reduceNeg, Int.reduceAdd, Int.reduceSub, Int.reduceMul, Int.reducePow, reduceIte, decide_true, decide_false, reduceCtorEq]))
  cases hf : fitsD ⟨⟨L, A⟩, ⟨M, B⟩, K⟩ with
  | false =>
    (try (simp (config := { maxSteps := 1000000 }) only [push_cast, Nat.reduceBEq, Nat.reduceBNe, Nat.reduceAdd, Nat.reduceSub, Nat.reduceMul, Nat.reduceLT, Nat.reduceLeDiff, Nat.reduceEqDiff, Nat.blt_eq, Int.reduceLT, Int.reduceLE, Int.reduceEq, Int.reduceToNat, Int.reduceNeg, Int.reduceAdd, Int.reduceSub, Int.reduceMul, Int.reducePow, reduceIte, decide_true, decide_false, reduceCtorEq]))
    refine ⟨_, d44, rfl, ?_⟩
    (try (simp (config := { maxSteps := 1000000 }) only [push_cast, Nat.reduceBEq, Nat.reduceBNe, Nat.reduceAdd, Nat.reduceSub, Nat.reduceMul, Nat.reduceLT, Nat.reduceLeDiff, Nat.reduceEqDiff, Nat.blt_eq, Int.reduceLT, Int.reduceLE, Int.reduceEq, Int.reduceToNat, Int.reduceNeg, Int.reduceAdd, Int.reduceSub, Int.reduceMul, Int.reducePow, reduceIte, decide_true, decide_false, reduceCtorEq]))
  | true =>
    obtain ⟨f1, f2, f3, f4⟩ : shortK K = true ∧ fewT ⟨L, A⟩ = true ∧ fewT ⟨M, B⟩ = true ∧ K.length ≤ 12 := by simpa only [fitsD, Bool.and_eq_true, decide_eq_true_eq, and_assoc] using hf
    have hk2 : okKeys K := by simp only [okKeys]; omega
    have hla : A.length ≤ 12 := (fewT_len f2).2
    have hlb : B.length ≤ 12 := (fewT_len f3).2
    have tA := ha.right f2
    have tB := hb.right f3
    have h21 := d21 ⟨L, A⟩ ⟨M, B⟩ K tA tB hk2 (by simp only; omega) (by simp only; omega)
    simp only [eT_eq] at h21
    (try (simp (config := { maxSteps := 1000000 }) only [push_cast, Nat.reduceBEq, Nat.reduceBNe, Nat.reduceAdd, Nat.reduceSub, Nat.reduceMul, Nat.reduceLT, Nat.reduceLeDiff, Nat.reduceEqDiff, Nat.blt_eq, Int.reduceLT, Int.reduceLE, Int.reduceEq, Int.reduceToNat, Int.reduceNeg, Int.reduceAdd, Int.reduceSub, Int.reduceMul, Int.reducePow, reduceIte, decide_true, decide_false, reduceCtorEq]))
    by_cases hD : (diffC ⟨L, A⟩ ⟨M, B⟩ K).2 = 0
    · obtain ⟨eL, hA, hB, e1⟩ := diffC_parts hD
      simp only at eL
      subst eL
      have e0 : diffC ⟨L, A⟩ ⟨L, B⟩ K = (diffF (placesN L K) A B, 0) := Prod.ext e1 hD
      rw [e0] at h21
      have k1 := apply_diff hA hB
      obtain ⟨k2, k3⟩ := apply_turn hA hB
      have hAp : apartR (placesN L K) A := tab_apart hA
      have hBp : apartR (placesN L K) B := tab_apart hB
      have hp := outD_perm hAp hBp
      have hdl := diff_len (placesN L K) A B
      have htl := turn_len (diffF (placesN L K) A B)
      have hdP := diff_all okP2_nil (ps := placesN L K) (okT2.p2 tA) (okT2.p2 tB)
      simp only at hdP
      have htP := turn_all hdP
      obtain ⟨c1, c2⟩ := okP2_chs (by omega) hdP
      obtain ⟨c3, c4⟩ := okP2_chs (by omega) htP
      have hol : (outD (placesN L K) A B).length = B.length := hp.length_eq
      have tO : okT2 ⟨L, outD (placesN L K) A B⟩ := okP2_tab tA.l (by omega) fun r hr => okT2.p2 tB r (hp.mem_iff.1 hr)
      have h47 := d47 ⟨L, A⟩ K (diffF (placesN L K) A B) tA hk2 c1 c2 (by simp only; omega) (by omega)
      rw [k1] at h47
      have h27 := d27 (diffF (placesN L K) A B) c1 (by omega)
      have h47b := d47 ⟨L, outD (placesN L K) A B⟩ K (turnF (diffF (placesN L K) A B)) tO hk2 c3 c4 (by simp only; omega) (by omega)
      rw [k3, htl] at h47b
      generalize (applyF ⟨L, outD (placesN L K) A B⟩ K (turnF (diffF (placesN L K) A B))).1 = Z at *
      have tZ : okT2 ⟨L, Z⟩ := okP2_tab tA.l (by have := k2.length_eq; omega) fun r hr => okT2.p2 tA r (k2.mem_iff.1 hr)
      have h20a := d20 ⟨L, A⟩ ha
      have h20b := d20 ⟨L, B⟩ hb
      have h20o := d20 ⟨L, outD (placesN L K) A B⟩ (okT2.zero tO)
      have h20z := d20 ⟨L, Z⟩ (okT2.zero tZ)
      have h57o := d57 ⟨L, outD (placesN L K) A B⟩ ⟨L, B⟩ (okT2.zero tO) hb
      have h57z := d57 ⟨L, Z⟩ ⟨L, A⟩ (okT2.zero tZ) ha
      rw [show sameT ⟨L, outD (placesN L K) A B⟩ ⟨L, B⟩ = true from sameT_iff.2 ⟨rfl, hp⟩] at h57o
      rw [show sameT ⟨L, Z⟩ ⟨L, A⟩ = true from sameT_iff.2 ⟨rfl, k2⟩] at h57z
      simp only [eT_eq, eRT_eq, if_true] at h47 h47b h20a h20b h20o h20z h57o h57z
      clear h16 k1 k2 k3 hp hdP htP c1 c2 c3 c4 hA hB e0 e1
      generalize outD (placesN L K) A B = O at *
      generalize turnF (diffF (placesN L K) A B) = tl at *
      generalize diffF (placesN L K) A B = dl at *
      refine ⟨_, h21, rfl, ?_⟩
      (try (simp (config := { maxSteps := 1000000 }) only [push_cast, Nat.reduceBEq, Nat.reduceBNe, Nat.reduceAdd, Nat.reduceSub, Nat.reduceMul, Nat.reduceLT, Nat.reduceLeDiff, Nat.reduceEqDiff, Nat.blt_eq, Int.reduceLT, Int.reduceLE, Int.reduceEq, Int.reduceToNat, Int.reduceNeg, Int.reduceAdd, Int.reduceSub, Int.reduceMul, Int.reducePow, reduceIte, decide_true, decide_false, reduceCtorEq]))
      refine ⟨_, h47, rfl, ?_⟩
      (try (simp (config := { maxSteps := 1000000 }) only [push_cast, Nat.reduceBEq, Nat.reduceBNe, Nat.reduceAdd, Nat.reduceSub, Nat.reduceMul, Nat.reduceLT, Nat.reduceLeDiff, Nat.reduceEqDiff, Nat.blt_eq, Int.reduceLT, Int.reduceLE, Int.reduceEq, Int.reduceToNat, Int.reduceNeg, Int.reduceAdd, Int.reduceSub, Int.reduceMul, Int.reducePow, reduceIte, decide_true, decide_false, reduceCtorEq]))
      (refine DrawK.of (.take 0 (.take 1 (.take 2 (.take 3 (.two 4 (.two 5 (.take 6 (.take 7 (.three 8 (.two 9 (.one 10 (.one 11 (.one 12 (.one 13 .done)))) 10 (.two 9 (.one 11 (.one 12 (.one 13 .done))) 11 (.two 9 (.one 12 (.one 13 .done)) 12 (.one 9 (.one 13 .done))))) 9 (.two 8 (.one 10 (.one 11 (.one 12 (.one 13 .done)))) 10 (.two 8 (.one 11 (.one 12 (.one 13 .done))) 11 (.one 8 (.one 12 (.one 13 .done))))) 10 (.three 8 (.two 9 (.one 11 (.one 12 (.one 13 .done))) 11 (.two 9 (.one 12 (.one 13 .done)) 12 (.one 9 (.one 13 .done)))) 9 (.two 8 (.one 11 (.one 12 (.one 13 .done))) 11 (.one 8 (.one 12 (.one 13 .done)))) 11 (.two 8 (.two 9 (.one 12 (.one 13 .done)) 12 (.one 9 (.one 13 .done))) 9 (.one 8 (.one 12 (.one 13 .done)))))))) 10 (.one 5 (.take 6 (.take 7 (.three 8 (.two 9 (.one 11 (.one 12 (.one 13 .done))) 11 (.two 9 (.one 12 (.one 13 .done)) 12 (.one 9 (.one 13 .done)))) 9 (.two 8 (.one 11 (.one 12 (.one 13 .done))) 11 (.one 8 (.one 12 (.one 13 .done)))) 11 (.two 8 (.two 9 (.one 12 (.one 13 .done)) 12 (.one 9 (.one 13 .done))) 9 (.one 8 (.one 12 (.one 13 .done))))))))) 10 (.one 4 (.one 5 (.take 6 (.take 7 (.three 8 (.two 9 (.one 11 (.one 12 (.one 13 .done))) 11 (.two 9 (.one 12 (.one 13 .done)) 12 (.one 9 (.one 13 .done)))) 9 (.two 8 (.one 11 (.one 12 (.one 13 .done))) 11 (.one 8 (.one 12 (.one 13 .done)))) 11 (.two 8 (.two 9 (.one 12 (.one 13 .done)) 12 (.one 9 (.one 13 .done))) 9 (.one 8 (.one 12 (.one 13 .done)))))))))))))) 1000 (by decide +kernel) ?_; try (simp (config := { maxSteps := 1000000 }) only [push_cast, Nat.reduceBEq, Nat.reduceBNe, Nat.reduceAdd, Nat.reduceSub, Nat.reduceMul, Nat.reduceLT, Nat.reduceLeDiff, Nat.reduceEqDiff, Nat.blt_eq, Int.reduceLT, Int.reduceLE, Int.reduceEq, Int.reduceToNat, Int.reduceNeg, Int.reduceAdd, Int.reduceSub, Int.reduceMul, Int.reducePow, reduceIte, decide_true, decide_false, reduceCtorEq]))
      ((repeat' (with_reducible refine And.intro ?_ ?_)) <;> try (first | trivial | omega | exact inK64 (by omega) (by omega) | exact inKu8 (by omega) (by omega) | (simp only [maxLen]; omega) | exact .inl trivial | exact .inl rfl))
      all_goals (refine ⟨_, h27, rfl, ?_⟩)
      all_goals (try (simp (config := { maxSteps := 1000000 }) only [push_cast, Nat.reduceBEq, Nat.reduceBNe, Nat.reduceAdd, Nat.reduceSub, Nat.reduceMul, Nat.reduceLT, Nat.reduceLeDiff, Nat.reduceEqDiff, Nat.blt_eq, Int.reduceLT, Int.reduceLE, Int.reduceEq, Int.reduceToNat, Int.reduceNeg, Int.reduceAdd, Int.reduceSub, Int.reduceMul, Int.reducePow, reduceIte, decide_true, decide_false, reduceCtorEq]))
      all_goals ((repeat' (with_reducible refine And.intro ?_ ?_)) <;> try (first | trivial | omega | exact inK64 (by omega) (by omega) | exact inKu8 (by omega) (by omega) | (simp only [maxLen]; omega) | exact .inl trivial | exact .inl rfl))
      all_goals (refine ⟨_, h47b, rfl, ?_⟩)
      all_goals (try (simp (config := { maxSteps := 1000000 }) only [push_cast, Nat.reduceBEq, Nat.reduceBNe, Nat.reduceAdd, Nat.reduceSub, Nat.reduceMul, Nat.reduceLT, Nat.reduceLeDiff, Nat.reduceEqDiff, Nat.blt_eq, Int.reduceLT, Int.reduceLE, Int.reduceEq, Int.reduceToNat, Int.reduceNeg, Int.reduceAdd, Int.reduceSub, Int.reduceMul, Int.reducePow, reduceIte, decide_true, decide_false, reduceCtorEq]))
      all_goals ((repeat' (with_reducible refine And.intro ?_ ?_)) <;> try (first | trivial | omega | exact inK64 (by omega) (by omega) | exact inKu8 (by omega) (by omega) | (simp only [maxLen]; omega) | exact .inl trivial | exact .inl rfl))
      all_goals (refine DrawK.of (.take 0 (.take 1 (.take 2 (.take 3 (.take 4 (.take 5 (.take 6 (.take 7 (.take 8 (.take 9 (.take 10 (.take 11 (.take 12 (.take 13 (.take 14 (.take 15 (.take 16 (.take 17 (.take 18 (.take 19 (.take 21 (.take 22 (.one 20 (.one 23 (.one 24 (.take 25 (.take 26 (.take 27 (.take 29 (.take 30 (.one 28 (.one 31 (.one 32 (.take 33 (.take 34 (.one 35 (.take 36 (.take 37 .done)))))))))))))))))))))))))))))))))))))) 1000 (by decide +kernel) ?_; try (simp (config := { maxSteps := 1000000 }) only [push_cast, Nat.reduceBEq, Nat.reduceBNe, Nat.reduceAdd, Nat.reduceSub, Nat.reduceMul, Nat.reduceLT, Nat.reduceLeDiff, Nat.reduceEqDiff, Nat.blt_eq, Int.reduceLT, Int.reduceLE, Int.reduceEq, Int.reduceToNat, Int.reduceNeg, Int.reduceAdd, Int.reduceSub, Int.reduceMul, Int.reducePow, reduceIte, decide_true, decide_false, reduceCtorEq]))
      all_goals ((repeat' (with_reducible refine And.intro ?_ ?_)) <;> try (first | trivial | omega | exact inK64 (by omega) (by omega) | exact inKu8 (by omega) (by omega) | (simp only [maxLen]; omega) | exact .inl trivial | exact .inl rfl))
      all_goals (refine ⟨_, h20o, rfl, ?_⟩)
      all_goals (try (simp (config := { maxSteps := 1000000 }) only [push_cast, Nat.reduceBEq, Nat.reduceBNe, Nat.reduceAdd, Nat.reduceSub, Nat.reduceMul, Nat.reduceLT, Nat.reduceLeDiff, Nat.reduceEqDiff, Nat.blt_eq, Int.reduceLT, Int.reduceLE, Int.reduceEq, Int.reduceToNat, Int.reduceNeg, Int.reduceAdd, Int.reduceSub, Int.reduceMul, Int.reducePow, reduceIte, decide_true, decide_false, reduceCtorEq]))
      all_goals ((repeat' (with_reducible refine And.intro ?_ ?_)) <;> try (first | trivial | omega | exact inK64 (by omega) (by omega) | exact inKu8 (by omega) (by omega) | (simp only [maxLen]; omega) | exact .inl trivial | exact .inl rfl))
      all_goals (refine ⟨_, h20b, rfl, ?_⟩)
      all_goals (try (simp (config := { maxSteps := 1000000 }) only [push_cast, Nat.reduceBEq, Nat.reduceBNe, Nat.reduceAdd, Nat.reduceSub, Nat.reduceMul, Nat.reduceLT, Nat.reduceLeDiff, Nat.reduceEqDiff, Nat.blt_eq, Int.reduceLT, Int.reduceLE, Int.reduceEq, Int.reduceToNat, Int.reduceNeg, Int.reduceAdd, Int.reduceSub, Int.reduceMul, Int.reducePow, reduceIte, decide_true, decide_false, reduceCtorEq]))
      all_goals ((repeat' (with_reducible refine And.intro ?_ ?_)) <;> try (first | trivial | omega | exact inK64 (by omega) (by omega) | exact inKu8 (by omega) (by omega) | (simp only [maxLen]; omega) | exact .inl trivial | exact .inl rfl))
      all_goals (refine ⟨_, h57o, rfl, ?_⟩)
      all_goals (try (simp (config := { maxSteps := 1000000 }) only [push_cast, Nat.reduceBEq, Nat.reduceBNe, Nat.reduceAdd, Nat.reduceSub, Nat.reduceMul, Nat.reduceLT, Nat.reduceLeDiff, Nat.reduceEqDiff, Nat.blt_eq, Int.reduceLT, Int.reduceLE, Int.reduceEq, Int.reduceToNat, Int.reduceNeg, Int.reduceAdd, Int.reduceSub, Int.reduceMul, Int.reducePow, reduceIte, decide_true, decide_false, reduceCtorEq]))
      all_goals ((repeat' (with_reducible refine And.intro ?_ ?_)) <;> try (first | trivial | omega | exact inK64 (by omega) (by omega) | exact inKu8 (by omega) (by omega) | (simp only [maxLen]; omega) | exact .inl trivial | exact .inl rfl))
      all_goals (refine ⟨_, h20z, rfl, ?_⟩)
      all_goals (try (simp (config := { maxSteps := 1000000 }) only [push_cast, Nat.reduceBEq, Nat.reduceBNe, Nat.reduceAdd, Nat.reduceSub, Nat.reduceMul, Nat.reduceLT, Nat.reduceLeDiff, Nat.reduceEqDiff, Nat.blt_eq, Int.reduceLT, Int.reduceLE, Int.reduceEq, Int.reduceToNat, Int.reduceNeg, Int.reduceAdd, Int.reduceSub, Int.reduceMul, Int.reducePow, reduceIte, decide_true, decide_false, reduceCtorEq]))
      all_goals ((repeat' (with_reducible refine And.intro ?_ ?_)) <;> try (first | trivial | omega | exact inK64 (by omega) (by omega) | exact inKu8 (by omega) (by omega) | (simp only [maxLen]; omega) | exact .inl trivial | exact .inl rfl))
      all_goals (refine ⟨_, h20a, rfl, ?_⟩)
      all_goals (try (simp (config := { maxSteps := 1000000 }) only [push_cast, Nat.reduceBEq, Nat.reduceBNe, Nat.reduceAdd, Nat.reduceSub, Nat.reduceMul, Nat.reduceLT, Nat.reduceLeDiff, Nat.reduceEqDiff, Nat.blt_eq, Int.reduceLT, Int.reduceLE, Int.reduceEq, Int.reduceToNat, Int.reduceNeg, Int.reduceAdd, Int.reduceSub, Int.reduceMul, Int.reducePow, reduceIte, decide_true, decide_false, reduceCtorEq]))
      all_goals ((repeat' (with_reducible refine And.intro ?_ ?_)) <;> try (first | trivial | omega | exact inK64 (by omega) (by omega) | exact inKu8 (by omega) (by omega) | (simp only [maxLen]; omega) | exact .inl trivial | exact .inl rfl))
      all_goals (refine ⟨_, h57z, rfl, ?_⟩)
      all_goals (try (simp (config := { maxSteps := 1000000 }) only [push_cast, Nat.reduceBEq, Nat.reduceBNe, Nat.reduceAdd, Nat.reduceSub, Nat.reduceMul, Nat.reduceLT, Nat.reduceLeDiff, Nat.reduceEqDiff, Nat.blt_eq, Int.reduceLT, Int.reduceLE, Int.reduceEq, Int.reduceToNat, Int.reduceNeg, Int.reduceAdd, Int.reduceSub, Int.reduceMul, Int.reducePow, reduceIte, decide_true, decide_false, reduceCtorEq]))
      all_goals ((repeat' (with_reducible refine And.intro ?_ ?_)) <;> try (first | trivial | omega | exact inK64 (by omega) (by omega) | exact inKu8 (by omega) (by omega) | (simp only [maxLen]; omega) | exact .inl trivial | exact .inl rfl))
      all_goals (refine ⟨_, d44, rfl, ?_⟩)
      all_goals (try (simp (config := { maxSteps := 1000000 }) only [push_cast, Nat.reduceBEq, Nat.reduceBNe, Nat.reduceAdd, Nat.reduceSub, Nat.reduceMul, Nat.reduceLT, Nat.reduceLeDiff, Nat.reduceEqDiff, Nat.blt_eq, Int.reduceLT, Int.reduceLE, Int.reduceEq, Int.reduceToNat, Int.reduceNeg, Int.reduceAdd, Int.reduceSub, Int.reduceMul, Int.reducePow, reduceIte, decide_true, decide_false, reduceCtorEq]))
      all_goals (first | trivial | (simp; done) | trace_state)
    · have hD' : decide ((diffC ⟨L, A⟩ ⟨M, B⟩ K).2 = 0) = false := decide_eq_false hD
      refine ⟨_, h21, rfl, ?_⟩
      (try (simp (config := { maxSteps := 1000000 }) only [push_cast, Nat.reduceBEq, Nat.reduceBNe, Nat.reduceAdd, Nat.reduceSub, Nat.reduceMul, Nat.reduceLT, Nat.reduceLeDiff, Nat.reduceEqDiff, Nat.blt_eq, Int.reduceLT, Int.reduceLE, Int.reduceEq, Int.reduceToNat, Int.reduceNeg, Int.reduceAdd, Int.reduceSub, Int.reduceMul, Int.reducePow, reduceIte, decide_true, decide_false, reduceCtorEq, hD']))
      refine ⟨_, d44, rfl, ?_⟩
      (try (simp (config := { maxSteps := 1000000 }) only [push_cast, Nat.reduceBEq, Nat.reduceBNe, Nat.reduceAdd, Nat.reduceSub, Nat.reduceMul, Nat.reduceLT, Nat.reduceLeDiff, Nat.reduceEqDiff, Nat.blt_eq, Int.reduceLT, Int.reduceLE, Int.reduceEq, Int.reduceToNat, Int.reduceNeg, Int.reduceAdd, Int.reduceSub, Int.reduceMul, Int.reducePow, reduceIte, decide_true, decide_false, reduceCtorEq]))
end Go.LS.Tryd
