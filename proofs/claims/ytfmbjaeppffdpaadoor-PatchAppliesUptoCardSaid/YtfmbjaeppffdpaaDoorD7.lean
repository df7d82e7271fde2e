/- Contracts of the functions of the seat, one by one (part D7); no condition but those that each bears. -/
import Derived.Test.YtfmbjaeppffdpaaDoorD6
namespace Go.LS.Tryd
open Go Go.LS
set_option maxRecDepth 100000
set_option linter.unusedSimpArgs false
set_option linter.unusedVariables false

theorem d22 (l m : List Cl) (hl : okLen l) (hm : okLen m) : Spec V 22 [.c (.d (.sl 3 (l.map eRC))), .c (.d (.sl 3 (m.map eRC)))] (b2 (sameCs l m)) := by
  unfold sameCs
  (refine Spec.of_go (L := fun | 0 => some [0, 1] | 1 => some [0, 1, 10] | 2 => some [4] | 3 => some [0, 1, 12, 13] | 4 => some [0, 1, 12, 13, 14] | 5 => some [0, 1, 5, 12, 13] | 6 => some [0, 1, 12, 13, 24] | 7 => some [4] | 8 => some [0, 1, 12, 13] | 9 => some [4] | _ => none) 1000 Go.Proofs.Tryd.func22 rfl rfl ⟨Nat.le_of_ble_eq_true rfl, rfl⟩ rfl ?_; unfold Go.Proofs.Tryd.f22; simp (config := { maxSteps := 1000000 }) only [push_cast, Nat.reduceBEq, Nat.reduceBNe, Nat.reduceAdd, Nat.reduceSub, Nat.reduceMul, Nat.reduceLT, Nat.reduceLeDiff, Nat.reduceEqDiff, Nat.blt_eq, Int.reduceLT, Int.reduceLE, Int.reduceEq, Int.reduceToNat, Int.reduceNeg, Int.reduceAdd, Int.reduceSub, Int.reduceMul, Int.reducePow, reduceIte, decide_true, decide_false, reduceCtorEq])
  refine BrP.mk (fun h => ?_) (fun h => ?_) <;> try (simp (config := { maxSteps := 1000000 }) only [push_cast, Nat.reduceBEq, Nat.reduceBNe, Nat.reduceAdd, Nat.reduceSub, Nat.reduceMul, Nat.reduceLT, Nat.reduceLeDiff, Nat.reduceEqDiff, Nat.blt_eq, Int.reduceLT, Int.reduceLE, Int.reduceEq, Int.reduceToNat, Int.reduceNeg, Int.reduceAdd, Int.reduceSub, Int.reduceMul, Int.reducePow, reduceIte, decide_true, decide_false, reduceCtorEq, h])
  · have : ¬ l.length = m.length := by simp at h; omega
    simp [this]
  · have hlm : l.length = m.length := by simp at h; omega
    simp only [hlm, decide_true, Bool.true_and]
    refine LoopK.s1 (α := Nat) [13] (fun k => [i2 .i64 k]) (fun k => k ≤ l.length ∧ sameCL (l.drop k) (m.drop k) = sameCL l m) (fun k => l.length - k) 1000 0 ⟨by omega, rfl⟩ (by (try (simp (config := { maxSteps := 1000000 }) only [push_cast, Nat.reduceBEq, Nat.reduceBNe, Nat.reduceAdd, Nat.reduceSub, Nat.reduceMul, Nat.reduceLT, Nat.reduceLeDiff, Nat.reduceEqDiff, Nat.blt_eq, Int.reduceLT, Int.reduceLE, Int.reduceEq, Int.reduceToNat, Int.reduceNeg, Int.reduceAdd, Int.reduceSub, Int.reduceMul, Int.reducePow, reduceIte, decide_true, decide_false, reduceCtorEq]))) ?_
    rintro k ⟨hk, hc⟩
    by_cases hlt : k < l.length
    · have hv := List.getElem?_eq_getElem hlt
      have hlt2 : k < m.length := by omega
      have hv2 := List.getElem?_eq_getElem hlt2
      have hd : decide ((k : Int) < (m.length : Int)) = true := decide_eq_true (by omega)
      rw [drop_cons hv, drop_cons hv2] at hc; simp only [sameCL] at hc
      (try (simp (config := { maxSteps := 1000000 }) only [push_cast, Nat.reduceBEq, Nat.reduceBNe, Nat.reduceAdd, Nat.reduceSub, Nat.reduceMul, Nat.reduceLT, Nat.reduceLeDiff, Nat.reduceEqDiff, Nat.blt_eq, Int.reduceLT, Int.reduceLE, Int.reduceEq, Int.reduceToNat, Int.reduceNeg, Int.reduceAdd, Int.reduceSub, Int.reduceMul, Int.reducePow, reduceIte, decide_true, decide_false, reduceCtorEq, hd, getD_map hv, getD_map hv2]))
      (refine DrawK.of (.take 0 (.take 1 (.take 2 (.take 3 (.take 4 (.take 5 (.take 6 (.take 7 (.take 8 .done))))))))) 1000 (by decide +kernel) ?_; try (simp (config := { maxSteps := 1000000 }) only [push_cast, Nat.reduceBEq, Nat.reduceBNe, Nat.reduceAdd, Nat.reduceSub, Nat.reduceMul, Nat.reduceLT, Nat.reduceLeDiff, Nat.reduceEqDiff, Nat.blt_eq, Int.reduceLT, Int.reduceLE, Int.reduceEq, Int.reduceToNat, Int.reduceNeg, Int.reduceAdd, Int.reduceSub, Int.reduceMul, Int.reducePow, reduceIte, decide_true, decide_false, reduceCtorEq]))
      (try (simp (config := { maxSteps := 1000000 }) only [push_cast, Nat.reduceBEq, Nat.reduceBNe, Nat.reduceAdd, Nat.reduceSub, Nat.reduceMul, Nat.reduceLT, Nat.reduceLeDiff, Nat.reduceEqDiff, Nat.blt_eq, Int.reduceLT, Int.reduceLE, Int.reduceEq, Int.reduceToNat, Int.reduceNeg, Int.reduceAdd, Int.reduceSub, Int.reduceMul, Int.reducePow, reduceIte, decide_true, decide_false, reduceCtorEq, hd, getD_map hv, getD_map hv2]))
      (repeat ((with_reducible refine And.intro ?_ ?_); focus (first | trivial | omega | exact inK64 (by omega) (by omega) | exact inKu8 (by omega) (by omega))))
      have hf := sameC_r l[k] m[k]
      rw [hf]
      refine BrP.mk (fun h => ?_) (fun h => ?_) <;> try (simp (config := { maxSteps := 1000000 }) only [push_cast, Nat.reduceBEq, Nat.reduceBNe, Nat.reduceAdd, Nat.reduceSub, Nat.reduceMul, Nat.reduceLT, Nat.reduceLeDiff, Nat.reduceEqDiff, Nat.blt_eq, Int.reduceLT, Int.reduceLE, Int.reduceEq, Int.reduceToNat, Int.reduceNeg, Int.reduceAdd, Int.reduceSub, Int.reduceMul, Int.reducePow, reduceIte, decide_true, decide_false, reduceCtorEq, h])
      · rw [if_pos (by simpa using h)] at hc
        exact hc
      · rw [if_neg (by simpa using h)] at hc
        (repeat ((with_reducible refine And.intro ?_ ?_); focus (first | trivial | omega | exact inK64 (by omega) (by omega) | exact inKu8 (by omega) (by omega))))
        refine ⟨k + 1, ⟨by omega, hc⟩, by omega, Le.st ?_⟩
        (try (simp (config := { maxSteps := 1000000 }) only [push_cast, Nat.reduceBEq, Nat.reduceBNe, Nat.reduceAdd, Nat.reduceSub, Nat.reduceMul, Nat.reduceLT, Nat.reduceLeDiff, Nat.reduceEqDiff, Nat.blt_eq, Int.reduceLT, Int.reduceLE, Int.reduceEq, Int.reduceToNat, Int.reduceNeg, Int.reduceAdd, Int.reduceSub, Int.reduceMul, Int.reducePow, reduceIte, decide_true, decide_false, reduceCtorEq]))
    · have hd : decide ((k : Int) < (m.length : Int)) = false := decide_eq_false (by omega)
      rw [List.drop_eq_nil_of_le (by omega)] at hc; simp only [sameCL] at hc
      (try (simp (config := { maxSteps := 1000000 }) only [push_cast, Nat.reduceBEq, Nat.reduceBNe, Nat.reduceAdd, Nat.reduceSub, Nat.reduceMul, Nat.reduceLT, Nat.reduceLeDiff, Nat.reduceEqDiff, Nat.blt_eq, Int.reduceLT, Int.reduceLE, Int.reduceEq, Int.reduceToNat, Int.reduceNeg, Int.reduceAdd, Int.reduceSub, Int.reduceMul, Int.reducePow, reduceIte, decide_true, decide_false, reduceCtorEq, hd]))
      exact hc
theorem diffC_parts {a b : Tb} {ks : List ByteArray} (h : (diffC a b ks).2 = 0) : a.L = b.L ∧ (tabF a ks).2 = 0 ∧ (tabF b ks).2 = 0 ∧ (diffC a b ks).1 = diffF (placesN a.L ks) a.R b.R := by
  unfold diffC at h ⊢
  split at h
  · cases h
  · rename_i h1
    split at h
    · rename_i h2; exact absurd h h2
    · rename_i h2
      split at h
      · rename_i h3; exact absurd h h3
      · rename_i h3
        rw [if_neg h1, if_neg h2, if_neg h3]
        exact ⟨sameCs_iff.1 (by simpa using h1), by simpa using h2, by simpa using h3, rfl⟩
theorem diffF_len (ps : List Nat) (A B : List (List Vl)) : (diffF ps A B).length ≤ A.length + B.length := by
  have h1 := gone_len ps B A
  have h2 := new_len ps A B
  unfold diffF
  rw [List.length_append]; omega
theorem diffF_ok {ps : List Nat} {A B : List (List Vl)} (hA : ∀ r ∈ A, okR2 r) (hB : ∀ r ∈ B, okR2 r) (hl : A.length + B.length ≤ 1000) : okChs (diffF ps A B) := by
  have hn : okR2 [] := ⟨by simp [okLen], by simp⟩
  refine ⟨by have := diffF_len ps A B; simp only [okLen]; omega, fun c hc => ?_⟩
  rcases List.mem_append.1 hc with hc | hc
  · obtain ⟨r, hr, hc⟩ := List.mem_flatMap.1 hc
    unfold chgF at hc
    split at hc
    · rw [List.mem_singleton.1 hc]; exact ⟨hA r hr, hn⟩
    · rename_i x hf
      split at hc
      · cases hc
      · rw [List.mem_singleton.1 hc]; exact ⟨hA r hr, hB x (List.mem_of_find?_eq_some hf)⟩
  · obtain ⟨r, hr, rfl⟩ := List.mem_map.1 hc
    exact ⟨hn, hB r (List.mem_filter.1 hr).1⟩
set_option maxHeartbeats 1000000 in
theorem d4 (z : Dc) (ha : okT0 z.A) (hb : okT0 z.B) (hk : okLen z.K) : Spec V 4 [.ag ((eD z).map .d)] (b2 true) := by
  have h16 := d16 z ha hb hk
  obtain ⟨A, B, K⟩ := z
  simp only at ha hb hk
  simp only [eD_eq] at h16
  (refine Spec.of_go (L := fun | 0 => some [1] | 1 => some [1, 9] | 2 => some [2] | 3 => some [1, 3, 4] | 4 => some [1, 3, 4, 6] | 5 => some [1, 3, 4, 6, 31] | 6 => some [1, 3, 4, 6] | 7 => some [1, 3, 4, 6, 50] | 8 => some [1, 3, 4, 6] | 9 => some [1, 3, 4, 6, 52] | 10 => some [2] | 11 => some [2] | _ => none) 1000 Go.Proofs.Tryd.func4 rfl rfl ⟨Nat.le_of_ble_eq_true rfl, rfl⟩ rfl ?_; unfold Go.Proofs.Tryd.f4; simp (config := { maxSteps := 1000000 }) only [push_cast, Nat.reduceBEq, Nat.reduceBNe, Nat.reduceAdd, Nat.reduceSub, Nat.reduceMul, Nat.reduceLT, Nat.reduceLeDiff, Nat.reduceEqDiff, Nat.blt_eq, Int.reduceLT, Int.reduceLE, Int.reduceEq, Int.reduceToNat, Int.reduceNeg, Int.reduceAdd, Int.reduceSub, Int.reduceMul, Int.reducePow, reduceIte, decide_true, decide_false, reduceCtorEq])
  refine ⟨_, h16, rfl, ?_⟩
  (try (simp (config := { maxSteps := 1000000 }) only [push_cast, Nat.reduceBEq, Nat.reduceBNe, Nat.reduceAdd, Nat.reduceSub, Nat.reduceMul, Nat.reduceLT, Nat.reduceLeDiff, Nat.reduceEqDiff, Nat.blt_eq, Int.reduceLT, Int.reduceLE, Int.reduceEq, Int.reduceToNat, Int.reduceNeg, Int.reduceAdd, Int.reduceSub, Int.reduceMul, Int.reducePow, reduceIte, decide_true, decide_false, reduceCtorEq]))
  cases hf : fitsD ⟨A, B, K⟩ with
  | false =>
    (try (simp (config := { maxSteps := 1000000 }) only [push_cast, Nat.reduceBEq, Nat.reduceBNe, Nat.reduceAdd, Nat.reduceSub, Nat.reduceMul, Nat.reduceLT, Nat.reduceLeDiff, Nat.reduceEqDiff, Nat.blt_eq, Int.reduceLT, Int.reduceLE, Int.reduceEq, Int.reduceToNat, Int.reduceNeg, Int.reduceAdd, Int.reduceSub, Int.reduceMul, Int.reducePow, reduceIte, decide_true, decide_false, reduceCtorEq]))
    refine ⟨_, d17, rfl, ?_⟩
    (try (simp (config := { maxSteps := 1000000 }) only [push_cast, Nat.reduceBEq, Nat.reduceBNe, Nat.reduceAdd, Nat.reduceSub, Nat.reduceMul, Nat.reduceLT, Nat.reduceLeDiff, Nat.reduceEqDiff, Nat.blt_eq, Int.reduceLT, Int.reduceLE, Int.reduceEq, Int.reduceToNat, Int.reduceNeg, Int.reduceAdd, Int.reduceSub, Int.reduceMul, Int.reducePow, reduceIte, decide_true, decide_false, reduceCtorEq]))
  | true =>
    obtain ⟨f1, f2, f3, f4⟩ : shortK K = true ∧ fewT A = true ∧ fewT B = true ∧ K.length ≤ 12 := by simpa only [fitsD, Bool.and_eq_true, decide_eq_true_eq] using hf
    have hk2 : okKeys K := by simp only [okKeys]; omega
    have hla := (fewT_len f2).2
    have hlb := (fewT_len f3).2
    have h21 := d21 A B K (ha.right f2) (hb.right f3) hk2 (by omega) (by omega)
    have h19a := d19 A K (ha.right f2) hk2
    have h19b := d19 B K (hb.right f3) hk2
    have h20a := d20 A ha
    have h20b := d20 B hb
    have h23a := f18 A.L ha.l.1
    have h23b := f18 B.L hb.l.1
    have h22 := d22 A.L B.L ha.l.1 hb.l.1
    have hD : diffC A B K = if sameCs A.L B.L = false then ([], 21) else if (tabF A K).2 ≠ 0 then ([], (tabF A K).2) else if (tabF B K).2 ≠ 0 then ([], (tabF B K).2) else (diffF (placesN A.L K) A.R B.R, 0) := rfl
    simp only [eT_eq, eRT_eq] at h21 h19a h19b h20a h20b
    (try (simp (config := { maxSteps := 1000000 }) only [push_cast, Nat.reduceBEq, Nat.reduceBNe, Nat.reduceAdd, Nat.reduceSub, Nat.reduceMul, Nat.reduceLT, Nat.reduceLeDiff, Nat.reduceEqDiff, Nat.blt_eq, Int.reduceLT, Int.reduceLE, Int.reduceEq, Int.reduceToNat, Int.reduceNeg, Int.reduceAdd, Int.reduceSub, Int.reduceMul, Int.reducePow, reduceIte, decide_true, decide_false, reduceCtorEq]))
    refine ⟨_, h21, rfl, ?_⟩
    (try (simp (config := { maxSteps := 1000000 }) only [push_cast, Nat.reduceBEq, Nat.reduceBNe, Nat.reduceAdd, Nat.reduceSub, Nat.reduceMul, Nat.reduceLT, Nat.reduceLeDiff, Nat.reduceEqDiff, Nat.blt_eq, Int.reduceLT, Int.reduceLE, Int.reduceEq, Int.reduceToNat, Int.reduceNeg, Int.reduceAdd, Int.reduceSub, Int.reduceMul, Int.reducePow, reduceIte, decide_true, decide_false, reduceCtorEq]))
    (refine DrawK.of (.take 0 (.take 1 (.take 3 (.take 4 (.one 2 (.one 5 (.take 6 (.take 7 (.take 8 (.take 9 (.take 10 .done))))))))))) 1000 (by decide +kernel) ?_; try (simp (config := { maxSteps := 1000000 }) only [push_cast, Nat.reduceBEq, Nat.reduceBNe, Nat.reduceAdd, Nat.reduceSub, Nat.reduceMul, Nat.reduceLT, Nat.reduceLeDiff, Nat.reduceEqDiff, Nat.blt_eq, Int.reduceLT, Int.reduceLE, Int.reduceEq, Int.reduceToNat, Int.reduceNeg, Int.reduceAdd, Int.reduceSub, Int.reduceMul, Int.reducePow, reduceIte, decide_true, decide_false, reduceCtorEq]))
    refine ⟨_, h20a, rfl, ?_⟩
    (try (simp (config := { maxSteps := 1000000 }) only [push_cast, Nat.reduceBEq, Nat.reduceBNe, Nat.reduceAdd, Nat.reduceSub, Nat.reduceMul, Nat.reduceLT, Nat.reduceLeDiff, Nat.reduceEqDiff, Nat.blt_eq, Int.reduceLT, Int.reduceLE, Int.reduceEq, Int.reduceToNat, Int.reduceNeg, Int.reduceAdd, Int.reduceSub, Int.reduceMul, Int.reducePow, reduceIte, decide_true, decide_false, reduceCtorEq]))
    refine ⟨_, h19a, rfl, ?_⟩
    (try (simp (config := { maxSteps := 1000000 }) only [push_cast, Nat.reduceBEq, Nat.reduceBNe, Nat.reduceAdd, Nat.reduceSub, Nat.reduceMul, Nat.reduceLT, Nat.reduceLeDiff, Nat.reduceEqDiff, Nat.blt_eq, Int.reduceLT, Int.reduceLE, Int.reduceEq, Int.reduceToNat, Int.reduceNeg, Int.reduceAdd, Int.reduceSub, Int.reduceMul, Int.reducePow, reduceIte, decide_true, decide_false, reduceCtorEq]))
    have hend : ∀ (b0 : Bool), b0 = true → True := fun _ _ => trivial
    by_cases hA : (tabF A K).2 = 0
    · (try (simp (config := { maxSteps := 1000000 }) only [push_cast, Nat.reduceBEq, Nat.reduceBNe, Nat.reduceAdd, Nat.reduceSub, Nat.reduceMul, Nat.reduceLT, Nat.reduceLeDiff, Nat.reduceEqDiff, Nat.blt_eq, Int.reduceLT, Int.reduceLE, Int.reduceEq, Int.reduceToNat, Int.reduceNeg, Int.reduceAdd, Int.reduceSub, Int.reduceMul, Int.reducePow, reduceIte, decide_true, decide_false, reduceCtorEq, hA]))
      (refine DrawK.of (.take 0 (.take 1 (.take 3 (.take 4 (.one 2 (.one 5 (.take 6 (.take 7 (.take 8 (.take 9 .done)))))))))) 1000 (by decide +kernel) ?_; try (simp (config := { maxSteps := 1000000 }) only [push_cast, Nat.reduceBEq, Nat.reduceBNe, Nat.reduceAdd, Nat.reduceSub, Nat.reduceMul, Nat.reduceLT, Nat.reduceLeDiff, Nat.reduceEqDiff, Nat.blt_eq, Int.reduceLT, Int.reduceLE, Int.reduceEq, Int.reduceToNat, Int.reduceNeg, Int.reduceAdd, Int.reduceSub, Int.reduceMul, Int.reducePow, reduceIte, decide_true, decide_false, reduceCtorEq]))
      refine ⟨_, h20b, rfl, ?_⟩
      (try (simp (config := { maxSteps := 1000000 }) only [push_cast, Nat.reduceBEq, Nat.reduceBNe, Nat.reduceAdd, Nat.reduceSub, Nat.reduceMul, Nat.reduceLT, Nat.reduceLeDiff, Nat.reduceEqDiff, Nat.blt_eq, Int.reduceLT, Int.reduceLE, Int.reduceEq, Int.reduceToNat, Int.reduceNeg, Int.reduceAdd, Int.reduceSub, Int.reduceMul, Int.reducePow, reduceIte, decide_true, decide_false, reduceCtorEq]))
      refine ⟨_, h19b, rfl, ?_⟩
      (try (simp (config := { maxSteps := 1000000 }) only [push_cast, Nat.reduceBEq, Nat.reduceBNe, Nat.reduceAdd, Nat.reduceSub, Nat.reduceMul, Nat.reduceLT, Nat.reduceLeDiff, Nat.reduceEqDiff, Nat.blt_eq, Int.reduceLT, Int.reduceLE, Int.reduceEq, Int.reduceToNat, Int.reduceNeg, Int.reduceAdd, Int.reduceSub, Int.reduceMul, Int.reducePow, reduceIte, decide_true, decide_false, reduceCtorEq]))
      (refine DrawK.of (.take 0 (.take 1 (.take 2 (.take 4 (.take 5 (.take 6 (.one 3 (.one 7 (.one 8 (.take 9 .done)))))))))) 1000 (by decide +kernel) ?_; try (simp (config := { maxSteps := 1000000 }) only [push_cast, Nat.reduceBEq, Nat.reduceBNe, Nat.reduceAdd, Nat.reduceSub, Nat.reduceMul, Nat.reduceLT, Nat.reduceLeDiff, Nat.reduceEqDiff, Nat.blt_eq, Int.reduceLT, Int.reduceLE, Int.reduceEq, Int.reduceToNat, Int.reduceNeg, Int.reduceAdd, Int.reduceSub, Int.reduceMul, Int.reducePow, reduceIte, decide_true, decide_false, reduceCtorEq]))
      refine ⟨_, h23a, rfl, ?_⟩
      (try (simp (config := { maxSteps := 1000000 }) only [push_cast, Nat.reduceBEq, Nat.reduceBNe, Nat.reduceAdd, Nat.reduceSub, Nat.reduceMul, Nat.reduceLT, Nat.reduceLeDiff, Nat.reduceEqDiff, Nat.blt_eq, Int.reduceLT, Int.reduceLE, Int.reduceEq, Int.reduceToNat, Int.reduceNeg, Int.reduceAdd, Int.reduceSub, Int.reduceMul, Int.reducePow, reduceIte, decide_true, decide_false, reduceCtorEq]))
      refine ⟨_, h23b, rfl, ?_⟩
      (try (simp (config := { maxSteps := 1000000 }) only [push_cast, Nat.reduceBEq, Nat.reduceBNe, Nat.reduceAdd, Nat.reduceSub, Nat.reduceMul, Nat.reduceLT, Nat.reduceLeDiff, Nat.reduceEqDiff, Nat.blt_eq, Int.reduceLT, Int.reduceLE, Int.reduceEq, Int.reduceToNat, Int.reduceNeg, Int.reduceAdd, Int.reduceSub, Int.reduceMul, Int.reducePow, reduceIte, decide_true, decide_false, reduceCtorEq]))
      refine ⟨_, h22, rfl, ?_⟩
      (try (simp (config := { maxSteps := 1000000 }) only [push_cast, Nat.reduceBEq, Nat.reduceBNe, Nat.reduceAdd, Nat.reduceSub, Nat.reduceMul, Nat.reduceLT, Nat.reduceLeDiff, Nat.reduceEqDiff, Nat.blt_eq, Int.reduceLT, Int.reduceLE, Int.reduceEq, Int.reduceToNat, Int.reduceNeg, Int.reduceAdd, Int.reduceSub, Int.reduceMul, Int.reducePow, reduceIte, decide_true, decide_false, reduceCtorEq]))
      cases hS : sameCs A.L B.L with
      | false =>
        rw [hS, if_pos rfl] at hD
        rw [hD]
        (try (simp (config := { maxSteps := 1000000 }) only [push_cast, Nat.reduceBEq, Nat.reduceBNe, Nat.reduceAdd, Nat.reduceSub, Nat.reduceMul, Nat.reduceLT, Nat.reduceLeDiff, Nat.reduceEqDiff, Nat.blt_eq, Int.reduceLT, Int.reduceLE, Int.reduceEq, Int.reduceToNat, Int.reduceNeg, Int.reduceAdd, Int.reduceSub, Int.reduceMul, Int.reducePow, reduceIte, decide_true, decide_false, reduceCtorEq]))
        refine ⟨_, d17, rfl, ?_⟩
        (try (simp (config := { maxSteps := 1000000 }) only [push_cast, Nat.reduceBEq, Nat.reduceBNe, Nat.reduceAdd, Nat.reduceSub, Nat.reduceMul, Nat.reduceLT, Nat.reduceLeDiff, Nat.reduceEqDiff, Nat.blt_eq, Int.reduceLT, Int.reduceLE, Int.reduceEq, Int.reduceToNat, Int.reduceNeg, Int.reduceAdd, Int.reduceSub, Int.reduceMul, Int.reducePow, reduceIte, decide_true, decide_false, reduceCtorEq]))
      | true =>
        rw [hS, if_neg (by simp), if_neg (by simp [hA])] at hD
        (try (simp (config := { maxSteps := 1000000 }) only [push_cast, Nat.reduceBEq, Nat.reduceBNe, Nat.reduceAdd, Nat.reduceSub, Nat.reduceMul, Nat.reduceLT, Nat.reduceLeDiff, Nat.reduceEqDiff, Nat.blt_eq, Int.reduceLT, Int.reduceLE, Int.reduceEq, Int.reduceToNat, Int.reduceNeg, Int.reduceAdd, Int.reduceSub, Int.reduceMul, Int.reducePow, reduceIte, decide_true, decide_false, reduceCtorEq]))
        by_cases hB : (tabF B K).2 = 0
        · rw [if_neg (by simp [hB])] at hD
          rw [hD]
          have hAp := tab_apart hA
          have hBp := tab_apart hB
          have hAr := tab_rows hA
          have hBr := tab_rows hB
          have hAt := tab_lt hA
          have eL := sameCs_iff.1 hS
          have hok := diffF_ok (ps := placesN A.L K) ha.v hb.v (by omega)
          have hdl := diffF_len (placesN A.L K) A.R B.R
          have h25 := d25 _ hok (by omega)
          have h26 := d26 A B K ha hb hk (tab_found hA) (fun r hr p hp => by have := hAt p hp; have := (hAr r hr).1; omega) (fun r hr p hp => by have := hAt p hp; have := (hBr r hr).1; rw [← eL] at this; omega) (by omega) (by omega)
          rw [goneR_eq (by rw [eL]; exact hBp), newR_eq] at h26
          have h24 := d24 (diffF (placesN A.L K) A.R B.R) (goneF (placesN A.L K) A.R B.R ++ newF (placesN A.L K) A.R B.R) hok hok
          rw [show oneCs (diffF (placesN A.L K) A.R B.R) (goneF (placesN A.L K) A.R B.R ++ newF (placesN A.L K) A.R B.R) = true from oneCs_self _] at h24
          simp only [eRT_eq] at h26
          (try (simp (config := { maxSteps := 1000000 }) only [push_cast, Nat.reduceBEq, Nat.reduceBNe, Nat.reduceAdd, Nat.reduceSub, Nat.reduceMul, Nat.reduceLT, Nat.reduceLeDiff, Nat.reduceEqDiff, Nat.blt_eq, Int.reduceLT, Int.reduceLE, Int.reduceEq, Int.reduceToNat, Int.reduceNeg, Int.reduceAdd, Int.reduceSub, Int.reduceMul, Int.reducePow, reduceIte, decide_true, decide_false, reduceCtorEq, hB]))
          (refine DrawK.of (.take 0 (.take 1 (.take 2 (.take 3 (.take 5 (.take 6 (.take 8 (.take 9 (.take 11 (.take 12 (.one 4 (.one 7 (.one 10 (.one 13 (.one 14 (.take 15 (.take 16 (.one 17 (.take 18 (.take 19 .done)))))))))))))))))))) 1000 (by decide +kernel) ?_; try (simp (config := { maxSteps := 1000000 }) only [push_cast, Nat.reduceBEq, Nat.reduceBNe, Nat.reduceAdd, Nat.reduceSub, Nat.reduceMul, Nat.reduceLT, Nat.reduceLeDiff, Nat.reduceEqDiff, Nat.blt_eq, Int.reduceLT, Int.reduceLE, Int.reduceEq, Int.reduceToNat, Int.reduceNeg, Int.reduceAdd, Int.reduceSub, Int.reduceMul, Int.reducePow, reduceIte, decide_true, decide_false, reduceCtorEq]))
          refine ⟨_, h25, rfl, ?_⟩
          (try (simp (config := { maxSteps := 1000000 }) only [push_cast, Nat.reduceBEq, Nat.reduceBNe, Nat.reduceAdd, Nat.reduceSub, Nat.reduceMul, Nat.reduceLT, Nat.reduceLeDiff, Nat.reduceEqDiff, Nat.blt_eq, Int.reduceLT, Int.reduceLE, Int.reduceEq, Int.reduceToNat, Int.reduceNeg, Int.reduceAdd, Int.reduceSub, Int.reduceMul, Int.reducePow, reduceIte, decide_true, decide_false, reduceCtorEq]))
          refine ⟨_, h20a, rfl, ?_⟩
          (try (simp (config := { maxSteps := 1000000 }) only [push_cast, Nat.reduceBEq, Nat.reduceBNe, Nat.reduceAdd, Nat.reduceSub, Nat.reduceMul, Nat.reduceLT, Nat.reduceLeDiff, Nat.reduceEqDiff, Nat.blt_eq, Int.reduceLT, Int.reduceLE, Int.reduceEq, Int.reduceToNat, Int.reduceNeg, Int.reduceAdd, Int.reduceSub, Int.reduceMul, Int.reducePow, reduceIte, decide_true, decide_false, reduceCtorEq]))
          refine ⟨_, h20b, rfl, ?_⟩
          (try (simp (config := { maxSteps := 1000000 }) only [push_cast, Nat.reduceBEq, Nat.reduceBNe, Nat.reduceAdd, Nat.reduceSub, Nat.reduceMul, Nat.reduceLT, Nat.reduceLeDiff, Nat.reduceEqDiff, Nat.blt_eq, Int.reduceLT, Int.reduceLE, Int.reduceEq, Int.reduceToNat, Int.reduceNeg, Int.reduceAdd, Int.reduceSub, Int.reduceMul, Int.reducePow, reduceIte, decide_true, decide_false, reduceCtorEq]))
          refine ⟨_, h26, rfl, ?_⟩
          (try (simp (config := { maxSteps := 1000000 }) only [push_cast, Nat.reduceBEq, Nat.reduceBNe, Nat.reduceAdd, Nat.reduceSub, Nat.reduceMul, Nat.reduceLT, Nat.reduceLeDiff, Nat.reduceEqDiff, Nat.blt_eq, Int.reduceLT, Int.reduceLE, Int.reduceEq, Int.reduceToNat, Int.reduceNeg, Int.reduceAdd, Int.reduceSub, Int.reduceMul, Int.reducePow, reduceIte, decide_true, decide_false, reduceCtorEq]))
          refine ⟨_, h24, rfl, ?_⟩
          (try (simp (config := { maxSteps := 1000000 }) only [push_cast, Nat.reduceBEq, Nat.reduceBNe, Nat.reduceAdd, Nat.reduceSub, Nat.reduceMul, Nat.reduceLT, Nat.reduceLeDiff, Nat.reduceEqDiff, Nat.blt_eq, Int.reduceLT, Int.reduceLE, Int.reduceEq, Int.reduceToNat, Int.reduceNeg, Int.reduceAdd, Int.reduceSub, Int.reduceMul, Int.reducePow, reduceIte, decide_true, decide_false, reduceCtorEq]))
          refine ⟨_, d17, rfl, ?_⟩
          (try (simp (config := { maxSteps := 1000000 }) only [push_cast, Nat.reduceBEq, Nat.reduceBNe, Nat.reduceAdd, Nat.reduceSub, Nat.reduceMul, Nat.reduceLT, Nat.reduceLeDiff, Nat.reduceEqDiff, Nat.blt_eq, Int.reduceLT, Int.reduceLE, Int.reduceEq, Int.reduceToNat, Int.reduceNeg, Int.reduceAdd, Int.reduceSub, Int.reduceMul, Int.reducePow, reduceIte, decide_true, decide_false, reduceCtorEq]))
        · rw [if_pos hB] at hD
          rw [hD]
          have hB' : decide ((tabF B K).2 = 0) = false := decide_eq_false hB
          (try (simp (config := { maxSteps := 1000000 }) only [push_cast, Nat.reduceBEq, Nat.reduceBNe, Nat.reduceAdd, Nat.reduceSub, Nat.reduceMul, Nat.reduceLT, Nat.reduceLeDiff, Nat.reduceEqDiff, Nat.blt_eq, Int.reduceLT, Int.reduceLE, Int.reduceEq, Int.reduceToNat, Int.reduceNeg, Int.reduceAdd, Int.reduceSub, Int.reduceMul, Int.reducePow, reduceIte, decide_true, decide_false, reduceCtorEq, hB']))
          refine ⟨_, d17, rfl, ?_⟩
          (try (simp (config := { maxSteps := 1000000 }) only [push_cast, Nat.reduceBEq, Nat.reduceBNe, Nat.reduceAdd, Nat.reduceSub, Nat.reduceMul, Nat.reduceLT, Nat.reduceLeDiff, Nat.reduceEqDiff, Nat.blt_eq, Int.reduceLT, Int.reduceLE, Int.reduceEq, Int.reduceToNat, Int.reduceNeg, Int.reduceAdd, Int.reduceSub, Int.reduceMul, Int.reducePow, reduceIte, decide_true, decide_false, reduceCtorEq]))
    · have hA' : decide ((tabF A K).2 = 0) = false := decide_eq_false hA
      (try (simp (config := { maxSteps := 1000000 }) only [push_cast, Nat.reduceBEq, Nat.reduceBNe, Nat.reduceAdd, Nat.reduceSub, Nat.reduceMul, Nat.reduceLT, Nat.reduceLeDiff, Nat.reduceEqDiff, Nat.blt_eq, Int.reduceLT, Int.reduceLE, Int.reduceEq, Int.reduceToNat, Int.reduceNeg, Int.reduceAdd, Int.reduceSub, Int.reduceMul, Int.reducePow, reduceIte, decide_true, decide_false, reduceCtorEq, hA']))
      (refine DrawK.of (.take 0 (.take 1 (.take 2 (.take 4 (.take 5 (.take 6 (.one 3 (.one 7 (.one 8 (.take 9 .done)))))))))) 1000 (by decide +kernel) ?_; try (simp (config := { maxSteps := 1000000 }) only [push_cast, Nat.reduceBEq, Nat.reduceBNe, Nat.reduceAdd, Nat.reduceSub, Nat.reduceMul, Nat.reduceLT, Nat.reduceLeDiff, Nat.reduceEqDiff, Nat.blt_eq, Int.reduceLT, Int.reduceLE, Int.reduceEq, Int.reduceToNat, Int.reduceNeg, Int.reduceAdd, Int.reduceSub, Int.reduceMul, Int.reducePow, reduceIte, decide_true, decide_false, reduceCtorEq]))
      refine ⟨_, h23a, rfl, ?_⟩
      (try (simp (config := { maxSteps := 1000000 }) only [push_cast, Nat.reduceBEq, Nat.reduceBNe, Nat.reduceAdd, Nat.reduceSub, Nat.reduceMul, Nat.reduceLT, Nat.reduceLeDiff, Nat.reduceEqDiff, Nat.blt_eq, Int.reduceLT, Int.reduceLE, Int.reduceEq, Int.reduceToNat, Int.reduceNeg, Int.reduceAdd, Int.reduceSub, Int.reduceMul, Int.reducePow, reduceIte, decide_true, decide_false, reduceCtorEq]))
      refine ⟨_, h23b, rfl, ?_⟩
      (try (simp (config := { maxSteps := 1000000 }) only [push_cast, Nat.reduceBEq, Nat.reduceBNe, Nat.reduceAdd, Nat.reduceSub, Nat.reduceMul, Nat.reduceLT, Nat.reduceLeDiff, Nat.reduceEqDiff, Nat.blt_eq, Int.reduceLT, Int.reduceLE, Int.reduceEq, Int.reduceToNat, Int.reduceNeg, Int.reduceAdd, Int.reduceSub, Int.reduceMul, Int.reducePow, reduceIte, decide_true, decide_false, reduceCtorEq]))
      refine ⟨_, h22, rfl, ?_⟩
      (try (simp (config := { maxSteps := 1000000 }) only [push_cast, Nat.reduceBEq, Nat.reduceBNe, Nat.reduceAdd, Nat.reduceSub, Nat.reduceMul, Nat.reduceLT, Nat.reduceLeDiff, Nat.reduceEqDiff, Nat.blt_eq, Int.reduceLT, Int.reduceLE, Int.reduceEq, Int.reduceToNat, Int.reduceNeg, Int.reduceAdd, Int.reduceSub, Int.reduceMul, Int.reducePow, reduceIte, decide_true, decide_false, reduceCtorEq]))
      cases hS : sameCs A.L B.L with
      | false =>
        rw [hS, if_pos rfl] at hD
        rw [hD]
        (try (simp (config := { maxSteps := 1000000 }) only [push_cast, Nat.reduceBEq, Nat.reduceBNe, Nat.reduceAdd, Nat.reduceSub, Nat.reduceMul, Nat.reduceLT, Nat.reduceLeDiff, Nat.reduceEqDiff, Nat.blt_eq, Int.reduceLT, Int.reduceLE, Int.reduceEq, Int.reduceToNat, Int.reduceNeg, Int.reduceAdd, Int.reduceSub, Int.reduceMul, Int.reducePow, reduceIte, decide_true, decide_false, reduceCtorEq]))
        refine ⟨_, d17, rfl, ?_⟩
        (try (simp (config := { maxSteps := 1000000 }) only [push_cast, Nat.reduceBEq, Nat.reduceBNe, Nat.reduceAdd, Nat.reduceSub, Nat.reduceMul, Nat.reduceLT, Nat.reduceLeDiff, Nat.reduceEqDiff, Nat.blt_eq, Int.reduceLT, Int.reduceLE, Int.reduceEq, Int.reduceToNat, Int.reduceNeg, Int.reduceAdd, Int.reduceSub, Int.reduceMul, Int.reducePow, reduceIte, decide_true, decide_false, reduceCtorEq]))
      | true =>
        rw [hS, if_neg (by simp), if_pos hA] at hD
        rw [hD]
        (try (simp (config := { maxSteps := 1000000 }) only [push_cast, Nat.reduceBEq, Nat.reduceBNe, Nat.reduceAdd, Nat.reduceSub, Nat.reduceMul, Nat.reduceLT, Nat.reduceLeDiff, Nat.reduceEqDiff, Nat.blt_eq, Int.reduceLT, Int.reduceLE, Int.reduceEq, Int.reduceToNat, Int.reduceNeg, Int.reduceAdd, Int.reduceSub, Int.reduceMul, Int.reducePow, reduceIte, decide_true, decide_false, reduceCtorEq, hA']))
        refine ⟨_, d17, rfl, ?_⟩
        (try (simp (config := { maxSteps := 1000000 }) only [push_cast, Nat.reduceBEq, Nat.reduceBNe, Nat.reduceAdd, Nat.reduceSub, Nat.reduceMul, Nat.reduceLT, Nat.reduceLeDiff, Nat.reduceEqDiff, Nat.blt_eq, Int.reduceLT, Int.reduceLE, Int.reduceEq, Int.reduceToNat, Int.reduceNeg, Int.reduceAdd, Int.reduceSub, Int.reduceMul, Int.reducePow, reduceIte, decide_true, decide_false, reduceCtorEq]))
theorem turnF_len (l : List Ch) : (turnF l).length = l.length := by
  rw [(turn_perm l).length_eq, List.length_map]
theorem turnF_ok {l : List Ch} (h : okChs l) : okChs (turnF l) := by
  refine ⟨by have := h.1; simp only [okLen, turnF_len] at this ⊢; exact this, fun c hc => ?_⟩
  rw [(turn_perm l).mem_iff] at hc
  obtain ⟨d, hd, rfl⟩ := List.mem_map.1 hc
  have := h.2 d hd
  split
  · exact ⟨this.2, this.1⟩
  · split <;> exact ⟨this.2, this.1⟩
set_option maxHeartbeats 1000000 in
theorem d5 (z : Dc) (ha : okT0 z.A) (hb : okT0 z.B) (hk : okLen z.K) : Spec V 5 [.ag ((eD z).map .d)] (b2 true) := by
  have h16 := d16 z ha hb hk
  obtain ⟨A, B, K⟩ := z
  simp only at ha hb hk
  simp only [eD_eq] at h16
  (refine Spec.of_go (L := fun | 0 => some [1] | 1 => some [1, 17] | 2 => some [2] | 3 => some [1, 3, 4] | 4 => some [1, 3, 30] | 5 => some [2] | 6 => some [1, 3, 5, 6] | 7 => some [1, 3, 5, 6, 7, 8] | 8 => some [1, 3, 5, 6, 7, 8, 9] | 9 => some [1, 3, 79] | 10 => some [2] | 11 => some [1, 82] | 12 => some [1, 85, 86, 87] | 13 => some [1, 85, 86, 87, 88] | 14 => some [1, 11, 85, 86, 87] | 15 => some [1, 11, 12, 85, 86, 87] | 16 => some [1, 11, 12, 85, 86, 87, 93, 94, 95] | 17 => some [1, 11, 12, 85, 86, 87, 93, 94, 95, 96] | 18 => some [1, 11, 12, 14, 85, 86, 87, 93, 94, 95] | 19 => some [1, 11, 12, 85, 86, 87, 93, 94, 95] | 20 => some [1, 11, 12, 85, 86, 87, 93, 94, 95] | 21 => some [1, 85, 86, 87, 109] | 22 => some [2] | 23 => some [1, 85, 86, 87] | 24 => some [2] | 25 => some [2] | _ => none) 1000 Go.Proofs.Tryd.func5 rfl rfl ⟨Nat.le_of_ble_eq_true rfl, rfl⟩ rfl ?_; unfold Go.Proofs.Tryd.f5; simp (config := { maxSteps := 1000000 }) only [push_cast, Nat.reduceBEq, Nat.reduceBNe, Nat.reduceAdd, Nat.reduceSub, Nat.reduceMul, Nat.reduceLT, Nat.reduceLeDiff, Nat.reduceEqDiff, Nat.blt_eq, Int.reduceLT, Int.reduceLE, Int.reduceEq, Int.reduceToNat, Int.reduceNeg, Int.reduceAdd, Int.reduceSub, Int.reduceMul, Int.reducePow, reduceIte, decide_true, decide_false, reduceCtorEq])
  refine ⟨_, h16, rfl, ?_⟩
  (try (simp (config := { maxSteps := 1000000 }) only [push_cast, Nat.reduceBEq, Nat.reduceBNe, Nat.reduceAdd, Nat.reduceSub, Nat.reduceMul, Nat.reduceLT, Nat.reduceLeDiff, Nat.reduceEqDiff, Nat.blt_eq, Int.reduceLT, Int.reduceLE, Int.reduceEq, Int.reduceToNat, Int.reduceNeg, Int.reduceAdd, Int.reduceSub, Int.reduceMul, Int.reducePow, reduceIte, decide_true, decide_false, reduceCtorEq]))
  cases hf : fitsD ⟨A, B, K⟩ with
  | false =>
    (try (simp (config := { maxSteps := 1000000 }) only [push_cast, Nat.reduceBEq, Nat.reduceBNe, Nat.reduceAdd, Nat.reduceSub, Nat.reduceMul, Nat.reduceLT, Nat.reduceLeDiff, Nat.reduceEqDiff, Nat.blt_eq, Int.reduceLT, Int.reduceLE, Int.reduceEq, Int.reduceToNat, Int.reduceNeg, Int.reduceAdd, Int.reduceSub, Int.reduceMul, Int.reducePow, reduceIte, decide_true, decide_false, reduceCtorEq]))
    refine ⟨_, d17, rfl, ?_⟩
    (try (simp (config := { maxSteps := 1000000 }) only [push_cast, Nat.reduceBEq, Nat.reduceBNe, Nat.reduceAdd, Nat.reduceSub, Nat.reduceMul, Nat.reduceLT, Nat.reduceLeDiff, Nat.reduceEqDiff, Nat.blt_eq, Int.reduceLT, Int.reduceLE, Int.reduceEq, Int.reduceToNat, Int.reduceNeg, Int.reduceAdd, Int.reduceSub, Int.reduceMul, Int.reducePow, reduceIte, decide_true, decide_false, reduceCtorEq]))
  | true =>
    obtain ⟨f1, f2, f3, f4⟩ : shortK K = true ∧ fewT A = true ∧ fewT B = true ∧ K.length ≤ 12 := by simpa only [fitsD, Bool.and_eq_true, decide_eq_true_eq] using hf
    have hk2 : okKeys K := by simp only [okKeys]; omega
    have hla := (fewT_len f2).2
    have hlb := (fewT_len f3).2
    have h21 := d21 A B K (ha.right f2) (hb.right f3) hk2 (by omega) (by omega)
    have h21b := d21 B A K (hb.right f3) (ha.right f2) hk2 (by omega) (by omega)
    have h21o := d21 A A K (ha.right f2) (ha.right f2) hk2 (by omega) (by omega)
    simp only [eT_eq] at h21 h21b h21o
    (try (simp (config := { maxSteps := 1000000 }) only [push_cast, Nat.reduceBEq, Nat.reduceBNe, Nat.reduceAdd, Nat.reduceSub, Nat.reduceMul, Nat.reduceLT, Nat.reduceLeDiff, Nat.reduceEqDiff, Nat.blt_eq, Int.reduceLT, Int.reduceLE, Int.reduceEq, Int.reduceToNat, Int.reduceNeg, Int.reduceAdd, Int.reduceSub, Int.reduceMul, Int.reducePow, reduceIte, decide_true, decide_false, reduceCtorEq]))
    refine ⟨_, h21, rfl, ?_⟩
    (try (simp (config := { maxSteps := 1000000 }) only [push_cast, Nat.reduceBEq, Nat.reduceBNe, Nat.reduceAdd, Nat.reduceSub, Nat.reduceMul, Nat.reduceLT, Nat.reduceLeDiff, Nat.reduceEqDiff, Nat.blt_eq, Int.reduceLT, Int.reduceLE, Int.reduceEq, Int.reduceToNat, Int.reduceNeg, Int.reduceAdd, Int.reduceSub, Int.reduceMul, Int.reducePow, reduceIte, decide_true, decide_false, reduceCtorEq]))
    by_cases hD : (diffC A B K).2 = 0
    · obtain ⟨eL, hA, hB, e1⟩ := diffC_parts hD
      have hAp := tab_apart hA
      have hBp := tab_apart hB
      rw [← eL] at hBp
      have hsl : sameCs A.L B.L = true := sameCs_iff.2 eL
      have hsl2 : sameCs B.L A.L = true := sameCs_iff.2 eL.symm
      have e0 : diffC A B K = (diffF (placesN A.L K) A.R B.R, 0) := by rw [← e1, ← hD]
      have e2 : diffC B A K = (diffF (placesN A.L K) B.R A.R, 0) := by
        unfold diffC
        rw [hsl2, if_neg (by simp), if_neg (by simp [hB]), if_neg (by simp [hA]), eL]
      have e3 : diffC A A K = ([], 0) := by simp [diffC, sameCs_iff.2 (rfl : A.L = A.L), hA, diff_own hAp]
      rw [e2] at h21b
      rw [e3] at h21o
      have hok := diffF_ok (ps := placesN A.L K) ha.v hb.v (by omega)
      have hokb := diffF_ok (ps := placesN A.L K) hb.v ha.v (by omega)
      have hdl := diffF_len (placesN A.L K) A.R B.R
      have hdlb := diffF_len (placesN A.L K) B.R A.R
      have hpm := turn_back hAp hBp
      have hnil := @gone_nil (placesN A.L K) A.R B.R
      have hln := @same_len (placesN A.L K) A.R B.R hAp hBp
      rw [e0]
      generalize diffF (placesN A.L K) A.R B.R = D at *
      generalize diffF (placesN A.L K) B.R A.R = D' at *
      have hpl := hpm.length_eq
      rw [turnF_len] at hpl
      have h27 := d27 D hok (by omega)
      have h25 := d25 (turnF D) (turnF_ok hok) (by rw [turnF_len]; omega)
      have h25b := d25 D' hokb (by omega)
      have h28 := d28 (turnF D) D' (turnF_ok hok) hokb
      rw [within_perm hpm] at h28
      have hd1 : decide (((turnF D).length : Int) = (D'.length : Int)) = true := decide_eq_true (by rw [turnF_len]; omega)
      (try (simp (config := { maxSteps := 1000000 }) only [push_cast, Nat.reduceBEq, Nat.reduceBNe, Nat.reduceAdd, Nat.reduceSub, Nat.reduceMul, Nat.reduceLT, Nat.reduceLeDiff, Nat.reduceEqDiff, Nat.blt_eq, Int.reduceLT, Int.reduceLE, Int.reduceEq, Int.reduceToNat, Int.reduceNeg, Int.reduceAdd, Int.reduceSub, Int.reduceMul, Int.reducePow, reduceIte, decide_true, decide_false, reduceCtorEq]))
      refine ⟨_, h21b, rfl, ?_⟩
      (try (simp (config := { maxSteps := 1000000 }) only [push_cast, Nat.reduceBEq, Nat.reduceBNe, Nat.reduceAdd, Nat.reduceSub, Nat.reduceMul, Nat.reduceLT, Nat.reduceLeDiff, Nat.reduceEqDiff, Nat.blt_eq, Int.reduceLT, Int.reduceLE, Int.reduceEq, Int.reduceToNat, Int.reduceNeg, Int.reduceAdd, Int.reduceSub, Int.reduceMul, Int.reducePow, reduceIte, decide_true, decide_false, reduceCtorEq]))
      refine ⟨_, h21o, rfl, ?_⟩
      (try (simp (config := { maxSteps := 1000000 }) only [push_cast, Nat.reduceBEq, Nat.reduceBNe, Nat.reduceAdd, Nat.reduceSub, Nat.reduceMul, Nat.reduceLT, Nat.reduceLeDiff, Nat.reduceEqDiff, Nat.blt_eq, Int.reduceLT, Int.reduceLE, Int.reduceEq, Int.reduceToNat, Int.reduceNeg, Int.reduceAdd, Int.reduceSub, Int.reduceMul, Int.reducePow, reduceIte, decide_true, decide_false, reduceCtorEq]))
      refine ⟨_, h27, rfl, ?_⟩
      (try (simp (config := { maxSteps := 1000000 }) only [push_cast, Nat.reduceBEq, Nat.reduceBNe, Nat.reduceAdd, Nat.reduceSub, Nat.reduceMul, Nat.reduceLT, Nat.reduceLeDiff, Nat.reduceEqDiff, Nat.blt_eq, Int.reduceLT, Int.reduceLE, Int.reduceEq, Int.reduceToNat, Int.reduceNeg, Int.reduceAdd, Int.reduceSub, Int.reduceMul, Int.reducePow, reduceIte, decide_true, decide_false, reduceCtorEq]))
      refine ⟨_, h25, rfl, ?_⟩
      (try (simp (config := { maxSteps := 1000000 }) only [push_cast, Nat.reduceBEq, Nat.reduceBNe, Nat.reduceAdd, Nat.reduceSub, Nat.reduceMul, Nat.reduceLT, Nat.reduceLeDiff, Nat.reduceEqDiff, Nat.blt_eq, Int.reduceLT, Int.reduceLE, Int.reduceEq, Int.reduceToNat, Int.reduceNeg, Int.reduceAdd, Int.reduceSub, Int.reduceMul, Int.reducePow, reduceIte, decide_true, decide_false, reduceCtorEq, hd1]))
      refine ⟨_, h25b, rfl, ?_⟩
      (try (simp (config := { maxSteps := 1000000 }) only [push_cast, Nat.reduceBEq, Nat.reduceBNe, Nat.reduceAdd, Nat.reduceSub, Nat.reduceMul, Nat.reduceLT, Nat.reduceLeDiff, Nat.reduceEqDiff, Nat.blt_eq, Int.reduceLT, Int.reduceLE, Int.reduceEq, Int.reduceToNat, Int.reduceNeg, Int.reduceAdd, Int.reduceSub, Int.reduceMul, Int.reducePow, reduceIte, decide_true, decide_false, reduceCtorEq]))
      refine ⟨_, h28, rfl, ?_⟩
      (try (simp (config := { maxSteps := 1000000 }) only [push_cast, Nat.reduceBEq, Nat.reduceBNe, Nat.reduceAdd, Nat.reduceSub, Nat.reduceMul, Nat.reduceLT, Nat.reduceLeDiff, Nat.reduceEqDiff, Nat.blt_eq, Int.reduceLT, Int.reduceLE, Int.reduceEq, Int.reduceToNat, Int.reduceNeg, Int.reduceAdd, Int.reduceSub, Int.reduceMul, Int.reducePow, reduceIte, decide_true, decide_false, reduceCtorEq]))
      refine BrP.mk (fun h => ?_) (fun h => ?_) <;> try (simp (config := { maxSteps := 1000000 }) only [push_cast, Nat.reduceBEq, Nat.reduceBNe, Nat.reduceAdd, Nat.reduceSub, Nat.reduceMul, Nat.reduceLT, Nat.reduceLeDiff, Nat.reduceEqDiff, Nat.blt_eq, Int.reduceLT, Int.reduceLE, Int.reduceEq, Int.reduceToNat, Int.reduceNeg, Int.reduceAdd, Int.reduceSub, Int.reduceMul, Int.reducePow, reduceIte, decide_true, decide_false, reduceCtorEq, h])
      · have hDn : D = [] := List.eq_nil_of_length_eq_zero (by have := of_decide_eq_true h; omega)
        obtain ⟨hn1, hn2⟩ := hnil hDn
        have hln := hln (fun r hr => ⟨r, hn1 r hr, alike_self _ _⟩) hn2
        have hAl : A.R.length ≤ 12 := hla
        (try (simp (config := { maxSteps := 1000000 }) only [push_cast, Nat.reduceBEq, Nat.reduceBNe, Nat.reduceAdd, Nat.reduceSub, Nat.reduceMul, Nat.reduceLT, Nat.reduceLeDiff, Nat.reduceEqDiff, Nat.blt_eq, Int.reduceLT, Int.reduceLE, Int.reduceEq, Int.reduceToNat, Int.reduceNeg, Int.reduceAdd, Int.reduceSub, Int.reduceMul, Int.reducePow, reduceIte, decide_true, decide_false, reduceCtorEq]))
        refine LoopK.s1 (α := Nat) [87] (fun k => [i2 .i64 k]) (fun k => k ≤ A.R.length) (fun k => A.R.length - k) 1000 0 (by omega) (by (try (simp (config := { maxSteps := 1000000 }) only [push_cast, Nat.reduceBEq, Nat.reduceBNe, Nat.reduceAdd, Nat.reduceSub, Nat.reduceMul, Nat.reduceLT, Nat.reduceLeDiff, Nat.reduceEqDiff, Nat.blt_eq, Int.reduceLT, Int.reduceLE, Int.reduceEq, Int.reduceToNat, Int.reduceNeg, Int.reduceAdd, Int.reduceSub, Int.reduceMul, Int.reducePow, reduceIte, decide_true, decide_false, reduceCtorEq]))) ?_
        rintro k hk
        by_cases hlt : k < A.R.length
        · have hv := List.getElem?_eq_getElem hlt; have hd : decide ((k : Int) < (A.R.length : Int)) = true := decide_eq_true (by omega)
          have hm := List.getElem_mem hlt
          have hin := hn1 _ hm
          have hrv := ha.v _ hm
          have hrl : A.R[k].length ≤ 1099511627776 := hrv.1
          generalize A.R[k] = r at *
          have h30 := f24 r hrv.1
          (try (simp (config := { maxSteps := 1000000 }) only [push_cast, Nat.reduceBEq, Nat.reduceBNe, Nat.reduceAdd, Nat.reduceSub, Nat.reduceMul, Nat.reduceLT, Nat.reduceLeDiff, Nat.reduceEqDiff, Nat.blt_eq, Int.reduceLT, Int.reduceLE, Int.reduceEq, Int.reduceToNat, Int.reduceNeg, Int.reduceAdd, Int.reduceSub, Int.reduceMul, Int.reducePow, reduceIte, decide_true, decide_false, reduceCtorEq, hd, getD_map hv]))
          ((repeat' (with_reducible refine And.intro ?_ ?_)) <;> try (first | trivial | omega | exact inK64 (by omega) (by omega) | exact inKu8 (by omega) (by omega) | (simp only [maxLen]; omega) | exact .inl trivial | exact .inl rfl))
          refine LoopK.s1 (α := Nat) [95, 12] (fun j => [i2 .i64 j, b2 ((B.R.take j).any fun x => sameR r x)]) (fun j => j ≤ B.R.length) (fun j => B.R.length - j) 1000 0 (by omega) (by (try (simp (config := { maxSteps := 1000000 }) only [push_cast, Nat.reduceBEq, Nat.reduceBNe, Nat.reduceAdd, Nat.reduceSub, Nat.reduceMul, Nat.reduceLT, Nat.reduceLeDiff, Nat.reduceEqDiff, Nat.blt_eq, Int.reduceLT, Int.reduceLE, Int.reduceEq, Int.reduceToNat, Int.reduceNeg, Int.reduceAdd, Int.reduceSub, Int.reduceMul, Int.reducePow, reduceIte, decide_true, decide_false, reduceCtorEq])) <;> simp) ?_
          rintro j hj
          by_cases hlt2 : j < B.R.length
          · have hv2 := List.getElem?_eq_getElem hlt2
            have hd2 : decide ((j : Int) < (B.R.length : Int)) = true := decide_eq_true (by omega)
            have has := any_succ (p := fun x => sameR r x) hv2
            have hxv := hb.v _ (List.getElem_mem hlt2)
            generalize B.R[j] = x at *
            have h30x := f24 x hxv.1
            have h29 := same29 r x hrv.1 hxv.1
            (try (simp (config := { maxSteps := 1000000 }) only [push_cast, Nat.reduceBEq, Nat.reduceBNe, Nat.reduceAdd, Nat.reduceSub, Nat.reduceMul, Nat.reduceLT, Nat.reduceLeDiff, Nat.reduceEqDiff, Nat.blt_eq, Int.reduceLT, Int.reduceLE, Int.reduceEq, Int.reduceToNat, Int.reduceNeg, Int.reduceAdd, Int.reduceSub, Int.reduceMul, Int.reducePow, reduceIte, decide_true, decide_false, reduceCtorEq, hd2, getD_map hv2]))
            ((repeat' (with_reducible refine And.intro ?_ ?_)) <;> try (first | trivial | omega | exact inK64 (by omega) (by omega) | exact inKu8 (by omega) (by omega) | (simp only [maxLen]; omega) | exact .inl trivial | exact .inl rfl))
            cases hbb : (B.R.take j).any fun x => sameR r x with
            | true =>
              rw [hbb, Bool.true_or] at has
              (try (simp (config := { maxSteps := 1000000 }) only [push_cast, Nat.reduceBEq, Nat.reduceBNe, Nat.reduceAdd, Nat.reduceSub, Nat.reduceMul, Nat.reduceLT, Nat.reduceLeDiff, Nat.reduceEqDiff, Nat.blt_eq, Int.reduceLT, Int.reduceLE, Int.reduceEq, Int.reduceToNat, Int.reduceNeg, Int.reduceAdd, Int.reduceSub, Int.reduceMul, Int.reducePow, reduceIte, decide_true, decide_false, reduceCtorEq]))
              ((repeat' (with_reducible refine And.intro ?_ ?_)) <;> try (first | trivial | omega | exact inK64 (by omega) (by omega) | exact inKu8 (by omega) (by omega) | (simp only [maxLen]; omega) | exact .inl trivial | exact .inl rfl))
              refine ⟨j + 1, by omega, by omega, Le.st ?_⟩
              rw [has]
              (try (simp (config := { maxSteps := 1000000 }) only [push_cast, Nat.reduceBEq, Nat.reduceBNe, Nat.reduceAdd, Nat.reduceSub, Nat.reduceMul, Nat.reduceLT, Nat.reduceLeDiff, Nat.reduceEqDiff, Nat.blt_eq, Int.reduceLT, Int.reduceLE, Int.reduceEq, Int.reduceToNat, Int.reduceNeg, Int.reduceAdd, Int.reduceSub, Int.reduceMul, Int.reducePow, reduceIte, decide_true, decide_false, reduceCtorEq])); (all_goals first | rfl | skip)
            | false =>
              rw [hbb, Bool.false_or] at has
              (try (simp (config := { maxSteps := 1000000 }) only [push_cast, Nat.reduceBEq, Nat.reduceBNe, Nat.reduceAdd, Nat.reduceSub, Nat.reduceMul, Nat.reduceLT, Nat.reduceLeDiff, Nat.reduceEqDiff, Nat.blt_eq, Int.reduceLT, Int.reduceLE, Int.reduceEq, Int.reduceToNat, Int.reduceNeg, Int.reduceAdd, Int.reduceSub, Int.reduceMul, Int.reducePow, reduceIte, decide_true, decide_false, reduceCtorEq]))
              refine ⟨_, h30, rfl, ?_⟩
              (try (simp (config := { maxSteps := 1000000 }) only [push_cast, Nat.reduceBEq, Nat.reduceBNe, Nat.reduceAdd, Nat.reduceSub, Nat.reduceMul, Nat.reduceLT, Nat.reduceLeDiff, Nat.reduceEqDiff, Nat.blt_eq, Int.reduceLT, Int.reduceLE, Int.reduceEq, Int.reduceToNat, Int.reduceNeg, Int.reduceAdd, Int.reduceSub, Int.reduceMul, Int.reducePow, reduceIte, decide_true, decide_false, reduceCtorEq]))
              refine ⟨_, h30x, rfl, ?_⟩
              (try (simp (config := { maxSteps := 1000000 }) only [push_cast, Nat.reduceBEq, Nat.reduceBNe, Nat.reduceAdd, Nat.reduceSub, Nat.reduceMul, Nat.reduceLT, Nat.reduceLeDiff, Nat.reduceEqDiff, Nat.blt_eq, Int.reduceLT, Int.reduceLE, Int.reduceEq, Int.reduceToNat, Int.reduceNeg, Int.reduceAdd, Int.reduceSub, Int.reduceMul, Int.reducePow, reduceIte, decide_true, decide_false, reduceCtorEq]))
              refine ⟨_, h29, rfl, ?_⟩
              (try (simp (config := { maxSteps := 1000000 }) only [push_cast, Nat.reduceBEq, Nat.reduceBNe, Nat.reduceAdd, Nat.reduceSub, Nat.reduceMul, Nat.reduceLT, Nat.reduceLeDiff, Nat.reduceEqDiff, Nat.blt_eq, Int.reduceLT, Int.reduceLE, Int.reduceEq, Int.reduceToNat, Int.reduceNeg, Int.reduceAdd, Int.reduceSub, Int.reduceMul, Int.reducePow, reduceIte, decide_true, decide_false, reduceCtorEq]))
              ((repeat' (with_reducible refine And.intro ?_ ?_)) <;> try (first | trivial | omega | exact inK64 (by omega) (by omega) | exact inKu8 (by omega) (by omega) | (simp only [maxLen]; omega) | exact .inl trivial | exact .inl rfl))
              refine ⟨j + 1, by omega, by omega, Le.st ?_⟩
              rw [has]
              (try (simp (config := { maxSteps := 1000000 }) only [push_cast, Nat.reduceBEq, Nat.reduceBNe, Nat.reduceAdd, Nat.reduceSub, Nat.reduceMul, Nat.reduceLT, Nat.reduceLeDiff, Nat.reduceEqDiff, Nat.blt_eq, Int.reduceLT, Int.reduceLE, Int.reduceEq, Int.reduceToNat, Int.reduceNeg, Int.reduceAdd, Int.reduceSub, Int.reduceMul, Int.reducePow, reduceIte, decide_true, decide_false, reduceCtorEq])); (all_goals first | rfl | skip)
          · have hd2 : decide ((j : Int) < (B.R.length : Int)) = false := decide_eq_false (by omega)
            have hany : (B.R.any fun x => sameR r x) = true := List.any_eq_true.2 ⟨r, hin, sameR_iff.2 rfl⟩
            rw [List.take_of_length_le (by omega), hany]
            (try (simp (config := { maxSteps := 1000000 }) only [push_cast, Nat.reduceBEq, Nat.reduceBNe, Nat.reduceAdd, Nat.reduceSub, Nat.reduceMul, Nat.reduceLT, Nat.reduceLeDiff, Nat.reduceEqDiff, Nat.blt_eq, Int.reduceLT, Int.reduceLE, Int.reduceEq, Int.reduceToNat, Int.reduceNeg, Int.reduceAdd, Int.reduceSub, Int.reduceMul, Int.reducePow, reduceIte, decide_true, decide_false, reduceCtorEq, hd2]))
            ((repeat' (with_reducible refine And.intro ?_ ?_)) <;> try (first | trivial | omega | exact inK64 (by omega) (by omega) | exact inKu8 (by omega) (by omega) | (simp only [maxLen]; omega) | exact .inl trivial | exact .inl rfl))
            refine ⟨k + 1, by omega, by omega, Le.st ?_⟩
            (try (simp (config := { maxSteps := 1000000 }) only [push_cast, Nat.reduceBEq, Nat.reduceBNe, Nat.reduceAdd, Nat.reduceSub, Nat.reduceMul, Nat.reduceLT, Nat.reduceLeDiff, Nat.reduceEqDiff, Nat.blt_eq, Int.reduceLT, Int.reduceLE, Int.reduceEq, Int.reduceToNat, Int.reduceNeg, Int.reduceAdd, Int.reduceSub, Int.reduceMul, Int.reducePow, reduceIte, decide_true, decide_false, reduceCtorEq])); (all_goals first | rfl | skip)
        · have hd : decide ((k : Int) < (A.R.length : Int)) = false := decide_eq_false (by omega)
          have hd3 : decide ((A.R.length : Int) = (B.R.length : Int)) = true := decide_eq_true (by omega)
          (try (simp (config := { maxSteps := 1000000 }) only [push_cast, Nat.reduceBEq, Nat.reduceBNe, Nat.reduceAdd, Nat.reduceSub, Nat.reduceMul, Nat.reduceLT, Nat.reduceLeDiff, Nat.reduceEqDiff, Nat.blt_eq, Int.reduceLT, Int.reduceLE, Int.reduceEq, Int.reduceToNat, Int.reduceNeg, Int.reduceAdd, Int.reduceSub, Int.reduceMul, Int.reducePow, reduceIte, decide_true, decide_false, reduceCtorEq, hd, hd3]))
          refine ⟨_, d17, rfl, ?_⟩
          (try (simp (config := { maxSteps := 1000000 }) only [push_cast, Nat.reduceBEq, Nat.reduceBNe, Nat.reduceAdd, Nat.reduceSub, Nat.reduceMul, Nat.reduceLT, Nat.reduceLeDiff, Nat.reduceEqDiff, Nat.blt_eq, Int.reduceLT, Int.reduceLE, Int.reduceEq, Int.reduceToNat, Int.reduceNeg, Int.reduceAdd, Int.reduceSub, Int.reduceMul, Int.reducePow, reduceIte, decide_true, decide_false, reduceCtorEq]))
      · refine ⟨_, d17, rfl, ?_⟩
        (try (simp (config := { maxSteps := 1000000 }) only [push_cast, Nat.reduceBEq, Nat.reduceBNe, Nat.reduceAdd, Nat.reduceSub, Nat.reduceMul, Nat.reduceLT, Nat.reduceLeDiff, Nat.reduceEqDiff, Nat.blt_eq, Int.reduceLT, Int.reduceLE, Int.reduceEq, Int.reduceToNat, Int.reduceNeg, Int.reduceAdd, Int.reduceSub, Int.reduceMul, Int.reducePow, reduceIte, decide_true, decide_false, reduceCtorEq]))
    · have hD' : decide ((diffC A B K).2 = 0) = false := decide_eq_false hD
      (try (simp (config := { maxSteps := 1000000 }) only [push_cast, Nat.reduceBEq, Nat.reduceBNe, Nat.reduceAdd, Nat.reduceSub, Nat.reduceMul, Nat.reduceLT, Nat.reduceLeDiff, Nat.reduceEqDiff, Nat.blt_eq, Int.reduceLT, Int.reduceLE, Int.reduceEq, Int.reduceToNat, Int.reduceNeg, Int.reduceAdd, Int.reduceSub, Int.reduceMul, Int.reducePow, reduceIte, decide_true, decide_false, reduceCtorEq, hD']))
      refine ⟨_, d17, rfl, ?_⟩
      (try (simp (config := { maxSteps := 1000000 }) only [push_cast, Nat.reduceBEq, Nat.reduceBNe, Nat.reduceAdd, Nat.reduceSub, Nat.reduceMul, Nat.reduceLT, Nat.reduceLeDiff, Nat.reduceEqDiff, Nat.blt_eq, Int.reduceLT, Int.reduceLE, Int.reduceEq, Int.reduceToNat, Int.reduceNeg, Int.reduceAdd, Int.reduceSub, Int.reduceMul, Int.reducePow, reduceIte, decide_true, decide_false, reduceCtorEq]))
end Go.LS.Tryd
