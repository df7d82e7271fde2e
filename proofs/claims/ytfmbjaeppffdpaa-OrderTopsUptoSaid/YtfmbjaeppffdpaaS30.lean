/- Contracts of the functions of the seat, one by one (part S30); no condition but those that each bears. -/
import Derived.Test.YtfmbjaeppffdpaaS23
import Derived.Test.YtfmbjaeppffdpaaSO
import Derived.Test.YtfmbjaeppffdpaaPK
namespace Go.LS.Try
open Go Go.LS
set_option maxRecDepth 100000
set_option linter.unusedSimpArgs false
set_option linter.unusedVariables false

theorem f43 (ks : List Ky) (l : List Cl) (rows : List (List Vl)) (hk : okLen ks) (hl : okCl l) (hf : ∀ x ∈ ks, (findF x.col l 0).2.2 = true) (hr : okLen rows) (hw : ∀ r ∈ rows, r.length = l.length) :
    Spec V 43 [.c (.d (.sl 2 (ks.map eRK))), .c (.d (.sl 3 (l.map eRC))), .c (.d (.sl 1 (rows.map eRR)))] (.c (.d (.sl 1 ((uniqK (ordF (placesF ks l)) [] rows rows.length).map eRR)))) := by
  have hrl : rows.length ≤ 1099511627776 := hr
  (refine Spec.of_go (L := fun | 0 => some [0, 1, 2] | 1 => some [0, 1, 2, 7] | 2 => some [0, 1, 2, 7, 13, 14, 15] | 3 => some [0, 1, 2, 7, 13, 14, 15, 16] | 4 => some [0, 1, 2, 7, 8, 9, 13, 14, 15] | 5 => some [0, 1, 2, 7, 8, 9, 10, 13, 14, 15] | 6 => some [0, 1, 2, 7, 9, 10, 13, 14, 15, 22, 23, 24] | 7 => some [0, 1, 2, 7, 9, 10, 13, 14, 15, 22, 23, 24, 25] | 8 => some [0, 1, 2, 7, 9, 10, 12, 13, 14, 15, 22, 23, 24] | 9 => some [0, 1, 2, 7, 9, 10, 13, 14, 15, 22, 23, 24] | 10 => some [0, 1, 2, 7, 9, 10, 13, 14, 15, 22, 23, 24] | 11 => some [0, 1, 2, 7, 9, 13, 14, 15, 38] | 12 => some [0, 1, 2, 7, 13, 14, 15] | 13 => some [0, 1, 2, 7, 13, 14, 15] | 14 => some [6] | _ => none) 1000 Go.Proofs.Try.func43 rfl rfl ⟨Nat.le_of_ble_eq_true rfl, rfl⟩ rfl ?_; unfold Go.Proofs.Try.f43; simp (config := { maxSteps := 1000000 }) only [push_cast, Nat.reduceBEq, Nat.reduceBNe, Nat.reduceAdd, Nat.reduceSub, Nat.reduceMul, Nat.reduceLT, Nat.reduceLeDiff, Nat.reduceEqDiff, Nat.blt_eq, Int.reduceLT, Int.reduceLE, Int.reduceEq, Int.reduceToNat, Int.reduceNeg, Int.reduceAdd, Int.reduceSub, Int.reduceMul, Int.reducePow, reduceIte, decide_true, decide_false, reduceCtorEq])
  refine LoopK.le (Le.nil 7 37 1 (by decide) (by (try (simp (config := { maxSteps := 1000000 }) only [push_cast, Nat.reduceBEq, Nat.reduceBNe, Nat.reduceAdd, Nat.reduceSub, Nat.reduceMul, Nat.reduceLT, Nat.reduceLeDiff, Nat.reduceEqDiff, Nat.blt_eq, Int.reduceLT, Int.reduceLE, Int.reduceEq, Int.reduceToNat, Int.reduceNeg, Int.reduceAdd, Int.reduceSub, Int.reduceMul, Int.reducePow, reduceIte, decide_true, decide_false, reduceCtorEq])))) ?_
  (try (simp (config := { maxSteps := 1000000 }) only [push_cast, Nat.reduceBEq, Nat.reduceBNe, Nat.reduceAdd, Nat.reduceSub, Nat.reduceMul, Nat.reduceLT, Nat.reduceLeDiff, Nat.reduceEqDiff, Nat.blt_eq, Int.reduceLT, Int.reduceLE, Int.reduceEq, Int.reduceToNat, Int.reduceNeg, Int.reduceAdd, Int.reduceSub, Int.reduceMul, Int.reducePow, reduceIte, decide_true, decide_false, reduceCtorEq]))
  refine LoopK.ov (α := Nat) [15] (fun k => [i2 .i64 k]) (fun k => [.rw 37 1 ((uniqK (ordF (placesF ks l)) [] rows k).map eRR)]) (fun k => k ≤ rows.length) (fun k => rows.length - k) 1000 0 (by omega) (by (try (simp (config := { maxSteps := 1000000 }) only [push_cast, Nat.reduceBEq, Nat.reduceBNe, Nat.reduceAdd, Nat.reduceSub, Nat.reduceMul, Nat.reduceLT, Nat.reduceLeDiff, Nat.reduceEqDiff, Nat.blt_eq, Int.reduceLT, Int.reduceLE, Int.reduceEq, Int.reduceToNat, Int.reduceNeg, Int.reduceAdd, Int.reduceSub, Int.reduceMul, Int.reducePow, reduceIte, decide_true, decide_false, reduceCtorEq])) <;> first | rfl | simp [uniqK]) ?_
  rintro k hk'
  by_cases hlt : k < rows.length
  · have hv := List.getElem?_eq_getElem hlt; have hd : decide ((k : Int) < (rows.length : Int)) = true := decide_eq_true (by omega)
    have hgk : rows.getD k [] = rows[k] := by simp [List.getD_eq_getElem?_getD, hv]
    have hul := uniqK_len (ordF (placesF ks l)) [] rows k
    have hnx : uniqK (ordF (placesF ks l)) [] rows (k + 1) = if firstB (ordF (placesF ks l)) [] rows k = true then uniqK (ordF (placesF ks l)) [] rows k ++ [rows[k]] else uniqK (ordF (placesF ks l)) [] rows k := by
      rw [uniqK, hgk]
    have hS : ∀ j (hj : j < k), Spec V 40 [.c (.d (.sl 2 (ks.map eRK))), .c (.d (.sl 3 (l.map eRC))), .c (.d (.sl 4 ((rows[j]'(by omega)).map eRV))), .c (.d (.sl 4 (rows[k].map eRV)))] (i2 .i64 (ordF (placesF ks l) (rows[j]'(by omega)) rows[k])) := fun j hj => f40 ks l _ _ hk hl hf (hw _ (List.getElem_mem _)) (hw _ (List.getElem_mem _))
    have hfb : firstB (ordF (placesF ks l)) [] rows k = ixs (fun j => !decide (ordF (placesF ks l) (rows.getD j []) rows[k] = 0)) k := by rw [firstB, hgk]
    generalize rows[k] = r at *
    have htl : (List.take k (List.map eRR rows)).length = k := by simp only [List.length_take, List.length_map]; omega
    (try (simp (config := { maxSteps := 1000000 }) only [push_cast, Nat.reduceBEq, Nat.reduceBNe, Nat.reduceAdd, Nat.reduceSub, Nat.reduceMul, Nat.reduceLT, Nat.reduceLeDiff, Nat.reduceEqDiff, Nat.blt_eq, Int.reduceLT, Int.reduceLE, Int.reduceEq, Int.reduceToNat, Int.reduceNeg, Int.reduceAdd, Int.reduceSub, Int.reduceMul, Int.reducePow, reduceIte, decide_true, decide_false, reduceCtorEq, hd, getD_map hv]))
    ((repeat' (with_reducible refine And.intro ?_ ?_)) <;> try (first | trivial | omega | exact inK64 (by omega) (by omega) | exact inKu8 (by omega) (by omega) | (simp only [maxLen]; omega) | exact .inl trivial | exact .inl rfl))
    rw [htl]
    generalize hpp : (fun j => !decide (ordF (placesF ks l) (rows.getD j []) r = 0)) = p at *
    refine LoopK.s1 (α := Nat) [24, 10] (fun j => [i2 .i64 j, b2 (ixs p j)]) (fun j => j ≤ k) (fun j => k - j) 1000 0 (by omega) (by (try (simp (config := { maxSteps := 1000000 }) only [push_cast, Nat.reduceBEq, Nat.reduceBNe, Nat.reduceAdd, Nat.reduceSub, Nat.reduceMul, Nat.reduceLT, Nat.reduceLeDiff, Nat.reduceEqDiff, Nat.blt_eq, Int.reduceLT, Int.reduceLE, Int.reduceEq, Int.reduceToNat, Int.reduceNeg, Int.reduceAdd, Int.reduceSub, Int.reduceMul, Int.reducePow, reduceIte, decide_true, decide_false, reduceCtorEq])) <;> first | rfl | simp [ixs]) ?_
    rintro j hj
    by_cases hlt2 : j < k
    · have hd2 : decide ((j : Int) < (k : Int)) = true := decide_eq_true (by omega)
      have hjr : j < rows.length := by omega
      have hvj := List.getElem?_eq_getElem hjr
      have hgj : (List.take k (List.map eRR rows)).getD j [] = eRR rows[j] := by
        rw [List.getD_eq_getElem?_getD, List.getElem?_take, if_pos hlt2, List.getElem?_map, hvj]; rfl
      have hSj := hS j hlt2
      have hpj : p j = !decide (ordF (placesF ks l) rows[j] r = 0) := by
        rw [← hpp]; simp [List.getD_eq_getElem?_getD, hvj]
      have hix : ixs p (j + 1) = (p j && ixs p j) := rfl
      generalize rows[j] = x at *
      (try (simp (config := { maxSteps := 1000000 }) only [push_cast, Nat.reduceBEq, Nat.reduceBNe, Nat.reduceAdd, Nat.reduceSub, Nat.reduceMul, Nat.reduceLT, Nat.reduceLeDiff, Nat.reduceEqDiff, Nat.blt_eq, Int.reduceLT, Int.reduceLE, Int.reduceEq, Int.reduceToNat, Int.reduceNeg, Int.reduceAdd, Int.reduceSub, Int.reduceMul, Int.reducePow, reduceIte, decide_true, decide_false, reduceCtorEq, hd2, hgj]))
      ((repeat' (with_reducible refine And.intro ?_ ?_)) <;> try (first | trivial | omega | exact inK64 (by omega) (by omega) | exact inKu8 (by omega) (by omega) | (simp only [maxLen]; omega) | exact .inl trivial | exact .inl rfl))
      cases hx : ixs p j with
      | false =>
        rw [hx, Bool.and_false] at hix
        (try (simp (config := { maxSteps := 1000000 }) only [push_cast, Nat.reduceBEq, Nat.reduceBNe, Nat.reduceAdd, Nat.reduceSub, Nat.reduceMul, Nat.reduceLT, Nat.reduceLeDiff, Nat.reduceEqDiff, Nat.blt_eq, Int.reduceLT, Int.reduceLE, Int.reduceEq, Int.reduceToNat, Int.reduceNeg, Int.reduceAdd, Int.reduceSub, Int.reduceMul, Int.reducePow, reduceIte, decide_true, decide_false, reduceCtorEq]))
        ((repeat' (with_reducible refine And.intro ?_ ?_)) <;> try (first | trivial | omega | exact inK64 (by omega) (by omega) | exact inKu8 (by omega) (by omega) | (simp only [maxLen]; omega) | exact .inl trivial | exact .inl rfl))
        refine ⟨j + 1, by omega, by omega, Le.st ?_⟩
        rw [hix]
        (try (simp (config := { maxSteps := 1000000 }) only [push_cast, Nat.reduceBEq, Nat.reduceBNe, Nat.reduceAdd, Nat.reduceSub, Nat.reduceMul, Nat.reduceLT, Nat.reduceLeDiff, Nat.reduceEqDiff, Nat.blt_eq, Int.reduceLT, Int.reduceLE, Int.reduceEq, Int.reduceToNat, Int.reduceNeg, Int.reduceAdd, Int.reduceSub, Int.reduceMul, Int.reducePow, reduceIte, decide_true, decide_false, reduceCtorEq]))
      | true =>
        rw [hx, Bool.and_true, hpj] at hix
        (try (simp (config := { maxSteps := 1000000 }) only [push_cast, Nat.reduceBEq, Nat.reduceBNe, Nat.reduceAdd, Nat.reduceSub, Nat.reduceMul, Nat.reduceLT, Nat.reduceLeDiff, Nat.reduceEqDiff, Nat.blt_eq, Int.reduceLT, Int.reduceLE, Int.reduceEq, Int.reduceToNat, Int.reduceNeg, Int.reduceAdd, Int.reduceSub, Int.reduceMul, Int.reducePow, reduceIte, decide_true, decide_false, reduceCtorEq]))
        refine ⟨_, hSj, rfl, ?_⟩
        (try (simp (config := { maxSteps := 1000000 }) only [push_cast, Nat.reduceBEq, Nat.reduceBNe, Nat.reduceAdd, Nat.reduceSub, Nat.reduceMul, Nat.reduceLT, Nat.reduceLeDiff, Nat.reduceEqDiff, Nat.blt_eq, Int.reduceLT, Int.reduceLE, Int.reduceEq, Int.reduceToNat, Int.reduceNeg, Int.reduceAdd, Int.reduceSub, Int.reduceMul, Int.reducePow, reduceIte, decide_true, decide_false, reduceCtorEq]))
        ((repeat' (with_reducible refine And.intro ?_ ?_)) <;> try (first | trivial | omega | exact inK64 (by omega) (by omega) | exact inKu8 (by omega) (by omega) | (simp only [maxLen]; omega) | exact .inl trivial | exact .inl rfl))
        refine ⟨j + 1, by omega, by omega, Le.st ?_⟩
        rw [hix]
        (try (simp (config := { maxSteps := 1000000 }) only [push_cast, Nat.reduceBEq, Nat.reduceBNe, Nat.reduceAdd, Nat.reduceSub, Nat.reduceMul, Nat.reduceLT, Nat.reduceLeDiff, Nat.reduceEqDiff, Nat.blt_eq, Int.reduceLT, Int.reduceLE, Int.reduceEq, Int.reduceToNat, Int.reduceNeg, Int.reduceAdd, Int.reduceSub, Int.reduceMul, Int.reducePow, reduceIte, decide_true, decide_false, reduceCtorEq]))
    · have hd2 : decide ((j : Int) < (k : Int)) = false := decide_eq_false (by omega)
      have hjk : j = k := by omega
      subst hjk
      rw [hfb] at hnx
      (try (simp (config := { maxSteps := 1000000 }) only [push_cast, Nat.reduceBEq, Nat.reduceBNe, Nat.reduceAdd, Nat.reduceSub, Nat.reduceMul, Nat.reduceLT, Nat.reduceLeDiff, Nat.reduceEqDiff, Nat.blt_eq, Int.reduceLT, Int.reduceLE, Int.reduceEq, Int.reduceToNat, Int.reduceNeg, Int.reduceAdd, Int.reduceSub, Int.reduceMul, Int.reducePow, reduceIte, decide_true, decide_false, reduceCtorEq, hd2]))
      refine BrP.mk (fun h => ?_) (fun h => ?_) <;> try (simp (config := { maxSteps := 1000000 }) only [push_cast, Nat.reduceBEq, Nat.reduceBNe, Nat.reduceAdd, Nat.reduceSub, Nat.reduceMul, Nat.reduceLT, Nat.reduceLeDiff, Nat.reduceEqDiff, Nat.blt_eq, Int.reduceLT, Int.reduceLE, Int.reduceEq, Int.reduceToNat, Int.reduceNeg, Int.reduceAdd, Int.reduceSub, Int.reduceMul, Int.reducePow, reduceIte, decide_true, decide_false, reduceCtorEq, h])
      · rw [if_pos h] at hnx
        ((repeat' (with_reducible refine And.intro ?_ ?_)) <;> try (first | trivial | omega | exact inK64 (by omega) (by omega) | exact inKu8 (by omega) (by omega) | (simp only [maxLen]; omega) | exact .inl trivial | exact .inl rfl))
        refine ⟨j + 1, by omega, by omega, Le.st ?_⟩
        rw [hnx, List.map_append]
        (try (simp (config := { maxSteps := 1000000 }) only [push_cast, Nat.reduceBEq, Nat.reduceBNe, Nat.reduceAdd, Nat.reduceSub, Nat.reduceMul, Nat.reduceLT, Nat.reduceLeDiff, Nat.reduceEqDiff, Nat.blt_eq, Int.reduceLT, Int.reduceLE, Int.reduceEq, Int.reduceToNat, Int.reduceNeg, Int.reduceAdd, Int.reduceSub, Int.reduceMul, Int.reducePow, reduceIte, decide_true, decide_false, reduceCtorEq]))
        try rfl
      · rw [if_neg (by simp [h])] at hnx
        ((repeat' (with_reducible refine And.intro ?_ ?_)) <;> try (first | trivial | omega | exact inK64 (by omega) (by omega) | exact inKu8 (by omega) (by omega) | (simp only [maxLen]; omega) | exact .inl trivial | exact .inl rfl))
        refine ⟨j + 1, by omega, by omega, Le.st ?_⟩
        rw [hnx]
        (try (simp (config := { maxSteps := 1000000 }) only [push_cast, Nat.reduceBEq, Nat.reduceBNe, Nat.reduceAdd, Nat.reduceSub, Nat.reduceMul, Nat.reduceLT, Nat.reduceLeDiff, Nat.reduceEqDiff, Nat.blt_eq, Int.reduceLT, Int.reduceLE, Int.reduceEq, Int.reduceToNat, Int.reduceNeg, Int.reduceAdd, Int.reduceSub, Int.reduceMul, Int.reducePow, reduceIte, decide_true, decide_false, reduceCtorEq]))
  · have hd : decide ((k : Int) < (rows.length : Int)) = false := decide_eq_false (by omega)
    have : k = rows.length := by omega
    subst this
    (try (simp (config := { maxSteps := 1000000 }) only [push_cast, Nat.reduceBEq, Nat.reduceBNe, Nat.reduceAdd, Nat.reduceSub, Nat.reduceMul, Nat.reduceLT, Nat.reduceLeDiff, Nat.reduceEqDiff, Nat.blt_eq, Int.reduceLT, Int.reduceLE, Int.reduceEq, Int.reduceToNat, Int.reduceNeg, Int.reduceAdd, Int.reduceSub, Int.reduceMul, Int.reducePow, reduceIte, decide_true, decide_false, reduceCtorEq, hd]))
theorem f69 (p : List Pl) (rows : List (List Vl)) (a b : Nat) (hl : okLen p) (hr : okLen rows) (hp : ∀ r ∈ rows, ∀ x ∈ p, x.at_ < r.length) (ha : a < rows.length) (hb : b < rows.length) :
    Spec V 69 [i2 .i64 a, i2 .i64 b, .c (.d (.at_ [.sl 2 (p.map eP)])), .c (.d (.at_ [.sl 1 (rows.map eR)]))] (i2 .i64 (byNo (ordF p) [] rows a b)) := by
  have hva := List.getElem?_eq_getElem ha
  have hvb := List.getElem?_eq_getElem hb
  have hS := f67 p rows[a] rows[b] hl (hp _ (List.getElem_mem ha)) (hp _ (List.getElem_mem hb))
  have e : byNo (ordF p) [] rows a b = ordF p rows[a] rows[b] := by simp [byNo, List.getD_eq_getElem?_getD, hva, hvb]
  have hrl : rows.length ≤ 1099511627776 := hr
  rw [e]
  (refine Spec.of_go (L := fun | 0 => some [0, 1, 2, 3] | 1 => some [6] | _ => none) 1000 Go.Proofs.Try.func69 rfl rfl ⟨Nat.le_of_ble_eq_true rfl, rfl⟩ rfl ?_; unfold Go.Proofs.Try.f69; simp (config := { maxSteps := 1000000 }) only [push_cast, Nat.reduceBEq, Nat.reduceBNe, Nat.reduceAdd, Nat.reduceSub, Nat.reduceMul, Nat.reduceLT, Nat.reduceLeDiff, Nat.reduceEqDiff, Nat.blt_eq, Int.reduceLT, Int.reduceLE, Int.reduceEq, Int.reduceToNat, Int.reduceNeg, Int.reduceAdd, Int.reduceSub, Int.reduceMul, Int.reducePow, reduceIte, decide_true, decide_false, reduceCtorEq])
  (refine DrawK.of (.take 0 (.take 1 (.take 2 (.take 3 (.take 4 (.take 5 (.take 6 (.take 7 (.take 8 (.one 9 (.take 10 .done))))))))))) 1000 (by decide +kernel) ?_; try (simp (config := { maxSteps := 1000000 }) only [push_cast, Nat.reduceBEq, Nat.reduceBNe, Nat.reduceAdd, Nat.reduceSub, Nat.reduceMul, Nat.reduceLT, Nat.reduceLeDiff, Nat.reduceEqDiff, Nat.blt_eq, Int.reduceLT, Int.reduceLE, Int.reduceEq, Int.reduceToNat, Int.reduceNeg, Int.reduceAdd, Int.reduceSub, Int.reduceMul, Int.reducePow, reduceIte, decide_true, decide_false, reduceCtorEq]))
  (try (simp (config := { maxSteps := 1000000 }) only [push_cast, Nat.reduceBEq, Nat.reduceBNe, Nat.reduceAdd, Nat.reduceSub, Nat.reduceMul, Nat.reduceLT, Nat.reduceLeDiff, Nat.reduceEqDiff, Nat.blt_eq, Int.reduceLT, Int.reduceLE, Int.reduceEq, Int.reduceToNat, Int.reduceNeg, Int.reduceAdd, Int.reduceSub, Int.reduceMul, Int.reducePow, reduceIte, decide_true, decide_false, reduceCtorEq, getD_map hva, getD_map hvb]))
  ((repeat' (with_reducible refine And.intro ?_ ?_)) <;> try (first | trivial | omega | exact inK64 (by omega) (by omega) | exact inKu8 (by omega) (by omega) | (simp only [maxLen]; omega) | exact .inl trivial | exact .inl rfl))
  refine ⟨_, hS, rfl, ?_⟩
  (try (simp (config := { maxSteps := 1000000 }) only [push_cast, Nat.reduceBEq, Nat.reduceBNe, Nat.reduceAdd, Nat.reduceSub, Nat.reduceMul, Nat.reduceLT, Nat.reduceLeDiff, Nat.reduceEqDiff, Nat.blt_eq, Int.reduceLT, Int.reduceLE, Int.reduceEq, Int.reduceToNat, Int.reduceNeg, Int.reduceAdd, Int.reduceSub, Int.reduceMul, Int.reducePow, reduceIte, decide_true, decide_false, reduceCtorEq]))
theorem f41 (ks : List Ky) (l : List Cl) (rows : List (List Vl)) (n : Int) (hk : okLen ks) (hl : okCl l) (hr : okRs rows) (hn : rows.length < 20) (hi : inK .i64 n) :
    Spec V 41 [.c (.d (.sl 2 (ks.map eK))), .c (.d (.sl 3 (l.map eC))), .c (.d (.sl 1 (rows.map eR))), i2 .i64 n] (.tu [.c (.d (.sl 1 (((sortC ks l rows).1.take (max 0 (min n (sortC ks l rows).1.length)).toNat).map eR))), i2 .i64 (sortC ks l rows).2]) := by
  have hS := f35 ks l rows hk hl hr hn
  have h0 : (sortC ks l rows).2 ≠ 0 → (sortC ks l rows).1 = [] := by
    unfold sortC
    split
    · exact fun _ => rfl
    · exact fun h => absurd rfl h
  have hlen : (sortC ks l rows).1.length ≤ rows.length := by
    unfold sortC
    split
    · simp
    · simp [sortF_len]
  (refine Spec.of_go (L := fun | 0 => some [0, 1, 2, 3] | 1 => some [3, 10, 11] | 2 => some [3, 10, 11, 20] | 3 => some [8, 9] | 4 => some [8, 9] | _ => none) 1000 Go.Proofs.Try.func41 rfl rfl ⟨Nat.le_of_ble_eq_true rfl, rfl⟩ rfl ?_; unfold Go.Proofs.Try.f41; simp (config := { maxSteps := 1000000 }) only [push_cast, Nat.reduceBEq, Nat.reduceBNe, Nat.reduceAdd, Nat.reduceSub, Nat.reduceMul, Nat.reduceLT, Nat.reduceLeDiff, Nat.reduceEqDiff, Nat.blt_eq, Int.reduceLT, Int.reduceLE, Int.reduceEq, Int.reduceToNat, Int.reduceNeg, Int.reduceAdd, Int.reduceSub, Int.reduceMul, Int.reducePow, reduceIte, decide_true, decide_false, reduceCtorEq])
  refine ⟨_, hS, rfl, ?_⟩
  generalize sortC ks l rows = C at *
  (try (simp (config := { maxSteps := 1000000 }) only [push_cast, Nat.reduceBEq, Nat.reduceBNe, Nat.reduceAdd, Nat.reduceSub, Nat.reduceMul, Nat.reduceLT, Nat.reduceLeDiff, Nat.reduceEqDiff, Nat.blt_eq, Int.reduceLT, Int.reduceLE, Int.reduceEq, Int.reduceToNat, Int.reduceNeg, Int.reduceAdd, Int.reduceSub, Int.reduceMul, Int.reducePow, reduceIte, decide_true, decide_false, reduceCtorEq]))
  refine BrP.mk (fun h => ?_) (fun h => ?_) <;> try (simp (config := { maxSteps := 1000000 }) only [push_cast, Nat.reduceBEq, Nat.reduceBNe, Nat.reduceAdd, Nat.reduceSub, Nat.reduceMul, Nat.reduceLT, Nat.reduceLeDiff, Nat.reduceEqDiff, Nat.blt_eq, Int.reduceLT, Int.reduceLE, Int.reduceEq, Int.reduceToNat, Int.reduceNeg, Int.reduceAdd, Int.reduceSub, Int.reduceMul, Int.reducePow, reduceIte, decide_true, decide_false, reduceCtorEq, h])
  · have h' : ¬ C.2 = 0 := by simpa using h
    rw [h0 h']
    (try (simp (config := { maxSteps := 1000000 }) only [push_cast, Nat.reduceBEq, Nat.reduceBNe, Nat.reduceAdd, Nat.reduceSub, Nat.reduceMul, Nat.reduceLT, Nat.reduceLeDiff, Nat.reduceEqDiff, Nat.blt_eq, Int.reduceLT, Int.reduceLE, Int.reduceEq, Int.reduceToNat, Int.reduceNeg, Int.reduceAdd, Int.reduceSub, Int.reduceMul, Int.reducePow, reduceIte, decide_true, decide_false, reduceCtorEq]))
    all_goals (try simp)
  · have h' : C.2 = 0 := by simpa using h
    ((repeat' (with_reducible refine And.intro ?_ ?_)) <;> try (first | trivial | omega | exact inK64 (by omega) (by omega) | exact inKu8 (by omega) (by omega) | (simp only [maxLen]; omega) | exact .inl trivial | exact .inl rfl))
    all_goals (rw [List.map_take])
def eB (b : Bool) : List DV := [.v (.bool b)]
@[push_cast] theorem eB_eq (b : Bool) : eB b = [.v (.bool b)] := rfl
theorem range_step {n k : Nat} (h : k < n) : (List.range k ++ List.replicate (n - k) 0).set k k = List.range (k + 1) ++ List.replicate (n - (k + 1)) 0 := by
  have e : n - k = n - (k + 1) + 1 := by omega
  rw [List.set_append_right _ _ (by simp), e, List.replicate_succ, List.length_range, Nat.sub_self, List.set_cons_zero, List.range_succ, List.append_assoc]
  rfl
/-- What Unique gives. -/
def uniqC (ks : List Ky) (l : List Cl) (rows : List (List Vl)) : List (List Vl) × Int :=
  if (placesR ks l [rows]).2 ≠ 0 then ([], (placesR ks l [rows]).2) else (uniqK (ordF (placesF ks l)) [] rows rows.length, 0)
theorem f42 (ks : List Ky) (l : List Cl) (rows : List (List Vl)) (hk : okLen ks) (hl : okCl l) (hr : okRs rows) (hn : rows.length < 20) :
    Spec V 42 [.c (.d (.sl 2 (ks.map eK))), .c (.d (.sl 3 (l.map eC))), .c (.d (.sl 1 (rows.map eR)))] (.tu [.c (.d (.sl 1 ((uniqC ks l rows).1.map eR))), i2 .i64 (uniqC ks l rows).2]) := by
  have hS := f63 ks l [rows] hk hl (by simp [okLen]) (by simpa using hr.1)
  (refine Spec.of_go (L := fun | 0 => some [0, 1, 5] | 1 => some [5, 8, 9] | 2 => some [5, 8, 9, 27] | 3 => some [6, 7] | 4 => some [5, 8, 10] | 5 => some [5, 8, 10, 33, 34] | 6 => some [5, 8, 10, 33, 34, 35] | 7 => some [5, 8, 10, 11, 33, 34] | 8 => some [5, 8, 10, 33, 34] | 9 => some [5, 8, 10, 33, 34] | 10 => some [5, 8, 10] | 11 => some [5, 8, 10, 12] | 12 => some [5, 8, 10, 12, 48, 49, 50] | 13 => some [5, 8, 10, 12, 48, 49, 50, 51] | 14 => some [5, 8, 10, 12, 13, 14, 48, 49, 50] | 15 => some [5, 8, 10, 12, 48, 49, 50] | 16 => some [5, 8, 10, 12, 48, 49, 50] | 17 => some [5, 12, 15] | 18 => some [12, 15, 78, 79, 80] | 19 => some [12, 15, 78, 79, 80, 81] | 20 => some [12, 15, 16, 17, 78, 79, 80] | 21 => some [12, 15, 17, 78, 79, 80, 88] | 22 => some [12, 15, 78, 79, 80] | 23 => some [12, 15, 78, 79, 80] | 24 => some [6, 7] | _ => none) 1000 Go.Proofs.Try.func42 rfl rfl ⟨Nat.le_of_ble_eq_true rfl, rfl⟩ rfl ?_; unfold Go.Proofs.Try.f42; simp (config := { maxSteps := 1000000 }) only [push_cast, Nat.reduceBEq, Nat.reduceBNe, Nat.reduceAdd, Nat.reduceSub, Nat.reduceMul, Nat.reduceLT, Nat.reduceLeDiff, Nat.reduceEqDiff, Nat.blt_eq, Int.reduceLT, Int.reduceLE, Int.reduceEq, Int.reduceToNat, Int.reduceNeg, Int.reduceAdd, Int.reduceSub, Int.reduceMul, Int.reducePow, reduceIte, decide_true, decide_false, reduceCtorEq])
  refine ⟨_, hS, rfl, ?_⟩
  (try (simp (config := { maxSteps := 1000000 }) only [push_cast, Nat.reduceBEq, Nat.reduceBNe, Nat.reduceAdd, Nat.reduceSub, Nat.reduceMul, Nat.reduceLT, Nat.reduceLeDiff, Nat.reduceEqDiff, Nat.blt_eq, Int.reduceLT, Int.reduceLE, Int.reduceEq, Int.reduceToNat, Int.reduceNeg, Int.reduceAdd, Int.reduceSub, Int.reduceMul, Int.reducePow, reduceIte, decide_true, decide_false, reduceCtorEq]))
  refine BrP.mk (fun h => ?_) (fun h => ?_) <;> try (simp (config := { maxSteps := 1000000 }) only [push_cast, Nat.reduceBEq, Nat.reduceBNe, Nat.reduceAdd, Nat.reduceSub, Nat.reduceMul, Nat.reduceLT, Nat.reduceLeDiff, Nat.reduceEqDiff, Nat.blt_eq, Int.reduceLT, Int.reduceLE, Int.reduceEq, Int.reduceToNat, Int.reduceNeg, Int.reduceAdd, Int.reduceSub, Int.reduceMul, Int.reducePow, reduceIte, decide_true, decide_false, reduceCtorEq, h])
  · have h' : ¬ (placesR ks l [rows]).2 = 0 := by simpa using h
    have e : uniqC ks l rows = ([], (placesR ks l [rows]).2) := by simp [uniqC, h']
    rw [e]
    (try (simp (config := { maxSteps := 1000000 }) only [push_cast, Nat.reduceBEq, Nat.reduceBNe, Nat.reduceAdd, Nat.reduceSub, Nat.reduceMul, Nat.reduceLT, Nat.reduceLeDiff, Nat.reduceEqDiff, Nat.blt_eq, Int.reduceLT, Int.reduceLE, Int.reduceEq, Int.reduceToNat, Int.reduceNeg, Int.reduceAdd, Int.reduceSub, Int.reduceMul, Int.reducePow, reduceIte, decide_true, decide_false, reduceCtorEq]))
  · have h' : (placesR ks l [rows]).2 = 0 := by simpa using h
    have e : uniqC ks l rows = (uniqK (ordF (placesF ks l)) [] rows rows.length, 0) := by simp [uniqC, h']
    obtain ⟨hp, hoc, hwd⟩ := places_ok h'
    rw [e, hp]
    have hfo := ord_ordF (placesF ks l)
    have hpl : okLen (placesF ks l) := by simpa only [okLen, placesF, List.length_map] using hk
    have hPl : ∀ x ∈ rows, ∀ y ∈ placesF ks l, y.at_ < x.length := fun x hx y hy => by
      rw [hwd x hx]; exact places_lt hoc y hy
    (try (simp (config := { maxSteps := 1000000 }) only [push_cast, Nat.reduceBEq, Nat.reduceBNe, Nat.reduceAdd, Nat.reduceSub, Nat.reduceMul, Nat.reduceLT, Nat.reduceLeDiff, Nat.reduceEqDiff, Nat.blt_eq, Int.reduceLT, Int.reduceLE, Int.reduceEq, Int.reduceToNat, Int.reduceNeg, Int.reduceAdd, Int.reduceSub, Int.reduceMul, Int.reducePow, reduceIte, decide_true, decide_false, reduceCtorEq]))
    ((repeat' (with_reducible refine And.intro ?_ ?_)) <;> try (first | trivial | omega | exact inK64 (by omega) (by omega) | exact inKu8 (by omega) (by omega) | (simp only [maxLen]; omega) | exact .inl trivial | exact .inl rfl))
    simp only [List.length_replicate]
    generalize hf : ordF (placesF ks l) = f at *
    refine LoopK.ov (α := Nat) [34] (fun k => [i2 .i64 k]) (fun k => [.bx 46 [.d (.sl 1 (rows.map eR))], .dead, .bx 109 [.d (.sl 2 ((placesF ks l).map eP))], .rw 3 1 ((List.range k ++ List.replicate (rows.length - k) 0).map eJ)]) (fun k => k ≤ rows.length) (fun k => rows.length - k) 1000 0 (by omega) (by (try (simp (config := { maxSteps := 1000000 }) only [push_cast, Nat.reduceBEq, Nat.reduceBNe, Nat.reduceAdd, Nat.reduceSub, Nat.reduceMul, Nat.reduceLT, Nat.reduceLeDiff, Nat.reduceEqDiff, Nat.blt_eq, Int.reduceLT, Int.reduceLE, Int.reduceEq, Int.reduceToNat, Int.reduceNeg, Int.reduceAdd, Int.reduceSub, Int.reduceMul, Int.reducePow, reduceIte, decide_true, decide_false, reduceCtorEq])) <;> first | rfl | simp [eJ, zeroD]) ?_
    rintro k hk'
    by_cases hlt : k < rows.length
    · have hv := List.getElem?_eq_getElem hlt; have hd : decide ((k : Int) < (rows.length : Int)) = true := decide_eq_true (by omega)
      have hst := range_step hlt
      obtain ⟨D, hD⟩ : ∃ D, D = List.range k ++ List.replicate (rows.length - k) 0 := ⟨_, rfl⟩
      have hDl : D.length = rows.length := by rw [hD]; simp; omega
      have hset : (D.map eJ).set k [.v (.int .i64 (k : Int))] = (List.range (k + 1) ++ List.replicate (rows.length - (k + 1)) 0).map eJ := by
        rw [← hst, ← hD, List.map_set]; rfl
      have hgd : List.drop 1 ((D.map eJ).getD k []) = [] := by
        have hDk : k < D.length := by omega
        rw [List.getD_eq_getElem?_getD, List.getElem?_map, List.getElem?_eq_getElem hDk]; rfl
      rw [← hD]
      (try (simp (config := { maxSteps := 1000000 }) only [push_cast, Nat.reduceBEq, Nat.reduceBNe, Nat.reduceAdd, Nat.reduceSub, Nat.reduceMul, Nat.reduceLT, Nat.reduceLeDiff, Nat.reduceEqDiff, Nat.blt_eq, Int.reduceLT, Int.reduceLE, Int.reduceEq, Int.reduceToNat, Int.reduceNeg, Int.reduceAdd, Int.reduceSub, Int.reduceMul, Int.reducePow, reduceIte, decide_true, decide_false, reduceCtorEq, hd, hgd, hset]))
      ((repeat' (with_reducible refine And.intro ?_ ?_)) <;> try (first | trivial | omega | exact inK64 (by omega) (by omega) | exact inKu8 (by omega) (by omega) | (simp only [maxLen]; omega) | exact .inl trivial | exact .inl rfl))
      refine ⟨k + 1, by omega, by omega, Le.st ?_⟩
      (try (simp (config := { maxSteps := 1000000 }) only [push_cast, Nat.reduceBEq, Nat.reduceBNe, Nat.reduceAdd, Nat.reduceSub, Nat.reduceMul, Nat.reduceLT, Nat.reduceLeDiff, Nat.reduceEqDiff, Nat.blt_eq, Int.reduceLT, Int.reduceLE, Int.reduceEq, Int.reduceToNat, Int.reduceNeg, Int.reduceAdd, Int.reduceSub, Int.reduceMul, Int.reducePow, reduceIte, decide_true, decide_false, reduceCtorEq, hgd, hset]))
      all_goals rfl
    · have hd : decide ((k : Int) < (rows.length : Int)) = false := decide_eq_false (by omega)
      have : k = rows.length := by omega
      subst this
      have h68 := f68 (byNo f [] rows) 69 (.at_ [.sl 2 ((placesF ks l).map eP)]) (.at_ [.sl 1 (rows.map eR)]) (List.range rows.length) (fun x hx y hy => by
        have := f69 (placesF ks l) rows x y hpl hr.1 hPl (List.mem_range.1 hx) (List.mem_range.1 hy)
        rwa [hf] at this) (by simp; omega)
      rw [sortR_F (f := byNo f [] rows) (hfo.on fun a => rows.getD a [])] at h68
      have eD : List.range rows.length ++ List.replicate (rows.length - rows.length) 0 = List.range rows.length := by simp
      rw [eD]
      (try (simp (config := { maxSteps := 1000000 }) only [push_cast, Nat.reduceBEq, Nat.reduceBNe, Nat.reduceAdd, Nat.reduceSub, Nat.reduceMul, Nat.reduceLT, Nat.reduceLeDiff, Nat.reduceEqDiff, Nat.blt_eq, Int.reduceLT, Int.reduceLE, Int.reduceEq, Int.reduceToNat, Int.reduceNeg, Int.reduceAdd, Int.reduceSub, Int.reduceMul, Int.reducePow, reduceIte, decide_true, decide_false, reduceCtorEq, hd]))
      refine ⟨_, _, h68, ?_⟩
      have hflag := fun i => @flag_first _ f hfo [] rows _ rfl i
      have hLm : ∀ x, x ∈ sortF (byNo f [] rows) (List.range rows.length) ↔ x < rows.length := fun x => by rw [sortF_mem, List.mem_range]
      have hLl : (sortF (byNo f [] rows) (List.range rows.length)).length = rows.length := by rw [sortF_len, List.length_range]
      generalize sortF (byNo f [] rows) (List.range rows.length) = L at *
      (try (simp (config := { maxSteps := 1000000 }) only [push_cast, Nat.reduceBEq, Nat.reduceBNe, Nat.reduceAdd, Nat.reduceSub, Nat.reduceMul, Nat.reduceLT, Nat.reduceLeDiff, Nat.reduceEqDiff, Nat.blt_eq, Int.reduceLT, Int.reduceLE, Int.reduceEq, Int.reduceToNat, Int.reduceNeg, Int.reduceAdd, Int.reduceSub, Int.reduceMul, Int.reducePow, reduceIte, decide_true, decide_false, reduceCtorEq]))
      ((repeat' (with_reducible refine And.intro ?_ ?_)) <;> try (first | trivial | omega | exact inK64 (by omega) (by omega) | exact inKu8 (by omega) (by omega) | (simp only [maxLen]; omega) | exact .inl trivial | exact .inl rfl))
      refine LoopK.ov (α := Nat × List Bool) [50] (fun p => [i2 .i64 p.1]) (fun p => [.dead, .dead, .dead, .rw 3 1 (L.map eJ), .rw 4 1 (p.2.map eB)])
        (fun p => p.1 ≤ L.length ∧ p.2.length = rows.length ∧ ∀ i, i < p.1 → ∀ (h : i < L.length), p.2[L[i]]? = some (firstB f [] rows L[i])) (fun p => L.length - p.1) 1000 (0, List.replicate rows.length false) ⟨by simp, by simp, fun i h => by simp at h⟩ (by (try (simp (config := { maxSteps := 1000000 }) only [push_cast, Nat.reduceBEq, Nat.reduceBNe, Nat.reduceAdd, Nat.reduceSub, Nat.reduceMul, Nat.reduceLT, Nat.reduceLeDiff, Nat.reduceEqDiff, Nat.blt_eq, Int.reduceLT, Int.reduceLE, Int.reduceEq, Int.reduceToNat, Int.reduceNeg, Int.reduceAdd, Int.reduceSub, Int.reduceMul, Int.reducePow, reduceIte, decide_true, decide_false, reduceCtorEq])) <;> first | rfl | simp [eB, zeroD]) ?_
      rintro ⟨i, bs⟩ ⟨hi, hbl, hb⟩
      simp only at hi hbl hb
      by_cases hil : i < L.length
      · have hvi := List.getElem?_eq_getElem hil
        have hdi : decide ((i : Int) < (L.length : Int)) = true := decide_eq_true (by omega)
        have hfl := hflag i hil
        have hmr : L[i] < rows.length := (hLm _).1 (List.getElem_mem hil)
        have hmL : ∀ i', i' < i + 1 → ∀ (h : i' < L.length), (bs.set L[i] (firstB f [] rows L[i]))[L[i']]? = some (firstB f [] rows L[i']) := fun i' hi' h => by
          by_cases e : L[i'] = L[i]
          · rw [e, List.getElem?_set_self (by omega)]
          · rw [List.getElem?_set_ne (fun e' => e e'.symm)]
            refine hb i' ?_ h
            rcases Nat.lt_or_ge i' i with h1 | h1
            · exact h1
            · have : i' = i := by omega
              subst this; exact absurd rfl e
        have hset2 : (bs.map eB).set L[i] [.v (.bool (firstB f [] rows L[i]))] = (bs.set L[i] (firstB f [] rows L[i])).map eB := by
          rw [List.map_set]; rfl
        have hgd2 : List.drop 1 ((bs.map eB).getD L[i] []) = [] := by
          have : L[i] < bs.length := by omega
          rw [List.getD_eq_getElem?_getD, List.getElem?_map, List.getElem?_eq_getElem this]; rfl
        have hvm := List.getElem?_eq_getElem hmr
        rcases i with _ | i
        · have hb1 : firstB f [] rows L[0] = true := by rw [← hfl]; rfl
          rw [hb1] at hset2 hmL
          generalize L[0] = m at *
          have hdi0 : decide (0 < (L.length : Int)) = true := decide_eq_true (by omega)
          (try (simp (config := { maxSteps := 1000000 }) only [push_cast, Nat.reduceBEq, Nat.reduceBNe, Nat.reduceAdd, Nat.reduceSub, Nat.reduceMul, Nat.reduceLT, Nat.reduceLeDiff, Nat.reduceEqDiff, Nat.blt_eq, Int.reduceLT, Int.reduceLE, Int.reduceEq, Int.reduceToNat, Int.reduceNeg, Int.reduceAdd, Int.reduceSub, Int.reduceMul, Int.reducePow, reduceIte, decide_true, decide_false, reduceCtorEq, hdi0, getD_map hvi]))
          ((repeat' (with_reducible refine And.intro ?_ ?_)) <;> try (first | trivial | omega | exact inK64 (by omega) (by omega) | exact inKu8 (by omega) (by omega) | (simp only [maxLen]; omega) | exact .inl trivial | exact .inl rfl))
          (refine DrawK.of (.take 0 (.take 1 (.take 2 (.take 3 (.take 4 (.take 5 (.take 6 (.take 7 (.take 8 (.take 9 (.take 10 (.take 11 (.take 12 (.take 13 (.take 14 (.take 15 (.take 16 (.take 17 (.one 18 (.take 19 (.take 20 (.take 21 (.one 22 .done))))))))))))))))))))))) 1000 (by decide +kernel) ?_; try (simp (config := { maxSteps := 1000000 }) only [push_cast, Nat.reduceBEq, Nat.reduceBNe, Nat.reduceAdd, Nat.reduceSub, Nat.reduceMul, Nat.reduceLT, Nat.reduceLeDiff, Nat.reduceEqDiff, Nat.blt_eq, Int.reduceLT, Int.reduceLE, Int.reduceEq, Int.reduceToNat, Int.reduceNeg, Int.reduceAdd, Int.reduceSub, Int.reduceMul, Int.reducePow, reduceIte, decide_true, decide_false, reduceCtorEq]))
          ((repeat' (with_reducible refine And.intro ?_ ?_)) <;> try (first | trivial | omega | exact inK64 (by omega) (by omega) | exact inKu8 (by omega) (by omega) | (simp only [maxLen]; omega) | exact .inl trivial | exact .inl rfl))
          (try (simp (config := { maxSteps := 1000000 }) only [push_cast, Nat.reduceBEq, Nat.reduceBNe, Nat.reduceAdd, Nat.reduceSub, Nat.reduceMul, Nat.reduceLT, Nat.reduceLeDiff, Nat.reduceEqDiff, Nat.blt_eq, Int.reduceLT, Int.reduceLE, Int.reduceEq, Int.reduceToNat, Int.reduceNeg, Int.reduceAdd, Int.reduceSub, Int.reduceMul, Int.reducePow, reduceIte, decide_true, decide_false, reduceCtorEq, hgd2, hset2]))
          refine ⟨(1, bs.set m true), ⟨by simp only; omega, by simp only [List.length_set]; exact hbl, hmL⟩, by simp only; omega, Le.st ?_⟩
          (try (simp (config := { maxSteps := 1000000 }) only [push_cast, Nat.reduceBEq, Nat.reduceBNe, Nat.reduceAdd, Nat.reduceSub, Nat.reduceMul, Nat.reduceLT, Nat.reduceLeDiff, Nat.reduceEqDiff, Nat.blt_eq, Int.reduceLT, Int.reduceLE, Int.reduceEq, Int.reduceToNat, Int.reduceNeg, Int.reduceAdd, Int.reduceSub, Int.reduceMul, Int.reducePow, reduceIte, decide_true, decide_false, reduceCtorEq]))
          all_goals rfl
        · have hi0 : i < L.length := by omega
          have hv0 := List.getElem?_eq_getElem hi0
          have hm0 : L[i] < rows.length := (hLm _).1 (List.getElem_mem hi0)
          have hv0m := List.getElem?_eq_getElem hm0
          have hC := f67 (placesF ks l) rows[L[i]] rows[L[i + 1]] hpl (hPl _ (List.getElem_mem _)) (hPl _ (List.getElem_mem _))
          rw [hf] at hC
          have eC : byNo f [] rows (L.getD (i + 1 - 1) 0) L[i + 1] = f rows[L[i]] rows[L[i + 1]] := by
            have : L.getD (i + 1 - 1) 0 = L[i] := by simp [List.getD_eq_getElem?_getD, hv0]
            rw [this]
            simp [byNo, List.getD_eq_getElem?_getD, hvm, hv0m]
          rw [eC] at hfl
          have hfl2 : (!decide (f rows[L[i]] rows[L[i + 1]] = 0)) = firstB f [] rows L[i + 1] := by simpa using hfl
          have hT0 : ((i : Int) + 1 - 1).toNat = i := by omega
          have hT1 : ((i : Int) + 1).toNat = i + 1 := by omega
          have hne0 : decide (((i : Int) + 1) = 0) = false := decide_eq_false (by omega)
          generalize firstB f [] rows L[i + 1] = b at *
          generalize rows[L[i]] = r0 at *
          generalize rows[L[i + 1]] = r1 at *
          generalize L[i + 1] = m1 at *
          generalize L[i] = m0 at *
          have hdi1 : decide ((i : Int) + 1 < (L.length : Int)) = true := decide_eq_true (by omega)
          (try (simp (config := { maxSteps := 1000000 }) only [push_cast, Nat.reduceBEq, Nat.reduceBNe, Nat.reduceAdd, Nat.reduceSub, Nat.reduceMul, Nat.reduceLT, Nat.reduceLeDiff, Nat.reduceEqDiff, Nat.blt_eq, Int.reduceLT, Int.reduceLE, Int.reduceEq, Int.reduceToNat, Int.reduceNeg, Int.reduceAdd, Int.reduceSub, Int.reduceMul, Int.reducePow, reduceIte, decide_true, decide_false, reduceCtorEq, hdi1, hT1, getD_map hvi]))
          ((repeat' (with_reducible refine And.intro ?_ ?_)) <;> try (first | trivial | omega | exact inK64 (by omega) (by omega) | exact inKu8 (by omega) (by omega) | (simp only [maxLen]; omega) | exact .inl trivial | exact .inl rfl))
          (refine DrawK.of (.take 0 (.take 1 (.take 2 (.take 3 (.take 4 (.take 5 (.take 6 (.take 7 (.take 8 (.take 9 (.take 10 (.take 11 (.take 12 (.take 13 (.take 14 (.take 15 (.take 16 (.take 17 (.one 18 (.take 19 (.take 20 (.take 21 (.one 22 .done))))))))))))))))))))))) 1000 (by decide +kernel) ?_; try (simp (config := { maxSteps := 1000000 }) only [push_cast, Nat.reduceBEq, Nat.reduceBNe, Nat.reduceAdd, Nat.reduceSub, Nat.reduceMul, Nat.reduceLT, Nat.reduceLeDiff, Nat.reduceEqDiff, Nat.blt_eq, Int.reduceLT, Int.reduceLE, Int.reduceEq, Int.reduceToNat, Int.reduceNeg, Int.reduceAdd, Int.reduceSub, Int.reduceMul, Int.reducePow, reduceIte, decide_true, decide_false, reduceCtorEq]))
          ((repeat' (with_reducible refine And.intro ?_ ?_)) <;> try (first | trivial | omega | exact inK64 (by omega) (by omega) | exact inKu8 (by omega) (by omega) | (simp only [maxLen]; omega) | exact .inl trivial | exact .inl rfl))
          (try (simp (config := { maxSteps := 1000000 }) only [push_cast, Nat.reduceBEq, Nat.reduceBNe, Nat.reduceAdd, Nat.reduceSub, Nat.reduceMul, Nat.reduceLT, Nat.reduceLeDiff, Nat.reduceEqDiff, Nat.blt_eq, Int.reduceLT, Int.reduceLE, Int.reduceEq, Int.reduceToNat, Int.reduceNeg, Int.reduceAdd, Int.reduceSub, Int.reduceMul, Int.reducePow, reduceIte, decide_true, decide_false, reduceCtorEq, hne0, hT0, hT1, getD_map hv0, getD_map hvm, getD_map hv0m]))
          ((repeat' (with_reducible refine And.intro ?_ ?_)) <;> try (first | trivial | omega | exact inK64 (by omega) (by omega) | exact inKu8 (by omega) (by omega) | (simp only [maxLen]; omega) | exact .inl trivial | exact .inl rfl))
          refine ⟨_, hC, rfl, ?_⟩
          (try (simp (config := { maxSteps := 1000000 }) only [push_cast, Nat.reduceBEq, Nat.reduceBNe, Nat.reduceAdd, Nat.reduceSub, Nat.reduceMul, Nat.reduceLT, Nat.reduceLeDiff, Nat.reduceEqDiff, Nat.blt_eq, Int.reduceLT, Int.reduceLE, Int.reduceEq, Int.reduceToNat, Int.reduceNeg, Int.reduceAdd, Int.reduceSub, Int.reduceMul, Int.reducePow, reduceIte, decide_true, decide_false, reduceCtorEq, hfl2, hgd2, hset2]))
          ((repeat' (with_reducible refine And.intro ?_ ?_)) <;> try (first | trivial | omega | exact inK64 (by omega) (by omega) | exact inKu8 (by omega) (by omega) | (simp only [maxLen]; omega) | exact .inl trivial | exact .inl rfl))
          (try (simp (config := { maxSteps := 1000000 }) only [push_cast, Nat.reduceBEq, Nat.reduceBNe, Nat.reduceAdd, Nat.reduceSub, Nat.reduceMul, Nat.reduceLT, Nat.reduceLeDiff, Nat.reduceEqDiff, Nat.blt_eq, Int.reduceLT, Int.reduceLE, Int.reduceEq, Int.reduceToNat, Int.reduceNeg, Int.reduceAdd, Int.reduceSub, Int.reduceMul, Int.reducePow, reduceIte, decide_true, decide_false, reduceCtorEq, hfl2, hgd2, hset2]))
          ((repeat' (with_reducible refine And.intro ?_ ?_)) <;> try (first | trivial | omega | exact inK64 (by omega) (by omega) | exact inKu8 (by omega) (by omega) | (simp only [maxLen]; omega) | exact .inl trivial | exact .inl rfl))
          refine ⟨(i + 1 + 1, bs.set m1 b), ⟨by simp only; omega, by simp only [List.length_set]; exact hbl, hmL⟩, by simp only; omega, Le.st ?_⟩
          (try (simp (config := { maxSteps := 1000000 }) only [push_cast, Nat.reduceBEq, Nat.reduceBNe, Nat.reduceAdd, Nat.reduceSub, Nat.reduceMul, Nat.reduceLT, Nat.reduceLeDiff, Nat.reduceEqDiff, Nat.blt_eq, Int.reduceLT, Int.reduceLE, Int.reduceEq, Int.reduceToNat, Int.reduceNeg, Int.reduceAdd, Int.reduceSub, Int.reduceMul, Int.reducePow, reduceIte, decide_true, decide_false, reduceCtorEq]))
          all_goals rfl
      · have hdi : decide ((i : Int) < (L.length : Int)) = false := decide_eq_false (by omega)
        have hbs : ∀ m, m < rows.length → bs[m]? = some (firstB f [] rows m) := fun m hm => by
          obtain ⟨i', hi', rfl⟩ := List.mem_iff_getElem.1 ((hLm m).2 hm)
          exact hb i' (by omega) hi'
        (try (simp (config := { maxSteps := 1000000 }) only [push_cast, Nat.reduceBEq, Nat.reduceBNe, Nat.reduceAdd, Nat.reduceSub, Nat.reduceMul, Nat.reduceLT, Nat.reduceLeDiff, Nat.reduceEqDiff, Nat.blt_eq, Int.reduceLT, Int.reduceLE, Int.reduceEq, Int.reduceToNat, Int.reduceNeg, Int.reduceAdd, Int.reduceSub, Int.reduceMul, Int.reducePow, reduceIte, decide_true, decide_false, reduceCtorEq, hdi]))
        refine LoopK.le (Le.nil 15 24 1 (by decide) (by (try (simp (config := { maxSteps := 1000000 }) only [push_cast, Nat.reduceBEq, Nat.reduceBNe, Nat.reduceAdd, Nat.reduceSub, Nat.reduceMul, Nat.reduceLT, Nat.reduceLeDiff, Nat.reduceEqDiff, Nat.blt_eq, Int.reduceLT, Int.reduceLE, Int.reduceEq, Int.reduceToNat, Int.reduceNeg, Int.reduceAdd, Int.reduceSub, Int.reduceMul, Int.reducePow, reduceIte, decide_true, decide_false, reduceCtorEq])))) ?_
        (try (simp (config := { maxSteps := 1000000 }) only [push_cast, Nat.reduceBEq, Nat.reduceBNe, Nat.reduceAdd, Nat.reduceSub, Nat.reduceMul, Nat.reduceLT, Nat.reduceLeDiff, Nat.reduceEqDiff, Nat.blt_eq, Int.reduceLT, Int.reduceLE, Int.reduceEq, Int.reduceToNat, Int.reduceNeg, Int.reduceAdd, Int.reduceSub, Int.reduceMul, Int.reducePow, reduceIte, decide_true, decide_false, reduceCtorEq]))
        refine LoopK.ov (α := Nat) [80] (fun k => [i2 .i64 k]) (fun k => [.dead, .dead, .dead, .rw 3 1 (L.map eJ), .rw 4 1 (bs.map eB), .rw 24 1 ((uniqK f [] rows k).map eR)]) (fun k => k ≤ rows.length) (fun k => rows.length - k) 1000 0 (by omega) (by (try (simp (config := { maxSteps := 1000000 }) only [push_cast, Nat.reduceBEq, Nat.reduceBNe, Nat.reduceAdd, Nat.reduceSub, Nat.reduceMul, Nat.reduceLT, Nat.reduceLeDiff, Nat.reduceEqDiff, Nat.blt_eq, Int.reduceLT, Int.reduceLE, Int.reduceEq, Int.reduceToNat, Int.reduceNeg, Int.reduceAdd, Int.reduceSub, Int.reduceMul, Int.reducePow, reduceIte, decide_true, decide_false, reduceCtorEq])) <;> first | rfl | simp [uniqK]) ?_
        rintro k hk'
        by_cases hkr : k < rows.length
        · have hv := List.getElem?_eq_getElem hkr
          have hdk : decide ((k : Int) < (rows.length : Int)) = true := decide_eq_true (by omega)
          have hgk : rows.getD k [] = rows[k] := by simp [List.getD_eq_getElem?_getD, hv]
          have hul := uniqK_len f [] rows k
          have hnx : uniqK f [] rows (k + 1) = if firstB f [] rows k = true then uniqK f [] rows k ++ [rows[k]] else uniqK f [] rows k := by
            rw [uniqK, hgk]
          have h58 := f58 rows[k] (hr.2 _ (List.getElem_mem hkr)).1
          have hbk := hbs k hkr
          generalize firstB f [] rows k = fb at *
          generalize rows[k] = row at *
          (try (simp (config := { maxSteps := 1000000 }) only [push_cast, Nat.reduceBEq, Nat.reduceBNe, Nat.reduceAdd, Nat.reduceSub, Nat.reduceMul, Nat.reduceLT, Nat.reduceLeDiff, Nat.reduceEqDiff, Nat.blt_eq, Int.reduceLT, Int.reduceLE, Int.reduceEq, Int.reduceToNat, Int.reduceNeg, Int.reduceAdd, Int.reduceSub, Int.reduceMul, Int.reducePow, reduceIte, decide_true, decide_false, reduceCtorEq, hdk, getD_map hv, getD_map hbk]))
          ((repeat' (with_reducible refine And.intro ?_ ?_)) <;> try (first | trivial | omega | exact inK64 (by omega) (by omega) | exact inKu8 (by omega) (by omega) | (simp only [maxLen]; omega) | exact .inl trivial | exact .inl rfl))
          (try (simp (config := { maxSteps := 1000000 }) only [push_cast, Nat.reduceBEq, Nat.reduceBNe, Nat.reduceAdd, Nat.reduceSub, Nat.reduceMul, Nat.reduceLT, Nat.reduceLeDiff, Nat.reduceEqDiff, Nat.blt_eq, Int.reduceLT, Int.reduceLE, Int.reduceEq, Int.reduceToNat, Int.reduceNeg, Int.reduceAdd, Int.reduceSub, Int.reduceMul, Int.reducePow, reduceIte, decide_true, decide_false, reduceCtorEq, getD_map hbk]))
          cases fb with
          | false =>
            rw [if_neg (by simp)] at hnx
            (try (simp (config := { maxSteps := 1000000 }) only [push_cast, Nat.reduceBEq, Nat.reduceBNe, Nat.reduceAdd, Nat.reduceSub, Nat.reduceMul, Nat.reduceLT, Nat.reduceLeDiff, Nat.reduceEqDiff, Nat.blt_eq, Int.reduceLT, Int.reduceLE, Int.reduceEq, Int.reduceToNat, Int.reduceNeg, Int.reduceAdd, Int.reduceSub, Int.reduceMul, Int.reducePow, reduceIte, decide_true, decide_false, reduceCtorEq]))
            ((repeat' (with_reducible refine And.intro ?_ ?_)) <;> try (first | trivial | omega | exact inK64 (by omega) (by omega) | exact inKu8 (by omega) (by omega) | (simp only [maxLen]; omega) | exact .inl trivial | exact .inl rfl))
            refine ⟨k + 1, by omega, by omega, Le.st ?_⟩
            rw [hnx]
            (try (simp (config := { maxSteps := 1000000 }) only [push_cast, Nat.reduceBEq, Nat.reduceBNe, Nat.reduceAdd, Nat.reduceSub, Nat.reduceMul, Nat.reduceLT, Nat.reduceLeDiff, Nat.reduceEqDiff, Nat.blt_eq, Int.reduceLT, Int.reduceLE, Int.reduceEq, Int.reduceToNat, Int.reduceNeg, Int.reduceAdd, Int.reduceSub, Int.reduceMul, Int.reducePow, reduceIte, decide_true, decide_false, reduceCtorEq]))
            all_goals rfl
          | true =>
            rw [if_pos rfl] at hnx
            (try (simp (config := { maxSteps := 1000000 }) only [push_cast, Nat.reduceBEq, Nat.reduceBNe, Nat.reduceAdd, Nat.reduceSub, Nat.reduceMul, Nat.reduceLT, Nat.reduceLeDiff, Nat.reduceEqDiff, Nat.blt_eq, Int.reduceLT, Int.reduceLE, Int.reduceEq, Int.reduceToNat, Int.reduceNeg, Int.reduceAdd, Int.reduceSub, Int.reduceMul, Int.reducePow, reduceIte, decide_true, decide_false, reduceCtorEq]))
            refine ⟨_, h58, rfl, ?_⟩
            (try (simp (config := { maxSteps := 1000000 }) only [push_cast, Nat.reduceBEq, Nat.reduceBNe, Nat.reduceAdd, Nat.reduceSub, Nat.reduceMul, Nat.reduceLT, Nat.reduceLeDiff, Nat.reduceEqDiff, Nat.blt_eq, Int.reduceLT, Int.reduceLE, Int.reduceEq, Int.reduceToNat, Int.reduceNeg, Int.reduceAdd, Int.reduceSub, Int.reduceMul, Int.reducePow, reduceIte, decide_true, decide_false, reduceCtorEq]))
            ((repeat' (with_reducible refine And.intro ?_ ?_)) <;> try (first | trivial | omega | exact inK64 (by omega) (by omega) | exact inKu8 (by omega) (by omega) | (simp only [maxLen]; omega) | exact .inl trivial | exact .inl rfl))
            refine ⟨k + 1, by omega, by omega, Le.st ?_⟩
            rw [hnx, List.map_append]
            (try (simp (config := { maxSteps := 1000000 }) only [push_cast, Nat.reduceBEq, Nat.reduceBNe, Nat.reduceAdd, Nat.reduceSub, Nat.reduceMul, Nat.reduceLT, Nat.reduceLeDiff, Nat.reduceEqDiff, Nat.blt_eq, Int.reduceLT, Int.reduceLE, Int.reduceEq, Int.reduceToNat, Int.reduceNeg, Int.reduceAdd, Int.reduceSub, Int.reduceMul, Int.reducePow, reduceIte, decide_true, decide_false, reduceCtorEq]))
            all_goals first | rfl | exact ⟨rfl, rfl⟩ | trace_state
        · have hdk : decide ((k : Int) < (rows.length : Int)) = false := decide_eq_false (by omega)
          have : k = rows.length := by omega
          subst this
          (try (simp (config := { maxSteps := 1000000 }) only [push_cast, Nat.reduceBEq, Nat.reduceBNe, Nat.reduceAdd, Nat.reduceSub, Nat.reduceMul, Nat.reduceLT, Nat.reduceLeDiff, Nat.reduceEqDiff, Nat.blt_eq, Int.reduceLT, Int.reduceLE, Int.reduceEq, Int.reduceToNat, Int.reduceNeg, Int.reduceAdd, Int.reduceSub, Int.reduceMul, Int.reducePow, reduceIte, decide_true, decide_false, reduceCtorEq, hdk]))
theorem f10 (z : Cs) (n : Int) (hk : okLen z.k) (hl : okCl z.l) (hr : okRs z.r) (hi : inK .i64 n) : Spec V 10 [.ag ((eCs z).map .d), i2 .i64 n] (b2 true) := by
  obtain ⟨k, l, r⟩ := z
  have h30 := f30 ⟨k, l, r⟩ hk hl.1 hr
  simp only [eCs_eq, List.map_cons, List.map_nil, b2] at h30
  simp only at hk hl hr
  (refine Spec.of_go (L := fun | 0 => some [1, 2] | 1 => some [1, 2, 16] | 2 => some [4] | 3 => some [1, 2, 5, 6] | 4 => some [1, 2, 5, 6, 7, 8] | 5 => some [1, 2, 5, 6, 7, 8, 9] | 6 => some [1, 2, 5, 6, 7, 8, 9, 42] | 7 => some [4] | 8 => some [1, 5, 6, 7, 8, 10, 11, 12] | 9 => some [1, 5, 6, 7, 8, 10, 11, 12, 13] | 10 => some [5, 6, 7, 8, 10, 11, 12, 13] | 11 => some [4] | _ => none) 1000 Go.Proofs.Try.func10 rfl rfl ⟨Nat.le_of_ble_eq_true rfl, rfl⟩ rfl ?_; unfold Go.Proofs.Try.f10; simp (config := { maxSteps := 1000000 }) only [push_cast, Nat.reduceBEq, Nat.reduceBNe, Nat.reduceAdd, Nat.reduceSub, Nat.reduceMul, Nat.reduceLT, Nat.reduceLeDiff, Nat.reduceEqDiff, Nat.blt_eq, Int.reduceLT, Int.reduceLE, Int.reduceEq, Int.reduceToNat, Int.reduceNeg, Int.reduceAdd, Int.reduceSub, Int.reduceMul, Int.reducePow, reduceIte, decide_true, decide_false, reduceCtorEq])
  refine ⟨_, h30, rfl, ?_⟩
  (try (simp (config := { maxSteps := 1000000 }) only [push_cast, Nat.reduceBEq, Nat.reduceBNe, Nat.reduceAdd, Nat.reduceSub, Nat.reduceMul, Nat.reduceLT, Nat.reduceLeDiff, Nat.reduceEqDiff, Nat.blt_eq, Int.reduceLT, Int.reduceLE, Int.reduceEq, Int.reduceToNat, Int.reduceNeg, Int.reduceAdd, Int.reduceSub, Int.reduceMul, Int.reducePow, reduceIte, decide_true, decide_false, reduceCtorEq]))
  refine BrP.mk (fun h => ?_) (fun h => ?_) <;> try (simp (config := { maxSteps := 1000000 }) only [push_cast, Nat.reduceBEq, Nat.reduceBNe, Nat.reduceAdd, Nat.reduceSub, Nat.reduceMul, Nat.reduceLT, Nat.reduceLeDiff, Nat.reduceEqDiff, Nat.blt_eq, Int.reduceLT, Int.reduceLE, Int.reduceEq, Int.reduceToNat, Int.reduceNeg, Int.reduceAdd, Int.reduceSub, Int.reduceMul, Int.reducePow, reduceIte, decide_true, decide_false, reduceCtorEq, h])
  · refine ⟨_, f31, rfl, ?_⟩
    (try (simp (config := { maxSteps := 1000000 }) only [push_cast, Nat.reduceBEq, Nat.reduceBNe, Nat.reduceAdd, Nat.reduceSub, Nat.reduceMul, Nat.reduceLT, Nat.reduceLeDiff, Nat.reduceEqDiff, Nat.blt_eq, Int.reduceLT, Int.reduceLE, Int.reduceEq, Int.reduceToNat, Int.reduceNeg, Int.reduceAdd, Int.reduceSub, Int.reduceMul, Int.reducePow, reduceIte, decide_true, decide_false, reduceCtorEq]))
  · have hz : fewZ ⟨k, l, r⟩ = true := by simpa using h
    have hn : r.length ≤ 12 := few_rows hz
    have h41 := f41 k l r n hk hl hr (by omega) hi
    have h42 := f42 k l r hk hl hr (by omega)
    have h36 := f36 ⟨k, l, r⟩ hk hl hr
    have h37 := f37 ⟨k, l, r⟩ hk hl hr
    simp only [eCs_eq, List.map_cons, List.map_nil, i2] at h36 h37 h41
    refine ⟨_, h41, rfl, ?_⟩
    (try (simp (config := { maxSteps := 1000000 }) only [push_cast, Nat.reduceBEq, Nat.reduceBNe, Nat.reduceAdd, Nat.reduceSub, Nat.reduceMul, Nat.reduceLT, Nat.reduceLeDiff, Nat.reduceEqDiff, Nat.blt_eq, Int.reduceLT, Int.reduceLE, Int.reduceEq, Int.reduceToNat, Int.reduceNeg, Int.reduceAdd, Int.reduceSub, Int.reduceMul, Int.reducePow, reduceIte, decide_true, decide_false, reduceCtorEq]))
    refine ⟨_, h42, rfl, ?_⟩
    (try (simp (config := { maxSteps := 1000000 }) only [push_cast, Nat.reduceBEq, Nat.reduceBNe, Nat.reduceAdd, Nat.reduceSub, Nat.reduceMul, Nat.reduceLT, Nat.reduceLeDiff, Nat.reduceEqDiff, Nat.blt_eq, Int.reduceLT, Int.reduceLE, Int.reduceEq, Int.reduceToNat, Int.reduceNeg, Int.reduceAdd, Int.reduceSub, Int.reduceMul, Int.reducePow, reduceIte, decide_true, decide_false, reduceCtorEq]))
    refine ⟨_, h36, rfl, ?_⟩
    (try (simp (config := { maxSteps := 1000000 }) only [push_cast, Nat.reduceBEq, Nat.reduceBNe, Nat.reduceAdd, Nat.reduceSub, Nat.reduceMul, Nat.reduceLT, Nat.reduceLeDiff, Nat.reduceEqDiff, Nat.blt_eq, Int.reduceLT, Int.reduceLE, Int.reduceEq, Int.reduceToNat, Int.reduceNeg, Int.reduceAdd, Int.reduceSub, Int.reduceMul, Int.reducePow, reduceIte, decide_true, decide_false, reduceCtorEq]))
    by_cases hc : (placesR k l [r]).2 = 0
    · obtain ⟨hp, hoc, hwd⟩ := places_ok hc
      have e : sortC k l r = (sortF (ordF (placesF k l)) r, 0) := by simp [sortC, hc]
      have eu : uniqC k l r = (uniqK (ordF (placesF k l)) [] r r.length, 0) := by simp [uniqC, hc]
      have hm : ∀ x ∈ sortF (ordF (placesF k l)) r, x ∈ r := fun x hx => (sortF_mem _ _ _).1 hx
      have hsl : (sortF (ordF (placesF k l)) r).length = r.length := sortF_len _ _
      have h38 := f38 k l r hk hl (ordC_found hoc) hr.1 hwd
      have h43 := f43 k l r hk hl (ordC_found hoc) hr.1 hwd
      have hum := uniqK_mem (ordF (placesF k l)) [] r r.length (Nat.le_refl _)
      have hul := uniqK_len (ordF (placesF k l)) [] r r.length
      rw [e, eu]
      generalize sortF (ordF (placesF k l)) r = s at *
      generalize uniqK (ordF (placesF k l)) [] r r.length = u at *
      have hrl : r.length ≤ 1099511627776 := hr.1
      obtain ⟨q, hq⟩ : ∃ q, q = (max 0 (min n (s.length : Int))).toNat := ⟨_, rfl⟩
      have hT : (max (min n (s.length : Int)) 0).toNat = q := by omega
      have ht : okRs (s.take q) := ⟨by simp only [okLen, List.length_take]; omega, fun x hx => hr.2 x (hm x (List.mem_of_mem_take hx))⟩
      have hu : okRs u := ⟨by simp only [okLen]; omega, fun x hx => hr.2 x (hum x hx)⟩
      have h27 := f27 _ ht.1 (fun x hx => (ht.2 x hx).1)
      have h26 := f26 _ _ ht.1 ht.1 (fun x hx => (ht.2 x hx).1) (fun x hx => (ht.2 x hx).1)
      have h27u := f27 _ hu.1 (fun x hx => (hu.2 x hx).1)
      have h26u := f26 _ _ hu.1 hu.1 (fun x hx => (hu.2 x hx).1) (fun x hx => (hu.2 x hx).1)
      rw [allF_self] at h26 h26u
      have h26t : Spec V 26 [.c (.d (.sl 1 ((s.take q).map eRR))), .c (.d (.sl 1 ((s.map eRR).take q)))] (b2 true) := by
        rw [← List.map_take]; exact h26
      rw [← hq]
      (try (simp (config := { maxSteps := 1000000 }) only [push_cast, Nat.reduceBEq, Nat.reduceBNe, Nat.reduceAdd, Nat.reduceSub, Nat.reduceMul, Nat.reduceLT, Nat.reduceLeDiff, Nat.reduceEqDiff, Nat.blt_eq, Int.reduceLT, Int.reduceLE, Int.reduceEq, Int.reduceToNat, Int.reduceNeg, Int.reduceAdd, Int.reduceSub, Int.reduceMul, Int.reducePow, reduceIte, decide_true, decide_false, reduceCtorEq, hc]))
      refine ⟨_, h37, rfl, ?_⟩
      (try (simp (config := { maxSteps := 1000000 }) only [push_cast, Nat.reduceBEq, Nat.reduceBNe, Nat.reduceAdd, Nat.reduceSub, Nat.reduceMul, Nat.reduceLT, Nat.reduceLeDiff, Nat.reduceEqDiff, Nat.blt_eq, Int.reduceLT, Int.reduceLE, Int.reduceEq, Int.reduceToNat, Int.reduceNeg, Int.reduceAdd, Int.reduceSub, Int.reduceMul, Int.reducePow, reduceIte, decide_true, decide_false, reduceCtorEq]))
      refine ⟨_, h38, rfl, ?_⟩
      (try (simp (config := { maxSteps := 1000000 }) only [push_cast, Nat.reduceBEq, Nat.reduceBNe, Nat.reduceAdd, Nat.reduceSub, Nat.reduceMul, Nat.reduceLT, Nat.reduceLeDiff, Nat.reduceEqDiff, Nat.blt_eq, Int.reduceLT, Int.reduceLE, Int.reduceEq, Int.reduceToNat, Int.reduceNeg, Int.reduceAdd, Int.reduceSub, Int.reduceMul, Int.reducePow, reduceIte, decide_true, decide_false, reduceCtorEq, hT]))
      ((repeat' (with_reducible refine And.intro ?_ ?_)) <;> try (first | trivial | omega | exact inK64 (by omega) (by omega) | exact inKu8 (by omega) (by omega) | (simp only [maxLen]; omega) | exact .inl trivial | exact .inl rfl))
      (try (simp (config := { maxSteps := 1000000 }) only [push_cast, Nat.reduceBEq, Nat.reduceBNe, Nat.reduceAdd, Nat.reduceSub, Nat.reduceMul, Nat.reduceLT, Nat.reduceLeDiff, Nat.reduceEqDiff, Nat.blt_eq, Int.reduceLT, Int.reduceLE, Int.reduceEq, Int.reduceToNat, Int.reduceNeg, Int.reduceAdd, Int.reduceSub, Int.reduceMul, Int.reducePow, reduceIte, decide_true, decide_false, reduceCtorEq, hT]))
      refine ⟨_, h27, rfl, ?_⟩
      (try (simp (config := { maxSteps := 1000000 }) only [push_cast, Nat.reduceBEq, Nat.reduceBNe, Nat.reduceAdd, Nat.reduceSub, Nat.reduceMul, Nat.reduceLT, Nat.reduceLeDiff, Nat.reduceEqDiff, Nat.blt_eq, Int.reduceLT, Int.reduceLE, Int.reduceEq, Int.reduceToNat, Int.reduceNeg, Int.reduceAdd, Int.reduceSub, Int.reduceMul, Int.reducePow, reduceIte, decide_true, decide_false, reduceCtorEq]))
      refine ⟨_, h26t, rfl, ?_⟩
      (try (simp (config := { maxSteps := 1000000 }) only [push_cast, Nat.reduceBEq, Nat.reduceBNe, Nat.reduceAdd, Nat.reduceSub, Nat.reduceMul, Nat.reduceLT, Nat.reduceLeDiff, Nat.reduceEqDiff, Nat.blt_eq, Int.reduceLT, Int.reduceLE, Int.reduceEq, Int.reduceToNat, Int.reduceNeg, Int.reduceAdd, Int.reduceSub, Int.reduceMul, Int.reducePow, reduceIte, decide_true, decide_false, reduceCtorEq]))
      refine ⟨_, h27u, rfl, ?_⟩
      (try (simp (config := { maxSteps := 1000000 }) only [push_cast, Nat.reduceBEq, Nat.reduceBNe, Nat.reduceAdd, Nat.reduceSub, Nat.reduceMul, Nat.reduceLT, Nat.reduceLeDiff, Nat.reduceEqDiff, Nat.blt_eq, Int.reduceLT, Int.reduceLE, Int.reduceEq, Int.reduceToNat, Int.reduceNeg, Int.reduceAdd, Int.reduceSub, Int.reduceMul, Int.reducePow, reduceIte, decide_true, decide_false, reduceCtorEq]))
      refine ⟨_, h43, rfl, ?_⟩
      (try (simp (config := { maxSteps := 1000000 }) only [push_cast, Nat.reduceBEq, Nat.reduceBNe, Nat.reduceAdd, Nat.reduceSub, Nat.reduceMul, Nat.reduceLT, Nat.reduceLeDiff, Nat.reduceEqDiff, Nat.blt_eq, Int.reduceLT, Int.reduceLE, Int.reduceEq, Int.reduceToNat, Int.reduceNeg, Int.reduceAdd, Int.reduceSub, Int.reduceMul, Int.reducePow, reduceIte, decide_true, decide_false, reduceCtorEq]))
      refine ⟨_, h26u, rfl, ?_⟩
      (try (simp (config := { maxSteps := 1000000 }) only [push_cast, Nat.reduceBEq, Nat.reduceBNe, Nat.reduceAdd, Nat.reduceSub, Nat.reduceMul, Nat.reduceLT, Nat.reduceLeDiff, Nat.reduceEqDiff, Nat.blt_eq, Int.reduceLT, Int.reduceLE, Int.reduceEq, Int.reduceToNat, Int.reduceNeg, Int.reduceAdd, Int.reduceSub, Int.reduceMul, Int.reducePow, reduceIte, decide_true, decide_false, reduceCtorEq]))
      refine ⟨_, f31, rfl, ?_⟩
      (try (simp (config := { maxSteps := 1000000 }) only [push_cast, Nat.reduceBEq, Nat.reduceBNe, Nat.reduceAdd, Nat.reduceSub, Nat.reduceMul, Nat.reduceLT, Nat.reduceLeDiff, Nat.reduceEqDiff, Nat.blt_eq, Int.reduceLT, Int.reduceLE, Int.reduceEq, Int.reduceToNat, Int.reduceNeg, Int.reduceAdd, Int.reduceSub, Int.reduceMul, Int.reducePow, reduceIte, decide_true, decide_false, reduceCtorEq]))
    · have hc' : decide ((placesR k l [r]).2 = 0) = false := decide_eq_false hc
      have e : sortC k l r = ([], (placesR k l [r]).2) := by simp [sortC, hc]
      have eu : uniqC k l r = ([], (placesR k l [r]).2) := by simp [uniqC, hc]
      rw [e, eu]
      (try (simp (config := { maxSteps := 1000000 }) only [push_cast, Nat.reduceBEq, Nat.reduceBNe, Nat.reduceAdd, Nat.reduceSub, Nat.reduceMul, Nat.reduceLT, Nat.reduceLeDiff, Nat.reduceEqDiff, Nat.blt_eq, Int.reduceLT, Int.reduceLE, Int.reduceEq, Int.reduceToNat, Int.reduceNeg, Int.reduceAdd, Int.reduceSub, Int.reduceMul, Int.reducePow, reduceIte, decide_true, decide_false, reduceCtorEq, hc']))
      ((repeat' (with_reducible refine And.intro ?_ ?_)) <;> try (first | trivial | omega | exact inK64 (by omega) (by omega) | exact inKu8 (by omega) (by omega) | (simp only [maxLen]; omega) | exact .inl trivial | exact .inl rfl))
      refine ⟨_, f31, rfl, ?_⟩
      (try (simp (config := { maxSteps := 1000000 }) only [push_cast, Nat.reduceBEq, Nat.reduceBNe, Nat.reduceAdd, Nat.reduceSub, Nat.reduceMul, Nat.reduceLT, Nat.reduceLeDiff, Nat.reduceEqDiff, Nat.blt_eq, Int.reduceLT, Int.reduceLE, Int.reduceEq, Int.reduceToNat, Int.reduceNeg, Int.reduceAdd, Int.reduceSub, Int.reduceMul, Int.reducePow, reduceIte, decide_true, decide_false, reduceCtorEq]))
end Go.LS.Try
