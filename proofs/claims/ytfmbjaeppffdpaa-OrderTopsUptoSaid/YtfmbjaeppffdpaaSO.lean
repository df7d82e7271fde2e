/- Part SO: 8 texts, one behind the other. -/
import Derived.Test.YtfmbjaeppffdpaaS19
import Derived.Test.YtfmbjaeppffdpaaPK
import Derived.KernelRfl
namespace Go.LS.Try
open Go Go.LS
set_option maxRecDepth 100000
set_option linter.unusedSimpArgs false
set_option linter.unusedVariables false

theorem bi_dec1 (b : Bool) : decide (bi b = 1) = b := by cases b <;> rfl
theorem f40 (ks : List Ky) (l : List Cl) (a b : List Vl) (hk : okLen ks) (hl : okCl l) (hf : ∀ x ∈ ks, (findF x.col l 0).2.2 = true) (ha : a.length = l.length) (hb : b.length = l.length) :
    Spec V 40 [.c (.d (.sl 2 (ks.map eRK))), .c (.d (.sl 3 (l.map eRC))), .c (.d (.sl 4 (a.map eRV))), .c (.d (.sl 4 (b.map eRV)))] (i2 .i64 (ordF (placesF ks l) a b)) := by
  have hS := f56 l hl.1
  rw [show (l.map fun c => eS c.name) = (l.map (·.name)).map eS by rw [List.map_map]; rfl] at hS
  (refine Spec.of_go (L := fun | 0 => some [0, 1, 2, 3] | 1 => some [1, 2, 3, 13, 14, 15] | 2 => some [1, 2, 3, 13, 14, 15, 16] | 3 => some [1, 2, 3, 10, 13, 14, 15] | 4 => some [1, 2, 3, 10, 11, 13, 14, 15] | 5 => some [1, 2, 3, 10, 12, 13, 14, 15] | 6 => some [1, 2, 3, 12, 13, 14, 15, 39] | 7 => some [8] | 8 => some [1, 2, 3, 12, 13, 14, 15, 43] | 9 => some [8] | 10 => some [1, 2, 3, 13, 14, 15] | 11 => some [8] | _ => none) 1000 Go.Proofs.Try.func40 rfl rfl ⟨Nat.le_of_ble_eq_true rfl, rfl⟩ rfl ?_; unfold Go.Proofs.Try.f40; simp (config := { maxSteps := 1000000 }) only [push_cast, Nat.reduceBEq, Nat.reduceBNe, Nat.reduceAdd, Nat.reduceSub, Nat.reduceMul, Nat.reduceLT, Nat.reduceLeDiff, Nat.reduceEqDiff, Nat.blt_eq, Int.reduceLT, Int.reduceLE, Int.reduceEq, Int.reduceToNat, Int.reduceNeg, Int.reduceAdd, Int.reduceSub, Int.reduceMul, Int.reducePow, reduceIte, decide_true, decide_false, reduceCtorEq])
  have hkl : ks.length ≤ 1099511627776 := hk
  refine LoopK.s1 (α := Nat) [15] (fun k => [i2 .i64 k]) (fun k => k ≤ ks.length ∧ ordF (placesF (ks.drop k) l) a b = ordF (placesF ks l) a b) (fun k => ks.length - k) 1000 0 ⟨by omega, rfl⟩ (by (try (simp (config := { maxSteps := 1000000 }) only [push_cast, Nat.reduceBEq, Nat.reduceBNe, Nat.reduceAdd, Nat.reduceSub, Nat.reduceMul, Nat.reduceLT, Nat.reduceLeDiff, Nat.reduceEqDiff, Nat.blt_eq, Int.reduceLT, Int.reduceLE, Int.reduceEq, Int.reduceToNat, Int.reduceNeg, Int.reduceAdd, Int.reduceSub, Int.reduceMul, Int.reducePow, reduceIte, decide_true, decide_false, reduceCtorEq]))) ?_
  rintro k ⟨hk', hc⟩
  by_cases hlt : k < ks.length
  · have hv := List.getElem?_eq_getElem hlt; have hd : decide ((k : Int) < (ks.length : Int)) = true := decide_eq_true (by omega)
    obtain ⟨hlt0, _, hat⟩ := find_lt (hf _ (List.getElem_mem hlt))
    rw [drop_cons hv] at hc
    rw [placesF, List.map_cons, ordF] at hc
    change (if cmpF (a.getD (findF ks[k].col l 0).2.1 vl0) (b.getD (findF ks[k].col l 0).2.1 vl0) = 0 then ordF (placesF (ks.drop (k + 1)) l) a b else if ks[k].down = true then -cmpF (a.getD (findF ks[k].col l 0).2.1 vl0) (b.getD (findF ks[k].col l 0).2.1 vl0) else cmpF (a.getD (findF ks[k].col l 0).2.1 vl0) (b.getD (findF ks[k].col l 0).2.1 vl0)) = ordF (placesF ks l) a b at hc
    have hS2 := f55 (l.map (·.name)) ks[k].col (by simpa only [okLen, List.length_map] using hl.1)
    (try (simp (config := { maxSteps := 1000000 }) only [push_cast, Nat.reduceBEq, Nat.reduceBNe, Nat.reduceAdd, Nat.reduceSub, Nat.reduceMul, Nat.reduceLT, Nat.reduceLeDiff, Nat.reduceEqDiff, Nat.blt_eq, Int.reduceLT, Int.reduceLE, Int.reduceEq, Int.reduceToNat, Int.reduceNeg, Int.reduceAdd, Int.reduceSub, Int.reduceMul, Int.reducePow, reduceIte, decide_true, decide_false, reduceCtorEq, hd, getD_map hv]))
    ((repeat' (with_reducible refine And.intro ?_ ?_)) <;> try (first | trivial | omega | exact inK64 (by omega) (by omega) | exact inKu8 (by omega) (by omega) | (simp only [maxLen]; omega) | exact .inl trivial | exact .inl rfl))
    (refine DrawK.of (.take 0 (.take 2 (.take 3 (.one 1 (.one 4 (.take 5 .done)))))) 1000 (by decide +kernel) ?_; try (simp (config := { maxSteps := 1000000 }) only [push_cast, Nat.reduceBEq, Nat.reduceBNe, Nat.reduceAdd, Nat.reduceSub, Nat.reduceMul, Nat.reduceLT, Nat.reduceLeDiff, Nat.reduceEqDiff, Nat.blt_eq, Int.reduceLT, Int.reduceLE, Int.reduceEq, Int.reduceToNat, Int.reduceNeg, Int.reduceAdd, Int.reduceSub, Int.reduceMul, Int.reducePow, reduceIte, decide_true, decide_false, reduceCtorEq]))
    refine ⟨_, hS, rfl, ?_⟩
    (try (simp (config := { maxSteps := 1000000 }) only [push_cast, Nat.reduceBEq, Nat.reduceBNe, Nat.reduceAdd, Nat.reduceSub, Nat.reduceMul, Nat.reduceLT, Nat.reduceLeDiff, Nat.reduceEqDiff, Nat.blt_eq, Int.reduceLT, Int.reduceLE, Int.reduceEq, Int.reduceToNat, Int.reduceNeg, Int.reduceAdd, Int.reduceSub, Int.reduceMul, Int.reducePow, reduceIte, decide_true, decide_false, reduceCtorEq]))
    refine ⟨_, hS2, rfl, ?_⟩
    (try (simp (config := { maxSteps := 1000000 }) only [push_cast, Nat.reduceBEq, Nat.reduceBNe, Nat.reduceAdd, Nat.reduceSub, Nat.reduceMul, Nat.reduceLT, Nat.reduceLeDiff, Nat.reduceEqDiff, Nat.blt_eq, Int.reduceLT, Int.reduceLE, Int.reduceEq, Int.reduceToNat, Int.reduceNeg, Int.reduceAdd, Int.reduceSub, Int.reduceMul, Int.reducePow, reduceIte, decide_true, decide_false, reduceCtorEq]))
    generalize hK : atF ks[k].col (l.map (·.name)) 0 = K at *
    have hga := getD_rowR (r := a) (i := (findF ks[k].col l 0).2.1) (by omega)
    have hgb := getD_rowR (r := b) (i := (findF ks[k].col l 0).2.1) (by omega)
    have hKn : K.toNat = (findF ks[k].col l 0).2.1 := by omega
    have hKa : K < (a.length : Int) := by omega
    have hKb : K < (b.length : Int) := by omega
    have hK0 : 0 ≤ K := by omega
    rw [← hKn] at hga hgb hc
    have hbd := cmp_bd (a.getD K.toNat vl0) (b.getD K.toNat vl0)
    (refine DrawK.of (.take 0 (.take 1 (.take 2 (.take 3 (.take 4 (.take 5 (.take 6 (.take 7 (.one 8 (.take 9 .done)))))))))) 1000 (by decide +kernel) ?_; try (simp (config := { maxSteps := 1000000 }) only [push_cast, Nat.reduceBEq, Nat.reduceBNe, Nat.reduceAdd, Nat.reduceSub, Nat.reduceMul, Nat.reduceLT, Nat.reduceLeDiff, Nat.reduceEqDiff, Nat.blt_eq, Int.reduceLT, Int.reduceLE, Int.reduceEq, Int.reduceToNat, Int.reduceNeg, Int.reduceAdd, Int.reduceSub, Int.reduceMul, Int.reducePow, reduceIte, decide_true, decide_false, reduceCtorEq]))
    (try (simp (config := { maxSteps := 1000000 }) only [push_cast, Nat.reduceBEq, Nat.reduceBNe, Nat.reduceAdd, Nat.reduceSub, Nat.reduceMul, Nat.reduceLT, Nat.reduceLeDiff, Nat.reduceEqDiff, Nat.blt_eq, Int.reduceLT, Int.reduceLE, Int.reduceEq, Int.reduceToNat, Int.reduceNeg, Int.reduceAdd, Int.reduceSub, Int.reduceMul, Int.reducePow, reduceIte, decide_true, decide_false, reduceCtorEq, hga, hgb]))
    ((repeat' (with_reducible refine And.intro ?_ ?_)) <;> try (first | trivial | omega | exact inK64 (by omega) (by omega) | exact inKu8 (by omega) (by omega) | (simp only [maxLen]; omega) | exact .inl trivial | exact .inl rfl))
    (try (simp (config := { maxSteps := 1000000 }) only [push_cast, Nat.reduceBEq, Nat.reduceBNe, Nat.reduceAdd, Nat.reduceSub, Nat.reduceMul, Nat.reduceLT, Nat.reduceLeDiff, Nat.reduceEqDiff, Nat.blt_eq, Int.reduceLT, Int.reduceLE, Int.reduceEq, Int.reduceToNat, Int.reduceNeg, Int.reduceAdd, Int.reduceSub, Int.reduceMul, Int.reducePow, reduceIte, decide_true, decide_false, reduceCtorEq, hga, hgb]))
    ((repeat' (with_reducible refine And.intro ?_ ?_)) <;> try (first | trivial | omega | exact inK64 (by omega) (by omega) | exact inKu8 (by omega) (by omega) | (simp only [maxLen]; omega) | exact .inl trivial | exact .inl rfl))
    have hS3 := f57 (a.getD K.toNat vl0) (b.getD K.toNat vl0)
    rw [← cmp_rcmp] at hS3
    simp only [eRV_eq, List.map_cons, List.map_nil, i2] at hS3
    refine ⟨_, hS3, rfl, ?_⟩
    clear hS3
    generalize cmpF (a.getD K.toNat vl0) (b.getD K.toNat vl0) = C at *
    (try (simp (config := { maxSteps := 1000000 }) only [push_cast, Nat.reduceBEq, Nat.reduceBNe, Nat.reduceAdd, Nat.reduceSub, Nat.reduceMul, Nat.reduceLT, Nat.reduceLeDiff, Nat.reduceEqDiff, Nat.blt_eq, Int.reduceLT, Int.reduceLE, Int.reduceEq, Int.reduceToNat, Int.reduceNeg, Int.reduceAdd, Int.reduceSub, Int.reduceMul, Int.reducePow, reduceIte, decide_true, decide_false, reduceCtorEq]))
    (repeat' (first | (simp (config := { maxSteps := 1000000 }) only [push_cast, Nat.reduceBEq, Nat.reduceBNe, Nat.reduceAdd, Nat.reduceSub, Nat.reduceMul, Nat.reduceLT, Nat.reduceLeDiff, Nat.reduceEqDiff, Nat.blt_eq, Int.reduceLT, Int.reduceLE, Int.reduceEq, Int.reduceToNat, Int.reduceNeg, Int.reduceAdd, Int.reduceSub, Int.reduceMul, Int.reducePow, reduceIte, decide_true, decide_false, reduceCtorEq]) | (refine BrP.mk (fun h => ?_) (fun h => ?_) <;> (try simp only [h]))))
    · rename_i h1
      have h2 := h
      simp only [Bool.not_eq_true', decide_eq_false_iff_not, bi_dec1] at h1 h2
      rw [if_neg h1, if_pos h2] at hc
      exact ⟨inK64 (by omega) (by omega), hc⟩
    · rename_i h1 h2
      simp only [Bool.not_eq_true', decide_eq_false_iff_not, bi_dec1] at h1 h2
      rw [if_neg h1, if_neg (by simp [h2])] at hc
      exact hc
    · rename_i h1 h2
      rw [h1] at h; cases h
    · rename_i h1
      rw [h1] at h; cases h
    · rename_i h1
      simp only [Bool.not_eq_false', decide_eq_true_eq] at h1
      rw [if_pos h1] at hc
      refine ⟨inK64 (by omega) (by omega), k + 1, ⟨by omega, hc⟩, by omega, Le.st ?_⟩
      (try (simp (config := { maxSteps := 1000000 }) only [push_cast, Nat.reduceBEq, Nat.reduceBNe, Nat.reduceAdd, Nat.reduceSub, Nat.reduceMul, Nat.reduceLT, Nat.reduceLeDiff, Nat.reduceEqDiff, Nat.blt_eq, Int.reduceLT, Int.reduceLE, Int.reduceEq, Int.reduceToNat, Int.reduceNeg, Int.reduceAdd, Int.reduceSub, Int.reduceMul, Int.reducePow, reduceIte, decide_true, decide_false, reduceCtorEq]))
  · have hd : decide ((k : Int) < (ks.length : Int)) = false := decide_eq_false (by omega)
    rw [List.drop_eq_nil_of_le (by omega)] at hc
    (try (simp (config := { maxSteps := 1000000 }) only [push_cast, Nat.reduceBEq, Nat.reduceBNe, Nat.reduceAdd, Nat.reduceSub, Nat.reduceMul, Nat.reduceLT, Nat.reduceLeDiff, Nat.reduceEqDiff, Nat.blt_eq, Int.reduceLT, Int.reduceLE, Int.reduceEq, Int.reduceToNat, Int.reduceNeg, Int.reduceAdd, Int.reduceSub, Int.reduceMul, Int.reducePow, reduceIte, decide_true, decide_false, reduceCtorEq, hd]))
    exact hc
end Go.LS.Try
namespace Go.LS.Try
open Go Go.LS
set_option maxRecDepth 100000
set_option linter.unusedSimpArgs false
set_option linter.unusedVariables false

theorem f38 (ks : List Ky) (l : List Cl) (rows : List (List Vl)) (hk : okLen ks) (hl : okCl l) (hf : ∀ x ∈ ks, (findF x.col l 0).2.2 = true) (hr : okLen rows) (hw : ∀ r ∈ rows, r.length = l.length) :
    Spec V 38 [.c (.d (.sl 2 (ks.map eRK))), .c (.d (.sl 3 (l.map eRC))), .c (.d (.sl 1 (rows.map eRR)))] (.c (.d (.sl 1 ((sortF (ordF (placesF ks l)) rows).map eRR)))) := by
  have hrl : rows.length ≤ 1099511627776 := hr
  (refine Spec.of_go (L := fun | 0 => some [0, 1, 2] | 1 => some [0, 1, 2, 7] | 2 => some [0, 1, 7, 12, 13, 14] | 3 => some [0, 1, 7, 12, 13, 14, 15] | 4 => some [0, 1, 7, 9, 12, 13, 14] | 5 => some [0, 1, 7, 9, 10, 12, 13, 14] | 6 => some [0, 1, 7, 9, 10, 12, 13, 14, 32] | 7 => some [0, 1, 7, 9, 10, 12, 13, 14] | 8 => some [0, 1, 7, 9, 10, 11, 12, 13, 14] | 9 => some [0, 1, 11, 12, 13, 14] | 10 => some [0, 1, 7, 12, 13, 14] | 11 => some [0, 1, 7, 12, 13, 14] | 12 => some [6] | _ => none) 1000 Go.Proofs.Try.func38 rfl rfl ⟨Nat.le_of_ble_eq_true rfl, rfl⟩ rfl ?_; unfold Go.Proofs.Try.f38; simp (config := { maxSteps := 1000000 }) only [push_cast, Nat.reduceBEq, Nat.reduceBNe, Nat.reduceAdd, Nat.reduceSub, Nat.reduceMul, Nat.reduceLT, Nat.reduceLeDiff, Nat.reduceEqDiff, Nat.blt_eq, Int.reduceLT, Int.reduceLE, Int.reduceEq, Int.reduceToNat, Int.reduceNeg, Int.reduceAdd, Int.reduceSub, Int.reduceMul, Int.reducePow, reduceIte, decide_true, decide_false, reduceCtorEq])
  refine LoopK.le (Le.nil 7 37 1 (by decide) (by (try (simp (config := { maxSteps := 1000000 }) only [push_cast, Nat.reduceBEq, Nat.reduceBNe, Nat.reduceAdd, Nat.reduceSub, Nat.reduceMul, Nat.reduceLT, Nat.reduceLeDiff, Nat.reduceEqDiff, Nat.blt_eq, Int.reduceLT, Int.reduceLE, Int.reduceEq, Int.reduceToNat, Int.reduceNeg, Int.reduceAdd, Int.reduceSub, Int.reduceMul, Int.reducePow, reduceIte, decide_true, decide_false, reduceCtorEq])))) ?_
  (try (simp (config := { maxSteps := 1000000 }) only [push_cast, Nat.reduceBEq, Nat.reduceBNe, Nat.reduceAdd, Nat.reduceSub, Nat.reduceMul, Nat.reduceLT, Nat.reduceLeDiff, Nat.reduceEqDiff, Nat.blt_eq, Int.reduceLT, Int.reduceLE, Int.reduceEq, Int.reduceToNat, Int.reduceNeg, Int.reduceAdd, Int.reduceSub, Int.reduceMul, Int.reducePow, reduceIte, decide_true, decide_false, reduceCtorEq]))
  refine LoopK.le (τ := ⟨[(7, .c (.d (.sl 1 []))), (14, i2 .i64 0), (13, i2 .i64 rows.length), (12, .c (.d (.sl 1 (rows.map eRR)))), (0, .c (.d (.sl 2 (ks.map eRK)))), (1, .c (.d (.sl 3 (l.map eRC))))], []⟩) (Le.frz [0] (by (try (simp (config := { maxSteps := 1000000 }) only [push_cast, Nat.reduceBEq, Nat.reduceBNe, Nat.reduceAdd, Nat.reduceSub, Nat.reduceMul, Nat.reduceLT, Nat.reduceLeDiff, Nat.reduceEqDiff, Nat.blt_eq, Int.reduceLT, Int.reduceLE, Int.reduceEq, Int.reduceToNat, Int.reduceNeg, Int.reduceAdd, Int.reduceSub, Int.reduceMul, Int.reducePow, reduceIte, decide_true, decide_false, reduceCtorEq])))) ?_
  refine LoopK.s1 (α := Nat × List (List Vl)) [14, 7] (fun p => [i2 .i64 p.1, .c (.d (.sl 1 (p.2.map eRR)))]) (fun p => p.1 ≤ rows.length ∧ sortL (ordF (placesF ks l)) p.2 (rows.drop p.1) = sortF (ordF (placesF ks l)) rows ∧ p.2.length = p.1 ∧ ∀ r ∈ p.2, r.length = l.length) (fun p => rows.length - p.1) 1000 (0, []) ⟨by simp, rfl, rfl, by simp⟩ (by (try (simp (config := { maxSteps := 1000000 }) only [push_cast, Nat.reduceBEq, Nat.reduceBNe, Nat.reduceAdd, Nat.reduceSub, Nat.reduceMul, Nat.reduceLT, Nat.reduceLeDiff, Nat.reduceEqDiff, Nat.blt_eq, Int.reduceLT, Int.reduceLE, Int.reduceEq, Int.reduceToNat, Int.reduceNeg, Int.reduceAdd, Int.reduceSub, Int.reduceMul, Int.reducePow, reduceIte, decide_true, decide_false, reduceCtorEq]))) ?_
  rintro ⟨k, out⟩ ⟨hk', hc, ho, how⟩
  simp only at hk' hc ho how
  by_cases hlt : k < rows.length
  · have hv := List.getElem?_eq_getElem hlt; have hd : decide ((k : Int) < (rows.length : Int)) = true := decide_eq_true (by omega)
    rw [drop_cons hv, sortL] at hc
    have hwk := hw _ (List.getElem_mem hlt)
    generalize rows[k] = r at *
    (try (simp (config := { maxSteps := 1000000 }) only [push_cast, Nat.reduceBEq, Nat.reduceBNe, Nat.reduceAdd, Nat.reduceSub, Nat.reduceMul, Nat.reduceLT, Nat.reduceLeDiff, Nat.reduceEqDiff, Nat.blt_eq, Int.reduceLT, Int.reduceLE, Int.reduceEq, Int.reduceToNat, Int.reduceNeg, Int.reduceAdd, Int.reduceSub, Int.reduceMul, Int.reducePow, reduceIte, decide_true, decide_false, reduceCtorEq, hd, getD_map hv]))
    ((repeat' (with_reducible refine And.intro ?_ ?_)) <;> try (first | trivial | omega | exact inK64 (by omega) (by omega) | exact inKu8 (by omega) (by omega) | (simp only [maxLen]; omega) | exact .inl trivial | exact .inl rfl))
    refine LoopK.s1 (α := Nat) [10] (fun n => [i2 .i64 n]) (fun n => n ≤ out.length ∧ n + aheadF (ordF (placesF ks l)) r (out.drop n) = aheadF (ordF (placesF ks l)) r out) (fun n => out.length - n) 1000 0 ⟨by omega, by simp⟩ (by (try (simp (config := { maxSteps := 1000000 }) only [push_cast, Nat.reduceBEq, Nat.reduceBNe, Nat.reduceAdd, Nat.reduceSub, Nat.reduceMul, Nat.reduceLT, Nat.reduceLeDiff, Nat.reduceEqDiff, Nat.blt_eq, Int.reduceLT, Int.reduceLE, Int.reduceEq, Int.reduceToNat, Int.reduceNeg, Int.reduceAdd, Int.reduceSub, Int.reduceMul, Int.reducePow, reduceIte, decide_true, decide_false, reduceCtorEq]))) ?_
    rintro n ⟨hn, hc2⟩
    have hal := ahead_le (ordF (placesF ks l)) r out
    by_cases hnl : n < out.length
    · have hvn := List.getElem?_eq_getElem hnl
      have hdn : decide ((n : Int) < (out.length : Int)) = true := decide_eq_true (by omega)
      rw [drop_cons hvn, aheadF] at hc2
      have hS := f40 ks l out[n] r hk hl hf (how _ (List.getElem_mem hnl)) hwk
      generalize out[n] = x at *
      (try (simp (config := { maxSteps := 1000000 }) only [push_cast, Nat.reduceBEq, Nat.reduceBNe, Nat.reduceAdd, Nat.reduceSub, Nat.reduceMul, Nat.reduceLT, Nat.reduceLeDiff, Nat.reduceEqDiff, Nat.blt_eq, Int.reduceLT, Int.reduceLE, Int.reduceEq, Int.reduceToNat, Int.reduceNeg, Int.reduceAdd, Int.reduceSub, Int.reduceMul, Int.reducePow, reduceIte, decide_true, decide_false, reduceCtorEq, hdn, getD_map hvn]))
      ((repeat' (with_reducible refine And.intro ?_ ?_)) <;> try (first | trivial | omega | exact inK64 (by omega) (by omega) | exact inKu8 (by omega) (by omega) | (simp only [maxLen]; omega) | exact .inl trivial | exact .inl rfl))
      refine ⟨_, hS, rfl, ?_⟩
      (try (simp (config := { maxSteps := 1000000 }) only [push_cast, Nat.reduceBEq, Nat.reduceBNe, Nat.reduceAdd, Nat.reduceSub, Nat.reduceMul, Nat.reduceLT, Nat.reduceLeDiff, Nat.reduceEqDiff, Nat.blt_eq, Int.reduceLT, Int.reduceLE, Int.reduceEq, Int.reduceToNat, Int.reduceNeg, Int.reduceAdd, Int.reduceSub, Int.reduceMul, Int.reducePow, reduceIte, decide_true, decide_false, reduceCtorEq]))
      refine BrP.mk (fun h => ?_) (fun h => ?_) <;> try (simp (config := { maxSteps := 1000000 }) only [push_cast, Nat.reduceBEq, Nat.reduceBNe, Nat.reduceAdd, Nat.reduceSub, Nat.reduceMul, Nat.reduceLT, Nat.reduceLeDiff, Nat.reduceEqDiff, Nat.blt_eq, Int.reduceLT, Int.reduceLE, Int.reduceEq, Int.reduceToNat, Int.reduceNeg, Int.reduceAdd, Int.reduceSub, Int.reduceMul, Int.reducePow, reduceIte, decide_true, decide_false, reduceCtorEq, h])
      · have hle : ordF (placesF ks l) x r ≤ 0 := by simpa using h
        rw [if_pos hle] at hc2
        ((repeat' (with_reducible refine And.intro ?_ ?_)) <;> try (first | trivial | omega | exact inK64 (by omega) (by omega) | exact inKu8 (by omega) (by omega) | (simp only [maxLen]; omega) | exact .inl trivial | exact .inl rfl))
        refine ⟨n + 1, ⟨by omega, by omega⟩, by omega, Le.st ?_⟩
        (try (simp (config := { maxSteps := 1000000 }) only [push_cast, Nat.reduceBEq, Nat.reduceBNe, Nat.reduceAdd, Nat.reduceSub, Nat.reduceMul, Nat.reduceLT, Nat.reduceLeDiff, Nat.reduceEqDiff, Nat.blt_eq, Int.reduceLT, Int.reduceLE, Int.reduceEq, Int.reduceToNat, Int.reduceNeg, Int.reduceAdd, Int.reduceSub, Int.reduceMul, Int.reducePow, reduceIte, decide_true, decide_false, reduceCtorEq]))
      · have hle : ¬ ordF (placesF ks l) x r ≤ 0 := by simpa using h
        rw [if_neg hle] at hc2
        have hin := insF_eq (ordF (placesF ks l)) r out
        rw [← hc2, Nat.add_zero] at hin
        (try (simp (config := { maxSteps := 1000000 }) only [push_cast, Nat.reduceBEq, Nat.reduceBNe, Nat.reduceAdd, Nat.reduceSub, Nat.reduceMul, Nat.reduceLT, Nat.reduceLeDiff, Nat.reduceEqDiff, Nat.blt_eq, Int.reduceLT, Int.reduceLE, Int.reduceEq, Int.reduceToNat, Int.reduceNeg, Int.reduceAdd, Int.reduceSub, Int.reduceMul, Int.reducePow, reduceIte, decide_true, decide_false, reduceCtorEq]))
        refine DrawK.cut (.take 0 (.take 1 (.take 2 (.take 3 (.take 5 (.take 8 (.take 9 (.three 4 (.two 6 (.two 7 (.take 10 (.one 11 (.take 12 .done))) 10 (.one 7 (.one 11 (.take 12 .done)))) 10 (.one 6 (.one 7 (.one 11 (.take 12 .done))))) 6 (.two 4 (.two 7 (.take 10 (.one 11 (.take 12 .done))) 10 (.one 7 (.one 11 (.take 12 .done)))) 10 (.one 4 (.one 7 (.one 11 (.take 12 .done))))) 10 (.two 4 (.one 6 (.one 7 (.one 11 (.take 12 .done)))) 6 (.one 4 (.one 7 (.one 11 (.take 12 .done))))))))))))) 1000 (by decide +kernel) ⟨[(11, .c (.d (.sl 1 ((insF (ordF (placesF ks l)) r out).map eRR)))), (14, i2 .i64 k), (13, i2 .i64 rows.length), (12, .c (.d (.sl 1 (rows.map eRR)))), (0, .c (.d (.sl 2 (ks.map eRK)))), (1, .c (.d (.sl 3 (l.map eRC))))], []⟩ ?_ ?_
        · rw [hin]
          (try (simp (config := { maxSteps := 1000000 }) only [push_cast, Nat.reduceBEq, Nat.reduceBNe, Nat.reduceAdd, Nat.reduceSub, Nat.reduceMul, Nat.reduceLT, Nat.reduceLeDiff, Nat.reduceEqDiff, Nat.blt_eq, Int.reduceLT, Int.reduceLE, Int.reduceEq, Int.reduceToNat, Int.reduceNeg, Int.reduceAdd, Int.reduceSub, Int.reduceMul, Int.reducePow, reduceIte, decide_true, decide_false, reduceCtorEq]))
          ((repeat' (with_reducible refine And.intro ?_ ?_)) <;> try (first | trivial | omega | exact inK64 (by omega) (by omega) | exact inKu8 (by omega) (by omega) | (simp only [maxLen]; omega) | exact .inl trivial | exact .inl rfl))
          all_goals (try (simp only [List.length_append, List.length_take, List.length_drop, List.length_map, List.length_cons, List.length_nil, maxLen]; omega))
          all_goals (refine Le.frz [0, 1] ?_; (try (simp (config := { maxSteps := 1000000 }) only [push_cast, Nat.reduceBEq, Nat.reduceBNe, Nat.reduceAdd, Nat.reduceSub, Nat.reduceMul, Nat.reduceLT, Nat.reduceLeDiff, Nat.reduceEqDiff, Nat.blt_eq, Int.reduceLT, Int.reduceLE, Int.reduceEq, Int.reduceToNat, Int.reduceNeg, Int.reduceAdd, Int.reduceSub, Int.reduceMul, Int.reducePow, reduceIte, decide_true, decide_false, reduceCtorEq])))
          all_goals (simp only [List.map_append, List.map_take, List.map_drop]; rfl)
        (try (simp (config := { maxSteps := 1000000 }) only [push_cast, Nat.reduceBEq, Nat.reduceBNe, Nat.reduceAdd, Nat.reduceSub, Nat.reduceMul, Nat.reduceLT, Nat.reduceLeDiff, Nat.reduceEqDiff, Nat.blt_eq, Int.reduceLT, Int.reduceLE, Int.reduceEq, Int.reduceToNat, Int.reduceNeg, Int.reduceAdd, Int.reduceSub, Int.reduceMul, Int.reducePow, reduceIte, decide_true, decide_false, reduceCtorEq]))
        ((repeat' (with_reducible refine And.intro ?_ ?_)) <;> try (first | trivial | omega | exact inK64 (by omega) (by omega) | exact inKu8 (by omega) (by omega) | (simp only [maxLen]; omega) | exact .inl trivial | exact .inl rfl))
        refine ⟨(k + 1, insF (ordF (placesF ks l)) r out), ⟨by simp only; omega, hc, by rw [insF_len]; simp only; omega, fun y hy => ?_⟩, by simp only; omega, Le.st ?_⟩
        · rcases (insF_mem _ _ _ _).1 hy with rfl | hy
          · exact hwk
          · exact how y hy
        · (try (simp (config := { maxSteps := 1000000 }) only [push_cast, Nat.reduceBEq, Nat.reduceBNe, Nat.reduceAdd, Nat.reduceSub, Nat.reduceMul, Nat.reduceLT, Nat.reduceLeDiff, Nat.reduceEqDiff, Nat.blt_eq, Int.reduceLT, Int.reduceLE, Int.reduceEq, Int.reduceToNat, Int.reduceNeg, Int.reduceAdd, Int.reduceSub, Int.reduceMul, Int.reducePow, reduceIte, decide_true, decide_false, reduceCtorEq]))
    · have hdn : decide ((n : Int) < (out.length : Int)) = false := decide_eq_false (by omega)
      rw [List.drop_eq_nil_of_le (by omega), aheadF] at hc2
      have hin := insF_eq (ordF (placesF ks l)) r out
      rw [← hc2, Nat.add_zero] at hin
      (try (simp (config := { maxSteps := 1000000 }) only [push_cast, Nat.reduceBEq, Nat.reduceBNe, Nat.reduceAdd, Nat.reduceSub, Nat.reduceMul, Nat.reduceLT, Nat.reduceLeDiff, Nat.reduceEqDiff, Nat.blt_eq, Int.reduceLT, Int.reduceLE, Int.reduceEq, Int.reduceToNat, Int.reduceNeg, Int.reduceAdd, Int.reduceSub, Int.reduceMul, Int.reducePow, reduceIte, decide_true, decide_false, reduceCtorEq, hdn]))
      refine DrawK.cut (.take 0 (.take 1 (.take 2 (.take 3 (.take 5 (.take 8 (.take 9 (.three 4 (.two 6 (.two 7 (.take 10 (.one 11 (.take 12 .done))) 10 (.one 7 (.one 11 (.take 12 .done)))) 10 (.one 6 (.one 7 (.one 11 (.take 12 .done))))) 6 (.two 4 (.two 7 (.take 10 (.one 11 (.take 12 .done))) 10 (.one 7 (.one 11 (.take 12 .done)))) 10 (.one 4 (.one 7 (.one 11 (.take 12 .done))))) 10 (.two 4 (.one 6 (.one 7 (.one 11 (.take 12 .done)))) 6 (.one 4 (.one 7 (.one 11 (.take 12 .done))))))))))))) 1000 (by decide +kernel) ⟨[(11, .c (.d (.sl 1 ((insF (ordF (placesF ks l)) r out).map eRR)))), (14, i2 .i64 k), (13, i2 .i64 rows.length), (12, .c (.d (.sl 1 (rows.map eRR)))), (0, .c (.d (.sl 2 (ks.map eRK)))), (1, .c (.d (.sl 3 (l.map eRC))))], []⟩ ?_ ?_
      · rw [hin]
        (try (simp (config := { maxSteps := 1000000 }) only [push_cast, Nat.reduceBEq, Nat.reduceBNe, Nat.reduceAdd, Nat.reduceSub, Nat.reduceMul, Nat.reduceLT, Nat.reduceLeDiff, Nat.reduceEqDiff, Nat.blt_eq, Int.reduceLT, Int.reduceLE, Int.reduceEq, Int.reduceToNat, Int.reduceNeg, Int.reduceAdd, Int.reduceSub, Int.reduceMul, Int.reducePow, reduceIte, decide_true, decide_false, reduceCtorEq]))
        ((repeat' (with_reducible refine And.intro ?_ ?_)) <;> try (first | trivial | omega | exact inK64 (by omega) (by omega) | exact inKu8 (by omega) (by omega) | (simp only [maxLen]; omega) | exact .inl trivial | exact .inl rfl))
        all_goals (try (simp only [List.length_append, List.length_take, List.length_drop, List.length_map, List.length_cons, List.length_nil, maxLen]; omega))
        all_goals (refine Le.frz [0, 1] ?_; (try (simp (config := { maxSteps := 1000000 }) only [push_cast, Nat.reduceBEq, Nat.reduceBNe, Nat.reduceAdd, Nat.reduceSub, Nat.reduceMul, Nat.reduceLT, Nat.reduceLeDiff, Nat.reduceEqDiff, Nat.blt_eq, Int.reduceLT, Int.reduceLE, Int.reduceEq, Int.reduceToNat, Int.reduceNeg, Int.reduceAdd, Int.reduceSub, Int.reduceMul, Int.reducePow, reduceIte, decide_true, decide_false, reduceCtorEq])))
        all_goals (simp only [List.map_append, List.map_take, List.map_drop]; rfl)
      (try (simp (config := { maxSteps := 1000000 }) only [push_cast, Nat.reduceBEq, Nat.reduceBNe, Nat.reduceAdd, Nat.reduceSub, Nat.reduceMul, Nat.reduceLT, Nat.reduceLeDiff, Nat.reduceEqDiff, Nat.blt_eq, Int.reduceLT, Int.reduceLE, Int.reduceEq, Int.reduceToNat, Int.reduceNeg, Int.reduceAdd, Int.reduceSub, Int.reduceMul, Int.reducePow, reduceIte, decide_true, decide_false, reduceCtorEq]))
      ((repeat' (with_reducible refine And.intro ?_ ?_)) <;> try (first | trivial | omega | exact inK64 (by omega) (by omega) | exact inKu8 (by omega) (by omega) | (simp only [maxLen]; omega) | exact .inl trivial | exact .inl rfl))
      refine ⟨(k + 1, insF (ordF (placesF ks l)) r out), ⟨by simp only; omega, hc, by rw [insF_len]; simp only; omega, fun y hy => ?_⟩, by simp only; omega, Le.st ?_⟩
      · rcases (insF_mem _ _ _ _).1 hy with rfl | hy
        · exact hwk
        · exact how y hy
      · (try (simp (config := { maxSteps := 1000000 }) only [push_cast, Nat.reduceBEq, Nat.reduceBNe, Nat.reduceAdd, Nat.reduceSub, Nat.reduceMul, Nat.reduceLT, Nat.reduceLeDiff, Nat.reduceEqDiff, Nat.blt_eq, Int.reduceLT, Int.reduceLE, Int.reduceEq, Int.reduceToNat, Int.reduceNeg, Int.reduceAdd, Int.reduceSub, Int.reduceMul, Int.reducePow, reduceIte, decide_true, decide_false, reduceCtorEq]))
  · have hd : decide ((k : Int) < (rows.length : Int)) = false := decide_eq_false (by omega)
    rw [List.drop_eq_nil_of_le (by omega)] at hc
    (try (simp (config := { maxSteps := 1000000 }) only [push_cast, Nat.reduceBEq, Nat.reduceBNe, Nat.reduceAdd, Nat.reduceSub, Nat.reduceMul, Nat.reduceLT, Nat.reduceLeDiff, Nat.reduceEqDiff, Nat.blt_eq, Int.reduceLT, Int.reduceLE, Int.reduceEq, Int.reduceToNat, Int.reduceNeg, Int.reduceAdd, Int.reduceSub, Int.reduceMul, Int.reducePow, reduceIte, decide_true, decide_false, reduceCtorEq, hd]))
    rw [← hc]; rfl
end Go.LS.Try
namespace Go.LS.Try
open Go Go.LS
set_option maxRecDepth 100000
set_option linter.unusedSimpArgs false
set_option linter.unusedVariables false

set_option maxHeartbeats 2000000 in
theorem f92 (f : List Vl → List Vl → Int) (fc : FuncId) (cap : DV) (pre seg post : List (List Vl)) (hf : ∀ x ∈ seg, ∀ y ∈ seg, Spec V fc [.c (.d (.sl 4 (x.map eV))), .c (.d (.sl 4 (y.map eV))), .c (.d cap)] (i2 .i64 (f x y))) (hn : okLen (pre ++ seg ++ post)) :
    SpecM V 92 24 1 ((pre ++ seg ++ post).map eR) [i2 .i64 pre.length, i2 .i64 (pre.length + seg.length), .c (.d (.clo fc [cap]))] ((pre ++ sortR f [] [] seg ++ post).map eR) (.tu []) := by
  have hnl : pre.length + seg.length + post.length ≤ 1099511627776 := by
    have : (pre ++ seg ++ post).length ≤ 1099511627776 := hn
    simpa [Nat.add_assoc] using this
  (refine SpecM.of_go (L := fun | 0 => some [0, 1, 2, 3, 8] | 1 => some [0, 1, 2, 3, 8, 14] | 2 => some [0, 1, 2, 3, 8] | 3 => some [0, 1, 2, 3, 8, 9] | 4 => some [0, 1, 2, 3, 8, 9, 34] | 5 => some [0, 1, 2, 3, 8, 9] | 6 => some [0, 1, 2, 3, 8, 9] | _ => none) 1000 Go.Proofs.Try.func92 rfl rfl ⟨Nat.le_of_ble_eq_true rfl, rfl⟩ rfl (by simp [sortR_len]) (by decide) ?_; intro cp; unfold Go.Proofs.Try.f92; simp (config := { maxSteps := 1000000 }) only [push_cast, Nat.reduceBEq, Nat.reduceBNe, Nat.reduceAdd, Nat.reduceSub, Nat.reduceMul, Nat.reduceLT, Nat.reduceLeDiff, Nat.reduceEqDiff, Nat.blt_eq, Int.reduceLT, Int.reduceLE, Int.reduceEq, Int.reduceToNat, Int.reduceNeg, Int.reduceAdd, Int.reduceSub, Int.reduceMul, Int.reducePow, reduceIte, decide_true, decide_false, reduceCtorEq])
  ((repeat' (with_reducible refine And.intro ?_ ?_)) <;> try (first | trivial | omega | exact inK64 (by omega) (by omega) | exact inKu8 (by omega) (by omega) | (simp only [maxLen]; omega) | exact .inl trivial | exact .inl rfl))
  rcases seg with _ | ⟨r0, rs⟩
  · refine LoopK.s1 (α := Unit) [] (fun _ => []) (fun _ => True) (fun _ => 0) 1000 () trivial (by (try (simp (config := { maxSteps := 1000000 }) only [push_cast, Nat.reduceBEq, Nat.reduceBNe, Nat.reduceAdd, Nat.reduceSub, Nat.reduceMul, Nat.reduceLT, Nat.reduceLeDiff, Nat.reduceEqDiff, Nat.blt_eq, Int.reduceLT, Int.reduceLE, Int.reduceEq, Int.reduceToNat, Int.reduceNeg, Int.reduceAdd, Int.reduceSub, Int.reduceMul, Int.reducePow, reduceIte, decide_true, decide_false, reduceCtorEq]))) ?_
    rintro _ _
    have hd : decide (((pre.length : Int) + 1) < (pre.length : Int)) = false := decide_eq_false (by omega)
    simp only [List.length_nil, Int.natCast_zero, Int.add_zero]
    (try (simp (config := { maxSteps := 1000000 }) only [push_cast, Nat.reduceBEq, Nat.reduceBNe, Nat.reduceAdd, Nat.reduceSub, Nat.reduceMul, Nat.reduceLT, Nat.reduceLeDiff, Nat.reduceEqDiff, Nat.blt_eq, Int.reduceLT, Int.reduceLE, Int.reduceEq, Int.reduceToNat, Int.reduceNeg, Int.reduceAdd, Int.reduceSub, Int.reduceMul, Int.reducePow, reduceIte, decide_true, decide_false, reduceCtorEq, hd]))
    all_goals simp [sortR]
  · refine LoopK.ov (α := Nat × List (List Vl)) [8] (fun p => [i2 .i64 (pre.length + p.1)]) (fun p => [.rw (pinT cp 24) 1 ((pre ++ (p.2 ++ ((r0 :: rs).drop p.1 ++ post))).map eR)]) (fun p => 1 ≤ p.1 ∧ p.1 ≤ (r0 :: rs).length ∧ p.2.length = p.1 ∧ sortR f [] p.2 ((r0 :: rs).drop p.1) = sortR f [] [] (r0 :: rs) ∧ ∀ x ∈ p.2, x ∈ r0 :: rs) (fun p => (r0 :: rs).length - p.1) 1000 (1, [r0]) ⟨by simp, by simp, rfl, rfl, by simp⟩ (by (try (simp (config := { maxSteps := 1000000 }) only [push_cast, Nat.reduceBEq, Nat.reduceBNe, Nat.reduceAdd, Nat.reduceSub, Nat.reduceMul, Nat.reduceLT, Nat.reduceLeDiff, Nat.reduceEqDiff, Nat.blt_eq, Int.reduceLT, Int.reduceLE, Int.reduceEq, Int.reduceToNat, Int.reduceNeg, Int.reduceAdd, Int.reduceSub, Int.reduceMul, Int.reducePow, reduceIte, decide_true, decide_false, reduceCtorEq])) <;> first | rfl | simp) ?_
    generalize r0 :: rs = seg at *
    rintro ⟨k, cur⟩ ⟨hk1, hk2, hc, hs, hm⟩
    simp only at hk1 hk2 hc hs hm
    subst hc
    by_cases hlt : cur.length < seg.length
    · have hv := List.getElem?_eq_getElem hlt
      have hd : decide ((pre.length : Int) + (cur.length : Int) < (pre.length : Int) + (seg.length : Int)) = true := decide_eq_true (by omega)
      rw [drop_cons hv] at hs ⊢
      rw [sortR] at hs
      have hrm := List.getElem_mem hlt
      generalize seg[cur.length] = r at *
      (try (simp (config := { maxSteps := 1000000 }) only [push_cast, Nat.reduceBEq, Nat.reduceBNe, Nat.reduceAdd, Nat.reduceSub, Nat.reduceMul, Nat.reduceLT, Nat.reduceLeDiff, Nat.reduceEqDiff, Nat.blt_eq, Int.reduceLT, Int.reduceLE, Int.reduceEq, Int.reduceToNat, Int.reduceNeg, Int.reduceAdd, Int.reduceSub, Int.reduceMul, Int.reducePow, reduceIte, decide_true, decide_false, reduceCtorEq, hd]))
      ((repeat' (with_reducible refine And.intro ?_ ?_)) <;> try (first | trivial | omega | exact inK64 (by omega) (by omega) | exact inKu8 (by omega) (by omega) | (simp only [maxLen]; omega) | exact .inl trivial | exact .inl rfl))
      refine LoopK.ov (α := Nat) [9] (fun m => [i2 .i64 (pre.length + m)]) (fun m => [.rw (pinT cp 24) 1 ((pre ++ (wayL cur r m ++ (seg.drop (cur.length + 1) ++ post))).map eR)]) (fun m => m ≤ cur.length ∧ posR f [] r cur m = posR f [] r cur cur.length) (fun m => m) 1000 cur.length ⟨by omega, rfl⟩ (by (try (simp (config := { maxSteps := 1000000 }) only [push_cast, Nat.reduceBEq, Nat.reduceBNe, Nat.reduceAdd, Nat.reduceSub, Nat.reduceMul, Nat.reduceLT, Nat.reduceLeDiff, Nat.reduceEqDiff, Nat.blt_eq, Int.reduceLT, Int.reduceLE, Int.reduceEq, Int.reduceToNat, Int.reduceNeg, Int.reduceAdd, Int.reduceSub, Int.reduceMul, Int.reducePow, reduceIte, decide_true, decide_false, reduceCtorEq])) <;> first | rfl | simp [wayL] | skip) ?_
      rintro m ⟨hm1, hm2⟩
      rcases m with _ | m
      · have hd0 : decide ((pre.length : Int) < (pre.length : Int) + 0) = false := decide_eq_false (by omega)
        have e : wayL cur r 0 = insR f [] r cur := by
          have : posR f [] r cur cur.length = 0 := by rw [← hm2]; rfl
          simp only [insR, this, wayL]
        rw [e]
        have hil : (insR f [] r cur).length = cur.length + 1 := insR_len _ _ _ _
        (refine DrawK.of (.take 0 (.take 1 (.take 2 (.take 3 (.take 4 (.take 5 (.take 6 (.take 7 (.take 8 (.take 9 (.take 10 (.take 11 (.take 12 (.take 13 (.one 14 (.take 15 (.take 16 .done))))))))))))))))) 1000 (by decide +kernel) ?_; try (simp (config := { maxSteps := 1000000 }) only [push_cast, Nat.reduceBEq, Nat.reduceBNe, Nat.reduceAdd, Nat.reduceSub, Nat.reduceMul, Nat.reduceLT, Nat.reduceLeDiff, Nat.reduceEqDiff, Nat.blt_eq, Int.reduceLT, Int.reduceLE, Int.reduceEq, Int.reduceToNat, Int.reduceNeg, Int.reduceAdd, Int.reduceSub, Int.reduceMul, Int.reducePow, reduceIte, decide_true, decide_false, reduceCtorEq]))
        (try (simp (config := { maxSteps := 1000000 }) only [push_cast, Nat.reduceBEq, Nat.reduceBNe, Nat.reduceAdd, Nat.reduceSub, Nat.reduceMul, Nat.reduceLT, Nat.reduceLeDiff, Nat.reduceEqDiff, Nat.blt_eq, Int.reduceLT, Int.reduceLE, Int.reduceEq, Int.reduceToNat, Int.reduceNeg, Int.reduceAdd, Int.reduceSub, Int.reduceMul, Int.reducePow, reduceIte, decide_true, decide_false, reduceCtorEq, hd0]))
        ((repeat' (with_reducible refine And.intro ?_ ?_)) <;> try (first | trivial | omega | exact inK64 (by omega) (by omega) | exact inKu8 (by omega) (by omega) | (simp only [maxLen]; omega) | exact .inl trivial | exact .inl rfl))
        refine ⟨(cur.length + 1, insR f [] r cur), ⟨by simp, by simp only; omega, hil, hs, fun y hy => ?_⟩, by simp only; omega, Le.st ?_⟩
        · rcases (insR_mem f [] r cur y).1 hy with rfl | hy
          · exact hrm
          · exact hm y hy
        · (try (simp (config := { maxSteps := 1000000 }) only [push_cast, Nat.reduceBEq, Nat.reduceBNe, Nat.reduceAdd, Nat.reduceSub, Nat.reduceMul, Nat.reduceLT, Nat.reduceLeDiff, Nat.reduceEqDiff, Nat.blt_eq, Int.reduceLT, Int.reduceLE, Int.reduceEq, Int.reduceToNat, Int.reduceNeg, Int.reduceAdd, Int.reduceSub, Int.reduceMul, Int.reducePow, reduceIte, decide_true, decide_false, reduceCtorEq]))
          ((repeat' (with_reducible refine And.intro ?_ ?_)) <;> try (first | trivial | omega | exact inK64 (by omega) (by omega) | exact inKu8 (by omega) (by omega) | (simp only [maxLen]; omega) | exact .inl trivial | exact .inl rfl))
      · have hm0 : m < cur.length := by omega
        have hx := List.getElem?_eq_getElem hm0
        have hxm := List.getElem_mem hm0
        have hd0 : decide ((pre.length : Int) < (pre.length : Int) + ((m : Int) + 1)) = true := decide_eq_true (by omega)
        have hS := hf r hrm cur[m] (hm _ hxm)
        have hg : cur.getD m [] = cur[m] := by simp [List.getD_eq_getElem?_getD, hx]
        simp only [posR, hg] at hm2
        have hstep := wayL_step (r := r) hx
        have hw1 := wayL_at (r := r) hm1
        have hw0 := wayL_pre (r := r) hm1
        have hwl := wayL_len cur r (m + 1) hm1
        have hwl0 := wayL_len cur r m (by omega)
        rw [hx] at hw0
        generalize cur[m] = x at *
        generalize hrest : seg.drop (cur.length + 1) ++ post = rest at *
        have hT1 : ((pre.length : Int) + ((m : Int) + 1)).toNat = pre.length + m + 1 := by omega
        have hT0 : ((pre.length : Int) + ((m : Int) + 1) - 1).toNat = pre.length + m := by omega
        obtain ⟨D, hD⟩ : ∃ D, D = pre ++ (wayL cur r (m + 1) ++ rest) := ⟨_, rfl⟩
        have hDl : D.length = pre.length + (cur.length + 1) + rest.length := by rw [hD]; simp [hwl]; omega
        have hD1 : D[pre.length + m + 1]? = some r := by
          rw [hD, Nat.add_assoc, List.getElem?_append_right (by omega), List.getElem?_append_left (by omega), ← hw1]
          congr 1; omega
        have hD0 : D[pre.length + m]? = some x := by
          rw [hD, List.getElem?_append_right (by omega), List.getElem?_append_left (by omega), ← hw0]
          congr 1; omega
        have hDs : (D.set (pre.length + m + 1) x).set (pre.length + m) r = pre ++ (wayL cur r m ++ rest) := by
          rw [hD, ← hstep, Nat.add_assoc, List.set_append_right _ _ (by omega), List.set_append_right _ _ (by omega), List.set_append_left _ _ (by omega), List.set_append_left _ _ (by simp; omega)]
          congr 4 <;> omega
        have hgd : ((D.map eR).set (pre.length + m + 1) [.sl 4 (x.map eV)]).getD (pre.length + m) [] = [.sl 4 (x.map eV)] := by
          rw [List.getD_eq_getElem?_getD, List.getElem?_set_ne (by omega), List.getElem?_map, hD0]; rfl
        have hset : ((D.map eR).set (pre.length + m + 1) [.sl 4 (x.map eV)]).set (pre.length + m) [.sl 4 (r.map eV)] = (pre ++ (wayL cur r m ++ rest)).map eR := by
          rw [← hDs, List.map_set, List.map_set]; rfl
        rw [← hD]
        (refine DrawK.of (.take 0 (.take 1 (.take 2 (.take 3 (.take 4 (.take 5 (.take 6 (.take 7 (.take 8 (.take 9 (.take 10 (.take 11 (.take 12 (.take 13 (.one 14 (.take 15 (.take 16 .done))))))))))))))))) 1000 (by decide +kernel) ?_; try (simp (config := { maxSteps := 1000000 }) only [push_cast, Nat.reduceBEq, Nat.reduceBNe, Nat.reduceAdd, Nat.reduceSub, Nat.reduceMul, Nat.reduceLT, Nat.reduceLeDiff, Nat.reduceEqDiff, Nat.blt_eq, Int.reduceLT, Int.reduceLE, Int.reduceEq, Int.reduceToNat, Int.reduceNeg, Int.reduceAdd, Int.reduceSub, Int.reduceMul, Int.reducePow, reduceIte, decide_true, decide_false, reduceCtorEq]))
        (try (simp (config := { maxSteps := 1000000 }) only [push_cast, Nat.reduceBEq, Nat.reduceBNe, Nat.reduceAdd, Nat.reduceSub, Nat.reduceMul, Nat.reduceLT, Nat.reduceLeDiff, Nat.reduceEqDiff, Nat.blt_eq, Int.reduceLT, Int.reduceLE, Int.reduceEq, Int.reduceToNat, Int.reduceNeg, Int.reduceAdd, Int.reduceSub, Int.reduceMul, Int.reducePow, reduceIte, decide_true, decide_false, reduceCtorEq, hd0]))
        ((repeat' (with_reducible refine And.intro ?_ ?_)) <;> try (first | trivial | omega | exact inK64 (by omega) (by omega) | exact inKu8 (by omega) (by omega) | (simp only [maxLen]; omega) | exact .inl trivial | exact .inl rfl))
        (try (simp (config := { maxSteps := 1000000 }) only [push_cast, Nat.reduceBEq, Nat.reduceBNe, Nat.reduceAdd, Nat.reduceSub, Nat.reduceMul, Nat.reduceLT, Nat.reduceLeDiff, Nat.reduceEqDiff, Nat.blt_eq, Int.reduceLT, Int.reduceLE, Int.reduceEq, Int.reduceToNat, Int.reduceNeg, Int.reduceAdd, Int.reduceSub, Int.reduceMul, Int.reducePow, reduceIte, decide_true, decide_false, reduceCtorEq, hT1, hT0, getD_map hD1, getD_map hD0]))
        ((repeat' (with_reducible refine And.intro ?_ ?_)) <;> try (first | trivial | omega | exact inK64 (by omega) (by omega) | exact inKu8 (by omega) (by omega) | (simp only [maxLen]; omega) | exact .inl trivial | exact .inl rfl))
        refine ⟨_, hS, rfl, ?_⟩
        (try (simp (config := { maxSteps := 1000000 }) only [push_cast, Nat.reduceBEq, Nat.reduceBNe, Nat.reduceAdd, Nat.reduceSub, Nat.reduceMul, Nat.reduceLT, Nat.reduceLeDiff, Nat.reduceEqDiff, Nat.blt_eq, Int.reduceLT, Int.reduceLE, Int.reduceEq, Int.reduceToNat, Int.reduceNeg, Int.reduceAdd, Int.reduceSub, Int.reduceMul, Int.reducePow, reduceIte, decide_true, decide_false, reduceCtorEq]))
        refine BrP.mk (fun h => ?_) (fun h => ?_) <;> try (simp (config := { maxSteps := 1000000 }) only [push_cast, Nat.reduceBEq, Nat.reduceBNe, Nat.reduceAdd, Nat.reduceSub, Nat.reduceMul, Nat.reduceLT, Nat.reduceLeDiff, Nat.reduceEqDiff, Nat.blt_eq, Int.reduceLT, Int.reduceLE, Int.reduceEq, Int.reduceToNat, Int.reduceNeg, Int.reduceAdd, Int.reduceSub, Int.reduceMul, Int.reducePow, reduceIte, decide_true, decide_false, reduceCtorEq, h])
        · have hlt0 : f r x < 0 := by simpa using h
          rw [if_pos hlt0] at hm2
          (refine DrawK.of (.take 0 (.take 1 (.take 5 (.take 6 (.take 7 (.take 8 (.take 9 (.take 10 (.take 11 (.take 12 (.take 13 (.take 14 (.three 2 (.two 3 (.two 4 (.one 15 (.one 16 (.one 17 .done))) 15 (.one 4 (.one 16 (.one 17 .done)))) 15 (.one 3 (.one 4 (.one 16 (.one 17 .done))))) 3 (.three 2 (.two 4 (.one 15 (.one 16 (.one 17 .done))) 15 (.one 4 (.one 16 (.one 17 .done)))) 4 (.two 2 (.one 15 (.one 16 (.one 17 .done))) 15 (.one 2 (.one 16 (.one 17 .done)))) 15 (.two 2 (.one 4 (.one 16 (.one 17 .done))) 4 (.one 2 (.one 16 (.one 17 .done))))) 15 (.two 2 (.one 3 (.one 4 (.one 16 (.one 17 .done)))) 3 (.two 2 (.one 4 (.one 16 (.one 17 .done))) 4 (.one 2 (.one 16 (.one 17 .done)))))))))))))))))) 1000 (by decide +kernel) ?_; try (simp (config := { maxSteps := 1000000 }) only [push_cast, Nat.reduceBEq, Nat.reduceBNe, Nat.reduceAdd, Nat.reduceSub, Nat.reduceMul, Nat.reduceLT, Nat.reduceLeDiff, Nat.reduceEqDiff, Nat.blt_eq, Int.reduceLT, Int.reduceLE, Int.reduceEq, Int.reduceToNat, Int.reduceNeg, Int.reduceAdd, Int.reduceSub, Int.reduceMul, Int.reducePow, reduceIte, decide_true, decide_false, reduceCtorEq]))
          ((repeat' (with_reducible refine And.intro ?_ ?_)) <;> try (first | trivial | omega | exact inK64 (by omega) (by omega) | exact inKu8 (by omega) (by omega) | (simp only [maxLen]; omega) | exact .inl trivial | exact .inl rfl))
          (try (simp (config := { maxSteps := 1000000 }) only [push_cast, Nat.reduceBEq, Nat.reduceBNe, Nat.reduceAdd, Nat.reduceSub, Nat.reduceMul, Nat.reduceLT, Nat.reduceLeDiff, Nat.reduceEqDiff, Nat.blt_eq, Int.reduceLT, Int.reduceLE, Int.reduceEq, Int.reduceToNat, Int.reduceNeg, Int.reduceAdd, Int.reduceSub, Int.reduceMul, Int.reducePow, reduceIte, decide_true, decide_false, reduceCtorEq, hT1, hT0, getD_map hD1, getD_map hD0]))
          ((repeat' (with_reducible refine And.intro ?_ ?_)) <;> try (first | trivial | omega | exact inK64 (by omega) (by omega) | exact inKu8 (by omega) (by omega) | (simp only [maxLen]; omega) | exact .inl trivial | exact .inl rfl))
          all_goals (try simp only [List.length_set, List.length_map])
          all_goals (try (simp (config := { maxSteps := 1000000 }) only [push_cast, Nat.reduceBEq, Nat.reduceBNe, Nat.reduceAdd, Nat.reduceSub, Nat.reduceMul, Nat.reduceLT, Nat.reduceLeDiff, Nat.reduceEqDiff, Nat.blt_eq, Int.reduceLT, Int.reduceLE, Int.reduceEq, Int.reduceToNat, Int.reduceNeg, Int.reduceAdd, Int.reduceSub, Int.reduceMul, Int.reducePow, reduceIte, decide_true, decide_false, reduceCtorEq, hT1, hT0, hgd, hset]))
          all_goals ((repeat' (with_reducible refine And.intro ?_ ?_)) <;> try (first | trivial | omega | exact inK64 (by omega) (by omega) | exact inKu8 (by omega) (by omega) | (simp only [maxLen]; omega) | exact .inl trivial | exact .inl rfl))
          all_goals first | omega | (refine ⟨m, ⟨by omega, hm2⟩, by omega, Le.st ?_⟩; (try (simp (config := { maxSteps := 1000000 }) only [push_cast, Nat.reduceBEq, Nat.reduceBNe, Nat.reduceAdd, Nat.reduceSub, Nat.reduceMul, Nat.reduceLT, Nat.reduceLeDiff, Nat.reduceEqDiff, Nat.blt_eq, Int.reduceLT, Int.reduceLE, Int.reduceEq, Int.reduceToNat, Int.reduceNeg, Int.reduceAdd, Int.reduceSub, Int.reduceMul, Int.reducePow, reduceIte, decide_true, decide_false, reduceCtorEq])); ((repeat' (with_reducible refine And.intro ?_ ?_)) <;> try (first | trivial | omega | exact inK64 (by omega) (by omega) | exact inKu8 (by omega) (by omega) | (simp only [maxLen]; omega) | exact .inl trivial | exact .inl rfl)))
        · have hlt0 : ¬ f r x < 0 := by simpa using h
          rw [if_neg hlt0] at hm2
          have e : wayL cur r (m + 1) = insR f [] r cur := by
            simp only [insR, ← hm2, wayL]
          have hil : (insR f [] r cur).length = cur.length + 1 := insR_len _ _ _ _
          rw [e] at hD
          ((repeat' (with_reducible refine And.intro ?_ ?_)) <;> try (first | trivial | omega | exact inK64 (by omega) (by omega) | exact inKu8 (by omega) (by omega) | (simp only [maxLen]; omega) | exact .inl trivial | exact .inl rfl))
          refine ⟨(cur.length + 1, insR f [] r cur), ⟨by simp, by simp only; omega, hil, hs, fun y hy => ?_⟩, by simp only; omega, Le.st ?_⟩
          · rcases (insR_mem f [] r cur y).1 hy with rfl | hy
            · exact hrm
            · exact hm y hy
          · simp only [hrest, ← hD]
            (try (simp (config := { maxSteps := 1000000 }) only [push_cast, Nat.reduceBEq, Nat.reduceBNe, Nat.reduceAdd, Nat.reduceSub, Nat.reduceMul, Nat.reduceLT, Nat.reduceLeDiff, Nat.reduceEqDiff, Nat.blt_eq, Int.reduceLT, Int.reduceLE, Int.reduceEq, Int.reduceToNat, Int.reduceNeg, Int.reduceAdd, Int.reduceSub, Int.reduceMul, Int.reducePow, reduceIte, decide_true, decide_false, reduceCtorEq]))
            ((repeat' (with_reducible refine And.intro ?_ ?_)) <;> try (first | trivial | omega | exact inK64 (by omega) (by omega) | exact inKu8 (by omega) (by omega) | (simp only [maxLen]; omega) | exact .inl trivial | exact .inl rfl))
    · have hd : decide ((pre.length : Int) + (cur.length : Int) < (pre.length : Int) + (seg.length : Int)) = false := decide_eq_false (by omega)
      rw [List.drop_eq_nil_of_le (by omega)] at hs ⊢
      (try (simp (config := { maxSteps := 1000000 }) only [push_cast, Nat.reduceBEq, Nat.reduceBNe, Nat.reduceAdd, Nat.reduceSub, Nat.reduceMul, Nat.reduceLT, Nat.reduceLeDiff, Nat.reduceEqDiff, Nat.blt_eq, Int.reduceLT, Int.reduceLE, Int.reduceEq, Int.reduceToNat, Int.reduceNeg, Int.reduceAdd, Int.reduceSub, Int.reduceMul, Int.reducePow, reduceIte, decide_true, decide_false, reduceCtorEq, hd]))
      rw [← hs]
      simp [sortR]
end Go.LS.Try
namespace Go.LS.Try
open Go Go.LS
set_option maxRecDepth 100000
set_option linter.unusedSimpArgs false
set_option linter.unusedVariables false

theorem f80 (f : List Vl → List Vl → Int) (fc : FuncId) (cap : DV) (rows : List (List Vl)) (hf : ∀ x ∈ rows, ∀ y ∈ rows, Spec V fc [.c (.d (.sl 4 (x.map eV))), .c (.d (.sl 4 (y.map eV))), .c (.d cap)] (i2 .i64 (f x y))) (hn : rows.length < 20) :
    SpecM V 80 24 1 (rows.map eR) [i2 .i64 rows.length, .c (.d (.clo fc [cap]))] ((sortR f [] [] rows).map eR) (.tu []) := by
  have hS : SpecM V 92 24 1 (rows.map eR) [i2 .i64 0, i2 .i64 rows.length, .c (.d (.clo fc [cap]))] ((sortR f [] [] rows).map eR) (.tu []) := by
    have := f92 f fc cap [] rows [] hf (by simp only [okLen]; simp; omega)
    simpa using this
  (refine SpecM.of_go (L := fun | 0 => some [0, 1, 2, 6] | 1 => some [0, 1, 2, 6, 7, 8] | 2 => some [0, 1, 2, 6, 7, 8, 13] | 3 => some [0, 1, 2, 6, 8] | 4 => some [0, 1, 2, 6, 7, 8] | 5 => some [0, 1, 2, 6, 7, 8] | 6 => some [0, 1, 2, 6] | 7 => some [0, 1, 2, 6, 30] | 8 => some [0, 1, 2, 6, 7, 8] | 9 => some [0, 1, 2, 6, 7, 8, 35] | 10 => some [0, 1, 2, 6, 8] | 11 => some [0, 1, 2, 6, 7, 8] | 12 => some [0, 1, 2, 6, 7, 8] | 13 => some [0, 1, 2, 6, 7, 9] | 14 => some [0, 1, 2, 6, 7, 9, 54] | 15 => some [0, 1, 2, 6] | 16 => some [0, 1, 2, 6] | _ => none) 1000 Go.Proofs.Try.func80 rfl rfl ⟨Nat.le_of_ble_eq_true rfl, rfl⟩ rfl (by simp [sortR_len]) (by decide) ?_; intro cp; unfold Go.Proofs.Try.f80; simp (config := { maxSteps := 1000000 }) only [push_cast, Nat.reduceBEq, Nat.reduceBNe, Nat.reduceAdd, Nat.reduceSub, Nat.reduceMul, Nat.reduceLT, Nat.reduceLeDiff, Nat.reduceEqDiff, Nat.blt_eq, Int.reduceLT, Int.reduceLE, Int.reduceEq, Int.reduceToNat, Int.reduceNeg, Int.reduceAdd, Int.reduceSub, Int.reduceMul, Int.reducePow, reduceIte, decide_true, decide_false, reduceCtorEq])
  ((repeat' (with_reducible refine And.intro ?_ ?_)) <;> try (first | trivial | omega | exact inK64 (by omega) (by omega) | exact inKu8 (by omega) (by omega) | (simp only [maxLen]; omega) | exact .inl trivial | exact .inl rfl))
  have hd : decide ((20 : Int) ≤ (rows.length : Int)) = false := decide_eq_false (by omega)
  have hd2 : decide ((20 : Int) < (rows.length : Int)) = false := decide_eq_false (by omega)
  refine LoopK.ov (α := Unit) [] (fun _ => []) (fun _ => [.rw (pinT cp 24) 1 (rows.map eR)]) (fun _ => True) (fun _ => 0) 1000 () trivial (by (try (simp (config := { maxSteps := 1000000 }) only [push_cast, Nat.reduceBEq, Nat.reduceBNe, Nat.reduceAdd, Nat.reduceSub, Nat.reduceMul, Nat.reduceLT, Nat.reduceLeDiff, Nat.reduceEqDiff, Nat.blt_eq, Int.reduceLT, Int.reduceLE, Int.reduceEq, Int.reduceToNat, Int.reduceNeg, Int.reduceAdd, Int.reduceSub, Int.reduceMul, Int.reducePow, reduceIte, decide_true, decide_false, reduceCtorEq]))) ?_
  rintro _ _
  (try (simp (config := { maxSteps := 1000000 }) only [push_cast, Nat.reduceBEq, Nat.reduceBNe, Nat.reduceAdd, Nat.reduceSub, Nat.reduceMul, Nat.reduceLT, Nat.reduceLeDiff, Nat.reduceEqDiff, Nat.blt_eq, Int.reduceLT, Int.reduceLE, Int.reduceEq, Int.reduceToNat, Int.reduceNeg, Int.reduceAdd, Int.reduceSub, Int.reduceMul, Int.reducePow, reduceIte, decide_true, decide_false, reduceCtorEq, hd]))
  refine ⟨_, _, by rw [show pinT cp 24 % 1000000 = 24 from tyOf_pinT cp 24]; exact hS, ?_⟩
  (try (simp (config := { maxSteps := 1000000 }) only [push_cast, Nat.reduceBEq, Nat.reduceBNe, Nat.reduceAdd, Nat.reduceSub, Nat.reduceMul, Nat.reduceLT, Nat.reduceLeDiff, Nat.reduceEqDiff, Nat.blt_eq, Int.reduceLT, Int.reduceLE, Int.reduceEq, Int.reduceToNat, Int.reduceNeg, Int.reduceAdd, Int.reduceSub, Int.reduceMul, Int.reducePow, reduceIte, decide_true, decide_false, reduceCtorEq]))
  refine LoopK.ov (α := Unit) [] (fun _ => []) (fun _ => [.rw (pinT cp 24) 1 ((sortR f [] [] rows).map eR)]) (fun _ => True) (fun _ => 0) 1000 () trivial (by (try (simp (config := { maxSteps := 1000000 }) only [push_cast, Nat.reduceBEq, Nat.reduceBNe, Nat.reduceAdd, Nat.reduceSub, Nat.reduceMul, Nat.reduceLT, Nat.reduceLeDiff, Nat.reduceEqDiff, Nat.blt_eq, Int.reduceLT, Int.reduceLE, Int.reduceEq, Int.reduceToNat, Int.reduceNeg, Int.reduceAdd, Int.reduceSub, Int.reduceMul, Int.reducePow, reduceIte, decide_true, decide_false, reduceCtorEq]))) ?_
  rintro _ _
  (try (simp (config := { maxSteps := 1000000 }) only [push_cast, Nat.reduceBEq, Nat.reduceBNe, Nat.reduceAdd, Nat.reduceSub, Nat.reduceMul, Nat.reduceLT, Nat.reduceLeDiff, Nat.reduceEqDiff, Nat.blt_eq, Int.reduceLT, Int.reduceLE, Int.reduceEq, Int.reduceToNat, Int.reduceNeg, Int.reduceAdd, Int.reduceSub, Int.reduceMul, Int.reducePow, reduceIte, decide_true, decide_false, reduceCtorEq, hd2]))
theorem f65 (f : List Vl → List Vl → Int) (fc : FuncId) (cap : DV) (rows : List (List Vl)) (hf : ∀ x ∈ rows, ∀ y ∈ rows, Spec V fc [.c (.d (.sl 4 (x.map eV))), .c (.d (.sl 4 (y.map eV))), .c (.d cap)] (i2 .i64 (f x y))) (hn : rows.length < 20) :
    SpecM V 65 24 1 (rows.map eR) [.c (.d (.clo fc [cap]))] ((sortR f [] [] rows).map eR) (.tu []) := by
  have hS := f80 f fc cap rows hf hn
  (refine SpecM.of_go (L := fun | 0 => some [] | _ => none) 1000 Go.Proofs.Try.func65 rfl rfl ⟨Nat.le_of_ble_eq_true rfl, rfl⟩ rfl (by simp [sortR_len]) (by decide) ?_; intro cp; unfold Go.Proofs.Try.f65; simp (config := { maxSteps := 1000000 }) only [push_cast, Nat.reduceBEq, Nat.reduceBNe, Nat.reduceAdd, Nat.reduceSub, Nat.reduceMul, Nat.reduceLT, Nat.reduceLeDiff, Nat.reduceEqDiff, Nat.blt_eq, Int.reduceLT, Int.reduceLE, Int.reduceEq, Int.reduceToNat, Int.reduceNeg, Int.reduceAdd, Int.reduceSub, Int.reduceMul, Int.reducePow, reduceIte, decide_true, decide_false, reduceCtorEq])
  refine ⟨_, _, by rw [show pinT cp 24 % 1000000 = 24 from tyOf_pinT cp 24]; exact hS, rfl⟩
end Go.LS.Try
namespace Go.LS.Try
open Go Go.LS
set_option maxRecDepth 100000
set_option linter.unusedSimpArgs false
set_option linter.unusedVariables false

theorem f30 (z : Cs) (hk : okLen z.k) (hl : okLen z.l) (hr : okRs z.r) : Spec V 30 [.ag ((eCs z).map .d)] (b2 (fewZ z)) := by
  obtain ⟨k, l, r⟩ := z
  simp only at hk hl hr
  have hkl : k.length ≤ 1099511627776 := hk
  have hrl : r.length ≤ 1099511627776 := hr.1
  (refine Spec.of_go (L := fun | 0 => some [1] | 1 => some [1, 24] | 2 => some [2] | 3 => some [1, 26, 27, 28] | 4 => some [1, 26, 27, 28, 29] | 5 => some [1, 4, 26, 27, 28] | 6 => some [1, 26, 27, 28, 35] | 7 => some [2] | 8 => some [1, 26, 27, 28] | 9 => some [38, 39, 40] | 10 => some [38, 39, 40, 41] | 11 => some [6, 38, 39, 40] | 12 => some [38, 39, 40, 44, 45, 46] | 13 => some [38, 39, 40, 44, 45, 46, 47] | 14 => some [8, 38, 39, 40, 44, 45, 46] | 15 => some [38, 39, 40, 44, 45, 46, 53] | 16 => some [2] | 17 => some [38, 39, 40, 44, 45, 46] | 18 => some [38, 39, 40] | 19 => some [2] | _ => none) 1000 Go.Proofs.Try.func30 rfl rfl ⟨Nat.le_of_ble_eq_true rfl, rfl⟩ rfl ?_; unfold Go.Proofs.Try.f30; simp (config := { maxSteps := 1000000 }) only [push_cast, Nat.reduceBEq, Nat.reduceBNe, Nat.reduceAdd, Nat.reduceSub, Nat.reduceMul, Nat.reduceLT, Nat.reduceLeDiff, Nat.reduceEqDiff, Nat.blt_eq, Int.reduceLT, Int.reduceLE, Int.reduceEq, Int.reduceToNat, Int.reduceNeg, Int.reduceAdd, Int.reduceSub, Int.reduceMul, Int.reducePow, reduceIte, decide_true, decide_false, reduceCtorEq])
  refine BrP.mk (fun h => ?_) (fun h => ?_) <;> try (simp (config := { maxSteps := 1000000 }) only [push_cast, Nat.reduceBEq, Nat.reduceBNe, Nat.reduceAdd, Nat.reduceSub, Nat.reduceMul, Nat.reduceLT, Nat.reduceLeDiff, Nat.reduceEqDiff, Nat.blt_eq, Int.reduceLT, Int.reduceLE, Int.reduceEq, Int.reduceToNat, Int.reduceNeg, Int.reduceAdd, Int.reduceSub, Int.reduceMul, Int.reducePow, reduceIte, decide_true, decide_false, reduceCtorEq, h])
  · have h12 : 12 < k.length := by simp at h; omega
    have : fewZ ⟨k, l, r⟩ = false := by simp [fewZ]; omega
    (try (simp (config := { maxSteps := 1000000 }) only [push_cast, Nat.reduceBEq, Nat.reduceBNe, Nat.reduceAdd, Nat.reduceSub, Nat.reduceMul, Nat.reduceLT, Nat.reduceLeDiff, Nat.reduceEqDiff, Nat.blt_eq, Int.reduceLT, Int.reduceLE, Int.reduceEq, Int.reduceToNat, Int.reduceNeg, Int.reduceAdd, Int.reduceSub, Int.reduceMul, Int.reducePow, reduceIte, decide_true, decide_false, reduceCtorEq]))
    simp only [this]
  · have h12 : k.length ≤ 12 := by simp at h; omega
    refine ⟨_, f13 l hl, rfl, ?_⟩
    (try (simp (config := { maxSteps := 1000000 }) only [push_cast, Nat.reduceBEq, Nat.reduceBNe, Nat.reduceAdd, Nat.reduceSub, Nat.reduceMul, Nat.reduceLT, Nat.reduceLeDiff, Nat.reduceEqDiff, Nat.blt_eq, Int.reduceLT, Int.reduceLE, Int.reduceEq, Int.reduceToNat, Int.reduceNeg, Int.reduceAdd, Int.reduceSub, Int.reduceMul, Int.reducePow, reduceIte, decide_true, decide_false, reduceCtorEq]))
    refine BrP.mk (fun h => ?_) (fun h => ?_) <;> try (simp (config := { maxSteps := 1000000 }) only [push_cast, Nat.reduceBEq, Nat.reduceBNe, Nat.reduceAdd, Nat.reduceSub, Nat.reduceMul, Nat.reduceLT, Nat.reduceLeDiff, Nat.reduceEqDiff, Nat.blt_eq, Int.reduceLT, Int.reduceLE, Int.reduceEq, Int.reduceToNat, Int.reduceNeg, Int.reduceAdd, Int.reduceSub, Int.reduceMul, Int.reducePow, reduceIte, decide_true, decide_false, reduceCtorEq, h])
    · have : fewZ ⟨k, l, r⟩ = false := by
        simp only [fewZ]
        simp only [Bool.not_eq_true'] at h
        rw [h]; simp
      (try (simp (config := { maxSteps := 1000000 }) only [push_cast, Nat.reduceBEq, Nat.reduceBNe, Nat.reduceAdd, Nat.reduceSub, Nat.reduceMul, Nat.reduceLT, Nat.reduceLeDiff, Nat.reduceEqDiff, Nat.blt_eq, Int.reduceLT, Int.reduceLE, Int.reduceEq, Int.reduceToNat, Int.reduceNeg, Int.reduceAdd, Int.reduceSub, Int.reduceMul, Int.reducePow, reduceIte, decide_true, decide_false, reduceCtorEq]))
      simp only [this]
    · have hL : (!longC l && decide (l.length ≤ 12)) = true := by simpa using h
      refine ⟨_, f19 r hr.1 (fun x hx => (hr.2 x hx).1), rfl, ?_⟩
      (try (simp (config := { maxSteps := 1000000 }) only [push_cast, Nat.reduceBEq, Nat.reduceBNe, Nat.reduceAdd, Nat.reduceSub, Nat.reduceMul, Nat.reduceLT, Nat.reduceLeDiff, Nat.reduceEqDiff, Nat.blt_eq, Int.reduceLT, Int.reduceLE, Int.reduceEq, Int.reduceToNat, Int.reduceNeg, Int.reduceAdd, Int.reduceSub, Int.reduceMul, Int.reducePow, reduceIte, decide_true, decide_false, reduceCtorEq]))
      refine BrP.mk (fun h => ?_) (fun h => ?_) <;> try (simp (config := { maxSteps := 1000000 }) only [push_cast, Nat.reduceBEq, Nat.reduceBNe, Nat.reduceAdd, Nat.reduceSub, Nat.reduceMul, Nat.reduceLT, Nat.reduceLeDiff, Nat.reduceEqDiff, Nat.blt_eq, Int.reduceLT, Int.reduceLE, Int.reduceEq, Int.reduceToNat, Int.reduceNeg, Int.reduceAdd, Int.reduceSub, Int.reduceMul, Int.reducePow, reduceIte, decide_true, decide_false, reduceCtorEq, h])
      · have hs : smallF r = false := by simpa using h
        have : fewZ ⟨k, l, r⟩ = false := by simp [fewZ, hs]
        (try (simp (config := { maxSteps := 1000000 }) only [push_cast, Nat.reduceBEq, Nat.reduceBNe, Nat.reduceAdd, Nat.reduceSub, Nat.reduceMul, Nat.reduceLT, Nat.reduceLeDiff, Nat.reduceEqDiff, Nat.blt_eq, Int.reduceLT, Int.reduceLE, Int.reduceEq, Int.reduceToNat, Int.reduceNeg, Int.reduceAdd, Int.reduceSub, Int.reduceMul, Int.reducePow, reduceIte, decide_true, decide_false, reduceCtorEq]))
        simp only [this]
      · have hs : smallF r = true := by simpa using h
        have hz : fewZ ⟨k, l, r⟩ = ((k.all fun k => decide (k.col.size ≤ 100)) && r.all fun r => r.all rightF) := by
          have h12' : decide (k.length ≤ 12) = true := decide_eq_true h12
          simp only [fewZ, hL, hs, h12', Bool.true_and]
        (try (simp (config := { maxSteps := 1000000 }) only [push_cast, Nat.reduceBEq, Nat.reduceBNe, Nat.reduceAdd, Nat.reduceSub, Nat.reduceMul, Nat.reduceLT, Nat.reduceLeDiff, Nat.reduceEqDiff, Nat.blt_eq, Int.reduceLT, Int.reduceLE, Int.reduceEq, Int.reduceToNat, Int.reduceNeg, Int.reduceAdd, Int.reduceSub, Int.reduceMul, Int.reducePow, reduceIte, decide_true, decide_false, reduceCtorEq]))
        refine LoopK.s1 (α := Nat) [28] (fun j => [i2 .i64 j]) (fun j => j ≤ k.length ∧ (k.drop j).all (fun k => decide (k.col.size ≤ 100)) = k.all fun k => decide (k.col.size ≤ 100)) (fun j => k.length - j) 1000 0 ⟨by omega, rfl⟩ (by (try (simp (config := { maxSteps := 1000000 }) only [push_cast, Nat.reduceBEq, Nat.reduceBNe, Nat.reduceAdd, Nat.reduceSub, Nat.reduceMul, Nat.reduceLT, Nat.reduceLeDiff, Nat.reduceEqDiff, Nat.blt_eq, Int.reduceLT, Int.reduceLE, Int.reduceEq, Int.reduceToNat, Int.reduceNeg, Int.reduceAdd, Int.reduceSub, Int.reduceMul, Int.reducePow, reduceIte, decide_true, decide_false, reduceCtorEq]))) ?_
        rintro j ⟨hj, hc⟩
        by_cases hlt : j < k.length
        · have hv := List.getElem?_eq_getElem hlt; have hd : decide ((j : Int) < (k.length : Int)) = true := decide_eq_true (by omega)
          rw [drop_cons hv] at hc
          simp only [List.all_cons] at hc
          (try (simp (config := { maxSteps := 1000000 }) only [push_cast, Nat.reduceBEq, Nat.reduceBNe, Nat.reduceAdd, Nat.reduceSub, Nat.reduceMul, Nat.reduceLT, Nat.reduceLeDiff, Nat.reduceEqDiff, Nat.blt_eq, Int.reduceLT, Int.reduceLE, Int.reduceEq, Int.reduceToNat, Int.reduceNeg, Int.reduceAdd, Int.reduceSub, Int.reduceMul, Int.reducePow, reduceIte, decide_true, decide_false, reduceCtorEq, hd, getD_map hv]))
          ((repeat' (with_reducible refine And.intro ?_ ?_)) <;> try (first | trivial | omega | exact inK64 (by omega) (by omega) | exact inKu8 (by omega) (by omega) | (simp only [maxLen]; omega) | exact .inl trivial | exact .inl rfl))
          refine BrP.mk (fun h => ?_) (fun h => ?_) <;> try (simp (config := { maxSteps := 1000000 }) only [push_cast, Nat.reduceBEq, Nat.reduceBNe, Nat.reduceAdd, Nat.reduceSub, Nat.reduceMul, Nat.reduceLT, Nat.reduceLeDiff, Nat.reduceEqDiff, Nat.blt_eq, Int.reduceLT, Int.reduceLE, Int.reduceEq, Int.reduceToNat, Int.reduceNeg, Int.reduceAdd, Int.reduceSub, Int.reduceMul, Int.reducePow, reduceIte, decide_true, decide_false, reduceCtorEq, h])
          · have hw : ¬ k[j].col.size ≤ 100 := by simp at h; omega
            rw [decide_eq_false hw, Bool.false_and] at hc
            rw [hz, ← hc]; rfl
          · have hw : k[j].col.size ≤ 100 := by simp at h; omega
            rw [decide_eq_true hw, Bool.true_and] at hc
            ((repeat' (with_reducible refine And.intro ?_ ?_)) <;> try (first | trivial | omega | exact inK64 (by omega) (by omega) | exact inKu8 (by omega) (by omega) | (simp only [maxLen]; omega) | exact .inl trivial | exact .inl rfl))
            refine ⟨j + 1, ⟨by omega, hc⟩, by omega, Le.st ?_⟩
            (try (simp (config := { maxSteps := 1000000 }) only [push_cast, Nat.reduceBEq, Nat.reduceBNe, Nat.reduceAdd, Nat.reduceSub, Nat.reduceMul, Nat.reduceLT, Nat.reduceLeDiff, Nat.reduceEqDiff, Nat.blt_eq, Int.reduceLT, Int.reduceLE, Int.reduceEq, Int.reduceToNat, Int.reduceNeg, Int.reduceAdd, Int.reduceSub, Int.reduceMul, Int.reducePow, reduceIte, decide_true, decide_false, reduceCtorEq]))
        · have hd : decide ((j : Int) < (k.length : Int)) = false := decide_eq_false (by omega)
          rw [List.drop_eq_nil_of_le (by omega)] at hc
          rw [← hc, List.all_nil, Bool.true_and] at hz
          (try (simp (config := { maxSteps := 1000000 }) only [push_cast, Nat.reduceBEq, Nat.reduceBNe, Nat.reduceAdd, Nat.reduceSub, Nat.reduceMul, Nat.reduceLT, Nat.reduceLeDiff, Nat.reduceEqDiff, Nat.blt_eq, Int.reduceLT, Int.reduceLE, Int.reduceEq, Int.reduceToNat, Int.reduceNeg, Int.reduceAdd, Int.reduceSub, Int.reduceMul, Int.reducePow, reduceIte, decide_true, decide_false, reduceCtorEq, hd]))
          clear hd hlt hj hc
          refine LoopK.s1 (α := Nat) [40] (fun j => [i2 .i64 j]) (fun j => j ≤ r.length ∧ (r.drop j).all (fun r => r.all rightF) = r.all fun r => r.all rightF) (fun j => r.length - j) 1000 0 ⟨by omega, rfl⟩ (by (try (simp (config := { maxSteps := 1000000 }) only [push_cast, Nat.reduceBEq, Nat.reduceBNe, Nat.reduceAdd, Nat.reduceSub, Nat.reduceMul, Nat.reduceLT, Nat.reduceLeDiff, Nat.reduceEqDiff, Nat.blt_eq, Int.reduceLT, Int.reduceLE, Int.reduceEq, Int.reduceToNat, Int.reduceNeg, Int.reduceAdd, Int.reduceSub, Int.reduceMul, Int.reducePow, reduceIte, decide_true, decide_false, reduceCtorEq]))) ?_
          rintro j ⟨hj, hc⟩
          by_cases hlt : j < r.length
          · have hv := List.getElem?_eq_getElem hlt; have hd : decide ((j : Int) < (r.length : Int)) = true := decide_eq_true (by omega)
            rw [drop_cons hv] at hc
            simp only [List.all_cons] at hc
            have hrow := hr.2 _ (List.getElem_mem hlt)
            generalize r[j] = row at *
            have hrw : row.length ≤ 1099511627776 := hrow.1
            (try (simp (config := { maxSteps := 1000000 }) only [push_cast, Nat.reduceBEq, Nat.reduceBNe, Nat.reduceAdd, Nat.reduceSub, Nat.reduceMul, Nat.reduceLT, Nat.reduceLeDiff, Nat.reduceEqDiff, Nat.blt_eq, Int.reduceLT, Int.reduceLE, Int.reduceEq, Int.reduceToNat, Int.reduceNeg, Int.reduceAdd, Int.reduceSub, Int.reduceMul, Int.reducePow, reduceIte, decide_true, decide_false, reduceCtorEq, hd, getD_map hv]))
            ((repeat' (with_reducible refine And.intro ?_ ?_)) <;> try (first | trivial | omega | exact inK64 (by omega) (by omega) | exact inKu8 (by omega) (by omega) | (simp only [maxLen]; omega) | exact .inl trivial | exact .inl rfl))
            refine LoopK.s1 (α := Nat) [46] (fun i => [i2 .i64 i]) (fun i => i ≤ row.length ∧ (row.drop i).all rightF = row.all rightF) (fun i => row.length - i) 1000 0 ⟨by omega, rfl⟩ (by (try (simp (config := { maxSteps := 1000000 }) only [push_cast, Nat.reduceBEq, Nat.reduceBNe, Nat.reduceAdd, Nat.reduceSub, Nat.reduceMul, Nat.reduceLT, Nat.reduceLeDiff, Nat.reduceEqDiff, Nat.blt_eq, Int.reduceLT, Int.reduceLE, Int.reduceEq, Int.reduceToNat, Int.reduceNeg, Int.reduceAdd, Int.reduceSub, Int.reduceMul, Int.reducePow, reduceIte, decide_true, decide_false, reduceCtorEq]))) ?_
            rintro i ⟨hi, hc2⟩
            by_cases hlt2 : i < row.length
            · have hv2 := List.getElem?_eq_getElem hlt2
              have hd2 : decide ((i : Int) < (row.length : Int)) = true := decide_eq_true (by omega)
              rw [drop_cons hv2] at hc2
              simp only [List.all_cons] at hc2
              have hvl := hrow.2 _ (List.getElem_mem hlt2)
              generalize row[i] = v at *
              (try (simp (config := { maxSteps := 1000000 }) only [push_cast, Nat.reduceBEq, Nat.reduceBNe, Nat.reduceAdd, Nat.reduceSub, Nat.reduceMul, Nat.reduceLT, Nat.reduceLeDiff, Nat.reduceEqDiff, Nat.blt_eq, Int.reduceLT, Int.reduceLE, Int.reduceEq, Int.reduceToNat, Int.reduceNeg, Int.reduceAdd, Int.reduceSub, Int.reduceMul, Int.reducePow, reduceIte, decide_true, decide_false, reduceCtorEq, hd2, getD_map hv2]))
              ((repeat' (with_reducible refine And.intro ?_ ?_)) <;> try (first | trivial | omega | exact inK64 (by omega) (by omega) | exact inKu8 (by omega) (by omega) | (simp only [maxLen]; omega) | exact .inl trivial | exact .inl rfl))
              (have hS := f22 v; simp only [eS_eq, eN_eq, eV_eq, eRN_eq, eRV_eq, eC_eq, eRC_eq, List.map_cons, List.map_nil, i2, b2, s2] at hS; refine ⟨_, hS, rfl, ?_⟩; clear hS; try (simp (config := { maxSteps := 1000000 }) only [push_cast, Nat.reduceBEq, Nat.reduceBNe, Nat.reduceAdd, Nat.reduceSub, Nat.reduceMul, Nat.reduceLT, Nat.reduceLeDiff, Nat.reduceEqDiff, Nat.blt_eq, Int.reduceLT, Int.reduceLE, Int.reduceEq, Int.reduceToNat, Int.reduceNeg, Int.reduceAdd, Int.reduceSub, Int.reduceMul, Int.reducePow, reduceIte, decide_true, decide_false, reduceCtorEq]))
              (have hS := f21 v hvl; simp only [eS_eq, eN_eq, eV_eq, eRN_eq, eRV_eq, eC_eq, eRC_eq, List.map_cons, List.map_nil, i2, b2, s2] at hS; refine ⟨_, hS, rfl, ?_⟩; clear hS; try (simp (config := { maxSteps := 1000000 }) only [push_cast, Nat.reduceBEq, Nat.reduceBNe, Nat.reduceAdd, Nat.reduceSub, Nat.reduceMul, Nat.reduceLT, Nat.reduceLeDiff, Nat.reduceEqDiff, Nat.blt_eq, Int.reduceLT, Int.reduceLE, Int.reduceEq, Int.reduceToNat, Int.reduceNeg, Int.reduceAdd, Int.reduceSub, Int.reduceMul, Int.reducePow, reduceIte, decide_true, decide_false, reduceCtorEq]))
              refine BrP.mk (fun h => ?_) (fun h => ?_) <;> try (simp (config := { maxSteps := 1000000 }) only [push_cast, Nat.reduceBEq, Nat.reduceBNe, Nat.reduceAdd, Nat.reduceSub, Nat.reduceMul, Nat.reduceLT, Nat.reduceLeDiff, Nat.reduceEqDiff, Nat.blt_eq, Int.reduceLT, Int.reduceLE, Int.reduceEq, Int.reduceToNat, Int.reduceNeg, Int.reduceAdd, Int.reduceSub, Int.reduceMul, Int.reducePow, reduceIte, decide_true, decide_false, reduceCtorEq, h])
              · have hw : rightF v = false := by simpa using h
                rw [hw, Bool.false_and] at hc2
                rw [← hc2, Bool.false_and] at hc
                rw [hz, ← hc]
              · have hw : rightF v = true := by simpa using h
                rw [hw, Bool.true_and] at hc2
                ((repeat' (with_reducible refine And.intro ?_ ?_)) <;> try (first | trivial | omega | exact inK64 (by omega) (by omega) | exact inKu8 (by omega) (by omega) | (simp only [maxLen]; omega) | exact .inl trivial | exact .inl rfl))
                refine ⟨i + 1, ⟨by omega, hc2⟩, by omega, Le.st ?_⟩
                (try (simp (config := { maxSteps := 1000000 }) only [push_cast, Nat.reduceBEq, Nat.reduceBNe, Nat.reduceAdd, Nat.reduceSub, Nat.reduceMul, Nat.reduceLT, Nat.reduceLeDiff, Nat.reduceEqDiff, Nat.blt_eq, Int.reduceLT, Int.reduceLE, Int.reduceEq, Int.reduceToNat, Int.reduceNeg, Int.reduceAdd, Int.reduceSub, Int.reduceMul, Int.reducePow, reduceIte, decide_true, decide_false, reduceCtorEq]))
            · have hd2 : decide ((i : Int) < (row.length : Int)) = false := decide_eq_false (by omega)
              rw [List.drop_eq_nil_of_le (by omega)] at hc2
              rw [← hc2, List.all_nil, Bool.true_and] at hc
              (try (simp (config := { maxSteps := 1000000 }) only [push_cast, Nat.reduceBEq, Nat.reduceBNe, Nat.reduceAdd, Nat.reduceSub, Nat.reduceMul, Nat.reduceLT, Nat.reduceLeDiff, Nat.reduceEqDiff, Nat.blt_eq, Int.reduceLT, Int.reduceLE, Int.reduceEq, Int.reduceToNat, Int.reduceNeg, Int.reduceAdd, Int.reduceSub, Int.reduceMul, Int.reducePow, reduceIte, decide_true, decide_false, reduceCtorEq, hd2]))
              ((repeat' (with_reducible refine And.intro ?_ ?_)) <;> try (first | trivial | omega | exact inK64 (by omega) (by omega) | exact inKu8 (by omega) (by omega) | (simp only [maxLen]; omega) | exact .inl trivial | exact .inl rfl))
              refine ⟨j + 1, ⟨by omega, hc⟩, by omega, Le.st ?_⟩
              (try (simp (config := { maxSteps := 1000000 }) only [push_cast, Nat.reduceBEq, Nat.reduceBNe, Nat.reduceAdd, Nat.reduceSub, Nat.reduceMul, Nat.reduceLT, Nat.reduceLeDiff, Nat.reduceEqDiff, Nat.blt_eq, Int.reduceLT, Int.reduceLE, Int.reduceEq, Int.reduceToNat, Int.reduceNeg, Int.reduceAdd, Int.reduceSub, Int.reduceMul, Int.reducePow, reduceIte, decide_true, decide_false, reduceCtorEq]))
          · have hd : decide ((j : Int) < (r.length : Int)) = false := decide_eq_false (by omega)
            rw [List.drop_eq_nil_of_le (by omega)] at hc
            (try (simp (config := { maxSteps := 1000000 }) only [push_cast, Nat.reduceBEq, Nat.reduceBNe, Nat.reduceAdd, Nat.reduceSub, Nat.reduceMul, Nat.reduceLT, Nat.reduceLeDiff, Nat.reduceEqDiff, Nat.blt_eq, Int.reduceLT, Int.reduceLE, Int.reduceEq, Int.reduceToNat, Int.reduceNeg, Int.reduceAdd, Int.reduceSub, Int.reduceMul, Int.reducePow, reduceIte, decide_true, decide_false, reduceCtorEq, hd]))
            rw [hz, ← hc]; rfl
theorem f36 (z : Cs) (hk : okLen z.k) (hl : okCl z.l) (hr : okRs z.r) : Spec V 36 [.ag ((eCs z).map .d)] (i2 .i64 (placesR z.k z.l [z.r]).2) := by
  obtain ⟨k, l, r⟩ := z
  simp only at hk hl hr
  have hkl : k.length ≤ 1099511627776 := hk
  have hrl : r.length ≤ 1099511627776 := hr.1
  (refine Spec.of_go (L := fun | 0 => some [1] | 1 => some [1, 4] | 2 => some [1, 4, 18] | 3 => some [2] | 4 => some [1, 21, 22, 23] | 5 => some [1, 21, 22, 23, 24] | 6 => some [1, 6, 21, 22, 23] | 7 => some [1, 21, 22, 23, 32] | 8 => some [2] | 9 => some [1, 21, 22, 23] | 10 => some [2] | _ => none) 1000 Go.Proofs.Try.func36 rfl rfl ⟨Nat.le_of_ble_eq_true rfl, rfl⟩ rfl ?_; unfold Go.Proofs.Try.f36; simp (config := { maxSteps := 1000000 }) only [push_cast, Nat.reduceBEq, Nat.reduceBNe, Nat.reduceAdd, Nat.reduceSub, Nat.reduceMul, Nat.reduceLT, Nat.reduceLeDiff, Nat.reduceEqDiff, Nat.blt_eq, Int.reduceLT, Int.reduceLE, Int.reduceEq, Int.reduceToNat, Int.reduceNeg, Int.reduceAdd, Int.reduceSub, Int.reduceMul, Int.reducePow, reduceIte, decide_true, decide_false, reduceCtorEq])
  (refine DrawK.of (.take 0 (.take 1 (.take 3 (.take 4 (.one 2 (.one 5 (.one 6 (.take 7 (.take 8 (.take 9 (.take 10 (.take 11 .done)))))))))))) 1000 (by decide +kernel) ?_; try (simp (config := { maxSteps := 1000000 }) only [push_cast, Nat.reduceBEq, Nat.reduceBNe, Nat.reduceAdd, Nat.reduceSub, Nat.reduceMul, Nat.reduceLT, Nat.reduceLeDiff, Nat.reduceEqDiff, Nat.blt_eq, Int.reduceLT, Int.reduceLE, Int.reduceEq, Int.reduceToNat, Int.reduceNeg, Int.reduceAdd, Int.reduceSub, Int.reduceMul, Int.reducePow, reduceIte, decide_true, decide_false, reduceCtorEq]))
  refine ⟨_, f34 k hk, rfl, ?_⟩
  (try (simp (config := { maxSteps := 1000000 }) only [push_cast, Nat.reduceBEq, Nat.reduceBNe, Nat.reduceAdd, Nat.reduceSub, Nat.reduceMul, Nat.reduceLT, Nat.reduceLeDiff, Nat.reduceEqDiff, Nat.blt_eq, Int.reduceLT, Int.reduceLE, Int.reduceEq, Int.reduceToNat, Int.reduceNeg, Int.reduceAdd, Int.reduceSub, Int.reduceMul, Int.reducePow, reduceIte, decide_true, decide_false, reduceCtorEq]))
  refine ⟨_, f18 l hl.1, rfl, ?_⟩
  (try (simp (config := { maxSteps := 1000000 }) only [push_cast, Nat.reduceBEq, Nat.reduceBNe, Nat.reduceAdd, Nat.reduceSub, Nat.reduceMul, Nat.reduceLT, Nat.reduceLeDiff, Nat.reduceEqDiff, Nat.blt_eq, Int.reduceLT, Int.reduceLE, Int.reduceEq, Int.reduceToNat, Int.reduceNeg, Int.reduceAdd, Int.reduceSub, Int.reduceMul, Int.reducePow, reduceIte, decide_true, decide_false, reduceCtorEq]))
  refine ⟨_, f33 k l hk hl, rfl, ?_⟩
  (try (simp (config := { maxSteps := 1000000 }) only [push_cast, Nat.reduceBEq, Nat.reduceBNe, Nat.reduceAdd, Nat.reduceSub, Nat.reduceMul, Nat.reduceLT, Nat.reduceLeDiff, Nat.reduceEqDiff, Nat.blt_eq, Int.reduceLT, Int.reduceLE, Int.reduceEq, Int.reduceToNat, Int.reduceNeg, Int.reduceAdd, Int.reduceSub, Int.reduceMul, Int.reducePow, reduceIte, decide_true, decide_false, reduceCtorEq]))
  refine BrP.mk (fun h => ?_) (fun h => ?_) <;> try (simp (config := { maxSteps := 1000000 }) only [push_cast, Nat.reduceBEq, Nat.reduceBNe, Nat.reduceAdd, Nat.reduceSub, Nat.reduceMul, Nat.reduceLT, Nat.reduceLeDiff, Nat.reduceEqDiff, Nat.blt_eq, Int.reduceLT, Int.reduceLE, Int.reduceEq, Int.reduceToNat, Int.reduceNeg, Int.reduceAdd, Int.reduceSub, Int.reduceMul, Int.reducePow, reduceIte, decide_true, decide_false, reduceCtorEq, h])
  · have h' : ¬ (ordC k l).2 = 0 := by simpa using h
    simp [placesR, h']
  · have h' : (ordC k l).2 = 0 := by simpa using h
    refine LoopK.s1 (α := Nat) [23] (fun j => [i2 .i64 j]) (fun j => j ≤ r.length ∧ (r.drop j).all (fun r => decide (r.length = l.length)) = wideF l r) (fun j => r.length - j) 1000 0 ⟨by omega, rfl⟩ (by (try (simp (config := { maxSteps := 1000000 }) only [push_cast, Nat.reduceBEq, Nat.reduceBNe, Nat.reduceAdd, Nat.reduceSub, Nat.reduceMul, Nat.reduceLT, Nat.reduceLeDiff, Nat.reduceEqDiff, Nat.blt_eq, Int.reduceLT, Int.reduceLE, Int.reduceEq, Int.reduceToNat, Int.reduceNeg, Int.reduceAdd, Int.reduceSub, Int.reduceMul, Int.reducePow, reduceIte, decide_true, decide_false, reduceCtorEq]))) ?_
    rintro j ⟨hj, hc2⟩
    by_cases hlt2 : j < r.length
    · have hv2 := List.getElem?_eq_getElem hlt2
      have hd2 : decide ((j : Int) < (r.length : Int)) = true := decide_eq_true (by omega)
      rw [drop_cons hv2] at hc2
      simp only [List.all_cons] at hc2
      (try (simp (config := { maxSteps := 1000000 }) only [push_cast, Nat.reduceBEq, Nat.reduceBNe, Nat.reduceAdd, Nat.reduceSub, Nat.reduceMul, Nat.reduceLT, Nat.reduceLeDiff, Nat.reduceEqDiff, Nat.blt_eq, Int.reduceLT, Int.reduceLE, Int.reduceEq, Int.reduceToNat, Int.reduceNeg, Int.reduceAdd, Int.reduceSub, Int.reduceMul, Int.reducePow, reduceIte, decide_true, decide_false, reduceCtorEq, hd2, getD_map hv2]))
      ((repeat' (with_reducible refine And.intro ?_ ?_)) <;> try (first | trivial | omega | exact inK64 (by omega) (by omega) | exact inKu8 (by omega) (by omega) | (simp only [maxLen]; omega) | exact .inl trivial | exact .inl rfl))
      refine BrP.mk (fun h => ?_) (fun h => ?_) <;> try (simp (config := { maxSteps := 1000000 }) only [push_cast, Nat.reduceBEq, Nat.reduceBNe, Nat.reduceAdd, Nat.reduceSub, Nat.reduceMul, Nat.reduceLT, Nat.reduceLeDiff, Nat.reduceEqDiff, Nat.blt_eq, Int.reduceLT, Int.reduceLE, Int.reduceEq, Int.reduceToNat, Int.reduceNeg, Int.reduceAdd, Int.reduceSub, Int.reduceMul, Int.reducePow, reduceIte, decide_true, decide_false, reduceCtorEq, h])
      · have hw : ¬ r[j].length = l.length := by simp at h; omega
        rw [decide_eq_false hw, Bool.false_and] at hc2
        simp [placesR, h', ← hc2]
      · have hw : r[j].length = l.length := by simp at h; omega
        rw [decide_eq_true hw, Bool.true_and] at hc2
        ((repeat' (with_reducible refine And.intro ?_ ?_)) <;> try (first | trivial | omega | exact inK64 (by omega) (by omega) | exact inKu8 (by omega) (by omega) | (simp only [maxLen]; omega) | exact .inl trivial | exact .inl rfl))
        refine ⟨j + 1, ⟨by omega, hc2⟩, by omega, Le.st ?_⟩
        (try (simp (config := { maxSteps := 1000000 }) only [push_cast, Nat.reduceBEq, Nat.reduceBNe, Nat.reduceAdd, Nat.reduceSub, Nat.reduceMul, Nat.reduceLT, Nat.reduceLeDiff, Nat.reduceEqDiff, Nat.blt_eq, Int.reduceLT, Int.reduceLE, Int.reduceEq, Int.reduceToNat, Int.reduceNeg, Int.reduceAdd, Int.reduceSub, Int.reduceMul, Int.reducePow, reduceIte, decide_true, decide_false, reduceCtorEq]))
    · have hd2 : decide ((j : Int) < (r.length : Int)) = false := decide_eq_false (by omega)
      rw [List.drop_eq_nil_of_le (by omega)] at hc2
      (try (simp (config := { maxSteps := 1000000 }) only [push_cast, Nat.reduceBEq, Nat.reduceBNe, Nat.reduceAdd, Nat.reduceSub, Nat.reduceMul, Nat.reduceLT, Nat.reduceLeDiff, Nat.reduceEqDiff, Nat.blt_eq, Int.reduceLT, Int.reduceLE, Int.reduceEq, Int.reduceToNat, Int.reduceNeg, Int.reduceAdd, Int.reduceSub, Int.reduceMul, Int.reducePow, reduceIte, decide_true, decide_false, reduceCtorEq, hd2]))
      simp [placesR, h', ← hc2]
theorem f37 (z : Cs) (hk : okLen z.k) (hl : okCl z.l) (hr : okRs z.r) : Spec V 37 [.ag ((eCs z).map .d)] (.tu [.c (.d (.sl 2 (z.k.map eRK))), .c (.d (.sl 3 (z.l.map eRC))), .c (.d (.sl 1 (z.r.map eRR)))]) := by
  obtain ⟨k, l, r⟩ := z
  simp only at hk hl hr
  (refine Spec.of_go (L := fun | 0 => some [1] | 1 => some [2, 3, 4] | _ => none) 1000 Go.Proofs.Try.func37 rfl rfl ⟨Nat.le_of_ble_eq_true rfl, rfl⟩ rfl ?_; unfold Go.Proofs.Try.f37; simp (config := { maxSteps := 1000000 }) only [push_cast, Nat.reduceBEq, Nat.reduceBNe, Nat.reduceAdd, Nat.reduceSub, Nat.reduceMul, Nat.reduceLT, Nat.reduceLeDiff, Nat.reduceEqDiff, Nat.blt_eq, Int.reduceLT, Int.reduceLE, Int.reduceEq, Int.reduceToNat, Int.reduceNeg, Int.reduceAdd, Int.reduceSub, Int.reduceMul, Int.reducePow, reduceIte, decide_true, decide_false, reduceCtorEq])
  (refine DrawK.of (.take 0 (.take 1 (.take 3 (.take 4 (.take 6 (.take 7 (.one 2 (.one 5 (.one 8 (.take 9 (.take 10 (.take 11 .done)))))))))))) 1000 (by decide +kernel) ?_; try (simp (config := { maxSteps := 1000000 }) only [push_cast, Nat.reduceBEq, Nat.reduceBNe, Nat.reduceAdd, Nat.reduceSub, Nat.reduceMul, Nat.reduceLT, Nat.reduceLeDiff, Nat.reduceEqDiff, Nat.blt_eq, Int.reduceLT, Int.reduceLE, Int.reduceEq, Int.reduceToNat, Int.reduceNeg, Int.reduceAdd, Int.reduceSub, Int.reduceMul, Int.reducePow, reduceIte, decide_true, decide_false, reduceCtorEq]))
  refine ⟨_, f34 k hk, rfl, ?_⟩
  (try (simp (config := { maxSteps := 1000000 }) only [push_cast, Nat.reduceBEq, Nat.reduceBNe, Nat.reduceAdd, Nat.reduceSub, Nat.reduceMul, Nat.reduceLT, Nat.reduceLeDiff, Nat.reduceEqDiff, Nat.blt_eq, Int.reduceLT, Int.reduceLE, Int.reduceEq, Int.reduceToNat, Int.reduceNeg, Int.reduceAdd, Int.reduceSub, Int.reduceMul, Int.reducePow, reduceIte, decide_true, decide_false, reduceCtorEq]))
  refine ⟨_, f18 l hl.1, rfl, ?_⟩
  (try (simp (config := { maxSteps := 1000000 }) only [push_cast, Nat.reduceBEq, Nat.reduceBNe, Nat.reduceAdd, Nat.reduceSub, Nat.reduceMul, Nat.reduceLT, Nat.reduceLeDiff, Nat.reduceEqDiff, Nat.blt_eq, Int.reduceLT, Int.reduceLE, Int.reduceEq, Int.reduceToNat, Int.reduceNeg, Int.reduceAdd, Int.reduceSub, Int.reduceMul, Int.reducePow, reduceIte, decide_true, decide_false, reduceCtorEq]))
  refine ⟨_, f27 r hr.1 (fun x hx => (hr.2 x hx).1), rfl, ?_⟩
  (try (simp (config := { maxSteps := 1000000 }) only [push_cast, Nat.reduceBEq, Nat.reduceBNe, Nat.reduceAdd, Nat.reduceSub, Nat.reduceMul, Nat.reduceLT, Nat.reduceLeDiff, Nat.reduceEqDiff, Nat.blt_eq, Int.reduceLT, Int.reduceLE, Int.reduceEq, Int.reduceToNat, Int.reduceNeg, Int.reduceAdd, Int.reduceSub, Int.reduceMul, Int.reducePow, reduceIte, decide_true, decide_false, reduceCtorEq]))
end Go.LS.Try
namespace Go.LS.Try
open Go Go.LS
set_option maxRecDepth 100000
set_option linter.unusedSimpArgs false
set_option linter.unusedVariables false

theorem f45 (ks : List Ky) (l : List Cl) (rows : List (List Vl)) (hk : okLen ks) (hl : okCl l) (hf : ∀ x ∈ ks, (findF x.col l 0).2.2 = true) (hr : okLen rows) (hw : ∀ r ∈ rows, r.length = l.length) :
    Spec V 45 [.c (.d (.sl 2 (ks.map eRK))), .c (.d (.sl 3 (l.map eRC))), .c (.d (.sl 1 (rows.map eRR)))] (b2 (sortedF (ordF (placesF ks l)) [] rows)) := by
  have hrl : rows.length ≤ 1099511627776 := hr
  (refine Spec.of_go (L := fun | 0 => some [0, 1, 2] | 1 => some [0, 1, 2, 7] | 2 => some [0, 1, 2, 7, 11] | 3 => some [0, 1, 2, 7] | 4 => some [0, 1, 2, 7, 26] | 5 => some [6] | 6 => some [6] | _ => none) 1000 Go.Proofs.Try.func45 rfl rfl ⟨Nat.le_of_ble_eq_true rfl, rfl⟩ rfl ?_; unfold Go.Proofs.Try.f45; simp (config := { maxSteps := 1000000 }) only [push_cast, Nat.reduceBEq, Nat.reduceBNe, Nat.reduceAdd, Nat.reduceSub, Nat.reduceMul, Nat.reduceLT, Nat.reduceLeDiff, Nat.reduceEqDiff, Nat.blt_eq, Int.reduceLT, Int.reduceLE, Int.reduceEq, Int.reduceToNat, Int.reduceNeg, Int.reduceAdd, Int.reduceSub, Int.reduceMul, Int.reducePow, reduceIte, decide_true, decide_false, reduceCtorEq])
  refine LoopK.s1 (α := Nat) [7] (fun i => [i2 .i64 (i + 1)]) (fun i => (i = 0 ∨ i + 1 ≤ rows.length) ∧ ∀ j, j < i → decide (ordF (placesF ks l) (rows.getD j []) (rows.getD (j + 1) []) ≤ 0) = true) (fun i => rows.length - i) 1000 0 ⟨.inl rfl, fun j hj => by omega⟩ (by (try (simp (config := { maxSteps := 1000000 }) only [push_cast, Nat.reduceBEq, Nat.reduceBNe, Nat.reduceAdd, Nat.reduceSub, Nat.reduceMul, Nat.reduceLT, Nat.reduceLeDiff, Nat.reduceEqDiff, Nat.blt_eq, Int.reduceLT, Int.reduceLE, Int.reduceEq, Int.reduceToNat, Int.reduceNeg, Int.reduceAdd, Int.reduceSub, Int.reduceMul, Int.reducePow, reduceIte, decide_true, decide_false, reduceCtorEq]))) ?_
  rintro i ⟨hi, hc⟩
  by_cases hlt : i + 1 < rows.length
  · have hd : decide (((i : Int) + 1) < (rows.length : Int)) = true := decide_eq_true (by omega)
    have hlt0 : i < rows.length := by omega
    have hv := List.getElem?_eq_getElem hlt
    have hv0 := List.getElem?_eq_getElem hlt0
    have e0 : rows.getD i [] = rows[i] := by simp [List.getD_eq_getElem?_getD, hv0]
    have e1 : rows.getD (i + 1) [] = rows[i + 1] := by simp [List.getD_eq_getElem?_getD, hv]
    have hS := f40 ks l rows[i] rows[i + 1] hk hl hf (hw _ (List.getElem_mem hlt0)) (hw _ (List.getElem_mem hlt))
    (try (simp (config := { maxSteps := 1000000 }) only [push_cast, Nat.reduceBEq, Nat.reduceBNe, Nat.reduceAdd, Nat.reduceSub, Nat.reduceMul, Nat.reduceLT, Nat.reduceLeDiff, Nat.reduceEqDiff, Nat.blt_eq, Int.reduceLT, Int.reduceLE, Int.reduceEq, Int.reduceToNat, Int.reduceNeg, Int.reduceAdd, Int.reduceSub, Int.reduceMul, Int.reducePow, reduceIte, decide_true, decide_false, reduceCtorEq, hd]))
    (refine DrawK.of (.take 0 (.take 1 (.take 2 (.take 3 (.take 4 (.take 5 (.take 6 (.take 7 (.take 8 (.take 9 (.take 10 (.one 11 (.take 12 .done))))))))))))) 1000 (by decide +kernel) ?_; try (simp (config := { maxSteps := 1000000 }) only [push_cast, Nat.reduceBEq, Nat.reduceBNe, Nat.reduceAdd, Nat.reduceSub, Nat.reduceMul, Nat.reduceLT, Nat.reduceLeDiff, Nat.reduceEqDiff, Nat.blt_eq, Int.reduceLT, Int.reduceLE, Int.reduceEq, Int.reduceToNat, Int.reduceNeg, Int.reduceAdd, Int.reduceSub, Int.reduceMul, Int.reducePow, reduceIte, decide_true, decide_false, reduceCtorEq]))
    ((repeat' (with_reducible refine And.intro ?_ ?_)) <;> try (first | trivial | omega | exact inK64 (by omega) (by omega) | exact inKu8 (by omega) (by omega) | (simp only [maxLen]; omega) | exact .inl trivial | exact .inl rfl))
    have hT0 : ((i : Int) + 1 - 1).toNat = i := by omega
    have hT1 : ((i : Int) + 1).toNat = i + 1 := by omega
    (try (simp (config := { maxSteps := 1000000 }) only [push_cast, Nat.reduceBEq, Nat.reduceBNe, Nat.reduceAdd, Nat.reduceSub, Nat.reduceMul, Nat.reduceLT, Nat.reduceLeDiff, Nat.reduceEqDiff, Nat.blt_eq, Int.reduceLT, Int.reduceLE, Int.reduceEq, Int.reduceToNat, Int.reduceNeg, Int.reduceAdd, Int.reduceSub, Int.reduceMul, Int.reducePow, reduceIte, decide_true, decide_false, reduceCtorEq, hT0, hT1, getD_map hv, getD_map hv0]))
    ((repeat' (with_reducible refine And.intro ?_ ?_)) <;> try (first | trivial | omega | exact inK64 (by omega) (by omega) | exact inKu8 (by omega) (by omega) | (simp only [maxLen]; omega) | exact .inl trivial | exact .inl rfl))
    refine ⟨_, hS, rfl, ?_⟩
    (try (simp (config := { maxSteps := 1000000 }) only [push_cast, Nat.reduceBEq, Nat.reduceBNe, Nat.reduceAdd, Nat.reduceSub, Nat.reduceMul, Nat.reduceLT, Nat.reduceLeDiff, Nat.reduceEqDiff, Nat.blt_eq, Int.reduceLT, Int.reduceLE, Int.reduceEq, Int.reduceToNat, Int.reduceNeg, Int.reduceAdd, Int.reduceSub, Int.reduceMul, Int.reducePow, reduceIte, decide_true, decide_false, reduceCtorEq]))
    refine BrP.mk (fun h => ?_) (fun h => ?_) <;> try (simp (config := { maxSteps := 1000000 }) only [push_cast, Nat.reduceBEq, Nat.reduceBNe, Nat.reduceAdd, Nat.reduceSub, Nat.reduceMul, Nat.reduceLT, Nat.reduceLeDiff, Nat.reduceEqDiff, Nat.blt_eq, Int.reduceLT, Int.reduceLE, Int.reduceEq, Int.reduceToNat, Int.reduceNeg, Int.reduceAdd, Int.reduceSub, Int.reduceMul, Int.reducePow, reduceIte, decide_true, decide_false, reduceCtorEq, h])
    · have hgt : ¬ ordF (placesF ks l) rows[i] rows[i + 1] ≤ 0 := by simp at h; omega
      have : sortedF (ordF (placesF ks l)) [] rows = false := ixs_false (j := i) (by rw [e0, e1]; exact decide_eq_false hgt) (by omega)
      rw [this]
    · have hle : ordF (placesF ks l) rows[i] rows[i + 1] ≤ 0 := by simp at h; omega
      ((repeat' (with_reducible refine And.intro ?_ ?_)) <;> try (first | trivial | omega | exact inK64 (by omega) (by omega) | exact inKu8 (by omega) (by omega) | (simp only [maxLen]; omega) | exact .inl trivial | exact .inl rfl))
      refine ⟨i + 1, ⟨.inr (by omega), fun j hj => ?_⟩, by omega, Le.st ?_⟩
      · by_cases e : j = i
        · subst e; rw [e0, e1]; exact decide_eq_true hle
        · exact hc j (by omega)
      · (try (simp (config := { maxSteps := 1000000 }) only [push_cast, Nat.reduceBEq, Nat.reduceBNe, Nat.reduceAdd, Nat.reduceSub, Nat.reduceMul, Nat.reduceLT, Nat.reduceLeDiff, Nat.reduceEqDiff, Nat.blt_eq, Int.reduceLT, Int.reduceLE, Int.reduceEq, Int.reduceToNat, Int.reduceNeg, Int.reduceAdd, Int.reduceSub, Int.reduceMul, Int.reducePow, reduceIte, decide_true, decide_false, reduceCtorEq]))
  · have hd : decide (((i : Int) + 1) < (rows.length : Int)) = false := decide_eq_false (by omega)
    have : sortedF (ordF (placesF ks l)) [] rows = true := ixs_iff.2 fun j hj => hc j (by omega)
    (try (simp (config := { maxSteps := 1000000 }) only [push_cast, Nat.reduceBEq, Nat.reduceBNe, Nat.reduceAdd, Nat.reduceSub, Nat.reduceMul, Nat.reduceLT, Nat.reduceLeDiff, Nat.reduceEqDiff, Nat.blt_eq, Int.reduceLT, Int.reduceLE, Int.reduceEq, Int.reduceToNat, Int.reduceNeg, Int.reduceAdd, Int.reduceSub, Int.reduceMul, Int.reducePow, reduceIte, decide_true, decide_false, reduceCtorEq, hd]))
    rw [this]
theorem f82 (f : List Vl → List Vl → Int) (hf : Ord3 f) (fc : FuncId) (cap : DV) (rows : List (List Vl)) (hS : ∀ x ∈ rows, ∀ y ∈ rows, Spec V fc [.c (.d (.sl 4 (x.map eV))), .c (.d (.sl 4 (y.map eV))), .c (.d cap)] (i2 .i64 (f x y))) (hr : okLen rows) :
    Spec V 82 [.c (.d (.sl 1 (rows.map eR))), .c (.d (.clo fc [cap]))] (b2 (sortedF f [] rows)) := by
  have hrl : rows.length ≤ 1099511627776 := hr
  (refine Spec.of_go (L := fun | 0 => some [0, 1] | 1 => some [0, 1, 5] | 2 => some [0, 1, 5, 10] | 3 => some [0, 1, 5] | 4 => some [0, 1, 5, 24] | 5 => some [4] | 6 => some [4] | _ => none) 1000 Go.Proofs.Try.func82 rfl rfl ⟨Nat.le_of_ble_eq_true rfl, rfl⟩ rfl ?_; unfold Go.Proofs.Try.f82; simp (config := { maxSteps := 1000000 }) only [push_cast, Nat.reduceBEq, Nat.reduceBNe, Nat.reduceAdd, Nat.reduceSub, Nat.reduceMul, Nat.reduceLT, Nat.reduceLeDiff, Nat.reduceEqDiff, Nat.blt_eq, Int.reduceLT, Int.reduceLE, Int.reduceEq, Int.reduceToNat, Int.reduceNeg, Int.reduceAdd, Int.reduceSub, Int.reduceMul, Int.reducePow, reduceIte, decide_true, decide_false, reduceCtorEq])
  ((repeat' (with_reducible refine And.intro ?_ ?_)) <;> try (first | trivial | omega | exact inK64 (by omega) (by omega) | exact inKu8 (by omega) (by omega) | (simp only [maxLen]; omega) | exact .inl trivial | exact .inl rfl))
  refine LoopK.s1 (α := Nat) [5] (fun i => [i2 .i64 (i - 1)]) (fun i => i ≤ rows.length ∧ ixs (fun j => decide (f (rows.getD j []) (rows.getD (j + 1) []) ≤ 0)) (i - 1) = sortedF f [] rows) (fun i => i) 1000 rows.length ⟨Nat.le_refl _, rfl⟩ (by (try (simp (config := { maxSteps := 1000000 }) only [push_cast, Nat.reduceBEq, Nat.reduceBNe, Nat.reduceAdd, Nat.reduceSub, Nat.reduceMul, Nat.reduceLT, Nat.reduceLeDiff, Nat.reduceEqDiff, Nat.blt_eq, Int.reduceLT, Int.reduceLE, Int.reduceEq, Int.reduceToNat, Int.reduceNeg, Int.reduceAdd, Int.reduceSub, Int.reduceMul, Int.reducePow, reduceIte, decide_true, decide_false, reduceCtorEq]))) ?_
  rintro i ⟨hi, hc⟩
  by_cases hlt : 1 < i
  · obtain ⟨k, rfl⟩ : ∃ k, i = k + 2 := ⟨i - 2, by omega⟩
    have hd : decide (0 < (k : Int) + 1) = true := decide_eq_true (by omega)
    have hlt1 : k + 1 < rows.length := by omega
    have hlt0 : k < rows.length := by omega
    have hv := List.getElem?_eq_getElem hlt1
    have hv0 := List.getElem?_eq_getElem hlt0
    have e0 : rows.getD k [] = rows[k] := by simp [List.getD_eq_getElem?_getD, hv0]
    have e1 : rows.getD (k + 1) [] = rows[k + 1] := by simp [List.getD_eq_getElem?_getD, hv]
    have hS' := hS rows[k + 1] (List.getElem_mem hlt1) rows[k] (List.getElem_mem hlt0)
    have ee : ((k + 2 : Nat) : Int) - 1 = (k : Int) + 1 := by omega
    simp only [show k + 2 - 1 = k + 1 from rfl, ixs] at hc
    have ha := hf.anti rows[k + 1] rows[k]
    rw [ee]
    (try (simp (config := { maxSteps := 1000000 }) only [push_cast, Nat.reduceBEq, Nat.reduceBNe, Nat.reduceAdd, Nat.reduceSub, Nat.reduceMul, Nat.reduceLT, Nat.reduceLeDiff, Nat.reduceEqDiff, Nat.blt_eq, Int.reduceLT, Int.reduceLE, Int.reduceEq, Int.reduceToNat, Int.reduceNeg, Int.reduceAdd, Int.reduceSub, Int.reduceMul, Int.reducePow, reduceIte, decide_true, decide_false, reduceCtorEq, hd]))
    (refine DrawK.of (.take 0 (.take 1 (.take 2 (.take 3 (.take 4 (.take 5 (.take 6 (.take 7 (.take 8 (.take 9 (.one 10 (.take 11 .done)))))))))))) 1000 (by decide +kernel) ?_; try (simp (config := { maxSteps := 1000000 }) only [push_cast, Nat.reduceBEq, Nat.reduceBNe, Nat.reduceAdd, Nat.reduceSub, Nat.reduceMul, Nat.reduceLT, Nat.reduceLeDiff, Nat.reduceEqDiff, Nat.blt_eq, Int.reduceLT, Int.reduceLE, Int.reduceEq, Int.reduceToNat, Int.reduceNeg, Int.reduceAdd, Int.reduceSub, Int.reduceMul, Int.reducePow, reduceIte, decide_true, decide_false, reduceCtorEq]))
    ((repeat' (with_reducible refine And.intro ?_ ?_)) <;> try (first | trivial | omega | exact inK64 (by omega) (by omega) | exact inKu8 (by omega) (by omega) | (simp only [maxLen]; omega) | exact .inl trivial | exact .inl rfl))
    have hT0 : ((k : Int) + 1 - 1).toNat = k := by omega
    have hT1 : ((k : Int) + 1).toNat = k + 1 := by omega
    (try (simp (config := { maxSteps := 1000000 }) only [push_cast, Nat.reduceBEq, Nat.reduceBNe, Nat.reduceAdd, Nat.reduceSub, Nat.reduceMul, Nat.reduceLT, Nat.reduceLeDiff, Nat.reduceEqDiff, Nat.blt_eq, Int.reduceLT, Int.reduceLE, Int.reduceEq, Int.reduceToNat, Int.reduceNeg, Int.reduceAdd, Int.reduceSub, Int.reduceMul, Int.reducePow, reduceIte, decide_true, decide_false, reduceCtorEq, hT0, hT1, getD_map hv, getD_map hv0]))
    ((repeat' (with_reducible refine And.intro ?_ ?_)) <;> try (first | trivial | omega | exact inK64 (by omega) (by omega) | exact inKu8 (by omega) (by omega) | (simp only [maxLen]; omega) | exact .inl trivial | exact .inl rfl))
    refine ⟨_, hS', rfl, ?_⟩
    (try (simp (config := { maxSteps := 1000000 }) only [push_cast, Nat.reduceBEq, Nat.reduceBNe, Nat.reduceAdd, Nat.reduceSub, Nat.reduceMul, Nat.reduceLT, Nat.reduceLeDiff, Nat.reduceEqDiff, Nat.blt_eq, Int.reduceLT, Int.reduceLE, Int.reduceEq, Int.reduceToNat, Int.reduceNeg, Int.reduceAdd, Int.reduceSub, Int.reduceMul, Int.reducePow, reduceIte, decide_true, decide_false, reduceCtorEq]))
    refine BrP.mk (fun h => ?_) (fun h => ?_) <;> try (simp (config := { maxSteps := 1000000 }) only [push_cast, Nat.reduceBEq, Nat.reduceBNe, Nat.reduceAdd, Nat.reduceSub, Nat.reduceMul, Nat.reduceLT, Nat.reduceLeDiff, Nat.reduceEqDiff, Nat.blt_eq, Int.reduceLT, Int.reduceLE, Int.reduceEq, Int.reduceToNat, Int.reduceNeg, Int.reduceAdd, Int.reduceSub, Int.reduceMul, Int.reducePow, reduceIte, decide_true, decide_false, reduceCtorEq, h])
    · have hgt : ¬ f rows[k] rows[k + 1] ≤ 0 := by simp at h; omega
      rw [e0, e1, decide_eq_false hgt, Bool.false_and] at hc
      rw [← hc]
    · have hle : f rows[k] rows[k + 1] ≤ 0 := by simp at h; omega
      rw [e0, e1, decide_eq_true hle, Bool.true_and] at hc
      ((repeat' (with_reducible refine And.intro ?_ ?_)) <;> try (first | trivial | omega | exact inK64 (by omega) (by omega) | exact inKu8 (by omega) (by omega) | (simp only [maxLen]; omega) | exact .inl trivial | exact .inl rfl))
      refine ⟨k + 1, ⟨by omega, hc⟩, by omega, Le.st ?_⟩
      (try (simp (config := { maxSteps := 1000000 }) only [push_cast, Nat.reduceBEq, Nat.reduceBNe, Nat.reduceAdd, Nat.reduceSub, Nat.reduceMul, Nat.reduceLT, Nat.reduceLeDiff, Nat.reduceEqDiff, Nat.blt_eq, Int.reduceLT, Int.reduceLE, Int.reduceEq, Int.reduceToNat, Int.reduceNeg, Int.reduceAdd, Int.reduceSub, Int.reduceMul, Int.reducePow, reduceIte, decide_true, decide_false, reduceCtorEq]))
  · have hd : decide (0 < (i : Int) - 1) = false := decide_eq_false (by omega)
    have e : i - 1 = 0 := by omega
    rw [e] at hc
    (try (simp (config := { maxSteps := 1000000 }) only [push_cast, Nat.reduceBEq, Nat.reduceBNe, Nat.reduceAdd, Nat.reduceSub, Nat.reduceMul, Nat.reduceLT, Nat.reduceLeDiff, Nat.reduceEqDiff, Nat.blt_eq, Int.reduceLT, Int.reduceLE, Int.reduceEq, Int.reduceToNat, Int.reduceNeg, Int.reduceAdd, Int.reduceSub, Int.reduceMul, Int.reducePow, reduceIte, decide_true, decide_false, reduceCtorEq, hd]))
    rw [← hc]; rfl
theorem f70 (p : List Pl) (rows : List (List Vl)) (hl : okLen p) (hp : ∀ r ∈ rows, ∀ x ∈ p, x.at_ < r.length) (hr : okLen rows) :
    Spec V 70 [.c (.d (.sl 2 (p.map eP))), .c (.d (.sl 1 (rows.map eR)))] (b2 (sortedF (ordF p) [] rows)) := by
  (refine Spec.of_go (L := fun | 0 => some [1, 2] | 1 => some [4] | _ => none) 1000 Go.Proofs.Try.func70 rfl rfl ⟨Nat.le_of_ble_eq_true rfl, rfl⟩ rfl ?_; unfold Go.Proofs.Try.f70; simp (config := { maxSteps := 1000000 }) only [push_cast, Nat.reduceBEq, Nat.reduceBNe, Nat.reduceAdd, Nat.reduceSub, Nat.reduceMul, Nat.reduceLT, Nat.reduceLeDiff, Nat.reduceEqDiff, Nat.blt_eq, Int.reduceLT, Int.reduceLE, Int.reduceEq, Int.reduceToNat, Int.reduceNeg, Int.reduceAdd, Int.reduceSub, Int.reduceMul, Int.reducePow, reduceIte, decide_true, decide_false, reduceCtorEq])
  refine ⟨_, f82 (ordF p) (ord_ordF p) 83 (.at_ [.sl 2 (p.map eP)]) rows (fun x hx y hy => f83 p x y hl (hp x hx) (hp y hy)) hr, rfl, ?_⟩
  (try (simp (config := { maxSteps := 1000000 }) only [push_cast, Nat.reduceBEq, Nat.reduceBNe, Nat.reduceAdd, Nat.reduceSub, Nat.reduceMul, Nat.reduceLT, Nat.reduceLeDiff, Nat.reduceEqDiff, Nat.blt_eq, Int.reduceLT, Int.reduceLE, Int.reduceEq, Int.reduceToNat, Int.reduceNeg, Int.reduceAdd, Int.reduceSub, Int.reduceMul, Int.reducePow, reduceIte, decide_true, decide_false, reduceCtorEq]))
end Go.LS.Try
namespace Go.LS.Try
open Go Go.LS
set_option maxRecDepth 100000
set_option linter.unusedSimpArgs false
set_option linter.unusedVariables false

/-- What Sort gives. -/
def sortC (ks : List Ky) (l : List Cl) (rows : List (List Vl)) : List (List Vl) × Int :=
  if (placesR ks l [rows]).2 ≠ 0 then ([], (placesR ks l [rows]).2) else (sortF (ordF (placesF ks l)) rows, 0)
theorem places_ok {ks : List Ky} {l : List Cl} {rows : List (List Vl)} (h' : (placesR ks l [rows]).2 = 0) : (placesR ks l [rows]).1 = placesF ks l ∧ (ordC ks l).2 = 0 ∧ ∀ r ∈ rows, r.length = l.length := by
  unfold placesR at h' ⊢
  by_cases h1 : (ordC ks l).2 ≠ 0
  · rw [if_pos h1] at h'; exact absurd h' h1
  · rw [if_neg h1] at h' ⊢
    by_cases h2 : ([rows].all (wideF l)) = false
    · rw [if_pos h2] at h'; cases h'
    · rw [if_neg h2] at h' ⊢
      exact ⟨rfl, by simpa using h1, wide_mem (by simpa using h2)⟩
theorem f35 (ks : List Ky) (l : List Cl) (rows : List (List Vl)) (hk : okLen ks) (hl : okCl l) (hr : okRs rows) (hn : rows.length < 20) :
    Spec V 35 [.c (.d (.sl 2 (ks.map eK))), .c (.d (.sl 3 (l.map eC))), .c (.d (.sl 1 (rows.map eR)))] (.tu [.c (.d (.sl 1 ((sortC ks l rows).1.map eR))), i2 .i64 (sortC ks l rows).2]) := by
  have hS := f63 ks l [rows] hk hl (by simp [okLen]) (by simpa using hr.1)
  (refine Spec.of_go (L := fun | 0 => some [0, 1, 2] | 1 => some [2, 8, 9] | 2 => some [2, 8, 9, 20] | 3 => some [6, 7] | 4 => some [8, 10] | 5 => some [10] | 6 => some [6, 7] | _ => none) 1000 Go.Proofs.Try.func35 rfl rfl ⟨Nat.le_of_ble_eq_true rfl, rfl⟩ rfl ?_; unfold Go.Proofs.Try.f35; simp (config := { maxSteps := 1000000 }) only [push_cast, Nat.reduceBEq, Nat.reduceBNe, Nat.reduceAdd, Nat.reduceSub, Nat.reduceMul, Nat.reduceLT, Nat.reduceLeDiff, Nat.reduceEqDiff, Nat.blt_eq, Int.reduceLT, Int.reduceLE, Int.reduceEq, Int.reduceToNat, Int.reduceNeg, Int.reduceAdd, Int.reduceSub, Int.reduceMul, Int.reducePow, reduceIte, decide_true, decide_false, reduceCtorEq])
  refine ⟨_, hS, rfl, ?_⟩
  (try (simp (config := { maxSteps := 1000000 }) only [push_cast, Nat.reduceBEq, Nat.reduceBNe, Nat.reduceAdd, Nat.reduceSub, Nat.reduceMul, Nat.reduceLT, Nat.reduceLeDiff, Nat.reduceEqDiff, Nat.blt_eq, Int.reduceLT, Int.reduceLE, Int.reduceEq, Int.reduceToNat, Int.reduceNeg, Int.reduceAdd, Int.reduceSub, Int.reduceMul, Int.reducePow, reduceIte, decide_true, decide_false, reduceCtorEq]))
  refine BrP.mk (fun h => ?_) (fun h => ?_) <;> try (simp (config := { maxSteps := 1000000 }) only [push_cast, Nat.reduceBEq, Nat.reduceBNe, Nat.reduceAdd, Nat.reduceSub, Nat.reduceMul, Nat.reduceLT, Nat.reduceLeDiff, Nat.reduceEqDiff, Nat.blt_eq, Int.reduceLT, Int.reduceLE, Int.reduceEq, Int.reduceToNat, Int.reduceNeg, Int.reduceAdd, Int.reduceSub, Int.reduceMul, Int.reducePow, reduceIte, decide_true, decide_false, reduceCtorEq, h])
  · have h' : ¬ (placesR ks l [rows]).2 = 0 := by simpa using h
    have e : sortC ks l rows = ([], (placesR ks l [rows]).2) := by simp [sortC, h']
    rw [e]
    (try (simp (config := { maxSteps := 1000000 }) only [push_cast, Nat.reduceBEq, Nat.reduceBNe, Nat.reduceAdd, Nat.reduceSub, Nat.reduceMul, Nat.reduceLT, Nat.reduceLeDiff, Nat.reduceEqDiff, Nat.blt_eq, Int.reduceLT, Int.reduceLE, Int.reduceEq, Int.reduceToNat, Int.reduceNeg, Int.reduceAdd, Int.reduceSub, Int.reduceMul, Int.reducePow, reduceIte, decide_true, decide_false, reduceCtorEq]))
  · have h' : (placesR ks l [rows]).2 = 0 := by simpa using h
    have e : sortC ks l rows = (sortF (ordF (placesF ks l)) rows, 0) := by simp [sortC, h']
    obtain ⟨hp, hoc, hwd⟩ := places_ok h'
    rw [e, hp]
    (try (simp (config := { maxSteps := 1000000 }) only [push_cast, Nat.reduceBEq, Nat.reduceBNe, Nat.reduceAdd, Nat.reduceSub, Nat.reduceMul, Nat.reduceLT, Nat.reduceLeDiff, Nat.reduceEqDiff, Nat.blt_eq, Int.reduceLT, Int.reduceLE, Int.reduceEq, Int.reduceToNat, Int.reduceNeg, Int.reduceAdd, Int.reduceSub, Int.reduceMul, Int.reducePow, reduceIte, decide_true, decide_false, reduceCtorEq]))
    refine .inl ⟨_, _, _, f64R rows hr.1 (fun r h => (hr.2 r h).1), ?_⟩
    (try (simp (config := { maxSteps := 1000000 }) only [push_cast, Nat.reduceBEq, Nat.reduceBNe, Nat.reduceAdd, Nat.reduceSub, Nat.reduceMul, Nat.reduceLT, Nat.reduceLeDiff, Nat.reduceEqDiff, Nat.blt_eq, Int.reduceLT, Int.reduceLE, Int.reduceEq, Int.reduceToNat, Int.reduceNeg, Int.reduceAdd, Int.reduceSub, Int.reduceMul, Int.reducePow, reduceIte, decide_true, decide_false, reduceCtorEq]))
    have hlt : ∀ x ∈ rows, ∀ y ∈ placesF ks l, y.at_ < x.length := fun x hx y hy => by
      rw [hwd x hx]; exact places_lt hoc y hy
    have hS2 := f65 (ordF (placesF ks l)) 66 (.at_ [.sl 2 ((placesF ks l).map eP)]) rows (fun x hx y hy => f66 _ x y (by simpa only [okLen, placesF, List.length_map] using hk) (hlt x hx) (hlt y hy)) hn
    rw [sortR_F (ord_ordF _)] at hS2
    exact ⟨_, _, hS2, rfl⟩
theorem f39 (ks : List Ky) (l : List Cl) (a b : List Vl) (hk : okLen ks) (hl : okCl l) (ha : okLen a) (hb : okLen b) :
    Spec V 39 [.c (.d (.sl 2 (ks.map eK))), .c (.d (.sl 3 (l.map eC))), .c (.d (.sl 4 (a.map eV))), .c (.d (.sl 4 (b.map eV)))] (.tu [i2 .i64 (if (placesR ks l [[a, b]]).2 = 0 then ordF (placesF ks l) a b else 0), i2 .i64 (placesR ks l [[a, b]]).2]) := by
  have hS := f63 ks l [[a, b]] hk hl (by simp [okLen]) (by simp [okLen])
  (refine Spec.of_go (L := fun | 0 => some [0, 1, 2, 3] | 1 => some [2, 3, 10, 11] | 2 => some [2, 3, 10, 11, 23] | 3 => some [8, 9] | 4 => some [8, 9] | _ => none) 1000 Go.Proofs.Try.func39 rfl rfl ⟨Nat.le_of_ble_eq_true rfl, rfl⟩ rfl ?_; unfold Go.Proofs.Try.f39; simp (config := { maxSteps := 1000000 }) only [push_cast, Nat.reduceBEq, Nat.reduceBNe, Nat.reduceAdd, Nat.reduceSub, Nat.reduceMul, Nat.reduceLT, Nat.reduceLeDiff, Nat.reduceEqDiff, Nat.blt_eq, Int.reduceLT, Int.reduceLE, Int.reduceEq, Int.reduceToNat, Int.reduceNeg, Int.reduceAdd, Int.reduceSub, Int.reduceMul, Int.reducePow, reduceIte, decide_true, decide_false, reduceCtorEq])
  refine ⟨_, hS, rfl, ?_⟩
  (try (simp (config := { maxSteps := 1000000 }) only [push_cast, Nat.reduceBEq, Nat.reduceBNe, Nat.reduceAdd, Nat.reduceSub, Nat.reduceMul, Nat.reduceLT, Nat.reduceLeDiff, Nat.reduceEqDiff, Nat.blt_eq, Int.reduceLT, Int.reduceLE, Int.reduceEq, Int.reduceToNat, Int.reduceNeg, Int.reduceAdd, Int.reduceSub, Int.reduceMul, Int.reducePow, reduceIte, decide_true, decide_false, reduceCtorEq]))
  refine BrP.mk (fun h => ?_) (fun h => ?_) <;> try (simp (config := { maxSteps := 1000000 }) only [push_cast, Nat.reduceBEq, Nat.reduceBNe, Nat.reduceAdd, Nat.reduceSub, Nat.reduceMul, Nat.reduceLT, Nat.reduceLeDiff, Nat.reduceEqDiff, Nat.blt_eq, Int.reduceLT, Int.reduceLE, Int.reduceEq, Int.reduceToNat, Int.reduceNeg, Int.reduceAdd, Int.reduceSub, Int.reduceMul, Int.reducePow, reduceIte, decide_true, decide_false, reduceCtorEq, h])
  · have h' : ¬ (placesR ks l [[a, b]]).2 = 0 := by simpa using h
    rw [if_neg h']
    (try (simp (config := { maxSteps := 1000000 }) only [push_cast, Nat.reduceBEq, Nat.reduceBNe, Nat.reduceAdd, Nat.reduceSub, Nat.reduceMul, Nat.reduceLT, Nat.reduceLeDiff, Nat.reduceEqDiff, Nat.blt_eq, Int.reduceLT, Int.reduceLE, Int.reduceEq, Int.reduceToNat, Int.reduceNeg, Int.reduceAdd, Int.reduceSub, Int.reduceMul, Int.reducePow, reduceIte, decide_true, decide_false, reduceCtorEq]))
  · have h' : (placesR ks l [[a, b]]).2 = 0 := by simpa using h
    obtain ⟨hp, hoc, hwd⟩ := places_ok h'
    rw [if_pos h', hp, h']
    have hla : a.length = l.length := hwd a (by simp)
    have hlb : b.length = l.length := hwd b (by simp)
    (try (simp (config := { maxSteps := 1000000 }) only [push_cast, Nat.reduceBEq, Nat.reduceBNe, Nat.reduceAdd, Nat.reduceSub, Nat.reduceMul, Nat.reduceLT, Nat.reduceLeDiff, Nat.reduceEqDiff, Nat.blt_eq, Int.reduceLT, Int.reduceLE, Int.reduceEq, Int.reduceToNat, Int.reduceNeg, Int.reduceAdd, Int.reduceSub, Int.reduceMul, Int.reducePow, reduceIte, decide_true, decide_false, reduceCtorEq]))
    refine ⟨_, f67 (placesF ks l) a b (by simpa only [okLen, placesF, List.length_map] using hk) (fun x hx => by rw [hla]; exact places_lt hoc x hx) (fun x hx => by rw [hlb]; exact places_lt hoc x hx), rfl, ?_⟩
    (try (simp (config := { maxSteps := 1000000 }) only [push_cast, Nat.reduceBEq, Nat.reduceBNe, Nat.reduceAdd, Nat.reduceSub, Nat.reduceMul, Nat.reduceLT, Nat.reduceLeDiff, Nat.reduceEqDiff, Nat.blt_eq, Int.reduceLT, Int.reduceLE, Int.reduceEq, Int.reduceToNat, Int.reduceNeg, Int.reduceAdd, Int.reduceSub, Int.reduceMul, Int.reducePow, reduceIte, decide_true, decide_false, reduceCtorEq]))
end Go.LS.Try
namespace Go.LS.Try
open Go Go.LS
set_option maxRecDepth 100000
set_option linter.unusedSimpArgs false
set_option linter.unusedVariables false

def awC : ByteArray := { data := #[97] }
theorem aw1 : sortC [⟨awC, true⟩] [⟨awC, 2, true⟩] [[⟨2, .empty, 1, false⟩], [vl0], [⟨2, .empty, 3, false⟩]] = ([[⟨2, .empty, 3, false⟩], [⟨2, .empty, 1, false⟩], [vl0]], 0) := by kernel_rfl
theorem f31 : Spec V 31 [] (b2 true) := by
  have hS := f35 [⟨awC, true⟩] [⟨awC, 2, true⟩] [[⟨2, .empty, 1, false⟩], [vl0], [⟨2, .empty, 3, false⟩]] (by decide) ⟨by decide, fun c hc => by rw [List.mem_singleton.1 hc]; decide⟩ ⟨by decide, fun r hr => by
    have : r.length = 1 ∧ ∀ v ∈ r, v.s = .empty := by
      simp only [List.mem_cons, List.not_mem_nil, or_false] at hr
      rcases hr with rfl | rfl | rfl <;> exact ⟨rfl, fun v hv => by have := List.mem_singleton.1 hv; subst this; rfl⟩
    exact ⟨by simp [okLen, this.1], fun v hv => by simp only [okVl, this.2 v hv]; decide⟩⟩ (by decide)
  rw [aw1] at hS
  simp only [eK_eq, eC_eq, eR_eq, eV_eq, List.map_cons, List.map_nil, i2, vl0, awC] at hS
  (refine Spec.of_go (L := fun | 0 => some [] | 1 => some [1] | 2 => some [2, 3] | 3 => some [0] | _ => none) 1000 Go.Proofs.Try.func31 rfl rfl ⟨Nat.le_of_ble_eq_true rfl, rfl⟩ rfl ?_; unfold Go.Proofs.Try.f31; simp (config := { maxSteps := 1000000 }) only [push_cast, Nat.reduceBEq, Nat.reduceBNe, Nat.reduceAdd, Nat.reduceSub, Nat.reduceMul, Nat.reduceLT, Nat.reduceLeDiff, Nat.reduceEqDiff, Nat.blt_eq, Int.reduceLT, Int.reduceLE, Int.reduceEq, Int.reduceToNat, Int.reduceNeg, Int.reduceAdd, Int.reduceSub, Int.reduceMul, Int.reducePow, reduceIte, decide_true, decide_false, reduceCtorEq])
  ((repeat' (with_reducible refine And.intro ?_ ?_)) <;> try (first | trivial | omega | exact inK64 (by omega) (by omega) | exact inKu8 (by omega) (by omega) | (simp only [maxLen]; omega) | exact .inl trivial | exact .inl rfl))
  refine ⟨_, hS, rfl, ?_⟩
  (try (simp (config := { maxSteps := 1000000 }) only [push_cast, Nat.reduceBEq, Nat.reduceBNe, Nat.reduceAdd, Nat.reduceSub, Nat.reduceMul, Nat.reduceLT, Nat.reduceLeDiff, Nat.reduceEqDiff, Nat.blt_eq, Int.reduceLT, Int.reduceLE, Int.reduceEq, Int.reduceToNat, Int.reduceNeg, Int.reduceAdd, Int.reduceSub, Int.reduceMul, Int.reducePow, reduceIte, decide_true, decide_false, reduceCtorEq, List.getD_cons_zero, List.getD_cons_succ]))
theorem few_rows {k : List Ky} {l : List Cl} {r : List (List Vl)} (h : fewZ ⟨k, l, r⟩ = true) : r.length ≤ 12 := by
  simp only [fewZ, smallF, Bool.and_eq_true, decide_eq_true_eq] at h
  exact h.1.1.2.2
theorem places_mem {ks : List Ky} {l : List Cl} {rows rows' : List (List Vl)} (h' : (placesR ks l [rows]).2 = 0) (hm : ∀ x ∈ rows', x ∈ rows) : (placesR ks l [rows']).2 = 0 := by
  obtain ⟨_, h1, h2⟩ := places_ok h'
  have hw : [rows'].all (wideF l) = true := by
    simp only [List.all_cons, List.all_nil, Bool.and_true, wideF, List.all_eq_true, decide_eq_true_eq]
    exact fun x hx => h2 x (hm x hx)
  unfold placesR
  rw [if_neg (by simp [h1]), if_neg (by simp [hw])]
theorem f7 (z : Cs) (hk : okLen z.k) (hl : okCl z.l) (hr : okRs z.r) : Spec V 7 [.ag ((eCs z).map .d)] (b2 true) := by
  obtain ⟨k, l, r⟩ := z
  have h30 := f30 ⟨k, l, r⟩ hk hl.1 hr
  simp only [eCs_eq, List.map_cons, List.map_nil, b2] at h30
  simp only at hk hl hr
  (refine Spec.of_go (L := fun | 0 => some [1] | 1 => some [1, 9] | 2 => some [2] | 3 => some [1, 3, 4] | 4 => some [3, 4, 5, 6] | 5 => some [2] | _ => none) 1000 Go.Proofs.Try.func7 rfl rfl ⟨Nat.le_of_ble_eq_true rfl, rfl⟩ rfl ?_; unfold Go.Proofs.Try.f7; simp (config := { maxSteps := 1000000 }) only [push_cast, Nat.reduceBEq, Nat.reduceBNe, Nat.reduceAdd, Nat.reduceSub, Nat.reduceMul, Nat.reduceLT, Nat.reduceLeDiff, Nat.reduceEqDiff, Nat.blt_eq, Int.reduceLT, Int.reduceLE, Int.reduceEq, Int.reduceToNat, Int.reduceNeg, Int.reduceAdd, Int.reduceSub, Int.reduceMul, Int.reducePow, reduceIte, decide_true, decide_false, reduceCtorEq])
  refine ⟨_, h30, rfl, ?_⟩
  (try (simp (config := { maxSteps := 1000000 }) only [push_cast, Nat.reduceBEq, Nat.reduceBNe, Nat.reduceAdd, Nat.reduceSub, Nat.reduceMul, Nat.reduceLT, Nat.reduceLeDiff, Nat.reduceEqDiff, Nat.blt_eq, Int.reduceLT, Int.reduceLE, Int.reduceEq, Int.reduceToNat, Int.reduceNeg, Int.reduceAdd, Int.reduceSub, Int.reduceMul, Int.reducePow, reduceIte, decide_true, decide_false, reduceCtorEq]))
  refine BrP.mk (fun h => ?_) (fun h => ?_) <;> try (simp (config := { maxSteps := 1000000 }) only [push_cast, Nat.reduceBEq, Nat.reduceBNe, Nat.reduceAdd, Nat.reduceSub, Nat.reduceMul, Nat.reduceLT, Nat.reduceLeDiff, Nat.reduceEqDiff, Nat.blt_eq, Int.reduceLT, Int.reduceLE, Int.reduceEq, Int.reduceToNat, Int.reduceNeg, Int.reduceAdd, Int.reduceSub, Int.reduceMul, Int.reducePow, reduceIte, decide_true, decide_false, reduceCtorEq, h])
  · refine ⟨_, f31, rfl, ?_⟩
    (try (simp (config := { maxSteps := 1000000 }) only [push_cast, Nat.reduceBEq, Nat.reduceBNe, Nat.reduceAdd, Nat.reduceSub, Nat.reduceMul, Nat.reduceLT, Nat.reduceLeDiff, Nat.reduceEqDiff, Nat.blt_eq, Int.reduceLT, Int.reduceLE, Int.reduceEq, Int.reduceToNat, Int.reduceNeg, Int.reduceAdd, Int.reduceSub, Int.reduceMul, Int.reducePow, reduceIte, decide_true, decide_false, reduceCtorEq]))
  · refine ⟨_, f32 k l hk hl, rfl, ?_⟩
    (try (simp (config := { maxSteps := 1000000 }) only [push_cast, Nat.reduceBEq, Nat.reduceBNe, Nat.reduceAdd, Nat.reduceSub, Nat.reduceMul, Nat.reduceLT, Nat.reduceLeDiff, Nat.reduceEqDiff, Nat.blt_eq, Int.reduceLT, Int.reduceLE, Int.reduceEq, Int.reduceToNat, Int.reduceNeg, Int.reduceAdd, Int.reduceSub, Int.reduceMul, Int.reducePow, reduceIte, decide_true, decide_false, reduceCtorEq]))
    (refine DrawK.of (.take 0 (.take 1 (.take 3 (.take 4 (.one 2 (.one 5 (.one 6 (.take 7 (.take 8 (.take 9 (.take 10 (.take 11 .done)))))))))))) 1000 (by decide +kernel) ?_; try (simp (config := { maxSteps := 1000000 }) only [push_cast, Nat.reduceBEq, Nat.reduceBNe, Nat.reduceAdd, Nat.reduceSub, Nat.reduceMul, Nat.reduceLT, Nat.reduceLeDiff, Nat.reduceEqDiff, Nat.blt_eq, Int.reduceLT, Int.reduceLE, Int.reduceEq, Int.reduceToNat, Int.reduceNeg, Int.reduceAdd, Int.reduceSub, Int.reduceMul, Int.reducePow, reduceIte, decide_true, decide_false, reduceCtorEq]))
    refine ⟨_, f34 k hk, rfl, ?_⟩
    (try (simp (config := { maxSteps := 1000000 }) only [push_cast, Nat.reduceBEq, Nat.reduceBNe, Nat.reduceAdd, Nat.reduceSub, Nat.reduceMul, Nat.reduceLT, Nat.reduceLeDiff, Nat.reduceEqDiff, Nat.blt_eq, Int.reduceLT, Int.reduceLE, Int.reduceEq, Int.reduceToNat, Int.reduceNeg, Int.reduceAdd, Int.reduceSub, Int.reduceMul, Int.reducePow, reduceIte, decide_true, decide_false, reduceCtorEq]))
    refine ⟨_, f18 l hl.1, rfl, ?_⟩
    (try (simp (config := { maxSteps := 1000000 }) only [push_cast, Nat.reduceBEq, Nat.reduceBNe, Nat.reduceAdd, Nat.reduceSub, Nat.reduceMul, Nat.reduceLT, Nat.reduceLeDiff, Nat.reduceEqDiff, Nat.blt_eq, Int.reduceLT, Int.reduceLE, Int.reduceEq, Int.reduceToNat, Int.reduceNeg, Int.reduceAdd, Int.reduceSub, Int.reduceMul, Int.reducePow, reduceIte, decide_true, decide_false, reduceCtorEq]))
    refine ⟨_, f33 k l hk hl, rfl, ?_⟩
    (try (simp (config := { maxSteps := 1000000 }) only [push_cast, Nat.reduceBEq, Nat.reduceBNe, Nat.reduceAdd, Nat.reduceSub, Nat.reduceMul, Nat.reduceLT, Nat.reduceLeDiff, Nat.reduceEqDiff, Nat.blt_eq, Int.reduceLT, Int.reduceLE, Int.reduceEq, Int.reduceToNat, Int.reduceNeg, Int.reduceAdd, Int.reduceSub, Int.reduceMul, Int.reducePow, reduceIte, decide_true, decide_false, reduceCtorEq]))
    refine ⟨_, f31, rfl, ?_⟩
    (try (simp (config := { maxSteps := 1000000 }) only [push_cast, Nat.reduceBEq, Nat.reduceBNe, Nat.reduceAdd, Nat.reduceSub, Nat.reduceMul, Nat.reduceLT, Nat.reduceLeDiff, Nat.reduceEqDiff, Nat.blt_eq, Int.reduceLT, Int.reduceLE, Int.reduceEq, Int.reduceToNat, Int.reduceNeg, Int.reduceAdd, Int.reduceSub, Int.reduceMul, Int.reducePow, reduceIte, decide_true, decide_false, reduceCtorEq]))
theorem ordF_bd : ∀ (p : List Pl) (a b : List Vl), -1 ≤ ordF p a b ∧ ordF p a b ≤ 1
  | [], a, b => by simp [ordF]
  | p :: ps, a, b => by
    have h := cmp_bd (a.getD p.at_ vl0) (b.getD p.at_ vl0)
    have ih := ordF_bd ps a b
    simp only [ordF]
    split
    · exact ih
    · split <;> omega
theorem f8 (z : Cs) (hk : okLen z.k) (hl : okCl z.l) (hr : okRs z.r) : Spec V 8 [.ag ((eCs z).map .d)] (b2 true) := by
  obtain ⟨k, l, r⟩ := z
  have h30 := f30 ⟨k, l, r⟩ hk hl.1 hr
  simp only [eCs_eq, List.map_cons, List.map_nil, b2] at h30
  simp only at hk hl hr
  (refine Spec.of_go (L := fun | 0 => some [1] | 1 => some [1, 13] | 2 => some [2] | 3 => some [1, 3, 4] | 4 => some [1, 3, 4, 5] | 5 => some [1, 3, 4, 5, 28] | 6 => some [2] | 7 => some [1, 3, 4, 6, 7, 8] | 8 => some [3, 4, 6, 7, 8, 9, 10] | 9 => some [2] | _ => none) 1000 Go.Proofs.Try.func8 rfl rfl ⟨Nat.le_of_ble_eq_true rfl, rfl⟩ rfl ?_; unfold Go.Proofs.Try.f8; simp (config := { maxSteps := 1000000 }) only [push_cast, Nat.reduceBEq, Nat.reduceBNe, Nat.reduceAdd, Nat.reduceSub, Nat.reduceMul, Nat.reduceLT, Nat.reduceLeDiff, Nat.reduceEqDiff, Nat.blt_eq, Int.reduceLT, Int.reduceLE, Int.reduceEq, Int.reduceToNat, Int.reduceNeg, Int.reduceAdd, Int.reduceSub, Int.reduceMul, Int.reducePow, reduceIte, decide_true, decide_false, reduceCtorEq])
  refine ⟨_, h30, rfl, ?_⟩
  (try (simp (config := { maxSteps := 1000000 }) only [push_cast, Nat.reduceBEq, Nat.reduceBNe, Nat.reduceAdd, Nat.reduceSub, Nat.reduceMul, Nat.reduceLT, Nat.reduceLeDiff, Nat.reduceEqDiff, Nat.blt_eq, Int.reduceLT, Int.reduceLE, Int.reduceEq, Int.reduceToNat, Int.reduceNeg, Int.reduceAdd, Int.reduceSub, Int.reduceMul, Int.reducePow, reduceIte, decide_true, decide_false, reduceCtorEq]))
  refine BrP.mk (fun h => ?_) (fun h => ?_) <;> try (simp (config := { maxSteps := 1000000 }) only [push_cast, Nat.reduceBEq, Nat.reduceBNe, Nat.reduceAdd, Nat.reduceSub, Nat.reduceMul, Nat.reduceLT, Nat.reduceLeDiff, Nat.reduceEqDiff, Nat.blt_eq, Int.reduceLT, Int.reduceLE, Int.reduceEq, Int.reduceToNat, Int.reduceNeg, Int.reduceAdd, Int.reduceSub, Int.reduceMul, Int.reducePow, reduceIte, decide_true, decide_false, reduceCtorEq, h])
  · refine ⟨_, f31, rfl, ?_⟩
    (try (simp (config := { maxSteps := 1000000 }) only [push_cast, Nat.reduceBEq, Nat.reduceBNe, Nat.reduceAdd, Nat.reduceSub, Nat.reduceMul, Nat.reduceLT, Nat.reduceLeDiff, Nat.reduceEqDiff, Nat.blt_eq, Int.reduceLT, Int.reduceLE, Int.reduceEq, Int.reduceToNat, Int.reduceNeg, Int.reduceAdd, Int.reduceSub, Int.reduceMul, Int.reducePow, reduceIte, decide_true, decide_false, reduceCtorEq]))
  · have hz : fewZ ⟨k, l, r⟩ = true := by simpa using h
    have hn : r.length ≤ 12 := few_rows hz
    refine ⟨_, f35 k l r hk hl hr (by omega), rfl, ?_⟩
    (try (simp (config := { maxSteps := 1000000 }) only [push_cast, Nat.reduceBEq, Nat.reduceBNe, Nat.reduceAdd, Nat.reduceSub, Nat.reduceMul, Nat.reduceLT, Nat.reduceLeDiff, Nat.reduceEqDiff, Nat.blt_eq, Int.reduceLT, Int.reduceLE, Int.reduceEq, Int.reduceToNat, Int.reduceNeg, Int.reduceAdd, Int.reduceSub, Int.reduceMul, Int.reducePow, reduceIte, decide_true, decide_false, reduceCtorEq]))
    have h36 := f36 ⟨k, l, r⟩ hk hl hr
    have h37 := f37 ⟨k, l, r⟩ hk hl hr
    simp only [eCs_eq, List.map_cons, List.map_nil, i2] at h36 h37
    refine ⟨_, h36, rfl, ?_⟩
    (try (simp (config := { maxSteps := 1000000 }) only [push_cast, Nat.reduceBEq, Nat.reduceBNe, Nat.reduceAdd, Nat.reduceSub, Nat.reduceMul, Nat.reduceLT, Nat.reduceLeDiff, Nat.reduceEqDiff, Nat.blt_eq, Int.reduceLT, Int.reduceLE, Int.reduceEq, Int.reduceToNat, Int.reduceNeg, Int.reduceAdd, Int.reduceSub, Int.reduceMul, Int.reducePow, reduceIte, decide_true, decide_false, reduceCtorEq]))
    by_cases hc : (placesR k l [r]).2 = 0
    · obtain ⟨hp, hoc, hwd⟩ := places_ok hc
      have e : sortC k l r = (sortF (ordF (placesF k l)) r, 0) := by simp [sortC, hc]
      have hm : ∀ x ∈ sortF (ordF (placesF k l)) r, x ∈ r := fun x hx => (sortF_mem _ _ _).1 hx
      have hsl : (sortF (ordF (placesF k l)) r).length = r.length := sortF_len _ _
      have hsr : okRs (sortF (ordF (placesF k l)) r) := ⟨by simp only [okLen, hsl]; exact hr.1, fun x hx => hr.2 x (hm x hx)⟩
      have hcs : (placesR k l [sortF (ordF (placesF k l)) r]).2 = 0 := places_mem hc hm
      have es : sortC k l (sortF (ordF (placesF k l)) r) = (sortF (ordF (placesF k l)) r, 0) := by
        simp [sortC, hcs, sortF_idem (ord_ordF _)]
      have h38 := f38 k l r hk hl (ordC_found hoc) hr.1 hwd
      have h27 := f27 _ hsr.1 (fun x hx => (hsr.2 x hx).1)
      have h26 := f26 _ _ hsr.1 hsr.1 (fun x hx => (hsr.2 x hx).1) (fun x hx => (hsr.2 x hx).1)
      rw [allF_self] at h26
      have h35 := f35 k l _ hk hl hsr (by omega)
      rw [es] at h35
      rw [e]
      generalize sortF (ordF (placesF k l)) r = s at *
      (try (simp (config := { maxSteps := 1000000 }) only [push_cast, Nat.reduceBEq, Nat.reduceBNe, Nat.reduceAdd, Nat.reduceSub, Nat.reduceMul, Nat.reduceLT, Nat.reduceLeDiff, Nat.reduceEqDiff, Nat.blt_eq, Int.reduceLT, Int.reduceLE, Int.reduceEq, Int.reduceToNat, Int.reduceNeg, Int.reduceAdd, Int.reduceSub, Int.reduceMul, Int.reducePow, reduceIte, decide_true, decide_false, reduceCtorEq, hc]))
      refine ⟨_, h37, rfl, ?_⟩
      (try (simp (config := { maxSteps := 1000000 }) only [push_cast, Nat.reduceBEq, Nat.reduceBNe, Nat.reduceAdd, Nat.reduceSub, Nat.reduceMul, Nat.reduceLT, Nat.reduceLeDiff, Nat.reduceEqDiff, Nat.blt_eq, Int.reduceLT, Int.reduceLE, Int.reduceEq, Int.reduceToNat, Int.reduceNeg, Int.reduceAdd, Int.reduceSub, Int.reduceMul, Int.reducePow, reduceIte, decide_true, decide_false, reduceCtorEq]))
      refine ⟨_, h35, rfl, ?_⟩
      (try (simp (config := { maxSteps := 1000000 }) only [push_cast, Nat.reduceBEq, Nat.reduceBNe, Nat.reduceAdd, Nat.reduceSub, Nat.reduceMul, Nat.reduceLT, Nat.reduceLeDiff, Nat.reduceEqDiff, Nat.blt_eq, Int.reduceLT, Int.reduceLE, Int.reduceEq, Int.reduceToNat, Int.reduceNeg, Int.reduceAdd, Int.reduceSub, Int.reduceMul, Int.reducePow, reduceIte, decide_true, decide_false, reduceCtorEq]))
      refine ⟨_, h27, rfl, ?_⟩
      (try (simp (config := { maxSteps := 1000000 }) only [push_cast, Nat.reduceBEq, Nat.reduceBNe, Nat.reduceAdd, Nat.reduceSub, Nat.reduceMul, Nat.reduceLT, Nat.reduceLeDiff, Nat.reduceEqDiff, Nat.blt_eq, Int.reduceLT, Int.reduceLE, Int.reduceEq, Int.reduceToNat, Int.reduceNeg, Int.reduceAdd, Int.reduceSub, Int.reduceMul, Int.reducePow, reduceIte, decide_true, decide_false, reduceCtorEq]))
      refine ⟨_, h38, rfl, ?_⟩
      (try (simp (config := { maxSteps := 1000000 }) only [push_cast, Nat.reduceBEq, Nat.reduceBNe, Nat.reduceAdd, Nat.reduceSub, Nat.reduceMul, Nat.reduceLT, Nat.reduceLeDiff, Nat.reduceEqDiff, Nat.blt_eq, Int.reduceLT, Int.reduceLE, Int.reduceEq, Int.reduceToNat, Int.reduceNeg, Int.reduceAdd, Int.reduceSub, Int.reduceMul, Int.reducePow, reduceIte, decide_true, decide_false, reduceCtorEq]))
      refine ⟨_, h26, rfl, ?_⟩
      (try (simp (config := { maxSteps := 1000000 }) only [push_cast, Nat.reduceBEq, Nat.reduceBNe, Nat.reduceAdd, Nat.reduceSub, Nat.reduceMul, Nat.reduceLT, Nat.reduceLeDiff, Nat.reduceEqDiff, Nat.blt_eq, Int.reduceLT, Int.reduceLE, Int.reduceEq, Int.reduceToNat, Int.reduceNeg, Int.reduceAdd, Int.reduceSub, Int.reduceMul, Int.reducePow, reduceIte, decide_true, decide_false, reduceCtorEq]))
      refine ⟨_, h27, rfl, ?_⟩
      (try (simp (config := { maxSteps := 1000000 }) only [push_cast, Nat.reduceBEq, Nat.reduceBNe, Nat.reduceAdd, Nat.reduceSub, Nat.reduceMul, Nat.reduceLT, Nat.reduceLeDiff, Nat.reduceEqDiff, Nat.blt_eq, Int.reduceLT, Int.reduceLE, Int.reduceEq, Int.reduceToNat, Int.reduceNeg, Int.reduceAdd, Int.reduceSub, Int.reduceMul, Int.reducePow, reduceIte, decide_true, decide_false, reduceCtorEq]))
      refine ⟨_, h27, rfl, ?_⟩
      (try (simp (config := { maxSteps := 1000000 }) only [push_cast, Nat.reduceBEq, Nat.reduceBNe, Nat.reduceAdd, Nat.reduceSub, Nat.reduceMul, Nat.reduceLT, Nat.reduceLeDiff, Nat.reduceEqDiff, Nat.blt_eq, Int.reduceLT, Int.reduceLE, Int.reduceEq, Int.reduceToNat, Int.reduceNeg, Int.reduceAdd, Int.reduceSub, Int.reduceMul, Int.reducePow, reduceIte, decide_true, decide_false, reduceCtorEq]))
      refine ⟨_, h26, rfl, ?_⟩
      (try (simp (config := { maxSteps := 1000000 }) only [push_cast, Nat.reduceBEq, Nat.reduceBNe, Nat.reduceAdd, Nat.reduceSub, Nat.reduceMul, Nat.reduceLT, Nat.reduceLeDiff, Nat.reduceEqDiff, Nat.blt_eq, Int.reduceLT, Int.reduceLE, Int.reduceEq, Int.reduceToNat, Int.reduceNeg, Int.reduceAdd, Int.reduceSub, Int.reduceMul, Int.reducePow, reduceIte, decide_true, decide_false, reduceCtorEq]))
      refine ⟨_, f31, rfl, ?_⟩
      (try (simp (config := { maxSteps := 1000000 }) only [push_cast, Nat.reduceBEq, Nat.reduceBNe, Nat.reduceAdd, Nat.reduceSub, Nat.reduceMul, Nat.reduceLT, Nat.reduceLeDiff, Nat.reduceEqDiff, Nat.blt_eq, Int.reduceLT, Int.reduceLE, Int.reduceEq, Int.reduceToNat, Int.reduceNeg, Int.reduceAdd, Int.reduceSub, Int.reduceMul, Int.reducePow, reduceIte, decide_true, decide_false, reduceCtorEq]))
    · have hc' : decide ((placesR k l [r]).2 = 0) = false := decide_eq_false hc
      have e : sortC k l r = ([], (placesR k l [r]).2) := by simp [sortC, hc]
      rw [e]
      (try (simp (config := { maxSteps := 1000000 }) only [push_cast, Nat.reduceBEq, Nat.reduceBNe, Nat.reduceAdd, Nat.reduceSub, Nat.reduceMul, Nat.reduceLT, Nat.reduceLeDiff, Nat.reduceEqDiff, Nat.blt_eq, Int.reduceLT, Int.reduceLE, Int.reduceEq, Int.reduceToNat, Int.reduceNeg, Int.reduceAdd, Int.reduceSub, Int.reduceMul, Int.reducePow, reduceIte, decide_true, decide_false, reduceCtorEq, hc']))
      refine ⟨_, f31, rfl, ?_⟩
      (try (simp (config := { maxSteps := 1000000 }) only [push_cast, Nat.reduceBEq, Nat.reduceBNe, Nat.reduceAdd, Nat.reduceSub, Nat.reduceMul, Nat.reduceLT, Nat.reduceLeDiff, Nat.reduceEqDiff, Nat.blt_eq, Int.reduceLT, Int.reduceLE, Int.reduceEq, Int.reduceToNat, Int.reduceNeg, Int.reduceAdd, Int.reduceSub, Int.reduceMul, Int.reducePow, reduceIte, decide_true, decide_false, reduceCtorEq]))
theorem f9 (z : Cs) (hk : okLen z.k) (hl : okCl z.l) (hr : okRs z.r) : Spec V 9 [.ag ((eCs z).map .d)] (b2 true) := by
  obtain ⟨k, l, r⟩ := z
  have h30 := f30 ⟨k, l, r⟩ hk hl.1 hr
  simp only [eCs_eq, List.map_cons, List.map_nil, b2] at h30
  simp only at hk hl hr
  (refine Spec.of_go (L := fun | 0 => some [1] | 1 => some [1, 19] | 2 => some [2] | 3 => some [1] | 4 => some [1, 3, 4] | 5 => some [1, 3, 4, 5, 6] | 6 => some [1, 3, 4, 5, 6, 7] | 7 => some [1, 3, 4, 5, 6, 7, 60] | 8 => some [2] | 9 => some [3, 4, 5, 6, 8, 9, 10] | 10 => some [2] | _ => none) 1000 Go.Proofs.Try.func9 rfl rfl ⟨Nat.le_of_ble_eq_true rfl, rfl⟩ rfl ?_; unfold Go.Proofs.Try.f9; simp (config := { maxSteps := 1000000 }) only [push_cast, Nat.reduceBEq, Nat.reduceBNe, Nat.reduceAdd, Nat.reduceSub, Nat.reduceMul, Nat.reduceLT, Nat.reduceLeDiff, Nat.reduceEqDiff, Nat.blt_eq, Int.reduceLT, Int.reduceLE, Int.reduceEq, Int.reduceToNat, Int.reduceNeg, Int.reduceAdd, Int.reduceSub, Int.reduceMul, Int.reducePow, reduceIte, decide_true, decide_false, reduceCtorEq])
  refine ⟨_, h30, rfl, ?_⟩
  (try (simp (config := { maxSteps := 1000000 }) only [push_cast, Nat.reduceBEq, Nat.reduceBNe, Nat.reduceAdd, Nat.reduceSub, Nat.reduceMul, Nat.reduceLT, Nat.reduceLeDiff, Nat.reduceEqDiff, Nat.blt_eq, Int.reduceLT, Int.reduceLE, Int.reduceEq, Int.reduceToNat, Int.reduceNeg, Int.reduceAdd, Int.reduceSub, Int.reduceMul, Int.reducePow, reduceIte, decide_true, decide_false, reduceCtorEq]))
  refine BrP.mk (fun h => ?_) (fun h => ?_) <;> try (simp (config := { maxSteps := 1000000 }) only [push_cast, Nat.reduceBEq, Nat.reduceBNe, Nat.reduceAdd, Nat.reduceSub, Nat.reduceMul, Nat.reduceLT, Nat.reduceLeDiff, Nat.reduceEqDiff, Nat.blt_eq, Int.reduceLT, Int.reduceLE, Int.reduceEq, Int.reduceToNat, Int.reduceNeg, Int.reduceAdd, Int.reduceSub, Int.reduceMul, Int.reducePow, reduceIte, decide_true, decide_false, reduceCtorEq, h])
  · refine ⟨_, f31, rfl, ?_⟩
    (try (simp (config := { maxSteps := 1000000 }) only [push_cast, Nat.reduceBEq, Nat.reduceBNe, Nat.reduceAdd, Nat.reduceSub, Nat.reduceMul, Nat.reduceLT, Nat.reduceLeDiff, Nat.reduceEqDiff, Nat.blt_eq, Int.reduceLT, Int.reduceLE, Int.reduceEq, Int.reduceToNat, Int.reduceNeg, Int.reduceAdd, Int.reduceSub, Int.reduceMul, Int.reducePow, reduceIte, decide_true, decide_false, reduceCtorEq]))
  · refine BrP.mk (fun h => ?_) (fun h => ?_) <;> try (simp (config := { maxSteps := 1000000 }) only [push_cast, Nat.reduceBEq, Nat.reduceBNe, Nat.reduceAdd, Nat.reduceSub, Nat.reduceMul, Nat.reduceLT, Nat.reduceLeDiff, Nat.reduceEqDiff, Nat.blt_eq, Int.reduceLT, Int.reduceLE, Int.reduceEq, Int.reduceToNat, Int.reduceNeg, Int.reduceAdd, Int.reduceSub, Int.reduceMul, Int.reducePow, reduceIte, decide_true, decide_false, reduceCtorEq, h])
    · refine ⟨_, f31, rfl, ?_⟩
      (try (simp (config := { maxSteps := 1000000 }) only [push_cast, Nat.reduceBEq, Nat.reduceBNe, Nat.reduceAdd, Nat.reduceSub, Nat.reduceMul, Nat.reduceLT, Nat.reduceLeDiff, Nat.reduceEqDiff, Nat.blt_eq, Int.reduceLT, Int.reduceLE, Int.reduceEq, Int.reduceToNat, Int.reduceNeg, Int.reduceAdd, Int.reduceSub, Int.reduceMul, Int.reducePow, reduceIte, decide_true, decide_false, reduceCtorEq]))
    · have h2 : 2 ≤ r.length := by simp at h; omega
      rcases r with _ | ⟨a, _ | ⟨b, r⟩⟩
      · simp at h2
      · simp at h2
      · have hlen : ((r.length : Int) + 1 + 1) ≥ 2 := by omega
        have ha := hr.2 a (by simp)
        have hb := hr.2 b (by simp)
        have h39 := f39 k l a b hk hl ha.1 hb.1
        have h39' := f39 k l b a hk hl hb.1 ha.1
        have hsw : (placesR k l [[b, a]]).2 = (placesR k l [[a, b]]).2 := by
          have : [[b, a]].all (wideF l) = [[a, b]].all (wideF l) := by simp [wideF, Bool.and_comm]
          unfold placesR
          rw [this]
        have hanti := (ord_ordF (placesF k l)).anti b a
        rw [hsw, hanti] at h39'
        have h36 := f36 ⟨k, l, [a, b]⟩ hk hl ⟨by simp [okLen], fun x hx => by
          simp only [List.mem_cons, List.not_mem_nil, or_false] at hx
          rcases hx with rfl | rfl
          · exact ha
          · exact hb⟩
        have h37 := f37 ⟨k, l, [a, b]⟩ hk hl ⟨by simp [okLen], fun x hx => by
          simp only [List.mem_cons, List.not_mem_nil, or_false] at hx
          rcases hx with rfl | rfl
          · exact ha
          · exact hb⟩
        simp only [eCs_eq, eR_eq, eRR_eq, List.map_cons, List.map_nil, i2] at h36 h37
        (try (simp (config := { maxSteps := 1000000 }) only [push_cast, Nat.reduceBEq, Nat.reduceBNe, Nat.reduceAdd, Nat.reduceSub, Nat.reduceMul, Nat.reduceLT, Nat.reduceLeDiff, Nat.reduceEqDiff, Nat.blt_eq, Int.reduceLT, Int.reduceLE, Int.reduceEq, Int.reduceToNat, Int.reduceNeg, Int.reduceAdd, Int.reduceSub, Int.reduceMul, Int.reducePow, reduceIte, decide_true, decide_false, reduceCtorEq]))
        ((repeat' (with_reducible refine And.intro ?_ ?_)) <;> try (first | trivial | omega | exact inK64 (by omega) (by omega) | exact inKu8 (by omega) (by omega) | (simp only [maxLen]; omega) | exact .inl trivial | exact .inl rfl))
        (refine DrawK.of (.take 0 (.take 1 (.take 2 (.take 3 (.take 4 (.take 5 (.take 6 (.take 7 (.take 8 (.take 9 (.take 10 (.take 11 (.one 12 (.take 13 (.take 14 (.take 15 (.take 16 (.take 17 .done)))))))))))))))))) 1000 (by decide +kernel) ?_; try (simp (config := { maxSteps := 1000000 }) only [push_cast, Nat.reduceBEq, Nat.reduceBNe, Nat.reduceAdd, Nat.reduceSub, Nat.reduceMul, Nat.reduceLT, Nat.reduceLeDiff, Nat.reduceEqDiff, Nat.blt_eq, Int.reduceLT, Int.reduceLE, Int.reduceEq, Int.reduceToNat, Int.reduceNeg, Int.reduceAdd, Int.reduceSub, Int.reduceMul, Int.reducePow, reduceIte, decide_true, decide_false, reduceCtorEq]))
        (try (simp (config := { maxSteps := 1000000 }) only [push_cast, Nat.reduceBEq, Nat.reduceBNe, Nat.reduceAdd, Nat.reduceSub, Nat.reduceMul, Nat.reduceLT, Nat.reduceLeDiff, Nat.reduceEqDiff, Nat.blt_eq, Int.reduceLT, Int.reduceLE, Int.reduceEq, Int.reduceToNat, Int.reduceNeg, Int.reduceAdd, Int.reduceSub, Int.reduceMul, Int.reducePow, reduceIte, decide_true, decide_false, reduceCtorEq, List.getD_cons_zero, List.getD_cons_succ]))
        ((repeat' (with_reducible refine And.intro ?_ ?_)) <;> try (first | trivial | omega | exact inK64 (by omega) (by omega) | exact inKu8 (by omega) (by omega) | (simp only [maxLen]; omega) | exact .inl trivial | exact .inl rfl))
        refine ⟨_, h39, rfl, ?_⟩
        (try (simp (config := { maxSteps := 1000000 }) only [push_cast, Nat.reduceBEq, Nat.reduceBNe, Nat.reduceAdd, Nat.reduceSub, Nat.reduceMul, Nat.reduceLT, Nat.reduceLeDiff, Nat.reduceEqDiff, Nat.blt_eq, Int.reduceLT, Int.reduceLE, Int.reduceEq, Int.reduceToNat, Int.reduceNeg, Int.reduceAdd, Int.reduceSub, Int.reduceMul, Int.reducePow, reduceIte, decide_true, decide_false, reduceCtorEq]))
        (refine DrawK.of (.take 0 (.take 1 (.take 2 (.take 3 (.take 4 (.take 5 (.take 6 (.take 7 (.take 8 (.take 9 (.take 10 (.take 11 (.one 12 (.take 13 (.take 14 (.take 15 (.take 16 (.take 17 .done)))))))))))))))))) 1000 (by decide +kernel) ?_; try (simp (config := { maxSteps := 1000000 }) only [push_cast, Nat.reduceBEq, Nat.reduceBNe, Nat.reduceAdd, Nat.reduceSub, Nat.reduceMul, Nat.reduceLT, Nat.reduceLeDiff, Nat.reduceEqDiff, Nat.blt_eq, Int.reduceLT, Int.reduceLE, Int.reduceEq, Int.reduceToNat, Int.reduceNeg, Int.reduceAdd, Int.reduceSub, Int.reduceMul, Int.reducePow, reduceIte, decide_true, decide_false, reduceCtorEq]))
        (try (simp (config := { maxSteps := 1000000 }) only [push_cast, Nat.reduceBEq, Nat.reduceBNe, Nat.reduceAdd, Nat.reduceSub, Nat.reduceMul, Nat.reduceLT, Nat.reduceLeDiff, Nat.reduceEqDiff, Nat.blt_eq, Int.reduceLT, Int.reduceLE, Int.reduceEq, Int.reduceToNat, Int.reduceNeg, Int.reduceAdd, Int.reduceSub, Int.reduceMul, Int.reducePow, reduceIte, decide_true, decide_false, reduceCtorEq, List.getD_cons_zero, List.getD_cons_succ]))
        ((repeat' (with_reducible refine And.intro ?_ ?_)) <;> try (first | trivial | omega | exact inK64 (by omega) (by omega) | exact inKu8 (by omega) (by omega) | (simp only [maxLen]; omega) | exact .inl trivial | exact .inl rfl))
        refine ⟨_, h39', rfl, ?_⟩
        (try (simp (config := { maxSteps := 1000000 }) only [push_cast, Nat.reduceBEq, Nat.reduceBNe, Nat.reduceAdd, Nat.reduceSub, Nat.reduceMul, Nat.reduceLT, Nat.reduceLeDiff, Nat.reduceEqDiff, Nat.blt_eq, Int.reduceLT, Int.reduceLE, Int.reduceEq, Int.reduceToNat, Int.reduceNeg, Int.reduceAdd, Int.reduceSub, Int.reduceMul, Int.reducePow, reduceIte, decide_true, decide_false, reduceCtorEq]))
        refine ⟨_, h36, rfl, ?_⟩
        (try (simp (config := { maxSteps := 1000000 }) only [push_cast, Nat.reduceBEq, Nat.reduceBNe, Nat.reduceAdd, Nat.reduceSub, Nat.reduceMul, Nat.reduceLT, Nat.reduceLeDiff, Nat.reduceEqDiff, Nat.blt_eq, Int.reduceLT, Int.reduceLE, Int.reduceEq, Int.reduceToNat, Int.reduceNeg, Int.reduceAdd, Int.reduceSub, Int.reduceMul, Int.reducePow, reduceIte, decide_true, decide_false, reduceCtorEq]))
        by_cases hc : (placesR k l [[a, b]]).2 = 0
        · obtain ⟨hp, hoc, hwd⟩ := places_ok hc
          have h40 := f40 k l a b hk hl (ordC_found hoc) (hwd a (by simp)) (hwd b (by simp))
          simp only [i2] at h40
          (try (simp (config := { maxSteps := 1000000 }) only [push_cast, Nat.reduceBEq, Nat.reduceBNe, Nat.reduceAdd, Nat.reduceSub, Nat.reduceMul, Nat.reduceLT, Nat.reduceLeDiff, Nat.reduceEqDiff, Nat.blt_eq, Int.reduceLT, Int.reduceLE, Int.reduceEq, Int.reduceToNat, Int.reduceNeg, Int.reduceAdd, Int.reduceSub, Int.reduceMul, Int.reducePow, reduceIte, decide_true, decide_false, reduceCtorEq, hc]))
          refine ⟨_, h37, rfl, ?_⟩
          (try (simp (config := { maxSteps := 1000000 }) only [push_cast, Nat.reduceBEq, Nat.reduceBNe, Nat.reduceAdd, Nat.reduceSub, Nat.reduceMul, Nat.reduceLT, Nat.reduceLeDiff, Nat.reduceEqDiff, Nat.blt_eq, Int.reduceLT, Int.reduceLE, Int.reduceEq, Int.reduceToNat, Int.reduceNeg, Int.reduceAdd, Int.reduceSub, Int.reduceMul, Int.reducePow, reduceIte, decide_true, decide_false, reduceCtorEq]))
          (refine DrawK.of (.take 0 (.take 1 (.take 2 (.take 3 (.take 4 (.take 5 (.take 6 (.take 7 (.take 8 (.one 9 (.take 10 (.take 11 (.take 12 (.take 13 (.take 14 (.take 15 (.take 16 (.take 17 (.take 18 (.take 19 (.take 20 (.take 21 (.take 22 (.take 23 (.take 24 (.take 25 (.one 26 (.take 27 (.take 28 .done))))))))))))))))))))))))))))) 1000 (by decide +kernel) ?_; try (simp (config := { maxSteps := 1000000 }) only [push_cast, Nat.reduceBEq, Nat.reduceBNe, Nat.reduceAdd, Nat.reduceSub, Nat.reduceMul, Nat.reduceLT, Nat.reduceLeDiff, Nat.reduceEqDiff, Nat.blt_eq, Int.reduceLT, Int.reduceLE, Int.reduceEq, Int.reduceToNat, Int.reduceNeg, Int.reduceAdd, Int.reduceSub, Int.reduceMul, Int.reducePow, reduceIte, decide_true, decide_false, reduceCtorEq]))
          (try (simp (config := { maxSteps := 1000000 }) only [push_cast, Nat.reduceBEq, Nat.reduceBNe, Nat.reduceAdd, Nat.reduceSub, Nat.reduceMul, Nat.reduceLT, Nat.reduceLeDiff, Nat.reduceEqDiff, Nat.blt_eq, Int.reduceLT, Int.reduceLE, Int.reduceEq, Int.reduceToNat, Int.reduceNeg, Int.reduceAdd, Int.reduceSub, Int.reduceMul, Int.reducePow, reduceIte, decide_true, decide_false, reduceCtorEq, List.getD_cons_zero, List.getD_cons_succ]))
          ((repeat' (with_reducible refine And.intro ?_ ?_)) <;> try (first | trivial | omega | exact inK64 (by omega) (by omega) | exact inKu8 (by omega) (by omega) | (simp only [maxLen]; omega) | exact .inl trivial | exact .inl rfl))
          refine ⟨_, h40, rfl, ?_⟩
          have hbd := ordF_bd (placesF k l) a b
          (try (simp (config := { maxSteps := 1000000 }) only [push_cast, Nat.reduceBEq, Nat.reduceBNe, Nat.reduceAdd, Nat.reduceSub, Nat.reduceMul, Nat.reduceLT, Nat.reduceLeDiff, Nat.reduceEqDiff, Nat.blt_eq, Int.reduceLT, Int.reduceLE, Int.reduceEq, Int.reduceToNat, Int.reduceNeg, Int.reduceAdd, Int.reduceSub, Int.reduceMul, Int.reducePow, reduceIte, decide_true, decide_false, reduceCtorEq]))
          ((repeat' (with_reducible refine And.intro ?_ ?_)) <;> try (first | trivial | omega | exact inK64 (by omega) (by omega) | exact inKu8 (by omega) (by omega) | (simp only [maxLen]; omega) | exact .inl trivial | exact .inl rfl))
          refine ⟨_, f31, rfl, ?_⟩
          (try (simp (config := { maxSteps := 1000000 }) only [push_cast, Nat.reduceBEq, Nat.reduceBNe, Nat.reduceAdd, Nat.reduceSub, Nat.reduceMul, Nat.reduceLT, Nat.reduceLeDiff, Nat.reduceEqDiff, Nat.blt_eq, Int.reduceLT, Int.reduceLE, Int.reduceEq, Int.reduceToNat, Int.reduceNeg, Int.reduceAdd, Int.reduceSub, Int.reduceMul, Int.reducePow, reduceIte, decide_true, decide_false, reduceCtorEq]))
        · have hc' : decide ((placesR k l [[a, b]]).2 = 0) = false := decide_eq_false hc
          (try (simp (config := { maxSteps := 1000000 }) only [push_cast, Nat.reduceBEq, Nat.reduceBNe, Nat.reduceAdd, Nat.reduceSub, Nat.reduceMul, Nat.reduceLT, Nat.reduceLeDiff, Nat.reduceEqDiff, Nat.blt_eq, Int.reduceLT, Int.reduceLE, Int.reduceEq, Int.reduceToNat, Int.reduceNeg, Int.reduceAdd, Int.reduceSub, Int.reduceMul, Int.reducePow, reduceIte, decide_true, decide_false, reduceCtorEq, hc', if_neg hc]))
          refine ⟨_, f31, rfl, ?_⟩
          (try (simp (config := { maxSteps := 1000000 }) only [push_cast, Nat.reduceBEq, Nat.reduceBNe, Nat.reduceAdd, Nat.reduceSub, Nat.reduceMul, Nat.reduceLT, Nat.reduceLeDiff, Nat.reduceEqDiff, Nat.blt_eq, Int.reduceLT, Int.reduceLE, Int.reduceEq, Int.reduceToNat, Int.reduceNeg, Int.reduceAdd, Int.reduceSub, Int.reduceMul, Int.reducePow, reduceIte, decide_true, decide_false, reduceCtorEq]))
end Go.LS.Try
