/- Contracts of the functions of the seat, one by one (part D10); no condition but those that each bears. -/
import Derived.Test.YtfmbjaeppffdpaaDoorD9
namespace Go.LS.Tryd
open Go Go.LS
set_option maxRecDepth 100000
set_option linter.unusedSimpArgs false
set_option linter.unusedVariables false

theorem d45 (L : List Cl) (ks : List ByteArray) (cs : List Ch) (hL : okCl L) (hk : okKeys ks) (hc : okChs cs) (hr : ∀ c ∈ cs, rightC c) :
    Spec V 45 [.c (.d (.sl 3 (L.map eC))), .c (.d (.sl 1 (ks.map eS))), .c (.d (.sl 3 (cs.map eCh)))] (.tu [i2 .i64 ((checkP L ks cs).1 : Int), i2 .i64 (checkP L ks cs).2]) := by
  have hcl : cs.length ≤ 1099511627776 := hc.1
  have hk' : ks.length ≤ 64 := hk
  have h18 := d18 ⟨L, []⟩ ks (okT2_nil hL) hk
  have h86 := d86 L ks hL.1 hk
  simp only [eT_eq, List.map_nil] at h18
  obtain ⟨R, hR⟩ : ∃ R, R = checkP L ks cs := ⟨_, rfl⟩
  rw [← hR]
  simp only [checkP] at hR
  (refine Spec.of_go (L := fun | 0 => some [0, 1, 2] | 1 => some [0, 1, 2, 9] | 2 => some [0, 1, 2, 9, 22] | 3 => some [6, 7] | 4 => some [0, 2, 10] | 5 => some [0, 2, 10, 27, 28, 29] | 6 => some [0, 2, 10, 27, 28, 29, 30] | 7 => some [0, 2, 10, 11, 12, 27, 28, 29] | 8 => some [0, 2, 10, 11, 13, 27, 28, 29] | 9 => some [0, 2, 10, 11, 13, 27, 28, 29, 39] | 10 => some [6, 7] | 11 => some [0, 2, 10, 27, 28, 29] | 12 => some [6, 7] | _ => none) 1000 Go.Proofs.Tryd.func45 rfl rfl ⟨Nat.le_of_ble_eq_true rfl, rfl⟩ rfl ?_; unfold Go.Proofs.Tryd.f45; simp (config := { maxSteps := 1000000 }) only [push_cast, Nat.reduceBEq, Nat.reduceBNe, Nat.reduceAdd, Nat.reduceSub, Nat.reduceMul, Nat.reduceLT, Nat.reduceLeDiff, Nat.reduceEqDiff, Nat.blt_eq, Int.reduceLT, Int.reduceLE, Int.reduceEq, Int.reduceToNat, Int.reduceNeg, Int.reduceAdd, Int.reduceSub, Int.reduceMul, Int.reducePow, reduceIte, decide_true, decide_false, reduceCtorEq])
  refine ⟨_, h18, rfl, ?_⟩
  (try (simp (config := { maxSteps := 1000000 }) only [push_cast, Nat.reduceBEq, Nat.reduceBNe, Nat.reduceAdd, Nat.reduceSub, Nat.reduceMul, Nat.reduceLT, Nat.reduceLeDiff, Nat.reduceEqDiff, Nat.blt_eq, Int.reduceLT, Int.reduceLE, Int.reduceEq, Int.reduceToNat, Int.reduceNeg, Int.reduceAdd, Int.reduceSub, Int.reduceMul, Int.reducePow, reduceIte, decide_true, decide_false, reduceCtorEq]))
  refine BrP.mk (fun h => ?_) (fun h => ?_) <;> try (simp (config := { maxSteps := 1000000 }) only [push_cast, Nat.reduceBEq, Nat.reduceBNe, Nat.reduceAdd, Nat.reduceSub, Nat.reduceMul, Nat.reduceLT, Nat.reduceLeDiff, Nat.reduceEqDiff, Nat.blt_eq, Int.reduceLT, Int.reduceLE, Int.reduceEq, Int.reduceToNat, Int.reduceNeg, Int.reduceAdd, Int.reduceSub, Int.reduceMul, Int.reducePow, reduceIte, decide_true, decide_false, reduceCtorEq, h])
  · have h' : ¬ (tabF ⟨L, []⟩ ks).2 = 0 := by simpa using h
    rw [if_pos h'] at hR
    simp [hR]
  · have h' : (tabF ⟨L, []⟩ ks).2 = 0 := by simpa using h
    rw [if_neg (by simp [h'])] at hR
    have hlt := tab_lt h'
    simp only at hlt
    refine ⟨_, h86, rfl, ?_⟩
    have hpl : (placesN L ks).length ≤ 64 := by simpa [placesN] using hk'
    generalize placesN L ks = ps at *
    (try (simp (config := { maxSteps := 1000000 }) only [push_cast, Nat.reduceBEq, Nat.reduceBNe, Nat.reduceAdd, Nat.reduceSub, Nat.reduceMul, Nat.reduceLT, Nat.reduceLeDiff, Nat.reduceEqDiff, Nat.blt_eq, Int.reduceLT, Int.reduceLE, Int.reduceEq, Int.reduceToNat, Int.reduceNeg, Int.reduceAdd, Int.reduceSub, Int.reduceMul, Int.reducePow, reduceIte, decide_true, decide_false, reduceCtorEq]))
    refine LoopK.s1 (α := Nat) [29] (fun k => [i2 .i64 k]) (fun k => k ≤ cs.length ∧ onesP L.length ps (cs.drop k) k = onesP L.length ps cs 0) (fun k => cs.length - k) 1000 0 ⟨by omega, rfl⟩ (by (try (simp (config := { maxSteps := 1000000 }) only [push_cast, Nat.reduceBEq, Nat.reduceBNe, Nat.reduceAdd, Nat.reduceSub, Nat.reduceMul, Nat.reduceLT, Nat.reduceLeDiff, Nat.reduceEqDiff, Nat.blt_eq, Int.reduceLT, Int.reduceLE, Int.reduceEq, Int.reduceToNat, Int.reduceNeg, Int.reduceAdd, Int.reduceSub, Int.reduceMul, Int.reducePow, reduceIte, decide_true, decide_false, reduceCtorEq]))) ?_
    rintro k ⟨hk, hh⟩
    by_cases hltk : k < cs.length
    · have hv := List.getElem?_eq_getElem hltk
      have hd : decide ((k : Int) < (cs.length : Int)) = true := decide_eq_true (by omega)
      have hm := List.getElem_mem hltk
      rw [drop_cons hv] at hh; simp only [onesP] at hh
      have h87 := d87 L ps cs[k] hL.1 (hc.2 _ hm) (hr _ hm) hpl hlt
      generalize cs[k] = c at *
      simp only [eCh_eq, List.map_cons, List.map_nil] at h87
      (try (simp (config := { maxSteps := 1000000 }) only [push_cast, Nat.reduceBEq, Nat.reduceBNe, Nat.reduceAdd, Nat.reduceSub, Nat.reduceMul, Nat.reduceLT, Nat.reduceLeDiff, Nat.reduceEqDiff, Nat.blt_eq, Int.reduceLT, Int.reduceLE, Int.reduceEq, Int.reduceToNat, Int.reduceNeg, Int.reduceAdd, Int.reduceSub, Int.reduceMul, Int.reducePow, reduceIte, decide_true, decide_false, reduceCtorEq, hd, getD_map hv]))
      ((repeat' (with_reducible refine And.intro ?_ ?_)) <;> try (first | trivial | omega | exact inK64 (by omega) (by omega) | exact inKu8 (by omega) (by omega) | (simp only [maxLen]; omega) | exact .inl trivial | exact .inl rfl))
      refine ⟨_, h87, rfl, ?_⟩
      (try (simp (config := { maxSteps := 1000000 }) only [push_cast, Nat.reduceBEq, Nat.reduceBNe, Nat.reduceAdd, Nat.reduceSub, Nat.reduceMul, Nat.reduceLT, Nat.reduceLeDiff, Nat.reduceEqDiff, Nat.blt_eq, Int.reduceLT, Int.reduceLE, Int.reduceEq, Int.reduceToNat, Int.reduceNeg, Int.reduceAdd, Int.reduceSub, Int.reduceMul, Int.reducePow, reduceIte, decide_true, decide_false, reduceCtorEq]))
      refine BrP.mk (fun h => ?_) (fun h => ?_) <;> try (simp (config := { maxSteps := 1000000 }) only [push_cast, Nat.reduceBEq, Nat.reduceBNe, Nat.reduceAdd, Nat.reduceSub, Nat.reduceMul, Nat.reduceLT, Nat.reduceLeDiff, Nat.reduceEqDiff, Nat.blt_eq, Int.reduceLT, Int.reduceLE, Int.reduceEq, Int.reduceToNat, Int.reduceNeg, Int.reduceAdd, Int.reduceSub, Int.reduceMul, Int.reducePow, reduceIte, decide_true, decide_false, reduceCtorEq, h])
      · have h2 : ¬ oneP L.length ps c = 0 := by simpa using h
        rw [if_pos h2] at hh
        rw [hR, ← hh]
        (try (simp (config := { maxSteps := 1000000 }) only [push_cast, Nat.reduceBEq, Nat.reduceBNe, Nat.reduceAdd, Nat.reduceSub, Nat.reduceMul, Nat.reduceLT, Nat.reduceLeDiff, Nat.reduceEqDiff, Nat.blt_eq, Int.reduceLT, Int.reduceLE, Int.reduceEq, Int.reduceToNat, Int.reduceNeg, Int.reduceAdd, Int.reduceSub, Int.reduceMul, Int.reducePow, reduceIte, decide_true, decide_false, reduceCtorEq]))
      · have h2 : oneP L.length ps c = 0 := by simpa using h
        rw [if_neg (by simp [h2])] at hh
        ((repeat' (with_reducible refine And.intro ?_ ?_)) <;> try (first | trivial | omega | exact inK64 (by omega) (by omega) | exact inKu8 (by omega) (by omega) | (simp only [maxLen]; omega) | exact .inl trivial | exact .inl rfl))
        refine ⟨k + 1, ⟨by omega, hh⟩, by omega, Le.st ?_⟩
        (try (simp (config := { maxSteps := 1000000 }) only [push_cast, Nat.reduceBEq, Nat.reduceBNe, Nat.reduceAdd, Nat.reduceSub, Nat.reduceMul, Nat.reduceLT, Nat.reduceLeDiff, Nat.reduceEqDiff, Nat.blt_eq, Int.reduceLT, Int.reduceLE, Int.reduceEq, Int.reduceToNat, Int.reduceNeg, Int.reduceAdd, Int.reduceSub, Int.reduceMul, Int.reducePow, reduceIte, decide_true, decide_false, reduceCtorEq])); (all_goals first | rfl | skip)
    · have hd : decide ((k : Int) < (cs.length : Int)) = false := decide_eq_false (by omega)
      rw [List.drop_eq_nil_of_le (by omega)] at hh; simp only [onesP] at hh
      have e : k = cs.length := by omega
      rw [hR, ← hh]
      (try (simp (config := { maxSteps := 1000000 }) only [push_cast, Nat.reduceBEq, Nat.reduceBNe, Nat.reduceAdd, Nat.reduceSub, Nat.reduceMul, Nat.reduceLT, Nat.reduceLeDiff, Nat.reduceEqDiff, Nat.blt_eq, Int.reduceLT, Int.reduceLE, Int.reduceEq, Int.reduceToNat, Int.reduceNeg, Int.reduceAdd, Int.reduceSub, Int.reduceMul, Int.reducePow, reduceIte, decide_true, decide_false, reduceCtorEq, hd]))
      try omega
end Go.LS.Tryd
