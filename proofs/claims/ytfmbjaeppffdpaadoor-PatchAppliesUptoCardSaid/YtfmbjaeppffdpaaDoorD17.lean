/- Contracts of the functions of the seat, one by one (part D17); no condition but those that each bears. -/
import Derived.Test.YtfmbjaeppffdpaaDoorD16
import Derived.Test.YtfmbjaeppffdpaaDoorPz
namespace Go.LS.Tryd
open Go Go.LS
set_option maxRecDepth 100000
set_option linter.unusedSimpArgs false
set_option linter.unusedVariables false

set_option maxHeartbeats 1000000 in
theorem d48 (t : Tb) (ks : List ByteArray) (cs : List Ch) (ht : okT2 t) (hk : okKeys ks) (hc : okChs cs) (htl : t.R.length ≤ 1000) (hcl : cs.length ≤ 1000) :
    Spec V 48 [.ag ((eRT t).map .d), .c (.d (.sl 1 (ks.map eS))), .c (.d (.sl 3 (cs.map eRCh)))] (.tu [.c (.d (.sl 1 ((applyF t ks cs).1.map eRR))), i2 .i64 ((applyF t ks cs).2.1 : Int), i2 .i64 (applyF t ks cs).2.2]) := by
  have h19 := d19 t ks ht hk
  have h46 := d46 t.L ks cs ht.l hk hc
  obtain ⟨L, R0⟩ := t
  obtain ⟨R, hR⟩ : ∃ R, R = applyF ⟨L, R0⟩ ks cs := ⟨_, rfl⟩
  rw [← hR]
  simp only [applyF] at hR
  simp only [eRT_eq] at h19 h46
  (refine Spec.of_go (L := fun | 0 => some [1, 2, 3] | 1 => some [1, 2, 3, 10] | 2 => some [1, 2, 3, 10, 27] | 3 => some [6, 7, 8] | 4 => some [1, 2, 3, 11, 12] | 5 => some [1, 2, 3, 11, 12, 38] | 6 => some [6, 7, 8] | 7 => some [1, 2, 3, 13] | 8 => some [1, 2, 3, 13, 43, 44, 45] | 9 => some [1, 2, 3, 13, 43, 44, 45, 46] | 10 => some [1, 2, 3, 13, 14, 15, 43, 44, 45] | 11 => some [1, 2, 3, 13, 14, 15, 16, 43, 44, 45] | 12 => some [1, 2, 3, 13, 14, 15, 16, 17, 43, 44, 45] | 13 => some [1, 2, 3, 14, 15, 16, 17, 43, 44, 45, 50, 51, 52] | 14 => some [1, 2, 3, 14, 15, 16, 17, 43, 44, 45, 50, 51, 52, 53] | 15 => some [1, 2, 3, 14, 15, 16, 17, 19, 43, 44, 45, 50, 51, 52] | 16 => some [1, 2, 3, 14, 15, 16, 17, 19, 43, 44, 45, 50, 51, 52, 67] | 17 => some [6, 7, 8] | 18 => some [1, 2, 3, 14, 15, 16, 17, 19, 43, 44, 45, 50, 51, 52, 81] | 19 => some [1, 2, 3, 14, 15, 16, 17, 43, 44, 45, 50, 51, 52] | 20 => some [1, 2, 3, 14, 15, 16, 17, 19, 43, 44, 45, 50, 51, 52] | 21 => some [1, 2, 3, 14, 15, 16, 17, 43, 44, 45, 50, 51, 52, 90] | 22 => some [6, 7, 8] | 23 => some [1, 2, 3, 14, 15, 16, 17, 43, 44, 45, 50, 51, 52, 94] | 24 => some [1, 2, 3, 14, 15, 16, 17, 43, 44, 45, 50, 51, 52] | 25 => some [1, 2, 3, 14, 15, 16, 17, 43, 44, 45, 50, 51, 52] | 26 => some [1, 2, 3, 14, 15, 16, 43, 44, 45, 107] | 27 => some [6, 7, 8] | 28 => some [1, 2, 3, 15, 16, 43, 44, 45, 111] | 29 => some [1, 2, 3, 16, 43, 44, 45] | 30 => some [1, 2, 3, 13, 43, 44, 45] | 31 => some [1, 2, 3, 13, 43, 44, 45] | 32 => some [6, 7, 8] | _ => none) 1000 Go.Proofs.Tryd.func48 rfl rfl ⟨Nat.le_of_ble_eq_true rfl, rfl⟩ rfl ?_; unfold Go.Proofs.Tryd.f48; simp (config := { maxSteps := 1000000 }) only [push_cast, Nat.reduceBEq, Nat.reduceBNe, Nat.reduceAdd, Nat.reduceSub, Nat.reduceMul, Nat.reduceLT, Nat.reduceLeDiff, Nat.reduceEqDiff, Nat.blt_eq, Int.reduceLT, Int.reduceLE, Int.reduceEq, Int.reduceToNat, Int.reduceNeg, Int.reduceAdd, Int.reduceSub, Int.reduceMul, Int.reducePow, reduceIte, decide_true, decide_false, reduceCtorEq])
  refine ⟨_, h19, rfl, ?_⟩
  (try (simp (config := { maxSteps := 1000000 }) only [push_cast, Nat.reduceBEq, Nat.reduceBNe, Nat.reduceAdd, Nat.reduceSub, Nat.reduceMul, Nat.reduceLT, Nat.reduceLeDiff, Nat.reduceEqDiff, Nat.blt_eq, Int.reduceLT, Int.reduceLE, Int.reduceEq, Int.reduceToNat, Int.reduceNeg, Int.reduceAdd, Int.reduceSub, Int.reduceMul, Int.reducePow, reduceIte, decide_true, decide_false, reduceCtorEq]))
  refine BrP.mk (fun h => ?_) (fun h => ?_) <;> try (simp (config := { maxSteps := 1000000 }) only [push_cast, Nat.reduceBEq, Nat.reduceBNe, Nat.reduceAdd, Nat.reduceSub, Nat.reduceMul, Nat.reduceLT, Nat.reduceLeDiff, Nat.reduceEqDiff, Nat.blt_eq, Int.reduceLT, Int.reduceLE, Int.reduceEq, Int.reduceToNat, Int.reduceNeg, Int.reduceAdd, Int.reduceSub, Int.reduceMul, Int.reducePow, reduceIte, decide_true, decide_false, reduceCtorEq, h])
  · have h' : ¬ (tabF ⟨L, R0⟩ ks).2 = 0 := by simpa using h
    rw [if_pos h'] at hR
    subst hR
    (try (simp (config := { maxSteps := 1000000 }) only [push_cast, Nat.reduceBEq, Nat.reduceBNe, Nat.reduceAdd, Nat.reduceSub, Nat.reduceMul, Nat.reduceLT, Nat.reduceLeDiff, Nat.reduceEqDiff, Nat.blt_eq, Int.reduceLT, Int.reduceLE, Int.reduceEq, Int.reduceToNat, Int.reduceNeg, Int.reduceAdd, Int.reduceSub, Int.reduceMul, Int.reducePow, reduceIte, decide_true, decide_false, reduceCtorEq]))
    all_goals simp
  · have h' : (tabF ⟨L, R0⟩ ks).2 = 0 := by simpa using h
    rw [if_neg (by simp [h'])] at hR
    refine ⟨_, h46, rfl, ?_⟩
    (try (simp (config := { maxSteps := 1000000 }) only [push_cast, Nat.reduceBEq, Nat.reduceBNe, Nat.reduceAdd, Nat.reduceSub, Nat.reduceMul, Nat.reduceLT, Nat.reduceLeDiff, Nat.reduceEqDiff, Nat.blt_eq, Int.reduceLT, Int.reduceLE, Int.reduceEq, Int.reduceToNat, Int.reduceNeg, Int.reduceAdd, Int.reduceSub, Int.reduceMul, Int.reducePow, reduceIte, decide_true, decide_false, reduceCtorEq]))
    refine BrP.mk (fun h => ?_) (fun h => ?_) <;> try (simp (config := { maxSteps := 1000000 }) only [push_cast, Nat.reduceBEq, Nat.reduceBNe, Nat.reduceAdd, Nat.reduceSub, Nat.reduceMul, Nat.reduceLT, Nat.reduceLeDiff, Nat.reduceEqDiff, Nat.blt_eq, Int.reduceLT, Int.reduceLE, Int.reduceEq, Int.reduceToNat, Int.reduceNeg, Int.reduceAdd, Int.reduceSub, Int.reduceMul, Int.reducePow, reduceIte, decide_true, decide_false, reduceCtorEq, h])
    · have h2 : ¬ (checkP L ks cs).2 = 0 := by simpa using h
      rw [if_pos h2] at hR
      subst hR
      (try (simp (config := { maxSteps := 1000000 }) only [push_cast, Nat.reduceBEq, Nat.reduceBNe, Nat.reduceAdd, Nat.reduceSub, Nat.reduceMul, Nat.reduceLT, Nat.reduceLeDiff, Nat.reduceEqDiff, Nat.blt_eq, Int.reduceLT, Int.reduceLE, Int.reduceEq, Int.reduceToNat, Int.reduceNeg, Int.reduceAdd, Int.reduceSub, Int.reduceMul, Int.reducePow, reduceIte, decide_true, decide_false, reduceCtorEq]))
      all_goals simp
    · have h2 : (checkP L ks cs).2 = 0 := by simpa using h
      rw [if_neg (by simp [h2])] at hR
      have hf := tab_found h'
      have hplt := tab_lt h'
      have hrows := tab_rows h'
      have hap := tab_apart h'
      obtain ⟨h2a, h2b⟩ := ones_ok (show (onesP L.length (placesN L ks) cs 0).2 = 0 by
        have := h2
        simp only [checkP] at this
        split at this
        · exact absurd this (by assumption)
        · exact this)
      have htl' : R0.length ≤ 1000 := htl
      obtain ⟨htL, htr, htv, htrt⟩ := ht
      simp only at hf hplt hrows hap htL htr htv htrt
      have hLl : L.length ≤ 1099511627776 := htL.1
      clear h19 h46 h' h2 h h2b
      have h92 := fun a b (ha : a.length = L.length) (hb : b.length = L.length) => d92 L ks a b htL.1 (by simp only [okLen, okKeys] at hk ⊢; omega) hf (fun p hp => by have := hplt p hp; omega) (fun p hp => by have := hplt p hp; omega)
      generalize placesN L ks = ps at *
      (try (simp (config := { maxSteps := 1000000 }) only [push_cast, Nat.reduceBEq, Nat.reduceBNe, Nat.reduceAdd, Nat.reduceSub, Nat.reduceMul, Nat.reduceLT, Nat.reduceLeDiff, Nat.reduceEqDiff, Nat.blt_eq, Int.reduceLT, Int.reduceLE, Int.reduceEq, Int.reduceToNat, Int.reduceNeg, Int.reduceAdd, Int.reduceSub, Int.reduceMul, Int.reducePow, reduceIte, decide_true, decide_false, reduceCtorEq]))
      refine LoopK.s1 (α := Nat × List (List Vl)) [45, 13] (fun a => [i2 .i64 a.1, .c (.d (.sl 1 (a.2.map eRR)))]) (fun a => a.1 ≤ cs.length ∧ runP ps (cs.drop a.1) a.2 a.1 = runP ps cs R0 0 ∧ (a.2.Pairwise fun x y => alikeF ps x y = false) ∧ a.2.length ≤ R0.length + a.1 ∧ ∀ r ∈ a.2, r.length = L.length) (fun a => cs.length - a.1) 1000 (0, R0) ⟨by simp, rfl, hap, by simp, fun r hr => (hrows r hr).1⟩ (by (try (simp (config := { maxSteps := 1000000 }) only [push_cast, Nat.reduceBEq, Nat.reduceBNe, Nat.reduceAdd, Nat.reduceSub, Nat.reduceMul, Nat.reduceLT, Nat.reduceLeDiff, Nat.reduceEqDiff, Nat.blt_eq, Int.reduceLT, Int.reduceLE, Int.reduceEq, Int.reduceToNat, Int.reduceNeg, Int.reduceAdd, Int.reduceSub, Int.reduceMul, Int.reducePow, reduceIte, decide_true, decide_false, reduceCtorEq]))) ?_
      rintro ⟨k, rows⟩ ⟨hk1, hrun, hapr, hrl, hrw⟩
      simp only at hk1 hrun hapr hrl hrw
      by_cases hlt : k < cs.length
      · have hv := List.getElem?_eq_getElem hlt; have hd : decide ((k : Int) < (cs.length : Int)) = true := decide_eq_true (by omega)
        have hm := List.getElem_mem hlt
        have hrc := one_right (h2a _ hm)
        have hco := hc.2 _ hm
        rw [drop_cons hv] at hrun
        simp only [runP, ← err_eq hapr, ← next_eq] at hrun
        have hnap := next_apart hrc hapr
        generalize cs[k] = c at *
        (try (simp (config := { maxSteps := 1000000 }) only [push_cast, Nat.reduceBEq, Nat.reduceBNe, Nat.reduceAdd, Nat.reduceSub, Nat.reduceMul, Nat.reduceLT, Nat.reduceLeDiff, Nat.reduceEqDiff, Nat.blt_eq, Int.reduceLT, Int.reduceLE, Int.reduceEq, Int.reduceToNat, Int.reduceNeg, Int.reduceAdd, Int.reduceSub, Int.reduceMul, Int.reducePow, reduceIte, decide_true, decide_false, reduceCtorEq, hd, getD_map hv]))
        ((repeat' (with_reducible refine And.intro ?_ ?_)) <;> try (first | trivial | omega | exact inK64 (by omega) (by omega) | exact inKu8 (by omega) (by omega) | (simp only [maxLen]; omega) | exact .inl trivial | exact .inl rfl))
        have hbad : ∀ e : Int, e ≠ 0 → scanP ps c rows = some e → R = ([], k, e) := by
          intro e he hs
          have h1 : errR ps rows c = e := by unfold errR; rw [hs]
          rw [h1, if_pos he] at hrun
          rw [hR, ← hrun]
        refine LoopK.le (Le.nil 16 53 1 (by decide) (by (try (simp (config := { maxSteps := 1000000 }) only [push_cast, Nat.reduceBEq, Nat.reduceBNe, Nat.reduceAdd, Nat.reduceSub, Nat.reduceMul, Nat.reduceLT, Nat.reduceLeDiff, Nat.reduceEqDiff, Nat.blt_eq, Int.reduceLT, Int.reduceLE, Int.reduceEq, Int.reduceToNat, Int.reduceNeg, Int.reduceAdd, Int.reduceSub, Int.reduceMul, Int.reducePow, reduceIte, decide_true, decide_false, reduceCtorEq])))) ?_
        (try (simp (config := { maxSteps := 1000000 }) only [push_cast, Nat.reduceBEq, Nat.reduceBNe, Nat.reduceAdd, Nat.reduceSub, Nat.reduceMul, Nat.reduceLT, Nat.reduceLeDiff, Nat.reduceEqDiff, Nat.blt_eq, Int.reduceLT, Int.reduceLE, Int.reduceEq, Int.reduceToNat, Int.reduceNeg, Int.reduceAdd, Int.reduceSub, Int.reduceMul, Int.reducePow, reduceIte, decide_true, decide_false, reduceCtorEq]))
        refine LoopK.ov (α := Nat) [52, 17] (fun j => [i2 .i64 j, b2 (!decide (c.k = 3) && (rows.take j).any fun r => alikeF ps r c.o)]) (fun j => [.bx 39 [.d (.sl 3 (L.map eRC)), .d (.sl 1 (R0.map eRR))], .bx 134 [.d (.v (.int .i64 c.k)), .d (.sl 4 (c.o.map eRV)), .d (.sl 4 (c.n.map eRV))], .rw 53 1 (((rows.take j).flatMap (stepR ps c)).map eRR)]) (fun j => j ≤ rows.length ∧ scanP ps c (rows.drop j) = scanP ps c rows ∧ ((rows.take j).flatMap (stepR ps c)).length ≤ j) (fun j => rows.length - j) 1000 0 ⟨by omega, rfl, by simp⟩ (by ((try (simp (config := { maxSteps := 1000000 }) only [push_cast, Nat.reduceBEq, Nat.reduceBNe, Nat.reduceAdd, Nat.reduceSub, Nat.reduceMul, Nat.reduceLT, Nat.reduceLeDiff, Nat.reduceEqDiff, Nat.blt_eq, Int.reduceLT, Int.reduceLE, Int.reduceEq, Int.reduceToNat, Int.reduceNeg, Int.reduceAdd, Int.reduceSub, Int.reduceMul, Int.reducePow, reduceIte, decide_true, decide_false, reduceCtorEq]))); simp) ?_
        rintro j ⟨hj, hscan, hsl⟩
        by_cases hlt2 : j < rows.length
        · have hv2 := List.getElem?_eq_getElem hlt2
          have hd2 : decide ((j : Int) < (rows.length : Int)) = true := decide_eq_true (by omega)
          have hm2 := List.getElem_mem hlt2
          have hrl2 := hrw _ hm2
          have has := any_succ (p := fun r => alikeF ps r c.o) hv2
          have hfm : (rows.take (j + 1)).flatMap (stepR ps c) = (rows.take j).flatMap (stepR ps c) ++ stepR ps c rows[j] := by
            rw [List.take_add_one, hv2, Option.toList_some, List.flatMap_append, List.flatMap_cons, List.flatMap_nil, List.append_nil]
          rw [drop_cons hv2] at hscan
          simp only [scanP, badR] at hscan
          generalize rows[j] = r at *
          have h29 := same29 r c.o (by simp only [okLen]; omega) hco.1.1
          obtain ⟨st, hst⟩ : ∃ st, st = stepR ps c r := ⟨_, rfl⟩
          rw [← hst] at hfm
          unfold stepR at hst
          have h92o := fun h => h92 r c.o hrl2 h
          have h92n := fun h => h92 r c.n hrl2 h
          (try (simp (config := { maxSteps := 1000000 }) only [push_cast, Nat.reduceBEq, Nat.reduceBNe, Nat.reduceAdd, Nat.reduceSub, Nat.reduceMul, Nat.reduceLT, Nat.reduceLeDiff, Nat.reduceEqDiff, Nat.blt_eq, Int.reduceLT, Int.reduceLE, Int.reduceEq, Int.reduceToNat, Int.reduceNeg, Int.reduceAdd, Int.reduceSub, Int.reduceMul, Int.reducePow, reduceIte, decide_true, decide_false, reduceCtorEq, hd2, getD_map hv2]))
          ((repeat' (with_reducible refine And.intro ?_ ?_)) <;> try (first | trivial | omega | exact inK64 (by omega) (by omega) | exact inKu8 (by omega) (by omega) | (simp only [maxLen]; omega) | exact .inl trivial | exact .inl rfl))
          refine BrP.mk (fun h => ?_) (fun h => ?_) <;> try (simp (config := { maxSteps := 1000000 }) only [push_cast, Nat.reduceBEq, Nat.reduceBNe, Nat.reduceAdd, Nat.reduceSub, Nat.reduceMul, Nat.reduceLT, Nat.reduceLeDiff, Nat.reduceEqDiff, Nat.blt_eq, Int.reduceLT, Int.reduceLE, Int.reduceEq, Int.reduceToNat, Int.reduceNeg, Int.reduceAdd, Int.reduceSub, Int.reduceMul, Int.reducePow, reduceIte, decide_true, decide_false, reduceCtorEq, h])
          · have h3 := of_decide_eq_true h
            have hn3 := (hrc.n' (by omega)).1
            refine ⟨_, h92n hn3, rfl, ?_⟩
            have d3 : decide (c.k = 3) = true := decide_eq_true h3
            simp only [h3, if_true, true_or] at hscan hst
            (try (simp (config := { maxSteps := 1000000 }) only [push_cast, Nat.reduceBEq, Nat.reduceBNe, Nat.reduceAdd, Nat.reduceSub, Nat.reduceMul, Nat.reduceLT, Nat.reduceLeDiff, Nat.reduceEqDiff, Nat.blt_eq, Int.reduceLT, Int.reduceLE, Int.reduceEq, Int.reduceToNat, Int.reduceNeg, Int.reduceAdd, Int.reduceSub, Int.reduceMul, Int.reducePow, reduceIte, decide_true, decide_false, reduceCtorEq]))
            cases ha : alikeF ps r c.n with
            | true =>
              rw [ha] at hscan
              simp only [if_true] at hscan
              rw [hbad 15 (by decide) hscan.symm]
              (try (simp (config := { maxSteps := 1000000 }) only [push_cast, Nat.reduceBEq, Nat.reduceBNe, Nat.reduceAdd, Nat.reduceSub, Nat.reduceMul, Nat.reduceLT, Nat.reduceLeDiff, Nat.reduceEqDiff, Nat.blt_eq, Int.reduceLT, Int.reduceLE, Int.reduceEq, Int.reduceToNat, Int.reduceNeg, Int.reduceAdd, Int.reduceSub, Int.reduceMul, Int.reducePow, reduceIte, decide_true, decide_false, reduceCtorEq]))
              try simp
            | false =>
              rw [ha] at hscan
              simp only [Bool.false_eq_true, if_false] at hscan
              (try (simp (config := { maxSteps := 1000000 }) only [push_cast, Nat.reduceBEq, Nat.reduceBNe, Nat.reduceAdd, Nat.reduceSub, Nat.reduceMul, Nat.reduceLT, Nat.reduceLeDiff, Nat.reduceEqDiff, Nat.blt_eq, Int.reduceLT, Int.reduceLE, Int.reduceEq, Int.reduceToNat, Int.reduceNeg, Int.reduceAdd, Int.reduceSub, Int.reduceMul, Int.reducePow, reduceIte, decide_true, decide_false, reduceCtorEq, d3]))
              refine ⟨⟨.inl trivial, by simp only [maxLen]; omega, by omega⟩, ?_⟩
              ((repeat' (with_reducible refine And.intro ?_ ?_)) <;> try (first | trivial | omega | exact inK64 (by omega) (by omega) | exact inKu8 (by omega) (by omega) | (simp only [maxLen]; omega) | exact .inl trivial | exact .inl rfl))
              rw [hst] at hfm
              refine ⟨j + 1, ⟨by omega, hscan, by rw [hfm, List.length_append]; simp only [List.length_cons, List.length_nil]; omega⟩, by omega, Le.st ?_⟩
              (first | rw [hfm, has] | rw [hfm])
              (try (simp (config := { maxSteps := 1000000 }) only [push_cast, Nat.reduceBEq, Nat.reduceBNe, Nat.reduceAdd, Nat.reduceSub, Nat.reduceMul, Nat.reduceLT, Nat.reduceLeDiff, Nat.reduceEqDiff, Nat.blt_eq, Int.reduceLT, Int.reduceLE, Int.reduceEq, Int.reduceToNat, Int.reduceNeg, Int.reduceAdd, Int.reduceSub, Int.reduceMul, Int.reducePow, reduceIte, decide_true, decide_false, reduceCtorEq, d3, ha]))
              all_goals (first | rfl | (simp; done) | (simp; rfl))
          · have h3 := of_decide_eq_false h
            have ho3 := (hrc.o h3).1
            have d3 : decide (c.k = 3) = false := decide_eq_false h3
            simp only [h3, if_false, false_or] at hscan hst
            refine ⟨_, h92o ho3, rfl, ?_⟩
            (try (simp (config := { maxSteps := 1000000 }) only [push_cast, Nat.reduceBEq, Nat.reduceBNe, Nat.reduceAdd, Nat.reduceSub, Nat.reduceMul, Nat.reduceLT, Nat.reduceLeDiff, Nat.reduceEqDiff, Nat.blt_eq, Int.reduceLT, Int.reduceLE, Int.reduceEq, Int.reduceToNat, Int.reduceNeg, Int.reduceAdd, Int.reduceSub, Int.reduceMul, Int.reducePow, reduceIte, decide_true, decide_false, reduceCtorEq]))
            cases ha : alikeF ps r c.o with
            | false =>
              rw [ha] at hscan hst has
              simp only [Bool.false_eq_true, false_and, if_false, if_true] at hscan hst
              (try (simp (config := { maxSteps := 1000000 }) only [push_cast, Nat.reduceBEq, Nat.reduceBNe, Nat.reduceAdd, Nat.reduceSub, Nat.reduceMul, Nat.reduceLT, Nat.reduceLeDiff, Nat.reduceEqDiff, Nat.blt_eq, Int.reduceLT, Int.reduceLE, Int.reduceEq, Int.reduceToNat, Int.reduceNeg, Int.reduceAdd, Int.reduceSub, Int.reduceMul, Int.reducePow, reduceIte, decide_true, decide_false, reduceCtorEq]))
              refine ⟨⟨.inl trivial, by simp only [maxLen]; omega, by omega⟩, ?_⟩
              ((repeat' (with_reducible refine And.intro ?_ ?_)) <;> try (first | trivial | omega | exact inK64 (by omega) (by omega) | exact inKu8 (by omega) (by omega) | (simp only [maxLen]; omega) | exact .inl trivial | exact .inl rfl))
              rw [hst] at hfm
              refine ⟨j + 1, ⟨by omega, hscan, by rw [hfm, List.length_append]; simp only [List.length_cons, List.length_nil]; omega⟩, by omega, Le.st ?_⟩
              (first | rw [hfm, has] | rw [hfm])
              (try (simp (config := { maxSteps := 1000000 }) only [push_cast, Nat.reduceBEq, Nat.reduceBNe, Nat.reduceAdd, Nat.reduceSub, Nat.reduceMul, Nat.reduceLT, Nat.reduceLeDiff, Nat.reduceEqDiff, Nat.blt_eq, Int.reduceLT, Int.reduceLE, Int.reduceEq, Int.reduceToNat, Int.reduceNeg, Int.reduceAdd, Int.reduceSub, Int.reduceMul, Int.reducePow, reduceIte, decide_true, decide_false, reduceCtorEq, d3, ha]))
              all_goals (first | rfl | (simp; done) | (simp; rfl))
            | true =>
              rw [ha] at hscan hst has
              simp only [Bool.true_eq_false, true_and, if_false] at hscan hst
              (try (simp (config := { maxSteps := 1000000 }) only [push_cast, Nat.reduceBEq, Nat.reduceBNe, Nat.reduceAdd, Nat.reduceSub, Nat.reduceMul, Nat.reduceLT, Nat.reduceLeDiff, Nat.reduceEqDiff, Nat.blt_eq, Int.reduceLT, Int.reduceLE, Int.reduceEq, Int.reduceToNat, Int.reduceNeg, Int.reduceAdd, Int.reduceSub, Int.reduceMul, Int.reducePow, reduceIte, decide_true, decide_false, reduceCtorEq]))
              refine ⟨_, h29, rfl, ?_⟩
              (try (simp (config := { maxSteps := 1000000 }) only [push_cast, Nat.reduceBEq, Nat.reduceBNe, Nat.reduceAdd, Nat.reduceSub, Nat.reduceMul, Nat.reduceLT, Nat.reduceLeDiff, Nat.reduceEqDiff, Nat.blt_eq, Int.reduceLT, Int.reduceLE, Int.reduceEq, Int.reduceToNat, Int.reduceNeg, Int.reduceAdd, Int.reduceSub, Int.reduceMul, Int.reducePow, reduceIte, decide_true, decide_false, reduceCtorEq]))
              cases hs : sameR r c.o with
              | false =>
                rw [hs] at hscan
                simp only [if_true] at hscan
                rw [hbad 23 (by decide) hscan.symm]
                (try (simp (config := { maxSteps := 1000000 }) only [push_cast, Nat.reduceBEq, Nat.reduceBNe, Nat.reduceAdd, Nat.reduceSub, Nat.reduceMul, Nat.reduceLT, Nat.reduceLeDiff, Nat.reduceEqDiff, Nat.blt_eq, Int.reduceLT, Int.reduceLE, Int.reduceEq, Int.reduceToNat, Int.reduceNeg, Int.reduceAdd, Int.reduceSub, Int.reduceMul, Int.reducePow, reduceIte, decide_true, decide_false, reduceCtorEq]))
                try simp
              | true =>
                rw [hs] at hscan
                simp only [Bool.true_eq_false, if_false] at hscan
                (try (simp (config := { maxSteps := 1000000 }) only [push_cast, Nat.reduceBEq, Nat.reduceBNe, Nat.reduceAdd, Nat.reduceSub, Nat.reduceMul, Nat.reduceLT, Nat.reduceLeDiff, Nat.reduceEqDiff, Nat.blt_eq, Int.reduceLT, Int.reduceLE, Int.reduceEq, Int.reduceToNat, Int.reduceNeg, Int.reduceAdd, Int.reduceSub, Int.reduceMul, Int.reducePow, reduceIte, decide_true, decide_false, reduceCtorEq]))
                refine BrP.mk (fun h => ?_) (fun h => ?_) <;> try (simp (config := { maxSteps := 1000000 }) only [push_cast, Nat.reduceBEq, Nat.reduceBNe, Nat.reduceAdd, Nat.reduceSub, Nat.reduceMul, Nat.reduceLT, Nat.reduceLeDiff, Nat.reduceEqDiff, Nat.blt_eq, Int.reduceLT, Int.reduceLE, Int.reduceEq, Int.reduceToNat, Int.reduceNeg, Int.reduceAdd, Int.reduceSub, Int.reduceMul, Int.reducePow, reduceIte, decide_true, decide_false, reduceCtorEq, h])
                · have h2 := of_decide_eq_true h
                  rw [if_pos h2] at hst
                  refine ⟨⟨.inl trivial, by simp only [maxLen]; omega, by omega⟩, ?_⟩
                  ((repeat' (with_reducible refine And.intro ?_ ?_)) <;> try (first | trivial | omega | exact inK64 (by omega) (by omega) | exact inKu8 (by omega) (by omega) | (simp only [maxLen]; omega) | exact .inl trivial | exact .inl rfl))
                  rw [hst] at hfm
                  refine ⟨j + 1, ⟨by omega, hscan, by rw [hfm, List.length_append]; simp only [List.length_cons, List.length_nil]; omega⟩, by omega, Le.st ?_⟩
                  (first | rw [hfm, has] | rw [hfm])
                  (try (simp (config := { maxSteps := 1000000 }) only [push_cast, Nat.reduceBEq, Nat.reduceBNe, Nat.reduceAdd, Nat.reduceSub, Nat.reduceMul, Nat.reduceLT, Nat.reduceLeDiff, Nat.reduceEqDiff, Nat.blt_eq, Int.reduceLT, Int.reduceLE, Int.reduceEq, Int.reduceToNat, Int.reduceNeg, Int.reduceAdd, Int.reduceSub, Int.reduceMul, Int.reducePow, reduceIte, decide_true, decide_false, reduceCtorEq, d3, ha]))
                  all_goals (first | rfl | (simp; done) | (simp; rfl))
                · have h2 := of_decide_eq_false h
                  rw [if_neg h2] at hst
                  rw [hst, List.append_nil] at hfm
                  ((repeat' (with_reducible refine And.intro ?_ ?_)) <;> try (first | trivial | omega | exact inK64 (by omega) (by omega) | exact inKu8 (by omega) (by omega) | (simp only [maxLen]; omega) | exact .inl trivial | exact .inl rfl))
                  refine ⟨j + 1, ⟨by omega, hscan, by rw [hfm]; omega⟩, by omega, Le.st ?_⟩
                  (first | rw [hfm, has] | rw [hfm])
                  (try (simp (config := { maxSteps := 1000000 }) only [push_cast, Nat.reduceBEq, Nat.reduceBNe, Nat.reduceAdd, Nat.reduceSub, Nat.reduceMul, Nat.reduceLT, Nat.reduceLeDiff, Nat.reduceEqDiff, Nat.blt_eq, Int.reduceLT, Int.reduceLE, Int.reduceEq, Int.reduceToNat, Int.reduceNeg, Int.reduceAdd, Int.reduceSub, Int.reduceMul, Int.reducePow, reduceIte, decide_true, decide_false, reduceCtorEq, d3, ha]))
                  all_goals (first | rfl | (simp; done) | (simp; rfl))
        · have hd2 : decide ((j : Int) < (rows.length : Int)) = false := decide_eq_false (by omega)
          rw [List.drop_eq_nil_of_le (by omega)] at hscan
          simp only [scanP] at hscan
          rw [List.take_of_length_le (by omega)] at hsl ⊢
          have herr : errR ps rows c = if c.k ≠ 3 ∧ (rows.any fun r => alikeF ps r c.o) = false then 25 else 0 := by
            unfold errR; rw [← hscan]
          (try (simp (config := { maxSteps := 1000000 }) only [push_cast, Nat.reduceBEq, Nat.reduceBNe, Nat.reduceAdd, Nat.reduceSub, Nat.reduceMul, Nat.reduceLT, Nat.reduceLeDiff, Nat.reduceEqDiff, Nat.blt_eq, Int.reduceLT, Int.reduceLE, Int.reduceEq, Int.reduceToNat, Int.reduceNeg, Int.reduceAdd, Int.reduceSub, Int.reduceMul, Int.reducePow, reduceIte, decide_true, decide_false, reduceCtorEq, hd2]))
          refine BrP.mk (fun h => ?_) (fun h => ?_) <;> try (simp (config := { maxSteps := 1000000 }) only [push_cast, Nat.reduceBEq, Nat.reduceBNe, Nat.reduceAdd, Nat.reduceSub, Nat.reduceMul, Nat.reduceLT, Nat.reduceLeDiff, Nat.reduceEqDiff, Nat.blt_eq, Int.reduceLT, Int.reduceLE, Int.reduceEq, Int.reduceToNat, Int.reduceNeg, Int.reduceAdd, Int.reduceSub, Int.reduceMul, Int.reducePow, reduceIte, decide_true, decide_false, reduceCtorEq, h])
          · have h3 : ¬ c.k = 3 := by simpa using h
            cases ha : rows.any fun r => alikeF ps r c.o with
            | false =>
              rw [if_pos ⟨h3, ha⟩] at herr
              rw [herr, if_pos (by decide)] at hrun
              rw [← hrun] at hR
              subst hR
              have d3 : decide (c.k = 3) = false := decide_eq_false h3
              (try (simp (config := { maxSteps := 1000000 }) only [push_cast, Nat.reduceBEq, Nat.reduceBNe, Nat.reduceAdd, Nat.reduceSub, Nat.reduceMul, Nat.reduceLT, Nat.reduceLeDiff, Nat.reduceEqDiff, Nat.blt_eq, Int.reduceLT, Int.reduceLE, Int.reduceEq, Int.reduceToNat, Int.reduceNeg, Int.reduceAdd, Int.reduceSub, Int.reduceMul, Int.reducePow, reduceIte, decide_true, decide_false, reduceCtorEq, d3, ha]))
              try simp
            | true =>
              rw [if_neg (by simp [ha])] at herr
              rw [herr, if_neg (by decide)] at hrun
              have d3 : decide (c.k = 3) = false := decide_eq_false h3
              (try (simp (config := { maxSteps := 1000000 }) only [push_cast, Nat.reduceBEq, Nat.reduceBNe, Nat.reduceAdd, Nat.reduceSub, Nat.reduceMul, Nat.reduceLT, Nat.reduceLeDiff, Nat.reduceEqDiff, Nat.blt_eq, Int.reduceLT, Int.reduceLE, Int.reduceEq, Int.reduceToNat, Int.reduceNeg, Int.reduceAdd, Int.reduceSub, Int.reduceMul, Int.reducePow, reduceIte, decide_true, decide_false, reduceCtorEq, d3, ha]))
              have hnr : nextR ps rows c = rows.flatMap (stepR ps c) ++ [] := by unfold nextR; rw [if_neg h3]
              have hap2 := hnap (by rw [← err_eq hapr, herr])
              rw [← next_eq] at hap2
              have hnw : ∀ r ∈ nextR ps rows c, r.length = L.length := by
                intro r hr
                rw [hnr] at hr
                rcases List.mem_append.1 hr with hr | hr
                · obtain ⟨x, hx, hr⟩ := List.mem_flatMap.1 hr
                  unfold stepR at hr
                  split at hr
                  · rw [List.mem_singleton.1 hr]; exact hrw x hx
                  · split at hr
                    · rename_i h2
                      rw [List.mem_singleton.1 hr]; exact (hrc.n' (by omega)).1
                    · cases hr
                · first | (cases hr; done) | (rw [List.mem_singleton.1 hr]; exact (hrc.n' (by omega)).1)
              ((repeat' (with_reducible refine And.intro ?_ ?_)) <;> try (first | trivial | omega | exact inK64 (by omega) (by omega) | exact inKu8 (by omega) (by omega) | (simp only [maxLen]; omega) | exact .inl trivial | exact .inl rfl))
              refine ⟨(k + 1, nextR ps rows c), ⟨by simp only; omega, hrun, hap2, by simp only [hnr, List.length_append, List.length_cons, List.length_nil]; omega, hnw⟩, by simp only; omega, Le.trans (Le.fz (k := 2) rfl) (Le.st ?_)⟩
              rw [hnr]
              (try (simp (config := { maxSteps := 1000000 }) only [push_cast, Nat.reduceBEq, Nat.reduceBNe, Nat.reduceAdd, Nat.reduceSub, Nat.reduceMul, Nat.reduceLT, Nat.reduceLeDiff, Nat.reduceEqDiff, Nat.blt_eq, Int.reduceLT, Int.reduceLE, Int.reduceEq, Int.reduceToNat, Int.reduceNeg, Int.reduceAdd, Int.reduceSub, Int.reduceMul, Int.reducePow, reduceIte, decide_true, decide_false, reduceCtorEq]))
              all_goals (first | rfl | (simp; done) | (simp; rfl))
          · have h3 : c.k = 3 := by simpa using h
            rw [if_neg (by simp [h3])] at herr
            rw [herr, if_neg (by decide)] at hrun
            have d3 : decide (c.k = 3) = true := decide_eq_true h3
            (try (simp (config := { maxSteps := 1000000 }) only [push_cast, Nat.reduceBEq, Nat.reduceBNe, Nat.reduceAdd, Nat.reduceSub, Nat.reduceMul, Nat.reduceLT, Nat.reduceLeDiff, Nat.reduceEqDiff, Nat.blt_eq, Int.reduceLT, Int.reduceLE, Int.reduceEq, Int.reduceToNat, Int.reduceNeg, Int.reduceAdd, Int.reduceSub, Int.reduceMul, Int.reducePow, reduceIte, decide_true, decide_false, reduceCtorEq, d3]))
            refine ⟨⟨.inl trivial, by simp only [maxLen]; omega, by omega⟩, ?_⟩
            have hnr : nextR ps rows c = rows.flatMap (stepR ps c) ++ [c.n] := by unfold nextR; rw [if_pos h3]
            have hap2 := hnap (by rw [← err_eq hapr, herr])
            rw [← next_eq] at hap2
            have hnw : ∀ r ∈ nextR ps rows c, r.length = L.length := by
              intro r hr
              rw [hnr] at hr
              rcases List.mem_append.1 hr with hr | hr
              · obtain ⟨x, hx, hr⟩ := List.mem_flatMap.1 hr
                unfold stepR at hr
                split at hr
                · rw [List.mem_singleton.1 hr]; exact hrw x hx
                · split at hr
                  · rename_i h2
                    rw [List.mem_singleton.1 hr]; exact (hrc.n' (by omega)).1
                  · cases hr
              · first | (cases hr; done) | (rw [List.mem_singleton.1 hr]; exact (hrc.n' (by omega)).1)
            ((repeat' (with_reducible refine And.intro ?_ ?_)) <;> try (first | trivial | omega | exact inK64 (by omega) (by omega) | exact inKu8 (by omega) (by omega) | (simp only [maxLen]; omega) | exact .inl trivial | exact .inl rfl))
            refine ⟨(k + 1, nextR ps rows c), ⟨by simp only; omega, hrun, hap2, by simp only [hnr, List.length_append, List.length_cons, List.length_nil]; omega, hnw⟩, by simp only; omega, Le.trans (Le.fz (k := 2) rfl) (Le.st ?_)⟩
            rw [hnr]
            (try (simp (config := { maxSteps := 1000000 }) only [push_cast, Nat.reduceBEq, Nat.reduceBNe, Nat.reduceAdd, Nat.reduceSub, Nat.reduceMul, Nat.reduceLT, Nat.reduceLeDiff, Nat.reduceEqDiff, Nat.blt_eq, Int.reduceLT, Int.reduceLE, Int.reduceEq, Int.reduceToNat, Int.reduceNeg, Int.reduceAdd, Int.reduceSub, Int.reduceMul, Int.reducePow, reduceIte, decide_true, decide_false, reduceCtorEq]))
            all_goals (first | rfl | (simp; done) | (simp; rfl))
      · have hd : decide ((k : Int) < (cs.length : Int)) = false := decide_eq_false (by omega)
        rw [List.drop_eq_nil_of_le (by omega)] at hrun
        simp only [runP] at hrun
        rw [← hrun] at hR
        subst hR
        have hkk : k = cs.length := by omega
        rw [hkk]
        have hd' : decide ((cs.length : Int) < (cs.length : Int)) = false := decide_eq_false (by omega)
        (try (simp (config := { maxSteps := 1000000 }) only [push_cast, Nat.reduceBEq, Nat.reduceBNe, Nat.reduceAdd, Nat.reduceSub, Nat.reduceMul, Nat.reduceLT, Nat.reduceLeDiff, Nat.reduceEqDiff, Nat.blt_eq, Int.reduceLT, Int.reduceLE, Int.reduceEq, Int.reduceToNat, Int.reduceNeg, Int.reduceAdd, Int.reduceSub, Int.reduceMul, Int.reducePow, reduceIte, decide_true, decide_false, reduceCtorEq, hd']))
end Go.LS.Tryd
