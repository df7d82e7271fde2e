/- Contracts of the functions of the seat, one by one (part S23); no condition but those that each bears. -/
import Derived.Test.YtfmbjaeppffdpaaSO
import Derived.Test.YtfmbjaeppffdpaaPK
namespace Go.LS.Try
open Go Go.LS
set_option maxRecDepth 100000
set_option linter.unusedSimpArgs false
set_option linter.unusedVariables false

def eJ (n : Nat) : List DV := [.v (.int .i64 n)]
@[push_cast] theorem eJ_eq (n : Nat) : eJ n = [.v (.int .i64 n)] := rfl
set_option maxHeartbeats 2000000 in
theorem f94 (f : Nat → Nat → Int) (fc : FuncId) (cap cap2 : DV) (pre seg post : List Nat) (hf : ∀ x ∈ seg, ∀ y ∈ seg, Spec V fc [i2 .i64 x, i2 .i64 y, .c (.d cap), .c (.d cap2)] (i2 .i64 (f x y))) (hn : okLen (pre ++ seg ++ post)) :
    SpecM V 94 3 1 ((pre ++ seg ++ post).map eJ) [i2 .i64 pre.length, i2 .i64 (pre.length + seg.length), .c (.d (.clo fc [cap, cap2]))] ((pre ++ sortR f 0 [] seg ++ post).map eJ) (.tu []) := by
  have hnl : pre.length + seg.length + post.length ≤ 1099511627776 := by
    have : (pre ++ seg ++ post).length ≤ 1099511627776 := hn
    simpa [Nat.add_assoc] using this
  (refine SpecM.of_go (L := fun | 0 => some [0, 1, 2, 3, 8] | 1 => some [0, 1, 2, 3, 8, 14] | 2 => some [0, 1, 2, 3, 8] | 3 => some [0, 1, 2, 3, 8, 9] | 4 => some [0, 1, 2, 3, 8, 9, 34] | 5 => some [0, 1, 2, 3, 8, 9] | 6 => some [0, 1, 2, 3, 8, 9] | _ => none) 1000 Go.Proofs.Try.func94 rfl rfl ⟨Nat.le_of_ble_eq_true rfl, rfl⟩ rfl (by simp [sortR_len]) (by decide) ?_; intro cp; unfold Go.Proofs.Try.f94; simp (config := { maxSteps := 1000000 }) only [push_cast, Nat.reduceBEq, Nat.reduceBNe, Nat.reduceAdd, Nat.reduceSub, Nat.reduceMul, Nat.reduceLT, Nat.reduceLeDiff, Nat.reduceEqDiff, Nat.blt_eq, Int.reduceLT, Int.reduceLE, Int.reduceEq, Int.reduceToNat, Int.reduceNeg, Int.reduceAdd, Int.reduceSub, Int.reduceMul, Int.reducePow, reduceIte, decide_true, decide_false, reduceCtorEq])
  ((repeat' (with_reducible refine And.intro ?_ ?_)) <;> try (first | trivial | omega | exact inK64 (by omega) (by omega) | exact inKu8 (by omega) (by omega) | (simp only [maxLen]; omega) | exact .inl trivial | exact .inl rfl))
  rcases seg with _ | ⟨r0, rs⟩
  · refine LoopK.s1 (α := Unit) [] (fun _ => []) (fun _ => True) (fun _ => 0) 1000 () trivial (by (try (simp (config := { maxSteps := 1000000 }) only [push_cast, Nat.reduceBEq, Nat.reduceBNe, Nat.reduceAdd, Nat.reduceSub, Nat.reduceMul, Nat.reduceLT, Nat.reduceLeDiff, Nat.reduceEqDiff, Nat.blt_eq, Int.reduceLT, Int.reduceLE, Int.reduceEq, Int.reduceToNat, Int.reduceNeg, Int.reduceAdd, Int.reduceSub, Int.reduceMul, Int.reducePow, reduceIte, decide_true, decide_false, reduceCtorEq]))) ?_
    rintro _ _
    have hd : decide (((pre.length : Int) + 1) < (pre.length : Int)) = false := decide_eq_false (by omega)
    simp only [List.length_nil, Int.natCast_zero, Int.add_zero]
    (try (simp (config := { maxSteps := 1000000 }) only [push_cast, Nat.reduceBEq, Nat.reduceBNe, Nat.reduceAdd, Nat.reduceSub, Nat.reduceMul, Nat.reduceLT, Nat.reduceLeDiff, Nat.reduceEqDiff, Nat.blt_eq, Int.reduceLT, Int.reduceLE, Int.reduceEq, Int.reduceToNat, Int.reduceNeg, Int.reduceAdd, Int.reduceSub, Int.reduceMul, Int.reducePow, reduceIte, decide_true, decide_false, reduceCtorEq, hd]))
    all_goals simp [sortR]
  · refine LoopK.ov (α := Nat × List Nat) [8] (fun p => [i2 .i64 (pre.length + p.1)]) (fun p => [.rw (pinT cp 3) 1 ((pre ++ (p.2 ++ ((r0 :: rs).drop p.1 ++ post))).map eJ)]) (fun p => 1 ≤ p.1 ∧ p.1 ≤ (r0 :: rs).length ∧ p.2.length = p.1 ∧ sortR f 0 p.2 ((r0 :: rs).drop p.1) = sortR f 0 [] (r0 :: rs) ∧ ∀ x ∈ p.2, x ∈ r0 :: rs) (fun p => (r0 :: rs).length - p.1) 1000 (1, [r0]) ⟨by simp, by simp, rfl, rfl, by simp⟩ (by (try (simp (config := { maxSteps := 1000000 }) only [push_cast, Nat.reduceBEq, Nat.reduceBNe, Nat.reduceAdd, Nat.reduceSub, Nat.reduceMul, Nat.reduceLT, Nat.reduceLeDiff, Nat.reduceEqDiff, Nat.blt_eq, Int.reduceLT, Int.reduceLE, Int.reduceEq, Int.reduceToNat, Int.reduceNeg, Int.reduceAdd, Int.reduceSub, Int.reduceMul, Int.reducePow, reduceIte, decide_true, decide_false, reduceCtorEq])) <;> first | rfl | simp) ?_
    generalize r0 :: rs = seg at *
    rintro ⟨k, cur⟩ ⟨hk1, hk2, hc, hs, hm⟩
    simp only at hk1 hk2 hc hs hm
    subst hc
    by_cases hlt : cur.length < seg.length
    · have hv := List.getElem?_eq_getElem hlt
      have hd : decide ((pre.length : Int) + (cur.length : Int) < (pre.length : Int) + (seg.length : Int)) = true := decide_eq_true (by omega)
      rw [drop_cons hv] at hs ⊢
      rw [sortR] at hs
      have hrm := List.getElem_mem hlt
      generalize seg[cur.length] = r at *
      (try (simp (config := { maxSteps := 1000000 }) only [push_cast, Nat.reduceBEq, Nat.reduceBNe, Nat.reduceAdd, Nat.reduceSub, Nat.reduceMul, Nat.reduceLT, Nat.reduceLeDiff, Nat.reduceEqDiff, Nat.blt_eq, Int.reduceLT, Int.reduceLE, Int.reduceEq, Int.reduceToNat, Int.reduceNeg, Int.reduceAdd, Int.reduceSub, Int.reduceMul, Int.reducePow, reduceIte, decide_true, decide_false, reduceCtorEq, hd]))
      ((repeat' (with_reducible refine And.intro ?_ ?_)) <;> try (first | trivial | omega | exact inK64 (by omega) (by omega) | exact inKu8 (by omega) (by omega) | (simp only [maxLen]; omega) | exact .inl trivial | exact .inl rfl))
      refine LoopK.ov (α := Nat) [9] (fun m => [i2 .i64 (pre.length + m)]) (fun m => [.rw (pinT cp 3) 1 ((pre ++ (wayL cur r m ++ (seg.drop (cur.length + 1) ++ post))).map eJ)]) (fun m => m ≤ cur.length ∧ posR f 0 r cur m = posR f 0 r cur cur.length) (fun m => m) 1000 cur.length ⟨by omega, rfl⟩ (by (try (simp (config := { maxSteps := 1000000 }) only [push_cast, Nat.reduceBEq, Nat.reduceBNe, Nat.reduceAdd, Nat.reduceSub, Nat.reduceMul, Nat.reduceLT, Nat.reduceLeDiff, Nat.reduceEqDiff, Nat.blt_eq, Int.reduceLT, Int.reduceLE, Int.reduceEq, Int.reduceToNat, Int.reduceNeg, Int.reduceAdd, Int.reduceSub, Int.reduceMul, Int.reducePow, reduceIte, decide_true, decide_false, reduceCtorEq])) <;> first | rfl | simp [wayL] | skip) ?_
      rintro m ⟨hm1, hm2⟩
      rcases m with _ | m
      · have hd0 : decide ((pre.length : Int) < (pre.length : Int) + 0) = false := decide_eq_false (by omega)
        have e : wayL cur r 0 = insR f 0 r cur := by
          have : posR f 0 r cur cur.length = 0 := by rw [← hm2]; rfl
          simp only [insR, this, wayL]
        rw [e]
        have hil : (insR f 0 r cur).length = cur.length + 1 := insR_len _ _ _ _
        (refine DrawK.of (.take 0 (.take 1 (.take 2 (.take 3 (.take 4 (.take 5 (.take 6 (.take 7 (.take 8 (.take 9 (.take 10 (.take 11 (.take 12 (.take 13 (.one 14 (.take 15 (.take 16 .done))))))))))))))))) 1000 (by decide +kernel) ?_; try (simp (config := { maxSteps := 1000000 }) only [push_cast, Nat.reduceBEq, Nat.reduceBNe, Nat.reduceAdd, Nat.reduceSub, Nat.reduceMul, Nat.reduceLT, Nat.reduceLeDiff, Nat.reduceEqDiff, Nat.blt_eq, Int.reduceLT, Int.reduceLE, Int.reduceEq, Int.reduceToNat, Int.reduceNeg, Int.reduceAdd, Int.reduceSub, Int.reduceMul, Int.reducePow, reduceIte, decide_true, decide_false, reduceCtorEq]))
        (try (simp (config := { maxSteps := 1000000 }) only [push_cast, Nat.reduceBEq, Nat.reduceBNe, Nat.reduceAdd, Nat.reduceSub, Nat.reduceMul, Nat.reduceLT, Nat.reduceLeDiff, Nat.reduceEqDiff, Nat.blt_eq, Int.reduceLT, Int.reduceLE, Int.reduceEq, Int.reduceToNat, Int.reduceNeg, Int.reduceAdd, Int.reduceSub, Int.reduceMul, Int.reducePow, reduceIte, decide_true, decide_false, reduceCtorEq, hd0]))
        ((repeat' (with_reducible refine And.intro ?_ ?_)) <;> try (first | trivial | omega | exact inK64 (by omega) (by omega) | exact inKu8 (by omega) (by omega) | (simp only [maxLen]; omega) | exact .inl trivial | exact .inl rfl))
        refine ⟨(cur.length + 1, insR f 0 r cur), ⟨by simp, by simp only; omega, hil, hs, fun y hy => ?_⟩, by simp only; omega, Le.st ?_⟩
        · rcases (insR_mem f 0 r cur y).1 hy with rfl | hy
          · exact hrm
          · exact hm y hy
        · (try (simp (config := { maxSteps := 1000000 }) only [push_cast, Nat.reduceBEq, Nat.reduceBNe, Nat.reduceAdd, Nat.reduceSub, Nat.reduceMul, Nat.reduceLT, Nat.reduceLeDiff, Nat.reduceEqDiff, Nat.blt_eq, Int.reduceLT, Int.reduceLE, Int.reduceEq, Int.reduceToNat, Int.reduceNeg, Int.reduceAdd, Int.reduceSub, Int.reduceMul, Int.reducePow, reduceIte, decide_true, decide_false, reduceCtorEq]))
          ((repeat' (with_reducible refine And.intro ?_ ?_)) <;> try (first | trivial | omega | exact inK64 (by omega) (by omega) | exact inKu8 (by omega) (by omega) | (simp only [maxLen]; omega) | exact .inl trivial | exact .inl rfl))
      · have hm0 : m < cur.length := by omega
        have hx := List.getElem?_eq_getElem hm0
        have hxm := List.getElem_mem hm0
        have hd0 : decide ((pre.length : Int) < (pre.length : Int) + ((m : Int) + 1)) = true := decide_eq_true (by omega)
        have hS := hf r hrm cur[m] (hm _ hxm)
        have hg : cur.getD m 0 = cur[m] := by simp [List.getD_eq_getElem?_getD, hx]
        simp only [posR, hg] at hm2
        have hstep := wayL_step (r := r) hx
        have hw1 := wayL_at (r := r) hm1
        have hw0 := wayL_pre (r := r) hm1
        have hwl := wayL_len cur r (m + 1) hm1
        have hwl0 := wayL_len cur r m (by omega)
        rw [hx] at hw0
        generalize cur[m] = x at *
        generalize hrest : seg.drop (cur.length + 1) ++ post = rest at *
        have hT1 : ((pre.length : Int) + ((m : Int) + 1)).toNat = pre.length + m + 1 := by omega
        have hT0 : ((pre.length : Int) + ((m : Int) + 1) - 1).toNat = pre.length + m := by omega
        obtain ⟨D, hD⟩ : ∃ D, D = pre ++ (wayL cur r (m + 1) ++ rest) := ⟨_, rfl⟩
        have hDl : D.length = pre.length + (cur.length + 1) + rest.length := by rw [hD]; simp [hwl]; omega
        have hD1 : D[pre.length + m + 1]? = some r := by
          rw [hD, Nat.add_assoc, List.getElem?_append_right (by omega), List.getElem?_append_left (by omega), ← hw1]
          congr 1; omega
        have hD0 : D[pre.length + m]? = some x := by
          rw [hD, List.getElem?_append_right (by omega), List.getElem?_append_left (by omega), ← hw0]
          congr 1; omega
        have hDs : (D.set (pre.length + m + 1) x).set (pre.length + m) r = pre ++ (wayL cur r m ++ rest) := by
          rw [hD, ← hstep, Nat.add_assoc, List.set_append_right _ _ (by omega), List.set_append_right _ _ (by omega), List.set_append_left _ _ (by omega), List.set_append_left _ _ (by simp; omega)]
          congr 4 <;> omega
        have hgd : ((D.map eJ).set (pre.length + m + 1) [.v (.int .i64 x)]).getD (pre.length + m) [] = [.v (.int .i64 x)] := by
          rw [List.getD_eq_getElem?_getD, List.getElem?_set_ne (by omega), List.getElem?_map, hD0]; rfl
        have hset : ((D.map eJ).set (pre.length + m + 1) [.v (.int .i64 x)]).set (pre.length + m) [.v (.int .i64 r)] = (pre ++ (wayL cur r m ++ rest)).map eJ := by
          rw [← hDs, List.map_set, List.map_set]; rfl
        rw [← hD]
        (refine DrawK.of (.take 0 (.take 1 (.take 2 (.take 3 (.take 4 (.take 5 (.take 6 (.take 7 (.take 8 (.take 9 (.take 10 (.take 11 (.take 12 (.take 13 (.one 14 (.take 15 (.take 16 .done))))))))))))))))) 1000 (by decide +kernel) ?_; try (simp (config := { maxSteps := 1000000 }) only [push_cast, Nat.reduceBEq, Nat.reduceBNe, Nat.reduceAdd, Nat.reduceSub, Nat.reduceMul, Nat.reduceLT, Nat.reduceLeDiff, Nat.reduceEqDiff, Nat.blt_eq, Int.reduceLT, Int.reduceLE, Int.reduceEq, Int.reduceToNat, Int.reduceNeg, Int.reduceAdd, Int.reduceSub, Int.reduceMul, Int.reducePow, reduceIte, decide_true, decide_false, reduceCtorEq]))
        (try (simp (config := { maxSteps := 1000000 }) only [push_cast, Nat.reduceBEq, Nat.reduceBNe, Nat.reduceAdd, Nat.reduceSub, Nat.reduceMul, Nat.reduceLT, Nat.reduceLeDiff, Nat.reduceEqDiff, Nat.blt_eq, Int.reduceLT, Int.reduceLE, Int.reduceEq, Int.reduceToNat, Int.reduceNeg, Int.reduceAdd, Int.reduceSub, Int.reduceMul, Int.reducePow, reduceIte, decide_true, decide_false, reduceCtorEq, hd0]))
        ((repeat' (with_reducible refine And.intro ?_ ?_)) <;> try (first | trivial | omega | exact inK64 (by omega) (by omega) | exact inKu8 (by omega) (by omega) | (simp only [maxLen]; omega) | exact .inl trivial | exact .inl rfl))
        (try (simp (config := { maxSteps := 1000000 }) only [push_cast, Nat.reduceBEq, Nat.reduceBNe, Nat.reduceAdd, Nat.reduceSub, Nat.reduceMul, Nat.reduceLT, Nat.reduceLeDiff, Nat.reduceEqDiff, Nat.blt_eq, Int.reduceLT, Int.reduceLE, Int.reduceEq, Int.reduceToNat, Int.reduceNeg, Int.reduceAdd, Int.reduceSub, Int.reduceMul, Int.reducePow, reduceIte, decide_true, decide_false, reduceCtorEq, hT1, hT0, getD_map hD1, getD_map hD0]))
        ((repeat' (with_reducible refine And.intro ?_ ?_)) <;> try (first | trivial | omega | exact inK64 (by omega) (by omega) | exact inKu8 (by omega) (by omega) | (simp only [maxLen]; omega) | exact .inl trivial | exact .inl rfl))
        refine ⟨_, hS, rfl, ?_⟩
        (try (simp (config := { maxSteps := 1000000 }) only [push_cast, Nat.reduceBEq, Nat.reduceBNe, Nat.reduceAdd, Nat.reduceSub, Nat.reduceMul, Nat.reduceLT, Nat.reduceLeDiff, Nat.reduceEqDiff, Nat.blt_eq, Int.reduceLT, Int.reduceLE, Int.reduceEq, Int.reduceToNat, Int.reduceNeg, Int.reduceAdd, Int.reduceSub, Int.reduceMul, Int.reducePow, reduceIte, decide_true, decide_false, reduceCtorEq]))
        refine BrP.mk (fun h => ?_) (fun h => ?_) <;> try (simp (config := { maxSteps := 1000000 }) only [push_cast, Nat.reduceBEq, Nat.reduceBNe, Nat.reduceAdd, Nat.reduceSub, Nat.reduceMul, Nat.reduceLT, Nat.reduceLeDiff, Nat.reduceEqDiff, Nat.blt_eq, Int.reduceLT, Int.reduceLE, Int.reduceEq, Int.reduceToNat, Int.reduceNeg, Int.reduceAdd, Int.reduceSub, Int.reduceMul, Int.reducePow, reduceIte, decide_true, decide_false, reduceCtorEq, h])
        · have hlt0 : f r x < 0 := by simpa using h
          rw [if_pos hlt0] at hm2
          (refine DrawK.of (.take 0 (.take 1 (.take 5 (.take 6 (.take 7 (.take 8 (.take 9 (.take 10 (.take 11 (.take 12 (.take 13 (.take 14 (.three 2 (.two 3 (.two 4 (.one 15 (.one 16 (.one 17 .done))) 15 (.one 4 (.one 16 (.one 17 .done)))) 15 (.one 3 (.one 4 (.one 16 (.one 17 .done))))) 3 (.three 2 (.two 4 (.one 15 (.one 16 (.one 17 .done))) 15 (.one 4 (.one 16 (.one 17 .done)))) 4 (.two 2 (.one 15 (.one 16 (.one 17 .done))) 15 (.one 2 (.one 16 (.one 17 .done)))) 15 (.two 2 (.one 4 (.one 16 (.one 17 .done))) 4 (.one 2 (.one 16 (.one 17 .done))))) 15 (.two 2 (.one 3 (.one 4 (.one 16 (.one 17 .done)))) 3 (.two 2 (.one 4 (.one 16 (.one 17 .done))) 4 (.one 2 (.one 16 (.one 17 .done)))))))))))))))))) 1000 (by decide +kernel) ?_; try (simp (config := { maxSteps := 1000000 }) only [push_cast, Nat.reduceBEq, Nat.reduceBNe, Nat.reduceAdd, Nat.reduceSub, Nat.reduceMul, Nat.reduceLT, Nat.reduceLeDiff, Nat.reduceEqDiff, Nat.blt_eq, Int.reduceLT, Int.reduceLE, Int.reduceEq, Int.reduceToNat, Int.reduceNeg, Int.reduceAdd, Int.reduceSub, Int.reduceMul, Int.reducePow, reduceIte, decide_true, decide_false, reduceCtorEq]))
          ((repeat' (with_reducible refine And.intro ?_ ?_)) <;> try (first | trivial | omega | exact inK64 (by omega) (by omega) | exact inKu8 (by omega) (by omega) | (simp only [maxLen]; omega) | exact .inl trivial | exact .inl rfl))
          (try (simp (config := { maxSteps := 1000000 }) only [push_cast, Nat.reduceBEq, Nat.reduceBNe, Nat.reduceAdd, Nat.reduceSub, Nat.reduceMul, Nat.reduceLT, Nat.reduceLeDiff, Nat.reduceEqDiff, Nat.blt_eq, Int.reduceLT, Int.reduceLE, Int.reduceEq, Int.reduceToNat, Int.reduceNeg, Int.reduceAdd, Int.reduceSub, Int.reduceMul, Int.reducePow, reduceIte, decide_true, decide_false, reduceCtorEq, hT1, hT0, getD_map hD1, getD_map hD0]))
          ((repeat' (with_reducible refine And.intro ?_ ?_)) <;> try (first | trivial | omega | exact inK64 (by omega) (by omega) | exact inKu8 (by omega) (by omega) | (simp only [maxLen]; omega) | exact .inl trivial | exact .inl rfl))
          all_goals (try simp only [List.length_set, List.length_map])
          all_goals (try (simp (config := { maxSteps := 1000000 }) only [push_cast, Nat.reduceBEq, Nat.reduceBNe, Nat.reduceAdd, Nat.reduceSub, Nat.reduceMul, Nat.reduceLT, Nat.reduceLeDiff, Nat.reduceEqDiff, Nat.blt_eq, Int.reduceLT, Int.reduceLE, Int.reduceEq, Int.reduceToNat, Int.reduceNeg, Int.reduceAdd, Int.reduceSub, Int.reduceMul, Int.reducePow, reduceIte, decide_true, decide_false, reduceCtorEq, hT1, hT0, hgd, hset]))
          all_goals ((repeat' (with_reducible refine And.intro ?_ ?_)) <;> try (first | trivial | omega | exact inK64 (by omega) (by omega) | exact inKu8 (by omega) (by omega) | (simp only [maxLen]; omega) | exact .inl trivial | exact .inl rfl))
          all_goals first | omega | (refine ⟨m, ⟨by omega, hm2⟩, by omega, Le.st ?_⟩; (try (simp (config := { maxSteps := 1000000 }) only [push_cast, Nat.reduceBEq, Nat.reduceBNe, Nat.reduceAdd, Nat.reduceSub, Nat.reduceMul, Nat.reduceLT, Nat.reduceLeDiff, Nat.reduceEqDiff, Nat.blt_eq, Int.reduceLT, Int.reduceLE, Int.reduceEq, Int.reduceToNat, Int.reduceNeg, Int.reduceAdd, Int.reduceSub, Int.reduceMul, Int.reducePow, reduceIte, decide_true, decide_false, reduceCtorEq])); ((repeat' (with_reducible refine And.intro ?_ ?_)) <;> try (first | trivial | omega | exact inK64 (by omega) (by omega) | exact inKu8 (by omega) (by omega) | (simp only [maxLen]; omega) | exact .inl trivial | exact .inl rfl)))
        · have hlt0 : ¬ f r x < 0 := by simpa using h
          rw [if_neg hlt0] at hm2
          have e : wayL cur r (m + 1) = insR f 0 r cur := by
            simp only [insR, ← hm2, wayL]
          have hil : (insR f 0 r cur).length = cur.length + 1 := insR_len _ _ _ _
          rw [e] at hD
          ((repeat' (with_reducible refine And.intro ?_ ?_)) <;> try (first | trivial | omega | exact inK64 (by omega) (by omega) | exact inKu8 (by omega) (by omega) | (simp only [maxLen]; omega) | exact .inl trivial | exact .inl rfl))
          refine ⟨(cur.length + 1, insR f 0 r cur), ⟨by simp, by simp only; omega, hil, hs, fun y hy => ?_⟩, by simp only; omega, Le.st ?_⟩
          · rcases (insR_mem f 0 r cur y).1 hy with rfl | hy
            · exact hrm
            · exact hm y hy
          · simp only [hrest, ← hD]
            (try (simp (config := { maxSteps := 1000000 }) only [push_cast, Nat.reduceBEq, Nat.reduceBNe, Nat.reduceAdd, Nat.reduceSub, Nat.reduceMul, Nat.reduceLT, Nat.reduceLeDiff, Nat.reduceEqDiff, Nat.blt_eq, Int.reduceLT, Int.reduceLE, Int.reduceEq, Int.reduceToNat, Int.reduceNeg, Int.reduceAdd, Int.reduceSub, Int.reduceMul, Int.reducePow, reduceIte, decide_true, decide_false, reduceCtorEq]))
            ((repeat' (with_reducible refine And.intro ?_ ?_)) <;> try (first | trivial | omega | exact inK64 (by omega) (by omega) | exact inKu8 (by omega) (by omega) | (simp only [maxLen]; omega) | exact .inl trivial | exact .inl rfl))
    · have hd : decide ((pre.length : Int) + (cur.length : Int) < (pre.length : Int) + (seg.length : Int)) = false := decide_eq_false (by omega)
      rw [List.drop_eq_nil_of_le (by omega)] at hs ⊢
      (try (simp (config := { maxSteps := 1000000 }) only [push_cast, Nat.reduceBEq, Nat.reduceBNe, Nat.reduceAdd, Nat.reduceSub, Nat.reduceMul, Nat.reduceLT, Nat.reduceLeDiff, Nat.reduceEqDiff, Nat.blt_eq, Int.reduceLT, Int.reduceLE, Int.reduceEq, Int.reduceToNat, Int.reduceNeg, Int.reduceAdd, Int.reduceSub, Int.reduceMul, Int.reducePow, reduceIte, decide_true, decide_false, reduceCtorEq, hd]))
      rw [← hs]
      simp [sortR]
theorem f81 (f : Nat → Nat → Int) (fc : FuncId) (cap cap2 : DV) (rows : List Nat) (hf : ∀ x ∈ rows, ∀ y ∈ rows, Spec V fc [i2 .i64 x, i2 .i64 y, .c (.d cap), .c (.d cap2)] (i2 .i64 (f x y))) (hn : rows.length < 20) :
    SpecM V 81 3 1 (rows.map eJ) [i2 .i64 rows.length, .c (.d (.clo fc [cap, cap2]))] ((sortR f 0 [] rows).map eJ) (.tu []) := by
  have hS : SpecM V 94 3 1 (rows.map eJ) [i2 .i64 0, i2 .i64 rows.length, .c (.d (.clo fc [cap, cap2]))] ((sortR f 0 [] rows).map eJ) (.tu []) := by
    have := f94 f fc cap cap2 [] rows [] hf (by simp only [okLen]; simp; omega)
    simpa using this
  (refine SpecM.of_go (L := fun | 0 => some [0, 1, 2, 6] | 1 => some [0, 1, 2, 6, 7, 8] | 2 => some [0, 1, 2, 6, 7, 8, 13] | 3 => some [0, 1, 2, 6, 8] | 4 => some [0, 1, 2, 6, 7, 8] | 5 => some [0, 1, 2, 6, 7, 8] | 6 => some [0, 1, 2, 6] | 7 => some [0, 1, 2, 6, 30] | 8 => some [0, 1, 2, 6, 7, 8] | 9 => some [0, 1, 2, 6, 7, 8, 35] | 10 => some [0, 1, 2, 6, 8] | 11 => some [0, 1, 2, 6, 7, 8] | 12 => some [0, 1, 2, 6, 7, 8] | 13 => some [0, 1, 2, 6, 7, 9] | 14 => some [0, 1, 2, 6, 7, 9, 54] | 15 => some [0, 1, 2, 6] | 16 => some [0, 1, 2, 6] | _ => none) 1000 Go.Proofs.Try.func81 rfl rfl ⟨Nat.le_of_ble_eq_true rfl, rfl⟩ rfl (by simp [sortR_len]) (by decide) ?_; intro cp; unfold Go.Proofs.Try.f81; simp (config := { maxSteps := 1000000 }) only [push_cast, Nat.reduceBEq, Nat.reduceBNe, Nat.reduceAdd, Nat.reduceSub, Nat.reduceMul, Nat.reduceLT, Nat.reduceLeDiff, Nat.reduceEqDiff, Nat.blt_eq, Int.reduceLT, Int.reduceLE, Int.reduceEq, Int.reduceToNat, Int.reduceNeg, Int.reduceAdd, Int.reduceSub, Int.reduceMul, Int.reducePow, reduceIte, decide_true, decide_false, reduceCtorEq])
  ((repeat' (with_reducible refine And.intro ?_ ?_)) <;> try (first | trivial | omega | exact inK64 (by omega) (by omega) | exact inKu8 (by omega) (by omega) | (simp only [maxLen]; omega) | exact .inl trivial | exact .inl rfl))
  have hd : decide ((20 : Int) ≤ (rows.length : Int)) = false := decide_eq_false (by omega)
  have hd2 : decide ((20 : Int) < (rows.length : Int)) = false := decide_eq_false (by omega)
  refine LoopK.ov (α := Unit) [] (fun _ => []) (fun _ => [.rw (pinT cp 3) 1 (rows.map eJ)]) (fun _ => True) (fun _ => 0) 1000 () trivial (by (try (simp (config := { maxSteps := 1000000 }) only [push_cast, Nat.reduceBEq, Nat.reduceBNe, Nat.reduceAdd, Nat.reduceSub, Nat.reduceMul, Nat.reduceLT, Nat.reduceLeDiff, Nat.reduceEqDiff, Nat.blt_eq, Int.reduceLT, Int.reduceLE, Int.reduceEq, Int.reduceToNat, Int.reduceNeg, Int.reduceAdd, Int.reduceSub, Int.reduceMul, Int.reducePow, reduceIte, decide_true, decide_false, reduceCtorEq]))) ?_
  rintro _ _
  (try (simp (config := { maxSteps := 1000000 }) only [push_cast, Nat.reduceBEq, Nat.reduceBNe, Nat.reduceAdd, Nat.reduceSub, Nat.reduceMul, Nat.reduceLT, Nat.reduceLeDiff, Nat.reduceEqDiff, Nat.blt_eq, Int.reduceLT, Int.reduceLE, Int.reduceEq, Int.reduceToNat, Int.reduceNeg, Int.reduceAdd, Int.reduceSub, Int.reduceMul, Int.reducePow, reduceIte, decide_true, decide_false, reduceCtorEq, hd]))
  refine ⟨_, _, by rw [show pinT cp 3 % 1000000 = 3 from tyOf_pinT cp 3]; exact hS, ?_⟩
  (try (simp (config := { maxSteps := 1000000 }) only [push_cast, Nat.reduceBEq, Nat.reduceBNe, Nat.reduceAdd, Nat.reduceSub, Nat.reduceMul, Nat.reduceLT, Nat.reduceLeDiff, Nat.reduceEqDiff, Nat.blt_eq, Int.reduceLT, Int.reduceLE, Int.reduceEq, Int.reduceToNat, Int.reduceNeg, Int.reduceAdd, Int.reduceSub, Int.reduceMul, Int.reducePow, reduceIte, decide_true, decide_false, reduceCtorEq]))
  refine LoopK.ov (α := Unit) [] (fun _ => []) (fun _ => [.rw (pinT cp 3) 1 ((sortR f 0 [] rows).map eJ)]) (fun _ => True) (fun _ => 0) 1000 () trivial (by (try (simp (config := { maxSteps := 1000000 }) only [push_cast, Nat.reduceBEq, Nat.reduceBNe, Nat.reduceAdd, Nat.reduceSub, Nat.reduceMul, Nat.reduceLT, Nat.reduceLeDiff, Nat.reduceEqDiff, Nat.blt_eq, Int.reduceLT, Int.reduceLE, Int.reduceEq, Int.reduceToNat, Int.reduceNeg, Int.reduceAdd, Int.reduceSub, Int.reduceMul, Int.reducePow, reduceIte, decide_true, decide_false, reduceCtorEq]))) ?_
  rintro _ _
  (try (simp (config := { maxSteps := 1000000 }) only [push_cast, Nat.reduceBEq, Nat.reduceBNe, Nat.reduceAdd, Nat.reduceSub, Nat.reduceMul, Nat.reduceLT, Nat.reduceLeDiff, Nat.reduceEqDiff, Nat.blt_eq, Int.reduceLT, Int.reduceLE, Int.reduceEq, Int.reduceToNat, Int.reduceNeg, Int.reduceAdd, Int.reduceSub, Int.reduceMul, Int.reducePow, reduceIte, decide_true, decide_false, reduceCtorEq, hd2]))
theorem f68 (f : Nat → Nat → Int) (fc : FuncId) (cap cap2 : DV) (rows : List Nat) (hf : ∀ x ∈ rows, ∀ y ∈ rows, Spec V fc [i2 .i64 x, i2 .i64 y, .c (.d cap), .c (.d cap2)] (i2 .i64 (f x y))) (hn : rows.length < 20) :
    SpecM V 68 3 1 (rows.map eJ) [.c (.d (.clo fc [cap, cap2]))] ((sortR f 0 [] rows).map eJ) (.tu []) := by
  have hS := f81 f fc cap cap2 rows hf hn
  (refine SpecM.of_go (L := fun | 0 => some [] | _ => none) 1000 Go.Proofs.Try.func68 rfl rfl ⟨Nat.le_of_ble_eq_true rfl, rfl⟩ rfl (by simp [sortR_len]) (by decide) ?_; intro cp; unfold Go.Proofs.Try.f68; simp (config := { maxSteps := 1000000 }) only [push_cast, Nat.reduceBEq, Nat.reduceBNe, Nat.reduceAdd, Nat.reduceSub, Nat.reduceMul, Nat.reduceLT, Nat.reduceLeDiff, Nat.reduceEqDiff, Nat.blt_eq, Int.reduceLT, Int.reduceLE, Int.reduceEq, Int.reduceToNat, Int.reduceNeg, Int.reduceAdd, Int.reduceSub, Int.reduceMul, Int.reducePow, reduceIte, decide_true, decide_false, reduceCtorEq])
  refine ⟨_, _, by rw [show pinT cp 3 % 1000000 = 3 from tyOf_pinT cp 3]; exact hS, rfl⟩
end Go.LS.Try
