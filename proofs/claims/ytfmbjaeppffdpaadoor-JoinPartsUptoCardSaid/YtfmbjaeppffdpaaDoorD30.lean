/- Contracts of the functions of the seat, one by one (part D30); no condition but those that each bears. -/
import Derived.Test.YtfmbjaeppffdpaaDoorD29
namespace Go.LS.Tryd
open Go Go.LS
set_option maxRecDepth 100000
set_option linter.unusedSimpArgs false
set_option linter.unusedVariables false

theorem check_any {a b : List Cl} {on : List Jo} (h : (checkJ a b on 1).2 = 0) {k : Int} (h1 : 1 ≤ k) (h4 : k ≤ 4) : (checkJ a b on k).2 = 0 := by
  unfold checkJ at h ⊢
  by_cases c1 : (checkC a).2 = 0
  · by_cases c2 : (checkC b).2 = 0
    · rw [if_neg (by simp [c1]), if_neg (by simp [c2]), if_neg (by omega)] at h
      rw [if_neg (by simp [c1]), if_neg (by simp [c2]), if_neg (by omega)]
      by_cases c4 : on.length = 0
      · rw [if_pos c4] at h; cases h
      · by_cases c5 : (pairJ a b [] [] on 0).2 = 0
        · rw [if_neg c4, if_neg (by simp [c5])] at h ⊢
          by_cases c6 : clashF a on b = true
          · rw [if_pos ⟨.inl rfl, c6⟩] at h; cases h
          · rw [if_neg (by simp [c6])]
        · rw [if_neg c4, if_pos c5] at h; exact absurd h c5
    · rw [if_neg (by simp [c1]), if_pos c2] at h; exact absurd h c2
  · rw [if_pos c1] at h; exact absurd h c1
def nC : CV := .d (.v (.slice none 0 0))
def tabJ (L M : List Cl) (on : List Jo) (A B : List (List Vl)) (k : Int) : List CV := [.d (.sl 3 ((colsJ L M on k).map eC)), .d (.sl 1 ((rowsJ L M on k A B).map eR))]
def arrJ (L M : List Cl) (on : List Jo) (A B : List (List Vl)) : Nat → List CV
  | 2 => nC :: nC :: tabJ L M on A B 1 ++ [nC, nC, nC, nC, nC, nC]
  | 3 => nC :: nC :: tabJ L M on A B 1 ++ tabJ L M on A B 2 ++ [nC, nC, nC, nC]
  | 4 => nC :: nC :: tabJ L M on A B 1 ++ tabJ L M on A B 2 ++ tabJ L M on A B 3 ++ [nC, nC]
  | 5 => nC :: nC :: tabJ L M on A B 1 ++ tabJ L M on A B 2 ++ tabJ L M on A B 3 ++ tabJ L M on A B 4
  | _ => [nC, nC, nC, nC, nC, nC, nC, nC, nC, nC]
set_option maxHeartbeats 1000000 in
theorem d8 (z : Jc) (hz : okJc z) : Spec V 8 [.ag ((eJc z).map .d)] (b2 true) := by
  have h31 := d31 z hz
  obtain ⟨⟨L, A⟩, ⟨M, B⟩, on, kind⟩ := z
  obtain ⟨ha, hb, ho, hk⟩ := hz
  simp only at ha hb ho hk
  simp only [eJc_eq] at h31
  (refine Spec.of_go (L := fun | 0 => some [1] | 1 => some [1, 15] | 2 => some [2] | 3 => some [1] | 4 => some [1, 20] | 5 => some [2] | 6 => some [1, 3] | 7 => some [1, 3, 4] | 8 => some [1, 3, 4, 23] | 9 => some [1, 3, 4] | 10 => some [1, 3, 4, 5, 6] | 11 => some [1, 3, 4, 5, 38] | 12 => some [2] | 13 => some [1, 3, 4] | 14 => some [1, 71] | 15 => some [2] | 16 => some [1] | 17 => some [1, 7] | 18 => some [1, 7, 9] | 19 => some [1, 7, 9, 11] | 20 => some [2] | _ => none) 1000 Go.Proofs.Tryd.func8 rfl rfl ⟨Nat.le_of_ble_eq_true rfl, rfl⟩ rfl ?_; unfold Go.Proofs.Tryd.f8; push_cast (maxSteps := 1000000))
  refine ⟨_, h31, rfl, ?_⟩
  (try (push_cast (maxSteps := 1000000)))
  cases hf : fitsJ ⟨⟨L, A⟩, ⟨M, B⟩, on, kind⟩ with
  | false =>
    (try (push_cast (maxSteps := 1000000)))
    refine ⟨_, d32, rfl, ?_⟩
    (try (push_cast (maxSteps := 1000000)))
  | true =>
    obtain ⟨f1, f2, f3⟩ := fitsJ_parts hf
    simp only at f1 f2 f3
    have la := fewT_len f1
    have lb := fewT_len f2
    have wa := fewT_widthJ f1
    simp only at la lb wa
    have k1 : inK .i64 1 := inK64 (by omega) (by omega)
    have h39 := d39 ⟨⟨L, A⟩, ⟨M, B⟩, on, 1⟩ ⟨ha, hb, ho, k1⟩ (by simp only; omega)
    have hb0 : okT2 ⟨M, []⟩ := by
      have := hb.right f2
      exact ⟨this.l, by simp [okLen], (fun r hr => by cases hr), (fun r hr => by cases hr)⟩
    have h38 := fun (k : Int) (h1 : 1 ≤ k) (h4 : k ≤ 4) => d38 ⟨L, A⟩ ⟨M, B⟩ on k (ha.right f1) (hb.right f2) (by omega) (inK64 (by omega) (by omega)) (by simp only; omega) (by simp only; omega) (by simp only; omega) (by simp only; omega)
    have h38z := fun (k : Int) (h1 : 1 ≤ k) (h4 : k ≤ 4) => d38 ⟨L, A⟩ ⟨M, []⟩ on k (ha.right f1) hb0 (by omega) (inK64 (by omega) (by omega)) (by simp only; omega) (by simp only; omega) (by simp only; omega) (by simp)
    have hAr : ∀ r ∈ A, okLen r := fun r hr => by have := wa r hr; simp only [okLen]; omega
    have h41 := rowsRefJ A (by simp only [okLen]; omega) hAr
    have h40 := allRowsJ A A (by simp only [okLen]; omega) (by simp only [okLen]; omega) hAr hAr
    rw [allF_self] at h40
    obtain ⟨p1, p2⟩ := joins_parts L M on A B
    obtain ⟨n1, n3, n4⟩ := joins_none L M on A
    simp only [joinC, eT_eq, eJc_eq, wrongJ] at h38 h38z h39
    clear hf h31
    (try (push_cast (maxSteps := 1000000)))
    refine ⟨_, h39, rfl, ?_⟩
    by_cases hw : (checkJ L M on 1).2 = 0 ∧ evenF ⟨L, A⟩ = true ∧ evenF ⟨M, B⟩ = true
    · obtain ⟨hc, hea, heb⟩ := hw
      have hez : evenF ⟨M, []⟩ = true := by simp [evenF]
      rw [if_neg (by simp [hc]), if_neg (by simp [hea, heb])] at h39 ⊢
      have h38 := fun (k : Int) (h1 : 1 ≤ k) (h4 : k ≤ 4) => (by have := h38 k h1 h4; rwa [if_neg (by simp [check_any hc h1 h4]), if_neg (by simp [hea, heb])] at this)
      have h38z := fun (k : Int) (h1 : 1 ≤ k) (h4 : k ≤ 4) => (by have := h38z k h1 h4; rwa [if_neg (by simp [check_any hc h1 h4]), if_neg (by simp [hea, hez])] at this)
      (try (push_cast (maxSteps := 1000000)))
      ((repeat' (with_reducible refine And.intro ?_ ?_)) <;> try (first | trivial | omega | exact inK64 (by omega) (by omega) | exact inKu8 (by omega) (by omega) | (simp only [maxLen]; omega) | exact .inl trivial | exact .inl rfl))
      refine LoopK.ov (α := Nat) [4] (fun k => [i2 .i64 k]) (fun k => [.bx 57 [.d (.sl 3 (L.map eC)), .d (.sl 1 (A.map eR)), .d (.sl 3 (M.map eC)), .d (.sl 1 (B.map eR)), .d (.sl 2 (on.map eJo)), .d (.v (.int .i64 1))], .bx 72 (arrJ L M on A B k)]) (fun k => 1 ≤ k ∧ k ≤ 5) (fun k => 5 - k) 1000 1 ⟨by omega, by omega⟩ (by simp only [arrJ, nC]; (try (push_cast (maxSteps := 1000000)))) ?_
      rintro k ⟨hk1, hk5⟩
      obtain rfl | rfl | rfl | rfl | rfl : k = 1 ∨ k = 2 ∨ k = 3 ∨ k = 4 ∨ k = 5 := by omega
      · have h38n := h38 1 (by omega) (by omega)
        simp only at h38n
        simp only [arrJ, tabJ, nC]
        (try (push_cast (maxSteps := 1000000)))
        refine ⟨_, h38n, rfl, ?_⟩
        (try (push_cast (maxSteps := 1000000)))
        ((repeat' (with_reducible refine And.intro ?_ ?_)) <;> try (first | trivial | omega | exact inK64 (by omega) (by omega) | exact inKu8 (by omega) (by omega) | (simp only [maxLen]; omega) | exact .inl trivial | exact .inl rfl))
        refine ⟨2, ⟨by omega, by omega⟩, by omega, Le.st ?_⟩
        simp only [arrJ, tabJ, nC]
        (try (push_cast (maxSteps := 1000000))); (all_goals first | rfl | skip)
      · have h38n := h38 2 (by omega) (by omega)
        simp only at h38n
        simp only [arrJ, tabJ, nC]
        (try (push_cast (maxSteps := 1000000)))
        refine ⟨_, h38n, rfl, ?_⟩
        (try (push_cast (maxSteps := 1000000)))
        ((repeat' (with_reducible refine And.intro ?_ ?_)) <;> try (first | trivial | omega | exact inK64 (by omega) (by omega) | exact inKu8 (by omega) (by omega) | (simp only [maxLen]; omega) | exact .inl trivial | exact .inl rfl))
        refine ⟨3, ⟨by omega, by omega⟩, by omega, Le.st ?_⟩
        simp only [arrJ, tabJ, nC]
        (try (push_cast (maxSteps := 1000000))); (all_goals first | rfl | skip)
      · have h38n := h38 3 (by omega) (by omega)
        simp only at h38n
        simp only [arrJ, tabJ, nC]
        (try (push_cast (maxSteps := 1000000)))
        refine ⟨_, h38n, rfl, ?_⟩
        (try (push_cast (maxSteps := 1000000)))
        ((repeat' (with_reducible refine And.intro ?_ ?_)) <;> try (first | trivial | omega | exact inK64 (by omega) (by omega) | exact inKu8 (by omega) (by omega) | (simp only [maxLen]; omega) | exact .inl trivial | exact .inl rfl))
        refine ⟨4, ⟨by omega, by omega⟩, by omega, Le.st ?_⟩
        simp only [arrJ, tabJ, nC]
        (try (push_cast (maxSteps := 1000000))); (all_goals first | rfl | skip)
      · have h38n := h38 4 (by omega) (by omega)
        simp only at h38n
        simp only [arrJ, tabJ, nC]
        (try (push_cast (maxSteps := 1000000)))
        refine ⟨_, h38n, rfl, ?_⟩
        (try (push_cast (maxSteps := 1000000)))
        ((repeat' (with_reducible refine And.intro ?_ ?_)) <;> try (first | trivial | omega | exact inK64 (by omega) (by omega) | exact inKu8 (by omega) (by omega) | (simp only [maxLen]; omega) | exact .inl trivial | exact .inl rfl))
        refine ⟨5, ⟨by omega, by omega⟩, by omega, Le.st ?_⟩
        simp only [arrJ, tabJ, nC]
        (try (push_cast (maxSteps := 1000000))); (all_goals first | rfl | skip)
      · have hml : A.length * (B.length + 1) ≤ 12 * 13 := Nat.mul_le_mul (by omega) (by omega)
        have hr2 := rowsJ_len L M on 2 B A
        have q1 : ((rowsJ L M on 3 A B).length : Int) + ((rowsJ L M on 4 A B).length : Int) = (A.length : Int) := by omega
        have q2 : ((rowsJ L M on 1 A B).length : Int) + ((rowsJ L M on 4 A B).length : Int) = ((rowsJ L M on 2 A B).length : Int) := by omega
        have hz1 := h38z 1 (by omega) (by omega)
        have hz3 := h38z 3 (by omega) (by omega)
        have hz4 := h38z 4 (by omega) (by omega)
        simp only [n1, n3, n4] at hz1 hz3 hz4
        simp only [arrJ, tabJ, nC]
        (try (push_cast (maxSteps := 1000000) [q1, q2]))
        ((repeat' (with_reducible refine And.intro ?_ ?_)) <;> try (first | trivial | omega | exact inK64 (by omega) (by omega) | exact inKu8 (by omega) (by omega) | (simp only [maxLen]; omega) | exact .inl trivial | exact .inl rfl))
        all_goals (refine ⟨_, hz1, rfl, ?_⟩)
        all_goals (try (push_cast (maxSteps := 1000000)))
        all_goals (refine ⟨_, hz3, rfl, ?_⟩)
        all_goals (try (push_cast (maxSteps := 1000000)))
        all_goals (refine ⟨_, hz4, rfl, ?_⟩)
        all_goals (try (push_cast (maxSteps := 1000000)))
        all_goals (refine DrawK.of (.take 0 (.take 1 (.take 2 (.take 3 (.take 4 (.take 5 (.take 6 (.take 7 (.take 8 (.take 9 (.take 10 (.take 12 (.take 13 (.take 14 (.one 11 (.one 15 (.one 16 (.take 17 (.take 18 (.one 19 (.take 20 (.take 21 .done)))))))))))))))))))))) 1000 (by decide +kernel) ?_; try (push_cast (maxSteps := 1000000)))
        all_goals ((repeat' (with_reducible refine And.intro ?_ ?_)) <;> try (first | trivial | omega | exact inK64 (by omega) (by omega) | exact inKu8 (by omega) (by omega) | (simp only [maxLen]; omega) | exact .inl trivial | exact .inl rfl))
        all_goals (refine ⟨_, h41, rfl, ?_⟩)
        all_goals (try (push_cast (maxSteps := 1000000)))
        all_goals ((repeat' (with_reducible refine And.intro ?_ ?_)) <;> try (first | trivial | omega | exact inK64 (by omega) (by omega) | exact inKu8 (by omega) (by omega) | (simp only [maxLen]; omega) | exact .inl trivial | exact .inl rfl))
        all_goals (refine ⟨_, h41, rfl, ?_⟩)
        all_goals (try (push_cast (maxSteps := 1000000)))
        all_goals ((repeat' (with_reducible refine And.intro ?_ ?_)) <;> try (first | trivial | omega | exact inK64 (by omega) (by omega) | exact inKu8 (by omega) (by omega) | (simp only [maxLen]; omega) | exact .inl trivial | exact .inl rfl))
        all_goals (refine ⟨_, h40, rfl, ?_⟩)
        all_goals (try (push_cast (maxSteps := 1000000)))
        all_goals ((repeat' (with_reducible refine And.intro ?_ ?_)) <;> try (first | trivial | omega | exact inK64 (by omega) (by omega) | exact inKu8 (by omega) (by omega) | (simp only [maxLen]; omega) | exact .inl trivial | exact .inl rfl))
        all_goals (refine ⟨_, d32, rfl, ?_⟩)
        all_goals (try (push_cast (maxSteps := 1000000)))
    · obtain ⟨w, hw', hw0⟩ : ∃ w : Int, wrongJ ⟨⟨L, A⟩, ⟨M, B⟩, on, 1⟩ = w ∧ w ≠ 0 := by
        refine ⟨_, rfl, ?_⟩
        unfold wrongJ
        by_cases hc : (checkJ L M on 1).2 = 0
        · rw [if_neg (by simp [hc]), if_pos]
          · omega
          · by_cases hea : evenF ⟨L, A⟩ = true
            · exact .inr (Bool.eq_false_iff.2 fun heb => hw ⟨hc, hea, heb⟩)
            · exact .inl (Bool.eq_false_iff.2 hea)
        · rw [if_pos hc]; exact hc
      simp only [wrongJ] at hw'
      rw [hw'] at h39 ⊢
      have hwd : decide (w = 0) = false := decide_eq_false hw0
      (try (push_cast (maxSteps := 1000000) [hw0, hwd]))
      ((repeat' (with_reducible refine And.intro ?_ ?_)) <;> try (first | trivial | omega | exact inK64 (by omega) (by omega) | exact inKu8 (by omega) (by omega) | (simp only [maxLen]; omega) | exact .inl trivial | exact .inl rfl))
      all_goals (refine ⟨_, d32, rfl, ?_⟩)
      all_goals (try (push_cast (maxSteps := 1000000)))
end Go.LS.Tryd
