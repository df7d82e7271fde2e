/- Contracts of the functions of the seat, one by one (part D29); no condition but those that each bears. -/
import Derived.Test.YtfmbjaeppffdpaaDoorD28
import Derived.Test.YtfmbjaeppffdpaaDoorSA
namespace Go.LS.Tryd
open Go Go.LS
set_option maxRecDepth 100000
set_option linter.unusedSimpArgs false
set_option linter.unusedVariables false

theorem allRowsJ (l m : List (List Vl)) (hl : okLen l) (hm : okLen m) (hr : ∀ r ∈ l, okLen r) (hr' : ∀ r ∈ m, okLen r) : Spec V 40 [.c (.d (.sl 1 (l.map eRR))), .c (.d (.sl 1 (m.map eRR)))] (b2 (allF l m)) := f26 l m hl hm hr hr'
theorem rowsRefJ (l : List (List Vl)) (hl : okLen l) (hr : ∀ r ∈ l, okLen r) : Spec V 41 [.c (.d (.sl 1 (l.map eR)))] (.c (.d (.sl 1 (l.map eRR)))) := f27 l hl hr
set_option maxHeartbeats 1000000 in
theorem d39 (z : Jc) (hz : okJc z) (hol : z.On.length ≤ 1000) : Spec V 39 [.ag ((eJc z).map .d)] (i2 .i64 (wrongJ z)) := by
  obtain ⟨⟨L, A⟩, ⟨M, B⟩, on, kind⟩ := z
  obtain ⟨ha, hb, ho, hk⟩ := hz
  simp only at ha hb ho hk hol
  have h34 := d34 L M on kind ha.l hb.l (by omega) hk
  have h23a := f18 L ha.l.1
  have h23b := f18 M hb.l.1
  have h35 := d35 on (by omega)
  have hAl : A.length ≤ 1099511627776 := ha.r
  have hBl : B.length ≤ 1099511627776 := hb.r
  obtain ⟨R, hR⟩ : ∃ R, R = wrongJ ⟨⟨L, A⟩, ⟨M, B⟩, on, kind⟩ := ⟨_, rfl⟩
  rw [← hR]
  simp only [wrongJ] at hR
  (refine Spec.of_go (L := fun | 0 => some [1] | 1 => some [1, 4] | 2 => some [1, 4, 27] | 3 => some [2] | 4 => some [33, 34, 35] | 5 => some [33, 34, 35, 36] | 6 => some [6, 33, 34, 35] | 7 => some [6, 33, 34, 35, 40, 41, 42] | 8 => some [6, 33, 34, 35, 40, 41, 42, 43] | 9 => some [6, 8, 33, 34, 35, 40, 41, 42] | 10 => some [6, 33, 34, 35, 40, 41, 42, 51] | 11 => some [2] | 12 => some [6, 33, 34, 35, 40, 41, 42] | 13 => some [33, 34, 35] | 14 => some [2] | _ => none) 1000 Go.Proofs.Tryd.func39 rfl rfl ⟨Nat.le_of_ble_eq_true rfl, rfl⟩ rfl ?_; unfold Go.Proofs.Tryd.f39; push_cast (maxSteps := 1000000))
  (refine DrawK.of (.take 0 (.take 1 (.take 2 (.take 4 (.take 5 (.take 6 (.take 8 (.take 9 (.take 11 (.take 12 (.one 3 (.one 7 (.one 10 (.one 13 (.take 14 (.take 15 (.take 16 (.take 17 (.take 18 .done))))))))))))))))))) 1000 (by decide +kernel) ?_; try (push_cast (maxSteps := 1000000)))
  ((repeat' (with_reducible refine And.intro ?_ ?_)) <;> try (first | trivial | omega | exact inK64 (by omega) (by omega) | exact inKu8 (by omega) (by omega) | (simp only [maxLen]; omega) | exact .inl trivial | exact .inl rfl))
  all_goals (refine ⟨_, h23a, rfl, ?_⟩)
  all_goals (try (push_cast (maxSteps := 1000000)))
  all_goals ((repeat' (with_reducible refine And.intro ?_ ?_)) <;> try (first | trivial | omega | exact inK64 (by omega) (by omega) | exact inKu8 (by omega) (by omega) | (simp only [maxLen]; omega) | exact .inl trivial | exact .inl rfl))
  all_goals (refine ⟨_, h23b, rfl, ?_⟩)
  all_goals (try (push_cast (maxSteps := 1000000)))
  all_goals ((repeat' (with_reducible refine And.intro ?_ ?_)) <;> try (first | trivial | omega | exact inK64 (by omega) (by omega) | exact inKu8 (by omega) (by omega) | (simp only [maxLen]; omega) | exact .inl trivial | exact .inl rfl))
  all_goals (refine ⟨_, h35, rfl, ?_⟩)
  all_goals (try (push_cast (maxSteps := 1000000)))
  all_goals ((repeat' (with_reducible refine And.intro ?_ ?_)) <;> try (first | trivial | omega | exact inK64 (by omega) (by omega) | exact inKu8 (by omega) (by omega) | (simp only [maxLen]; omega) | exact .inl trivial | exact .inl rfl))
  all_goals (refine ⟨_, h34, rfl, ?_⟩)
  by_cases hc : (checkJ L M on kind).2 = 0
  · rw [if_neg (by simp [hc])] at hR
    simp only [hc] at h34 ⊢
    all_goals (try (push_cast (maxSteps := 1000000)))
    all_goals ((repeat' (with_reducible refine And.intro ?_ ?_)) <;> try (first | trivial | omega | exact inK64 (by omega) (by omega) | exact inKu8 (by omega) (by omega) | (simp only [maxLen]; omega) | exact .inl trivial | exact .inl rfl))
    refine LoopK.s1 (α := Nat) [35] (fun j => [i2 .i64 j]) (fun j => j ≤ 2 ∧ (0 < j → evenF ⟨L, A⟩ = true) ∧ (1 < j → evenF ⟨M, B⟩ = true)) (fun j => 2 - j) 1000 0 ⟨by omega, by omega, by omega⟩ (by (try (push_cast (maxSteps := 1000000)))) ?_
    rintro j ⟨hj, he1, he2⟩
    obtain rfl | rfl | rfl : j = 0 ∨ j = 1 ∨ j = 2 := by omega
    · (try (push_cast (maxSteps := 1000000) [List.getD_cons_zero, List.getD_cons_succ]))
      ((repeat' (with_reducible refine And.intro ?_ ?_)) <;> try (first | trivial | omega | exact inK64 (by omega) (by omega) | exact inKu8 (by omega) (by omega) | (simp only [maxLen]; omega) | exact .inl trivial | exact .inl rfl))
      refine LoopK.s1 (α := Nat) [42] (fun k => [i2 .i64 k]) (fun k => k ≤ A.length ∧ ((A.drop k).all fun r => decide (r.length = L.length)) = evenF ⟨L, A⟩) (fun k => A.length - k) 1000 0 ⟨by omega, rfl⟩ (by (try (push_cast (maxSteps := 1000000)))) ?_
      rintro k ⟨hk, hcc⟩
      by_cases hlt : k < A.length
      · have hv := List.getElem?_eq_getElem hlt; have hd : decide ((k : Int) < (A.length : Int)) = true := decide_eq_true (by omega)
        rw [drop_cons hv, List.all_cons] at hcc
        generalize A[k] = r at *
        (try (push_cast (maxSteps := 1000000) [hd, getD_map hv]))
        ((repeat' (with_reducible refine And.intro ?_ ?_)) <;> try (first | trivial | omega | exact inK64 (by omega) (by omega) | exact inKu8 (by omega) (by omega) | (simp only [maxLen]; omega) | exact .inl trivial | exact .inl rfl))
        refine BrP.mk (fun h => ?_) (fun h => ?_) <;> try (push_cast (maxSteps := 1000000) [h])
        · have hw : ¬ r.length = L.length := by simp at h; omega
          have he : evenF ⟨L, A⟩ = false := by rw [← hcc]; simp [hw]
          rw [if_pos (by simp [he])] at hR
          subst hR
          (try (push_cast (maxSteps := 1000000)))
        · have hw : r.length = L.length := by simp at h; omega
          rw [decide_eq_true hw, Bool.true_and] at hcc
          ((repeat' (with_reducible refine And.intro ?_ ?_)) <;> try (first | trivial | omega | exact inK64 (by omega) (by omega) | exact inKu8 (by omega) (by omega) | (simp only [maxLen]; omega) | exact .inl trivial | exact .inl rfl))
          refine ⟨k + 1, ⟨by omega, hcc⟩, by omega, Le.st ?_⟩
          (try (push_cast (maxSteps := 1000000))); (all_goals first | rfl | skip)
      · have hd : decide ((k : Int) < (A.length : Int)) = false := decide_eq_false (by omega)
        rw [List.drop_eq_nil_of_le (by omega), List.all_nil] at hcc
        (try (push_cast (maxSteps := 1000000) [hd]))
        ((repeat' (with_reducible refine And.intro ?_ ?_)) <;> try (first | trivial | omega | exact inK64 (by omega) (by omega) | exact inKu8 (by omega) (by omega) | (simp only [maxLen]; omega) | exact .inl trivial | exact .inl rfl))
        refine ⟨1, ⟨by omega, fun _ => ?_, fun hh => ?_⟩, by omega, Le.st ?_⟩
        all_goals (first | exact hcc.symm | exact he1 (by omega) | omega | skip)
        (try (push_cast (maxSteps := 1000000))); (all_goals first | rfl | skip)
    · (try (push_cast (maxSteps := 1000000) [List.getD_cons_zero, List.getD_cons_succ]))
      ((repeat' (with_reducible refine And.intro ?_ ?_)) <;> try (first | trivial | omega | exact inK64 (by omega) (by omega) | exact inKu8 (by omega) (by omega) | (simp only [maxLen]; omega) | exact .inl trivial | exact .inl rfl))
      refine LoopK.s1 (α := Nat) [42] (fun k => [i2 .i64 k]) (fun k => k ≤ B.length ∧ ((B.drop k).all fun r => decide (r.length = M.length)) = evenF ⟨M, B⟩) (fun k => B.length - k) 1000 0 ⟨by omega, rfl⟩ (by (try (push_cast (maxSteps := 1000000)))) ?_
      rintro k ⟨hk, hcc⟩
      by_cases hlt : k < B.length
      · have hv := List.getElem?_eq_getElem hlt; have hd : decide ((k : Int) < (B.length : Int)) = true := decide_eq_true (by omega)
        rw [drop_cons hv, List.all_cons] at hcc
        generalize B[k] = r at *
        (try (push_cast (maxSteps := 1000000) [hd, getD_map hv]))
        ((repeat' (with_reducible refine And.intro ?_ ?_)) <;> try (first | trivial | omega | exact inK64 (by omega) (by omega) | exact inKu8 (by omega) (by omega) | (simp only [maxLen]; omega) | exact .inl trivial | exact .inl rfl))
        refine BrP.mk (fun h => ?_) (fun h => ?_) <;> try (push_cast (maxSteps := 1000000) [h])
        · have hw : ¬ r.length = M.length := by simp at h; omega
          have he : evenF ⟨M, B⟩ = false := by rw [← hcc]; simp [hw]
          rw [if_pos (by simp [he])] at hR
          subst hR
          (try (push_cast (maxSteps := 1000000)))
        · have hw : r.length = M.length := by simp at h; omega
          rw [decide_eq_true hw, Bool.true_and] at hcc
          ((repeat' (with_reducible refine And.intro ?_ ?_)) <;> try (first | trivial | omega | exact inK64 (by omega) (by omega) | exact inKu8 (by omega) (by omega) | (simp only [maxLen]; omega) | exact .inl trivial | exact .inl rfl))
          refine ⟨k + 1, ⟨by omega, hcc⟩, by omega, Le.st ?_⟩
          (try (push_cast (maxSteps := 1000000))); (all_goals first | rfl | skip)
      · have hd : decide ((k : Int) < (B.length : Int)) = false := decide_eq_false (by omega)
        rw [List.drop_eq_nil_of_le (by omega), List.all_nil] at hcc
        (try (push_cast (maxSteps := 1000000) [hd]))
        ((repeat' (with_reducible refine And.intro ?_ ?_)) <;> try (first | trivial | omega | exact inK64 (by omega) (by omega) | exact inKu8 (by omega) (by omega) | (simp only [maxLen]; omega) | exact .inl trivial | exact .inl rfl))
        refine ⟨2, ⟨by omega, fun _ => ?_, fun hh => ?_⟩, by omega, Le.st ?_⟩
        all_goals (first | exact hcc.symm | exact he1 (by omega) | omega | skip)
        (try (push_cast (maxSteps := 1000000))); (all_goals first | rfl | skip)
    · rw [if_neg (by simp [he1, he2])] at hR
      subst hR
      (try (push_cast (maxSteps := 1000000)))
  · rw [if_pos hc] at hR
    subst hR
    have hcd : decide ((checkJ L M on kind).2 = 0) = false := decide_eq_false hc
    all_goals (try (push_cast (maxSteps := 1000000) [hc, hcd]))
theorem fewT_widthJ {t : Tb} (h : fewT t = true) : ∀ r ∈ t.R, r.length ≤ 12 := by
  simp only [fewT, smallF, okRow, Bool.and_eq_true, List.all_eq_true, decide_eq_true_eq] at h
  exact fun r hr => (h.2.1.1 r hr).1
end Go.LS.Tryd
