/- Contracts of the functions of the seat, one by one (part D29); no condition but those that each bears. -/
import Derived.Test.YtfmbjaeppffdpaaDoorD28
import Derived.Test.YtfmbjaeppffdpaaDoorSA
namespace Go.LS.Tryd
open Go Go.LS
set_option maxRecDepth 100000
set_option linter.unusedSimpArgs false
set_option linter.unusedVariables false

theorem allRowsJ (l m : List (List Vl)) (hl : okLen l) (hm : okLen m) (hr : ∀ r ∈ l, okLen r) (hr' : ∀ r ∈ m, okLen r) : Spec V 40 [.c (.d (.sl 1 (l.map eRR))), .c (.d (.sl 1 (m.map eRR)))] (b2 (allF l m)) := f26 l m hl hm hr hr'
theorem rowsRefJ (l : List (List Vl)) (hl : okLen l) (hr : ∀ r ∈ l, okLen r) : Spec V 41 [.c (.d (.sl 1 (l.map eR)))] (.c (.d (.sl 1 (l.map eRR)))) := f27 l hl hr
set_option maxHeartbeats 1000000 in
theorem d39 (z : Jc) (hz : okJc z) (hol : z.On.length ≤ 1000) : Spec V 39 [.ag ((eJc z).map .d)] (i2 .i64 (wrongJ z)) := by
  obtain ⟨⟨L, A⟩, ⟨M, B⟩, on, kind⟩ := z
  obtain ⟨ha, hb, ho, hk⟩ := hz
  simp only at ha hb ho hk hol
  have h34 := d34 L M on kind ha.l hb.l (by omega) hk
  have h23a := f18 L ha.l.1
  have h23b := f18 M hb.l.1
  have h35 := d35 on (by omega)
  have hAl : A.length ≤ 1099511627776 := ha.r
  have hBl : B.length ≤ 1099511627776 := hb.r
  obtain ⟨R, hR⟩ : ∃ R, R = wrongJ ⟨⟨L, A⟩, ⟨M, B⟩, on, kind⟩ := ⟨_, rfl⟩
  rw [← hR]
  simp only [wrongJ] at hR
  (refine Spec.of_go (L := fun | 0 => some [1] | 1 => some [1, 4] | 2 => some [1, 4, 27] | 3 => some [2] | 4 => some [33, 34, 35] | 5 => some [33, 34, 35, 36] | 6 => some [6, 33, 34, 35] | 7 => some [6, 33, 34, 35, 40, 41, 42] | 8 => some [6, 33, 34, 35, 40, 41, 42, 43] | 9 => some [6, 8, 33, 34, 35, 40, 41, 42] | 10 => some [6, 33, 34, 35, 40, 41, 42, 51] | 11 => some [2] | 12 => some [6, 33, 34, 35, 40, 41, 42] | 13 => some [33, 34, 35] | 14 => some [2] | _ => none) 1000 Go.Proofs.Tryd.func39 rfl rfl ⟨Nat.le_of_ble_eq_true rfl, rfl⟩ rfl ?_; unfold Go.Proofs.Tryd.f39; push_cast (maxSteps := 1000000))
  (refine DrawK.of (.take 0 (.take 1 (.take 2 (.take 4 (.take 5 (.take 6 (.take 8 (.take 9 (.take 11 (.take 12 (.one 3 (.one 7 (.one 10 (.one 13 (.take 14 (.take 15 (.take 16 (.take 17 (.take 18 .done))))))))))))))))))) 1000 (by decide +kernel) ?_; try (push_cast (maxSteps := 1000000)))
  ((repeat' (with_reducible refine And.intro ?_ ?_)) <;> try (first | trivial | omega | exact inK64 (by omega) (by omega) | exact inKu8 (by omega) (by omega) | (simp only [maxLen]; omega) | exact .inl trivial | exact .inl rfl))
  all_goals (refine ⟨_, h23a, rfl, ?_⟩)
  all_goals (try (push_cast (maxSteps := 1000000)))
  all_goals ((repeat' (with_reducible refine And.intro ?_ ?_)) <;> try (first | trivial | omega | exact inK64 (by omega) (by omega) | exact inKu8 (by omega) (by omega) | (simp only [maxLen]; omega) | exact .inl trivial | exact .inl rfl))
  all_goals (refine ⟨_, h23b, rfl, ?_⟩)
  all_goals (try (push_cast (maxSteps := 1000000)))
  all_goals ((repeat' (with_reducible refine And.intro ?_ ?_)) <;> try (first | trivial | omega | exact inK64 (by omega) (by omega) | exact inKu8 (by omega) (by omega) | (simp only [maxLen]; omega) | exact .inl trivial | exact .inl rfl))
  all_goals (refine ⟨_, h35, rfl, ?_⟩)
  all_goals (try (push_cast (maxSteps := 1000000)))
  all_goals ((repeat' (with_reducible refine And.intro ?_ ?_)) <;> try (first | trivial | omega | exact inK64 (by omega) (by omega) | exact inKu8 (by omega) (by omega) | (simp only [maxLen]; omega) | exact .inl trivial | exact .inl rfl))
  all_goals (refine ⟨_, h34, rfl, ?_⟩)
  by_cases hc : (checkJ L M on kind).2 = 0
  · rw [if_neg (by simp [hc])] at hR
    simp only [hc] at h34 ⊢
    all_goals (try (push_cast (maxSteps := 1000000)))
    all_goals ((repeat' (with_reducible refine And.intro ?_ ?_)) <;> try (first | trivial | omega | exact inK64 (by omega) (by omega) | exact inKu8 (by omega) (by omega) | (simp only [maxLen]; omega) | exact .inl trivial | exact .inl rfl))
    refine LoopK.s1 (α := Nat) [35] (fun j => [i2 .i64 j]) (fun j => j ≤ 2 ∧ (0 < j → evenF ⟨L, A⟩ = true) ∧ (1 < j → evenF ⟨M, B⟩ = true)) (fun j => 2 - j) 1000 0 ⟨by omega, by omega, by omega⟩ (by (try (push_cast (maxSteps := 1000000)))) ?_
    rintro j ⟨hj, he1, he2⟩
    obtain rfl | rfl | rfl : j = 0 ∨ j = 1 ∨ j = 2 := by omega
    · (try (push_cast (maxSteps := 1000000) [List.getD_cons_zero, List.getD_cons_succ]))
      ((repeat' (with_reducible refine And.intro ?_ ?_)) <;> try (first | trivial | omega | exact inK64 (by omega) (by omega) | exact inKu8 (by omega) (by omega) | (simp only [maxLen]; omega) | exact .inl trivial | exact .inl rfl))
      refine LoopK.s1 (α := Nat) [42] (fun k => [i2 .i64 k]) (fun k => k ≤ A.length ∧ ((A.drop k).all fun r => decide (r.length = L.length)) = evenF ⟨L, A⟩) (fun k => A.length - k) 1000 0 ⟨by omega, rfl⟩ (by (try (push_cast (maxSteps := 1000000)))) ?_
      rintro k ⟨hk, hcc⟩
      by_cases hlt : k < A.length
      · have hv := List.getElem?_eq_getElem hlt; have hd : decide ((k : Int) < (A.length : Int)) = true := decide_eq_true (by omega)
        rw [drop_cons hv, List.all_cons] at hcc
        generalize A[k] = r at *
        (try (push_cast (maxSteps := 1000000) [hd, getD_map hv]))
        ((repeat' (with_reducible refine And.intro ?_ ?_)) <;> try (first | trivial | omega | exact inK64 (by omega) (by omega) | exact inKu8 (by omega) (by omega) | (simp only [maxLen]; omega) | exact .inl trivial | exact .inl rfl))
        refine BrP.mk (fun h => ?_) (fun h => ?_) <;> try (push_cast (maxSteps := 1000000) [h])
        · have hw : ¬ r.length = L.length := by simp at h; omega
          have he : evenF ⟨L, A⟩ = false := by rw [← hcc]; simp [hw]
          rw [if_pos (by simp [he])] at hR
          subst hR
          (try (push_cast (maxSteps := 1000000)))
        · have hw : r.length = L.length := by simp at h; omega
          rw [decide_eq_true hw, Bool.true_and] at hcc
          ((repeat' (with_reducible refine And.intro ?_ ?_)) <;> try (first | trivial | omega | exact inK64 (by omega) (by omega) | exact inKu8 (by omega) (by omega) | (simp only [maxLen]; omega) | exact .inl trivial | exact .inl rfl))
          refine ⟨k + 1, ⟨by omega, hcc⟩, by omega, Le.st ?_⟩
          (try (push_cast (maxSteps := 1000000))); (all_goals first | rfl | skip)
      · have hd : decide ((k : Int) < (A.length : Int)) = false := decide_eq_false (by omega)
        rw [List.drop_eq_nil_of_le (by omega), List.all_nil] at hcc
        (try (push_cast (maxSteps := 1000000) [hd]))
        ((repeat' (with_reducible refine And.intro ?_ ?_)) <;> try (first | trivial | omega | exact inK64 (by omega) (by omega) | exact inKu8 (by omega) (by omega) | (simp only [maxLen]; omega) | exact .inl trivial | exact .inl rfl))
        refine ⟨1, ⟨by omega, fun _ => ?_, fun hh => ?_⟩, by omega, Le.st ?_⟩
        all_goals (first | exact hcc.symm | exact he1 (by omega) | omega | skip)
        (try (push_cast (maxSteps := 1000000))); (all_goals first | rfl | skip)
    · (try (push_cast (maxSteps := 1000000) [List.getD_cons_zero, List.getD_cons_succ]))
      ((repeat' (with_reducible refine And.intro ?_ ?_)) <;> try (first | trivial | omega | exact inK64 (by omega) (by omega) | exact inKu8 (by omega) (by omega) | (simp only [maxLen]; omega) | exact .inl trivial | exact .inl rfl))
      refine LoopK.s1 (α := Nat) [42] (fun k => [i2 .i64 k]) (fun k => k ≤ B.length ∧ ((B.drop k).all fun r => decide (r.length = M.length)) = evenF ⟨M, B⟩) (fun k => B.length - k) 1000 0 ⟨by omega, rfl⟩ (by (try (push_cast (maxSteps := 1000000)))) ?_
      rintro k ⟨hk, hcc⟩
      by_cases hlt : k < B.length
      · have hv := List.getElem?_eq_getElem hlt; have hd : decide ((k : Int) < (B.length : Int)) = true := decide_eq_true (by omega)
        rw [drop_cons hv, List.all_cons] at hcc
        generalize B[k] = r at *
        (try (push_cast (maxSteps := 1000000) [hd, getD_map hv]))
        ((repeat' (with_reducible refine And.intro ?_ ?_)) <;> try (first | trivial | omega | exact inK64 (by omega) (by omega) | exact inKu8 (by omega) (by omega) | (simp only [maxLen]; omega) | exact .inl trivial | exact .inl rfl))
        refine BrP.mk (fun h => ?_) (fun h => ?_) <;> try (push_cast (maxSteps := 1000000) [h])
        · have hw : ¬ r.length = M.length := by simp at h; omega
          have he : evenF ⟨M, B⟩ = false := by rw [← hcc]; simp [hw]
          rw [if_pos (by simp [he])] at hR
          subst hR
          (try (push_cast (maxSteps := 1000000)))
        · have hw : r.length = M.length := by simp at h; omega
          rw [decide_eq_true hw, Bool.true_and] at hcc
          ((repeat' (with_reducible refine And.intro ?_ ?_)) <;> try (first | trivial | omega | exact inK64 (by omega) (by omega) | exact inKu8 (by omega) (by omega) | (simp only [maxLen]; omega) | exact .inl trivial | exact .inl rfl))
          refine ⟨k + 1, ⟨by omega, hcc⟩, by omega, Le.st ?_⟩
          (try (push_cast (maxSteps := 1000000))); (all_goals first | rfl | skip)
      · have hd : decide ((k : Int) < (B.length : Int)) = false := decide_eq_false (by omega)
        rw [List.drop_eq_nil_of_le (by omega), List.all_nil] at hcc
        (try (push_cast (maxSteps := 1000000) [hd]))
        ((repeat' (with_reducible refine And.intro ?_ ?_)) <;> try (first | trivial | omega | exact inK64 (by omega) (by omega) | exact inKu8 (by omega) (by omega) | (simp only [maxLen]; omega) | exact .inl trivial | exact .inl rfl))
        refine ⟨2, ⟨by omega, fun _ => ?_, fun hh => ?_⟩, by omega, Le.st ?_⟩
        all_goals (first | exact hcc.symm | exact he1 (by omega) | omega | skip)
        (try (push_cast (maxSteps := 1000000))); (all_goals first | rfl | skip)
    · rw [if_neg (by simp [he1, he2])] at hR
      subst hR
      (try (push_cast (maxSteps := 1000000)))
  · rw [if_pos hc] at hR
    subst hR
    have hcd : decide ((checkJ L M on kind).2 = 0) = false := decide_eq_false hc
    all_goals (try (push_cast (maxSteps := 1000000) [hc, hcd]))
theorem fewT_widthJ {t : Tb} (h : fewT t = true) : ∀ r ∈ t.R, r.length ≤ 12 := by
  simp only [fewT, smallF, okRow, Bool.and_eq_true, List.all_eq_true, decide_eq_true_eq] at h
  exact fun r hr => (h.2.1.1 r hr).1
set_option maxHeartbeats 1000000 in
theorem d7 (z : Jc) (hz : okJc z) : Spec V 7 [.ag ((eJc z).map .d)] (b2 true) := by
  have h31 := d31 z hz
  have hz' := hz
  obtain ⟨⟨L, A⟩, ⟨M, B⟩, on, kind⟩ := z
  obtain ⟨ha, hb, ho, hk⟩ := hz
  simp only at ha hb ho hk
  simp only [eJc_eq] at h31
  (refine Spec.of_go (L := fun | 0 => some [1] | 1 => some [1, 10] | 2 => some [2] | 3 => some [1, 3, 4] | 4 => some [1, 3, 4, 5] | 5 => some [1, 3, 4, 5, 27] | 6 => some [2] | 7 => some [1, 3, 4, 6] | 8 => some [2] | _ => none) 1000 Go.Proofs.Tryd.func7 rfl rfl ⟨Nat.le_of_ble_eq_true rfl, rfl⟩ rfl ?_; unfold Go.Proofs.Tryd.f7; push_cast (maxSteps := 1000000))
  refine ⟨_, h31, rfl, ?_⟩
  (try (push_cast (maxSteps := 1000000)))
  cases hf : fitsJ ⟨⟨L, A⟩, ⟨M, B⟩, on, kind⟩ with
  | false =>
    (try (push_cast (maxSteps := 1000000)))
    refine ⟨_, d32, rfl, ?_⟩
    (try (push_cast (maxSteps := 1000000)))
  | true =>
    obtain ⟨f1, f2, f3⟩ := fitsJ_parts hf
    simp only at f1 f2 f3
    have la := fewT_len f1
    have lb := fewT_len f2
    have wa := fewT_widthJ f1
    have wb := fewT_widthJ f2
    simp only at la lb wa wb
    have h38 := d38 ⟨L, A⟩ ⟨M, B⟩ on kind (ha.right f1) (hb.right f2) (by omega) hk (by simp only; omega) (by simp only; omega) (by simp only; omega) (by simp only; omega)
    have h39 := d39 ⟨⟨L, A⟩, ⟨M, B⟩, on, kind⟩ hz' (by simp only; omega)
    have h36 := d36 L M on kind ha.l hb.l (by omega) hk (by omega) (by omega)
    have h35 := d35 on (by omega)
    have h20a := d20 ⟨L, A⟩ ha
    have h20b := d20 ⟨M, B⟩ hb
    have hcl := colsJ_len L M on kind
    have h23c := f18 (colsJ L M on kind) (by simp only [okLen]; omega)
    have h22 := d22 (colsJ L M on kind) (colsJ L M on kind) (by simp only [okLen]; omega) (by simp only [okLen]; omega)
    rw [sameCs_iff.2 rfl] at h22
    have hol := others_len M on
    have hrl := rowsJ_len L M on kind B A
    have hml : A.length * (B.length + 1) ≤ 12 * 13 := Nat.mul_le_mul (by omega) (by omega)
    have hrr : ∀ r ∈ rowsJ L M on kind A B, okLen r := rowsJ_all (P := okLen) (fun x hx => by have := wa x hx; simp only [okLen]; omega) (fun x hx y hy => by have := wa x hx; have := beside_len M on x y; simp only [okLen]; omega) (fun x hx => by have := wa x hx; have := beside_len M on x []; simp only [okLen]; omega)
    have h41 := rowsRefJ (rowsJ L M on kind A B) (by simp only [okLen]; omega) hrr
    have h40 := allRowsJ (rowsJ L M on kind A B) (rowsJ L M on kind A B) (by simp only [okLen]; omega) (by simp only [okLen]; omega) hrr hrr
    rw [allF_self] at h40
    have h42 := fun (hh : (∀ o ∈ on, foundN L o.l ∧ foundN M o.r) ∧ (∀ x ∈ A, x.length = L.length) ∧ (∀ y ∈ B, y.length = M.length) ∧ (1 ≤ kind ∧ kind ≤ 4)) => d42 ⟨L, A⟩ ⟨M, B⟩ on kind ha.l.1 (by simp only; omega) ho hh.1 hh.2.1 hh.2.2.1 (by simp only; omega) (by simp only; omega) (by simp only; omega) hh.2.2.2
    simp only [joinC, eT_eq, eRT_eq, eJc_eq, wrongJ, colsC] at h38 h39 h36 h20a h20b h42
    clear hf h31 hz' hrr
    by_cases hc : (checkJ L M on kind).2 = 0
    · obtain ⟨_, _, hkk, _, hfound, _⟩ := checkJ_parts hc
      simp only [hc, ne_eq, not_true_eq_false, if_false] at h38 h39 h36
      by_cases he : evenF ⟨L, A⟩ = false ∨ evenF ⟨M, B⟩ = false
      · rw [if_pos he] at h38 h39
        (try (push_cast (maxSteps := 1000000)))
        refine ⟨_, h38, rfl, ?_⟩
        (try (push_cast (maxSteps := 1000000)))
        refine ⟨_, h39, rfl, ?_⟩
        (try (push_cast (maxSteps := 1000000)))
        ((repeat' (with_reducible refine And.intro ?_ ?_)) <;> try (first | trivial | omega | exact inK64 (by omega) (by omega) | exact inKu8 (by omega) (by omega) | (simp only [maxLen]; omega) | exact .inl trivial | exact .inl rfl))
        all_goals (refine ⟨_, d32, rfl, ?_⟩)
        all_goals (try (push_cast (maxSteps := 1000000)))
      · rw [if_neg he] at h38 h39
        rw [not_or, Bool.not_eq_false, Bool.not_eq_false] at he
        have h42 := h42 ⟨hfound, by simpa [evenF] using he.1, by simpa [evenF] using he.2, hkk⟩
        (try (push_cast (maxSteps := 1000000)))
        refine ⟨_, h38, rfl, ?_⟩
        (try (push_cast (maxSteps := 1000000)))
        refine ⟨_, h39, rfl, ?_⟩
        (try (push_cast (maxSteps := 1000000)))
        ((repeat' (with_reducible refine And.intro ?_ ?_)) <;> try (first | trivial | omega | exact inK64 (by omega) (by omega) | exact inKu8 (by omega) (by omega) | (simp only [maxLen]; omega) | exact .inl trivial | exact .inl rfl))
        all_goals (refine ⟨_, h36, rfl, ?_⟩)
        all_goals (try (push_cast (maxSteps := 1000000)))
        all_goals (refine DrawK.of (.take 0 (.take 1 (.take 2 (.take 3 (.take 4 (.take 6 (.one 5 (.one 7 (.one 8 (.take 9 (.take 10 (.take 11 (.take 12 (.take 14 (.take 15 (.take 17 (.take 18 (.take 20 (.take 21 (.take 23 (.take 24 (.one 13 (.one 16 (.one 19 (.one 22 (.one 25 (.one 26 (.take 27 (.take 28 (.one 29 (.take 30 (.take 31 .done)))))))))))))))))))))))))))))))) 1000 (by decide +kernel) ?_; try (push_cast (maxSteps := 1000000)))
        all_goals ((repeat' (with_reducible refine And.intro ?_ ?_)) <;> try (first | trivial | omega | exact inK64 (by omega) (by omega) | exact inKu8 (by omega) (by omega) | (simp only [maxLen]; omega) | exact .inl trivial | exact .inl rfl))
        all_goals (refine ⟨_, h23c, rfl, ?_⟩)
        all_goals (try (push_cast (maxSteps := 1000000)))
        all_goals ((repeat' (with_reducible refine And.intro ?_ ?_)) <;> try (first | trivial | omega | exact inK64 (by omega) (by omega) | exact inKu8 (by omega) (by omega) | (simp only [maxLen]; omega) | exact .inl trivial | exact .inl rfl))
        all_goals (refine ⟨_, h23c, rfl, ?_⟩)
        all_goals (try (push_cast (maxSteps := 1000000)))
        all_goals ((repeat' (with_reducible refine And.intro ?_ ?_)) <;> try (first | trivial | omega | exact inK64 (by omega) (by omega) | exact inKu8 (by omega) (by omega) | (simp only [maxLen]; omega) | exact .inl trivial | exact .inl rfl))
        all_goals (refine ⟨_, h22, rfl, ?_⟩)
        all_goals (try (push_cast (maxSteps := 1000000)))
        all_goals ((repeat' (with_reducible refine And.intro ?_ ?_)) <;> try (first | trivial | omega | exact inK64 (by omega) (by omega) | exact inKu8 (by omega) (by omega) | (simp only [maxLen]; omega) | exact .inl trivial | exact .inl rfl))
        all_goals (refine ⟨_, h41, rfl, ?_⟩)
        all_goals (try (push_cast (maxSteps := 1000000)))
        all_goals ((repeat' (with_reducible refine And.intro ?_ ?_)) <;> try (first | trivial | omega | exact inK64 (by omega) (by omega) | exact inKu8 (by omega) (by omega) | (simp only [maxLen]; omega) | exact .inl trivial | exact .inl rfl))
        all_goals (refine ⟨_, h20a, rfl, ?_⟩)
        all_goals (try (push_cast (maxSteps := 1000000)))
        all_goals ((repeat' (with_reducible refine And.intro ?_ ?_)) <;> try (first | trivial | omega | exact inK64 (by omega) (by omega) | exact inKu8 (by omega) (by omega) | (simp only [maxLen]; omega) | exact .inl trivial | exact .inl rfl))
        all_goals (refine ⟨_, h20b, rfl, ?_⟩)
        all_goals (try (push_cast (maxSteps := 1000000)))
        all_goals ((repeat' (with_reducible refine And.intro ?_ ?_)) <;> try (first | trivial | omega | exact inK64 (by omega) (by omega) | exact inKu8 (by omega) (by omega) | (simp only [maxLen]; omega) | exact .inl trivial | exact .inl rfl))
        all_goals (refine ⟨_, h35, rfl, ?_⟩)
        all_goals (try (push_cast (maxSteps := 1000000)))
        all_goals ((repeat' (with_reducible refine And.intro ?_ ?_)) <;> try (first | trivial | omega | exact inK64 (by omega) (by omega) | exact inKu8 (by omega) (by omega) | (simp only [maxLen]; omega) | exact .inl trivial | exact .inl rfl))
        all_goals (refine ⟨_, h42, rfl, ?_⟩)
        all_goals (try (push_cast (maxSteps := 1000000)))
        all_goals ((repeat' (with_reducible refine And.intro ?_ ?_)) <;> try (first | trivial | omega | exact inK64 (by omega) (by omega) | exact inKu8 (by omega) (by omega) | (simp only [maxLen]; omega) | exact .inl trivial | exact .inl rfl))
        all_goals (refine ⟨_, h40, rfl, ?_⟩)
        all_goals (try (push_cast (maxSteps := 1000000)))
        all_goals ((repeat' (with_reducible refine And.intro ?_ ?_)) <;> try (first | trivial | omega | exact inK64 (by omega) (by omega) | exact inKu8 (by omega) (by omega) | (simp only [maxLen]; omega) | exact .inl trivial | exact .inl rfl))
        all_goals (refine ⟨_, d32, rfl, ?_⟩)
        all_goals (try (push_cast (maxSteps := 1000000)))
        all_goals ((repeat' (with_reducible refine And.intro ?_ ?_)) <;> try (first | trivial | omega | exact inK64 (by omega) (by omega) | exact inKu8 (by omega) (by omega) | (simp only [maxLen]; omega) | exact .inl trivial | exact .inl rfl))
    · have hcd : decide ((checkJ L M on kind).2 = 0) = false := decide_eq_false hc
      rw [if_pos hc] at h38 h39 h36
      (try (push_cast (maxSteps := 1000000)))
      refine ⟨_, h38, rfl, ?_⟩
      (try (push_cast (maxSteps := 1000000)))
      refine ⟨_, h39, rfl, ?_⟩
      (try (push_cast (maxSteps := 1000000) [hc, hcd]))
      ((repeat' (with_reducible refine And.intro ?_ ?_)) <;> try (first | trivial | omega | exact inK64 (by omega) (by omega) | exact inKu8 (by omega) (by omega) | (simp only [maxLen]; omega) | exact .inl trivial | exact .inl rfl))
      all_goals (refine ⟨_, d32, rfl, ?_⟩)
      all_goals (try (push_cast (maxSteps := 1000000)))
end Go.LS.Tryd
