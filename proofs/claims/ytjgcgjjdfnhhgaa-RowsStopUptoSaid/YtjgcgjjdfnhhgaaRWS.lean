/- Contracts of the functions of the seat, one by one (part RWS); no condition but those that each bears. -/
import Derived.Test.YtjgcgjjdfnhhgaaRWT
namespace Go.LS.Tryr
open Go Go.LS
set_option maxRecDepth 100000
set_option linter.unusedVariables false
set_option linter.unusedSimpArgs false
set_option linter.unusedVariables false

/-- What first tells of whatever row over told: the first things, and how many were asked for. -/
theorem first_stop {fi : FuncId} {caps : List DV} {w : List Int} {u : Value} {K : Gh} {Kt : Nat → Gh} {Kl : Gh} (hit : IterT V (.clo fi caps) (w.map nL) K Kt Kl) (stop : Int) (n : Nat) (hs : 1 ≤ stop) (hw : w.length ≤ 1000000) (hn : n ≤ w.length)
    (hK : ∀ i : Nat, i < w.length → Ent (Kt i) (Gh.box u 3 (nD (min (i + 1 : Nat) n : Nat)))) (hKl : Ent Kl (Gh.box u 3 (nD n))) :
    SpecG V 15 [.c (.d (.clo fi caps)), nL stop] K fun r G => r = .c (.d (rowD (w.take stop.toNat))) ∧ Ent G (Gh.box u 3 (nD (min stop.toNat n : Nat))) := by
  have h := f15 hit stop hw
  refine ⟨h.1, fun W O E us hG hEO hO hd => (h.2 W O E us hG hEO hO hd).mono ?_⟩
  rintro e W' ⟨v, r, G', E', h0, h1, h2⟩
  refine ⟨v, r, G', E', h0, ?_, h2⟩
  rcases h1 with ⟨h1, h3, h4⟩ | ⟨i, hi, hi2, h3, h4⟩
  · have hle : w.length < stop.toNat := by
      false_or_by_contra
      exact h4 (stop.toNat - 1) (by omega) (by omega)
    rw [List.take_of_length_le (by omega)]
    refine ⟨h1, h3.trans ?_⟩
    rw [show min stop.toNat n = n by omega]
    exact hKl
  · rw [show stop.toNat = i + 1 by omega]
    exact ⟨h3, h4.trans (hK i hi)⟩

/-- What tells things beside what others hold. -/
theorem besideI {d : DV} {xs : List LV} (R : Gh) (h : IterT V d xs Gh.emp (fun _ => Gh.emp) Gh.emp) : IterT V d xs R (fun _ => R) R := by
  intro l J Jx hY
  obtain ⟨f, caps, e, hS⟩ := h l (fun i => R.sep (J i)) (fun i => R.sep (Jx i)) (fun i x hx => (hY i x hx).frame R)
  refine ⟨f, caps, e, hS.1, fun W O E us hG hEO hO hd => (hS.2 W O E us (emp_sep _ _ _ _ hG) hEO hO hd).mono ?_⟩
  rintro e W' ⟨v, r, G', E', h0, h1, h2⟩
  refine ⟨v, r, G', E', h0, ?_, h2⟩
  rcases h1 with h1 | ⟨i, x, hx, h1⟩
  · exact .inl (h1.trans (emp_sep' _))
  · exact .inr ⟨i, x, hx, h1.trans (emp_sep' _)⟩

theorem f24' (l : List Int) (n : Int) (hlen : l.length ≤ 100) : Spec V 24 [.c (.d (.sl 1 (l.map nD ++ l.map nD))), nL n] (.c (.d (rowD ((l ++ l).take n.toNat)))) := by
  rw [← List.map_append]
  exact f24 (l ++ l) n (by rw [List.length_append]; omega)
abbrev toldD (l : List Int) (u : Value) : DV := .clo 36 [.at_ [rowD l], .at_ [.v u]]
theorem f36' (l : List Int) (u : Value) (hlen : l.length ≤ 100) : IterT V (toldD l u) (l.map nL) (Gh.box u 3 (nD 0)) (fun i => Gh.box u 3 (nD (0 + i + 1))) (Gh.box u 3 (nD (0 + l.length))) := f36 l u 0 (by omega) (by omega) (by omega)
theorem hKt (u : Value) (i n : Nat) (hi : i < n) : Ent (Gh.box u 3 (nD (0 + i + 1))) (Gh.box u 3 (nD (min (i + 1 : Nat) n : Nat))) := by
  rw [show (0 : Int) + i + 1 = ((min (i + 1 : Nat) n : Nat) : Int) by omega]; exact Ent.refl _
theorem hKl (l : List Int) (u : Value) : Ent (Gh.box u 3 (nD (0 + l.length))) (Gh.box u 3 (nD l.length)) := by rw [Int.zero_add]; exact Ent.refl _
theorem stop0 (l : List Int) (u : Value) (stop : Int) (hlen : l.length ≤ 100) (hs : 1 ≤ stop) : SpecG V 15 [.c (.d (.clo 41 [.at_ [toldD l u], .at_ [.clo 28 []]])), nL stop] (Gh.box u 3 (nD 0)) fun r G => r = .c (.d (rowD (l.take stop.toNat))) ∧ Ent G (Gh.box u 3 (nD (min stop.toNat l.length : Nat))) :=
  first_stop (f41 (o := fun x => .int .i64 x) (f36' l u hlen) (fun x _ => f28 x) (by omega)) stop _ hs (by omega) (Nat.le_refl _) (fun i hi => hKt u i _ hi) (hKl l u)
theorem stop1 (l : List Int) (u : Value) (stop : Int) (hlen : l.length ≤ 100) (hs : 1 ≤ stop) : SpecG V 15 [.c (.d (.clo 38 [.at_ [toldD l u], .at_ [.clo 29 []]])), nL stop] (Gh.box u 3 (nD 0)) fun r G => r = .c (.d (rowD (l.take stop.toNat))) ∧ Ent G (Gh.box u 3 (nD (min stop.toNat l.length : Nat))) := by
  have h := f38 (fp := 29) (cs := []) (p := fun _ => true) (f36' l u hlen) (fun x _ => f29 x) (by omega)
  have ft : ∀ l : List Int, l.filter (fun _ => true) = l := fun l => List.filter_eq_self.2 fun _ _ => rfl
  rw [ft] at h
  refine first_stop h stop _ hs (by omega) (Nat.le_refl _) (fun i hi => ?_) (hKl l u)
  rintro O H W ⟨j, ⟨hj, hjl⟩, hp⟩
  rw [ft, List.length_take] at hj
  obtain rfl : j = i := by omega
  exact hKt u j _ hi _ _ _ hp
theorem stop2 (l : List Int) (u : Value) (stop : Int) (hlen : l.length ≤ 100) (hs : 1 ≤ stop) : SpecG V 15 [.c (.d (.clo 40 [.at_ [toldD l u], .at_ [.v (.int .i64 (-1))]])), nL stop] (Gh.box u 3 (nD 0)) fun r G => r = .c (.d (rowD (l.take stop.toNat))) ∧ Ent G (Gh.box u 3 (nD (min stop.toNat l.length : Nat))) := by
  have h := f40 (f36' l u hlen) (-1) (by omega)
  rw [show (-1 : Int).toNat = 0 from rfl, List.drop_zero] at h
  refine first_stop h stop _ hs (by omega) (Nat.le_refl _) (fun i hi => ?_) (hKl l u)
  rw [Nat.zero_add]
  exact hKt u i _ hi
theorem stop3 (l : List Int) (u : Value) (stop : Int) (hlen : l.length ≤ 100) (hs : 1 ≤ stop) : SpecG V 15 [.c (.d (.clo 42 [.at_ [.sl 1 [[toldD l u], [.clo 34 [.at_ [rowD l]]]]]])), nL stop] (Gh.box u 3 (nD 0)) fun r G => r = .c (.d (rowD ((l ++ l).take stop.toNat))) ∧ Ent G (Gh.box u 3 (nD (min stop.toNat l.length : Nat))) := by
  have h := f42 (f36' l u hlen) (besideI (Gh.box u 3 (nD (0 + l.length))) (f34 l (by omega))) (by omega)
  refine first_stop h stop _ hs (by rw [List.length_append]; omega) (by rw [List.length_append]; omega) (fun i hi => ?_) (hKl l u)
  split
  · rename_i h2
    exact hKt u i _ h2
  · rw [show (0 : Int) + l.length = ((min (i + 1 : Nat) l.length : Nat) : Int) by omega]; exact Ent.refl _
theorem stop4 (l : List Int) (u : Value) (stop : Int) (hlen : l.length ≤ 100) (hs : 1 ≤ stop) : SpecG V 15 [.c (.d (.clo 35 [.at_ [toldD l u], .at_ [.clo 31 []]])), nL stop] (Gh.box u 3 (nD 0)) fun r G => r = .c (.d (rowD (l.take stop.toNat))) ∧ Ent G (Gh.box u 3 (nD (min stop.toNat l.length : Nat))) := by
  have h := f35 (fp := 31) (cs := []) (p := fun _ => true) (f36' l u hlen) (fun x _ => f31 x) (by omega)
  have e : l.takeWhile (fun _ => true) = l := by clear h hlen; induction l with | nil => rfl | cons a l ih => rw [List.takeWhile_cons, if_pos rfl, ih]
  rw [e, if_neg (by omega)] at h
  exact first_stop h stop _ hs (by omega) (Nat.le_refl _) (fun i hi => hKt u i _ hi) (hKl l u)
theorem stop5 (l : List Int) (u : Value) (stop : Int) (hlen : l.length ≤ 100) (hs : 1 ≤ stop) : SpecG V 15 [.c (.d (.clo 39 [.at_ [.v (.int .i64 1000)], .at_ [toldD l u]])), nL stop] (Gh.box u 3 (nD 0)) fun r G => r = .c (.d (rowD (l.take stop.toNat))) ∧ Ent G (Gh.box u 3 (nD (min stop.toNat l.length : Nat))) := by
  have h := f39 (f36' l u hlen) 1000 (by omega)
  rw [List.take_of_length_le (by have : (1000 : Int).toNat = 1000 := rfl; omega), if_neg (by omega), if_neg (by omega)] at h
  exact first_stop h stop _ hs (by omega) (Nat.le_refl _) (fun i hi => hKt u i _ hi) (hKl l u)

theorem f6 (l : List Int) (most which : Int) (hlen : l.length ≤ 1048576) (hm : inK .u8 most) (hw : inK .u8 which) : SpecG V 6 [.c (.d (rowD l)), .c (.d (.v (.int .u8 most))), .c (.d (.v (.int .u8 which)))] Gh.emp fun r _ => r = bL true := by
  (refine SpecG.of_go V_G (L := fun | 0 => some [0, 1, 2] | 1 => some [0, 1, 2, 14] | 2 => some [6] | 3 => some [0, 2, 7] | 4 => some [0, 2, 7, 8] | 5 => some [0, 2, 7, 8, 9] | 6 => some [0, 2, 7, 8, 9, 10] | 7 => some [0, 7, 8, 9, 10, 24] | 8 => some [0, 7, 8, 9, 10, 24, 25] | 9 => some [0, 7, 8, 9, 10] | 10 => some [0, 7, 8, 9, 10, 24, 29] | 11 => some [0, 7, 8, 9, 10] | 12 => some [0, 7, 8, 9, 10, 24, 33] | 13 => some [0, 7, 8, 9, 10] | 14 => some [0, 7, 8, 9, 10, 24, 37] | 15 => some [0, 7, 8, 9] | 16 => some [0, 7, 8, 9, 10] | 17 => some [0, 7, 8, 9, 10, 24, 49] | 18 => some [0, 7, 8, 9, 10] | 19 => some [0, 7, 8, 9, 10, 53] | 20 => some [0, 7, 8, 9, 10] | 21 => some [0, 7, 8, 10, 11] | 22 => some [6] | _ => none) 1000 Go.Proofs.Try.func6 rfl rfl ⟨Nat.le_of_ble_eq_true rfl, rfl⟩ ?_; unfold Go.Proofs.Try.f6; push_cast (maxSteps := 1000000))
  by_cases hl : 100 < l.length
  · have hd : decide (100 < (l.length : Int)) = true := decide_eq_true (by omega)
    (try (push_cast (maxSteps := 1000000) [hd]))
    (refine .inr ⟨_, f7, rfl, ?_⟩)
    rintro r G' ⟨rfl, hG⟩
    (try (push_cast (maxSteps := 1000000)))
    exact res_of (bL true) rfl rfl ⟨⟨trivial, trivial⟩, rfl⟩
  · have hd : decide (100 < (l.length : Int)) = false := decide_eq_false (by omega)
    have hm1 : 0 ≤ most ∧ most ≤ 255 := hm
    have hw1 : 0 ≤ which ∧ which ≤ 255 := hw
    have e1 : most.tmod 20 = most % 20 := Int.tmod_eq_emod_of_nonneg hm1.1
    have e2 : which.tmod 6 = which % 6 := Int.tmod_eq_emod_of_nonneg hw1.1
    (try (push_cast (maxSteps := 1000000) [hd]))
    ((repeat' (with_reducible refine And.intro ?_ ?_)) <;> try (first | trivial | omega | exact inK64 (by omega) (by omega) | exact inKu8 (by omega) (by omega) | (simp only [maxLen]; omega) | exact .inl trivial | exact .inl rfl))
    refine .inl ⟨0, 3, [.v (.int .i64 0)], rfl, fun u => ?_⟩
    (try (push_cast (maxSteps := 1000000)))
    (refine .inl ⟨_, f17 l u, rfl, ?_⟩; try (push_cast (maxSteps := 1000000)))
    have hw6 : which.tmod 6 = 0 ∨ which.tmod 6 = 1 ∨ which.tmod 6 = 2 ∨ which.tmod 6 = 3 ∨ which.tmod 6 = 4 ∨ which.tmod 6 = 5 := by omega
    have hs1 : 1 ≤ most.tmod 20 + 1 := by omega
    have hs2 : most.tmod 20 + 1 ≤ 20 := by omega
    generalize hst : most.tmod 20 + 1 = stop at *
    generalize which.tmod 6 = k at *
    have hmin : decide (((min stop.toNat l.length : Nat) : Int) = min stop (l.length : Int)) = true := decide_eq_true (by omega)
    rcases hw6 with rfl | rfl | rfl | rfl | rfl | rfl
    · (try (push_cast (maxSteps := 1000000)))
      (refine .inl ⟨_, f27 (toldD l u) (.clo 28 []), rfl, ?_⟩; try (push_cast (maxSteps := 1000000)))
      (refine .inr ⟨_, (stop0 l u stop (by omega) hs1).conseq (emp_sep' _), rfl, ?_⟩)
      rintro r G' ⟨rfl, hG⟩
      (try (push_cast (maxSteps := 1000000)))
      (refine .inl ⟨_, f24 _ stop (by (try rw [List.length_append]); omega), rfl, ?_⟩; try (push_cast (maxSteps := 1000000)))
      (refine .inl ⟨_, f11 _ _ (by rw [List.length_take]; (try rw [List.length_append]); omega), rfl, ?_⟩; try (push_cast (maxSteps := 1000000)))
      refine ⟨3, .i64, _, Gh.emp, hG.trans (sep_emp' _), ⟨_, T3, rfl⟩, ?_⟩
      (try (push_cast (maxSteps := 1000000) [hmin]))
      (refine .inr ⟨_, beside f7, rfl, ?_⟩)
      rintro r G' ⟨rfl, hG⟩
      (try (push_cast (maxSteps := 1000000)))
      exact res_of (bL true) rfl rfl ⟨⟨trivial, trivial⟩, rfl⟩
    · (try (push_cast (maxSteps := 1000000)))
      (refine .inl ⟨_, f22 (toldD l u) (.clo 29 []), rfl, ?_⟩; try (push_cast (maxSteps := 1000000)))
      (refine .inr ⟨_, (stop1 l u stop (by omega) hs1).conseq (emp_sep' _), rfl, ?_⟩)
      rintro r G' ⟨rfl, hG⟩
      (try (push_cast (maxSteps := 1000000)))
      (refine .inl ⟨_, f24 _ stop (by (try rw [List.length_append]); omega), rfl, ?_⟩; try (push_cast (maxSteps := 1000000)))
      (refine .inl ⟨_, f11 _ _ (by rw [List.length_take]; (try rw [List.length_append]); omega), rfl, ?_⟩; try (push_cast (maxSteps := 1000000)))
      refine ⟨3, .i64, _, Gh.emp, hG.trans (sep_emp' _), ⟨_, T3, rfl⟩, ?_⟩
      (try (push_cast (maxSteps := 1000000) [hmin]))
      (refine .inr ⟨_, beside f7, rfl, ?_⟩)
      rintro r G' ⟨rfl, hG⟩
      (try (push_cast (maxSteps := 1000000)))
      exact res_of (bL true) rfl rfl ⟨⟨trivial, trivial⟩, rfl⟩
    · (try (push_cast (maxSteps := 1000000)))
      (refine .inl ⟨_, f25 (toldD l u) (-1), rfl, ?_⟩; try (push_cast (maxSteps := 1000000)))
      (refine .inr ⟨_, (stop2 l u stop (by omega) hs1).conseq (emp_sep' _), rfl, ?_⟩)
      rintro r G' ⟨rfl, hG⟩
      (try (push_cast (maxSteps := 1000000)))
      (refine .inl ⟨_, f24 _ stop (by (try rw [List.length_append]); omega), rfl, ?_⟩; try (push_cast (maxSteps := 1000000)))
      (refine .inl ⟨_, f11 _ _ (by rw [List.length_take]; (try rw [List.length_append]); omega), rfl, ?_⟩; try (push_cast (maxSteps := 1000000)))
      refine ⟨3, .i64, _, Gh.emp, hG.trans (sep_emp' _), ⟨_, T3, rfl⟩, ?_⟩
      (try (push_cast (maxSteps := 1000000) [hmin]))
      (refine .inr ⟨_, beside f7, rfl, ?_⟩)
      rintro r G' ⟨rfl, hG⟩
      (try (push_cast (maxSteps := 1000000)))
      exact res_of (bL true) rfl rfl ⟨⟨trivial, trivial⟩, rfl⟩
    · (try (push_cast (maxSteps := 1000000)))
      (refine .inl ⟨_, f10 l, rfl, ?_⟩; try (push_cast (maxSteps := 1000000)))
      refine ⟨rfl, ?_⟩
      (refine .inl ⟨_, f30 [toldD l u, .clo 34 [.at_ [rowD l]]], rfl, ?_⟩; try (push_cast (maxSteps := 1000000)))
      ((repeat' (with_reducible refine And.intro ?_ ?_)) <;> try (first | trivial | omega | exact inK64 (by omega) (by omega) | exact inKu8 (by omega) (by omega) | (simp only [maxLen]; omega) | exact .inl trivial | exact .inl rfl))
      (refine .inr ⟨_, (stop3 l u stop (by omega) hs1).conseq (emp_sep' _), rfl, ?_⟩)
      rintro r G' ⟨rfl, hG⟩
      (try (push_cast (maxSteps := 1000000)))
      (refine .inl ⟨_, f24' l stop (by omega), rfl, ?_⟩; try (push_cast (maxSteps := 1000000)))
      (refine .inl ⟨_, f11 _ _ (by rw [List.length_take, List.length_append]; omega), rfl, ?_⟩; try (push_cast (maxSteps := 1000000)))
      refine ⟨3, .i64, _, Gh.emp, hG.trans (sep_emp' _), ⟨_, T3, rfl⟩, ?_⟩
      (try (push_cast (maxSteps := 1000000) [hmin]))
      (refine .inr ⟨_, beside f7, rfl, ?_⟩)
      rintro r G' ⟨rfl, hG⟩
      (try (push_cast (maxSteps := 1000000)))
      exact res_of (bL true) rfl rfl ⟨⟨trivial, trivial⟩, rfl⟩
    · (try (push_cast (maxSteps := 1000000)))
      (refine .inl ⟨_, f16 (toldD l u) (.clo 31 []), rfl, ?_⟩; try (push_cast (maxSteps := 1000000)))
      (refine .inr ⟨_, (stop4 l u stop (by omega) hs1).conseq (emp_sep' _), rfl, ?_⟩)
      rintro r G' ⟨rfl, hG⟩
      (try (push_cast (maxSteps := 1000000)))
      (refine .inl ⟨_, f24 _ stop (by (try rw [List.length_append]); omega), rfl, ?_⟩; try (push_cast (maxSteps := 1000000)))
      (refine .inl ⟨_, f11 _ _ (by rw [List.length_take]; (try rw [List.length_append]); omega), rfl, ?_⟩; try (push_cast (maxSteps := 1000000)))
      refine ⟨3, .i64, _, Gh.emp, hG.trans (sep_emp' _), ⟨_, T3, rfl⟩, ?_⟩
      (try (push_cast (maxSteps := 1000000) [hmin]))
      (refine .inr ⟨_, beside f7, rfl, ?_⟩)
      rintro r G' ⟨rfl, hG⟩
      (try (push_cast (maxSteps := 1000000)))
      exact res_of (bL true) rfl rfl ⟨⟨trivial, trivial⟩, rfl⟩
    · (try (push_cast (maxSteps := 1000000)))
      (refine .inl ⟨_, f23 (toldD l u) 1000, rfl, ?_⟩; try (push_cast (maxSteps := 1000000)))
      (refine .inr ⟨_, (stop5 l u stop (by omega) hs1).conseq (emp_sep' _), rfl, ?_⟩)
      rintro r G' ⟨rfl, hG⟩
      (try (push_cast (maxSteps := 1000000)))
      (refine .inl ⟨_, f24 _ stop (by (try rw [List.length_append]); omega), rfl, ?_⟩; try (push_cast (maxSteps := 1000000)))
      (refine .inl ⟨_, f11 _ _ (by rw [List.length_take]; (try rw [List.length_append]); omega), rfl, ?_⟩; try (push_cast (maxSteps := 1000000)))
      refine ⟨3, .i64, _, Gh.emp, hG.trans (sep_emp' _), ⟨_, T3, rfl⟩, ?_⟩
      (try (push_cast (maxSteps := 1000000) [hmin]))
      (refine .inr ⟨_, beside f7, rfl, ?_⟩)
      rintro r G' ⟨rfl, hG⟩
      (try (push_cast (maxSteps := 1000000)))
      exact res_of (bL true) rfl rfl ⟨⟨trivial, trivial⟩, rfl⟩
end Go.LS.Tryr
