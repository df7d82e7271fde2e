/- Contracts of the functions of the seat, one by one (part RWT); no condition but those that each bears. -/
import Derived.Test.YtjgcgjjdfnhhgaaRW8
import Derived.Test.YtjgcgjjdfnhhgaaRW9
namespace Go.LS.Tryr
open Go Go.LS
set_option maxRecDepth 100000
set_option linter.unusedVariables false
set_option linter.unusedSimpArgs false
set_option linter.unusedVariables false

/-- What has been asked for behind Take. -/
theorem asked_take (l : List Int) (u : Value) (n k0 : Int) : (if n < 1 then Gh.box u 3 (nD k0) else if n ≤ l.length then Gh.box u 3 (nD (k0 + ((n.toNat - 1 : Nat) : Int) + 1)) else Gh.box u 3 (nD (k0 + l.length))) = Gh.box u 3 (nD (k0 + (l.take n.toNat).length)) := by
  rw [List.length_take]
  split
  · rw [show n.toNat = 0 by omega]; simp
  · split
    · rw [show k0 + ((n.toNat - 1 : Nat) : Int) + 1 = k0 + ((min n.toNat l.length : Nat) : Int) by omega]
    · rw [show k0 + (l.length : Int) = k0 + ((min n.toNat l.length : Nat) : Int) by omega]

theorem first_all {fi : FuncId} {caps : List DV} {l : List Int} {K : Gh} {Kt : Nat → Gh} {Kl : Gh} (hit : IterT V (.clo fi caps) (l.map nL) K Kt Kl) (hlen : l.length ≤ 1000000) :
    SpecG V 15 [.c (.d (.clo fi caps)), nL 0] K fun r G => r = .c (.d (rowD l)) ∧ Ent G Kl := by
  have h := f15 hit 0 hlen
  refine ⟨h.1, fun w O E us hG hEO hO hd => (h.2 w O E us hG hEO hO hd).mono ?_⟩
  rintro e w' ⟨v, r, G', E', h0, h1, h2⟩
  refine ⟨v, r, G', E', h0, ?_, h2⟩
  rcases h1 with ⟨h1, h3, _⟩ | ⟨i, _, hi, _⟩
  · exact ⟨h1, h3⟩
  · omega

/-- A function that wants nothing of others, beside whatever others hold. -/
theorem beside {f : FuncId} {args : List LV} {r0 : LV} {G : Gh} (h : SpecG V f args Gh.emp fun r G => r = r0 ∧ Ent G Gh.emp) : SpecG V f args G fun r G' => r = r0 ∧ Ent G' G := by
  have h1 := (h.frame G).conseq (sep_emp' G)
  refine ⟨h1.1, fun w O E us hG hEO hO hd => (h1.2 w O E us hG hEO hO hd).mono ?_⟩
  rintro e w' ⟨v, r, G', E', h0, ⟨G1, ⟨h2, h3⟩, rfl⟩, h4⟩
  exact ⟨v, r, _, E', h0, ⟨h2, (sep_mono (Ent.refl _) h3).trans (sep_emp _)⟩, h4⟩

theorem f5 (l : List Int) (n : Int) (hlen : l.length ≤ 1048576) : SpecG V 5 [.c (.d (rowD l)), nL n] Gh.emp fun r _ => r = bL true := by
  (refine SpecG.of_go V_G (L := fun | 0 => some [0, 1] | 1 => some [0, 1, 10] | 2 => some [4] | 3 => some [0, 1, 5] | 4 => some [0, 1, 5, 6] | 5 => some [0, 1, 6, 34] | 6 => some [4] | 7 => some [0, 1, 7] | 8 => some [4] | _ => none) 1000 Go.Proofs.Try.func5 rfl rfl ⟨Nat.le_of_ble_eq_true rfl, rfl⟩ ?_; unfold Go.Proofs.Try.f5; push_cast (maxSteps := 1000000))
  by_cases hl : 100 < l.length
  · have hd : decide (100 < (l.length : Int)) = true := decide_eq_true (by omega)
    (try (push_cast (maxSteps := 1000000) [hd]))
    (refine .inr ⟨_, f7, rfl, ?_⟩)
    rintro r G' ⟨rfl, hG⟩
    (try (push_cast (maxSteps := 1000000)))
    exact res_of (bL true) rfl rfl ⟨⟨trivial, trivial⟩, rfl⟩
  · have hd : decide (100 < (l.length : Int)) = false := decide_eq_false (by omega)
    (try (push_cast (maxSteps := 1000000) [hd]))
    refine .inl ⟨0, 3, [.v (.int .i64 0)], rfl, fun u => ?_⟩
    (try (push_cast (maxSteps := 1000000)))
    (refine .inl ⟨_, f17 l u, rfl, ?_⟩; try (push_cast (maxSteps := 1000000)))
    (refine .inl ⟨_, f23 _ n, rfl, ?_⟩; try (push_cast (maxSteps := 1000000)))
    have ht : (l.take n.toNat).length ≤ 100 := by rw [List.length_take]; omega
    have e1 := first_all (f39 (f36 l u 0 (by omega) (by omega) (by omega)) n (by omega)) (by omega)
    rw [asked_take, Int.zero_add] at e1
    have e2 := first_all (f39 (f36 l u (l.take n.toNat).length (by omega) (by omega) (by omega)) n (by omega)) (by omega)
    have r1 := f24 l n (by omega)
    have r2 := f26 l n (by omega)
    have r3 := f11 (l.take n.toNat) (l.take n.toNat) (by omega)
    rw [decide_eq_true rfl] at r3
    have r4 := f11 (l.drop n.toNat) (l.drop n.toNat) (by rw [List.length_drop]; omega)
    rw [decide_eq_true rfl] at r4
    have r5 := f21 (f40 (f34 l (by omega)) n (by omega)) (by rw [List.length_drop]; omega)
    refine DrawG.cut V_G (.one 0 (.one 1 (.one 2 (.take 3 (.take 5 (.take 6 (.one 4 (.one 7 (.one 8 (.one 9 (.one 10 (.one 11 (.take 13 (.take 14 (.two 12 (.one 15 (.one 16 (.one 17 (.one 18 .done)))) 15 (.two 12 (.one 16 (.one 17 (.one 18 .done))) 16 (.one 12 (.one 17 (.one 18 .done))))))))))))))))))) 1000 (by decide +kernel) ⟨[(34, bL false), (6, .c (.d (.clo 39 [.at_ [.v (.int .i64 n)], .at_ [.clo 36 [.at_ [rowD l], .at_ [.v u]]]]))), (0, .c (.d (rowD l))), (1, nL n)], [.dead]⟩ (Gh.box u 3 (nD (l.take n.toNat).length)) ?_ ?_
    · (try (push_cast (maxSteps := 1000000)))
      refine ⟨3, .i64, 0, Gh.emp, (emp_sep' _).trans (sep_emp' _), ⟨_, T3, rfl⟩, ?_⟩
      (try (push_cast (maxSteps := 1000000)))
      (refine .inr ⟨_, e1.conseq (sep_emp _), rfl, ?_⟩)
      rintro r G' ⟨rfl, hG⟩
      (try (push_cast (maxSteps := 1000000)))
      (refine .inl ⟨_, r1, rfl, ?_⟩; try (push_cast (maxSteps := 1000000)))
      (refine .inl ⟨_, r3, rfl, ?_⟩; try (push_cast (maxSteps := 1000000)))
      refine ⟨?_, ?_⟩
      · refine ⟨3, .i64, _, Gh.emp, hG.trans (sep_emp' _), ⟨_, T3, rfl⟩, ?_⟩
        (try (push_cast (maxSteps := 1000000)))
        (refine .inl ⟨_, r1, rfl, ?_⟩; try (push_cast (maxSteps := 1000000)))
        refine ⟨Le.st ?_, sep_emp _⟩
        (try (push_cast (maxSteps := 1000000)))
        try rfl
      · (refine .inl ⟨_, r1, rfl, ?_⟩; try (push_cast (maxSteps := 1000000)))
        ((repeat' (with_reducible refine And.intro ?_ ?_)) <;> try (first | trivial | omega | exact inK64 (by omega) (by omega) | exact inKu8 (by omega) (by omega) | (simp only [maxLen]; omega) | exact .inl trivial | exact .inl rfl))
        all_goals (refine ⟨3, .i64, _, Gh.emp, hG.trans (sep_emp' _), ⟨_, T3, rfl⟩, ?_⟩; (try (push_cast (maxSteps := 1000000))))
        all_goals (refine ⟨Le.st ?_, sep_emp _⟩; (try (push_cast (maxSteps := 1000000))); try rfl)
    · (try (push_cast (maxSteps := 1000000)))
      (refine .inr ⟨_, e2, rfl, ?_⟩)
      rintro r G' ⟨rfl, hG⟩
      (try (push_cast (maxSteps := 1000000)))
      (refine .inl ⟨_, r1, rfl, ?_⟩; try (push_cast (maxSteps := 1000000)))
      (refine .inl ⟨_, r3, rfl, ?_⟩; try (push_cast (maxSteps := 1000000)))
      (refine .inl ⟨_, f10 l, rfl, ?_⟩; try (push_cast (maxSteps := 1000000)))
      (refine .inl ⟨_, f25 _ n, rfl, ?_⟩; try (push_cast (maxSteps := 1000000)))
      (refine .inr ⟨_, beside r5, rfl, ?_⟩)
      rintro r G' ⟨rfl, hG⟩
      (try (push_cast (maxSteps := 1000000)))
      (refine .inl ⟨_, r2, rfl, ?_⟩; try (push_cast (maxSteps := 1000000)))
      (refine .inl ⟨_, r4, rfl, ?_⟩; try (push_cast (maxSteps := 1000000)))
      (refine .inr ⟨_, beside f7, rfl, ?_⟩)
      rintro r G' ⟨rfl, hG⟩
      (try (push_cast (maxSteps := 1000000)))
      exact res_of (bL true) rfl rfl ⟨⟨trivial, trivial⟩, rfl⟩
end Go.LS.Tryr
