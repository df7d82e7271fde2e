/- Contracts of the functions of the seat, one by one (part RW4); no condition but those that each bears. -/
import Derived.Test.YtjgcgjjdfnhhgaaRW3
namespace Go.LS.Tryr
open Go Go.LS
set_option maxRecDepth 100000
set_option linter.unusedVariables false
set_option linter.unusedSimpArgs false
set_option linter.unusedVariables false

/-- rows.Take: no more is asked than is told. -/
theorem f39 {d : DV} {l : List Int} {K : Gh} {Kt : Nat → Gh} {Kl : Gh} (hit : IterT V d (l.map nL) K Kt Kl) (n : Int) (hlen : l.length ≤ 1000000) :
    IterT V (.clo 39 [.at_ [.v (.int .i64 n)], .at_ [d]]) ((l.take n.toNat).map nL) K Kt (if n < 1 then K else if n ≤ l.length then Kt (n.toNat - 1) else Kl) := by
  intro lp J Jx hY
  refine ⟨39, _, rfl, ?_⟩
  simp only [List.map_cons, List.map_nil, List.cons_append, List.nil_append, yv, List.length_map]
  (refine SpecG.of_go V_G (L := fun | 0 => some [1, 2, 3] | 1 => some [1, 2, 3, 7] | 2 => some [1, 2, 3, 4] | 3 => some [1, 3, 4, 8] | 4 => some [1, 3, 4, 5, 8] | 5 => some [1, 3, 4, 5, 8] | 6 => some [1, 3, 4, 8, 20] | _ => none) 1000 Go.Proofs.Try.func39 rfl rfl ⟨Nat.le_of_ble_eq_true rfl, rfl⟩ ?_; unfold Go.Proofs.Try.f39; push_cast (maxSteps := 1000000))
  refine BrP.mk (fun h => ?_) (fun h => ?_) <;> try (push_cast (maxSteps := 1000000) [h])
  · have h' := of_decide_eq_true h
    refine res_tu (.inl ?_)
    rw [if_pos h', show n.toNat = 0 by omega]
    exact Ent.refl _
  · have h' := of_decide_eq_false h
    rw [if_neg h']
    refine RangeG.one V_G rfl (fun k => [.bx 35 [.d (.v (.func (.yield lp) #[] #[]))], .bx 3 [.d (.v (.int .i64 k))]]) rfl hit (fun i x h => by obtain ⟨n, _, rfl⟩ := nL_data h; rfl) J (fun k => (k : Int) < n) (by simp; omega)
      (β := Bool) .ret (fun i b => (i : Int) < n ∧ (b = true → (i : Int) + 1 = n)) (fun i _ => [.bx 35 [.d (.v (.func (.yield lp) #[] #[]))], .bx 3 [.d (.v (.int .i64 (i + 1)))]]) (fun i b => if b then J (i + 1) else Jx i) (Ent.refl _) (by (try (push_cast (maxSteps := 1000000)))) (by rfl) (by rfl) (by rfl) 1000 ?_ ?_ ?_
    · intro lp2 pv i x hx hok
      obtain ⟨m, hm, rfl⟩ := nL_data hx
      have hi := (List.getElem?_eq_some_iff.1 hm).1
      have hm2 : (l.take n.toNat)[i]? = some m := by rw [List.getElem?_take_of_lt (by omega)]; exact hm
      (try (push_cast (maxSteps := 1000000)))
      refine BodyG.go V_G 1000 ?_
      (try (push_cast (maxSteps := 1000000)))
      ((repeat' (with_reducible refine And.intro ?_ ?_)) <;> try (first | trivial | omega | exact inK64 (by omega) (by omega) | exact inKu8 (by omega) (by omega) | (simp only [maxLen]; omega) | exact .inl trivial | exact .inl rfl))
      (refine ⟨_, _, hY i _ (nL_get hm2), rfl, ?_, ?_⟩ <;> try (push_cast (maxSteps := 1000000)))
      · refine BrP.mk (fun h => ?_) (fun h => ?_) <;> try (push_cast (maxSteps := 1000000) [h])
        · have h2 := of_decide_eq_true h
          refine ⟨true, ⟨hok, fun _ => h2⟩, Le.st ?_, Ent.refl _⟩
          (try (push_cast (maxSteps := 1000000)))
          rfl
        · have h2 := of_decide_eq_false h
          refine ⟨by omega, Le.st ?_, Ent.refl _⟩
          (try (push_cast (maxSteps := 1000000)))
          rfl
      · refine ⟨false, ⟨hok, fun h => by cases h⟩, Le.st ?_, Ent.refl _⟩
        (try (push_cast (maxSteps := 1000000)))
        rfl
    · intro hok
      (try (push_cast (maxSteps := 1000000)))
      simp only [List.length_map] at hok
      refine res_tu (.inl ?_)
      rw [if_neg (by omega), List.take_of_length_le (by omega)]
      exact Ent.refl _
    · rintro i x b ⟨hoc, hob⟩ hx
      obtain ⟨m, hm, rfl⟩ := nL_data hx
      have hi := (List.getElem?_eq_some_iff.1 hm).1
      have hm2 : (l.take n.toNat)[i]? = some m := by rw [List.getElem?_take_of_lt (by omega)]; exact hm
      cases b with
      | true =>
        have h2 := hob rfl
        (try (push_cast (maxSteps := 1000000)))
        refine res_tu (.inl ?_)
        rw [if_pos (by omega), show n.toNat - 1 = i by omega, List.length_take, Nat.min_eq_left (by omega), show n.toNat = i + 1 by omega]
        exact Ent.refl _
      | false =>
        (try (push_cast (maxSteps := 1000000)))
        exact res_tu (.inr ⟨i, _, nL_get hm2, Ent.refl _⟩)
end Go.LS.Tryr
