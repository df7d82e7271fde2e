/- Contracts of the functions of the seat, one by one (part RW6); no condition but those that each bears. -/
import Derived.Test.YtjgcgjjdfnhhgaaRW3
namespace Go.LS.Tryr
open Go Go.LS
set_option maxRecDepth 100000
set_option linter.unusedVariables false
set_option linter.unusedSimpArgs false
set_option linter.unusedVariables false

/-- rows.Map. -/
theorem f37 {d : DV} {ff : FuncId} {cs : List DV} {o : Int → Value} {l : List Int} {K : Gh} {Kt : Nat → Gh} {Kl : Gh} (hit : IterT V d (l.map nL) K Kt Kl) (hp : ∀ x ∈ l, Spec V ff (nL x :: cs.map fun d => .c (.d d)) (.c (.d (.v (o x))))) (hlen : l.length ≤ 1000000) :
    IterT V (.clo 37 [.at_ [d], .at_ [.clo ff cs]]) (l.map fun x => .c (.d (.v (o x)))) K Kt Kl := by
  intro lp J Jx hY
  refine ⟨37, _, rfl, ?_⟩
  simp only [List.map_cons, List.map_nil, List.cons_append, List.nil_append, yv, List.length_map]
  (refine SpecG.of_go V_G (L := fun | 0 => some [1, 2, 3] | 1 => some [2, 3, 5] | 2 => some [2, 3, 4, 5] | 3 => some [2, 3, 5, 12] | _ => none) 1000 Go.Proofs.Try.func37 rfl rfl ⟨Nat.le_of_ble_eq_true rfl, rfl⟩ ?_; unfold Go.Proofs.Try.f37; push_cast (maxSteps := 1000000))
  refine RangeG.one V_G rfl (fun k => [.bx 55 [.d (.v (.func (.yield lp) #[] #[]))]]) rfl hit (fun i x h => by obtain ⟨n, _, rfl⟩ := nL_data h; rfl) J (fun k => True) trivial
    (β := Unit) .ret (fun i b => True) (fun i _ => [.bx 55 [.d (.v (.func (.yield lp) #[] #[]))]]) (fun i b => Jx i) (Ent.refl _) (by (try (push_cast (maxSteps := 1000000)))) (by rfl) (by rfl) (by rfl) 1000 ?_ ?_ ?_
  · intro lp2 pv i x hx _
    obtain ⟨m, hm, rfl⟩ := nL_data hx
    have hm2 : (l.map fun x => LV.c (.d (.v (o x))))[i]? = some (.c (.d (.v (o m)))) := by rw [List.getElem?_map, hm]; rfl
    (try (push_cast (maxSteps := 1000000)))
    refine BodyG.go V_G 1000 ?_
    (try (push_cast (maxSteps := 1000000)))
    refine DrawG.of V_G (.take 2 (.two 0 (.one 1 (.one 3 (.one 4 (.one 5 .done)))) 1 (.two 0 (.one 3 (.one 4 (.one 5 .done))) 3 (.one 0 (.one 4 (.one 5 .done)))))) 1000 (by decide +kernel) ?_
    (try (push_cast (maxSteps := 1000000)))
    ((repeat' (with_reducible refine And.intro ?_ ?_)) <;> try (first | trivial | omega | exact inK64 (by omega) (by omega) | exact inKu8 (by omega) (by omega) | (simp only [maxLen]; omega) | exact .inl trivial | exact .inl rfl))
    all_goals (refine .inl ⟨_, hp m (List.mem_of_getElem? hm), by simp [dataL, data1, dataC], ?_⟩; (try (push_cast (maxSteps := 1000000))); refine ⟨_, _, hY i _ hm2, rfl, ?_, ?_⟩)
    all_goals (try (push_cast (maxSteps := 1000000)))
    all_goals first
      | (refine ⟨Le.st ?_, Ent.refl _⟩; (try (push_cast (maxSteps := 1000000))); try rfl)
      | (refine ⟨(), Le.st ?_, Ent.refl _⟩; (try (push_cast (maxSteps := 1000000))); try rfl)
  · intro _
    (try (push_cast (maxSteps := 1000000)))
    refine res_tu (.inl ?_)
    exact Ent.refl _
  · rintro i x b _ hx
    obtain ⟨m, hm, rfl⟩ := nL_data hx
    have hm2 : (l.map fun x => LV.c (.d (.v (o x))))[i]? = some (.c (.d (.v (o m)))) := by rw [List.getElem?_map, hm]; rfl
    (try (push_cast (maxSteps := 1000000)))
    exact res_tu (.inr ⟨i, _, hm2, Ent.refl _⟩)
theorem f41 {d : DV} {ff : FuncId} {cs : List DV} {o : Int → Value} {l : List Int} {K : Gh} {Kt : Nat → Gh} {Kl : Gh} (hit : IterT V d (l.map nL) K Kt Kl) (hp : ∀ x ∈ l, Spec V ff (nL x :: cs.map fun d => .c (.d d)) (.c (.d (.v (o x))))) (hlen : l.length ≤ 1000000) :
    IterT V (.clo 41 [.at_ [d], .at_ [.clo ff cs]]) (l.map fun x => .c (.d (.v (o x)))) K Kt Kl := by
  intro lp J Jx hY
  refine ⟨41, _, rfl, ?_⟩
  simp only [List.map_cons, List.map_nil, List.cons_append, List.nil_append, yv, List.length_map]
  (refine SpecG.of_go V_G (L := fun | 0 => some [1, 2, 3] | 1 => some [2, 3, 5] | 2 => some [2, 3, 4, 5] | 3 => some [2, 3, 5, 12] | _ => none) 1000 Go.Proofs.Try.func41 rfl rfl ⟨Nat.le_of_ble_eq_true rfl, rfl⟩ ?_; unfold Go.Proofs.Try.f41; push_cast (maxSteps := 1000000))
  refine RangeG.one V_G rfl (fun k => [.bx 35 [.d (.v (.func (.yield lp) #[] #[]))]]) rfl hit (fun i x h => by obtain ⟨n, _, rfl⟩ := nL_data h; rfl) J (fun k => True) trivial
    (β := Unit) .ret (fun i b => True) (fun i _ => [.bx 35 [.d (.v (.func (.yield lp) #[] #[]))]]) (fun i b => Jx i) (Ent.refl _) (by (try (push_cast (maxSteps := 1000000)))) (by rfl) (by rfl) (by rfl) 1000 ?_ ?_ ?_
  · intro lp2 pv i x hx _
    obtain ⟨m, hm, rfl⟩ := nL_data hx
    have hm2 : (l.map fun x => LV.c (.d (.v (o x))))[i]? = some (.c (.d (.v (o m)))) := by rw [List.getElem?_map, hm]; rfl
    (try (push_cast (maxSteps := 1000000)))
    refine BodyG.go V_G 1000 ?_
    (try (push_cast (maxSteps := 1000000)))
    refine DrawG.of V_G (.take 2 (.two 0 (.one 1 (.one 3 (.one 4 (.one 5 .done)))) 1 (.two 0 (.one 3 (.one 4 (.one 5 .done))) 3 (.one 0 (.one 4 (.one 5 .done)))))) 1000 (by decide +kernel) ?_
    (try (push_cast (maxSteps := 1000000)))
    ((repeat' (with_reducible refine And.intro ?_ ?_)) <;> try (first | trivial | omega | exact inK64 (by omega) (by omega) | exact inKu8 (by omega) (by omega) | (simp only [maxLen]; omega) | exact .inl trivial | exact .inl rfl))
    all_goals (refine .inl ⟨_, hp m (List.mem_of_getElem? hm), by simp [dataL, data1, dataC], ?_⟩; (try (push_cast (maxSteps := 1000000))); refine ⟨_, _, hY i _ hm2, rfl, ?_, ?_⟩)
    all_goals (try (push_cast (maxSteps := 1000000)))
    all_goals first
      | (refine ⟨Le.st ?_, Ent.refl _⟩; (try (push_cast (maxSteps := 1000000))); try rfl)
      | (refine ⟨(), Le.st ?_, Ent.refl _⟩; (try (push_cast (maxSteps := 1000000))); try rfl)
  · intro _
    (try (push_cast (maxSteps := 1000000)))
    refine res_tu (.inl ?_)
    exact Ent.refl _
  · rintro i x b _ hx
    obtain ⟨m, hm, rfl⟩ := nL_data hx
    have hm2 : (l.map fun x => LV.c (.d (.v (o x))))[i]? = some (.c (.d (.v (o m)))) := by rw [List.getElem?_map, hm]; rfl
    (try (push_cast (maxSteps := 1000000)))
    exact res_tu (.inr ⟨i, _, hm2, Ent.refl _⟩)
end Go.LS.Tryr
