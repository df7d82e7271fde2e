/- Contracts of the functions of the seat, one by one (part RW5); no condition but those that each bears. -/
import Derived.Test.YtjgcgjjdfnhhgaaRW3
namespace Go.LS.Tryr
open Go Go.LS
set_option maxRecDepth 100000
set_option linter.unusedVariables false
set_option linter.unusedSimpArgs false
set_option linter.unusedVariables false

/-- rows.Skip. -/
theorem f40 {d : DV} {l : List Int} {K : Gh} {Kt : Nat → Gh} {Kl : Gh} (hit : IterT V d (l.map nL) K Kt Kl) (n : Int) (hlen : l.length ≤ 1000000) :
    IterT V (.clo 40 [.at_ [d], .at_ [.v (.int .i64 n)]]) ((l.drop n.toNat).map nL) K (fun j => Kt (n.toNat + j)) Kl := by
  intro lp J Jx hY
  refine ⟨40, _, rfl, ?_⟩
  simp only [List.map_cons, List.map_nil, List.cons_append, List.nil_append, yv, List.length_map]
  (refine SpecG.of_go V_G (L := fun | 0 => some [1, 2, 3] | 1 => some [1, 2, 3, 4] | 2 => some [2, 3, 4, 6] | 3 => some [2, 3, 4, 5, 6] | 4 => some [2, 3, 4, 5, 6, 10] | 5 => some [2, 3, 4, 6] | 6 => some [2, 3, 4, 6, 16] | _ => none) 1000 Go.Proofs.Try.func40 rfl rfl ⟨Nat.le_of_ble_eq_true rfl, rfl⟩ ?_; unfold Go.Proofs.Try.f40; push_cast (maxSteps := 1000000))
  refine RangeG.one V_G rfl (fun k => [.bx 35 [.d (.v (.func (.yield lp) #[] #[]))], .bx 3 [.d (.v (.int .i64 (min k n.toNat : Nat)))]]) rfl hit (fun i x h => by obtain ⟨n, _, rfl⟩ := nL_data h; rfl) (fun k => J (k - n.toNat)) (fun k => True) trivial
    (β := Unit) .ret (fun i b => n.toNat ≤ i) (fun i _ => [.bx 35 [.d (.v (.func (.yield lp) #[] #[]))], .bx 3 [.d (.v (.int .i64 (min i n.toNat : Nat)))]]) (fun i b => Jx (i - n.toNat)) (by rw [Nat.zero_sub]; exact Ent.refl _) (by (try (push_cast (maxSteps := 1000000))); simp) (by rfl) (by rfl) (by rfl) 1000 ?_ ?_ ?_
  · intro lp2 pv i x hx hok
    obtain ⟨m, hm, rfl⟩ := nL_data hx
    have hi := (List.getElem?_eq_some_iff.1 hm).1
    (try (push_cast (maxSteps := 1000000)))
    refine BodyG.go V_G 1000 ?_
    (try (push_cast (maxSteps := 1000000)))
    refine BrP.mk (fun h => ?_) (fun h => ?_) <;> try (push_cast (maxSteps := 1000000) [h])
    · have h' := of_decide_eq_true h
      ((repeat' (with_reducible refine And.intro ?_ ?_)) <;> try (first | trivial | omega | exact inK64 (by omega) (by omega) | exact inKu8 (by omega) (by omega) | (simp only [maxLen]; omega) | exact .inl trivial | exact .inl rfl))
      · rw [show (((min (i + 1) n.toNat : Nat)) : Int) = ((min i n.toNat : Nat) : Int) + 1 by omega]
        refine Le.st ?_
        (try (push_cast (maxSteps := 1000000)))
        rfl
      · rw [show i - n.toNat = i + 1 - n.toNat by omega]
        exact Ent.refl _
    · have h' := of_decide_eq_false h
      have hni : n.toNat ≤ i := by omega
      have hm2 : (l.drop n.toNat)[i - n.toNat]? = some m := by rw [List.getElem?_drop, show n.toNat + (i - n.toNat) = i by omega]; exact hm
      (refine ⟨_, _, hY (i - n.toNat) _ (nL_get hm2), rfl, ?_, ?_⟩ <;> try (push_cast (maxSteps := 1000000)))
      · refine ⟨?_, ?_⟩
        · rw [show min (i + 1) n.toNat = min i n.toNat by omega]
          refine Le.st ?_
          (try (push_cast (maxSteps := 1000000)))
          rfl
        · rw [show i + 1 - n.toNat = i - n.toNat + 1 by omega]
          exact Ent.refl _
      · refine ⟨(), hni, Le.st ?_, Ent.refl _⟩
        (try (push_cast (maxSteps := 1000000)))
        rfl
  · intro hok
    (try (push_cast (maxSteps := 1000000)))
    refine res_tu (.inl ?_)
    rw [List.length_drop]
    exact Ent.refl _
  · rintro i x b hoc hx
    obtain ⟨m, hm, rfl⟩ := nL_data hx
    have hm2 : (l.drop n.toNat)[i - n.toNat]? = some m := by rw [List.getElem?_drop, show n.toNat + (i - n.toNat) = i by omega]; exact hm
    (try (push_cast (maxSteps := 1000000)))
    refine res_tu (.inr ⟨i - n.toNat, _, nL_get hm2, ?_⟩)
    rw [show n.toNat + (i - n.toNat) = i by omega]
    exact Ent.refl _

end Go.LS.Tryr
