/- Contracts of the functions of the seat, one by one (part RW8); no condition but those that each bears. -/
import Derived.Test.YtjgcgjjdfnhhgaaRW4
import Derived.Test.YtjgcgjjdfnhhgaaRW5
import Derived.Test.YtjgcgjjdfnhhgaaRW6
import Derived.Test.YtjgcgjjdfnhhgaaRW7
namespace Go.LS.Tryr
open Go Go.LS
set_option maxRecDepth 100000
set_option linter.unusedVariables false
set_option linter.unusedSimpArgs false
set_option linter.unusedVariables false

theorem nL_dat {l : List Int} (i : Nat) (x : LV) (h : (l.map nL)[i]? = some x) : dataL x = true := by obtain ⟨n, _, rfl⟩ := nL_data h; rfl
theorem rowL_data {l : List (List Int)} {i : Nat} {x : LV} (h : (l.map rowL)[i]? = some x) : ∃ r, l[i]? = some r ∧ x = rowL r := by
  rw [List.getElem?_map] at h
  cases hl : l[i]? with
  | none => rw [hl] at h; cases h
  | some n => rw [hl] at h; injection h with h; exact ⟨n, rfl, h.symm⟩

/-- The document's example. -/
theorem f7 : SpecG V 7 [] Gh.emp fun r G => r = bL true ∧ Ent G Gh.emp := by
  (refine SpecG.of_go V_G (L := fun | 0 => some [] | 1 => some [1] | 2 => some [1, 2] | 3 => some [1, 2, 8] | 4 => some [0] | 5 => some [1, 9] | 6 => some [1, 3, 9] | 7 => some [1, 9] | 8 => some [0] | _ => none) 1000 Go.Proofs.Try.func7 rfl rfl ⟨Nat.le_of_ble_eq_true rfl, rfl⟩ ?_; unfold Go.Proofs.Try.f7; push_cast (maxSteps := 1000000))
  (refine .inl ⟨_, f10 [1, 2, 3], rfl, ?_⟩; try (push_cast (maxSteps := 1000000)))
  (refine .inl ⟨_, f9 _ 2, rfl, ?_⟩; try (push_cast (maxSteps := 1000000)))
  have h := f33 (f34 [1, 2, 3] (by simp)) 2 (by simp)
  rw [show (if (2 : Int) < 1 then [] else chunkF (Int.toNat 2) [] [1, 2, 3]) = [[1, 2], [3]] from rfl] at h
  refine RangeG.all V_G rfl (fun k => [.bx 3 [.d (.v (.int .i64 (if k = 0 then 0 else if k = 1 then 2 else 21)))], .dead]) rfl h (fun i x h => by obtain ⟨n, _, rfl⟩ := rowL_data h; rfl) (fun _ => Gh.emp) (fun _ => True) trivial (sep_emp' _) (by (try (push_cast (maxSteps := 1000000)))) (by rfl) (by rfl) (by rfl) 1000 ?_ ?_
  · intro lp pv i x hx _
    match i, hx with
    | 0, hx =>
      simp only [List.map_cons, List.getElem?_cons_zero, Option.some.injEq] at hx
      subst hx
      (try (push_cast (maxSteps := 1000000)))
      refine BodyG.go V_G 1000 ?_
      (try (push_cast (maxSteps := 1000000) [rowL, rowD]))
      ((repeat' (with_reducible refine And.intro ?_ ?_)) <;> try (first | trivial | omega | exact inK64 (by omega) (by omega) | exact inKu8 (by omega) (by omega) | (simp only [maxLen]; omega) | exact .inl trivial | exact .inl rfl))
      · exact Le.st (by (try (push_cast (maxSteps := 1000000))); try rfl)
      · exact Ent.refl _
    | 1, hx =>
      simp only [List.map_cons, List.getElem?_cons_zero, List.getElem?_cons_succ, Option.some.injEq] at hx
      subst hx
      (try (push_cast (maxSteps := 1000000)))
      refine BodyG.go V_G 1000 ?_
      (try (push_cast (maxSteps := 1000000) [rowL, rowD]))
      ((repeat' (with_reducible refine And.intro ?_ ?_)) <;> try (first | trivial | omega | exact inK64 (by omega) (by omega) | exact inKu8 (by omega) (by omega) | (simp only [maxLen]; omega) | exact .inl trivial | exact .inl rfl))
      · exact Le.st (by (try (push_cast (maxSteps := 1000000))); try rfl)
      · exact Ent.refl _
    | i + 2, hx => simp at hx
  · intro _
    (try (push_cast (maxSteps := 1000000)))
    (refine .inl ⟨_, f10 [4, 5], rfl, ?_⟩; try (push_cast (maxSteps := 1000000)))
    (refine .inr ⟨_, (f32 nL_dat (f34 [4, 5] (by simp)) (by simp)).conseq (sep_emp _), rfl, ?_⟩)
    rintro r G' ⟨rfl, hG⟩
    (try (push_cast (maxSteps := 1000000)))
    exact res_of (bL true) ⟨rfl, hG⟩ rfl ⟨⟨trivial, trivial⟩, rfl⟩
end Go.LS.Tryr
