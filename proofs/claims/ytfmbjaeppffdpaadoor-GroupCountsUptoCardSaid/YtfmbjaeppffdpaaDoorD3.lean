/- Contracts of the functions of the seat, one by one (part D3); no condition but those that each bears. -/
import Derived.Test.YtfmbjaeppffdpaaDoorD2
import Derived.Test.YtfmbjaeppffdpaaDoorSA
namespace Go.LS.Tryd
open Go Go.LS
set_option maxRecDepth 100000
set_option linter.unusedSimpArgs false
set_option linter.unusedVariables false

theorem names56 (l : List Cl) (hl : okLen l) : Spec V 69 [.c (.d (.sl 3 (l.map eRC)))] (.c (.d (.sl 1 ((namesN l).map eS)))) := by
  have hS := f56 l hl
  rw [show (l.map fun c => eS c.name) = (namesN l).map eS by rw [namesN, List.map_map]; rfl] at hS
  exact hS
theorem d58 (t : Tb) (ht : okT0 t) : Spec V 58 [.ag ((eT t).map .d)] (b2 (fewT t)) := by
  obtain ⟨l, r⟩ := t
  obtain ⟨hl, hr, hvr⟩ := ht
  simp only at hl hr hvr
  have hrl : r.length ≤ 1099511627776 := hr
  (refine Spec.of_go (L := fun | 0 => some [1] | 1 => some [1, 16] | 2 => some [2] | 3 => some [18, 19, 20] | 4 => some [18, 19, 20, 21] | 5 => some [4, 18, 19, 20] | 6 => some [18, 19, 20, 24, 25, 26] | 7 => some [18, 19, 20, 24, 25, 26, 27] | 8 => some [6, 18, 19, 20, 24, 25, 26] | 9 => some [18, 19, 20, 24, 25, 26, 33] | 10 => some [2] | 11 => some [18, 19, 20, 24, 25, 26] | 12 => some [18, 19, 20] | 13 => some [2] | _ => none) 1000 Go.Proofs.Tryd.func58 rfl rfl ⟨Nat.le_of_ble_eq_true rfl, rfl⟩ rfl ?_; unfold Go.Proofs.Tryd.f58; push_cast (maxSteps := 1000000))
  refine ⟨_, f13 l hl.1, rfl, ?_⟩
  (try (push_cast (maxSteps := 1000000)))
  cases hL : (!longC l && decide (l.length ≤ 12)) with
  | false =>
    have hz : fewT ⟨l, r⟩ = false := by simp only [fewT]; rw [hL]; rfl
    (try (push_cast (maxSteps := 1000000)))
    exact hz.symm
  | true =>
    (try (push_cast (maxSteps := 1000000)))
    refine ⟨_, f19 r hr (fun x hx => (hvr x hx).1), rfl, ?_⟩
    (try (push_cast (maxSteps := 1000000)))
    cases hs : smallF r with
    | false =>
      have hz : fewT ⟨l, r⟩ = false := by simp only [fewT]; rw [hs]; simp
      (try (push_cast (maxSteps := 1000000)))
      exact hz.symm
    | true =>
      have hz : fewT ⟨l, r⟩ = r.all fun r => r.all rightF := by simp only [fewT]; rw [hL, hs]; simp
      (try (push_cast (maxSteps := 1000000)))
      rw [hz]
      refine LoopK.s1 (α := Nat) [20] (fun j => [i2 .i64 j]) (fun j => j ≤ r.length ∧ (r.drop j).all (fun r => r.all rightF) = r.all fun r => r.all rightF) (fun j => r.length - j) 1000 0 ⟨by omega, rfl⟩ (by (try (push_cast (maxSteps := 1000000)))) ?_
      rintro j ⟨hj, hc⟩
      by_cases hlt : j < r.length
      · have hv := List.getElem?_eq_getElem hlt; have hd : decide ((j : Int) < (r.length : Int)) = true := decide_eq_true (by omega)
        rw [drop_cons hv] at hc
        simp only [List.all_cons] at hc
        have hrow := hvr _ (List.getElem_mem hlt)
        generalize r[j] = row at *
        have hrw : row.length ≤ 1099511627776 := hrow.1
        (try (push_cast (maxSteps := 1000000) [hd, getD_map hv]))
        ((repeat' (with_reducible refine And.intro ?_ ?_)) <;> try (first | trivial | omega | exact inK64 (by omega) (by omega) | exact inKu8 (by omega) (by omega) | (simp only [maxLen]; omega) | exact .inl trivial | exact .inl rfl))
        refine LoopK.s1 (α := Nat) [26] (fun i => [i2 .i64 i]) (fun i => i ≤ row.length ∧ (row.drop i).all rightF = row.all rightF) (fun i => row.length - i) 1000 0 ⟨by omega, rfl⟩ (by (try (push_cast (maxSteps := 1000000)))) ?_
        rintro i ⟨hi, hc2⟩
        by_cases hlt2 : i < row.length
        · have hv2 := List.getElem?_eq_getElem hlt2
          have hd2 : decide ((i : Int) < (row.length : Int)) = true := decide_eq_true (by omega)
          rw [drop_cons hv2] at hc2
          simp only [List.all_cons] at hc2
          have hvl := hrow.2 _ (List.getElem_mem hlt2)
          generalize row[i] = v at *
          (try (push_cast (maxSteps := 1000000) [hd2, getD_map hv2]))
          ((repeat' (with_reducible refine And.intro ?_ ?_)) <;> try (first | trivial | omega | exact inK64 (by omega) (by omega) | exact inKu8 (by omega) (by omega) | (simp only [maxLen]; omega) | exact .inl trivial | exact .inl rfl))
          (have hS := f22 v; simp only [eS_eq, eN_eq, eV_eq, eRN_eq, eRV_eq, eC_eq, eRC_eq, List.map_cons, List.map_nil, i2, b2, s2] at hS; refine ⟨_, hS, rfl, ?_⟩; clear hS; try (push_cast (maxSteps := 1000000)))
          (have hS := f21 v hvl.1; simp only [eS_eq, eN_eq, eV_eq, eRN_eq, eRV_eq, eC_eq, eRC_eq, List.map_cons, List.map_nil, i2, b2, s2] at hS; refine ⟨_, hS, rfl, ?_⟩; clear hS; try (push_cast (maxSteps := 1000000)))
          refine BrP.mk (fun h => ?_) (fun h => ?_) <;> try (push_cast (maxSteps := 1000000) [h])
          · have hw : rightF v = false := by simpa using h
            rw [hw, Bool.false_and] at hc2
            rw [← hc2, Bool.false_and] at hc
            exact hc
          · have hw : rightF v = true := by simpa using h
            rw [hw, Bool.true_and] at hc2
            ((repeat' (with_reducible refine And.intro ?_ ?_)) <;> try (first | trivial | omega | exact inK64 (by omega) (by omega) | exact inKu8 (by omega) (by omega) | (simp only [maxLen]; omega) | exact .inl trivial | exact .inl rfl))
            refine ⟨i + 1, ⟨by omega, hc2⟩, by omega, Le.st ?_⟩
            (try (push_cast (maxSteps := 1000000)))
            all_goals rfl
        · have hd2 : decide ((i : Int) < (row.length : Int)) = false := decide_eq_false (by omega)
          rw [List.drop_eq_nil_of_le (by omega), List.all_nil] at hc2
          rw [← hc2, Bool.true_and] at hc
          (try (push_cast (maxSteps := 1000000) [hd2]))
          ((repeat' (with_reducible refine And.intro ?_ ?_)) <;> try (first | trivial | omega | exact inK64 (by omega) (by omega) | exact inKu8 (by omega) (by omega) | (simp only [maxLen]; omega) | exact .inl trivial | exact .inl rfl))
          refine ⟨j + 1, ⟨by omega, hc⟩, by omega, Le.st ?_⟩
          (try (push_cast (maxSteps := 1000000)))
      · have hd : decide ((j : Int) < (r.length : Int)) = false := decide_eq_false (by omega)
        rw [List.drop_eq_nil_of_le (by omega), List.all_nil] at hc
        (try (push_cast (maxSteps := 1000000) [hd]))
        exact hc
end Go.LS.Tryd
