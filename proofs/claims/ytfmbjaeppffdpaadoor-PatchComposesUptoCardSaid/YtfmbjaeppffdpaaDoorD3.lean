/- Contracts of the functions of the seat, one by one (part D3); no condition but those that each bears. -/
import Derived.Test.YtfmbjaeppffdpaaDoorD2
import Derived.Test.YtfmbjaeppffdpaaDoorSA
namespace Go.LS.Tryd
open Go Go.LS
set_option maxRecDepth 100000
set_option linter.unusedSimpArgs false
set_option linter.unusedVariables false

theorem names56 (l : List Cl) (hl : okLen l) : Spec V 69 [.c (.d (.sl 3 (l.map eRC)))] (.c (.d (.sl 1 ((namesN l).map eS)))) := by
  have hS := f56 l hl
  rw [show (l.map fun c => eS c.name) = (namesN l).map eS by rw [namesN, List.map_map]; rfl] at hS
  exact hS
theorem d70 (l : List Cl) (ks : List ByteArray) (a b : List Vl) (hl : okLen l) (hk : okLen ks) (hf : ∀ n ∈ ks, foundN l n) (ha : ∀ p ∈ placesN l ks, p < a.length) (hb : ∀ p ∈ placesN l ks, p < b.length) :
    Spec V 70 [.c (.d (.sl 3 (l.map eRC))), .c (.d (.sl 1 (ks.map eS))), .c (.d (.sl 4 (a.map eRV))), .c (.d (.sl 4 (b.map eRV)))] (b2 (alikeF (placesN l ks) a b)) := by
  have hkl : ks.length ≤ 1099511627776 := hk
  (refine Spec.of_go (L := fun | 0 => some [0, 1, 2, 3] | 1 => some [0, 2, 3, 12, 13, 14] | 2 => some [0, 2, 3, 12, 13, 14, 15] | 3 => some [0, 2, 3, 10, 12, 13, 14] | 4 => some [0, 2, 3, 11, 12, 13, 14] | 5 => some [0, 2, 3, 12, 13, 14, 30] | 6 => some [8] | 7 => some [0, 2, 3, 12, 13, 14] | 8 => some [8] | _ => none) 1000 Go.Proofs.Tryd.func70 rfl rfl ⟨Nat.le_of_ble_eq_true rfl, rfl⟩ rfl ?_; unfold Go.Proofs.Tryd.f70; push_cast (maxSteps := 1000000))
  refine LoopK.s1 (α := Nat) [14] (fun k => [i2 .i64 k]) (fun k => k ≤ ks.length ∧ alikeF (placesN l (ks.drop k)) a b = alikeF (placesN l ks) a b) (fun k => ks.length - k) 1000 0 ⟨by omega, rfl⟩ (by (try (push_cast (maxSteps := 1000000)))) ?_
  rintro k ⟨hk, hc⟩
  by_cases hlt : k < ks.length
  · have hv := List.getElem?_eq_getElem hlt; have hd : decide ((k : Int) < (ks.length : Int)) = true := decide_eq_true (by omega)
    have hfk := hf ks[k] (List.getElem_mem hlt)
    have hpm : placeN l ks[k] ∈ placesN l ks := List.mem_map.2 ⟨_, List.getElem_mem hlt, rfl⟩
    have hva := List.getElem?_eq_getElem (ha _ hpm)
    have hvb := List.getElem?_eq_getElem (hb _ hpm)
    have hpa := ha _ hpm
    have hpb := hb _ hpm
    rw [drop_cons hv] at hc
    simp only [placesN, List.map_cons, alikeF, List.all_cons, vAt_get hva, vAt_get hvb] at hc
    (try (push_cast (maxSteps := 1000000) [hd, getD_map hv]))
    ((repeat' (with_reducible refine And.intro ?_ ?_)) <;> try (first | trivial | omega | exact inK64 (by omega) (by omega) | exact inKu8 (by omega) (by omega) | (simp only [maxLen]; omega) | exact .inl trivial | exact .inl rfl))
    refine ⟨_, names56 l hl, rfl, ?_⟩
    (try (push_cast (maxSteps := 1000000)))
    have hS := f55 (namesN l) ks[k] (by simpa [okLen, namesN] using hl)
    rw [at_place hfk] at hS
    refine ⟨_, hS, rfl, ?_⟩
    (try (push_cast (maxSteps := 1000000)))
    (refine DrawK.of (.take 0 (.take 1 (.take 2 (.take 3 (.take 4 (.take 5 (.take 6 (.take 7 (.take 8 .done))))))))) 1000 (by decide +kernel) ?_; try (push_cast (maxSteps := 1000000)))
    (try (push_cast (maxSteps := 1000000) [getD_map hva, getD_map hvb]))
    ((repeat' (with_reducible refine And.intro ?_ ?_)) <;> try (first | trivial | omega | exact inK64 (by omega) (by omega) | exact inKu8 (by omega) (by omega) | (simp only [maxLen]; omega) | exact .inl trivial | exact .inl rfl))
    rw [sameV_r]
    refine BrP.mk (fun h => ?_) (fun h => ?_) <;> try (push_cast (maxSteps := 1000000) [h])
    · have h' : sameV a[placeN l ks[k]] b[placeN l ks[k]] = false := by simpa using h
      rw [h', Bool.false_and] at hc
      exact hc
    · have h' : sameV a[placeN l ks[k]] b[placeN l ks[k]] = true := by simpa using h
      rw [h', Bool.true_and] at hc
      ((repeat' (with_reducible refine And.intro ?_ ?_)) <;> try (first | trivial | omega | exact inK64 (by omega) (by omega) | exact inKu8 (by omega) (by omega) | (simp only [maxLen]; omega) | exact .inl trivial | exact .inl rfl))
      refine ⟨k + 1, ⟨by omega, hc⟩, by omega, Le.st ?_⟩
      (try (push_cast (maxSteps := 1000000)))
  · have hd : decide ((k : Int) < (ks.length : Int)) = false := decide_eq_false (by omega)
    rw [List.drop_eq_nil_of_le (by omega)] at hc
    (try (push_cast (maxSteps := 1000000) [hd]))
    exact hc
theorem d92 (l : List Cl) (ks : List ByteArray) (a b : List Vl) (hl : okLen l) (hk : okLen ks) (hf : ∀ n ∈ ks, foundN l n) (ha : ∀ p ∈ placesN l ks, p < a.length) (hb : ∀ p ∈ placesN l ks, p < b.length) :
    Spec V 92 [.c (.d (.sl 3 (l.map eRC))), .c (.d (.sl 1 (ks.map eS))), .c (.d (.sl 4 (a.map eRV))), .c (.d (.sl 4 (b.map eRV)))] (b2 (alikeF (placesN l ks) a b)) := by
  have hkl : ks.length ≤ 1099511627776 := hk
  (refine Spec.of_go (L := fun | 0 => some [0, 1, 2, 3] | 1 => some [0, 2, 3, 12, 13, 14] | 2 => some [0, 2, 3, 12, 13, 14, 15] | 3 => some [0, 2, 3, 10, 12, 13, 14] | 4 => some [0, 2, 3, 11, 12, 13, 14] | 5 => some [0, 2, 3, 12, 13, 14, 30] | 6 => some [8] | 7 => some [0, 2, 3, 12, 13, 14] | 8 => some [8] | _ => none) 1000 Go.Proofs.Tryd.func92 rfl rfl ⟨Nat.le_of_ble_eq_true rfl, rfl⟩ rfl ?_; unfold Go.Proofs.Tryd.f92; push_cast (maxSteps := 1000000))
  refine LoopK.s1 (α := Nat) [14] (fun k => [i2 .i64 k]) (fun k => k ≤ ks.length ∧ alikeF (placesN l (ks.drop k)) a b = alikeF (placesN l ks) a b) (fun k => ks.length - k) 1000 0 ⟨by omega, rfl⟩ (by (try (push_cast (maxSteps := 1000000)))) ?_
  rintro k ⟨hk, hc⟩
  by_cases hlt : k < ks.length
  · have hv := List.getElem?_eq_getElem hlt; have hd : decide ((k : Int) < (ks.length : Int)) = true := decide_eq_true (by omega)
    have hfk := hf ks[k] (List.getElem_mem hlt)
    have hpm : placeN l ks[k] ∈ placesN l ks := List.mem_map.2 ⟨_, List.getElem_mem hlt, rfl⟩
    have hva := List.getElem?_eq_getElem (ha _ hpm)
    have hvb := List.getElem?_eq_getElem (hb _ hpm)
    have hpa := ha _ hpm
    have hpb := hb _ hpm
    rw [drop_cons hv] at hc
    simp only [placesN, List.map_cons, alikeF, List.all_cons, vAt_get hva, vAt_get hvb] at hc
    (try (push_cast (maxSteps := 1000000) [hd, getD_map hv]))
    ((repeat' (with_reducible refine And.intro ?_ ?_)) <;> try (first | trivial | omega | exact inK64 (by omega) (by omega) | exact inKu8 (by omega) (by omega) | (simp only [maxLen]; omega) | exact .inl trivial | exact .inl rfl))
    refine ⟨_, names56 l hl, rfl, ?_⟩
    (try (push_cast (maxSteps := 1000000)))
    have hS := f55 (namesN l) ks[k] (by simpa [okLen, namesN] using hl)
    rw [at_place hfk] at hS
    refine ⟨_, hS, rfl, ?_⟩
    (try (push_cast (maxSteps := 1000000)))
    (refine DrawK.of (.take 0 (.take 1 (.take 2 (.take 3 (.take 4 (.take 5 (.take 6 (.take 7 (.take 8 .done))))))))) 1000 (by decide +kernel) ?_; try (push_cast (maxSteps := 1000000)))
    (try (push_cast (maxSteps := 1000000) [getD_map hva, getD_map hvb]))
    ((repeat' (with_reducible refine And.intro ?_ ?_)) <;> try (first | trivial | omega | exact inK64 (by omega) (by omega) | exact inKu8 (by omega) (by omega) | (simp only [maxLen]; omega) | exact .inl trivial | exact .inl rfl))
    rw [sameV_r]
    refine BrP.mk (fun h => ?_) (fun h => ?_) <;> try (push_cast (maxSteps := 1000000) [h])
    · have h' : sameV a[placeN l ks[k]] b[placeN l ks[k]] = false := by simpa using h
      rw [h', Bool.false_and] at hc
      exact hc
    · have h' : sameV a[placeN l ks[k]] b[placeN l ks[k]] = true := by simpa using h
      rw [h', Bool.true_and] at hc
      ((repeat' (with_reducible refine And.intro ?_ ?_)) <;> try (first | trivial | omega | exact inK64 (by omega) (by omega) | exact inKu8 (by omega) (by omega) | (simp only [maxLen]; omega) | exact .inl trivial | exact .inl rfl))
      refine ⟨k + 1, ⟨by omega, hc⟩, by omega, Le.st ?_⟩
      (try (push_cast (maxSteps := 1000000)))
  · have hd : decide ((k : Int) < (ks.length : Int)) = false := decide_eq_false (by omega)
    rw [List.drop_eq_nil_of_le (by omega)] at hc
    (try (push_cast (maxSteps := 1000000) [hd]))
    exact hc
set_option maxHeartbeats 1000000 in
theorem d19 (t : Tb) (ks : List ByteArray) (ht : okT2 t) (hk : okKeys ks) : Spec V 19 [.ag ((eRT t).map .d), .c (.d (.sl 1 (ks.map eS)))] (.tu [i2 .i64 ((tabF t ks).1 : Int), i2 .i64 (tabF t ks).2]) := by
  obtain ⟨L, R⟩ := t
  obtain ⟨hl, hr, hvv, hrt⟩ := ht
  simp only at hl hr hvv hrt
  have hk' : ks.length ≤ 64 := hk
  (refine Spec.of_go (L := fun | 0 => some [1, 2] | 1 => some [1, 2, 7] | 2 => some [1, 2, 7, 23] | 3 => some [4, 5] | 4 => some [1, 2, 27] | 5 => some [4, 5] | 6 => some [1, 2, 28, 29, 30] | 7 => some [1, 2, 28, 29, 30, 31] | 8 => some [1, 2, 8, 9, 28, 29, 30] | 9 => some [1, 2, 8, 9, 28, 29, 30, 40] | 10 => some [4, 5] | 11 => some [1, 2, 8, 28, 29, 30, 47] | 12 => some [4, 5] | 13 => some [1, 2, 28, 29, 30] | 14 => some [1, 2, 51, 52, 53] | 15 => some [1, 2, 51, 52, 53, 54] | 16 => some [1, 2, 10, 11, 51, 52, 53] | 17 => some [1, 2, 10, 11, 51, 52, 53, 63] | 18 => some [4, 5] | 19 => some [1, 2, 10, 11, 51, 52, 53, 65, 66, 67] | 20 => some [1, 2, 10, 11, 51, 52, 53, 65, 66, 67, 68] | 21 => some [1, 2, 10, 11, 13, 51, 52, 53, 65, 66, 67] | 22 => some [1, 2, 10, 11, 51, 52, 53, 65, 66, 67, 80] | 23 => some [4, 5] | 24 => some [1, 2, 10, 11, 51, 52, 53, 65, 66, 67] | 25 => some [1, 2, 10, 11, 51, 52, 53, 86, 87, 88] | 26 => some [1, 2, 10, 11, 51, 52, 53, 86, 87, 88, 89] | 27 => some [1, 2, 10, 11, 15, 51, 52, 53, 86, 87, 88] | 28 => some [1, 2, 10, 11, 51, 52, 53, 86, 87, 88, 97] | 29 => some [4, 5] | 30 => some [1, 2, 10, 11, 51, 52, 53, 86, 87, 88] | 31 => some [1, 2, 51, 52, 53] | 32 => some [4, 5] | _ => none) 1000 Go.Proofs.Tryd.func19 rfl rfl ⟨Nat.le_of_ble_eq_true rfl, rfl⟩ rfl ?_; unfold Go.Proofs.Tryd.f19; push_cast (maxSteps := 1000000))
  refine ⟨_, f50 L hl, rfl, ?_⟩
  (try (push_cast (maxSteps := 1000000)))
  refine BrP.mk (fun h => ?_) (fun h => ?_) <;> try (push_cast (maxSteps := 1000000) [h])
  · have h' : ¬ (checkC L).2 = 0 := by simpa using h
    simp [tabF, h']
  · have h' : (checkC L).2 = 0 := by simpa using h
    refine BrP.mk (fun h => ?_) (fun h => ?_) <;> try (push_cast (maxSteps := 1000000) [h])
    · have h2 : ks.length = 0 := by simpa using h
      simp [tabF, h', h2]
    · have h2 : ¬ ks.length = 0 := by simpa using h
      have e : tabF ⟨L, R⟩ ks = if (keyF L [] ks 0).2 ≠ 0 then keyF L [] ks 0 else rowsF L.length (placesN L ks) [] R 0 := by simp [tabF, h', h2]
      generalize tabF ⟨L, R⟩ ks = F at *
      refine LoopK.s1 (α := Nat) [30] (fun k => [i2 .i64 k]) (fun k => k ≤ ks.length ∧ keyF L (ks.take k) (ks.drop k) k = keyF L [] ks 0 ∧ ∀ n ∈ ks.take k, foundN L n) (fun k => ks.length - k) 1000 0 ⟨by omega, rfl, by simp⟩ (by (try (push_cast (maxSteps := 1000000)))) ?_
      rintro k ⟨hk, hc, hf⟩
      by_cases hlt : k < ks.length
      · have hv := List.getElem?_eq_getElem hlt; have hd : decide ((k : Int) < (ks.length : Int)) = true := decide_eq_true (by omega)
        rw [drop_cons hv] at hc; simp only [keyF] at hc
        have htk : ks.take (k + 1) = ks.take k ++ [ks[k]] := by rw [List.take_add_one, hv]; rfl
        rw [← htk] at hc
        (try (push_cast (maxSteps := 1000000) [hd, getD_map hv]))
        ((repeat' (with_reducible refine And.intro ?_ ?_)) <;> try (first | trivial | omega | exact inK64 (by omega) (by omega) | exact inKu8 (by omega) (by omega) | (simp only [maxLen]; omega) | exact .inl trivial | exact .inl rfl))
        refine ⟨_, names56 L hl.1, rfl, ?_⟩
        (try (push_cast (maxSteps := 1000000)))
        refine ⟨_, f55 (namesN L) ks[k] (by simpa [okLen, namesN] using hl.1), rfl, ?_⟩
        (try (push_cast (maxSteps := 1000000) [at_found]))
        refine BrP.mk (fun h => ?_) (fun h => ?_) <;> try (push_cast (maxSteps := 1000000) [h])
        · rw [if_pos (by simpa using h)] at hc
          ((repeat' (with_reducible refine And.intro ?_ ?_)) <;> try (first | trivial | omega | exact inK64 (by omega) (by omega) | exact inKu8 (by omega) (by omega) | (simp only [maxLen]; omega) | exact .inl trivial | exact .inl rfl))
          all_goals simp [e, ← hc]
        · have hfk : foundN L ks[k] := by simpa [foundN] using h
          rw [if_neg (by simpa using h)] at hc
          have hS := f55 (ks.take k) ks[k] (by simp only [okLen, List.length_take]; omega)
          simp only [List.map_take] at hS
          ((repeat' (with_reducible refine And.intro ?_ ?_)) <;> try (first | trivial | omega | exact inK64 (by omega) (by omega) | exact inKu8 (by omega) (by omega) | (simp only [maxLen]; omega) | exact .inl trivial | exact .inl rfl))
          refine ⟨_, hS, rfl, ?_⟩
          (try (push_cast (maxSteps := 1000000) [atF_memB]))
          refine BrP.mk (fun h => ?_) (fun h => ?_) <;> try (push_cast (maxSteps := 1000000) [h])
          · rw [if_pos h] at hc
            ((repeat' (with_reducible refine And.intro ?_ ?_)) <;> try (first | trivial | omega | exact inK64 (by omega) (by omega) | exact inKu8 (by omega) (by omega) | (simp only [maxLen]; omega) | exact .inl trivial | exact .inl rfl))
            all_goals simp [e, ← hc]
          · rw [if_neg (by simp [h])] at hc
            ((repeat' (with_reducible refine And.intro ?_ ?_)) <;> try (first | trivial | omega | exact inK64 (by omega) (by omega) | exact inKu8 (by omega) (by omega) | (simp only [maxLen]; omega) | exact .inl trivial | exact .inl rfl))
            refine ⟨k + 1, ⟨by omega, hc, ?_⟩, by omega, Le.st ?_⟩
            · intro n hn
              rw [htk] at hn
              rcases List.mem_append.1 hn with hn | hn
              · exact hf n hn
              · rw [List.mem_singleton.1 hn]; exact hfk
            · (try (push_cast (maxSteps := 1000000)))
      · have hd : decide ((k : Int) < (ks.length : Int)) = false := decide_eq_false (by omega)
        have hkk : k = ks.length := by omega
        subst hkk
        rw [List.drop_eq_nil_of_le (by omega)] at hc; simp only [keyF] at hc
        rw [List.take_length] at hf
        rw [if_neg (by simp [← hc])] at e
        (try (push_cast (maxSteps := 1000000) [hd]))
        have hplt := placesN_lt hf
        clear hc hd
        refine LoopK.s1 (α := Nat) [53] (fun k => [i2 .i64 k]) (fun k => k ≤ R.length ∧ rowsF L.length (placesN L ks) (R.take k) (R.drop k) k = rowsF L.length (placesN L ks) [] R 0 ∧ ∀ x ∈ R.take k, x.length = L.length) (fun k => R.length - k) 1000 0 ⟨by omega, rfl, by simp⟩ (by (try (push_cast (maxSteps := 1000000)))) ?_
        rintro k ⟨hk, hc, hw0⟩
        by_cases hlt : k < R.length
        · have hv := List.getElem?_eq_getElem hlt; have hd : decide ((k : Int) < (R.length : Int)) = true := decide_eq_true (by omega)
          rw [drop_cons hv] at hc; simp only [rowsF] at hc
          have hvr := hvv R[k] (List.getElem_mem hlt)
          have htk : R.take (k + 1) = R.take k ++ [R[k]] := by rw [List.take_add_one, hv]; rfl
          rw [← htk] at hc
          generalize R[k] = r at *
          (try (push_cast (maxSteps := 1000000) [hd, getD_map hv]))
          ((repeat' (with_reducible refine And.intro ?_ ?_)) <;> try (first | trivial | omega | exact inK64 (by omega) (by omega) | exact inKu8 (by omega) (by omega) | (simp only [maxLen]; omega) | exact .inl trivial | exact .inl rfl))
          refine BrP.mk (fun h => ?_) (fun h => ?_) <;> try (push_cast (maxSteps := 1000000) [h])
          · have hw : ¬ r.length = L.length := by simp at h; omega
            rw [if_pos hw] at hc
            ((repeat' (with_reducible refine And.intro ?_ ?_)) <;> try (first | trivial | omega | exact inK64 (by omega) (by omega) | exact inKu8 (by omega) (by omega) | (simp only [maxLen]; omega) | exact .inl trivial | exact .inl rfl))
            all_goals simp [e, ← hc]
          · have hw : r.length = L.length := by simp at h; omega
            rw [if_neg (by omega)] at hc
            (try (push_cast (maxSteps := 1000000)))
            refine LoopK.s1 (α := Nat) [67] (fun j => [i2 .i64 j]) (fun j => j ≤ ks.length ∧ nullF (placesN L (ks.drop j)) r = nullF (placesN L ks) r) (fun j => ks.length - j) 1000 0 ⟨by omega, rfl⟩ (by (try (push_cast (maxSteps := 1000000)))) ?_
            rintro j ⟨hj, hn⟩
            by_cases hlt2 : j < ks.length
            · have hv2 := List.getElem?_eq_getElem hlt2
              have hd2 : decide ((j : Int) < (ks.length : Int)) = true := decide_eq_true (by omega)
              have hfj := hf ks[j] (List.getElem_mem hlt2)
              have hpj := placeN_lt hfj
              have hv3 := List.getElem?_eq_getElem (l := r) (i := placeN L ks[j]) (by omega)
              rw [drop_cons hv2, placesN, List.map_cons, nullF, List.any_cons, vAt_get hv3] at hn
              have hS := f55 (namesN L) ks[j] (by simpa [okLen, namesN] using hl.1)
              rw [at_place hfj] at hS
              (try (push_cast (maxSteps := 1000000) [hd2, getD_map hv2]))
              ((repeat' (with_reducible refine And.intro ?_ ?_)) <;> try (first | trivial | omega | exact inK64 (by omega) (by omega) | exact inKu8 (by omega) (by omega) | (simp only [maxLen]; omega) | exact .inl trivial | exact .inl rfl))
              refine ⟨_, names56 L hl.1, rfl, ?_⟩
              (try (push_cast (maxSteps := 1000000)))
              refine ⟨_, hS, rfl, ?_⟩
              (try (push_cast (maxSteps := 1000000) [getD_map hv3]))
              ((repeat' (with_reducible refine And.intro ?_ ?_)) <;> try (first | trivial | omega | exact inK64 (by omega) (by omega) | exact inKu8 (by omega) (by omega) | (simp only [maxLen]; omega) | exact .inl trivial | exact .inl rfl))
              refine BrP.mk (fun h => ?_) (fun h => ?_) <;> try (push_cast (maxSteps := 1000000) [h])
              · have hk0 := of_decide_eq_true h
                rw [if_pos (by rw [← hn]; simp [hk0])] at hc
                ((repeat' (with_reducible refine And.intro ?_ ?_)) <;> try (first | trivial | omega | exact inK64 (by omega) (by omega) | exact inKu8 (by omega) (by omega) | (simp only [maxLen]; omega) | exact .inl trivial | exact .inl rfl))
                all_goals simp [e, ← hc]
              · have hk0 := of_decide_eq_false h
                ((repeat' (with_reducible refine And.intro ?_ ?_)) <;> try (first | trivial | omega | exact inK64 (by omega) (by omega) | exact inKu8 (by omega) (by omega) | (simp only [maxLen]; omega) | exact .inl trivial | exact .inl rfl))
                refine ⟨j + 1, ⟨by omega, by rw [← hn]; simp [hk0, nullF, placesN]⟩, by omega, Le.st ?_⟩
                (try (push_cast (maxSteps := 1000000)))
                all_goals rfl
            · have hd2 : decide ((j : Int) < (ks.length : Int)) = false := decide_eq_false (by omega)
              have hn0 : nullF (placesN L ks) r = false := by rw [← hn, List.drop_eq_nil_of_le (by omega)]; rfl
              rw [if_neg (by simp [hn0])] at hc
              have hln : (R.take k).length = k := by rw [List.length_take]; omega
              have hRm : ∀ x ∈ R.take k, okR2 x := fun x hx => hvv x (List.mem_of_mem_take hx)
              (try (push_cast (maxSteps := 1000000) [hd2]))
              ((repeat' (with_reducible refine And.intro ?_ ?_)) <;> try (first | trivial | omega | exact inK64 (by omega) (by omega) | exact inKu8 (by omega) (by omega) | (simp only [maxLen]; omega) | exact .inl trivial | exact .inl rfl))
              rw [← List.map_take]
              generalize R.take k = S at *
              (try (push_cast (maxSteps := 1000000)))
              refine LoopK.s1 (α := Nat) [88] (fun i => [i2 .i64 i]) (fun i => i ≤ S.length ∧ ((S.drop i).any fun x => alikeF (placesN L ks) x r) = S.any fun x => alikeF (placesN L ks) x r) (fun i => S.length - i) 1000 0 ⟨by omega, rfl⟩ (by (try (push_cast (maxSteps := 1000000)))) ?_
              rintro i ⟨hi, hs⟩
              by_cases hlt3 : i < S.length
              · have hv3 := List.getElem?_eq_getElem hlt3
                have hd3 : decide ((i : Int) < (S.length : Int)) = true := decide_eq_true (by omega)
                have hwi := hw0 S[i] (List.getElem_mem hlt3)
                rw [drop_cons hv3, List.any_cons] at hs
                generalize S[i] = x at *
                (try (push_cast (maxSteps := 1000000) [hd3, getD_map hv3]))
                ((repeat' (with_reducible refine And.intro ?_ ?_)) <;> try (first | trivial | omega | exact inK64 (by omega) (by omega) | exact inKu8 (by omega) (by omega) | (simp only [maxLen]; omega) | exact .inl trivial | exact .inl rfl))
                refine ⟨_, d70 L ks x r hl.1 (by simp only [okLen]; omega) hf (fun p hp => by have := hplt p hp; omega) (fun p hp => by have := hplt p hp; omega), rfl, ?_⟩
                (try (push_cast (maxSteps := 1000000)))
                refine BrP.mk (fun h => ?_) (fun h => ?_) <;> try (push_cast (maxSteps := 1000000) [h])
                · rw [if_pos (by rw [← hs, h]; rfl)] at hc
                  ((repeat' (with_reducible refine And.intro ?_ ?_)) <;> try (first | trivial | omega | exact inK64 (by omega) (by omega) | exact inKu8 (by omega) (by omega) | (simp only [maxLen]; omega) | exact .inl trivial | exact .inl rfl))
                  all_goals simp [e, ← hc]
                · rw [h, Bool.false_or] at hs
                  ((repeat' (with_reducible refine And.intro ?_ ?_)) <;> try (first | trivial | omega | exact inK64 (by omega) (by omega) | exact inKu8 (by omega) (by omega) | (simp only [maxLen]; omega) | exact .inl trivial | exact .inl rfl))
                  refine ⟨i + 1, ⟨by omega, hs⟩, by omega, Le.st ?_⟩
                  (try (push_cast (maxSteps := 1000000)))
                  all_goals rfl
              · have hd3 : decide ((i : Int) < (S.length : Int)) = false := decide_eq_false (by omega)
                rw [List.drop_eq_nil_of_le (by omega), List.any_nil] at hs
                rw [if_neg (by rw [← hs]; simp)] at hc
                (try (push_cast (maxSteps := 1000000) [hd3]))
                ((repeat' (with_reducible refine And.intro ?_ ?_)) <;> try (first | trivial | omega | exact inK64 (by omega) (by omega) | exact inKu8 (by omega) (by omega) | (simp only [maxLen]; omega) | exact .inl trivial | exact .inl rfl))
                refine ⟨k + 1, ⟨by omega, hc, ?_⟩, by omega, Le.st ?_⟩
                · intro x hx
                  rw [htk] at hx
                  rcases List.mem_append.1 hx with hx | hx
                  · exact hw0 x hx
                  · rw [List.mem_singleton.1 hx]; exact hw
                · (try (push_cast (maxSteps := 1000000)))
        · have hd : decide ((k : Int) < (R.length : Int)) = false := decide_eq_false (by omega)
          rw [List.drop_eq_nil_of_le (by omega)] at hc; simp only [rowsF] at hc
          have hkk : k = R.length := by omega
          subst hkk
          (try (push_cast (maxSteps := 1000000) [hd]))
          simp [e, ← hc]
theorem d20 (t : Tb) (ht : okT0 t) : Spec V 20 [.ag ((eT t).map .d)] (.ag ((eRT t).map .d)) := by
  obtain ⟨L, R⟩ := t
  have h23 := f18 L ht.l.1
  have h41 := f27 R ht.r (fun r hr => (ht.v r hr).1)
  (refine Spec.of_go (L := fun | 0 => some [1, 2] | 1 => some [2] | _ => none) 1000 Go.Proofs.Tryd.func20 rfl rfl ⟨Nat.le_of_ble_eq_true rfl, rfl⟩ rfl ?_; unfold Go.Proofs.Tryd.f20; push_cast (maxSteps := 1000000))
  (refine DrawK.of (.take 0 (.take 1 (.take 3 (.take 4 (.one 2 (.one 5 (.take 6 (.one 7 .done)))))))) 1000 (by decide +kernel) ?_; try (push_cast (maxSteps := 1000000)))
  refine ⟨_, h23, rfl, ?_⟩
  (try (push_cast (maxSteps := 1000000)))
  refine ⟨_, h41, rfl, ?_⟩
  (try (push_cast (maxSteps := 1000000)))
theorem d58 (t : Tb) (ht : okT0 t) : Spec V 58 [.ag ((eT t).map .d)] (b2 (fewT t)) := by
  obtain ⟨l, r⟩ := t
  obtain ⟨hl, hr, hvr⟩ := ht
  simp only at hl hr hvr
  have hrl : r.length ≤ 1099511627776 := hr
  (refine Spec.of_go (L := fun | 0 => some [1] | 1 => some [1, 16] | 2 => some [2] | 3 => some [18, 19, 20] | 4 => some [18, 19, 20, 21] | 5 => some [4, 18, 19, 20] | 6 => some [18, 19, 20, 24, 25, 26] | 7 => some [18, 19, 20, 24, 25, 26, 27] | 8 => some [6, 18, 19, 20, 24, 25, 26] | 9 => some [18, 19, 20, 24, 25, 26, 33] | 10 => some [2] | 11 => some [18, 19, 20, 24, 25, 26] | 12 => some [18, 19, 20] | 13 => some [2] | _ => none) 1000 Go.Proofs.Tryd.func58 rfl rfl ⟨Nat.le_of_ble_eq_true rfl, rfl⟩ rfl ?_; unfold Go.Proofs.Tryd.f58; push_cast (maxSteps := 1000000))
  refine ⟨_, f13 l hl.1, rfl, ?_⟩
  (try (push_cast (maxSteps := 1000000)))
  cases hL : (!longC l && decide (l.length ≤ 12)) with
  | false =>
    have hz : fewT ⟨l, r⟩ = false := by simp only [fewT]; rw [hL]; rfl
    (try (push_cast (maxSteps := 1000000)))
    exact hz.symm
  | true =>
    (try (push_cast (maxSteps := 1000000)))
    refine ⟨_, f19 r hr (fun x hx => (hvr x hx).1), rfl, ?_⟩
    (try (push_cast (maxSteps := 1000000)))
    cases hs : smallF r with
    | false =>
      have hz : fewT ⟨l, r⟩ = false := by simp only [fewT]; rw [hs]; simp
      (try (push_cast (maxSteps := 1000000)))
      exact hz.symm
    | true =>
      have hz : fewT ⟨l, r⟩ = r.all fun r => r.all rightF := by simp only [fewT]; rw [hL, hs]; simp
      (try (push_cast (maxSteps := 1000000)))
      rw [hz]
      refine LoopK.s1 (α := Nat) [20] (fun j => [i2 .i64 j]) (fun j => j ≤ r.length ∧ (r.drop j).all (fun r => r.all rightF) = r.all fun r => r.all rightF) (fun j => r.length - j) 1000 0 ⟨by omega, rfl⟩ (by (try (push_cast (maxSteps := 1000000)))) ?_
      rintro j ⟨hj, hc⟩
      by_cases hlt : j < r.length
      · have hv := List.getElem?_eq_getElem hlt; have hd : decide ((j : Int) < (r.length : Int)) = true := decide_eq_true (by omega)
        rw [drop_cons hv] at hc
        simp only [List.all_cons] at hc
        have hrow := hvr _ (List.getElem_mem hlt)
        generalize r[j] = row at *
        have hrw : row.length ≤ 1099511627776 := hrow.1
        (try (push_cast (maxSteps := 1000000) [hd, getD_map hv]))
        ((repeat' (with_reducible refine And.intro ?_ ?_)) <;> try (first | trivial | omega | exact inK64 (by omega) (by omega) | exact inKu8 (by omega) (by omega) | (simp only [maxLen]; omega) | exact .inl trivial | exact .inl rfl))
        refine LoopK.s1 (α := Nat) [26] (fun i => [i2 .i64 i]) (fun i => i ≤ row.length ∧ (row.drop i).all rightF = row.all rightF) (fun i => row.length - i) 1000 0 ⟨by omega, rfl⟩ (by (try (push_cast (maxSteps := 1000000)))) ?_
        rintro i ⟨hi, hc2⟩
        by_cases hlt2 : i < row.length
        · have hv2 := List.getElem?_eq_getElem hlt2
          have hd2 : decide ((i : Int) < (row.length : Int)) = true := decide_eq_true (by omega)
          rw [drop_cons hv2] at hc2
          simp only [List.all_cons] at hc2
          have hvl := hrow.2 _ (List.getElem_mem hlt2)
          generalize row[i] = v at *
          (try (push_cast (maxSteps := 1000000) [hd2, getD_map hv2]))
          ((repeat' (with_reducible refine And.intro ?_ ?_)) <;> try (first | trivial | omega | exact inK64 (by omega) (by omega) | exact inKu8 (by omega) (by omega) | (simp only [maxLen]; omega) | exact .inl trivial | exact .inl rfl))
          (have hS := f22 v; simp only [eS_eq, eN_eq, eV_eq, eRN_eq, eRV_eq, eC_eq, eRC_eq, List.map_cons, List.map_nil, i2, b2, s2] at hS; refine ⟨_, hS, rfl, ?_⟩; clear hS; try (push_cast (maxSteps := 1000000)))
          (have hS := f21 v hvl.1; simp only [eS_eq, eN_eq, eV_eq, eRN_eq, eRV_eq, eC_eq, eRC_eq, List.map_cons, List.map_nil, i2, b2, s2] at hS; refine ⟨_, hS, rfl, ?_⟩; clear hS; try (push_cast (maxSteps := 1000000)))
          refine BrP.mk (fun h => ?_) (fun h => ?_) <;> try (push_cast (maxSteps := 1000000) [h])
          · have hw : rightF v = false := by simpa using h
            rw [hw, Bool.false_and] at hc2
            rw [← hc2, Bool.false_and] at hc
            exact hc
          · have hw : rightF v = true := by simpa using h
            rw [hw, Bool.true_and] at hc2
            ((repeat' (with_reducible refine And.intro ?_ ?_)) <;> try (first | trivial | omega | exact inK64 (by omega) (by omega) | exact inKu8 (by omega) (by omega) | (simp only [maxLen]; omega) | exact .inl trivial | exact .inl rfl))
            refine ⟨i + 1, ⟨by omega, hc2⟩, by omega, Le.st ?_⟩
            (try (push_cast (maxSteps := 1000000)))
            all_goals rfl
        · have hd2 : decide ((i : Int) < (row.length : Int)) = false := decide_eq_false (by omega)
          rw [List.drop_eq_nil_of_le (by omega), List.all_nil] at hc2
          rw [← hc2, Bool.true_and] at hc
          (try (push_cast (maxSteps := 1000000) [hd2]))
          ((repeat' (with_reducible refine And.intro ?_ ?_)) <;> try (first | trivial | omega | exact inK64 (by omega) (by omega) | exact inKu8 (by omega) (by omega) | (simp only [maxLen]; omega) | exact .inl trivial | exact .inl rfl))
          refine ⟨j + 1, ⟨by omega, hc⟩, by omega, Le.st ?_⟩
          (try (push_cast (maxSteps := 1000000)))
      · have hd : decide ((j : Int) < (r.length : Int)) = false := decide_eq_false (by omega)
        rw [List.drop_eq_nil_of_le (by omega), List.all_nil] at hc
        (try (push_cast (maxSteps := 1000000) [hd]))
        exact hc
theorem d16 (z : Dc) (ha : okT0 z.A) (hb : okT0 z.B) (hk : okLen z.K) : Spec V 16 [.ag ((eD z).map .d)] (b2 (fitsD z)) := by
  obtain ⟨A, B, K⟩ := z
  simp only at ha hb hk
  have hkl : K.length ≤ 1099511627776 := hk
  have h58a := d58 A ha
  have h58b := d58 B hb
  (refine Spec.of_go (L := fun | 0 => some [1] | 1 => some [1, 6, 7, 8] | 2 => some [1, 6, 7, 8, 9] | 3 => some [1, 4, 6, 7, 8] | 4 => some [1, 6, 7, 8, 14] | 5 => some [2] | 6 => some [1, 6, 7, 8] | 7 => some [2] | _ => none) 1000 Go.Proofs.Tryd.func16 rfl rfl ⟨Nat.le_of_ble_eq_true rfl, rfl⟩ rfl ?_; unfold Go.Proofs.Tryd.f16; push_cast (maxSteps := 1000000))
  refine LoopK.s1 (α := Nat) [8] (fun j => [i2 .i64 j]) (fun j => j ≤ K.length ∧ shortK (K.drop j) = shortK K) (fun j => K.length - j) 1000 0 ⟨by omega, rfl⟩ (by (try (push_cast (maxSteps := 1000000)))) ?_
  rintro j ⟨hj, hc⟩
  by_cases hlt : j < K.length
  · have hv := List.getElem?_eq_getElem hlt; have hd : decide ((j : Int) < (K.length : Int)) = true := decide_eq_true (by omega)
    rw [drop_cons hv] at hc
    simp only [shortK, List.all_cons] at hc
    (try (push_cast (maxSteps := 1000000) [hd, getD_map hv]))
    ((repeat' (with_reducible refine And.intro ?_ ?_)) <;> try (first | trivial | omega | exact inK64 (by omega) (by omega) | exact inKu8 (by omega) (by omega) | (simp only [maxLen]; omega) | exact .inl trivial | exact .inl rfl))
    refine BrP.mk (fun h => ?_) (fun h => ?_) <;> try (push_cast (maxSteps := 1000000) [h])
    · have hw : ¬ K[j].size ≤ 100 := by simp at h; omega
      rw [decide_eq_false hw, Bool.false_and] at hc
      simp only [fitsD, shortK, ← hc, Bool.false_and]
    · have hw : K[j].size ≤ 100 := by simp at h; omega
      rw [decide_eq_true hw, Bool.true_and] at hc
      ((repeat' (with_reducible refine And.intro ?_ ?_)) <;> try (first | trivial | omega | exact inK64 (by omega) (by omega) | exact inKu8 (by omega) (by omega) | (simp only [maxLen]; omega) | exact .inl trivial | exact .inl rfl))
      refine ⟨j + 1, ⟨by omega, hc⟩, by omega, Le.st ?_⟩
      (try (push_cast (maxSteps := 1000000)))
      all_goals rfl
  · have hd : decide ((j : Int) < (K.length : Int)) = false := decide_eq_false (by omega)
    rw [List.drop_eq_nil_of_le (by omega), shortK, List.all_nil] at hc
    have hz : fitsD ⟨A, B, K⟩ = (fewT A && (fewT B && decide (K.length ≤ 12))) := by simp only [fitsD, ← hc, Bool.true_and]
    rw [hz]
    simp only [eT_eq] at h58a h58b
    (try (push_cast (maxSteps := 1000000) [hd]))
    refine ⟨_, h58a, rfl, ?_⟩
    (try (push_cast (maxSteps := 1000000)))
    cases hA : fewT A with
    | false => (try (push_cast (maxSteps := 1000000)))
    | true =>
      (try (push_cast (maxSteps := 1000000)))
      refine ⟨_, h58b, rfl, ?_⟩
      (try (push_cast (maxSteps := 1000000)))
      cases hB : fewT B with
      | false => (try (push_cast (maxSteps := 1000000)))
      | true =>
        (try (push_cast (maxSteps := 1000000)))
        rw [Bool.eq_iff_iff]; simp; omega
end Go.LS.Tryd
