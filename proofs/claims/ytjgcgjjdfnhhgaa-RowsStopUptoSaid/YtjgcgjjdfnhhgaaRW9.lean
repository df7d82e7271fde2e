/- Contracts of the functions of the seat, one by one (part RW9); no condition but those that each bears. -/
import Derived.Test.YtjgcgjjdfnhhgaaRW3
namespace Go.LS.Tryr
open Go Go.LS
set_option maxRecDepth 100000
set_option linter.unusedVariables false
set_option linter.unusedSimpArgs false
set_option linter.unusedVariables false

/-- For which numbers the law's function holds. -/
def keepP (k r x : Int) : Bool := decide (x % k = r)
theorem maxLen_ge {n : Nat} (h : n ≤ 1000000) : n ≤ maxLen := by simp only [maxLen]; omega
theorem f24 (l : List Int) (n : Int) (hlen : l.length ≤ 1000000) : Spec V 24 [.c (.d (rowD l)), nL n] (.c (.d (rowD (l.take n.toNat)))) := by
  unfold rowD
  (refine Spec.of_go (L := fun | 0 => some [0, 1] | 1 => some [0, 1, 7] | 2 => some [0, 1] | 3 => some [0, 1, 11] | 4 => some [0, 1] | 5 => some [0, 1, 5] | 6 => some [4] | _ => none) 1000 Go.Proofs.Try.func24 rfl rfl ⟨Nat.le_of_ble_eq_true rfl, rfl⟩ rfl ?_; unfold Go.Proofs.Try.f24; push_cast (maxSteps := 1000000))
  by_cases h1 : n < 0
  · have hd : decide (n < 0) = true := decide_eq_true h1
    have hd2 : decide ((l.length : Int) < 0) = false := decide_eq_false (by omega)
    (try (push_cast (maxSteps := 1000000) [hd, hd2]))
    exact ⟨by omega, ⟨.inl trivial, Nat.zero_le _⟩, by rw [show n.toNat = 0 by omega]; rfl⟩
  · have hd : decide (n < 0) = false := decide_eq_false h1
    by_cases h2 : (l.length : Int) < n
    · have hd2 : decide ((l.length : Int) < n) = true := decide_eq_true h2
      (try (push_cast (maxSteps := 1000000) [hd, hd2]))
      rw [List.take_of_length_le (show (l.map nD).length ≤ l.length by simp), List.take_of_length_le (show l.length ≤ n.toNat by omega)]
      simp only [List.length_map]
      exact ⟨by omega, ⟨.inl trivial, maxLen_ge hlen, by omega⟩, trivial⟩
    · have hd2 : decide ((l.length : Int) < n) = false := decide_eq_false h2
      (try (push_cast (maxSteps := 1000000) [hd, hd2]))
      rw [← List.map_take]
      have : (l.take n.toNat).length ≤ 1000000 := by rw [List.length_take]; omega
      simp only [List.length_map]
      exact ⟨by omega, ⟨.inl trivial, maxLen_ge this, by omega⟩, trivial⟩
theorem f26 (l : List Int) (n : Int) (hlen : l.length ≤ 1000000) : Spec V 26 [.c (.d (rowD l)), nL n] (.c (.d (rowD (l.drop n.toNat)))) := by
  unfold rowD
  (refine Spec.of_go (L := fun | 0 => some [0, 1] | 1 => some [0, 1, 7] | 2 => some [0, 1] | 3 => some [0, 1, 11] | 4 => some [0, 1] | 5 => some [0, 1, 5] | 6 => some [4] | _ => none) 1000 Go.Proofs.Try.func26 rfl rfl ⟨Nat.le_of_ble_eq_true rfl, rfl⟩ rfl ?_; unfold Go.Proofs.Try.f26; push_cast (maxSteps := 1000000))
  by_cases h1 : n < 0
  · have hd : decide (n < 0) = true := decide_eq_true h1
    have hd2 : decide ((l.length : Int) < 0) = false := decide_eq_false (by omega)
    (try (push_cast (maxSteps := 1000000) [hd, hd2]))
    exact ⟨by omega, ⟨.inl trivial, maxLen_ge hlen, by omega⟩, by rw [show n.toNat = 0 by omega]; rfl⟩
  · have hd : decide (n < 0) = false := decide_eq_false h1
    by_cases h2 : (l.length : Int) < n
    · have hd2 : decide ((l.length : Int) < n) = true := decide_eq_true h2
      (try (push_cast (maxSteps := 1000000) [hd, hd2]))
      rw [List.drop_of_length_le (show (l.map nD).length ≤ l.length by simp), List.drop_of_length_le (show l.length ≤ n.toNat by omega)]
      exact ⟨by omega, ⟨.inl trivial, Nat.zero_le _, by simp⟩, rfl⟩
    · have hd2 : decide ((l.length : Int) < n) = false := decide_eq_false h2
      (try (push_cast (maxSteps := 1000000) [hd, hd2]))
      rw [← List.map_drop]
      have : (l.drop n.toNat).length ≤ 1000000 := by rw [List.length_drop]; omega
      simp only [List.length_map]
      exact ⟨by omega, ⟨.inl trivial, maxLen_ge this, by omega⟩, trivial⟩
theorem f11 (a b : List Int) (ha : a.length ≤ 1000000) : Spec V 11 [.c (.d (rowD a)), .c (.d (rowD b))] (bL (decide (a = b))) := by
  unfold rowD
  (refine Spec.of_go (L := fun | 0 => some [0, 1] | 1 => some [0, 1, 10] | 2 => some [4] | 3 => some [0, 1, 12, 13] | 4 => some [0, 1, 12, 13, 14] | 5 => some [0, 1, 5, 12, 13] | 6 => some [0, 1, 12, 13, 24] | 7 => some [4] | 8 => some [0, 1, 12, 13] | 9 => some [4] | _ => none) 1000 Go.Proofs.Try.func11 rfl rfl ⟨Nat.le_of_ble_eq_true rfl, rfl⟩ rfl ?_; unfold Go.Proofs.Try.f11; push_cast (maxSteps := 1000000))
  by_cases hl : a.length = b.length
  · have hd : decide ((a.length : Int) = (b.length : Int)) = true := decide_eq_true (by omega)
    (try (push_cast (maxSteps := 1000000) [hd]))
    refine LoopK.s1 (α := Nat) [13] (fun k => [nL k]) (fun k => k ≤ a.length ∧ a.take k = b.take k) (fun k => a.length - k) 1000 0 ⟨by omega, rfl⟩ (by (try (push_cast (maxSteps := 1000000)))) ?_
    rintro k ⟨hk, hc⟩
    by_cases hlt : k < a.length
    · have hv := List.getElem?_eq_getElem hlt; have hd : decide ((k : Int) < (a.length : Int)) = true := decide_eq_true (by omega)
      have hlt2 : k < b.length := by omega
      have hv2 := List.getElem?_eq_getElem hlt2
      (try (push_cast (maxSteps := 1000000) [hd, getD_map hv, getD_map hv2]))
      (refine DrawK.of (.take 0 (.take 1 (.take 2 (.take 3 (.take 4 (.take 5 (.take 6 (.take 7 (.take 8 .done))))))))) 1000 (by decide +kernel) ?_; try (push_cast (maxSteps := 1000000)))
      (try (push_cast (maxSteps := 1000000) [getD_map hv, getD_map hv2]))
      ((repeat' (with_reducible refine And.intro ?_ ?_)) <;> try (first | trivial | omega | exact inK64 (by omega) (by omega) | exact inKu8 (by omega) (by omega) | (simp only [maxLen]; omega) | exact .inl trivial | exact .inl rfl))
      refine BrP.mk (fun h => ?_) (fun h => ?_) <;> try (push_cast (maxSteps := 1000000) [h])
      · have h' : ¬ a[k] = b[k] := by simpa using h
        symm
        refine decide_eq_false fun e => h' ?_
        subst e; rfl
      · have h' : a[k] = b[k] := by simpa using h
        ((repeat' (with_reducible refine And.intro ?_ ?_)) <;> try (first | trivial | omega | exact inK64 (by omega) (by omega) | exact inKu8 (by omega) (by omega) | (simp only [maxLen]; omega) | exact .inl trivial | exact .inl rfl))
        refine ⟨k + 1, ⟨by omega, ?_⟩, by omega, Le.st ?_⟩
        · rw [List.take_succ_eq_append_getElem hlt, List.take_succ_eq_append_getElem hlt2, hc, h']
        · (try (push_cast (maxSteps := 1000000)))
          try rfl
    · have hd : decide ((k : Int) < (a.length : Int)) = false := decide_eq_false (by omega)
      (try (push_cast (maxSteps := 1000000) [hd]))
      symm
      refine decide_eq_true ?_
      obtain rfl : k = a.length := by omega
      rw [List.take_length, hl, List.take_length] at hc
      exact hc
  · have hd : decide ((a.length : Int) = (b.length : Int)) = false := decide_eq_false (by omega)
    (try (push_cast (maxSteps := 1000000) [hd]))
    exact (decide_eq_false fun e => hl (by rw [e])).symm
theorem f28 (x : Int) : Spec V 28 [nL x] (nL x) := by
  (refine Spec.of_go (L := fun | 0 => some [0] | 1 => some [2] | _ => none) 1000 Go.Proofs.Try.func28 rfl rfl ⟨Nat.le_of_ble_eq_true rfl, rfl⟩ rfl ?_; unfold Go.Proofs.Try.f28; push_cast (maxSteps := 1000000))
theorem f29 (x : Int) : Spec V 29 [nL x] (bL true) := by
  (refine Spec.of_go (L := fun | 0 => some [] | 1 => some [2] | _ => none) 1000 Go.Proofs.Try.func29 rfl rfl ⟨Nat.le_of_ble_eq_true rfl, rfl⟩ rfl ?_; unfold Go.Proofs.Try.f29; push_cast (maxSteps := 1000000))
theorem f31 (x : Int) : Spec V 31 [nL x] (bL true) := by
  (refine Spec.of_go (L := fun | 0 => some [] | 1 => some [2] | _ => none) 1000 Go.Proofs.Try.func31 rfl rfl ⟨Nat.le_of_ble_eq_true rfl, rfl⟩ rfl ?_; unfold Go.Proofs.Try.f31; push_cast (maxSteps := 1000000))
end Go.LS.Tryr
