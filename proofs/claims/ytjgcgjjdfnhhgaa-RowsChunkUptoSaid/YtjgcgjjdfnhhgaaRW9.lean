/- Contracts of the functions of the seat, one by one (part RW9); no condition but those that each bears. -/
import Derived.Test.YtjgcgjjdfnhhgaaRW3
namespace Go.LS.Tryr
open Go Go.LS
set_option maxRecDepth 100000
set_option linter.unusedVariables false
set_option linter.unusedSimpArgs false
set_option linter.unusedVariables false

/-- For which numbers the law's function holds. -/
def keepP (k r x : Int) : Bool := decide (x % k = r)
theorem maxLen_ge {n : Nat} (h : n ≤ 1000000) : n ≤ maxLen := by simp only [maxLen]; omega
theorem f24 (l : List Int) (n : Int) (hlen : l.length ≤ 1000000) : Spec V 24 [.c (.d (rowD l)), nL n] (.c (.d (rowD (l.take n.toNat)))) := by
  unfold rowD
  (refine Spec.of_go (L := fun | 0 => some [0, 1] | 1 => some [0, 1, 7] | 2 => some [0, 1] | 3 => some [0, 1, 11] | 4 => some [0, 1] | 5 => some [0, 1, 5] | 6 => some [4] | _ => none) 1000 Go.Proofs.Try.func24 rfl rfl ⟨Nat.le_of_ble_eq_true rfl, rfl⟩ rfl ?_; unfold Go.Proofs.Try.f24; push_cast (maxSteps := 1000000))
  by_cases h1 : n < 0
  · have hd : decide (n < 0) = true := decide_eq_true h1
    have hd2 : decide ((l.length : Int) < 0) = false := decide_eq_false (by omega)
    (try (push_cast (maxSteps := 1000000) [hd, hd2]))
    exact ⟨by omega, ⟨.inl trivial, Nat.zero_le _⟩, by rw [show n.toNat = 0 by omega]; rfl⟩
  · have hd : decide (n < 0) = false := decide_eq_false h1
    by_cases h2 : (l.length : Int) < n
    · have hd2 : decide ((l.length : Int) < n) = true := decide_eq_true h2
      (try (push_cast (maxSteps := 1000000) [hd, hd2]))
      rw [List.take_of_length_le (show (l.map nD).length ≤ l.length by simp), List.take_of_length_le (show l.length ≤ n.toNat by omega)]
      simp only [List.length_map]
      exact ⟨by omega, ⟨.inl trivial, maxLen_ge hlen, by omega⟩, trivial⟩
    · have hd2 : decide ((l.length : Int) < n) = false := decide_eq_false h2
      (try (push_cast (maxSteps := 1000000) [hd, hd2]))
      rw [← List.map_take]
      have : (l.take n.toNat).length ≤ 1000000 := by rw [List.length_take]; omega
      simp only [List.length_map]
      exact ⟨by omega, ⟨.inl trivial, maxLen_ge this, by omega⟩, trivial⟩
theorem f26 (l : List Int) (n : Int) (hlen : l.length ≤ 1000000) : Spec V 26 [.c (.d (rowD l)), nL n] (.c (.d (rowD (l.drop n.toNat)))) := by
  unfold rowD
  (refine Spec.of_go (L := fun | 0 => some [0, 1] | 1 => some [0, 1, 7] | 2 => some [0, 1] | 3 => some [0, 1, 11] | 4 => some [0, 1] | 5 => some [0, 1, 5] | 6 => some [4] | _ => none) 1000 Go.Proofs.Try.func26 rfl rfl ⟨Nat.le_of_ble_eq_true rfl, rfl⟩ rfl ?_; unfold Go.Proofs.Try.f26; push_cast (maxSteps := 1000000))
  by_cases h1 : n < 0
  · have hd : decide (n < 0) = true := decide_eq_true h1
    have hd2 : decide ((l.length : Int) < 0) = false := decide_eq_false (by omega)
    (try (push_cast (maxSteps := 1000000) [hd, hd2]))
    exact ⟨by omega, ⟨.inl trivial, maxLen_ge hlen, by omega⟩, by rw [show n.toNat = 0 by omega]; rfl⟩
  · have hd : decide (n < 0) = false := decide_eq_false h1
    by_cases h2 : (l.length : Int) < n
    · have hd2 : decide ((l.length : Int) < n) = true := decide_eq_true h2
      (try (push_cast (maxSteps := 1000000) [hd, hd2]))
      rw [List.drop_of_length_le (show (l.map nD).length ≤ l.length by simp), List.drop_of_length_le (show l.length ≤ n.toNat by omega)]
      exact ⟨by omega, ⟨.inl trivial, Nat.zero_le _, by simp⟩, rfl⟩
    · have hd2 : decide ((l.length : Int) < n) = false := decide_eq_false h2
      (try (push_cast (maxSteps := 1000000) [hd, hd2]))
      rw [← List.map_drop]
      have : (l.drop n.toNat).length ≤ 1000000 := by rw [List.length_drop]; omega
      simp only [List.length_map]
      exact ⟨by omega, ⟨.inl trivial, maxLen_ge this, by omega⟩, trivial⟩
theorem f13 (x k : Int) (hx : inK .i64 x) (hk : 0 < k) (hk2 : k ≤ 1000) : Spec V 13 [nL x, nL k] (nL (x % k)) := by
  have e1 := Int.emod_nonneg x (show k ≠ 0 by omega)
  have e2 := Int.emod_lt_of_pos x hk
  have e3 := Int.tmod_lt_of_pos x hk
  have e4 : -k < x.tmod k := by
    have := Int.lt_tmod_of_pos x hk
    omega
  have h3 : (x.tmod k + k * x.tdiv k) % k = x.tmod k % k := Int.add_mul_emod_self_left _ _ _
  rw [Int.add_comm, Int.mul_tdiv_add_tmod] at h3
  have e5 : x % k = if x.tmod k < 0 then x.tmod k + k else x.tmod k := by
    split
    · have h4 : (x.tmod k + k) % k = x.tmod k % k := Int.add_emod_right _ _
      rw [h3, ← h4]
      exact Int.emod_eq_of_lt (by omega) (by omega)
    · rw [h3]
      exact Int.emod_eq_of_lt (by omega) (by omega)
  (refine Spec.of_go (L := fun | 0 => some [0, 1] | 1 => some [0, 1] | 2 => some [0, 1, 9] | 3 => some [0] | 4 => some [4] | _ => none) 1000 Go.Proofs.Try.func13 rfl rfl ⟨Nat.le_of_ble_eq_true rfl, rfl⟩ rfl ?_; unfold Go.Proofs.Try.f13; push_cast (maxSteps := 1000000))
  refine ⟨by omega, ?_⟩
  refine BrP.mk (fun h => ?_) (fun h => ?_) <;> try (push_cast (maxSteps := 1000000) [h])
  · have h' := of_decide_eq_true h
    rw [if_pos h'] at e5
    refine ⟨inK64 (by omega) (by omega), e5.symm⟩
  · have h' := of_decide_eq_false h
    rw [if_neg h'] at e5
    exact e5.symm
theorem f11 (a b : List Int) (ha : a.length ≤ 1000000) : Spec V 11 [.c (.d (rowD a)), .c (.d (rowD b))] (bL (decide (a = b))) := by
  unfold rowD
  (refine Spec.of_go (L := fun | 0 => some [0, 1] | 1 => some [0, 1, 10] | 2 => some [4] | 3 => some [0, 1, 12, 13] | 4 => some [0, 1, 12, 13, 14] | 5 => some [0, 1, 5, 12, 13] | 6 => some [0, 1, 12, 13, 24] | 7 => some [4] | 8 => some [0, 1, 12, 13] | 9 => some [4] | _ => none) 1000 Go.Proofs.Try.func11 rfl rfl ⟨Nat.le_of_ble_eq_true rfl, rfl⟩ rfl ?_; unfold Go.Proofs.Try.f11; push_cast (maxSteps := 1000000))
  by_cases hl : a.length = b.length
  · have hd : decide ((a.length : Int) = (b.length : Int)) = true := decide_eq_true (by omega)
    (try (push_cast (maxSteps := 1000000) [hd]))
    refine LoopK.s1 (α := Nat) [13] (fun k => [nL k]) (fun k => k ≤ a.length ∧ a.take k = b.take k) (fun k => a.length - k) 1000 0 ⟨by omega, rfl⟩ (by (try (push_cast (maxSteps := 1000000)))) ?_
    rintro k ⟨hk, hc⟩
    by_cases hlt : k < a.length
    · have hv := List.getElem?_eq_getElem hlt; have hd : decide ((k : Int) < (a.length : Int)) = true := decide_eq_true (by omega)
      have hlt2 : k < b.length := by omega
      have hv2 := List.getElem?_eq_getElem hlt2
      (try (push_cast (maxSteps := 1000000) [hd, getD_map hv, getD_map hv2]))
      (refine DrawK.of (.take 0 (.take 1 (.take 2 (.take 3 (.take 4 (.take 5 (.take 6 (.take 7 (.take 8 .done))))))))) 1000 (by decide +kernel) ?_; try (push_cast (maxSteps := 1000000)))
      (try (push_cast (maxSteps := 1000000) [getD_map hv, getD_map hv2]))
      ((repeat' (with_reducible refine And.intro ?_ ?_)) <;> try (first | trivial | omega | exact inK64 (by omega) (by omega) | exact inKu8 (by omega) (by omega) | (simp only [maxLen]; omega) | exact .inl trivial | exact .inl rfl))
      refine BrP.mk (fun h => ?_) (fun h => ?_) <;> try (push_cast (maxSteps := 1000000) [h])
      · have h' : ¬ a[k] = b[k] := by simpa using h
        symm
        refine decide_eq_false fun e => h' ?_
        subst e; rfl
      · have h' : a[k] = b[k] := by simpa using h
        ((repeat' (with_reducible refine And.intro ?_ ?_)) <;> try (first | trivial | omega | exact inK64 (by omega) (by omega) | exact inKu8 (by omega) (by omega) | (simp only [maxLen]; omega) | exact .inl trivial | exact .inl rfl))
        refine ⟨k + 1, ⟨by omega, ?_⟩, by omega, Le.st ?_⟩
        · rw [List.take_succ_eq_append_getElem hlt, List.take_succ_eq_append_getElem hlt2, hc, h']
        · (try (push_cast (maxSteps := 1000000)))
          try rfl
    · have hd : decide ((k : Int) < (a.length : Int)) = false := decide_eq_false (by omega)
      (try (push_cast (maxSteps := 1000000) [hd]))
      symm
      refine decide_eq_true ?_
      obtain rfl : k = a.length := by omega
      rw [List.take_length, hl, List.take_length] at hc
      exact hc
  · have hd : decide ((a.length : Int) = (b.length : Int)) = false := decide_eq_false (by omega)
    (try (push_cast (maxSteps := 1000000) [hd]))
    exact (decide_eq_false fun e => hl (by rw [e])).symm
theorem f28 (x : Int) : Spec V 28 [nL x] (nL x) := by
  (refine Spec.of_go (L := fun | 0 => some [0] | 1 => some [2] | _ => none) 1000 Go.Proofs.Try.func28 rfl rfl ⟨Nat.le_of_ble_eq_true rfl, rfl⟩ rfl ?_; unfold Go.Proofs.Try.f28; push_cast (maxSteps := 1000000))
theorem f29 (x : Int) : Spec V 29 [nL x] (bL true) := by
  (refine Spec.of_go (L := fun | 0 => some [] | 1 => some [2] | _ => none) 1000 Go.Proofs.Try.func29 rfl rfl ⟨Nat.le_of_ble_eq_true rfl, rfl⟩ rfl ?_; unfold Go.Proofs.Try.f29; push_cast (maxSteps := 1000000))
theorem f31 (x : Int) : Spec V 31 [nL x] (bL true) := by
  (refine Spec.of_go (L := fun | 0 => some [] | 1 => some [2] | _ => none) 1000 Go.Proofs.Try.func31 rfl rfl ⟨Nat.le_of_ble_eq_true rfl, rfl⟩ rfl ?_; unfold Go.Proofs.Try.f31; push_cast (maxSteps := 1000000))
theorem f12 (x k r : Int) (hx : inK .i64 x) (hk : 0 < k) (hk2 : k ≤ 1000) : Spec V 12 [nL x, .c (.d (.at_ [.v (.int .i64 k)])), .c (.d (.at_ [.v (.int .i64 r)]))] (bL (keepP k r x)) := by
  (refine Spec.of_go (L := fun | 0 => some [0, 1, 2] | 1 => some [4] | _ => none) 1000 Go.Proofs.Try.func12 rfl rfl ⟨Nat.le_of_ble_eq_true rfl, rfl⟩ rfl ?_; unfold Go.Proofs.Try.f12; push_cast (maxSteps := 1000000))
  (refine DrawK.of (.take 0 (.take 1 (.take 3 (.one 2 (.take 4 (.take 5 .done)))))) 1000 (by decide +kernel) ?_; try (push_cast (maxSteps := 1000000)))
  ((repeat' (with_reducible refine And.intro ?_ ?_)) <;> try (first | trivial | omega | exact inK64 (by omega) (by omega) | exact inKu8 (by omega) (by omega) | (simp only [maxLen]; omega) | exact .inl trivial | exact .inl rfl))
  all_goals refine ⟨_, f13 x k hx hk hk2, rfl, ?_⟩
  all_goals (try (push_cast (maxSteps := 1000000)))
  all_goals rfl
theorem f20 (x : Int) (p : Int → Bool) {fp : FuncId} {cs : List DV} (hp : Spec V fp (nL x :: cs.map fun d => .c (.d d)) (bL (p x))) : Spec V 20 [nL x, .c (.d (.at_ [.clo fp cs]))] (bL (p x)) := by
  (refine Spec.of_go (L := fun | 0 => some [0, 1] | 1 => some [3] | _ => none) 1000 Go.Proofs.Try.func20 rfl rfl ⟨Nat.le_of_ble_eq_true rfl, rfl⟩ rfl ?_; unfold Go.Proofs.Try.f20; push_cast (maxSteps := 1000000))
  refine ⟨_, hp, by simp [dataL, data1, dataC], ?_⟩
  (try (push_cast (maxSteps := 1000000)))
theorem f14 (l : List Int) (k0 r : Int) (hl : ∀ x ∈ l, inK .i64 x) (hlen : l.length ≤ 1000000) (hk0 : 0 < k0) (hk2 : k0 ≤ 1000) : Spec V 14 [.c (.d (rowD l)), nL k0, nL r] (.c (.d (rowD (l.filter (keepP k0 r))))) := by
  unfold rowD
  (refine Spec.of_go (L := fun | 0 => some [0, 1, 2] | 1 => some [0, 1, 2, 7] | 2 => some [1, 2, 7, 10, 11, 12] | 3 => some [1, 2, 7, 10, 11, 12, 13] | 4 => some [1, 2, 7, 9, 10, 11, 12] | 5 => some [1, 2, 7, 9, 10, 11, 12, 20] | 6 => some [1, 2, 7, 10, 11, 12] | 7 => some [1, 2, 7, 10, 11, 12] | 8 => some [6] | _ => none) 1000 Go.Proofs.Try.func14 rfl rfl ⟨Nat.le_of_ble_eq_true rfl, rfl⟩ rfl ?_; unfold Go.Proofs.Try.f14; push_cast (maxSteps := 1000000))
  refine LoopK.le (Le.nil 7 3 1 (by decide) (by (try (push_cast (maxSteps := 1000000))))) ?_
  refine LoopK.ov (α := Nat) [12] (fun k => [nL k]) (fun k => [.rw 3 1 (((l.take k).filter (keepP k0 r)).map nD)]) (fun k => k ≤ l.length) (fun k => l.length - k) 1000 0 (by omega) (by (try (push_cast (maxSteps := 1000000))); rfl) ?_
  intro k hk
  by_cases hlt : k < l.length
  · have hv := List.getElem?_eq_getElem hlt; have hd : decide ((k : Int) < (l.length : Int)) = true := decide_eq_true (by omega)
    have hle : ((l.take k).filter (keepP k0 r)).length ≤ 1000000 := by
      have := List.length_filter_le (keepP k0 r) (l.take k)
      rw [List.length_take] at this
      omega
    have ht : l.take (k + 1) = l.take k ++ [l[k]] := List.take_succ_eq_append_getElem hlt
    (try (push_cast (maxSteps := 1000000) [hd, getD_map hv]))
    ((repeat' (with_reducible refine And.intro ?_ ?_)) <;> try (first | trivial | omega | exact inK64 (by omega) (by omega) | exact inKu8 (by omega) (by omega) | (simp only [maxLen]; omega) | exact .inl trivial | exact .inl rfl))
    refine ⟨_, f13 l[k] k0 (hl _ (List.getElem_mem hlt)) hk0 hk2, rfl, ?_⟩
    by_cases hp : l[k] % k0 = r
    · have hd2 : decide (l[k] % k0 = r) = true := decide_eq_true hp
      have hf : (l.take (k + 1)).filter (keepP k0 r) = (l.take k).filter (keepP k0 r) ++ [l[k]] := by
        rw [ht, List.filter_append, List.filter_cons, if_pos (show keepP k0 r l[k] = true from hd2)]; rfl
      (try (push_cast (maxSteps := 1000000) [hd2]))
      ((repeat' (with_reducible refine And.intro ?_ ?_)) <;> try (first | trivial | omega | exact inK64 (by omega) (by omega) | exact inKu8 (by omega) (by omega) | (simp only [maxLen]; omega) | exact .inl trivial | exact .inl rfl))
      refine ⟨k + 1, by omega, by omega, ?_⟩
      rw [hf, List.map_append]
      refine Le.st ?_
      (try (push_cast (maxSteps := 1000000)))
      try rfl
    · have hd2 : decide (l[k] % k0 = r) = false := decide_eq_false hp
      have hf : (l.take (k + 1)).filter (keepP k0 r) = (l.take k).filter (keepP k0 r) := by
        rw [ht, List.filter_append, List.filter_cons, if_neg (show ¬ keepP k0 r l[k] = true by unfold keepP; simp [hp])]; simp
      (try (push_cast (maxSteps := 1000000) [hd2]))
      ((repeat' (with_reducible refine And.intro ?_ ?_)) <;> try (first | trivial | omega | exact inK64 (by omega) (by omega) | exact inKu8 (by omega) (by omega) | (simp only [maxLen]; omega) | exact .inl trivial | exact .inl rfl))
      refine ⟨k + 1, by omega, by omega, ?_⟩
      rw [hf]
      refine Le.st ?_
      (try (push_cast (maxSteps := 1000000)))
      try rfl
  · have hd : decide ((k : Int) < (l.length : Int)) = false := decide_eq_false (by omega)
    obtain rfl : k = l.length := by omega
    rw [List.take_length]
    (try (push_cast (maxSteps := 1000000) [hd]))
end Go.LS.Tryr
