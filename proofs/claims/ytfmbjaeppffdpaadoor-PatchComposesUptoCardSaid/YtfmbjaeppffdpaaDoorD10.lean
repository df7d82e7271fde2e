/- Contracts of the functions of the seat, one by one (part D10); no condition but those that each bears. -/
import Derived.Test.YtfmbjaeppffdpaaDoorD9
namespace Go.LS.Tryd
open Go Go.LS
set_option maxRecDepth 100000
set_option linter.unusedSimpArgs false
set_option linter.unusedVariables false

theorem d45 (L : List Cl) (ks : List ByteArray) (cs : List Ch) (hL : okCl L) (hk : okKeys ks) (hc : okChs cs) (hr : ∀ c ∈ cs, rightC c) :
    Spec V 45 [.c (.d (.sl 3 (L.map eC))), .c (.d (.sl 1 (ks.map eS))), .c (.d (.sl 3 (cs.map eCh)))] (.tu [i2 .i64 ((checkP L ks cs).1 : Int), i2 .i64 (checkP L ks cs).2]) := by
  have hcl : cs.length ≤ 1099511627776 := hc.1
  have hk' : ks.length ≤ 64 := hk
  have h18 := d18 ⟨L, []⟩ ks (okT2_nil hL) hk
  have h86 := d86 L ks hL.1 hk
  simp only [eT_eq, List.map_nil] at h18
  obtain ⟨R, hR⟩ : ∃ R, R = checkP L ks cs := ⟨_, rfl⟩
  rw [← hR]
  simp only [checkP] at hR
  (refine Spec.of_go (L := fun | 0 => some [0, 1, 2] | 1 => some [0, 1, 2, 9] | 2 => some [0, 1, 2, 9, 22] | 3 => some [6, 7] | 4 => some [0, 2, 10] | 5 => some [0, 2, 10, 27, 28, 29] | 6 => some [0, 2, 10, 27, 28, 29, 30] | 7 => some [0, 2, 10, 11, 12, 27, 28, 29] | 8 => some [0, 2, 10, 11, 13, 27, 28, 29] | 9 => some [0, 2, 10, 11, 13, 27, 28, 29, 39] | 10 => some [6, 7] | 11 => some [0, 2, 10, 27, 28, 29] | 12 => some [6, 7] | _ => none) 1000 Go.Proofs.Tryd.func45 rfl rfl ⟨Nat.le_of_ble_eq_true rfl, rfl⟩ rfl ?_; unfold Go.Proofs.Tryd.f45; push_cast (maxSteps := 1000000))
  refine ⟨_, h18, rfl, ?_⟩
  (try (push_cast (maxSteps := 1000000)))
  refine BrP.mk (fun h => ?_) (fun h => ?_) <;> try (push_cast (maxSteps := 1000000) [h])
  · have h' : ¬ (tabF ⟨L, []⟩ ks).2 = 0 := by simpa using h
    rw [if_pos h'] at hR
    simp [hR]
  · have h' : (tabF ⟨L, []⟩ ks).2 = 0 := by simpa using h
    rw [if_neg (by simp [h'])] at hR
    have hlt := tab_lt h'
    simp only at hlt
    refine ⟨_, h86, rfl, ?_⟩
    have hpl : (placesN L ks).length ≤ 64 := by simpa [placesN] using hk'
    generalize placesN L ks = ps at *
    (try (push_cast (maxSteps := 1000000)))
    refine LoopK.s1 (α := Nat) [29] (fun k => [i2 .i64 k]) (fun k => k ≤ cs.length ∧ onesP L.length ps (cs.drop k) k = onesP L.length ps cs 0) (fun k => cs.length - k) 1000 0 ⟨by omega, rfl⟩ (by (try (push_cast (maxSteps := 1000000)))) ?_
    rintro k ⟨hk, hh⟩
    by_cases hltk : k < cs.length
    · have hv := List.getElem?_eq_getElem hltk
      have hd : decide ((k : Int) < (cs.length : Int)) = true := decide_eq_true (by omega)
      have hm := List.getElem_mem hltk
      rw [drop_cons hv] at hh; simp only [onesP] at hh
      have h87 := d87 L ps cs[k] hL.1 (hc.2 _ hm) (hr _ hm) hpl hlt
      generalize cs[k] = c at *
      simp only [eCh_eq, List.map_cons, List.map_nil] at h87
      (try (push_cast (maxSteps := 1000000) [hd, getD_map hv]))
      ((repeat' (with_reducible refine And.intro ?_ ?_)) <;> try (first | trivial | omega | exact inK64 (by omega) (by omega) | exact inKu8 (by omega) (by omega) | (simp only [maxLen]; omega) | exact .inl trivial | exact .inl rfl))
      refine ⟨_, h87, rfl, ?_⟩
      (try (push_cast (maxSteps := 1000000)))
      refine BrP.mk (fun h => ?_) (fun h => ?_) <;> try (push_cast (maxSteps := 1000000) [h])
      · have h2 : ¬ oneP L.length ps c = 0 := by simpa using h
        rw [if_pos h2] at hh
        rw [hR, ← hh]
        (try (push_cast (maxSteps := 1000000)))
      · have h2 : oneP L.length ps c = 0 := by simpa using h
        rw [if_neg (by simp [h2])] at hh
        ((repeat' (with_reducible refine And.intro ?_ ?_)) <;> try (first | trivial | omega | exact inK64 (by omega) (by omega) | exact inKu8 (by omega) (by omega) | (simp only [maxLen]; omega) | exact .inl trivial | exact .inl rfl))
        refine ⟨k + 1, ⟨by omega, hh⟩, by omega, Le.st ?_⟩
        (try (push_cast (maxSteps := 1000000))); (all_goals first | rfl | skip)
    · have hd : decide ((k : Int) < (cs.length : Int)) = false := decide_eq_false (by omega)
      rw [List.drop_eq_nil_of_le (by omega)] at hh; simp only [onesP] at hh
      have e : k = cs.length := by omega
      rw [hR, ← hh]
      (try (push_cast (maxSteps := 1000000) [hd]))
      try omega
theorem d46 (L : List Cl) (ks : List ByteArray) (cs : List Ch) (hL : okCl L) (hk : okKeys ks) (hc : okChs cs) :
    Spec V 46 [.c (.d (.sl 3 (L.map eRC))), .c (.d (.sl 1 (ks.map eS))), .c (.d (.sl 3 (cs.map eRCh)))] (.tu [i2 .i64 ((checkP L ks cs).1 : Int), i2 .i64 (checkP L ks cs).2]) := by
  have hcl : cs.length ≤ 1099511627776 := hc.1
  have hk' : ks.length ≤ 64 := hk
  have h19 := d19 ⟨L, []⟩ ks (okT2_nil hL) hk
  simp only [eRT_eq, List.map_nil] at h19
  obtain ⟨R, hR⟩ : ∃ R, R = checkP L ks cs := ⟨_, rfl⟩
  rw [← hR]
  simp only [checkP] at hR
  (refine Spec.of_go (L := fun | 0 => some [0, 1, 2] | 1 => some [0, 1, 2, 9] | 2 => some [0, 1, 2, 9, 21] | 3 => some [6, 7] | 4 => some [0, 1, 2, 23, 24, 25] | 5 => some [0, 1, 2, 23, 24, 25, 26] | 6 => some [0, 1, 2, 10, 11, 23, 24, 25] | 7 => some [0, 1, 2, 10, 12, 23, 24, 25] | 8 => some [0, 1, 2, 10, 12, 23, 24, 25, 35] | 9 => some [6, 7] | 10 => some [0, 1, 2, 23, 24, 25] | 11 => some [6, 7] | _ => none) 1000 Go.Proofs.Tryd.func46 rfl rfl ⟨Nat.le_of_ble_eq_true rfl, rfl⟩ rfl ?_; unfold Go.Proofs.Tryd.f46; push_cast (maxSteps := 1000000))
  refine ⟨_, h19, rfl, ?_⟩
  (try (push_cast (maxSteps := 1000000)))
  refine BrP.mk (fun h => ?_) (fun h => ?_) <;> try (push_cast (maxSteps := 1000000) [h])
  · have h' : ¬ (tabF ⟨L, []⟩ ks).2 = 0 := by simpa using h
    rw [if_pos h'] at hR
    simp [hR]
  · have h' : (tabF ⟨L, []⟩ ks).2 = 0 := by simpa using h
    rw [if_neg (by simp [h'])] at hR
    have hf := tab_found h'
    simp only at hf
    (try (push_cast (maxSteps := 1000000)))
    refine LoopK.s1 (α := Nat) [25] (fun k => [i2 .i64 k]) (fun k => k ≤ cs.length ∧ onesP L.length (placesN L ks) (cs.drop k) k = onesP L.length (placesN L ks) cs 0) (fun k => cs.length - k) 1000 0 ⟨by omega, rfl⟩ (by (try (push_cast (maxSteps := 1000000)))) ?_
    rintro k ⟨hk, hh⟩
    by_cases hltk : k < cs.length
    · have hv := List.getElem?_eq_getElem hltk
      have hd : decide ((k : Int) < (cs.length : Int)) = true := decide_eq_true (by omega)
      have hm := List.getElem_mem hltk
      rw [drop_cons hv] at hh; simp only [onesP] at hh
      have h88 := d88 L ks cs[k] hL.1 (by simp only [okLen]; omega) hf (hc.2 _ hm)
      generalize cs[k] = c at *
      simp only [eRCh_eq, List.map_cons, List.map_nil] at h88
      (try (push_cast (maxSteps := 1000000) [hd, getD_map hv]))
      ((repeat' (with_reducible refine And.intro ?_ ?_)) <;> try (first | trivial | omega | exact inK64 (by omega) (by omega) | exact inKu8 (by omega) (by omega) | (simp only [maxLen]; omega) | exact .inl trivial | exact .inl rfl))
      refine ⟨_, h88, rfl, ?_⟩
      (try (push_cast (maxSteps := 1000000)))
      refine BrP.mk (fun h => ?_) (fun h => ?_) <;> try (push_cast (maxSteps := 1000000) [h])
      · have h2 : ¬ oneP L.length (placesN L ks) c = 0 := by simpa using h
        rw [if_pos h2] at hh
        rw [hR, ← hh]
        (try (push_cast (maxSteps := 1000000)))
      · have h2 : oneP L.length (placesN L ks) c = 0 := by simpa using h
        rw [if_neg (by simp [h2])] at hh
        ((repeat' (with_reducible refine And.intro ?_ ?_)) <;> try (first | trivial | omega | exact inK64 (by omega) (by omega) | exact inKu8 (by omega) (by omega) | (simp only [maxLen]; omega) | exact .inl trivial | exact .inl rfl))
        refine ⟨k + 1, ⟨by omega, hh⟩, by omega, Le.st ?_⟩
        (try (push_cast (maxSteps := 1000000))); (all_goals first | rfl | skip)
    · have hd : decide ((k : Int) < (cs.length : Int)) = false := decide_eq_false (by omega)
      rw [List.drop_eq_nil_of_le (by omega)] at hh; simp only [onesP] at hh
      have e : k = cs.length := by omega
      rw [hR, ← hh]
      (try (push_cast (maxSteps := 1000000) [hd]))
      try omega
theorem d84 (cs : List Ch) (hc : okChs cs) : Spec V 84 [.c (.d (.sl 3 (cs.map eCh)))] (b2 (shortCs cs)) := by
  have hcl : cs.length ≤ 1099511627776 := hc.1
  obtain ⟨R, hR⟩ : ∃ R, R = shortCs cs := ⟨_, rfl⟩
  rw [← hR]
  simp only [shortCs] at hR
  (refine Spec.of_go (L := fun | 0 => some [0] | 1 => some [0, 5, 6, 7] | 2 => some [0, 5, 6, 7, 8] | 3 => some [0, 4, 5, 6, 7] | 4 => some [0, 5, 6, 7, 27] | 5 => some [2] | 6 => some [0, 5, 6, 7] | 7 => some [2] | _ => none) 1000 Go.Proofs.Tryd.func84 rfl rfl ⟨Nat.le_of_ble_eq_true rfl, rfl⟩ rfl ?_; unfold Go.Proofs.Tryd.f84; push_cast (maxSteps := 1000000))
  refine LoopK.s1 (α := Nat) [7] (fun k => [i2 .i64 k]) (fun k => k ≤ cs.length ∧ (cs.drop k).all shortC = cs.all shortC) (fun k => cs.length - k) 1000 0 ⟨by omega, rfl⟩ (by (try (push_cast (maxSteps := 1000000)))) ?_
  rintro k ⟨hk, hh⟩
  by_cases hlt : k < cs.length
  · have hv := List.getElem?_eq_getElem hlt; have hd : decide ((k : Int) < (cs.length : Int)) = true := decide_eq_true (by omega)
    have hm := hc.2 _ (List.getElem_mem hlt)
    rw [drop_cons hv, List.all_cons] at hh
    generalize cs[k] = c at *
    have hrows : ∀ r ∈ [c.o, c.n], okR2 r := by
      intro r hr
      simp only [List.mem_cons, List.not_mem_nil, or_false] at hr
      rcases hr with rfl | rfl
      · exact hm.1
      · exact hm.2
    have h109 := f19 [c.o, c.n] (by simp [okLen]) (fun r hr => (hrows r hr).1)
    have h58 := d58 ⟨[], [c.o, c.n]⟩ ⟨⟨by simp [okLen], by simp⟩, by simp [okLen], hrows⟩
    simp only [eT_eq, List.map_cons, List.map_nil, eR_eq] at h109 h58
    simp only [shortC] at hh
    (try (push_cast (maxSteps := 1000000) [hd, getD_map hv]))
    ((repeat' (with_reducible refine And.intro ?_ ?_)) <;> try (first | trivial | omega | exact inK64 (by omega) (by omega) | exact inKu8 (by omega) (by omega) | (simp only [maxLen]; omega) | exact .inl trivial | exact .inl rfl))
    refine ⟨_, h109, rfl, ?_⟩
    (try (push_cast (maxSteps := 1000000)))
    cases e1 : smallF [c.o, c.n] with
    | false =>
      rw [e1, Bool.false_and, Bool.false_and] at hh
      (try (push_cast (maxSteps := 1000000)))
      rw [hR, ← hh]
      rfl
    | true =>
      rw [e1, Bool.true_and] at hh
      (try (push_cast (maxSteps := 1000000)))
      refine ⟨_, h58, rfl, ?_⟩
      (try (push_cast (maxSteps := 1000000)))
      cases e2 : fewT ⟨[], [c.o, c.n]⟩ with
      | false =>
        rw [e2, Bool.false_and] at hh
        (try (push_cast (maxSteps := 1000000)))
        rw [hR, ← hh]
        rfl
      | true =>
        rw [e2, Bool.true_and] at hh
        (try (push_cast (maxSteps := 1000000)))
        ((repeat' (with_reducible refine And.intro ?_ ?_)) <;> try (first | trivial | omega | exact inK64 (by omega) (by omega) | exact inKu8 (by omega) (by omega) | (simp only [maxLen]; omega) | exact .inl trivial | exact .inl rfl))
        refine ⟨k + 1, ⟨by omega, hh⟩, by omega, Le.st ?_⟩
        (try (push_cast (maxSteps := 1000000))); (all_goals first | rfl | skip)
  · have hd : decide ((k : Int) < (cs.length : Int)) = false := decide_eq_false (by omega)
    rw [List.drop_eq_nil_of_le (by omega), List.all_nil] at hh
    (try (push_cast (maxSteps := 1000000) [hd]))
    rw [hR, ← hh, Bool.true_and, Bool.eq_iff_iff, decide_eq_true_eq, decide_eq_true_eq]
    omega
theorem d43 (z : Pc) (ht : okT0 z.T) (hk : okLen z.K) (hx : okChs z.X) (hy : okChs z.Y) : Spec V 43 [.ag ((ePc z).map .d)] (b2 (fitsP z)) := by
  have h84x := d84 z.X hx
  have h84y := d84 z.Y hy
  have h16 := d16 ⟨z.T, ⟨[], []⟩, z.K⟩ ht ⟨⟨by simp [okLen], by simp⟩, by simp [okLen], by simp⟩ hk
  obtain ⟨T, K, X, Y⟩ := z
  simp only at h84x h84y h16
  simp only [eD_eq, List.map_nil] at h16
  unfold fitsP
  (refine Spec.of_go (L := fun | 0 => some [1] | 1 => some [2] | _ => none) 1000 Go.Proofs.Tryd.func43 rfl rfl ⟨Nat.le_of_ble_eq_true rfl, rfl⟩ rfl ?_; unfold Go.Proofs.Tryd.f43; push_cast (maxSteps := 1000000))
  refine ⟨_, h16, rfl, ?_⟩
  (try (push_cast (maxSteps := 1000000)))
  cases h1 : fitsD ⟨T, ⟨[], []⟩, K⟩ with
  | false => (try (push_cast (maxSteps := 1000000)))
  | true =>
    (try (push_cast (maxSteps := 1000000)))
    refine ⟨_, h84x, rfl, ?_⟩
    (try (push_cast (maxSteps := 1000000)))
    cases h2 : shortCs X with
    | false => (try (push_cast (maxSteps := 1000000)))
    | true =>
      (try (push_cast (maxSteps := 1000000)))
      refine ⟨_, h84y, rfl, ?_⟩
      (try (push_cast (maxSteps := 1000000)))
end Go.LS.Tryd
