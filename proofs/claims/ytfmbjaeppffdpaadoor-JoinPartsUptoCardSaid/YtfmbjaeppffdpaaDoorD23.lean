/- Contracts of the functions of the seat, one by one (part D23); no condition but those that each bears. -/
import Derived.Test.YtfmbjaeppffdpaaDoorD11
import Derived.Test.YtfmbjaeppffdpaaDoorPJa
namespace Go.LS.Tryd
open Go Go.LS
set_option maxRecDepth 100000
set_option linter.unusedSimpArgs false
set_option linter.unusedVariables false

theorem d35 (l : List Jo) (hl : l.length ≤ 100000) : Spec V 35 [.c (.d (.sl 2 (l.map eJo)))] (.c (.d (.sl 2 (l.map eJo)))) := by
  (refine Spec.of_go (L := fun | 0 => some [0] | 1 => some [0, 3] | 2 => some [3, 6, 7, 8] | 3 => some [3, 6, 7, 8, 9] | 4 => some [3, 5, 6, 7, 8] | 5 => some [3, 6, 7, 8] | 6 => some [3, 6, 7, 8] | 7 => some [2] | _ => none) 1000 Go.Proofs.Tryd.func35 rfl rfl ⟨Nat.le_of_ble_eq_true rfl, rfl⟩ rfl ?_; unfold Go.Proofs.Tryd.f35; push_cast (maxSteps := 1000000))
  refine LoopK.le (Le.nil 3 139 2 (by decide) (by (try (push_cast (maxSteps := 1000000))))) ?_
  (try (push_cast (maxSteps := 1000000)))
  refine LoopK.ov (α := Nat) [8] (fun k => [i2 .i64 k]) (fun k => [.rw 139 2 ((l.take k).map eJo)]) (fun k => k ≤ l.length) (fun k => l.length - k) 1000 0 (by omega) (by (try (push_cast (maxSteps := 1000000))) <;> first | rfl | exact ⟨rfl, rfl⟩ | exact ⟨rfl, rfl, rfl⟩ | trivial) ?_
  rintro k hk
  by_cases hlt : k < l.length
  · have hv := List.getElem?_eq_getElem hlt; have hd : decide ((k : Int) < (l.length : Int)) = true := decide_eq_true (by omega)
    have htk : l.take (k + 1) = l.take k ++ [l[k]] := by rw [List.take_add_one, hv]; rfl
    have hlk : (l.take k).length = k := by rw [List.length_take]; omega
    generalize l[k] = o at *
    (try (push_cast (maxSteps := 1000000) [hd, getD_map hv, hlk]))
    ((repeat' (with_reducible refine And.intro ?_ ?_)) <;> try (first | trivial | omega | exact inK64 (by omega) (by omega) | exact inKu8 (by omega) (by omega) | (simp only [maxLen]; omega) | exact .inl trivial | exact .inl rfl))
    refine ⟨k + 1, by omega, by omega, Le.st ?_⟩
    rw [htk]
    (try (push_cast (maxSteps := 1000000)))
    all_goals (first | rfl | (simp; done) | (simp; rfl))
  · have hd : decide ((k : Int) < (l.length : Int)) = false := decide_eq_false (by omega)
    (try (push_cast (maxSteps := 1000000) [hd]))
    rw [List.take_of_length_le (by omega)]
theorem d77 (l : List Jo) (n : ByteArray) (hl : okLen l) : Spec V 77 [.c (.d (.sl 2 (l.map eJo))), s2 n] (b2 (isR l n)) := by
  (refine Spec.of_go (L := fun | 0 => some [0, 1] | 1 => some [1, 7, 8, 9] | 2 => some [1, 7, 8, 9, 10] | 3 => some [1, 6, 7, 8, 9] | 4 => some [1, 7, 8, 9, 16] | 5 => some [4] | 6 => some [1, 7, 8, 9] | 7 => some [4] | _ => none) 1000 Go.Proofs.Tryd.func77 rfl rfl ⟨Nat.le_of_ble_eq_true rfl, rfl⟩ rfl ?_; unfold Go.Proofs.Tryd.f77; push_cast (maxSteps := 1000000))
  refine LoopK.s1 (α := Nat) [9] (fun k => [i2 .i64 k]) (fun k => k ≤ l.length ∧ isR (l.drop k) n = isR l n) (fun k => l.length - k) 1000 0 ⟨by omega, rfl⟩ (by (try (push_cast (maxSteps := 1000000)))) ?_
  rintro k ⟨hk, hc⟩
  by_cases hlt : k < l.length
  · have hv := List.getElem?_eq_getElem hlt; have hd : decide ((k : Int) < (l.length : Int)) = true := decide_eq_true (by omega)
    rw [drop_cons hv, isR_cons] at hc
    generalize l[k] = o at *
    (try (push_cast (maxSteps := 1000000) [hd, getD_map hv]))
    ((repeat' (with_reducible refine And.intro ?_ ?_)) <;> try (first | trivial | omega | exact inK64 (by omega) (by omega) | exact inKu8 (by omega) (by omega) | (simp only [maxLen]; omega) | exact .inl trivial | exact .inl rfl))
    refine BrP.mk (fun h => ?_) (fun h => ?_) <;> try (push_cast (maxSteps := 1000000) [h])
    · rw [← hc]
      simp [of_decide_eq_true h]
    · rw [h, Bool.false_or] at hc
      ((repeat' (with_reducible refine And.intro ?_ ?_)) <;> try (first | trivial | omega | exact inK64 (by omega) (by omega) | exact inKu8 (by omega) (by omega) | (simp only [maxLen]; omega) | exact .inl trivial | exact .inl rfl))
      refine ⟨k + 1, ⟨by omega, hc⟩, by omega, Le.st ?_⟩
      (try (push_cast (maxSteps := 1000000))); (all_goals first | rfl | skip)
  · have hd : decide ((k : Int) < (l.length : Int)) = false := decide_eq_false (by omega)
    rw [List.drop_eq_nil_of_le (by omega)] at hc
    (try (push_cast (maxSteps := 1000000) [hd]))
    exact hc
theorem d80 (t : Tb) (ht : okLen t.R) (hr : ∀ r ∈ t.R, okLen r) : Spec V 80 [.ag ((eT t).map .d)] (b2 (evenF t)) := by
  obtain ⟨L, A⟩ := t
  simp only at ht hr
  (refine Spec.of_go (L := fun | 0 => some [1] | 1 => some [1, 6, 7, 8] | 2 => some [1, 6, 7, 8, 9] | 3 => some [1, 4, 6, 7, 8] | 4 => some [1, 6, 7, 8, 17] | 5 => some [2] | 6 => some [1, 6, 7, 8] | 7 => some [2] | _ => none) 1000 Go.Proofs.Tryd.func80 rfl rfl ⟨Nat.le_of_ble_eq_true rfl, rfl⟩ rfl ?_; unfold Go.Proofs.Tryd.f80; push_cast (maxSteps := 1000000))
  refine LoopK.s1 (α := Nat) [8] (fun k => [i2 .i64 k]) (fun k => k ≤ A.length ∧ ((A.drop k).all fun r => decide (r.length = L.length)) = evenF ⟨L, A⟩) (fun k => A.length - k) 1000 0 ⟨by omega, rfl⟩ (by (try (push_cast (maxSteps := 1000000)))) ?_
  rintro k ⟨hk, hc⟩
  by_cases hlt : k < A.length
  · have hv := List.getElem?_eq_getElem hlt; have hd : decide ((k : Int) < (A.length : Int)) = true := decide_eq_true (by omega)
    rw [drop_cons hv, List.all_cons] at hc
    generalize A[k] = r at *
    (try (push_cast (maxSteps := 1000000) [hd, getD_map hv]))
    ((repeat' (with_reducible refine And.intro ?_ ?_)) <;> try (first | trivial | omega | exact inK64 (by omega) (by omega) | exact inKu8 (by omega) (by omega) | (simp only [maxLen]; omega) | exact .inl trivial | exact .inl rfl))
    refine BrP.mk (fun h => ?_) (fun h => ?_) <;> try (push_cast (maxSteps := 1000000) [h])
    · have hw : ¬ r.length = L.length := by simp at h; omega
      rw [← hc]
      simp [hw]
    · have hw : r.length = L.length := by simp at h; omega
      rw [decide_eq_true hw, Bool.true_and] at hc
      ((repeat' (with_reducible refine And.intro ?_ ?_)) <;> try (first | trivial | omega | exact inK64 (by omega) (by omega) | exact inKu8 (by omega) (by omega) | (simp only [maxLen]; omega) | exact .inl trivial | exact .inl rfl))
      refine ⟨k + 1, ⟨by omega, hc⟩, by omega, Le.st ?_⟩
      (try (push_cast (maxSteps := 1000000))); (all_goals first | rfl | skip)
  · have hd : decide ((k : Int) < (A.length : Int)) = false := decide_eq_false (by omega)
    rw [List.drop_eq_nil_of_le (by omega), List.all_nil] at hc
    (try (push_cast (maxSteps := 1000000) [hd]))
    exact hc
def markJ (r : List Vl) (ps : List Nat) : ByteArray := if nullF ps r = true then { data := #[] } else markF [] r ps
theorem null_drop {ps : List Nat} {r : List Vl} {k p : Nat} {v : Vl} (h : ps[k]? = some p) (hv : vAt r p = v) : nullF (ps.drop k) r = (decide (v.k = 0) || nullF (ps.drop (k + 1)) r) := by
  rw [drop_cons h]
  simp [nullF, hv]
theorem d81 (r : List Vl) (ps : List Nat) (hr : ∀ v ∈ r, okVl v) (hn : ∀ v ∈ r, inK .i64 v.n) (hp : ps.length ≤ 64) (hlt : ∀ p ∈ ps, p < r.length) : Spec V 81 [.c (.d (.sl 4 (r.map eV))), .c (.d (.sl 1 (ps.map eJ)))] (.tu [s2 (markJ r ps), b2 (!nullF ps r)]) := by
  obtain ⟨R, hR⟩ : ∃ R, R = markJ r ps := ⟨_, rfl⟩
  obtain ⟨N, hN⟩ : ∃ N, N = nullF ps r := ⟨_, rfl⟩
  rw [← hR, ← hN]
  unfold markJ at hR
  rw [← hN] at hR
  (refine Spec.of_go (L := fun | 0 => some [0, 1] | 1 => some [0, 1, 6] | 2 => some [0, 6, 10, 11, 12] | 3 => some [0, 6, 10, 11, 12, 13] | 4 => some [0, 6, 8, 10, 11, 12] | 5 => some [0, 6, 9, 10, 11, 12] | 6 => some [0, 6, 9, 10, 11, 12, 21] | 7 => some [0, 6, 9, 10, 11, 12, 21, 22] | 8 => some [4, 5] | 9 => some [0, 6, 9, 10, 11, 12, 21, 24] | 10 => some [0, 6, 9, 10, 11, 12] | 11 => some [0, 6, 9, 10, 11, 12] | 12 => some [0, 6, 9, 10, 11, 12] | 13 => some [0, 6, 10, 11, 12] | 14 => some [0, 6, 9, 10, 11, 12, 21, 41] | 15 => some [0, 6, 9, 10, 11, 12] | 16 => some [0, 6, 10, 11, 12] | 17 => some [0, 6, 10, 11, 12] | 18 => some [0, 6, 9, 10, 11, 12, 53] | 19 => some [0, 6, 9, 10, 11, 12] | 20 => some [0, 6, 10, 11, 12] | 21 => some [0, 6, 10, 11, 12] | 22 => some [0, 6, 10, 11, 12] | 23 => some [4, 5] | _ => none) 1000 Go.Proofs.Tryd.func81 rfl rfl ⟨Nat.le_of_ble_eq_true rfl, rfl⟩ rfl ?_; unfold Go.Proofs.Tryd.f81; push_cast (maxSteps := 1000000))
  refine LoopK.le (Le.nil 6 5 1 (by decide) (by (try (push_cast (maxSteps := 1000000))))) ?_
  (try (push_cast (maxSteps := 1000000)))
  refine LoopK.ov (α := Nat) [12] (fun k => [i2 .i64 k]) (fun k => [.rw 5 1 ((toksF [] r (ps.take k)).map bD)]) (fun k => k ≤ ps.length ∧ (toksF [] r (ps.take k)).length ≤ k * 1099511627840 ∧ nullF (ps.drop k) r = N) (fun k => ps.length - k) 1000 0 ⟨by omega, by simp [toksF], hN.symm⟩ (by (try (push_cast (maxSteps := 1000000))); rfl) ?_
  rintro k ⟨hk, hlen, hnull⟩
  by_cases hlt' : k < ps.length
  · have hv0 := List.getElem?_eq_getElem hlt'
    have hpr0 := hlt ps[k] (List.getElem_mem hlt')
    rw [null_drop hv0 (vAt_get (List.getElem?_eq_getElem hpr0))] at hnull
    have hv := List.getElem?_eq_getElem hlt'
    have hd : decide ((k : Int) < (ps.length : Int)) = true := decide_eq_true (by omega)
    have hpr := hlt ps[k] (List.getElem_mem hlt')
    have hv2 := List.getElem?_eq_getElem hpr
    have hts := toks_take_succ (nul := []) (r := r) hv
    rw [vAt_get hv2] at hts
    have hm := List.getElem_mem hpr
    generalize r[ps[k]] = v at *
    have htl := tok_len [] (hr v hm) (hn v hm) (by simp)
    have hlen2 : (toksF [] r (ps.take (k + 1))).length ≤ (k + 1) * 1099511627840 := by rw [hts, List.length_append]; omega
    have hvs : v.s.size ≤ 1099511627776 := hr v hm
    have hvn := hn v hm
    generalize toksF [] r (ps.take k) = bs at *
    (try (push_cast (maxSteps := 1000000) [hd, getD_map hv, getD_map hv2]))
    ((repeat' (with_reducible refine And.intro ?_ ?_)) <;> try (first | trivial | omega | exact inK64 (by omega) (by omega) | exact inKu8 (by omega) (by omega) | (simp only [maxLen]; omega) | exact .inl trivial | exact .inl rfl))
    refine BrP.mk (fun h => ?_) (fun h => ?_) <;> try (push_cast (maxSteps := 1000000) [h])
    · have hk0 := of_decide_eq_true h
      rw [decide_eq_true hk0, Bool.true_or] at hnull
      subst hnull
      simp only [if_true] at hR
      subst hR
      (try (push_cast (maxSteps := 1000000)))
    · have hk0 := of_decide_eq_false h
      rw [decide_eq_false hk0, Bool.false_or] at hnull
      replace hlen2 := And.intro hlen2 hnull
      (try (push_cast (maxSteps := 1000000)))
      refine BrP.mk (fun h => ?_) (fun h => ?_) <;> try (push_cast (maxSteps := 1000000) [h])
      · have hk1 := of_decide_eq_true h
        rw [tok_1 _ hk1] at hts
        (try (push_cast (maxSteps := 1000000)))
        ((repeat' (with_reducible refine And.intro ?_ ?_)) <;> try (first | trivial | omega | exact inK64 (by omega) (by omega) | exact inKu8 (by omega) (by omega) | (simp only [maxLen]; omega) | exact .inl trivial | exact .inl rfl))
        have h117 := d117 (bs ++ [116]) v.s.size (inK64 (by omega) (by omega)) (by simp only [List.length_append, List.length_cons, List.length_nil]; omega)
        have hil := itoa_len (v.s.size : Int) (by omega) (by omega)
        refine ⟨_, (by have h := h117; rw [List.map_append] at h; exact h), ⟨.inl trivial, (by simp only [List.length_map, List.length_append, List.length_cons, List.length_nil, maxLen]; omega), (by simp only [List.length_map, List.length_append, List.length_cons, List.length_nil]; omega)⟩, (by simp only [List.length_map, List.length_append, List.length_cons, List.length_nil]; omega), inK64 (by omega) (by omega), k + 1, ⟨by omega, hlen2⟩, by omega, Le.st ?_⟩
        rw [hts]
        (try (push_cast (maxSteps := 1000000)))
        simp [strD_map]
      · have hk1 := of_decide_eq_false h
        (try (push_cast (maxSteps := 1000000)))
        refine BrP.mk (fun h => ?_) (fun h => ?_) <;> try (push_cast (maxSteps := 1000000) [h])
        · have hk2 := of_decide_eq_true h
          rw [tok_2 _ hk2] at hts
          (try (push_cast (maxSteps := 1000000)))
          ((repeat' (with_reducible refine And.intro ?_ ?_)) <;> try (first | trivial | omega | exact inK64 (by omega) (by omega) | exact inKu8 (by omega) (by omega) | (simp only [maxLen]; omega) | exact .inl trivial | exact .inl rfl))
          have h117 := d117 (bs ++ [105]) v.n hvn (by simp only [List.length_append, List.length_cons, List.length_nil]; omega)
          have hil := itoa_len v.n hvn.1 hvn.2
          refine ⟨_, (by have h := h117; rw [List.map_append] at h; exact h), ⟨.inl trivial, (by simp only [List.length_map, List.length_append, List.length_cons, List.length_nil, maxLen]; omega), (by simp only [List.length_map, List.length_append, List.length_cons, List.length_nil]; omega)⟩, inK64 (by omega) (by omega), k + 1, ⟨by omega, hlen2⟩, by omega, Le.st ?_⟩
          rw [hts]
          (try (push_cast (maxSteps := 1000000)))
          simp
        · have hk2 := of_decide_eq_false h
          (try (push_cast (maxSteps := 1000000)))
          refine BrP.mk (fun h => ?_) (fun h => ?_) <;> try (push_cast (maxSteps := 1000000) [h])
          · have hk3 := of_decide_eq_true h
            rw [tok_3 _ hk3] at hts
            (try (push_cast (maxSteps := 1000000)))
            ((repeat' (with_reducible refine And.intro ?_ ?_)) <;> try (first | trivial | omega | exact inK64 (by omega) (by omega) | exact inKu8 (by omega) (by omega) | (simp only [maxLen]; omega) | exact .inl trivial | exact .inl rfl))
            have h118 := d118 (bs ++ [98]) v.b (by simp only [List.length_append, List.length_cons, List.length_nil]; omega)
            have hil : (if v.b then truB else flsB).length ≤ 5 := by cases v.b <;> simp
            refine ⟨_, (by have h := h118; rw [List.map_append] at h; exact h), ⟨.inl trivial, (by simp only [List.length_map, List.length_append, List.length_cons, List.length_nil, maxLen]; omega), (by simp only [List.length_map, List.length_append, List.length_cons, List.length_nil]; omega)⟩, inK64 (by omega) (by omega), k + 1, ⟨by omega, hlen2⟩, by omega, Le.st ?_⟩
            rw [hts]
            (try (push_cast (maxSteps := 1000000)))
            simp
          · have hk3 := of_decide_eq_false h
            have e0 : tokF [] v = [] := by simp [tokF, hk1, hk2, hk3]
            rw [e0, List.append_nil] at hts
            (try (push_cast (maxSteps := 1000000)))
            refine ⟨inK64 (by omega) (by omega), k + 1, ⟨by omega, hlen2⟩, by omega, Le.st ?_⟩
            rw [hts]
            (try (push_cast (maxSteps := 1000000)))
  · rw [List.drop_eq_nil_of_le (by omega)] at hnull
    have hN0 : N = false := hnull.symm
    subst hN0
    simp only [Bool.false_eq_true, if_false] at hR
    have hd : decide ((k : Int) < (ps.length : Int)) = false := decide_eq_false (by omega)
    (try (push_cast (maxSteps := 1000000) [hd, numsOf_map, okNums_map, strN_map]))
    rw [List.take_of_length_le (by omega), hR]
    rfl
theorem d72R (r : List Vl) (hr : okLen r) : SpecR V 72 [.c (.d (.sl 4 (r.map eV)))] 103 4 (r.map eV) := by
  (refine SpecR.of_go2 (L := fun | 0 => some [0] | 1 => some [0, 4] | 2 => some [2] | 3 => some [2] | _ => none) 1000 Go.Proofs.Tryd.func72 rfl rfl ⟨Nat.le_of_ble_eq_true rfl, rfl⟩ (by decide) ?_; unfold Go.Proofs.Tryd.f72; push_cast (maxSteps := 1000000))
  intro b hb
  (try (push_cast (maxSteps := 1000000)))
  refine BrP.mk (fun h => ?_) (fun h => ?_) <;> try (push_cast (maxSteps := 1000000) [h])
  · have := hb h
    simp at this
    simp [this]
  · ((repeat' (with_reducible refine And.intro ?_ ?_)) <;> try (first | trivial | omega | exact inK64 (by omega) (by omega) | exact inKu8 (by omega) (by omega) | (simp only [maxLen]; omega) | exact .inl trivial | exact .inl rfl))
    all_goals trace_state
theorem d78R (r : List Cl) (hr : okLen r) : SpecR V 78 [.c (.d (.sl 3 (r.map eC)))] 105 3 (r.map eC) := by
  (refine SpecR.of_go2 (L := fun | 0 => some [0] | 1 => some [0, 4] | 2 => some [2] | 3 => some [2] | _ => none) 1000 Go.Proofs.Tryd.func78 rfl rfl ⟨Nat.le_of_ble_eq_true rfl, rfl⟩ (by decide) ?_; unfold Go.Proofs.Tryd.f78; push_cast (maxSteps := 1000000))
  intro b hb
  (try (push_cast (maxSteps := 1000000)))
  refine BrP.mk (fun h => ?_) (fun h => ?_) <;> try (push_cast (maxSteps := 1000000) [h])
  · have := hb h
    simp at this
    simp [this]
  · ((repeat' (with_reducible refine And.intro ?_ ?_)) <;> try (first | trivial | omega | exact inK64 (by omega) (by omega) | exact inKu8 (by omega) (by omega) | (simp only [maxLen]; omega) | exact .inl trivial | exact .inl rfl))
    all_goals trace_state
theorem d82 (r x : List Vl) (ps : List Nat) (hr : r.length ≤ 100000) (hp : ps.length ≤ 1000) (hlt : ∀ p ∈ ps, p < x.length) : Spec V 82 [.c (.d (.sl 4 (r.map eV))), .c (.d (.sl 4 (x.map eV))), .c (.d (.sl 1 (ps.map eJ)))] (.c (.d (.sl 4 ((besideF ps r x).map eV)))) := by
  have h72 := d72R r (by simp only [okLen]; omega)
  (refine to1 ?_; refine Spec.of_go (V := V2) (L := fun | 0 => some [0, 1, 2] | 1 => some [1, 2, 7] | 2 => some [1, 7, 12, 13, 14] | 3 => some [1, 7, 12, 13, 14, 15] | 4 => some [1, 7, 9, 12, 13, 14] | 5 => some [1, 7, 12, 13, 14] | 6 => some [1, 7, 12, 13, 14] | 7 => some [6] | _ => none) 1000 Go.Proofs.Tryd.func82 rfl rfl ⟨Nat.le_of_ble_eq_true rfl, rfl⟩ rfl ?_; unfold Go.Proofs.Tryd.f82; push_cast (maxSteps := 1000000))
  refine .inl ⟨_, _, _, toR2 h72, ?_⟩
  (try (push_cast (maxSteps := 1000000)))
  refine LoopK.ov (α := Nat) [14] (fun k => [i2 .i64 k]) (fun k => [.rw 103 4 ((besideF (ps.take k) r x).map eV)]) (fun k => k ≤ ps.length) (fun k => ps.length - k) 1000 0 (by omega) (by ((try (push_cast (maxSteps := 1000000)))); simp [besideF]) ?_
  rintro k hk
  by_cases hltk : k < ps.length
  · have hv := List.getElem?_eq_getElem hltk
    have hd : decide ((k : Int) < (ps.length : Int)) = true := decide_eq_true (by omega)
    have hpr := hlt ps[k] (List.getElem_mem hltk)
    have hv2 := List.getElem?_eq_getElem hpr
    have hbs : besideF (ps.take (k + 1)) r x = besideF (ps.take k) r x ++ [x[ps[k]]] := by
      unfold besideF
      rw [List.take_add_one, hv, Option.toList_some, List.map_append, List.append_assoc, List.map_cons, List.map_nil, vAt_get hv2]
    have hbl : (besideF (ps.take k) r x).length = r.length + k := by
      unfold besideF
      rw [List.length_append, List.length_map, List.length_take]; omega
    generalize x[ps[k]] = v at *
    generalize ps[k] = p at *
    (try (push_cast (maxSteps := 1000000) [hd, getD_map hv, getD_map hv2]))
    ((repeat' (with_reducible refine And.intro ?_ ?_)) <;> try (first | trivial | omega | exact inK64 (by omega) (by omega) | exact inKu8 (by omega) (by omega) | (simp only [maxLen]; omega) | exact .inl trivial | exact .inl rfl))
    all_goals (try refine ⟨⟨.inl trivial, (by simp only [maxLen]; omega), (by omega)⟩, ?_⟩)
    ((repeat' (with_reducible refine And.intro ?_ ?_)) <;> try (first | trivial | omega | exact inK64 (by omega) (by omega) | exact inKu8 (by omega) (by omega) | (simp only [maxLen]; omega) | exact .inl trivial | exact .inl rfl))
    refine ⟨k + 1, by omega, by omega, Le.st ?_⟩
    rw [hbs]
    (try (push_cast (maxSteps := 1000000)))
    all_goals (first | rfl | (simp; done) | (simp; rfl))
  · have hd : decide ((k : Int) < (ps.length : Int)) = false := decide_eq_false (by omega)
    rw [List.take_of_length_le (by omega)]
    (try (push_cast (maxSteps := 1000000) [hd]))
theorem d122 (c : Cl) (o : Jo) : Spec V 122 [.ag ((eJo o).map .d), .c (.d (.at_ (eC c)))] (b2 (decide (o.r = c.name))) := by
  (refine Spec.of_go (L := fun | 0 => some [1, 2] | 1 => some [3] | _ => none) 1000 Go.Proofs.Tryd.func122 rfl rfl ⟨Nat.le_of_ble_eq_true rfl, rfl⟩ rfl ?_; unfold Go.Proofs.Tryd.f122; push_cast (maxSteps := 1000000))
theorem d136 (l : List Jo) (g : FuncId) (caps : List DV) (p : Jo → Bool) (hl : okLen l) (hp : ∀ v ∈ l, Spec V g ([.ag ((eJo v).map .d)] ++ caps.map fun d => .c (.d d)) (b2 (p v))) :
    Spec V 136 [.c (.d (.sl 2 (l.map eJo))), .c (.d (.clo g caps))] (i2 .i64 (idxG p l 0)) := by
  (refine Spec.of_go (L := fun | 0 => some [0, 1] | 1 => some [0, 1, 7, 8] | 2 => some [0, 1, 7, 8, 9] | 3 => some [0, 1, 5, 7, 8] | 4 => some [0, 1, 5, 7, 8, 16] | 5 => some [4] | 6 => some [0, 1, 7, 8] | 7 => some [4] | _ => none) 1000 Go.Proofs.Tryd.func136 rfl rfl ⟨Nat.le_of_ble_eq_true rfl, rfl⟩ rfl ?_; unfold Go.Proofs.Tryd.f136; push_cast (maxSteps := 1000000))
  refine LoopK.s1 (α := Nat) [8] (fun k => [i2 .i64 k]) (fun k => k ≤ l.length ∧ idxG p (l.drop k) k = idxG p l 0) (fun k => l.length - k) 1000 0 ⟨by omega, rfl⟩ (by (try (push_cast (maxSteps := 1000000)))) ?_
  rintro k ⟨hk, hc⟩
  by_cases hlt : k < l.length
  · have hv := List.getElem?_eq_getElem hlt; have hd : decide ((k : Int) < (l.length : Int)) = true := decide_eq_true (by omega)
    rw [drop_cons hv] at hc; simp only [idxG] at hc
    (try (push_cast (maxSteps := 1000000) [hd, getD_map hv]))
    ((repeat' (with_reducible refine And.intro ?_ ?_)) <;> try (first | trivial | omega | exact inK64 (by omega) (by omega) | exact inKu8 (by omega) (by omega) | (simp only [maxLen]; omega) | exact .inl trivial | exact .inl rfl))
    have hS := hp l[k] (List.getElem_mem hlt)
    simp only [eJo_eq, List.map_cons, List.map_nil, List.cons_append, List.nil_append] at hS
    refine ⟨_, hS, by simp [dataL, data1, dataC], ?_⟩
    clear hS
    (try (push_cast (maxSteps := 1000000)))
    refine BrP.mk (fun h => ?_) (fun h => ?_) <;> try (push_cast (maxSteps := 1000000) [h])
    · rw [if_pos h] at hc
      exact hc
    · rw [if_neg (by simp [h])] at hc
      ((repeat' (with_reducible refine And.intro ?_ ?_)) <;> try (first | trivial | omega | exact inK64 (by omega) (by omega) | exact inKu8 (by omega) (by omega) | (simp only [maxLen]; omega) | exact .inl trivial | exact .inl rfl))
      refine ⟨k + 1, ⟨by omega, hc⟩, by omega, Le.st ?_⟩
      (try (push_cast (maxSteps := 1000000)))
  · have hd : decide ((k : Int) < (l.length : Int)) = false := decide_eq_false (by omega)
    rw [List.drop_eq_nil_of_le (by omega)] at hc; simp only [idxG] at hc
    (try (push_cast (maxSteps := 1000000) [hd, hc]))
theorem d121 (l : List Jo) (g : FuncId) (caps : List DV) (p : Jo → Bool) (hl : okLen l) (hp : ∀ v ∈ l, Spec V g ([.ag ((eJo v).map .d)] ++ caps.map fun d => .c (.d d)) (b2 (p v))) :
    Spec V 121 [.c (.d (.sl 2 (l.map eJo))), .c (.d (.clo g caps))] (b2 (l.any p)) := by
  have h := d136 l g caps p hl hp
  have e := idxG_any p l 0
  (refine Spec.of_go (L := fun | 0 => some [0, 1] | 1 => some [4] | _ => none) 1000 Go.Proofs.Tryd.func121 rfl rfl ⟨Nat.le_of_ble_eq_true rfl, rfl⟩ rfl ?_; unfold Go.Proofs.Tryd.f121; push_cast (maxSteps := 1000000))
  refine ⟨_, h, by simp [dataL, data1, dataC], ?_⟩
  (try (push_cast (maxSteps := 1000000) [e]))
theorem d79 (b : List Cl) (on : List Jo) (hb : b.length ≤ 1000) (ho : okLen on) : Spec V 79 [.c (.d (.sl 3 (b.map eC))), .c (.d (.sl 2 (on.map eJo)))] (.c (.d (.sl 1 ((othersN b on).map eJ)))) := by
  (refine Spec.of_go (L := fun | 0 => some [0, 1] | 1 => some [0, 1, 5] | 2 => some [1, 5, 8, 9, 10] | 3 => some [1, 5, 8, 9, 10, 11] | 4 => some [1, 5, 6, 7, 8, 9, 10] | 5 => some [1, 5, 6, 8, 9, 10, 18] | 6 => some [1, 5, 8, 9, 10] | 7 => some [1, 5, 8, 9, 10] | 8 => some [4] | _ => none) 1000 Go.Proofs.Tryd.func79 rfl rfl ⟨Nat.le_of_ble_eq_true rfl, rfl⟩ rfl ?_; unfold Go.Proofs.Tryd.f79; push_cast (maxSteps := 1000000))
  refine LoopK.le (Le.nil 5 3 1 (by decide) (by (try (push_cast (maxSteps := 1000000))))) ?_
  (try (push_cast (maxSteps := 1000000)))
  refine LoopK.ov (α := Nat) [10] (fun k => [i2 .i64 k]) (fun k => [.rw 3 1 ((othersN (b.take k) on).map eJ)]) (fun k => k ≤ b.length) (fun k => b.length - k) 1000 0 (by omega) (by ((try (push_cast (maxSteps := 1000000)))); simp [othersN]) ?_
  rintro k hk
  have hol := others_len (b.take k) on
  rw [List.length_take] at hol
  by_cases hlt : k < b.length
  · have hv := List.getElem?_eq_getElem hlt; have hd : decide ((k : Int) < (b.length : Int)) = true := decide_eq_true (by omega)
    have hot := others_take (on := on) hv
    generalize b[k] = c at *
    have h121 := d121 on 122 [.at_ (eC c)] (fun o => decide (o.r = c.name)) ho (fun o _ => d122 c o)
    rw [show (on.any fun o => decide (o.r = c.name)) = isR on c.name from rfl] at h121
    simp only [eC_eq] at h121
    (try (push_cast (maxSteps := 1000000) [hd, getD_map hv]))
    ((repeat' (with_reducible refine And.intro ?_ ?_)) <;> try (first | trivial | omega | exact inK64 (by omega) (by omega) | exact inKu8 (by omega) (by omega) | (simp only [maxLen]; omega) | exact .inl trivial | exact .inl rfl))
    refine ⟨_, h121, rfl, ?_⟩
    cases hr : isR on c.name with
    | true =>
      rw [hr] at hot
      simp only [if_true, List.append_nil] at hot
      (try (push_cast (maxSteps := 1000000)))
      ((repeat' (with_reducible refine And.intro ?_ ?_)) <;> try (first | trivial | omega | exact inK64 (by omega) (by omega) | exact inKu8 (by omega) (by omega) | (simp only [maxLen]; omega) | exact .inl trivial | exact .inl rfl))
      refine ⟨k + 1, by omega, by omega, Le.st ?_⟩
      rw [hot]
      (try (push_cast (maxSteps := 1000000))); (all_goals first | rfl | skip)
    | false =>
      rw [hr] at hot
      simp only [Bool.false_eq_true, if_false] at hot
      (try (push_cast (maxSteps := 1000000)))
      ((repeat' (with_reducible refine And.intro ?_ ?_)) <;> try (first | trivial | omega | exact inK64 (by omega) (by omega) | exact inKu8 (by omega) (by omega) | (simp only [maxLen]; omega) | exact .inl trivial | exact .inl rfl))
      all_goals (try refine ⟨⟨.inl trivial, (by simp only [maxLen]; omega), (by omega)⟩, ?_⟩)
      ((repeat' (with_reducible refine And.intro ?_ ?_)) <;> try (first | trivial | omega | exact inK64 (by omega) (by omega) | exact inKu8 (by omega) (by omega) | (simp only [maxLen]; omega) | exact .inl trivial | exact .inl rfl))
      refine ⟨k + 1, by omega, by omega, Le.st ?_⟩
      rw [hot]
      (try (push_cast (maxSteps := 1000000)))
      all_goals (first | rfl | (simp; done) | (simp; rfl))
  · have hd : decide ((k : Int) < (b.length : Int)) = false := decide_eq_false (by omega)
    rw [List.take_of_length_le (by omega)]
    (try (push_cast (maxSteps := 1000000) [hd]))
end Go.LS.Tryd
