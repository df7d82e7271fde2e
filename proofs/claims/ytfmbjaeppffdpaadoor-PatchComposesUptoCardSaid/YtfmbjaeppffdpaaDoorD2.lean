/- Contracts of the functions of the seat, one by one (part D2); no condition but those that each bears. -/
import Derived.Test.YtfmbjaeppffdpaaDoorPD
import Derived.Test.YtfmbjaeppffdpaaDoorD1
namespace Go.LS.Tryd
open Go Go.LS
set_option maxRecDepth 100000
set_option linter.unusedSimpArgs false
set_option linter.unusedVariables false

set_option maxHeartbeats 1000000 in
theorem d18 (t : Tb) (ks : List ByteArray) (ht : okT2 t) (hk : okKeys ks) : Spec V 18 [.ag ((eT t).map .d), .c (.d (.sl 1 (ks.map eS)))] (.tu [i2 .i64 ((tabF t ks).1 : Int), i2 .i64 (tabF t ks).2]) := by
  obtain ⟨L, R⟩ := t
  obtain ⟨hl, hr, hvv, hrt⟩ := ht
  simp only at hl hr hvv hrt
  have hk' : ks.length ≤ 64 := hk
  (refine Spec.of_go (L := fun | 0 => some [1, 2] | 1 => some [1, 2, 7] | 2 => some [1, 2, 7, 27] | 3 => some [4, 5] | 4 => some [1, 2, 31] | 5 => some [4, 5] | 6 => some [1, 2, 8] | 7 => some [2, 8, 32, 33, 34] | 8 => some [2, 8, 32, 33, 34, 35] | 9 => some [2, 8, 9, 10, 32, 33, 34] | 10 => some [2, 8, 9, 12, 13, 32, 33, 34] | 11 => some [2, 8, 9, 12, 32, 33, 34, 48] | 12 => some [4, 5] | 13 => some [2, 8, 9, 12, 32, 33, 34, 52] | 14 => some [4, 5] | 15 => some [2, 8, 32, 33, 34] | 16 => some [2, 8, 32, 33, 34] | 17 => some [2, 8, 14] | 18 => some [2, 8, 14, 61, 62, 63] | 19 => some [2, 8, 14, 61, 62, 63, 64] | 20 => some [2, 8, 14, 15, 16, 61, 62, 63] | 21 => some [2, 8, 14, 15, 16, 61, 62, 63, 73] | 22 => some [4, 5] | 23 => some [2, 8, 14, 15, 16, 61, 62, 63, 75, 76, 77] | 24 => some [2, 8, 14, 15, 16, 61, 62, 63, 75, 76, 77, 78] | 25 => some [2, 8, 14, 15, 16, 18, 61, 62, 63, 75, 76, 77] | 26 => some [2, 8, 14, 15, 16, 61, 62, 63, 75, 76, 77, 86] | 27 => some [4, 5] | 28 => some [2, 8, 14, 15, 16, 61, 62, 63, 75, 76, 77] | 29 => some [2, 8, 14, 15, 19, 61, 62, 63] | 30 => some [2, 8, 14, 15, 19, 61, 62, 63, 94] | 31 => some [4, 5] | 32 => some [2, 8, 14, 61, 62, 63] | 33 => some [2, 8, 14, 61, 62, 63] | 34 => some [4, 5] | _ => none) 1000 Go.Proofs.Tryd.func18 rfl rfl ⟨Nat.le_of_ble_eq_true rfl, rfl⟩ rfl ?_; unfold Go.Proofs.Tryd.f18; push_cast (maxSteps := 1000000))
  refine ⟨_, f47 L hl, rfl, ?_⟩
  (try (push_cast (maxSteps := 1000000)))
  refine BrP.mk (fun h => ?_) (fun h => ?_) <;> try (push_cast (maxSteps := 1000000) [h])
  · have h' : ¬ (checkC L).2 = 0 := by simpa using h
    simp [tabF, h']
  · have h' : (checkC L).2 = 0 := by simpa using h
    refine BrP.mk (fun h => ?_) (fun h => ?_) <;> try (push_cast (maxSteps := 1000000) [h])
    · have h2 : ks.length = 0 := by simpa using h
      simp [tabF, h', h2]
    · have h2 : ¬ ks.length = 0 := by simpa using h
      have e : tabF ⟨L, R⟩ ks = if (keyF L [] ks 0).2 ≠ 0 then keyF L [] ks 0 else rowsF L.length (placesN L ks) [] R 0 := by simp [tabF, h', h2]
      generalize tabF ⟨L, R⟩ ks = F at *
      refine LoopK.le (Le.nil 8 3 1 (by decide) (by (try (push_cast (maxSteps := 1000000))))) ?_
      (try (push_cast (maxSteps := 1000000)))
      refine LoopK.ov (α := Nat) [34] (fun k => [i2 .i64 k]) (fun k => [.bx 25 [.d (.sl 3 (L.map eC)), .d (.sl 1 (R.map eR))], .rw 3 1 ((placesN L (ks.take k)).map eJ)]) (fun k => k ≤ ks.length ∧ keyF L (ks.take k) (ks.drop k) k = keyF L [] ks 0 ∧ ∀ n ∈ ks.take k, foundN L n) (fun k => ks.length - k) 1000 0 ⟨by omega, rfl, by simp⟩ (by (try (push_cast (maxSteps := 1000000))); rfl) ?_
      rintro k ⟨hk, hc, hf⟩
      by_cases hlt : k < ks.length
      · have hv := List.getElem?_eq_getElem hlt; have hd : decide ((k : Int) < (ks.length : Int)) = true := decide_eq_true (by omega)
        rw [drop_cons hv] at hc; simp only [keyF] at hc
        (try (push_cast (maxSteps := 1000000) [hd, getD_map hv]))
        ((repeat' (with_reducible refine And.intro ?_ ?_)) <;> try (first | trivial | omega | exact inK64 (by omega) (by omega) | exact inKu8 (by omega) (by omega) | (simp only [maxLen]; omega) | exact .inl trivial | exact .inl rfl))
        refine ⟨_, f62 L ks[k] hl.1, rfl, ?_⟩
        (try (push_cast (maxSteps := 1000000)))
        refine BrP.mk (fun h => ?_) (fun h => ?_) <;> try (push_cast (maxSteps := 1000000) [h])
        · rw [if_pos (by simpa using h)] at hc
          simp [e, ← hc]
        · have hfk : foundN L ks[k] := by simpa [foundN] using h
          rw [if_neg (by simpa using h)] at hc
          have hS := d65 (placesN L (ks.take k)) (placeN L ks[k]) (by simp only [okLen, placesN, List.length_map, List.length_take]; omega)
          rw [place_mem hfk hf] at hS
          (try (push_cast (maxSteps := 1000000)))
          refine ⟨_, hS, rfl, ?_⟩
          (try (push_cast (maxSteps := 1000000)))
          refine BrP.mk (fun h => ?_) (fun h => ?_) <;> try (push_cast (maxSteps := 1000000) [h])
          · rw [if_pos h] at hc
            simp [e, ← hc]
          · rw [if_neg (by simp [h])] at hc
            have htk : ks.take (k + 1) = ks.take k ++ [ks[k]] := by rw [List.take_add_one, hv]; rfl
            rw [← htk] at hc
            have hpk : (placesN L (ks.take k)).length = k := by simp [placesN]; omega
            ((repeat' (with_reducible refine And.intro ?_ ?_)) <;> try (first | trivial | omega | exact inK64 (by omega) (by omega) | exact inKu8 (by omega) (by omega) | (simp only [maxLen]; omega) | exact .inl trivial | exact .inl rfl))
            refine ⟨k + 1, ⟨by omega, hc, ?_⟩, by omega, Le.st ?_⟩
            · intro n hn
              rw [htk] at hn
              rcases List.mem_append.1 hn with hn | hn
              · exact hf n hn
              · rw [List.mem_singleton.1 hn]; exact hfk
            · rw [htk]
              (try (push_cast (maxSteps := 1000000)))
              simp only [placesN, List.map_append, List.map_cons, List.map_nil, eJ_eq, placeN]
              exact ⟨trivial, rfl⟩
      · have hd : decide ((k : Int) < (ks.length : Int)) = false := decide_eq_false (by omega)
        have hkk : k = ks.length := by omega
        subst hkk
        rw [List.drop_eq_nil_of_le (by omega)] at hc; simp only [keyF] at hc
        rw [List.take_length] at hf
        rw [if_neg (by simp [← hc])] at e
        (try (push_cast (maxSteps := 1000000) [hd, List.take_length]))
        have hpl : (placesN L ks).length = ks.length := by simp [placesN]
        have hplt := placesN_lt hf
        generalize placesN L ks = ps at *
        clear hc hf hd
        refine LoopK.ov (α := Nat) [63] (fun k => [i2 .i64 k]) (fun k => [.bx 25 [.d (.sl 3 (L.map eC)), .d (.sl 1 (R.map eR))], .rw 3 1 (ps.map eJ), .mp (truS ((R.take k).map fun x => markF [] x ps))]) (fun k => k ≤ R.length ∧ rowsF L.length ps (R.take k) (R.drop k) k = rowsF L.length ps [] R 0 ∧ ∀ x ∈ R.take k, nullF ps x = false) (fun k => R.length - k) 1000 0 ⟨by omega, rfl, by simp⟩ (by (try (push_cast (maxSteps := 1000000))); rfl) ?_
        rintro k ⟨hk, hc, hf⟩
        by_cases hlt : k < R.length
        · have hv := List.getElem?_eq_getElem hlt; have hd : decide ((k : Int) < (R.length : Int)) = true := decide_eq_true (by omega)
          rw [drop_cons hv] at hc; simp only [rowsF] at hc
          have hvr := hvv R[k] (List.getElem_mem hlt)
          have hrr := hrt R[k] (List.getElem_mem hlt)
          have hfs : ∀ x ∈ R.take k, (∀ v ∈ x, rightF v = true) ∧ nullF ps x = false := fun x hx => ⟨hrt x (List.mem_of_mem_take hx), hf x hx⟩
          have htk : R.take (k + 1) = R.take k ++ [R[k]] := by rw [List.take_add_one, hv]; rfl
          rw [← htk] at hc
          have hmb : nullF ps R[k] = false → memB (markF [] R[k] ps) ((R.take k).map fun x => markF [] x ps) = (R.take k).any fun x => alikeF ps x R[k] := fun h0 => memB_marks hrr h0 hfs
          have hms := mset_truS (markF [] R[k] ps) ((R.take k).map fun x => markF [] x ps)
          generalize R[k] = r at *
          (try (push_cast (maxSteps := 1000000) [hd, getD_map hv]))
          ((repeat' (with_reducible refine And.intro ?_ ?_)) <;> try (first | trivial | omega | exact inK64 (by omega) (by omega) | exact inKu8 (by omega) (by omega) | (simp only [maxLen]; omega) | exact .inl trivial | exact .inl rfl))
          refine BrP.mk (fun h => ?_) (fun h => ?_) <;> try (push_cast (maxSteps := 1000000) [h])
          · have hw : ¬ r.length = L.length := by simp at h; omega
            rw [if_pos hw] at hc
            ((repeat' (with_reducible refine And.intro ?_ ?_)) <;> try (first | trivial | omega | exact inK64 (by omega) (by omega) | exact inKu8 (by omega) (by omega) | (simp only [maxLen]; omega) | exact .inl trivial | exact .inl rfl))
            all_goals simp [e, ← hc]
          · have hw : r.length = L.length := by simp at h; omega
            rw [if_neg (by omega)] at hc
            (try (push_cast (maxSteps := 1000000)))
            refine LoopK.s1 (α := Nat) [77] (fun j => [i2 .i64 j]) (fun j => j ≤ ps.length ∧ nullF (ps.drop j) r = nullF ps r) (fun j => ps.length - j) 1000 0 ⟨by omega, rfl⟩ (by (try (push_cast (maxSteps := 1000000)))) ?_
            rintro j ⟨hj, hn⟩
            by_cases hlt2 : j < ps.length
            · have hv2 := List.getElem?_eq_getElem hlt2
              have hd2 : decide ((j : Int) < (ps.length : Int)) = true := decide_eq_true (by omega)
              have hpj := hplt ps[j] (List.getElem_mem hlt2)
              have hv3 := List.getElem?_eq_getElem (l := r) (i := ps[j]) (by omega)
              rw [drop_cons hv2, nullF, List.any_cons, vAt_get hv3] at hn
              (try (push_cast (maxSteps := 1000000) [hd2, getD_map hv2, getD_map hv3]))
              ((repeat' (with_reducible refine And.intro ?_ ?_)) <;> try (first | trivial | omega | exact inK64 (by omega) (by omega) | exact inKu8 (by omega) (by omega) | (simp only [maxLen]; omega) | exact .inl trivial | exact .inl rfl))
              refine BrP.mk (fun h => ?_) (fun h => ?_) <;> try (push_cast (maxSteps := 1000000) [h])
              · have hk0 := of_decide_eq_true h
                rw [if_pos (by rw [← hn]; simp [hk0])] at hc
                ((repeat' (with_reducible refine And.intro ?_ ?_)) <;> try (first | trivial | omega | exact inK64 (by omega) (by omega) | exact inKu8 (by omega) (by omega) | (simp only [maxLen]; omega) | exact .inl trivial | exact .inl rfl))
                all_goals simp [e, ← hc]
              · have hk0 := of_decide_eq_false h
                ((repeat' (with_reducible refine And.intro ?_ ?_)) <;> try (first | trivial | omega | exact inK64 (by omega) (by omega) | exact inKu8 (by omega) (by omega) | (simp only [maxLen]; omega) | exact .inl trivial | exact .inl rfl))
                refine ⟨j + 1, ⟨by omega, by rw [← hn]; simp [hk0, nullF]⟩, by omega, Le.st ?_⟩
                (try (push_cast (maxSteps := 1000000)))
                all_goals rfl
            · have hd2 : decide ((j : Int) < (ps.length : Int)) = false := decide_eq_false (by omega)
              have hn0 : nullF ps r = false := by rw [← hn, List.drop_eq_nil_of_le (by omega)]; rfl
              rw [if_neg (by simp [hn0])] at hc
              have hS := d66 r ps (fun v hv => (hvr.2 v hv).1) (fun v hv => (hvr.2 v hv).2) (by omega) (fun p hp => by have := hplt p hp; omega)
              (try (push_cast (maxSteps := 1000000) [hd2]))
              refine ⟨_, hS, rfl, ?_⟩
              (try (push_cast (maxSteps := 1000000) [hmb hn0]))
              refine BrP.mk (fun h => ?_) (fun h => ?_) <;> try (push_cast (maxSteps := 1000000) [h])
              · rw [if_pos h] at hc
                ((repeat' (with_reducible refine And.intro ?_ ?_)) <;> try (first | trivial | omega | exact inK64 (by omega) (by omega) | exact inKu8 (by omega) (by omega) | (simp only [maxLen]; omega) | exact .inl trivial | exact .inl rfl))
                all_goals simp [e, ← hc]
              · rw [if_neg (by simp [h])] at hc
                rw [hmb hn0] at hms
                ((repeat' (with_reducible refine And.intro ?_ ?_)) <;> try (first | trivial | omega | exact inK64 (by omega) (by omega) | exact inKu8 (by omega) (by omega) | (simp only [maxLen]; omega) | exact .inl trivial | exact .inl rfl))
                refine ⟨k + 1, ⟨by omega, hc, ?_⟩, by omega, Le.st ?_⟩
                · intro x hx
                  rw [htk] at hx
                  rcases List.mem_append.1 hx with hx | hx
                  · exact hf x hx
                  · rw [List.mem_singleton.1 hx]; exact hn0
                · rw [htk, hms h]
                  (try (push_cast (maxSteps := 1000000)))
                  simp
        · have hd : decide ((k : Int) < (R.length : Int)) = false := decide_eq_false (by omega)
          rw [List.drop_eq_nil_of_le (by omega)] at hc; simp only [rowsF] at hc
          have hkk : k = R.length := by omega
          subst hkk
          (try (push_cast (maxSteps := 1000000) [hd]))
          simp [e, ← hc]
end Go.LS.Tryd
