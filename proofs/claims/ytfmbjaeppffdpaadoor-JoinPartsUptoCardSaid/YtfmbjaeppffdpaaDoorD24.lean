/- Contracts of the functions of the seat, one by one (part D24); no condition but those that each bears. -/
import Derived.Test.YtfmbjaeppffdpaaDoorD23
namespace Go.LS.Tryd
open Go Go.LS
set_option maxRecDepth 100000
set_option linter.unusedSimpArgs false
set_option linter.unusedVariables false

set_option maxHeartbeats 1000000 in
theorem d33 (a b : List Cl) (on : List Jo) (kind : Int) (ha : okCl a) (hb : okCl b) (ho : on.length ≤ 1000) (hk : inK .i64 kind) :
    Spec V 33 [.c (.d (.sl 3 (a.map eC))), .c (.d (.sl 3 (b.map eC))), .c (.d (.sl 2 (on.map eJo))), i2 .i64 kind] (.tu [i2 .i64 ((checkJ a b on kind).1 : Int), i2 .i64 (checkJ a b on kind).2]) := by
  have h63a := f47 a ha
  have h63b := f47 b hb
  have hla : a.length ≤ 1099511627776 := ha.1
  have hlb : b.length ≤ 1099511627776 := hb.1
  obtain ⟨R, hR⟩ : ∃ R, R = checkJ a b on kind := ⟨_, rfl⟩
  rw [← hR]
  simp only [checkJ] at hR
  (refine Spec.of_go (L := fun | 0 => some [0, 1, 2, 3] | 1 => some [0, 1, 2, 3, 11] | 2 => some [0, 1, 2, 3, 11, 35] | 3 => some [8, 9] | 4 => some [0, 1, 2, 3, 13] | 5 => some [0, 1, 2, 3, 13, 43] | 6 => some [8, 9] | 7 => some [0, 1, 2, 3, 50] | 8 => some [8, 9] | 9 => some [0, 1, 2, 3, 53] | 10 => some [8, 9] | 11 => some [0, 1, 2, 3, 14, 15] | 12 => some [0, 1, 2, 3, 14, 15, 56, 57, 58] | 13 => some [0, 1, 2, 3, 14, 15, 56, 57, 58, 59] | 14 => some [0, 1, 2, 3, 14, 15, 16, 17, 56, 57, 58] | 15 => some [0, 1, 2, 3, 14, 15, 16, 17, 18, 20, 56, 57, 58] | 16 => some [0, 1, 2, 3, 14, 15, 16, 17, 18, 20, 21, 23, 56, 57, 58] | 17 => some [0, 1, 2, 3, 14, 15, 16, 17, 18, 21, 56, 57, 58, 79] | 18 => some [8, 9] | 19 => some [0, 1, 2, 3, 14, 15, 16, 17, 56, 57, 58, 87] | 20 => some [8, 9] | 21 => some [0, 1, 2, 3, 14, 15, 16, 17, 56, 57, 58, 94] | 22 => some [8, 9] | 23 => some [0, 1, 2, 3, 14, 15, 17, 56, 57, 58] | 24 => some [0, 1, 2, 3, 14, 15, 56, 57, 58] | 25 => some [0, 1, 2, 3, 14, 15, 56, 57, 58] | 26 => some [0, 1, 2, 15, 118] | 27 => some [0, 2, 15, 119, 120, 121] | 28 => some [0, 2, 15, 119, 120, 121, 122] | 29 => some [0, 2, 15, 25, 119, 120, 121] | 30 => some [0, 2, 15, 25, 28, 119, 120, 121] | 31 => some [0, 2, 15, 119, 120, 121, 140] | 32 => some [8, 9] | 33 => some [0, 2, 15, 119, 120, 121] | 34 => some [8, 9] | _ => none) 1000 Go.Proofs.Tryd.func33 rfl rfl ⟨Nat.le_of_ble_eq_true rfl, rfl⟩ rfl ?_; unfold Go.Proofs.Tryd.f33; push_cast (maxSteps := 1000000))
  refine ⟨_, h63a, rfl, ?_⟩
  (try (push_cast (maxSteps := 1000000)))
  by_cases c1 : (checkC a).2 = 0
  · rw [if_neg (by simp [c1])] at hR
    (try (push_cast (maxSteps := 1000000) [c1]))
    refine ⟨_, h63b, rfl, ?_⟩
    by_cases c2 : (checkC b).2 = 0
    · rw [if_neg (by simp [c2])] at hR
      (try (push_cast (maxSteps := 1000000) [c2]))
      by_cases k1 : kind < 1
      · rw [if_pos (.inl k1)] at hR
        subst hR
        (try (push_cast (maxSteps := 1000000) [k1]))
      · by_cases k4 : 4 < kind
        · rw [if_pos (.inr k4)] at hR
          subst hR
          (try (push_cast (maxSteps := 1000000) [k1, k4]))
        · rw [if_neg (by omega)] at hR
          (try (push_cast (maxSteps := 1000000) [k1, k4]))
          by_cases o0 : on.length = 0
          · rw [if_pos o0] at hR
            subst hR
            (try (push_cast (maxSteps := 1000000) [o0]))
          · rw [if_neg o0] at hR
            have do0 : decide ((on.length : Int) = 0) = false := decide_eq_false (by omega)
            (try (push_cast (maxSteps := 1000000) [do0]))
            refine LoopK.ov (α := Nat) [58] (fun k => [i2 .i64 k]) (fun k => [.mp (truS ((on.take k).map fun o => o.l)), .mp (truS ((on.take k).map fun o => o.r))]) (fun k => k ≤ on.length ∧ pairJ a b ((on.take k).map fun o => o.l) ((on.take k).map fun o => o.r) (on.drop k) k = pairJ a b [] [] on 0) (fun k => on.length - k) 1000 0 ⟨by omega, rfl⟩ (by (try (push_cast (maxSteps := 1000000))) <;> first | rfl | exact ⟨rfl, rfl⟩ | exact ⟨rfl, rfl, rfl⟩ | trivial) ?_
            rintro k ⟨hk1, hrun⟩
            by_cases hlt : k < on.length
            · have hv := List.getElem?_eq_getElem hlt; have hd : decide ((k : Int) < (on.length : Int)) = true := decide_eq_true (by omega)
              rw [drop_cons hv] at hrun
              simp only [pairJ] at hrun
              have htk : on.take (k + 1) = on.take k ++ [on[k]] := by rw [List.take_add_one, hv]; rfl
              have e1 : (on.take (k + 1)).map (fun o => o.l) = (on.take k).map (fun o => o.l) ++ [on[k].l] := by rw [htk, List.map_append]; rfl
              have e2 : (on.take (k + 1)).map (fun o => o.r) = (on.take k).map (fun o => o.r) ++ [on[k].r] := by rw [htk, List.map_append]; rfl
              rw [← e1, ← e2] at hrun
              generalize on[k] = o at *
              have h64a := f62 a o.l ha.1
              have h64b := f62 b o.r hb.1
              have m1 := mset_truS o.l ((on.take k).map fun o => o.l)
              have m2 := mset_truS o.r ((on.take k).map fun o => o.r)
              generalize findF o.l a 0 = Fa at *
              generalize findF o.r b 0 = Fb at *
              obtain ⟨ca, na, oa⟩ := Fa
              obtain ⟨cb, nb, ob⟩ := Fb
              simp only [eC_eq] at hrun h64a h64b
              (try (push_cast (maxSteps := 1000000) [hd, getD_map hv]))
              ((repeat' (with_reducible refine And.intro ?_ ?_)) <;> try (first | trivial | omega | exact inK64 (by omega) (by omega) | exact inKu8 (by omega) (by omega) | (simp only [maxLen]; omega) | exact .inl trivial | exact .inl rfl))
              refine ⟨_, h64a, rfl, ?_⟩
              (try (push_cast (maxSteps := 1000000)))
              refine ⟨_, h64b, rfl, ?_⟩
              cases oa with
              | false =>
                simp only [true_or, if_true] at hrun
                rw [hR, if_pos (by rw [← hrun]; simp), ← hrun]
                (try (push_cast (maxSteps := 1000000)))
              | true =>
                cases ob with
                | false =>
                  simp only [or_true, if_true] at hrun
                  rw [hR, if_pos (by rw [← hrun]; simp), ← hrun]
                  (try (push_cast (maxSteps := 1000000)))
                | true =>
                  simp only [Bool.true_eq_false, or_self, if_false] at hrun
                  by_cases hkd : ca.kind = cb.kind
                  · rw [if_neg (by simp [hkd])] at hrun
                    (try (push_cast (maxSteps := 1000000) [hkd]))
                    cases hm1 : memB o.l ((on.take k).map fun o => o.l) with
                    | true =>
                      rw [if_pos (.inl hm1)] at hrun
                      rw [hR, if_pos (by rw [← hrun]; simp), ← hrun]
                      (try (push_cast (maxSteps := 1000000) [hm1]))
                    | false =>
                      cases hm2 : memB o.r ((on.take k).map fun o => o.r) with
                      | true =>
                        rw [if_pos (.inr hm2)] at hrun
                        rw [hR, if_pos (by rw [← hrun]; simp), ← hrun]
                        (try (push_cast (maxSteps := 1000000) [hm1, hm2]))
                      | false =>
                        rw [if_neg (by rw [hm1, hm2]; simp)] at hrun
                        rw [hm1] at m1
                        rw [hm2] at m2
                        (try (push_cast (maxSteps := 1000000) [hm1, hm2, m1, m2]))
                        ((repeat' (with_reducible refine And.intro ?_ ?_)) <;> try (first | trivial | omega | exact inK64 (by omega) (by omega) | exact inKu8 (by omega) (by omega) | (simp only [maxLen]; omega) | exact .inl trivial | exact .inl rfl))
                        refine ⟨k + 1, ⟨by omega, hrun⟩, by omega, Le.st ?_⟩
                        rw [e1, e2]
                        (try (push_cast (maxSteps := 1000000))); (all_goals first | rfl | skip)
                  · rw [if_pos hkd] at hrun
                    rw [hR, if_pos (by rw [← hrun]; simp), ← hrun]
                    (try (push_cast (maxSteps := 1000000) [hkd]))
            · obtain rfl : k = on.length := by omega
              have hdk : decide ((on.length : Int) < (on.length : Int)) = false := decide_eq_false (by omega)
              rw [List.drop_eq_nil_of_le (by omega)] at hrun
              simp only [pairJ] at hrun
              rw [← hrun, List.take_length]
              rw [← hrun, if_neg (by simp)] at hR
              have hmr : ∀ n, memB n (on.map fun o => o.r) = isR on n := fun n => (isR_mem on n).symm
              (try (push_cast (maxSteps := 1000000) [hdk]))
              have fin : ¬ (kind = 1 ∨ kind = 2) → R = (on.length, 0) := fun h => by rw [hR, if_neg (fun x => h x.1)]
              by_cases k1' : kind = 1 ∨ kind = 2
              · have kb : (decide (kind = 1) || decide (kind = 2)) = true := by simpa using k1'
                have key : ∀ τ : Prop, τ → τ := fun _ h => h
                have hR2 : R = if clashF a on b = true then (on.length, 15) else (on.length, 0) := by
                  rw [hR]
                  by_cases hc : clashF a on b = true <;> simp [hc, k1']
                clear hR fin
                by_cases k1 : kind = 1
                · (try (push_cast (maxSteps := 1000000) [k1]))
                  refine LoopK.s1 (α := Nat) [121] (fun k => [i2 .i64 k]) (fun k => k ≤ b.length ∧ clashF a on (b.drop k) = clashF a on b) (fun k => b.length - k) 1000 0 ⟨by omega, rfl⟩ (by (try (push_cast (maxSteps := 1000000)))) ?_
                  rintro k ⟨hk2, hcl⟩
                  by_cases hlt2 : k < b.length
                  · have hv2 := List.getElem?_eq_getElem hlt2
                    have hd2 : decide ((k : Int) < (b.length : Int)) = true := decide_eq_true (by omega)
                    rw [drop_cons hv2] at hcl
                    simp only [clashF, List.any_cons] at hcl
                    generalize b[k] = c at *
                    have h64 := f62 a c.name ha.1
                    generalize findF c.name a 0 = Fa at *
                    obtain ⟨ca, na, oa⟩ := Fa
                    simp only [eC_eq] at hcl h64
                    (try (push_cast (maxSteps := 1000000) [hd2, getD_map hv2]))
                    ((repeat' (with_reducible refine And.intro ?_ ?_)) <;> try (first | trivial | omega | exact inK64 (by omega) (by omega) | exact inKu8 (by omega) (by omega) | (simp only [maxLen]; omega) | exact .inl trivial | exact .inl rfl))
                    refine ⟨_, h64, rfl, ?_⟩
                    cases oa with
                    | false =>
                      rw [Bool.false_and, Bool.false_or] at hcl
                      (try (push_cast (maxSteps := 1000000)))
                      ((repeat' (with_reducible refine And.intro ?_ ?_)) <;> try (first | trivial | omega | exact inK64 (by omega) (by omega) | exact inKu8 (by omega) (by omega) | (simp only [maxLen]; omega) | exact .inl trivial | exact .inl rfl))
                      refine ⟨k + 1, ⟨by omega, hcl⟩, by omega, Le.st ?_⟩
                      (try (push_cast (maxSteps := 1000000))); (all_goals first | rfl | skip)
                    | true =>
                      cases hr : isR on c.name with
                      | false =>
                        rw [hr] at hcl
                        simp only [Bool.not_false, Bool.and_true, Bool.true_or] at hcl
                        have hcb : clashF a on b = true := hcl.symm
                        rw [hR2, if_pos hcb]
                        (try (push_cast (maxSteps := 1000000) [hmr, hr]))
                      | true =>
                        rw [hr] at hcl
                        simp only [Bool.not_true, Bool.and_false, Bool.false_or] at hcl
                        (try (push_cast (maxSteps := 1000000) [hmr, hr]))
                        ((repeat' (with_reducible refine And.intro ?_ ?_)) <;> try (first | trivial | omega | exact inK64 (by omega) (by omega) | exact inKu8 (by omega) (by omega) | (simp only [maxLen]; omega) | exact .inl trivial | exact .inl rfl))
                        refine ⟨k + 1, ⟨by omega, hcl⟩, by omega, Le.st ?_⟩
                        (try (push_cast (maxSteps := 1000000))); (all_goals first | rfl | skip)
                  · have hd2 : decide ((k : Int) < (b.length : Int)) = false := decide_eq_false (by omega)
                    rw [List.drop_eq_nil_of_le (by omega)] at hcl
                    have hcb : clashF a on b = false := hcl.symm
                    rw [hR2, if_neg (by simp [hcb])]
                    (try (push_cast (maxSteps := 1000000) [hd2]))
                · have k2 : kind = 2 := by omega
                  (try (push_cast (maxSteps := 1000000) [k1, k2]))
                  refine LoopK.s1 (α := Nat) [121] (fun k => [i2 .i64 k]) (fun k => k ≤ b.length ∧ clashF a on (b.drop k) = clashF a on b) (fun k => b.length - k) 1000 0 ⟨by omega, rfl⟩ (by (try (push_cast (maxSteps := 1000000)))) ?_
                  rintro k ⟨hk2, hcl⟩
                  by_cases hlt2 : k < b.length
                  · have hv2 := List.getElem?_eq_getElem hlt2
                    have hd2 : decide ((k : Int) < (b.length : Int)) = true := decide_eq_true (by omega)
                    rw [drop_cons hv2] at hcl
                    simp only [clashF, List.any_cons] at hcl
                    generalize b[k] = c at *
                    have h64 := f62 a c.name ha.1
                    generalize findF c.name a 0 = Fa at *
                    obtain ⟨ca, na, oa⟩ := Fa
                    simp only [eC_eq] at hcl h64
                    (try (push_cast (maxSteps := 1000000) [hd2, getD_map hv2]))
                    ((repeat' (with_reducible refine And.intro ?_ ?_)) <;> try (first | trivial | omega | exact inK64 (by omega) (by omega) | exact inKu8 (by omega) (by omega) | (simp only [maxLen]; omega) | exact .inl trivial | exact .inl rfl))
                    refine ⟨_, h64, rfl, ?_⟩
                    cases oa with
                    | false =>
                      rw [Bool.false_and, Bool.false_or] at hcl
                      (try (push_cast (maxSteps := 1000000)))
                      ((repeat' (with_reducible refine And.intro ?_ ?_)) <;> try (first | trivial | omega | exact inK64 (by omega) (by omega) | exact inKu8 (by omega) (by omega) | (simp only [maxLen]; omega) | exact .inl trivial | exact .inl rfl))
                      refine ⟨k + 1, ⟨by omega, hcl⟩, by omega, Le.st ?_⟩
                      (try (push_cast (maxSteps := 1000000))); (all_goals first | rfl | skip)
                    | true =>
                      cases hr : isR on c.name with
                      | false =>
                        rw [hr] at hcl
                        simp only [Bool.not_false, Bool.and_true, Bool.true_or] at hcl
                        have hcb : clashF a on b = true := hcl.symm
                        rw [hR2, if_pos hcb]
                        (try (push_cast (maxSteps := 1000000) [hmr, hr]))
                      | true =>
                        rw [hr] at hcl
                        simp only [Bool.not_true, Bool.and_false, Bool.false_or] at hcl
                        (try (push_cast (maxSteps := 1000000) [hmr, hr]))
                        ((repeat' (with_reducible refine And.intro ?_ ?_)) <;> try (first | trivial | omega | exact inK64 (by omega) (by omega) | exact inKu8 (by omega) (by omega) | (simp only [maxLen]; omega) | exact .inl trivial | exact .inl rfl))
                        refine ⟨k + 1, ⟨by omega, hcl⟩, by omega, Le.st ?_⟩
                        (try (push_cast (maxSteps := 1000000))); (all_goals first | rfl | skip)
                  · have hd2 : decide ((k : Int) < (b.length : Int)) = false := decide_eq_false (by omega)
                    rw [List.drop_eq_nil_of_le (by omega)] at hcl
                    have hcb : clashF a on b = false := hcl.symm
                    rw [hR2, if_neg (by simp [hcb])]
                    (try (push_cast (maxSteps := 1000000) [hd2]))
              · have k1 : ¬ kind = 1 := fun h => k1' (.inl h)
                have k2 : ¬ kind = 2 := fun h => k1' (.inr h)
                rw [fin k1']
                (try (push_cast (maxSteps := 1000000) [k1, k2]))
    · rw [if_pos c2] at hR
      subst hR
      (try (push_cast (maxSteps := 1000000) [c2]))
  · rw [if_pos c1] at hR
    subst hR
    (try (push_cast (maxSteps := 1000000) [c1]))
end Go.LS.Tryd
