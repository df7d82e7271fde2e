/- Contracts of the functions of the seat, one by one (part D25); no condition but those that each bears. -/
import Derived.Test.YtfmbjaeppffdpaaDoorD24
import Derived.Test.YtfmbjaeppffdpaaDoorPJb
namespace Go.LS.Tryd
open Go Go.LS
set_option maxRecDepth 100000
set_option linter.unusedSimpArgs false
set_option linter.unusedVariables false

set_option maxHeartbeats 1000000 in
theorem d34 (a b : List Cl) (on : List Jo) (kind : Int) (ha : okCl a) (hb : okCl b) (ho : on.length ≤ 1000) (hk : inK .i64 kind) :
    Spec V 34 [.c (.d (.sl 3 (a.map eRC))), .c (.d (.sl 3 (b.map eRC))), .c (.d (.sl 2 (on.map eJo))), i2 .i64 kind] (.tu [i2 .i64 ((checkJ a b on kind).1 : Int), i2 .i64 (checkJ a b on kind).2]) := by
  have h67a := f50 a ha
  have h67b := f50 b hb
  have hla : a.length ≤ 1099511627776 := ha.1
  have hlb : b.length ≤ 1099511627776 := hb.1
  have h69a := names56 a ha.1
  have h69b := names56 b hb.1
  have hna : okLen (namesN a) := by simpa [okLen, namesN] using ha.1
  have hnb : okLen (namesN b) := by simpa [okLen, namesN] using hb.1
  obtain ⟨R, hR⟩ : ∃ R, R = checkJ a b on kind := ⟨_, rfl⟩
  rw [← hR]
  simp only [checkJ] at hR
  (refine Spec.of_go (L := fun | 0 => some [0, 1, 2, 3] | 1 => some [0, 1, 2, 3, 11] | 2 => some [0, 1, 2, 3, 11, 28] | 3 => some [8, 9] | 4 => some [0, 1, 2, 3, 13] | 5 => some [0, 1, 2, 3, 13, 36] | 6 => some [8, 9] | 7 => some [0, 1, 2, 3, 43] | 8 => some [8, 9] | 9 => some [0, 1, 2, 3, 46] | 10 => some [8, 9] | 11 => some [0, 1, 2, 3, 47, 48, 49] | 12 => some [0, 1, 2, 3, 47, 48, 49, 50] | 13 => some [0, 1, 2, 3, 14, 15, 47, 48, 49] | 14 => some [0, 1, 2, 3, 14, 15, 16, 17, 47, 48, 49] | 15 => some [0, 1, 2, 3, 14, 15, 16, 17, 47, 48, 49, 69] | 16 => some [8, 9] | 17 => some [0, 1, 2, 3, 14, 15, 47, 48, 49, 81] | 18 => some [8, 9] | 19 => some [0, 1, 2, 3, 14, 15, 47, 48, 49, 85, 86, 87] | 20 => some [0, 1, 2, 3, 14, 15, 47, 48, 49, 85, 86, 87, 88] | 21 => some [0, 1, 2, 3, 14, 15, 19, 47, 48, 49, 85, 86, 87] | 22 => some [0, 1, 2, 3, 14, 15, 47, 48, 49, 85, 86, 87, 102] | 23 => some [8, 9] | 24 => some [0, 1, 2, 3, 14, 15, 47, 48, 49, 85, 86, 87] | 25 => some [0, 1, 2, 3, 47, 48, 49] | 26 => some [0, 2, 3, 106, 107, 108] | 27 => some [0, 2, 3, 106, 107, 108, 109] | 28 => some [0, 2, 3, 21, 106, 107, 108] | 29 => some [0, 2, 3, 106, 107, 108, 128] | 30 => some [8, 9] | 31 => some [0, 2, 3, 106, 107, 108] | 32 => some [8, 9] | _ => none) 1000 Go.Proofs.Tryd.func34 rfl rfl ⟨Nat.le_of_ble_eq_true rfl, rfl⟩ rfl ?_; unfold Go.Proofs.Tryd.f34; push_cast (maxSteps := 1000000))
  refine ⟨_, h67a, rfl, ?_⟩
  (try (push_cast (maxSteps := 1000000)))
  by_cases c1 : (checkC a).2 = 0
  · rw [if_neg (by simp [c1])] at hR
    (try (push_cast (maxSteps := 1000000) [c1]))
    refine ⟨_, h67b, rfl, ?_⟩
    by_cases c2 : (checkC b).2 = 0
    · rw [if_neg (by simp [c2])] at hR
      (try (push_cast (maxSteps := 1000000) [c2]))
      by_cases k1 : kind < 1
      · rw [if_pos (.inl k1)] at hR
        subst hR
        (try (push_cast (maxSteps := 1000000) [k1]))
      · by_cases k4 : 4 < kind
        · rw [if_pos (.inr k4)] at hR
          subst hR
          (try (push_cast (maxSteps := 1000000) [k1, k4]))
        · rw [if_neg (by omega)] at hR
          (try (push_cast (maxSteps := 1000000) [k1, k4]))
          by_cases o0 : on.length = 0
          · rw [if_pos o0] at hR
            subst hR
            (try (push_cast (maxSteps := 1000000) [o0]))
          · rw [if_neg o0] at hR
            have do0 : decide ((on.length : Int) = 0) = false := decide_eq_false (by omega)
            (try (push_cast (maxSteps := 1000000) [do0]))
            refine LoopK.s1 (α := Nat) [49] (fun k => [i2 .i64 k]) (fun k => k ≤ on.length ∧ pairJ a b ((on.take k).map fun o => o.l) ((on.take k).map fun o => o.r) (on.drop k) k = pairJ a b [] [] on 0) (fun k => on.length - k) 1000 0 ⟨by omega, rfl⟩ (by (try (push_cast (maxSteps := 1000000)))) ?_
            rintro k ⟨hk1, hrun⟩
            by_cases hlt : k < on.length
            · have hv := List.getElem?_eq_getElem hlt; have hd : decide ((k : Int) < (on.length : Int)) = true := decide_eq_true (by omega)
              rw [drop_cons hv] at hrun
              simp only [pairJ] at hrun
              have htk : on.take (k + 1) = on.take k ++ [on[k]] := by rw [List.take_add_one, hv]; rfl
              have e1 : (on.take (k + 1)).map (fun o => o.l) = (on.take k).map (fun o => o.l) ++ [on[k].l] := by rw [htk, List.map_append]; rfl
              have e2 : (on.take (k + 1)).map (fun o => o.r) = (on.take k).map (fun o => o.r) ++ [on[k].r] := by rw [htk, List.map_append]; rfl
              rw [← e1, ← e2] at hrun
              have hoi : (on.map eJo).getD k [] = eJo on[k] := getD_map hv
              generalize on[k] = o at *
              simp only [eJo_eq] at hoi
              have h68a := f55 (namesN a) o.l hna
              have h68b := f55 (namesN b) o.r hnb
              have fa := at_found a o.l
              have fb := at_found b o.r
              have pa := @at_place a o.l
              have pb := @at_place b o.r
              have ga := @find_lt o.l a
              have gb := @find_lt o.r b
              cases ea : (findF o.l a 0).2.2 with
              | false =>
                rw [ea] at fa hrun
                simp only [true_or, if_true] at hrun
                rw [hR, if_pos (by rw [← hrun]; simp), ← hrun]
                (try (push_cast (maxSteps := 1000000) [hd, hoi]))
                ((repeat' (with_reducible refine And.intro ?_ ?_)) <;> try (first | trivial | omega | exact inK64 (by omega) (by omega) | exact inKu8 (by omega) (by omega) | (simp only [maxLen]; omega) | exact .inl trivial | exact .inl rfl))
                (refine DrawK.of (.take 0 (.take 2 (.take 3 (.take 5 (.take 7 (.take 8 (.one 1 (.one 4 (.one 6 (.one 9 (.take 10 (.take 11 .done)))))))))))) 1000 (by decide +kernel) ?_; try (push_cast (maxSteps := 1000000)))
                ((repeat' (with_reducible refine And.intro ?_ ?_)) <;> try (first | trivial | omega | exact inK64 (by omega) (by omega) | exact inKu8 (by omega) (by omega) | (simp only [maxLen]; omega) | exact .inl trivial | exact .inl rfl))
                all_goals (refine ⟨_, h69a, rfl, ?_⟩)
                all_goals (try (push_cast (maxSteps := 1000000)))
                all_goals ((repeat' (with_reducible refine And.intro ?_ ?_)) <;> try (first | trivial | omega | exact inK64 (by omega) (by omega) | exact inKu8 (by omega) (by omega) | (simp only [maxLen]; omega) | exact .inl trivial | exact .inl rfl))
                all_goals (refine ⟨_, h68a, rfl, ?_⟩)
                all_goals (try (push_cast (maxSteps := 1000000)))
                all_goals ((repeat' (with_reducible refine And.intro ?_ ?_)) <;> try (first | trivial | omega | exact inK64 (by omega) (by omega) | exact inKu8 (by omega) (by omega) | (simp only [maxLen]; omega) | exact .inl trivial | exact .inl rfl))
                all_goals (refine ⟨_, h69b, rfl, ?_⟩)
                all_goals (try (push_cast (maxSteps := 1000000)))
                all_goals ((repeat' (with_reducible refine And.intro ?_ ?_)) <;> try (first | trivial | omega | exact inK64 (by omega) (by omega) | exact inKu8 (by omega) (by omega) | (simp only [maxLen]; omega) | exact .inl trivial | exact .inl rfl))
                all_goals (refine ⟨_, h68b, rfl, ?_⟩)
                all_goals (try (push_cast (maxSteps := 1000000)))
                all_goals ((repeat' (with_reducible refine And.intro ?_ ?_)) <;> try (first | trivial | omega | exact inK64 (by omega) (by omega) | exact inKu8 (by omega) (by omega) | (simp only [maxLen]; omega) | exact .inl trivial | exact .inl rfl))
                (try (push_cast (maxSteps := 1000000) [fa]))
              | true =>
                rw [ea] at fa hrun
                cases eb : (findF o.r b 0).2.2 with
                | false =>
                  rw [eb] at fb hrun
                  simp only [or_true, if_true] at hrun
                  rw [hR, if_pos (by rw [← hrun]; simp), ← hrun]
                  (try (push_cast (maxSteps := 1000000) [hd, hoi]))
                  ((repeat' (with_reducible refine And.intro ?_ ?_)) <;> try (first | trivial | omega | exact inK64 (by omega) (by omega) | exact inKu8 (by omega) (by omega) | (simp only [maxLen]; omega) | exact .inl trivial | exact .inl rfl))
                  (refine DrawK.of (.take 0 (.take 2 (.take 3 (.take 5 (.take 7 (.take 8 (.one 1 (.one 4 (.one 6 (.one 9 (.take 10 (.take 11 .done)))))))))))) 1000 (by decide +kernel) ?_; try (push_cast (maxSteps := 1000000)))
                  ((repeat' (with_reducible refine And.intro ?_ ?_)) <;> try (first | trivial | omega | exact inK64 (by omega) (by omega) | exact inKu8 (by omega) (by omega) | (simp only [maxLen]; omega) | exact .inl trivial | exact .inl rfl))
                  all_goals (refine ⟨_, h69a, rfl, ?_⟩)
                  all_goals (try (push_cast (maxSteps := 1000000)))
                  all_goals ((repeat' (with_reducible refine And.intro ?_ ?_)) <;> try (first | trivial | omega | exact inK64 (by omega) (by omega) | exact inKu8 (by omega) (by omega) | (simp only [maxLen]; omega) | exact .inl trivial | exact .inl rfl))
                  all_goals (refine ⟨_, h68a, rfl, ?_⟩)
                  all_goals (try (push_cast (maxSteps := 1000000)))
                  all_goals ((repeat' (with_reducible refine And.intro ?_ ?_)) <;> try (first | trivial | omega | exact inK64 (by omega) (by omega) | exact inKu8 (by omega) (by omega) | (simp only [maxLen]; omega) | exact .inl trivial | exact .inl rfl))
                  all_goals (refine ⟨_, h69b, rfl, ?_⟩)
                  all_goals (try (push_cast (maxSteps := 1000000)))
                  all_goals ((repeat' (with_reducible refine And.intro ?_ ?_)) <;> try (first | trivial | omega | exact inK64 (by omega) (by omega) | exact inKu8 (by omega) (by omega) | (simp only [maxLen]; omega) | exact .inl trivial | exact .inl rfl))
                  all_goals (refine ⟨_, h68b, rfl, ?_⟩)
                  all_goals (try (push_cast (maxSteps := 1000000)))
                  all_goals ((repeat' (with_reducible refine And.intro ?_ ?_)) <;> try (first | trivial | omega | exact inK64 (by omega) (by omega) | exact inKu8 (by omega) (by omega) | (simp only [maxLen]; omega) | exact .inl trivial | exact .inl rfl))
                  (try (push_cast (maxSteps := 1000000) [fa, fb]))
                | true =>
                  rw [eb] at fb hrun
                  simp only [Bool.true_eq_false, or_self, if_false] at hrun
                  have hga := (ga ea).2.1
                  have hgb := (gb eb).2.1
                  have hpa := pa ea
                  have hpb := pb eb
                  unfold placeN at hpa hpb
                  have hla' := (ga ea).1
                  have hlb' := (gb eb).1
                  rw [hpa] at h68a
                  rw [hpb] at h68b
                  clear fa fb pa pb ga gb hpa hpb
                  generalize findF o.l a 0 = Fa at *
                  generalize findF o.r b 0 = Fb at *
                  obtain ⟨ca, na, oa⟩ := Fa
                  obtain ⟨cb, nb, ob⟩ := Fb
                  simp only at hrun hga hgb hla' hlb' h68a h68b
                  have hca : (a.map eRC).getD na [] = eRC ca := getD_map hga
                  have hcb : (b.map eRC).getD nb [] = eRC cb := getD_map hgb
                  have fa : decide ((na : Int) < 0) = false := decide_eq_false (by omega)
                  have fb : decide ((nb : Int) < 0) = false := decide_eq_false (by omega)
                  simp only [eRC_eq] at hca hcb
                  (try (push_cast (maxSteps := 1000000) [hd, hoi]))
                  ((repeat' (with_reducible refine And.intro ?_ ?_)) <;> try (first | trivial | omega | exact inK64 (by omega) (by omega) | exact inKu8 (by omega) (by omega) | (simp only [maxLen]; omega) | exact .inl trivial | exact .inl rfl))
                  (refine DrawK.of (.take 0 (.take 2 (.take 3 (.take 5 (.take 7 (.take 8 (.one 1 (.one 4 (.one 6 (.one 9 (.take 10 (.take 11 .done)))))))))))) 1000 (by decide +kernel) ?_; try (push_cast (maxSteps := 1000000)))
                  ((repeat' (with_reducible refine And.intro ?_ ?_)) <;> try (first | trivial | omega | exact inK64 (by omega) (by omega) | exact inKu8 (by omega) (by omega) | (simp only [maxLen]; omega) | exact .inl trivial | exact .inl rfl))
                  all_goals (refine ⟨_, h69a, rfl, ?_⟩)
                  all_goals (try (push_cast (maxSteps := 1000000)))
                  all_goals ((repeat' (with_reducible refine And.intro ?_ ?_)) <;> try (first | trivial | omega | exact inK64 (by omega) (by omega) | exact inKu8 (by omega) (by omega) | (simp only [maxLen]; omega) | exact .inl trivial | exact .inl rfl))
                  all_goals (refine ⟨_, h68a, rfl, ?_⟩)
                  all_goals (try (push_cast (maxSteps := 1000000)))
                  all_goals ((repeat' (with_reducible refine And.intro ?_ ?_)) <;> try (first | trivial | omega | exact inK64 (by omega) (by omega) | exact inKu8 (by omega) (by omega) | (simp only [maxLen]; omega) | exact .inl trivial | exact .inl rfl))
                  all_goals (refine ⟨_, h69b, rfl, ?_⟩)
                  all_goals (try (push_cast (maxSteps := 1000000)))
                  all_goals ((repeat' (with_reducible refine And.intro ?_ ?_)) <;> try (first | trivial | omega | exact inK64 (by omega) (by omega) | exact inKu8 (by omega) (by omega) | (simp only [maxLen]; omega) | exact .inl trivial | exact .inl rfl))
                  all_goals (refine ⟨_, h68b, rfl, ?_⟩)
                  all_goals (try (push_cast (maxSteps := 1000000)))
                  all_goals ((repeat' (with_reducible refine And.intro ?_ ?_)) <;> try (first | trivial | omega | exact inK64 (by omega) (by omega) | exact inKu8 (by omega) (by omega) | (simp only [maxLen]; omega) | exact .inl trivial | exact .inl rfl))
                  (try (push_cast (maxSteps := 1000000) [fa, fb]))
                  (refine DrawK.of (.take 0 (.take 1 (.take 2 (.take 3 (.take 4 (.take 5 (.take 6 (.take 7 (.take 8 (.take 9 (.take 10 .done))))))))))) 1000 (by decide +kernel) ?_; try (push_cast (maxSteps := 1000000)))
                  by_cases hkd : ca.kind = cb.kind
                  · rw [if_neg (by simp [hkd])] at hrun
                    have hti : (on.map eJo).take k = (on.take k).map eJo := by rw [List.map_take]
                    have hlti : (on.take k).length = k := by rw [List.length_take]; omega
                    have hlen : ((on.map eJo).take k).length = k := by rw [hti, List.length_map, hlti]
                    have hap := any_pair o.l o.r (on.take k)
                    (try (push_cast (maxSteps := 1000000) [hca, hcb, hkd]))
                    ((repeat' (with_reducible refine And.intro ?_ ?_)) <;> try (first | trivial | omega | exact inK64 (by omega) (by omega) | exact inKu8 (by omega) (by omega) | (simp only [maxLen]; omega) | exact .inl trivial | exact .inl rfl))
                    refine LoopK.s1 (α := Nat) [87] (fun j => [i2 .i64 j]) (fun j => j ≤ k ∧ ((on.take k).drop j).any (fun p => decide (p.l = o.l) || decide (p.r = o.r)) = (on.take k).any fun p => decide (p.l = o.l) || decide (p.r = o.r)) (fun j => k - j) 1000 0 ⟨by omega, rfl⟩ (by (try (push_cast (maxSteps := 1000000)))) ?_
                    rintro j ⟨hj, hany⟩
                    by_cases hlj : j < k
                    · have hdj : decide ((j : Int) < (k : Int)) = true := decide_eq_true (by omega)
                      have hvj : (on.take k)[j]? = some (on.take k)[j] := List.getElem?_eq_getElem (by omega)
                      have hcj : ((on.map eJo).take k).getD j [] = eJo (on.take k)[j] := by rw [hti]; exact getD_map hvj
                      rw [drop_cons hvj, List.any_cons] at hany
                      generalize (on.take k)[j] = p at *
                      simp only [eJo_eq] at hcj
                      by_cases q1 : p.l = o.l
                      · rw [decide_eq_true q1, Bool.true_or, Bool.true_or] at hany
                        rw [← hany] at hap
                        rw [if_pos (by rcases Bool.or_eq_true _ _ ▸ hap.symm with h | h; exact .inl h; exact .inr h)] at hrun
                        rw [hR, if_pos (by rw [← hrun]; simp), ← hrun]
                        (try (push_cast (maxSteps := 1000000) [hlen, hdj, hcj, q1]))
                        ((repeat' (with_reducible refine And.intro ?_ ?_)) <;> try (first | trivial | omega | exact inK64 (by omega) (by omega) | exact inKu8 (by omega) (by omega) | (simp only [maxLen]; omega) | exact .inl trivial | exact .inl rfl))
                      · by_cases q2 : p.r = o.r
                        · rw [decide_eq_true q2, Bool.or_true, Bool.true_or] at hany
                          rw [← hany] at hap
                          rw [if_pos (by rcases Bool.or_eq_true _ _ ▸ hap.symm with h | h; exact .inl h; exact .inr h)] at hrun
                          rw [hR, if_pos (by rw [← hrun]; simp), ← hrun]
                          (try (push_cast (maxSteps := 1000000) [hlen, hdj, hcj, q1, q2]))
                          ((repeat' (with_reducible refine And.intro ?_ ?_)) <;> try (first | trivial | omega | exact inK64 (by omega) (by omega) | exact inKu8 (by omega) (by omega) | (simp only [maxLen]; omega) | exact .inl trivial | exact .inl rfl))
                        · rw [decide_eq_false q1, decide_eq_false q2, Bool.or_false, Bool.false_or] at hany
                          (try (push_cast (maxSteps := 1000000) [hlen, hdj, hcj, q1, q2]))
                          ((repeat' (with_reducible refine And.intro ?_ ?_)) <;> try (first | trivial | omega | exact inK64 (by omega) (by omega) | exact inKu8 (by omega) (by omega) | (simp only [maxLen]; omega) | exact .inl trivial | exact .inl rfl))
                          refine ⟨j + 1, ⟨by omega, hany⟩, by omega, Le.st ?_⟩
                          (try (push_cast (maxSteps := 1000000))); (all_goals first | rfl | skip)
                    · obtain rfl : j = k := by omega
                      have hdj : decide ((j : Int) < (j : Int)) = false := decide_eq_false (by omega)
                      rw [List.drop_eq_nil_of_le (by omega), List.any_nil] at hany
                      rw [← hany] at hap
                      obtain ⟨n1, n2⟩ := Bool.or_eq_false_iff.1 hap.symm
                      rw [if_neg (by rw [n1, n2]; simp)] at hrun
                      (try (push_cast (maxSteps := 1000000) [hlen, hdj]))
                      ((repeat' (with_reducible refine And.intro ?_ ?_)) <;> try (first | trivial | omega | exact inK64 (by omega) (by omega) | exact inKu8 (by omega) (by omega) | (simp only [maxLen]; omega) | exact .inl trivial | exact .inl rfl))
                      refine ⟨j + 1, ⟨by omega, hrun⟩, by omega, Le.st ?_⟩
                      (try (push_cast (maxSteps := 1000000))); (all_goals first | rfl | skip)
                  · rw [if_pos hkd] at hrun
                    rw [hR, if_pos (by rw [← hrun]; simp), ← hrun]
                    (try (push_cast (maxSteps := 1000000) [hca, hcb, hkd]))
                    ((repeat' (with_reducible refine And.intro ?_ ?_)) <;> try (first | trivial | omega | exact inK64 (by omega) (by omega) | exact inKu8 (by omega) (by omega) | (simp only [maxLen]; omega) | exact .inl trivial | exact .inl rfl))
            · obtain rfl : k = on.length := by omega
              have hdk : decide ((on.length : Int) < (on.length : Int)) = false := decide_eq_false (by omega)
              rw [List.drop_eq_nil_of_le (by omega)] at hrun
              simp only [pairJ] at hrun
              rw [← hrun, if_neg (by simp)] at hR
              have hce := clash_eq a on (kind := kind) (by omega) b
              have hR2 : R = if clashR a on kind b = true then (on.length, 15) else (on.length, 0) := by
                rw [hR]
                by_cases hc : clashR a on kind b = true
                · rw [if_pos hc, if_pos (hce.1 hc)]
                · rw [if_neg hc, if_neg (fun h => hc (hce.2 h))]
              clear hR hce
              (try (push_cast (maxSteps := 1000000) [hdk]))
              refine LoopK.s1 (α := Nat) [108] (fun k => [i2 .i64 k]) (fun k => k ≤ b.length ∧ clashR a on kind (b.drop k) = clashR a on kind b) (fun k => b.length - k) 1000 0 ⟨by omega, rfl⟩ (by (try (push_cast (maxSteps := 1000000)))) ?_
              rintro q ⟨hq, hcl⟩
              by_cases hlt2 : q < b.length
              · have hv2 := List.getElem?_eq_getElem hlt2
                have hd2 : decide ((q : Int) < (b.length : Int)) = true := decide_eq_true (by omega)
                rw [drop_cons hv2, clashR_cons] at hcl
                have hci : (b.map eRC).getD q [] = eRC b[q] := getD_map hv2
                generalize b[q] = c at *
                simp only [eRC_eq] at hci
                have h77 := d77 on c.name (by simp only [okLen]; omega)
                have h68 := f55 (namesN a) c.name hna
                by_cases k2 : kind ≤ 2
                · rw [decide_eq_true k2, Bool.true_and] at hcl
                  (try (push_cast (maxSteps := 1000000) [hd2, hci]))
                  ((repeat' (with_reducible refine And.intro ?_ ?_)) <;> try (first | trivial | omega | exact inK64 (by omega) (by omega) | exact inKu8 (by omega) (by omega) | (simp only [maxLen]; omega) | exact .inl trivial | exact .inl rfl))
                  (refine DrawK.of (.take 0 (.take 1 (.take 2 (.take 3 (.take 4 (.take 5 (.one 6 (.take 7 (.take 8 (.take 9 (.take 10 (.take 12 (.take 13 (.one 11 (.one 14 (.take 15 (.take 16 .done))))))))))))))))) 1000 (by decide +kernel) ?_; try (push_cast (maxSteps := 1000000)))
                  (try (push_cast (maxSteps := 1000000) [k2]))
                  ((repeat' (with_reducible refine And.intro ?_ ?_)) <;> try (first | trivial | omega | exact inK64 (by omega) (by omega) | exact inKu8 (by omega) (by omega) | (simp only [maxLen]; omega) | exact .inl trivial | exact .inl rfl))
                  all_goals (refine ⟨_, h77, rfl, ?_⟩)
                  cases hr : isR on c.name with
                  | true =>
                    rw [hr, Bool.not_true, Bool.false_and, Bool.false_or] at hcl
                    all_goals (try (push_cast (maxSteps := 1000000)))
                    all_goals ((repeat' (with_reducible refine And.intro ?_ ?_)) <;> try (first | trivial | omega | exact inK64 (by omega) (by omega) | exact inKu8 (by omega) (by omega) | (simp only [maxLen]; omega) | exact .inl trivial | exact .inl rfl))
                    all_goals (refine ⟨q + 1, ⟨by omega, hcl⟩, by omega, Le.st ?_⟩)
                    all_goals ((try (push_cast (maxSteps := 1000000))); (all_goals first | rfl | skip))
                  | false =>
                    rw [hr, Bool.not_false, Bool.true_and] at hcl
                    all_goals (try (push_cast (maxSteps := 1000000)))
                    all_goals ((repeat' (with_reducible refine And.intro ?_ ?_)) <;> try (first | trivial | omega | exact inK64 (by omega) (by omega) | exact inKu8 (by omega) (by omega) | (simp only [maxLen]; omega) | exact .inl trivial | exact .inl rfl))
                    all_goals (refine ⟨_, h69a, rfl, ?_⟩)
                    all_goals (try (push_cast (maxSteps := 1000000)))
                    all_goals (refine ⟨_, h68, rfl, ?_⟩)
                    by_cases hat : 0 ≤ atF c.name (namesN a) 0
                    · rw [decide_eq_true hat, Bool.true_or] at hcl
                      rw [hR2, if_pos hcl.symm]
                      all_goals (try (push_cast (maxSteps := 1000000) [hat]))
                      all_goals ((repeat' (with_reducible refine And.intro ?_ ?_)) <;> try (first | trivial | omega | exact inK64 (by omega) (by omega) | exact inKu8 (by omega) (by omega) | (simp only [maxLen]; omega) | exact .inl trivial | exact .inl rfl))
                      all_goals (try (push_cast (maxSteps := 1000000) [hat]))
                    · rw [decide_eq_false hat, Bool.false_or] at hcl
                      all_goals (try (push_cast (maxSteps := 1000000) [hat]))
                      all_goals ((repeat' (with_reducible refine And.intro ?_ ?_)) <;> try (first | trivial | omega | exact inK64 (by omega) (by omega) | exact inKu8 (by omega) (by omega) | (simp only [maxLen]; omega) | exact .inl trivial | exact .inl rfl))
                      all_goals (refine ⟨q + 1, ⟨by omega, hcl⟩, by omega, Le.st ?_⟩)
                      all_goals ((try (push_cast (maxSteps := 1000000))); (all_goals first | rfl | skip))
                · rw [decide_eq_false k2, Bool.false_and, Bool.false_or] at hcl
                  (try (push_cast (maxSteps := 1000000) [hd2, hci]))
                  ((repeat' (with_reducible refine And.intro ?_ ?_)) <;> try (first | trivial | omega | exact inK64 (by omega) (by omega) | exact inKu8 (by omega) (by omega) | (simp only [maxLen]; omega) | exact .inl trivial | exact .inl rfl))
                  (refine DrawK.of (.take 0 (.take 1 (.take 2 (.take 3 (.take 4 (.take 5 (.one 6 (.take 7 (.take 8 (.take 9 (.take 10 (.take 12 (.take 13 (.one 11 (.one 14 (.take 15 (.take 16 .done))))))))))))))))) 1000 (by decide +kernel) ?_; try (push_cast (maxSteps := 1000000)))
                  (try (push_cast (maxSteps := 1000000) [k2]))
                  ((repeat' (with_reducible refine And.intro ?_ ?_)) <;> try (first | trivial | omega | exact inK64 (by omega) (by omega) | exact inKu8 (by omega) (by omega) | (simp only [maxLen]; omega) | exact .inl trivial | exact .inl rfl))
                  all_goals (refine ⟨q + 1, ⟨by omega, hcl⟩, by omega, Le.st ?_⟩)
                  all_goals ((try (push_cast (maxSteps := 1000000))); (all_goals first | rfl | skip))
              · have hd2 : decide ((q : Int) < (b.length : Int)) = false := decide_eq_false (by omega)
                rw [List.drop_eq_nil_of_le (by omega)] at hcl
                have hcb : clashR a on kind b = false := hcl.symm
                rw [hR2, if_neg (by simp [hcb])]
                (try (push_cast (maxSteps := 1000000) [hd2]))
    · rw [if_pos c2] at hR
      subst hR
      (try (push_cast (maxSteps := 1000000) [c2]))
  · rw [if_pos c1] at hR
    subst hR
    (try (push_cast (maxSteps := 1000000) [c1]))
set_option maxHeartbeats 1000000 in
theorem d36 (a b : List Cl) (on : List Jo) (kind : Int) (ha : okCl a) (hb : okCl b) (ho : on.length ≤ 1000) (hk : inK .i64 kind) (hal : a.length ≤ 1000) (hbl : b.length ≤ 1000) :
    Spec V 36 [.c (.d (.sl 3 (a.map eC))), .c (.d (.sl 3 (b.map eC))), .c (.d (.sl 2 (on.map eJo))), i2 .i64 kind] (.tu [.c (.d (.sl 3 ((colsC a b on kind).1.map eC))), i2 .i64 (colsC a b on kind).2]) := by
  have h33 := d33 a b on kind ha hb ho hk
  have h78 := d78R a ha.1
  have h79 := d79 b on hbl (by simp only [okLen]; omega)
  obtain ⟨R, hR⟩ : ∃ R, R = colsC a b on kind := ⟨_, rfl⟩
  rw [← hR]
  unfold colsC at hR
  (refine to1 ?_; refine Spec.of_go (V := V2) (L := fun | 0 => some [0, 1, 2, 3] | 1 => some [0, 1, 2, 3, 11] | 2 => some [0, 1, 2, 3, 11, 25] | 3 => some [8, 9] | 4 => some [1, 2, 3, 12] | 5 => some [1, 2, 3, 12, 34] | 6 => some [8, 9] | 7 => some [1, 3, 12, 38, 39, 40] | 8 => some [1, 3, 12, 38, 39, 40, 41] | 9 => some [1, 3, 12, 14, 38, 39, 40] | 10 => some [1, 3, 12, 15, 38, 39, 40] | 11 => some [1, 3, 12, 15, 38, 39, 40] | 12 => some [1, 3, 12, 38, 39, 40] | 13 => some [1, 3, 12, 38, 39, 40] | 14 => some [8, 9] | _ => none) 1000 Go.Proofs.Tryd.func36 rfl rfl ⟨Nat.le_of_ble_eq_true rfl, rfl⟩ rfl ?_; unfold Go.Proofs.Tryd.f36; push_cast (maxSteps := 1000000))
  refine ⟨_, to2 h33, rfl, ?_⟩
  by_cases c1 : (checkJ a b on kind).2 = 0
  · rw [if_neg (by simp [c1])] at hR
    subst hR
    have hkk := (checkJ_parts c1).2.2.1
    (try (push_cast (maxSteps := 1000000) [c1]))
    refine .inl ⟨_, _, _, toR2 h78, ?_⟩
    by_cases k3 : kind = 3
    · rw [cols_few a b on (by omega : 2 < kind)]
      (try (push_cast (maxSteps := 1000000) [k3]))
    · by_cases k4 : kind = 4
      · rw [cols_few a b on (by omega : 2 < kind)]
        (try (push_cast (maxSteps := 1000000) [k3, k4]))
      · rw [cols_code a b on (by omega : ¬ 2 < kind)]
        (try (push_cast (maxSteps := 1000000) [k3, k4]))
        refine ⟨_, to2 h79, rfl, ?_⟩
        have hlt := others_lt (b := b) (on := on)
        have hll := others_len b on
        generalize othersN b on = ps at *
        (try (push_cast (maxSteps := 1000000)))
        refine LoopK.ov (α := Nat) [40] (fun k => [i2 .i64 k]) (fun k => [.rw 105 3 ((a ++ (ps.take k).map fun i => colJ kind (b.getD i cl0)).map eC)]) (fun k => k ≤ ps.length) (fun k => ps.length - k) 1000 0 (by omega) (by ((try (push_cast (maxSteps := 1000000)))) <;> simp) ?_
        rintro k hk'
        by_cases hltk : k < ps.length
        · have hv := List.getElem?_eq_getElem hltk
          have hd : decide ((k : Int) < (ps.length : Int)) = true := decide_eq_true (by omega)
          have hpr := hlt ps[k] (List.getElem_mem hltk)
          have hv2 := List.getElem?_eq_getElem hpr
          have hbs : (a ++ (ps.take (k + 1)).map fun i => colJ kind (b.getD i cl0)) = (a ++ (ps.take k).map fun i => colJ kind (b.getD i cl0)) ++ [colJ kind b[ps[k]]] := by
            rw [List.take_add_one, hv, Option.toList_some, List.map_append, List.append_assoc, List.map_cons, List.map_nil]
            simp only [List.getD_eq_getElem?_getD, hv2, Option.getD_some]
          have hbl' : (a ++ (ps.take k).map fun i => colJ kind (b.getD i cl0)).length = a.length + k := by
            rw [List.length_append, List.length_map, List.length_take]; omega
          have hci : (b.map eC).getD ps[k] [] = eC b[ps[k]] := getD_map hv2
          generalize b[ps[k]] = c at *
          generalize ps[k] = p at *
          obtain ⟨cn, ck, cz⟩ := c
          simp only [eC_eq] at hci
          generalize (a ++ (ps.take k).map fun i => colJ kind (b.getD i cl0)) = l at *
          rw [show colJ kind ⟨cn, ck, cz⟩ = ⟨cn, ck, cz || decide (kind = 2)⟩ from rfl] at hbs
          (try (push_cast (maxSteps := 1000000) [hd, getD_map hv, hci]))
          ((repeat' (with_reducible refine And.intro ?_ ?_)) <;> try (first | trivial | omega | exact inK64 (by omega) (by omega) | exact inKu8 (by omega) (by omega) | (simp only [maxLen]; omega) | exact .inl trivial | exact .inl rfl))
          all_goals (cases cz <;> by_cases k2 : kind = 2)
          all_goals (first | (subst k2; push_cast (maxSteps := 1000000)) | push_cast (maxSteps := 1000000) [k2])
          all_goals ((repeat' (with_reducible refine And.intro ?_ ?_)) <;> try (first | trivial | omega | exact inK64 (by omega) (by omega) | exact inKu8 (by omega) (by omega) | (simp only [maxLen]; omega) | exact .inl trivial | exact .inl rfl))
          all_goals (refine ⟨k + 1, by omega, by omega, Le.st ?_⟩)
          all_goals rw [hbs]
          all_goals (first | push_cast (maxSteps := 1000000) [k2] | push_cast (maxSteps := 1000000))
          all_goals (first | rfl | (simp; done) | (simp; rfl) | (simp [k2]; done) | (simp [k2]; rfl) | trace_state)
        · have hd : decide ((k : Int) < (ps.length : Int)) = false := decide_eq_false (by omega)
          rw [List.take_of_length_le (by omega)]
          (try (push_cast (maxSteps := 1000000) [hd]))
  · rw [if_pos c1] at hR
    subst hR
    (try (push_cast (maxSteps := 1000000) [c1]))
theorem d31 (z : Jc) (hz : okJc z) : Spec V 31 [.ag ((eJc z).map .d)] (b2 (fitsJ z)) := by
  have h58a := d58 z.A hz.a
  have h58b := d58 z.B hz.b
  have hol : z.On.length ≤ 1099511627776 := hz.o
  obtain ⟨⟨L, A⟩, ⟨M, B⟩, on, kind⟩ := z
  simp only [eT_eq] at h58a h58b hol
  obtain ⟨R, hR⟩ : ∃ R, R = fitsJ ⟨⟨L, A⟩, ⟨M, B⟩, on, kind⟩ := ⟨_, rfl⟩
  rw [← hR]
  simp only [fitsJ] at hR
  (refine Spec.of_go (L := fun | 0 => some [1] | 1 => some [1, 6, 7, 8] | 2 => some [1, 6, 7, 8, 9] | 3 => some [1, 4, 6, 7, 8] | 4 => some [1, 6, 7, 8, 21] | 5 => some [2] | 6 => some [1, 6, 7, 8] | 7 => some [2] | _ => none) 1000 Go.Proofs.Tryd.func31 rfl rfl ⟨Nat.le_of_ble_eq_true rfl, rfl⟩ rfl ?_; unfold Go.Proofs.Tryd.f31; push_cast (maxSteps := 1000000))
  refine LoopK.s1 (α := Nat) [8] (fun k => [i2 .i64 k]) (fun k => k ≤ on.length ∧ shortOn (on.drop k) = shortOn on) (fun k => on.length - k) 1000 0 ⟨by omega, rfl⟩ (by (try (push_cast (maxSteps := 1000000)))) ?_
  rintro k ⟨hk, hc⟩
  by_cases hlt : k < on.length
  · have hv := List.getElem?_eq_getElem hlt; have hd : decide ((k : Int) < (on.length : Int)) = true := decide_eq_true (by omega)
    rw [drop_cons hv] at hc
    simp only [shortOn, List.all_cons] at hc
    generalize on[k] = o at *
    have el : decide (100 < (o.l.size : Int)) = !decide (o.l.size ≤ 100) := by rw [Bool.eq_iff_iff]; simp; omega
    have er : decide (100 < (o.r.size : Int)) = !decide (o.r.size ≤ 100) := by rw [Bool.eq_iff_iff]; simp; omega
    cases bl : decide (o.l.size ≤ 100) with
    | false =>
      rw [bl] at hc el
      simp only [Bool.false_and] at hc
      have hs : shortOn on = false := hc.symm
      rw [hs, Bool.false_and] at hR
      subst hR
      (try (push_cast (maxSteps := 1000000) [hd, getD_map hv, el]))
      ((repeat' (with_reducible refine And.intro ?_ ?_)) <;> try (first | trivial | omega | exact inK64 (by omega) (by omega) | exact inKu8 (by omega) (by omega) | (simp only [maxLen]; omega) | exact .inl trivial | exact .inl rfl))
    | true =>
      cases br : decide (o.r.size ≤ 100) with
      | false =>
        rw [bl, br] at hc
        rw [bl] at el
        rw [br] at er
        simp only [Bool.and_false, Bool.false_and] at hc
        have hs : shortOn on = false := hc.symm
        rw [hs, Bool.false_and] at hR
        subst hR
        (try (push_cast (maxSteps := 1000000) [hd, getD_map hv, el, er]))
        ((repeat' (with_reducible refine And.intro ?_ ?_)) <;> try (first | trivial | omega | exact inK64 (by omega) (by omega) | exact inKu8 (by omega) (by omega) | (simp only [maxLen]; omega) | exact .inl trivial | exact .inl rfl))
      | true =>
        rw [bl, br] at hc
        rw [bl] at el
        rw [br] at er
        simp only [Bool.true_and] at hc
        (try (push_cast (maxSteps := 1000000) [hd, getD_map hv, el, er]))
        ((repeat' (with_reducible refine And.intro ?_ ?_)) <;> try (first | trivial | omega | exact inK64 (by omega) (by omega) | exact inKu8 (by omega) (by omega) | (simp only [maxLen]; omega) | exact .inl trivial | exact .inl rfl))
        refine ⟨k + 1, ⟨by omega, hc⟩, by omega, Le.st ?_⟩
        (try (push_cast (maxSteps := 1000000))); (all_goals first | rfl | skip)
  · have hd : decide ((k : Int) < (on.length : Int)) = false := decide_eq_false (by omega)
    rw [List.drop_eq_nil_of_le (by omega)] at hc
    have hs : shortOn on = true := hc.symm
    rw [hs, Bool.true_and] at hR
    have el : decide ((on.length : Int) ≤ 12) = decide (on.length ≤ 12) := by rw [Bool.eq_iff_iff]; simp; omega
    (try (push_cast (maxSteps := 1000000) [hd]))
    refine ⟨_, h58a, rfl, ?_⟩
    cases fa : fewT ⟨L, A⟩ with
    | false =>
      rw [fa, Bool.false_and] at hR
      subst hR
      (try (push_cast (maxSteps := 1000000)))
    | true =>
      rw [fa, Bool.true_and] at hR
      (try (push_cast (maxSteps := 1000000)))
      refine ⟨_, h58b, rfl, ?_⟩
      cases fb : fewT ⟨M, B⟩ with
      | false =>
        rw [fb, Bool.false_and] at hR
        subst hR
        (try (push_cast (maxSteps := 1000000)))
      | true =>
        rw [fb, Bool.true_and] at hR
        subst hR
        (try (push_cast (maxSteps := 1000000) [el]))
end Go.LS.Tryd
