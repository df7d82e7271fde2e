/- Contracts of the functions of the seat, one by one (part D20); no condition but those that each bears. -/
import Derived.Test.YtfmbjaeppffdpaaDoorD18
import Derived.Test.YtfmbjaeppffdpaaDoorPZ
import Derived.Test.YtfmbjaeppffdpaaDoorLD
namespace Go.LS.Tryd
open Go Go.LS
set_option maxRecDepth 100000
set_option linter.unusedSimpArgs false
set_option linter.unusedVariables false

set_option maxHeartbeats 1000000 in
theorem d104 (x y : Ch) (hx : okLen x.o ∧ okLen x.n) (hy : okLen y.o ∧ okLen y.n) : Spec V 104 [.ag ((eRCh x).map .d), .ag ((eRCh y).map .d)] (.tu [.ag ((eRCh (twoF x y).1).map .d), i2 .i64 (twoF x y).2]) := by
  have h1 := same29 x.o y.n hx.1 hy.2
  have h2 := same29 x.n y.o hx.2 hy.1
  obtain ⟨R, hR⟩ : ∃ R, R = twoF x y := ⟨_, rfl⟩
  rw [← hR]
  unfold twoF at hR
  (refine Spec.of_go (L := fun | 0 => some [2, 3, 4] | 1 => some [2, 3, 4, 6] | 2 => some [2, 3, 4, 6, 15] | 3 => some [2, 3, 4, 6, 20] | 4 => some [4, 5] | 5 => some [4, 5] | 6 => some [2, 3, 4, 6, 42] | 7 => some [4, 5] | 8 => some [2, 3, 4, 6, 51] | 9 => some [4, 5] | 10 => some [2, 3, 4, 6, 55] | 11 => some [4, 5] | 12 => some [2, 3, 4, 6, 61] | 13 => some [4, 5] | 14 => some [2, 3, 4, 6, 69] | 15 => some [4, 5] | 16 => some [4, 5] | _ => none) 1000 Go.Proofs.Tryd.func104 rfl rfl ⟨Nat.le_of_ble_eq_true rfl, rfl⟩ rfl ?_; unfold Go.Proofs.Tryd.f104; push_cast (maxSteps := 1000000))
  by_cases x1 : x.k = 1
  · by_cases y3 : y.k = 3
    · simp only [x1, y3, and_self, if_true] at hR
      (try (push_cast (maxSteps := 1000000) [x1, y3]))
      refine ⟨_, h1, rfl, ?_⟩
      cases s1 : sameR x.o y.n <;> simp only [s1, if_true, if_false, Bool.false_eq_true] at hR <;> subst hR
      · (try (push_cast (maxSteps := 1000000)))
      · (try (push_cast (maxSteps := 1000000)))
    · simp only [x1, y3, and_false, if_false, true_or, if_true] at hR
      subst hR
      (try (push_cast (maxSteps := 1000000) [x1, y3]))
  · by_cases y3 : y.k = 3
    · simp only [x1, y3, false_and, if_false, or_true, true_or, if_true] at hR
      subst hR
      (try (push_cast (maxSteps := 1000000) [x1, y3]))
    · simp only [x1, y3, false_and, if_false, or_false, false_or, and_false] at hR
      (try (push_cast (maxSteps := 1000000) [x1, y3]))
      refine ⟨_, h2, rfl, ?_⟩
      cases s2 : sameR x.n y.o with
      | false =>
        simp only [s2, if_true] at hR
        subst hR
        (try (push_cast (maxSteps := 1000000)))
      | true =>
        simp only [s2, if_false, Bool.true_eq_false] at hR
        by_cases x3 : x.k = 3
        · by_cases y1 : y.k = 1
          · simp only [x3, y1, and_self, if_true] at hR
            subst hR
            (try (push_cast (maxSteps := 1000000) [x3, y1]))
          · simp only [x3, y1, and_false, if_true, if_false] at hR
            subst hR
            (try (push_cast (maxSteps := 1000000) [x3, y1]))
        · by_cases y1 : y.k = 1
          · simp only [x3, y1, false_and, if_true, if_false] at hR
            subst hR
            (try (push_cast (maxSteps := 1000000) [x3, y1]))
          · simp only [x3, y1, false_and, if_false] at hR
            (try (push_cast (maxSteps := 1000000) [x3, y1]))
            refine ⟨_, h1, rfl, ?_⟩
            cases s1 : sameR x.o y.n <;> simp only [s1, if_true, if_false, Bool.false_eq_true] at hR <;> subst hR
            · (try (push_cast (maxSteps := 1000000)))
            · (try (push_cast (maxSteps := 1000000)))
set_option maxHeartbeats 1000000 in
theorem d105 (L : List Cl) (ks : List ByteArray) (all : List Ch) (hL : okLen L) (hk : okKeys ks) (hf : ∀ n ∈ ks, foundN L n) (hplt : ∀ p ∈ placesN L ks, p < L.length) (hr : ∀ c ∈ all, RightC L.length (placesN L ks) c) (ho : ∀ c ∈ all, okLen c.o ∧ okLen c.n) (hl : all.length ≤ 2000) :
    Spec V 105 [.c (.d (.sl 3 (L.map eRC))), .c (.d (.sl 1 (ks.map eS))), .c (.d (.sl 3 (all.map eRCh)))] (i2 .i64 ((earlD (placesN L ks) all all 0 : Nat) : Int)) := by
  have h92 := fun a b (ha : a.length = L.length) (hb : b.length = L.length) => d92 L ks a b hL (by simp only [okLen, okKeys] at hk ⊢; omega) hf (fun p hp => by have := hplt p hp; omega) (fun p hp => by have := hplt p hp; omega)
  generalize placesN L ks = ps at *
  have hs := earl_start ps all
  obtain ⟨R, hR⟩ : ∃ R, R = earlD ps all all 0 := ⟨_, rfl⟩
  rw [← hR] at hs ⊢
  clear hR
  (refine Spec.of_go (L := fun | 0 => some [0, 1, 2] | 1 => some [0, 1, 2, 7] | 2 => some [0, 1, 2, 7, 15] | 3 => some [0, 1, 2, 7] | 4 => some [0, 1, 2, 7, 8] | 5 => some [0, 1, 2, 7, 8, 9] | 6 => some [0, 1, 2, 7, 8, 9, 21] | 7 => some [0, 1, 2, 7, 8, 9] | 8 => some [0, 1, 2, 7, 8, 9, 37] | 9 => some [0, 1, 2, 7, 8, 9, 40] | 10 => some [0, 1, 2, 7, 8, 9] | 11 => some [0, 1, 2, 7, 8, 9, 10, 11] | 12 => some [0, 1, 2, 7, 8, 9, 10, 55] | 13 => some [6] | 14 => some [0, 1, 2, 7, 8, 9] | 15 => some [6] | _ => none) 1000 Go.Proofs.Tryd.func105 rfl rfl ⟨Nat.le_of_ble_eq_true rfl, rfl⟩ rfl ?_; unfold Go.Proofs.Tryd.f105; push_cast (maxSteps := 1000000))
  refine LoopK.s1 (α := Nat) [7] (fun n => [i2 .i64 n]) (fun n => 1 ≤ n ∧ earlD ps all (all.drop n) n = R) (fun n => all.length - n) 1000 1 ⟨by omega, hs⟩ (by (try (push_cast (maxSteps := 1000000)))) ?_
  rintro n ⟨hn1, hrun⟩
  by_cases hlt : n < all.length
  · have hv := List.getElem?_eq_getElem hlt; have hd : decide ((n : Int) < (all.length : Int)) = true := decide_eq_true (by omega)
    have hm := List.getElem_mem hlt
    rw [drop_cons hv] at hrun
    simp only [earlD] at hrun
    have hrc := hr _ hm
    have hoc := ho _ hm
    have hkc := hrc.key.1
    have hcn : (all.map eRCh).getD n [] = eRCh all[n] := getD_map hv
    generalize all[n] = c at *
    have h103c := d103 c
    simp only [eRCh_eq] at h103c hcn
    (try (push_cast (maxSteps := 1000000) [hd]))
    refine LoopK.le (Le.nzB 0 1 4 rfl rfl) (LoopK.le (Le.nzB 0 2 4 rfl rfl) ?_)
    (try (push_cast (maxSteps := 1000000)))
    refine LoopK.ov (α := Nat × Ch) [9] (fun a => [i2 .i64 a.1]) (fun a => [.bx 134 [.d (.v (.int .i64 a.2.k)), .d (.sl 4 (a.2.o.map eRV)), .d (.sl 4 (a.2.n.map eRV))]]) (fun a => a.1 ≤ n + 1 ∧ foldD ps (keyC c) ((all.take (n + 1)).drop a.1) a.2 = foldD ps (keyC c) (all.take (n + 1)) ch0 ∧ okLen a.2.o ∧ okLen a.2.n) (fun a => n + 1 - a.1) 1000 (0, ch0) ⟨by simp, rfl, by simp [okLen], by simp [okLen]⟩ (by (try (push_cast (maxSteps := 1000000))) <;> first | rfl | exact ⟨rfl, rfl⟩ | exact ⟨rfl, rfl, rfl⟩ | trivial) ?_
    rintro ⟨k, m⟩ ⟨hk1, hfold, hmo, hmn⟩
    simp only at hk1 hfold hmo hmn
    by_cases hlt2 : k < n + 1
    · have hd2 : decide ((k : Int) ≤ (n : Int)) = true := decide_eq_true (by omega)
      have hv2 : all[k]? = some all[k] := List.getElem?_eq_getElem (by omega)
      have hv3 : (all.take (n + 1))[k]? = some all[k] := by rw [List.getElem?_take, if_pos hlt2]; exact hv2
      have hm2 := List.getElem_mem (l := all) (n := k) (by omega)
      rw [drop_cons hv3] at hfold
      simp only [foldD] at hfold
      have hrd := hr _ hm2
      have hod := ho _ hm2
      have hkd := hrd.key.1
      have hck : (all.map eRCh).getD k [] = eRCh all[k] := getD_map hv2
      generalize all[k] = d at *
      have h103d := d103 d
      have h104 := d104 m d ⟨hmo, hmn⟩ hod
      have h92' := h92 (keyC d) (keyC c) hkd hkc
      simp only [eRCh_eq] at h103d hck h104
      (try (push_cast (maxSteps := 1000000) [hd2]))
      (refine DrawK.of (.take 0 (.take 1 (.take 2 (.take 3 (.take 4 (.take 5 (.take 7 (.take 8 (.take 9 (.take 10 (.one 6 (.one 11 (.one 12 (.take 13 .done)))))))))))))) 1000 (by decide +kernel) ?_; try (push_cast (maxSteps := 1000000)))
      (try (push_cast (maxSteps := 1000000) [hcn, hck]))
      ((repeat' (with_reducible refine And.intro ?_ ?_)) <;> try (first | trivial | omega | exact inK64 (by omega) (by omega) | exact inKu8 (by omega) (by omega) | (simp only [maxLen]; omega) | exact .inl trivial | exact .inl rfl))
      all_goals (refine ⟨_, h103d, rfl, ?_⟩)
      all_goals (try (push_cast (maxSteps := 1000000) [hcn, hck]))
      all_goals ((repeat' (with_reducible refine And.intro ?_ ?_)) <;> try (first | trivial | omega | exact inK64 (by omega) (by omega) | exact inKu8 (by omega) (by omega) | (simp only [maxLen]; omega) | exact .inl trivial | exact .inl rfl))
      all_goals (refine ⟨_, h103c, rfl, ?_⟩)
      all_goals (try (push_cast (maxSteps := 1000000)))
      all_goals (refine ⟨_, h92', rfl, ?_⟩)
      all_goals (try (push_cast (maxSteps := 1000000)))
      cases ha : alikeF ps (keyC d) (keyC c) with
      | false =>
        rw [ha] at hfold
        simp only [if_true] at hfold
        (try (push_cast (maxSteps := 1000000)))
        ((repeat' (with_reducible refine And.intro ?_ ?_)) <;> try (first | trivial | omega | exact inK64 (by omega) (by omega) | exact inKu8 (by omega) (by omega) | (simp only [maxLen]; omega) | exact .inl trivial | exact .inl rfl))
        refine ⟨(k + 1, m), ⟨by simp only; omega, hfold, hmo, hmn⟩, by simp only; omega, Le.st ?_⟩
        (try (push_cast (maxSteps := 1000000))); (all_goals first | rfl | skip)
      | true =>
        rw [ha] at hfold
        simp only [Bool.true_eq_false, if_false] at hfold
        by_cases m0 : m.k = 0
        · rw [if_pos m0] at hfold
          (try (push_cast (maxSteps := 1000000) [m0, hck]))
          ((repeat' (with_reducible refine And.intro ?_ ?_)) <;> try (first | trivial | omega | exact inK64 (by omega) (by omega) | exact inKu8 (by omega) (by omega) | (simp only [maxLen]; omega) | exact .inl trivial | exact .inl rfl))
          refine ⟨(k + 1, d), ⟨by simp only; omega, hfold, hod.1, hod.2⟩, by simp only; omega, Le.st ?_⟩
          (try (push_cast (maxSteps := 1000000))); (all_goals first | rfl | skip)
        · rw [if_neg m0] at hfold
          by_cases e : (twoF m d).2 = 0
          · rw [if_neg (by simp [e])] at hfold
            have h2 := two_all (P := okLen) (by simp [okLen]) (x := m) (y := d) ⟨hmo, hmn⟩ hod
            (try (push_cast (maxSteps := 1000000) [m0]))
            (refine DrawK.of (.take 0 (.take 1 (.take 2 (.take 3 (.take 4 (.two 5 (.take 6 (.take 7 (.two 8 (.one 9 (.one 10 (.one 11 .done))) 9 (.two 8 (.one 10 (.one 11 .done)) 10 (.one 8 (.one 11 .done)))))) 9 (.one 5 (.take 6 (.take 7 (.two 8 (.one 10 (.one 11 .done)) 10 (.one 8 (.one 11 .done)))))))))))) 1000 (by decide +kernel) ?_; try (push_cast (maxSteps := 1000000)))
            (try (push_cast (maxSteps := 1000000) [hck]))
            ((repeat' (with_reducible refine And.intro ?_ ?_)) <;> try (first | trivial | omega | exact inK64 (by omega) (by omega) | exact inKu8 (by omega) (by omega) | (simp only [maxLen]; omega) | exact .inl trivial | exact .inl rfl))
            all_goals (refine ⟨_, h104, rfl, ?_⟩)
            all_goals (try (push_cast (maxSteps := 1000000)))
            all_goals ((repeat' (with_reducible refine And.intro ?_ ?_)) <;> try (first | trivial | omega | exact inK64 (by omega) (by omega) | exact inKu8 (by omega) (by omega) | (simp only [maxLen]; omega) | exact .inl trivial | exact .inl rfl))
            all_goals (try (push_cast (maxSteps := 1000000) [e]))
            all_goals ((repeat' (with_reducible refine And.intro ?_ ?_)) <;> try (first | trivial | omega | exact inK64 (by omega) (by omega) | exact inKu8 (by omega) (by omega) | (simp only [maxLen]; omega) | exact .inl trivial | exact .inl rfl))
            all_goals (refine ⟨(k + 1, (twoF m d).1), ⟨by simp only; omega, hfold, h2.1, h2.2⟩, by simp only; omega, Le.st ?_⟩)
            all_goals ((try (push_cast (maxSteps := 1000000))); (all_goals first | rfl | skip))
          · rw [if_pos e] at hfold
            rw [if_pos ⟨hn1, hfold.symm⟩] at hrun
            subst hrun
            (try (push_cast (maxSteps := 1000000) [m0]))
            (refine DrawK.of (.take 0 (.take 1 (.take 2 (.take 3 (.take 4 (.two 5 (.take 6 (.take 7 (.two 8 (.one 9 (.one 10 (.one 11 .done))) 9 (.two 8 (.one 10 (.one 11 .done)) 10 (.one 8 (.one 11 .done)))))) 9 (.one 5 (.take 6 (.take 7 (.two 8 (.one 10 (.one 11 .done)) 10 (.one 8 (.one 11 .done)))))))))))) 1000 (by decide +kernel) ?_; try (push_cast (maxSteps := 1000000)))
            (try (push_cast (maxSteps := 1000000) [hck]))
            ((repeat' (with_reducible refine And.intro ?_ ?_)) <;> try (first | trivial | omega | exact inK64 (by omega) (by omega) | exact inKu8 (by omega) (by omega) | (simp only [maxLen]; omega) | exact .inl trivial | exact .inl rfl))
            all_goals (refine ⟨_, h104, rfl, ?_⟩)
            all_goals (try (push_cast (maxSteps := 1000000)))
            all_goals ((repeat' (with_reducible refine And.intro ?_ ?_)) <;> try (first | trivial | omega | exact inK64 (by omega) (by omega) | exact inKu8 (by omega) (by omega) | (simp only [maxLen]; omega) | exact .inl trivial | exact .inl rfl))
            all_goals (try (push_cast (maxSteps := 1000000) [e]))
    · have hd2 : decide ((k : Int) ≤ (n : Int)) = false := decide_eq_false (by omega)
      rw [List.drop_eq_nil_of_le (by rw [List.length_take]; omega)] at hfold
      simp only [foldD] at hfold
      rw [if_neg (by rw [← hfold]; simp)] at hrun
      (try (push_cast (maxSteps := 1000000) [hd2]))
      ((repeat' (with_reducible refine And.intro ?_ ?_)) <;> try (first | trivial | omega | exact inK64 (by omega) (by omega) | exact inKu8 (by omega) (by omega) | (simp only [maxLen]; omega) | exact .inl trivial | exact .inl rfl))
      refine ⟨n + 1, ⟨by omega, hrun⟩, by omega, Le.st ?_⟩
      (try (push_cast (maxSteps := 1000000))); (all_goals first | rfl | skip)
  · have hd : decide ((n : Int) < (all.length : Int)) = false := decide_eq_false (by omega)
    rw [List.drop_eq_nil_of_le (by omega)] at hrun
    simp only [earlD] at hrun
    subst hrun
    (try (push_cast (maxSteps := 1000000) [hd]))
end Go.LS.Tryd
