/- Contracts of the functions of the seat, one by one (part D21); no condition but those that each bears. -/
import Derived.Test.YtfmbjaeppffdpaaDoorD20
namespace Go.LS.Tryd
open Go Go.LS
set_option maxRecDepth 100000
set_option linter.unusedSimpArgs false
set_option linter.unusedVariables false

set_option maxHeartbeats 2000000 in
theorem d55 (L : List Cl) (ks : List ByteArray) (x y : List Ch) (hL : okCl L) (hk : okKeys ks) (hx : okChs x) (hy : okChs y) (hxl : x.length ≤ 1000) (hyl : y.length ≤ 1000) :
    Spec V 55 [.c (.d (.sl 3 (L.map eRC))), .c (.d (.sl 1 (ks.map eS))), .c (.d (.sl 3 (x.map eRCh))), .c (.d (.sl 3 (y.map eRCh)))] (.tu [.c (.d (.sl 3 ((compF L ks x y).1.map eRCh))), i2 .i64 ((compF L ks x y).2.1 : Int), i2 .i64 (compF L ks x y).2.2]) := by
  have h46x := d46 L ks x hL hk hx
  have h46y := d46 L ks y hL hk hy
  obtain ⟨R, hR⟩ : ∃ R, R = compF L ks x y := ⟨_, rfl⟩
  rw [← hR]
  simp only [compF] at hR
  (refine Spec.of_go (L := fun | 0 => some [0, 1, 2, 3] | 1 => some [0, 1, 2, 3, 11, 12] | 2 => some [0, 1, 2, 3, 11, 12, 35] | 3 => some [8, 9, 10] | 4 => some [0, 1, 2, 3, 13, 14] | 5 => some [0, 1, 2, 3, 13, 14, 46] | 6 => some [8, 9, 10] | 7 => some [0, 1, 2, 3, 15] | 8 => some [0, 1, 15] | 9 => some [0, 1, 15, 16] | 10 => some [0, 1, 15, 16, 17] | 11 => some [0, 1, 15, 16, 17, 58] | 12 => some [0, 1, 15, 16, 17] | 13 => some [0, 1, 15, 16, 17, 61, 62, 63] | 14 => some [0, 1, 15, 16, 17, 61, 62, 63, 64] | 15 => some [0, 1, 15, 16, 17, 18, 19, 61, 62, 63] | 16 => some [0, 1, 15, 16, 17, 18, 19, 20, 61, 62, 63] | 17 => some [0, 1, 15, 16, 17, 18, 19, 20, 61, 62, 63, 70, 71, 72] | 18 => some [0, 1, 15, 16, 17, 18, 19, 20, 61, 62, 63, 70, 71, 72, 73] | 19 => some [0, 1, 15, 16, 17, 18, 19, 20, 22, 61, 62, 63, 70, 71, 72] | 20 => some [0, 1, 15, 16, 17, 18, 19, 20, 61, 62, 63, 70, 71, 72] | 21 => some [0, 1, 15, 16, 17, 18, 19, 20, 61, 62, 63, 70, 71, 72] | 22 => some [0, 1, 15, 16, 17, 18, 19, 61, 62, 63, 89] | 23 => some [0, 1, 15, 16, 17, 18, 19, 23, 61, 62, 63] | 24 => some [0, 1, 15, 16, 17, 19, 23, 24, 61, 62, 63] | 25 => some [0, 1, 15, 16, 17, 19, 23, 24, 61, 62, 63, 96] | 26 => some [0, 1, 15, 16, 17, 19, 23, 24, 61, 62, 63] | 27 => some [0, 1, 15, 16, 17, 19, 23, 24, 61, 62, 63, 109] | 28 => some [0, 1, 15, 16, 17, 19, 23, 24, 61, 62, 63, 112] | 29 => some [0, 1, 15, 16, 17, 19, 23, 24, 61, 62, 63] | 30 => some [0, 1, 15, 16, 17, 19, 23, 24, 25, 26, 61, 62, 63] | 31 => some [0, 1, 15, 16, 17, 19, 23, 24, 25, 61, 62, 63, 127] | 32 => some [8, 9, 10] | 33 => some [0, 1, 15, 16, 17, 19, 23, 24, 61, 62, 63] | 34 => some [0, 1, 15, 16, 17, 23, 61, 62, 63, 143] | 35 => some [0, 1, 15, 16, 17, 61, 62, 63] | 36 => some [0, 1, 15, 16, 17, 61, 62, 63] | 37 => some [8, 9, 10] | _ => none) 1000 Go.Proofs.Tryd.func55 rfl rfl ⟨Nat.le_of_ble_eq_true rfl, rfl⟩ rfl ?_; unfold Go.Proofs.Tryd.f55; push_cast (maxSteps := 1000000))
  refine ⟨_, h46x, rfl, ?_⟩
  (try (push_cast (maxSteps := 1000000)))
  refine BrP.mk (fun h => ?_) (fun h => ?_) <;> try (push_cast (maxSteps := 1000000) [h])
  · have h' : ¬ (checkP L ks x).2 = 0 := by simpa using h
    rw [if_pos h'] at hR
    subst hR
    (try (push_cast (maxSteps := 1000000)))
    all_goals simp
  · have h' : (checkP L ks x).2 = 0 := by simpa using h
    rw [if_neg (by simp [h'])] at hR
    refine ⟨_, h46y, rfl, ?_⟩
    (try (push_cast (maxSteps := 1000000)))
    refine BrP.mk (fun h => ?_) (fun h => ?_) <;> try (push_cast (maxSteps := 1000000) [h])
    · have h2 : ¬ (checkP L ks y).2 = 0 := by simpa using h
      rw [if_pos h2] at hR
      subst hR
      (try (push_cast (maxSteps := 1000000)))
      have := check_le L ks y
      exact inK64 (by omega) (by omega)
    · have h2 : (checkP L ks y).2 = 0 := by simpa using h
      rw [if_neg (by simp [h2])] at hR
      obtain ⟨ht, hox⟩ := check_parts h'
      obtain ⟨_, hoy⟩ := check_parts h2
      have hr : ∀ c ∈ x ++ y, RightC L.length (placesN L ks) c := fun c hc => one_right ((List.mem_append.1 hc).elim (hox c) (hoy c))
      have hfl : ∀ c ∈ x ++ y, okLen c.o ∧ okLen c.n := fun c hc => (List.mem_append.1 hc).elim (fun hc => ⟨(hx.2 c hc).1.1, (hx.2 c hc).2.1⟩) (fun hc => ⟨(hy.2 c hc).1.1, (hy.2 c hc).2.1⟩)
      rw [← slots_doc hr] at hR
      have hf := tab_found (t := ⟨L, []⟩) ht
      have hplt := tab_lt (t := ⟨L, []⟩) ht
      simp only at hf hplt
      have h105 := d105 L ks (x ++ y) hL.1 hk hf hplt hr hfl (by rw [List.length_append]; omega)
      have h92 := fun a b (ha : a.length = L.length) (hb : b.length = L.length) => d92 L ks a b hL.1 (by simp only [okLen, okKeys] at hk ⊢; omega) hf (fun p hp => by have := hplt p hp; omega) (fun p hp => by have := hplt p hp; omega)
      have hal : (x ++ y).length ≤ 2000 := by rw [List.length_append]; omega
      clear h46x h46y hox hoy ht hf h h' h2
      ((repeat' (with_reducible refine And.intro ?_ ?_)) <;> try (first | trivial | omega | exact inK64 (by omega) (by omega) | exact inKu8 (by omega) (by omega) | (simp only [maxLen]; omega) | exact .inl trivial | exact .inl rfl))
      refine LoopK.fz 0 rfl ?_
      (try (push_cast (maxSteps := 1000000)))
      refine LoopK.le (Le.nil 16 134 3 (by decide) (by (try (push_cast (maxSteps := 1000000))))) ?_
      (try (push_cast (maxSteps := 1000000)))
      rw [← List.map_append]
      have hR' : ∀ {o : Option (List Ch)}, o = compD (placesN L ks) (x ++ y) → R = match o with | some out => (out, out.length, 0) | none => ([], earlD (placesN L ks) (x ++ y) (x ++ y) 0, 23) := by
        rintro o rfl
        rw [hR]; rfl
      clear hR
      generalize x ++ y = all at *
      generalize placesN L ks = ps at *
      refine LoopK.ov (α := Nat × List Ch) [17] (fun a => [i2 .i64 a.1]) (fun a => [.dead, .rw 134 3 (a.2.map eRCh)]) (fun a => a.1 ≤ 2 ∧ passesD ps all (2 - a.1) a.2 = compD ps all ∧ a.2.length ≤ a.1 * all.length) (fun a => 2 - a.1) 1000 (0, []) ⟨by simp, passes_comp ps all, by simp⟩ (by (try (push_cast (maxSteps := 1000000))) <;> first | rfl | exact ⟨rfl, rfl⟩ | exact ⟨rfl, rfl, rfl⟩ | trivial) ?_
      rintro ⟨p, out⟩ ⟨hp2, hpass, hol⟩
      simp only at hp2 hpass hol
      by_cases hp : p < 2
      · have hdp : decide ((p : Int) < 2) = true := decide_eq_true (by omega)
        have e2 : 2 - p = (1 - p) + 1 := by omega
        rw [e2] at hpass
        simp only [passesD] at hpass
        have ep : decide (1 - p = 0) = decide (p = 1) := by rw [Bool.eq_iff_iff, decide_eq_true_eq, decide_eq_true_eq]; omega
        rw [ep] at hpass
        have hol2 : out.length ≤ 2000 := by
          have : p * all.length ≤ 1 * all.length := Nat.mul_le_mul_right _ (by omega)
          omega
        (try (push_cast (maxSteps := 1000000) [hdp]))
        refine LoopK.ov (α := Nat × List Ch) [63] (fun b => [i2 .i64 b.1]) (fun b => [.dead, .rw 134 3 (b.2.map eRCh)]) (fun b => b.1 ≤ all.length ∧ passD ps all (decide (p = 1)) (all.drop b.1) b.1 b.2 = passD ps all (decide (p = 1)) all 0 out ∧ b.2.length ≤ out.length + b.1) (fun b => all.length - b.1) 1000 (0, out) ⟨by simp, rfl, by simp⟩ (by (try (push_cast (maxSteps := 1000000))) <;> first | rfl | exact ⟨rfl, rfl⟩ | exact ⟨rfl, rfl, rfl⟩ | trivial) ?_
        rintro ⟨i, o2⟩ ⟨hi, hrun, hol3⟩
        simp only at hi hrun hol3
        by_cases hlt : i < all.length
        · have hv := List.getElem?_eq_getElem hlt; have hd : decide ((i : Int) < (all.length : Int)) = true := decide_eq_true (by omega)
          have hm := List.getElem_mem hlt
          rw [drop_cons hv] at hrun
          simp only [passD, stepD] at hrun
          have hrc := hr _ hm
          have hoc := hfl _ hm
          have hkc := hrc.key.1
          have hci : (all.map eRCh).getD i [] = eRCh all[i] := getD_map hv
          generalize all[i] = c at *
          have h103c := d103 c
          simp only [eRCh_eq] at h103c hci
          (try (push_cast (maxSteps := 1000000) [hd, hci]))
          have hti : (all.map eRCh).take i = (all.take i).map eRCh := by rw [List.map_take]
          have hlti : (all.take i).length = i := by rw [List.length_take]; omega
          ((repeat' (with_reducible refine And.intro ?_ ?_)) <;> try (first | trivial | omega | exact inK64 (by omega) (by omega) | exact inKu8 (by omega) (by omega) | (simp only [maxLen]; omega) | exact .inl trivial | exact .inl rfl))
          refine LoopK.s1 (α := Nat) [72, 20] (fun j => [i2 .i64 j, b2 (firstD ps (all.take j) c)]) (fun j => j ≤ i) (fun j => i - j) 1000 0 (by omega) (by ((try (push_cast (maxSteps := 1000000)))); simp [firstD]) ?_
          rintro j hj
          by_cases hlj : j < i
          · have hdj : decide ((j : Int) < (i : Int)) = true := decide_eq_true (by omega)
            have hvj : all[j]? = some all[j] := List.getElem?_eq_getElem (by omega)
            have hmj := List.getElem_mem (l := all) (n := j) (by omega)
            have hfs := first_succ (ps := ps) (c := c) hvj
            have hkj := (hr _ hmj).key.1
            have hcj : ((all.map eRCh).take i).getD j [] = eRCh all[j] := by
              rw [hti]; exact getD_map (by rw [List.getElem?_take, if_pos hlj]; exact hvj)
            generalize all[j] = b at *
            have h103b := d103 b
            have h92' := h92 (keyC b) (keyC c) hkj hkc
            simp only [eRCh_eq] at h103b hcj
            have hlen : ((all.map eRCh).take i).length = i := by rw [hti, List.length_map, hlti]
            (try (push_cast (maxSteps := 1000000) [hlen, hdj, hcj]))
            refine ⟨⟨by omega, by omega⟩, ?_⟩
            cases hb : firstD ps (all.take j) c with
            | false =>
              rw [hb, Bool.false_and] at hfs
              (refine DrawK.of (.take 0 (.take 1 (.take 2 (.take 3 (.take 4 (.take 6 (.one 5 (.one 7 (.one 8 (.take 9 (.take 10 (.take 11 .done)))))))))))) 1000 (by decide +kernel) ?_; try (push_cast (maxSteps := 1000000)))
              ((repeat' (with_reducible refine And.intro ?_ ?_)) <;> try (first | trivial | omega | exact inK64 (by omega) (by omega) | exact inKu8 (by omega) (by omega) | (simp only [maxLen]; omega) | exact .inl trivial | exact .inl rfl))
              all_goals (refine ⟨j + 1, by omega, by omega, Le.st ?_⟩)
              all_goals rw [hfs]
              all_goals (try (push_cast (maxSteps := 1000000)))
              all_goals (first | rfl | exact ⟨rfl, rfl⟩ | exact ⟨trivial, rfl⟩ | trace_state)
            | true =>
              rw [hb, Bool.true_and] at hfs
              (refine DrawK.of (.take 0 (.take 1 (.take 2 (.take 3 (.take 4 (.take 6 (.one 5 (.one 7 (.one 8 (.take 9 (.take 10 (.take 11 .done)))))))))))) 1000 (by decide +kernel) ?_; try (push_cast (maxSteps := 1000000)))
              ((repeat' (with_reducible refine And.intro ?_ ?_)) <;> try (first | trivial | omega | exact inK64 (by omega) (by omega) | exact inKu8 (by omega) (by omega) | (simp only [maxLen]; omega) | exact .inl trivial | exact .inl rfl))
              all_goals (refine ⟨_, h103b, rfl, ?_⟩)
              all_goals (try (push_cast (maxSteps := 1000000)))
              all_goals ((repeat' (with_reducible refine And.intro ?_ ?_)) <;> try (first | trivial | omega | exact inK64 (by omega) (by omega) | exact inKu8 (by omega) (by omega) | (simp only [maxLen]; omega) | exact .inl trivial | exact .inl rfl))
              all_goals (refine ⟨_, h103c, rfl, ?_⟩)
              all_goals (try (push_cast (maxSteps := 1000000)))
              all_goals ((repeat' (with_reducible refine And.intro ?_ ?_)) <;> try (first | trivial | omega | exact inK64 (by omega) (by omega) | exact inKu8 (by omega) (by omega) | (simp only [maxLen]; omega) | exact .inl trivial | exact .inl rfl))
              all_goals (refine ⟨_, h92', rfl, ?_⟩)
              all_goals (try (push_cast (maxSteps := 1000000)))
              all_goals ((repeat' (with_reducible refine And.intro ?_ ?_)) <;> try (first | trivial | omega | exact inK64 (by omega) (by omega) | exact inKu8 (by omega) (by omega) | (simp only [maxLen]; omega) | exact .inl trivial | exact .inl rfl))
              all_goals (refine ⟨j + 1, by omega, by omega, Le.st ?_⟩)
              all_goals rw [hfs]
              all_goals (try (push_cast (maxSteps := 1000000)))
              all_goals (first | rfl | exact ⟨rfl, rfl⟩ | exact ⟨trivial, rfl⟩ | trace_state)
          · obtain rfl : j = i := by omega
            have hdj : decide ((j : Int) < (j : Int)) = false := decide_eq_false (by omega)
            have hlen : ((all.map eRCh).take j).length = j := by rw [hti, List.length_map, hlti]
            cases hb : firstD ps (all.take j) c with
            | false =>
              rw [hb] at hrun
              simp only [if_true, List.append_nil] at hrun
              (try (push_cast (maxSteps := 1000000) [hlen, hdj]))
              ((repeat' (with_reducible refine And.intro ?_ ?_)) <;> try (first | trivial | omega | exact inK64 (by omega) (by omega) | exact inKu8 (by omega) (by omega) | (simp only [maxLen]; omega) | exact .inl trivial | exact .inl rfl))
              refine ⟨(j + 1, o2), ⟨by simp only; omega, hrun, by simp only; omega⟩, by simp only; omega, Le.st ?_⟩
              (try (push_cast (maxSteps := 1000000))); (all_goals first | rfl | skip)
            | true =>
              rw [hb] at hrun
              simp only [Bool.true_eq_false, if_false] at hrun
              (try (push_cast (maxSteps := 1000000) [hlen, hdj]))
              ((repeat' (with_reducible refine And.intro ?_ ?_)) <;> try (first | trivial | omega | exact inK64 (by omega) (by omega) | exact inKu8 (by omega) (by omega) | (simp only [maxLen]; omega) | exact .inl trivial | exact .inl rfl))
              refine LoopK.ov (α := Nat × Ch) [24] (fun a => [i2 .i64 a.1]) (fun a => [.dead, .rw 134 3 (o2.map eRCh), .bx 134 [.d (.v (.int .i64 c.k)), .d (.sl 4 (c.o.map eRV)), .d (.sl 4 (c.n.map eRV))], .bx 134 [.d (.v (.int .i64 a.2.k)), .d (.sl 4 (a.2.o.map eRV)), .d (.sl 4 (a.2.n.map eRV))]]) (fun a => a.1 ≤ all.length ∧ foldD ps (keyC c) (all.drop a.1) a.2 = foldD ps (keyC c) (all.drop (j + 1)) c ∧ okLen a.2.o ∧ okLen a.2.n) (fun a => all.length - a.1) 1000 (j + 1, c) ⟨by simp only; omega, rfl, hoc.1, hoc.2⟩ (by (try (push_cast (maxSteps := 1000000))) <;> first | rfl | exact ⟨rfl, rfl⟩ | exact ⟨rfl, rfl, rfl⟩ | trivial) ?_
              rintro ⟨k, m⟩ ⟨hk1, hfold, hmo, hmn⟩
              simp only at hk1 hfold hmo hmn
              by_cases hlk : k < all.length
              · have hdk : decide ((k : Int) < (all.length : Int)) = true := decide_eq_true (by omega)
                have hvk : all[k]? = some all[k] := List.getElem?_eq_getElem hlk
                have hmk := List.getElem_mem hlk
                rw [drop_cons hvk] at hfold
                simp only [foldD] at hfold
                have hod := hfl _ hmk
                have hkd := (hr _ hmk).key.1
                have hck : (all.map eRCh).getD k [] = eRCh all[k] := getD_map hvk
                generalize all[k] = d at *
                have h103d := d103 d
                have h104 := d104 m d ⟨hmo, hmn⟩ hod
                have h92' := h92 (keyC d) (keyC c) hkd hkc
                simp only [eRCh_eq] at h103d hck h104
                (try (push_cast (maxSteps := 1000000) [hdk]))
                cases ha : alikeF ps (keyC d) (keyC c) with
                | false =>
                  rw [ha] at hfold
                  simp only [if_true] at hfold
                  (refine DrawK.of (.take 0 (.take 1 (.take 2 (.take 3 (.take 4 (.take 5 (.take 7 (.one 6 (.one 8 (.one 9 (.take 10 .done))))))))))) 1000 (by decide +kernel) ?_; try (push_cast (maxSteps := 1000000)))
                  (try (push_cast (maxSteps := 1000000) [hck]))
                  ((repeat' (with_reducible refine And.intro ?_ ?_)) <;> try (first | trivial | omega | exact inK64 (by omega) (by omega) | exact inKu8 (by omega) (by omega) | (simp only [maxLen]; omega) | exact .inl trivial | exact .inl rfl))
                  all_goals (refine ⟨_, h103d, rfl, ?_⟩)
                  all_goals (try (push_cast (maxSteps := 1000000) [hck]))
                  all_goals ((repeat' (with_reducible refine And.intro ?_ ?_)) <;> try (first | trivial | omega | exact inK64 (by omega) (by omega) | exact inKu8 (by omega) (by omega) | (simp only [maxLen]; omega) | exact .inl trivial | exact .inl rfl))
                  all_goals (refine ⟨_, h103c, rfl, ?_⟩)
                  all_goals (try (push_cast (maxSteps := 1000000)))
                  all_goals (refine ⟨_, h92', rfl, ?_⟩)
                  all_goals (try (push_cast (maxSteps := 1000000) [ha]))
                  all_goals ((repeat' (with_reducible refine And.intro ?_ ?_)) <;> try (first | trivial | omega | exact inK64 (by omega) (by omega) | exact inKu8 (by omega) (by omega) | (simp only [maxLen]; omega) | exact .inl trivial | exact .inl rfl))
                  all_goals (refine ⟨(k + 1, m), ⟨by simp only; omega, hfold, hmo, hmn⟩, by simp only; omega, Le.st ?_⟩)
                  all_goals ((try (push_cast (maxSteps := 1000000))); (all_goals first | rfl | skip))
                | true =>
                  rw [ha] at hfold
                  simp only [Bool.true_eq_false, if_false] at hfold
                  (refine DrawK.of (.take 0 (.take 1 (.take 2 (.take 3 (.take 4 (.take 5 (.take 7 (.one 6 (.one 8 (.one 9 (.take 10 .done))))))))))) 1000 (by decide +kernel) ?_; try (push_cast (maxSteps := 1000000)))
                  (try (push_cast (maxSteps := 1000000) [hck]))
                  ((repeat' (with_reducible refine And.intro ?_ ?_)) <;> try (first | trivial | omega | exact inK64 (by omega) (by omega) | exact inKu8 (by omega) (by omega) | (simp only [maxLen]; omega) | exact .inl trivial | exact .inl rfl))
                  all_goals (refine ⟨_, h103d, rfl, ?_⟩)
                  all_goals (try (push_cast (maxSteps := 1000000) [hck]))
                  all_goals ((repeat' (with_reducible refine And.intro ?_ ?_)) <;> try (first | trivial | omega | exact inK64 (by omega) (by omega) | exact inKu8 (by omega) (by omega) | (simp only [maxLen]; omega) | exact .inl trivial | exact .inl rfl))
                  all_goals (refine ⟨_, h103c, rfl, ?_⟩)
                  all_goals (try (push_cast (maxSteps := 1000000)))
                  all_goals (refine ⟨_, h92', rfl, ?_⟩)
                  by_cases m0 : m.k = 0
                  · rw [if_pos m0] at hfold
                    all_goals (try (push_cast (maxSteps := 1000000) [ha, m0, hck]))
                    all_goals ((repeat' (with_reducible refine And.intro ?_ ?_)) <;> try (first | trivial | omega | exact inK64 (by omega) (by omega) | exact inKu8 (by omega) (by omega) | (simp only [maxLen]; omega) | exact .inl trivial | exact .inl rfl))
                    all_goals (refine ⟨(k + 1, d), ⟨by simp only; omega, hfold, hod.1, hod.2⟩, by simp only; omega, Le.st ?_⟩)
                    all_goals ((try (push_cast (maxSteps := 1000000))); (all_goals first | rfl | skip))
                  · rw [if_neg m0] at hfold
                    all_goals (try (push_cast (maxSteps := 1000000) [ha, m0]))
                    by_cases e : (twoF m d).2 = 0
                    · rw [if_neg (by simp [e])] at hfold
                      have h2 := two_all (P := okLen) (by simp [okLen]) (x := m) (y := d) ⟨hmo, hmn⟩ hod
                      all_goals (refine DrawK.of (.take 0 (.take 1 (.take 2 (.take 3 (.take 4 (.two 5 (.take 6 (.take 7 (.two 8 (.one 9 (.one 10 (.one 11 .done))) 9 (.two 8 (.one 10 (.one 11 .done)) 10 (.one 8 (.one 11 .done)))))) 9 (.one 5 (.take 6 (.take 7 (.two 8 (.one 10 (.one 11 .done)) 10 (.one 8 (.one 11 .done)))))))))))) 1000 (by decide +kernel) ?_; try (push_cast (maxSteps := 1000000)))
                      all_goals (try (push_cast (maxSteps := 1000000) [hck]))
                      all_goals ((repeat' (with_reducible refine And.intro ?_ ?_)) <;> try (first | trivial | omega | exact inK64 (by omega) (by omega) | exact inKu8 (by omega) (by omega) | (simp only [maxLen]; omega) | exact .inl trivial | exact .inl rfl))
                      all_goals (refine ⟨_, h104, rfl, ?_⟩)
                      all_goals (try (push_cast (maxSteps := 1000000)))
                      all_goals ((repeat' (with_reducible refine And.intro ?_ ?_)) <;> try (first | trivial | omega | exact inK64 (by omega) (by omega) | exact inKu8 (by omega) (by omega) | (simp only [maxLen]; omega) | exact .inl trivial | exact .inl rfl))
                      all_goals (try (push_cast (maxSteps := 1000000) [e]))
                      all_goals ((repeat' (with_reducible refine And.intro ?_ ?_)) <;> try (first | trivial | omega | exact inK64 (by omega) (by omega) | exact inKu8 (by omega) (by omega) | (simp only [maxLen]; omega) | exact .inl trivial | exact .inl rfl))
                      all_goals (refine ⟨(k + 1, (twoF m d).1), ⟨by simp only; omega, hfold, h2.1, h2.2⟩, by simp only; omega, Le.st ?_⟩)
                      all_goals ((try (push_cast (maxSteps := 1000000))); (all_goals first | rfl | skip))
                    · rw [if_pos e] at hfold
                      rw [← hfold] at hrun
                      simp only [Option.map_none] at hrun
                      rw [← hrun] at hpass
                      have hRR := hR' hpass
                      simp only at hRR
                      subst hRR
                      all_goals (refine DrawK.of (.take 0 (.take 1 (.take 2 (.take 3 (.take 4 (.two 5 (.take 6 (.take 7 (.two 8 (.one 9 (.one 10 (.one 11 .done))) 9 (.two 8 (.one 10 (.one 11 .done)) 10 (.one 8 (.one 11 .done)))))) 9 (.one 5 (.take 6 (.take 7 (.two 8 (.one 10 (.one 11 .done)) 10 (.one 8 (.one 11 .done)))))))))))) 1000 (by decide +kernel) ?_; try (push_cast (maxSteps := 1000000)))
                      all_goals (try (push_cast (maxSteps := 1000000) [hck]))
                      all_goals ((repeat' (with_reducible refine And.intro ?_ ?_)) <;> try (first | trivial | omega | exact inK64 (by omega) (by omega) | exact inKu8 (by omega) (by omega) | (simp only [maxLen]; omega) | exact .inl trivial | exact .inl rfl))
                      all_goals (refine ⟨_, h104, rfl, ?_⟩)
                      all_goals (try (push_cast (maxSteps := 1000000)))
                      all_goals ((repeat' (with_reducible refine And.intro ?_ ?_)) <;> try (first | trivial | omega | exact inK64 (by omega) (by omega) | exact inKu8 (by omega) (by omega) | (simp only [maxLen]; omega) | exact .inl trivial | exact .inl rfl))
                      all_goals (try (push_cast (maxSteps := 1000000) [e]))
                      all_goals (refine ⟨_, h105, rfl, ?_⟩)
                      all_goals (try (push_cast (maxSteps := 1000000)))
                      all_goals simp
              · have hdk : decide ((k : Int) < (all.length : Int)) = false := decide_eq_false (by omega)
                rw [List.drop_eq_nil_of_le (by omega)] at hfold
                simp only [foldD] at hfold
                rw [← hfold] at hrun
                simp only [Option.map_some] at hrun
                have hel := emit_len (decide (p = 1)) m
                have hpi : decide ((p : Int) = 1) = decide (p = 1) := by rw [Bool.eq_iff_iff, decide_eq_true_eq, decide_eq_true_eq]; omega
                by_cases m0 : m.k = 0
                · simp only [emitD, m0, ne_eq, not_true_eq_false, false_and, if_false, List.append_nil] at hrun
                  (try (push_cast (maxSteps := 1000000) [hdk, m0]))
                  ((repeat' (with_reducible refine And.intro ?_ ?_)) <;> try (first | trivial | omega | exact inK64 (by omega) (by omega) | exact inKu8 (by omega) (by omega) | (simp only [maxLen]; omega) | exact .inl trivial | exact .inl rfl))
                  refine ⟨(j + 1, o2), ⟨by simp only; omega, hrun, by simp only; omega⟩, by simp only; omega, Le.st ?_⟩
                  (try (push_cast (maxSteps := 1000000))); (all_goals first | rfl | skip)
                · by_cases e3 : decide (m.k = 3) = decide (p = 1)
                  · have hb3 : (decide (m.k = 3) == decide (p = 1)) = true := by rw [e3]; simp
                    simp only [emitD, m0, ne_eq, not_false_eq_true, e3, and_self, if_true] at hrun
                    (try (push_cast (maxSteps := 1000000) [hdk, m0, hpi, hb3]))
                    ((repeat' (with_reducible refine And.intro ?_ ?_)) <;> try (first | trivial | omega | exact inK64 (by omega) (by omega) | exact inKu8 (by omega) (by omega) | (simp only [maxLen]; omega) | exact .inl trivial | exact .inl rfl))
                    refine ⟨(j + 1, o2 ++ [m]), ⟨by simp only; omega, hrun, by simp only [List.length_append, List.length_cons, List.length_nil]; omega⟩, by simp only; omega, Le.st ?_⟩
                    (try (push_cast (maxSteps := 1000000)))
                    all_goals (first | rfl | (simp; done) | (simp; rfl))
                  · have hb3 : (decide (m.k = 3) == decide (p = 1)) = false := by simpa using e3
                    simp only [emitD, m0, ne_eq, not_false_eq_true, e3, and_false, if_false, List.append_nil] at hrun
                    (try (push_cast (maxSteps := 1000000) [hdk, m0, hpi, hb3]))
                    ((repeat' (with_reducible refine And.intro ?_ ?_)) <;> try (first | trivial | omega | exact inK64 (by omega) (by omega) | exact inKu8 (by omega) (by omega) | (simp only [maxLen]; omega) | exact .inl trivial | exact .inl rfl))
                    refine ⟨(j + 1, o2), ⟨by simp only; omega, hrun, by simp only; omega⟩, by simp only; omega, Le.st ?_⟩
                    (try (push_cast (maxSteps := 1000000))); (all_goals first | rfl | skip)
        · obtain rfl : i = all.length := by omega
          have hdi : decide ((all.length : Int) < (all.length : Int)) = false := decide_eq_false (by omega)
          rw [List.drop_eq_nil_of_le (by omega)] at hrun
          simp only [passD] at hrun
          rw [← hrun] at hpass
          simp only at hpass
          (try (push_cast (maxSteps := 1000000) [hdi]))
          ((repeat' (with_reducible refine And.intro ?_ ?_)) <;> try (first | trivial | omega | exact inK64 (by omega) (by omega) | exact inKu8 (by omega) (by omega) | (simp only [maxLen]; omega) | exact .inl trivial | exact .inl rfl))
          have e1 : 2 - (p + 1) = 1 - p := by omega
          refine ⟨(p + 1, o2), ⟨by simp only; omega, by simp only [e1]; exact hpass, by simp only [Nat.add_mul, Nat.one_mul]; omega⟩, by simp only; omega, Le.st ?_⟩
          (try (push_cast (maxSteps := 1000000))); (all_goals first | rfl | skip)
      · obtain rfl : p = 2 := by omega
        have hRR := hR' hpass
        simp only [Nat.sub_self, passesD] at hRR
        subst hRR
        have hdp : decide (((2 : Nat) : Int) < 2) = false := by decide
        (try (push_cast (maxSteps := 1000000) [hdp]))
        trace_state
end Go.LS.Tryd
