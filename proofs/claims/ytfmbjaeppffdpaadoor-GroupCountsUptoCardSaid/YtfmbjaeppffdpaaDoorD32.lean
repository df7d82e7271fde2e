/- Contracts of the functions of the seat, one by one (part D32); no condition but those that each bears. -/
import Derived.Test.YtfmbjaeppffdpaaDoorD31
namespace Go.LS.Tryd
open Go Go.LS
set_option maxRecDepth 100000
set_option linter.unusedSimpArgs false
set_option linter.unusedVariables false

set_option maxHeartbeats 1000000 in
theorem d52 (L : List Cl) (ks : List ByteArray) (ag : List Ag) (hL : okCl L) (hk : okKeys ks) (ha : ag.length ≤ 1000) (hn : ∀ a ∈ ag, a.nm.size ≤ 1099511627776) :
    Spec V 52 [.c (.d (.sl 3 (L.map eRC))), .c (.d (.sl 1 (ks.map eS))), .c (.d (.sl 3 (ag.map eAg)))] (.tu [.c (.d (.sl 3 ((colsG L ks ag).1.map eRC))), i2 .i64 ((colsG L ks ag).2.1 : Int), i2 .i64 (colsG L ks ag).2.2]) := by
  have hk' : ks.length ≤ 64 := hk
  have h98 := d98 L ks hL hk
  have h69 := names56 L hL.1
  obtain ⟨F, hF⟩ : ∃ F, F = colsG L ks ag := ⟨_, rfl⟩
  rw [← hF]
  unfold colsG at hF
  (refine Spec.of_go (L := fun | 0 => some [0, 1, 2] | 1 => some [0, 1, 2, 9, 10] | 2 => some [0, 1, 2, 9, 10, 27] | 3 => some [6, 7, 8] | 4 => some [0, 1, 2, 11] | 5 => some [0, 1, 2, 11, 30, 31, 32] | 6 => some [0, 1, 2, 11, 30, 31, 32, 33] | 7 => some [0, 1, 2, 11, 13, 30, 31, 32] | 8 => some [0, 1, 2, 11, 30, 31, 32] | 9 => some [0, 1, 2, 11, 30, 31, 32] | 10 => some [0, 1, 11, 47, 48, 49] | 11 => some [0, 1, 11, 47, 48, 49, 50] | 12 => some [0, 1, 11, 14, 15, 47, 48, 49] | 13 => some [0, 1, 11, 14, 16, 17, 47, 48, 49] | 14 => some [0, 1, 11, 14, 16, 17, 47, 48, 49, 61] | 15 => some [6, 7, 8] | 16 => some [0, 1, 11, 47, 48, 49] | 17 => some [0, 1, 11, 47, 48, 49] | 18 => some [11, 74] | 19 => some [6, 7, 8] | 20 => some [11, 18, 19] | 21 => some [11, 18, 19, 82] | 22 => some [6, 7, 8] | 23 => some [6, 7, 8] | _ => none) 1000 Go.Proofs.Tryd.func52 rfl rfl ⟨Nat.le_of_ble_eq_true rfl, rfl⟩ rfl ?_; unfold Go.Proofs.Tryd.f52; push_cast (maxSteps := 1000000))
  refine ⟨_, h98, rfl, ?_⟩
  unfold keysR
  by_cases c1 : (checkC L).2 = 0
  · rw [if_neg (by simp [c1])] at hF
    rw [if_neg (by simp [c1])]
    by_cases c2 : (keyF L [] ks 0).2 = 0
    · rw [if_neg (by simp [c2])] at hF
      have hfound := key_found L ks [] 0 c2
      (try (push_cast (maxSteps := 1000000) [c2]))
      refine LoopK.le (Le.nil 11 131 3 (by decide) (by (try (push_cast (maxSteps := 1000000))))) ?_
      (try (push_cast (maxSteps := 1000000)))
      refine LoopK.ov (α := Nat) [32] (fun k => [i2 .i64 k]) (fun k => [.rw 131 3 ((keyCols L (ks.take k)).map eRC)]) (fun k => k ≤ ks.length) (fun k => ks.length - k) 1000 0 (by omega) (by (try (push_cast (maxSteps := 1000000))); rfl) ?_
      rintro k hk1
      by_cases hlt : k < ks.length
      · have hv := List.getElem?_eq_getElem hlt; have hd : decide ((k : Int) < (ks.length : Int)) = true := decide_eq_true (by omega)
        have hkt := keyCols_take (L := L) hv
        have hkl : (keyCols L (ks.take k)).length = k := by unfold keyCols; rw [List.length_map, List.length_take]; omega
        have hfd := hfound _ (List.getElem_mem hlt)
        have h68 := f55 (namesN L) ks[k] (by simpa [okLen, namesN] using hL.1)
        rw [at_place hfd] at h68
        have hpv := (placeN_get hfd).1
        have hplt := placeN_lt hfd
        generalize ks[k] = n at *
        generalize placeN L n = p at *
        generalize (findF n L 0).1 = c at *
        have hci : (L.map eRC).getD p [] = eRC c := getD_map hpv
        (try (push_cast (maxSteps := 1000000) [hd, getD_map hv]))
        ((repeat' (with_reducible refine And.intro ?_ ?_)) <;> try (first | trivial | omega | exact inK64 (by omega) (by omega) | exact inKu8 (by omega) (by omega) | (simp only [maxLen]; omega) | exact .inl trivial | exact .inl rfl))
        refine ⟨_, h69, rfl, ?_⟩
        (try (push_cast (maxSteps := 1000000)))
        refine ⟨_, h68, rfl, ?_⟩
        (try (push_cast (maxSteps := 1000000) [hci, hkl]))
        ((repeat' (with_reducible refine And.intro ?_ ?_)) <;> try (first | trivial | omega | exact inK64 (by omega) (by omega) | exact inKu8 (by omega) (by omega) | (simp only [maxLen]; omega) | exact .inl trivial | exact .inl rfl))
        refine ⟨k + 1, by omega, by omega, Le.st ?_⟩
        rw [hkt]
        (try (push_cast (maxSteps := 1000000)))
        all_goals (first | rfl | (simp; done) | (simp; rfl))
      · have hd : decide ((k : Int) < (ks.length : Int)) = false := decide_eq_false (by omega)
        rw [show ks.take k = ks from List.take_of_length_le (by omega)]
        have hkl : (keyCols L ks).length = ks.length := by simp [keyCols]
        (try (push_cast (maxSteps := 1000000) [hd]))
        clear hd hlt hk1
        refine LoopK.ov (α := Nat × List Cl) [49] (fun s => [i2 .i64 s.1]) (fun s => [.rw 131 3 (s.2.map eRC)]) (fun s => s.1 ≤ ag.length ∧ s.2.length = ks.length + s.1 ∧ aggsG L (ag.drop s.1) s.2 (ks.length + s.1) = aggsG L ag (keyCols L ks) ks.length ∧ ∀ c ∈ s.2, c.name.size ≤ 1099511627776) (fun s => ag.length - s.1) 1000 (0, keyCols L ks) ⟨by simp, by simp [hkl], by simp, keyCols_name hL.2 hfound⟩ (by (try (push_cast (maxSteps := 1000000))) <;> first | rfl | exact ⟨rfl, rfl⟩ | exact ⟨rfl, rfl, rfl⟩ | trivial) ?_
        rintro ⟨k, out⟩ ⟨hk1, hol, hrun, hon⟩
        simp only at hk1 hol hrun hon
        by_cases hlt : k < ag.length
        · have hv := List.getElem?_eq_getElem hlt; have hd : decide ((k : Int) < (ag.length : Int)) = true := decide_eq_true (by omega)
          rw [drop_cons hv] at hrun
          simp only [aggsG] at hrun
          have h99 := d99 ag[k] L hL
          have hcn := colG_name (L := L) (hn _ (List.getElem_mem hlt))
          generalize ag[k] = a at *
          obtain ⟨op, col, nm⟩ := a
          generalize hcG : columnG L ⟨op, col, nm⟩ = C at *
          obtain ⟨⟨cn, ck, cz⟩, ce⟩ := C
          simp only [eRC_eq, eAg_eq] at h99 hrun hcn
          (try (push_cast (maxSteps := 1000000) [hd, getD_map hv]))
          ((repeat' (with_reducible refine And.intro ?_ ?_)) <;> try (first | trivial | omega | exact inK64 (by omega) (by omega) | exact inKu8 (by omega) (by omega) | (simp only [maxLen]; omega) | exact .inl trivial | exact .inl rfl))
          refine ⟨_, h99, rfl, ?_⟩
          by_cases c3 : ce = 0
          · rw [if_neg (by simp [c3])] at hrun
            (try (push_cast (maxSteps := 1000000) [c3]))
            ((repeat' (with_reducible refine And.intro ?_ ?_)) <;> try (first | trivial | omega | exact inK64 (by omega) (by omega) | exact inKu8 (by omega) (by omega) | (simp only [maxLen]; omega) | exact .inl trivial | exact .inl rfl))
            refine ⟨(k + 1, out ++ [⟨cn, ck, cz⟩]), ⟨by simp only; omega, by simp only [List.length_append, List.length_cons, List.length_nil]; omega, by simp only; exact hrun, ?_⟩, by simp only; omega, Le.st ?_⟩
            · intro c hc
              rcases List.mem_append.1 hc with hc | hc
              · exact hon c hc
              · rw [List.mem_singleton.1 hc]; exact hcn
            (try (push_cast (maxSteps := 1000000)))
            all_goals (first | rfl | (simp; done) | (simp; rfl))
          · rw [if_pos c3] at hrun
            rw [← hrun, if_pos c3] at hF
            subst hF
            (try (push_cast (maxSteps := 1000000) [c3]))
            ((repeat' (with_reducible refine And.intro ?_ ?_)) <;> try (first | trivial | omega | exact inK64 (by omega) (by omega) | exact inKu8 (by omega) (by omega) | (simp only [maxLen]; omega) | exact .inl trivial | exact .inl rfl))
        · have hd : decide ((k : Int) < (ag.length : Int)) = false := decide_eq_false (by omega)
          rw [List.drop_eq_nil_of_le (by omega)] at hrun
          simp only [aggsG] at hrun
          rw [← hrun, if_neg (by simp)] at hF
          simp only at hF
          by_cases h0 : out.length = 0
          · have hh : hedF (namesN out) = (0, 13) := by
              unfold hedF
              rw [if_pos (by simpa [namesN] using h0)]
            rw [hh, if_pos (by simp)] at hF
            subst hF
            (try (push_cast (maxSteps := 1000000) [hd, h0]))
          · have h0' : decide ((out.length : Int) = 0) = false := decide_eq_false (by omega)
            have h97 := names56 out (by simp only [okLen]; omega)
            have h96 := d100 (namesN out) (by simp only [namesN, List.length_map]; omega) (fun n hn => by
              obtain ⟨c, hc, rfl⟩ := List.mem_map.1 hn
              exact hon c hc)
            by_cases c4 : (hedF (namesN out)).2 = 0
            · rw [if_neg (by simp [c4])] at hF
              subst hF
              (try (push_cast (maxSteps := 1000000) [hd, h0']))
              refine ⟨_, h97, rfl, ?_⟩
              (try (push_cast (maxSteps := 1000000)))
              refine ⟨_, h96, rfl, ?_⟩
              (try (push_cast (maxSteps := 1000000) [c4]))
            · rw [if_pos c4] at hF
              subst hF
              (try (push_cast (maxSteps := 1000000) [hd, h0']))
              refine ⟨_, h97, rfl, ?_⟩
              (try (push_cast (maxSteps := 1000000)))
              refine ⟨_, h96, rfl, ?_⟩
              (try (push_cast (maxSteps := 1000000) [c4]))
    · rw [if_pos c2] at hF
      subst hF
      (try (push_cast (maxSteps := 1000000) [c2]))
  · rw [if_pos c1] at hF
    rw [if_pos c1]
    subst hF
    (try (push_cast (maxSteps := 1000000) [c1]))
theorem d127 (n : Int) : Spec V 127 [i2 .i64 n] (.ag ((eV (intV n)).map .d)) := f106 n
theorem d93 (s : ByteArray) (n : Int) : Spec V 93 [s2 s, i2 .i64 n] (.c (.d (.sl 4 ([⟨1, s, 0, false⟩, ⟨2, ByteArray.empty, n, false⟩].map eV)))) := by
  (refine Spec.of_go (L := fun | 0 => some [0, 1] | 1 => some [4] | _ => none) 1000 Go.Proofs.Tryd.func93 rfl rfl ⟨Nat.le_of_ble_eq_true rfl, rfl⟩ rfl ?_; unfold Go.Proofs.Tryd.f93; push_cast (maxSteps := 1000000))
  (try (push_cast (maxSteps := 1000000)))
  all_goals trace_state
