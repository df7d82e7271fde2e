/- Contracts of the functions of the seat, one by one (part D6); no condition but those that each bears. -/
import Derived.Test.YtfmbjaeppffdpaaDoorD5
import Derived.Test.YtfmbjaeppffdpaaDoorPD
namespace Go.LS.Tryd
open Go Go.LS
set_option maxRecDepth 100000
set_option linter.unusedSimpArgs false
set_option linter.unusedVariables false

theorem same29 (l m : List Vl) (hl : okLen l) (hm : okLen m) : Spec V 29 [.c (.d (.sl 4 (l.map eRV))), .c (.d (.sl 4 (m.map eRV)))] (b2 (sameR l m)) := f59 l m hl hm
theorem d74 (a b : Ch) (ha : okR2 a.o ∧ okR2 a.n) (hb : okR2 b.o ∧ okR2 b.n) : Spec V 74 [.ag ((eRCh a).map .d), .ag ((eRCh b).map .d)] (b2 (oneC a b)) := by
  have h1 := same29 a.o b.o ha.1.1 hb.1.1
  have h2 := same29 a.n b.n ha.2.1 hb.2.1
  unfold oneC
  (refine Spec.of_go (L := fun | 0 => some [2, 3] | 1 => some [4] | _ => none) 1000 Go.Proofs.Tryd.func74 rfl rfl ⟨Nat.le_of_ble_eq_true rfl, rfl⟩ rfl ?_; unfold Go.Proofs.Tryd.f74; push_cast (maxSteps := 1000000))
  cases hk : decide (a.k = b.k) with
  | false => (try (push_cast (maxSteps := 1000000)))
  | true =>
    (try (push_cast (maxSteps := 1000000)))
    refine ⟨_, h1, rfl, ?_⟩
    (try (push_cast (maxSteps := 1000000)))
    cases ho : sameR a.o b.o with
    | false => (try (push_cast (maxSteps := 1000000)))
    | true =>
      (try (push_cast (maxSteps := 1000000)))
      refine ⟨_, h2, rfl, ?_⟩
      (try (push_cast (maxSteps := 1000000)))
theorem d24 (l m : List Ch) (hl : okChs l) (hm : okChs m) : Spec V 24 [.c (.d (.sl 3 (l.map eRCh))), .c (.d (.sl 3 (m.map eRCh)))] (b2 (oneCs l m)) := by
  have hll : l.length ≤ 1099511627776 := hl.1
  unfold oneCs
  (refine Spec.of_go (L := fun | 0 => some [0, 1] | 1 => some [0, 1, 10] | 2 => some [4] | 3 => some [0, 1, 12, 13] | 4 => some [0, 1, 12, 13, 14] | 5 => some [0, 1, 5, 12, 13] | 6 => some [0, 1, 12, 13, 25] | 7 => some [4] | 8 => some [0, 1, 12, 13] | 9 => some [4] | _ => none) 1000 Go.Proofs.Tryd.func24 rfl rfl ⟨Nat.le_of_ble_eq_true rfl, rfl⟩ rfl ?_; unfold Go.Proofs.Tryd.f24; push_cast (maxSteps := 1000000))
  refine BrP.mk (fun h => ?_) (fun h => ?_) <;> try (push_cast (maxSteps := 1000000) [h])
  · have : ¬ l.length = m.length := by simp at h; omega
    simp [this]
  · have hlm : l.length = m.length := by simp at h; omega
    simp only [hlm, decide_true, Bool.true_and]
    refine LoopK.s1 (α := Nat) [13] (fun k => [i2 .i64 k]) (fun k => k ≤ l.length ∧ oneCL (l.drop k) (m.drop k) = oneCL l m) (fun k => l.length - k) 1000 0 ⟨by omega, rfl⟩ (by (try (push_cast (maxSteps := 1000000)))) ?_
    rintro k ⟨hk, hc⟩
    by_cases hlt : k < l.length
    · have hv := List.getElem?_eq_getElem hlt
      have hlt2 : k < m.length := by omega
      have hv2 := List.getElem?_eq_getElem hlt2
      have hd : decide ((k : Int) < (m.length : Int)) = true := decide_eq_true (by omega)
      rw [drop_cons hv, drop_cons hv2] at hc; simp only [oneCL] at hc
      have h74 := d74 l[k] m[k] (hl.2 _ (List.getElem_mem hlt)) (hm.2 _ (List.getElem_mem hlt2))
      simp only [eRCh_eq, List.map_cons, List.map_nil] at h74
      (try (push_cast (maxSteps := 1000000) [hd, getD_map hv, getD_map hv2]))
      (refine DrawK.of (.take 0 (.take 1 (.take 2 (.take 3 (.take 4 (.take 5 (.take 6 (.take 7 (.one 8 (.take 9 .done)))))))))) 1000 (by decide +kernel) ?_; try (push_cast (maxSteps := 1000000)))
      (try (push_cast (maxSteps := 1000000) [hd, getD_map hv, getD_map hv2]))
      ((repeat' (with_reducible refine And.intro ?_ ?_)) <;> try (first | trivial | omega | exact inK64 (by omega) (by omega) | exact inKu8 (by omega) (by omega) | (simp only [maxLen]; omega) | exact .inl trivial | exact .inl rfl))
      refine ⟨_, h74, rfl, ?_⟩
      (try (push_cast (maxSteps := 1000000)))
      refine BrP.mk (fun h => ?_) (fun h => ?_) <;> try (push_cast (maxSteps := 1000000) [h])
      · rw [if_pos (by simpa using h)] at hc
        exact hc
      · rw [if_neg (by simpa using h)] at hc
        ((repeat' (with_reducible refine And.intro ?_ ?_)) <;> try (first | trivial | omega | exact inK64 (by omega) (by omega) | exact inKu8 (by omega) (by omega) | (simp only [maxLen]; omega) | exact .inl trivial | exact .inl rfl))
        refine ⟨k + 1, ⟨by omega, hc⟩, by omega, Le.st ?_⟩
        (try (push_cast (maxSteps := 1000000)))
    · have hd : decide ((k : Int) < (m.length : Int)) = false := decide_eq_false (by omega)
      rw [List.drop_eq_nil_of_le (by omega)] at hc; simp only [oneCL] at hc
      (try (push_cast (maxSteps := 1000000) [hd]))
      exact hc
theorem d25 (l : List Ch) (hl : okChs l) (hn : l.length ≤ 100000) : Spec V 25 [.c (.d (.sl 3 (l.map eCh)))] (.c (.d (.sl 3 (l.map eRCh)))) := by
  (refine Spec.of_go (L := fun | 0 => some [0] | 1 => some [0, 3] | 2 => some [3, 6, 7, 8] | 3 => some [3, 6, 7, 8, 9] | 4 => some [3, 5, 6, 7, 8] | 5 => some [3, 6, 7, 8] | 6 => some [3, 6, 7, 8] | 7 => some [2] | _ => none) 1000 Go.Proofs.Tryd.func25 rfl rfl ⟨Nat.le_of_ble_eq_true rfl, rfl⟩ rfl ?_; unfold Go.Proofs.Tryd.f25; push_cast (maxSteps := 1000000))
  refine LoopK.le (Le.nil 3 134 3 (by decide) (by (try (push_cast (maxSteps := 1000000))))) ?_
  (try (push_cast (maxSteps := 1000000)))
  refine LoopK.ov (α := Nat) [8] (fun k => [i2 .i64 k]) (fun k => [.rw 134 3 ((l.take k).map eRCh)]) (fun k => k ≤ l.length) (fun k => l.length - k) 1000 0 (by omega) (by (try (push_cast (maxSteps := 1000000)))) ?_
  rintro k hk
  by_cases hlt : k < l.length
  · have hv := List.getElem?_eq_getElem hlt; have hd : decide ((k : Int) < (l.length : Int)) = true := decide_eq_true (by omega)
    have hok := hl.2 _ (List.getElem_mem hlt)
    have htk : l.take (k + 1) = l.take k ++ [l[k]] := by rw [List.take_add_one, hv]; rfl
    have hpk : (l.take k).length = k := by rw [List.length_take]; omega
    generalize l[k] = c at *
    have h1 := f24 c.o hok.1.1
    have h2 := f24 c.n hok.2.1
    (try (push_cast (maxSteps := 1000000) [hd, getD_map hv]))
    ((repeat' (with_reducible refine And.intro ?_ ?_)) <;> try (first | trivial | omega | exact inK64 (by omega) (by omega) | exact inKu8 (by omega) (by omega) | (simp only [maxLen]; omega) | exact .inl trivial | exact .inl rfl))
    (refine DrawK.of (.take 0 (.take 1 (.take 2 (.take 3 (.take 4 (.take 6 (.take 7 (.one 5 (.one 8 (.take 9 (.one 10 (.one 11 (.one 12 .done))))))))))))) 1000 (by decide +kernel) ?_; try (push_cast (maxSteps := 1000000)))
    ((repeat' (with_reducible refine And.intro ?_ ?_)) <;> try (first | trivial | omega | exact inK64 (by omega) (by omega) | exact inKu8 (by omega) (by omega) | (simp only [maxLen]; omega) | exact .inl trivial | exact .inl rfl))
    refine ⟨_, h1, rfl, ?_⟩
    (try (push_cast (maxSteps := 1000000)))
    refine ⟨_, h2, rfl, ?_⟩
    (try (push_cast (maxSteps := 1000000)))
    ((repeat' (with_reducible refine And.intro ?_ ?_)) <;> try (first | trivial | omega | exact inK64 (by omega) (by omega) | exact inKu8 (by omega) (by omega) | (simp only [maxLen]; omega) | exact .inl trivial | exact .inl rfl))
    refine ⟨k + 1, by omega, by omega, Le.st ?_⟩
    rw [htk]
    (try (push_cast (maxSteps := 1000000))); (all_goals first | rfl | skip)
    all_goals (first | (simp; done) | (simp; rfl))
  · have hd : decide ((k : Int) < (l.length : Int)) = false := decide_eq_false (by omega)
    (try (push_cast (maxSteps := 1000000) [hd]))
    rw [List.take_of_length_le (by omega)]
end Go.LS.Tryd
