/- Contracts of the functions of the seat, one by one (part DJ); no condition but those that each bears. -/
import Derived.Test.YtfmbjaeppffdpaaDoorD24
import Derived.Test.YtfmbjaeppffdpaaDoorPJb
namespace Go.LS.Tryd
open Go Go.LS
set_option maxRecDepth 100000
set_option linter.unusedSimpArgs false
set_option linter.unusedVariables false

set_option maxHeartbeats 1000000 in
theorem d83 (a b : Tb) (on : List Jo) (x y : List Vl) (ha : okLen a.L) (hb : okLen b.L) (ho : okLen on) (hf : ∀ o ∈ on, foundN a.L o.l ∧ foundN b.L o.r) (hx : x.length = a.L.length) (hy : y.length = b.L.length) :
    Spec V 83 [.ag ((eRT a).map .d), .ag ((eRT b).map .d), .c (.d (.sl 2 (on.map eJo))), .c (.d (.sl 4 (x.map eRV))), .c (.d (.sl 4 (y.map eRV)))] (b2 (matchF a.L b.L on x y)) := by
  obtain ⟨L, A⟩ := a
  obtain ⟨M, B⟩ := b
  simp only at ha hb hf hx hy
  have h69a := names56 L ha
  have h69b := names56 M hb
  have hna : okLen (namesN L) := by simpa [okLen, namesN] using ha
  have hnb : okLen (namesN M) := by simpa [okLen, namesN] using hb
  (refine Spec.of_go (L := fun | 0 => some [2, 3, 4, 5, 6] | 1 => some [3, 4, 5, 6, 15, 16, 17] | 2 => some [3, 4, 5, 6, 15, 16, 17, 18] | 3 => some [3, 4, 5, 6, 12, 15, 16, 17] | 4 => some [3, 4, 5, 6, 13, 14, 15, 16, 17] | 5 => some [3, 4, 5, 6, 15, 16, 17, 46] | 6 => some [10] | 7 => some [3, 4, 5, 6, 15, 16, 17] | 8 => some [10] | _ => none) 1000 Go.Proofs.Tryd.func83 rfl rfl ⟨Nat.le_of_ble_eq_true rfl, rfl⟩ rfl ?_; unfold Go.Proofs.Tryd.f83; push_cast (maxSteps := 1000000))
  refine LoopK.s1 (α := Nat) [17] (fun k => [i2 .i64 k]) (fun k => k ≤ on.length ∧ matchF L M (on.drop k) x y = matchF L M on x y) (fun k => on.length - k) 1000 0 ⟨by omega, rfl⟩ (by (try (push_cast (maxSteps := 1000000)))) ?_
  rintro k ⟨hk, hc⟩
  by_cases hlt : k < on.length
  · have hv := List.getElem?_eq_getElem hlt; have hd : decide ((k : Int) < (on.length : Int)) = true := decide_eq_true (by omega)
    rw [drop_cons hv, match_cons] at hc
    obtain ⟨fl, fr⟩ := hf _ (List.getElem_mem hlt)
    have hoi : (on.map eJo).getD k [] = eJo on[k] := getD_map hv
    generalize on[k] = o at *
    simp only [eJo_eq] at hoi
    have h68a := f55 (namesN L) o.l hna
    have h68b := f55 (namesN M) o.r hnb
    rw [at_place fl] at h68a
    rw [at_place fr] at h68b
    have pl := (find_lt fl).1
    have pr := (find_lt fr).1
    replace pl : placeN L o.l < x.length := by rw [hx]; exact pl
    replace pr : placeN M o.r < y.length := by rw [hy]; exact pr
    have hvx := List.getElem?_eq_getElem pl
    have hvy := List.getElem?_eq_getElem pr
    rw [vAt_get hvx, vAt_get hvy] at hc
    have hxi : (x.map eRV).getD (placeN L o.l) [] = eRV x[placeN L o.l] := getD_map hvx
    have hyi : (y.map eRV).getD (placeN M o.r) [] = eRV y[placeN M o.r] := getD_map hvy
    generalize x[placeN L o.l] = v at *
    generalize y[placeN M o.r] = w at *
    simp only [eRV_eq] at hxi hyi
    generalize placeN L o.l = p at *
    generalize placeN M o.r = q at *
    (try (push_cast (maxSteps := 1000000) [hd, hoi]))
    ((repeat' (with_reducible refine And.intro ?_ ?_)) <;> try (first | trivial | omega | exact inK64 (by omega) (by omega) | exact inKu8 (by omega) (by omega) | (simp only [maxLen]; omega) | exact .inl trivial | exact .inl rfl))
    refine DrawK.cut (.take 0 (.take 1 (.take 2 (.take 4 (.take 5 (.take 9 (.take 10 (.take 11 (.take 13 (.take 14 (.three 3 (.three 6 (.take 7 (.take 8 (.three 12 (.three 15 (.three 16 (.three 17 (.two 18 (.one 19 (.one 20 (.one 21 .done))) 19 (.one 18 (.one 20 (.one 21 .done)))) 18 (.two 17 (.one 19 (.one 20 (.one 21 .done))) 19 (.two 17 (.one 20 (.one 21 .done)) 20 (.take 17 (.one 21 .done)))) 19 (.two 17 (.one 18 (.one 20 (.one 21 .done))) 18 (.two 17 (.one 20 (.one 21 .done)) 20 (.take 17 (.one 21 .done))))) 18 (.two 16 (.two 17 (.one 19 (.one 20 (.one 21 .done))) 19 (.two 17 (.one 20 (.one 21 .done)) 20 (.take 17 (.one 21 .done)))) 19 (.two 16 (.two 17 (.one 20 (.one 21 .done)) 20 (.take 17 (.one 21 .done))) 20 (.take 16 (.take 17 (.one 21 .done))))) 19 (.two 16 (.two 17 (.one 18 (.one 20 (.one 21 .done))) 18 (.two 17 (.one 20 (.one 21 .done)) 20 (.take 17 (.one 21 .done)))) 18 (.two 16 (.two 17 (.one 20 (.one 21 .done)) 20 (.take 17 (.one 21 .done))) 20 (.take 16 (.take 17 (.one 21 .done)))))) 18 (.two 15 (.two 16 (.two 17 (.one 19 (.one 20 (.one 21 .done))) 19 (.two 17 (.one 20 (.one 21 .done)) 20 (.take 17 (.one 21 .done)))) 19 (.two 16 (.two 17 (.one 20 (.one 21 .done)) 20 (.take 17 (.one 21 .done))) 20 (.take 16 (.take 17 (.one 21 .done))))) 19 (.one 15 (.two 16 (.two 17 (.one 20 (.one 21 .done)) 20 (.take 17 (.one 21 .done))) 20 (.take 16 (.take 17 (.one 21 .done)))))) 19 (.two 15 (.two 16 (.two 17 (.one 18 (.one 20 (.one 21 .done))) 18 (.two 17 (.one 20 (.one 21 .done)) 20 (.take 17 (.one 21 .done)))) 18 (.two 16 (.two 17 (.one 20 (.one 21 .done)) 20 (.take 17 (.one 21 .done))) 20 (.take 16 (.take 17 (.one 21 .done))))) 18 (.one 15 (.two 16 (.two 17 (.one 20 (.one 21 .done)) 20 (.take 17 (.one 21 .done))) 20 (.take 16 (.take 17 (.one 21 .done))))))) 18 (.two 12 (.two 15 (.two 16 (.two 17 (.one 19 (.one 20 (.one 21 .done))) 19 (.two 17 (.one 20 (.one 21 .done)) 20 (.take 17 (.one 21 .done)))) 19 (.two 16 (.two 17 (.one 20 (.one 21 .done)) 20 (.take 17 (.one 21 .done))) 20 (.take 16 (.take 17 (.one 21 .done))))) 19 (.one 15 (.two 16 (.two 17 (.one 20 (.one 21 .done)) 20 (.take 17 (.one 21 .done))) 20 (.take 16 (.take 17 (.one 21 .done)))))) 19 (.one 12 (.one 15 (.two 16 (.two 17 (.one 20 (.one 21 .done)) 20 (.take 17 (.one 21 .done))) 20 (.take 16 (.take 17 (.one 21 .done))))))) 19 (.two 12 (.two 15 (.two 16 (.two 17 (.one 18 (.one 20 (.one 21 .done))) 18 (.two 17 (.one 20 (.one 21 .done)) 20 (.take 17 (.one 21 .done)))) 18 (.two 16 (.two 17 (.one 20 (.one 21 .done)) 20 (.take 17 (.one 21 .done))) 20 (.take 16 (.take 17 (.one 21 .done))))) 18 (.one 15 (.two 16 (.two 17 (.one 20 (.one 21 .done)) 20 (.take 17 (.one 21 .done))) 20 (.take 16 (.take 17 (.one 21 .done)))))) 18 (.one 12 (.one 15 (.two 16 (.two 17 (.one 20 (.one 21 .done)) 20 (.take 17 (.one 21 .done))) 20 (.take 16 (.take 17 (.one 21 .done)))))))))) 18 (.two 6 (.take 7 (.take 8 (.two 12 (.two 15 (.two 16 (.two 17 (.one 19 (.one 20 (.one 21 .done))) 19 (.two 17 (.one 20 (.one 21 .done)) 20 (.take 17 (.one 21 .done)))) 19 (.two 16 (.two 17 (.one 20 (.one 21 .done)) 20 (.take 17 (.one 21 .done))) 20 (.take 16 (.take 17 (.one 21 .done))))) 19 (.one 15 (.two 16 (.two 17 (.one 20 (.one 21 .done)) 20 (.take 17 (.one 21 .done))) 20 (.take 16 (.take 17 (.one 21 .done)))))) 19 (.one 12 (.one 15 (.two 16 (.two 17 (.one 20 (.one 21 .done)) 20 (.take 17 (.one 21 .done))) 20 (.take 16 (.take 17 (.one 21 .done))))))))) 19 (.one 6 (.take 7 (.take 8 (.one 12 (.one 15 (.two 16 (.two 17 (.one 20 (.one 21 .done)) 20 (.take 17 (.one 21 .done))) 20 (.take 16 (.take 17 (.one 21 .done)))))))))) 19 (.two 6 (.take 7 (.take 8 (.two 12 (.two 15 (.two 16 (.two 17 (.one 18 (.one 20 (.one 21 .done))) 18 (.two 17 (.one 20 (.one 21 .done)) 20 (.take 17 (.one 21 .done)))) 18 (.two 16 (.two 17 (.one 20 (.one 21 .done)) 20 (.take 17 (.one 21 .done))) 20 (.take 16 (.take 17 (.one 21 .done))))) 18 (.one 15 (.two 16 (.two 17 (.one 20 (.one 21 .done)) 20 (.take 17 (.one 21 .done))) 20 (.take 16 (.take 17 (.one 21 .done)))))) 18 (.one 12 (.one 15 (.two 16 (.two 17 (.one 20 (.one 21 .done)) 20 (.take 17 (.one 21 .done))) 20 (.take 16 (.take 17 (.one 21 .done))))))))) 18 (.one 6 (.take 7 (.take 8 (.one 12 (.one 15 (.two 16 (.two 17 (.one 20 (.one 21 .done)) 20 (.take 17 (.one 21 .done))) 20 (.take 16 (.take 17 (.one 21 .done))))))))))) 18 (.two 3 (.two 6 (.take 7 (.take 8 (.two 12 (.two 15 (.two 16 (.two 17 (.one 19 (.one 20 (.one 21 .done))) 19 (.two 17 (.one 20 (.one 21 .done)) 20 (.take 17 (.one 21 .done)))) 19 (.two 16 (.two 17 (.one 20 (.one 21 .done)) 20 (.take 17 (.one 21 .done))) 20 (.take 16 (.take 17 (.one 21 .done))))) 19 (.one 15 (.two 16 (.two 17 (.one 20 (.one 21 .done)) 20 (.take 17 (.one 21 .done))) 20 (.take 16 (.take 17 (.one 21 .done)))))) 19 (.one 12 (.one 15 (.two 16 (.two 17 (.one 20 (.one 21 .done)) 20 (.take 17 (.one 21 .done))) 20 (.take 16 (.take 17 (.one 21 .done))))))))) 19 (.one 6 (.take 7 (.take 8 (.one 12 (.one 15 (.two 16 (.two 17 (.one 20 (.one 21 .done)) 20 (.take 17 (.one 21 .done))) 20 (.take 16 (.take 17 (.one 21 .done)))))))))) 19 (.one 3 (.one 6 (.take 7 (.take 8 (.one 12 (.one 15 (.two 16 (.two 17 (.one 20 (.one 21 .done)) 20 (.take 17 (.one 21 .done))) 20 (.take 16 (.take 17 (.one 21 .done))))))))))) 19 (.two 3 (.two 6 (.take 7 (.take 8 (.two 12 (.two 15 (.two 16 (.two 17 (.one 18 (.one 20 (.one 21 .done))) 18 (.two 17 (.one 20 (.one 21 .done)) 20 (.take 17 (.one 21 .done)))) 18 (.two 16 (.two 17 (.one 20 (.one 21 .done)) 20 (.take 17 (.one 21 .done))) 20 (.take 16 (.take 17 (.one 21 .done))))) 18 (.one 15 (.two 16 (.two 17 (.one 20 (.one 21 .done)) 20 (.take 17 (.one 21 .done))) 20 (.take 16 (.take 17 (.one 21 .done)))))) 18 (.one 12 (.one 15 (.two 16 (.two 17 (.one 20 (.one 21 .done)) 20 (.take 17 (.one 21 .done))) 20 (.take 16 (.take 17 (.one 21 .done))))))))) 18 (.one 6 (.take 7 (.take 8 (.one 12 (.one 15 (.two 16 (.two 17 (.one 20 (.one 21 .done)) 20 (.take 17 (.one 21 .done))) 20 (.take 16 (.take 17 (.one 21 .done)))))))))) 18 (.one 3 (.one 6 (.take 7 (.take 8 (.one 12 (.one 15 (.two 16 (.two 17 (.one 20 (.one 21 .done)) 20 (.take 17 (.one 21 .done))) 20 (.take 16 (.take 17 (.one 21 .done)))))))))))))))))))))) 1000 (by decide +kernel) ⟨[(13, .c (.d (.at_ [.v (.int .i64 v.k), .v (.string v.s), .v (.int .i64 v.n), .v (.int .i64 (bi v.b))]))), (14, .c (.d (.at_ [.v (.int .i64 w.k), .v (.string w.s), .v (.int .i64 w.n), .v (.int .i64 (bi w.b))]))), (17, i2 .i64 k), (16, i2 .i64 on.length), (15, .c (.d (.sl 2 (on.map eJo)))), (3, .c (.d (.sl 4 (x.map eRV)))), (4, .c (.d (.sl 4 (y.map eRV)))), (5, .c (.op 0 0)), (6, .c (.op 1 0))], [.bx 39 [.d (.sl 3 (L.map eRC)), .d (.sl 1 (A.map eRR))], .bx 39 [.d (.sl 3 (M.map eRC)), .d (.sl 1 (B.map eRR))]]⟩ ?_ ?_
    · (try (push_cast (maxSteps := 1000000) [hxi, hyi]))
      ((repeat' (with_reducible refine And.intro ?_ ?_)) <;> try (first | trivial | omega | exact inK64 (by omega) (by omega) | exact inKu8 (by omega) (by omega) | (simp only [maxLen]; omega) | exact .inl trivial | exact .inl rfl))
      all_goals (refine ⟨_, h69a, rfl, ?_⟩)
      all_goals (try (push_cast (maxSteps := 1000000) [hxi, hyi]))
      all_goals ((repeat' (with_reducible refine And.intro ?_ ?_)) <;> try (first | trivial | omega | exact inK64 (by omega) (by omega) | exact inKu8 (by omega) (by omega) | (simp only [maxLen]; omega) | exact .inl trivial | exact .inl rfl))
      all_goals (refine ⟨_, h68a, rfl, ?_⟩)
      all_goals (try (push_cast (maxSteps := 1000000) [hxi, hyi]))
      all_goals ((repeat' (with_reducible refine And.intro ?_ ?_)) <;> try (first | trivial | omega | exact inK64 (by omega) (by omega) | exact inKu8 (by omega) (by omega) | (simp only [maxLen]; omega) | exact .inl trivial | exact .inl rfl))
      all_goals (refine ⟨_, h69b, rfl, ?_⟩)
      all_goals (try (push_cast (maxSteps := 1000000) [hxi, hyi]))
      all_goals ((repeat' (with_reducible refine And.intro ?_ ?_)) <;> try (first | trivial | omega | exact inK64 (by omega) (by omega) | exact inKu8 (by omega) (by omega) | (simp only [maxLen]; omega) | exact .inl trivial | exact .inl rfl))
      all_goals (refine ⟨_, h68b, rfl, ?_⟩)
      all_goals (try (push_cast (maxSteps := 1000000) [hxi, hyi]))
      all_goals ((repeat' (with_reducible refine And.intro ?_ ?_)) <;> try (first | trivial | omega | exact inK64 (by omega) (by omega) | exact inKu8 (by omega) (by omega) | (simp only [maxLen]; omega) | exact .inl trivial | exact .inl rfl))
      all_goals (refine Le.frz [3, 4] ?_)
      all_goals (try (push_cast (maxSteps := 1000000)))
      all_goals rfl
    have hsv : sameV v w = (decide (v.k = w.k) && (decide (v.s = w.s) && (decide (v.n = w.n) && decide (bi v.b = bi w.b)))) := rfl
    by_cases k0 : v.k = 0
    · rw [decide_eq_true k0, Bool.not_true, Bool.false_and, Bool.false_and] at hc
      rw [← hc]
      (try (push_cast (maxSteps := 1000000) [k0]))
    · rw [decide_eq_false k0, Bool.not_false, Bool.true_and] at hc
      (try (push_cast (maxSteps := 1000000) [k0]))
      rw [← hsv]
      cases hs : sameV v w with
      | false =>
        rw [hs, Bool.false_and] at hc
        rw [← hc]
        (try (push_cast (maxSteps := 1000000)))
      | true =>
        rw [hs, Bool.true_and] at hc
        (try (push_cast (maxSteps := 1000000)))
        ((repeat' (with_reducible refine And.intro ?_ ?_)) <;> try (first | trivial | omega | exact inK64 (by omega) (by omega) | exact inKu8 (by omega) (by omega) | (simp only [maxLen]; omega) | exact .inl trivial | exact .inl rfl))
        refine ⟨k + 1, ⟨by omega, hc⟩, by omega, Le.st ?_⟩
        (try (push_cast (maxSteps := 1000000))); (all_goals first | rfl | skip)
  · have hd : decide ((k : Int) < (on.length : Int)) = false := decide_eq_false (by omega)
    rw [List.drop_eq_nil_of_le (by omega)] at hc
    (try (push_cast (maxSteps := 1000000) [hd]))
    exact hc
end Go.LS.Tryd
