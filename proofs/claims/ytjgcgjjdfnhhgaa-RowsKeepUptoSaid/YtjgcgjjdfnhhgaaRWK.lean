/- Contracts of the functions of the seat, one by one (part RWK); no condition but those that each bears. -/
import Derived.Test.YtjgcgjjdfnhhgaaRWT
namespace Go.LS.Tryr
open Go Go.LS
set_option maxRecDepth 100000
set_option maxHeartbeats 4000000
set_option linter.unusedVariables false
set_option linter.unusedSimpArgs false
set_option linter.unusedVariables false

theorem tw_step {p : Int → Bool} : ∀ {l : List Int} {k : Nat} {x : Int}, l[k]? = some x → k ≤ (l.takeWhile p).length → (p x = true → k + 1 ≤ (l.takeWhile p).length) ∧ (p x = false → k = (l.takeWhile p).length)
  | [], k, x, h, _ => by simp at h
  | a :: l, 0, x, h, _ => by
    simp only [List.getElem?_cons_zero, Option.some.injEq] at h
    subst h
    refine ⟨fun h => ?_, fun h => ?_⟩ <;> simp [List.takeWhile_cons, h]
  | a :: l, k + 1, x, h, hk => by
    rw [List.takeWhile_cons] at hk ⊢
    cases ha : p a with
    | false => rw [ha] at hk; simp at hk
    | true =>
      rw [ha] at hk
      simp only [if_true, List.length_cons] at hk ⊢
      have := tw_step (p := p) (l := l) (k := k) (x := x) (by simpa using h) (by omega)
      exact ⟨fun h => by have := this.1 h; omega, fun h => by have := this.2 h; omega⟩
theorem tw_le (p : Int → Bool) (l : List Int) : (l.takeWhile p).length ≤ l.length := (List.takeWhile_sublist p).length_le

theorem f4 (l : List Int) (k r : Int) (hlen : l.length ≤ 1048576) (hl : ∀ x ∈ l, inK .i64 x) (hk : inK .u8 k) (hr : inK .u8 r) : SpecG V 4 [.c (.d (rowD l)), .c (.d (.v (.int .u8 k))), .c (.d (.v (.int .u8 r)))] Gh.emp fun r _ => r = bL true := by
  (refine SpecG.of_go V_G (L := fun | 0 => some [0, 1, 2] | 1 => some [0, 1, 2, 18] | 2 => some [6] | 3 => some [0, 2, 7] | 4 => some [0, 7, 8] | 5 => some [0, 7, 8, 9] | 6 => some [0, 9, 10] | 7 => some [0, 9, 10, 11] | 8 => some [0, 9, 10, 11, 44] | 9 => some [0, 9, 10, 11] | 10 => some [0, 9, 10, 11, 12] | 11 => some [0, 9, 10, 11, 12, 13] | 12 => some [0, 9, 10, 11, 13, 58] | 13 => some [6] | 14 => some [0, 9, 10, 11, 13, 14] | 15 => some [0, 9, 10, 11, 13, 14, 68] | 16 => some [6] | 17 => some [0, 9, 10, 11, 13, 14, 70, 71] | 18 => some [0, 9, 10, 11, 13, 14, 70, 71, 72] | 19 => some [0, 9, 10, 11, 13, 14, 15, 70, 71] | 20 => some [0, 9, 10, 11, 13, 14, 70, 71, 84] | 21 => some [6] | 22 => some [0, 9, 10, 11, 13, 14, 70, 71] | 23 => some [6] | _ => none) 1000 Go.Proofs.Try.func4 rfl rfl ⟨Nat.le_of_ble_eq_true rfl, rfl⟩ ?_; unfold Go.Proofs.Try.f4; push_cast (maxSteps := 1000000))
  by_cases hl1 : 100 < l.length
  · have hd : decide (100 < (l.length : Int)) = true := decide_eq_true (by omega)
    (try (push_cast (maxSteps := 1000000) [hd]))
    (refine .inr ⟨_, f7, rfl, ?_⟩)
    rintro r G' ⟨rfl, hG⟩
    (try (push_cast (maxSteps := 1000000)))
    exact res_of (bL true) rfl rfl ⟨⟨trivial, trivial⟩, rfl⟩
  · have hd : decide (100 < (l.length : Int)) = false := decide_eq_false (by omega)
    have hk1 : 0 ≤ k ∧ k ≤ 255 := hk
    have hr1 : 0 ≤ r ∧ r ≤ 255 := hr
    have e1 : k.tmod 9 = k % 9 := Int.tmod_eq_emod_of_nonneg hk1.1
    have hb1 : 1 ≤ k.tmod 9 + 1 := by omega
    have hb2 : k.tmod 9 + 1 ≤ 9 := by omega
    (try (push_cast (maxSteps := 1000000) [hd]))
    generalize k.tmod 9 + 1 = by_ at *
    have e2 : r.tmod by_ = r % by_ := Int.tmod_eq_emod_of_nonneg hr1.1
    generalize r.tmod by_ = rest at *
    ((repeat' (with_reducible refine And.intro ?_ ?_)) <;> try (first | trivial | omega | exact inK64 (by omega) (by omega) | exact inKu8 (by omega) (by omega) | (simp only [maxLen]; omega) | exact .inl trivial | exact .inl rfl))
    refine .inl ⟨_, f14 l by_ rest hl (by omega) (by omega) (by omega), rfl, ?_⟩
    (try (push_cast (maxSteps := 1000000)))
    generalize hp : keepP by_ rest = p at *
    have c12 : ∀ x ∈ l, Spec V 12 [nL x, .c (.d (.at_ [.v (.int .i64 by_)])), .c (.d (.at_ [.v (.int .i64 rest)]))] (bL (p x)) := fun x hx => by rw [← hp]; exact f12 x by_ rest (hl x hx) (by omega) (by omega)
    generalize hw : (l.takeWhile p).length = w at *
    have hwl : w ≤ l.length := by rw [← hw]; exact tw_le p l
    refine LoopG.ov V_G (α := Nat) [11] (fun k => [nL k]) (fun _ => [.dead, .dead, .bx 35 [.d (.clo 12 [.at_ [.v (.int .i64 by_)], .at_ [.v (.int .i64 rest)]])]]) (fun _ => Gh.emp) (fun k => k ≤ w) (fun k => l.length - k) 1000 0 (by omega) (Ent.refl _) (by (try (push_cast (maxSteps := 1000000)))) ?_
    intro k hkw
    (try (push_cast (maxSteps := 1000000)))
    refine DrawG.cut V_G (.take 0 (.one 1 (.one 2 (.one 3 (.one 4 (.take 6 (.take 7 (.two 5 (.one 8 (.one 9 (.one 10 (.one 11 .done)))) 8 (.two 5 (.one 9 (.one 10 (.one 11 .done))) 9 (.one 5 (.one 10 (.one 11 .done)))))))))))) 1000 (by decide +kernel) ⟨[(44, bL (decide (k < w))), (11, nL k), (10, .c (.d (rowD (l.filter p)))), (9, .c (.op 2 0)), (0, .c (.d (rowD l)))], [.dead, .dead, .bx 35 [.d (.clo 12 [.at_ [.v (.int .i64 by_)], .at_ [.v (.int .i64 rest)]])]]⟩ Gh.emp ?_ ?_
    · by_cases hlt : k < l.length
      · have hv := List.getElem?_eq_getElem hlt; have hd : decide ((k : Int) < (l.length : Int)) = true := decide_eq_true (by omega)
        have hts := tw_step (p := p) hv (by rw [hw]; exact hkw)
        have hpw : p l[k] = decide (k < w) := by
          cases hpx : p l[k] with
          | true => have := hts.1 hpx; symm; exact decide_eq_true (by omega)
          | false => have := hts.2 hpx; symm; exact decide_eq_false (by omega)
        have c := c12 _ (List.getElem_mem hlt)
        rw [hpw] at c
        (try (push_cast (maxSteps := 1000000) [hd, getD_map hv]))
        ((repeat' (with_reducible refine And.intro ?_ ?_)) <;> try (first | trivial | omega | exact inK64 (by omega) (by omega) | exact inKu8 (by omega) (by omega) | (simp only [maxLen]; omega) | exact .inl trivial | exact .inl rfl))
        all_goals (refine .inl ⟨_, c, rfl, ?_⟩; (try (push_cast (maxSteps := 1000000))); refine ⟨Le.st ?_, Ent.refl _⟩; (try (push_cast (maxSteps := 1000000))); try rfl)
      · have hd : decide ((k : Int) < (l.length : Int)) = false := decide_eq_false (by omega)
        have hdw : decide (k < w) = false := decide_eq_false (by omega)
        (try (push_cast (maxSteps := 1000000) [hd, hdw]))
        ((repeat' (with_reducible refine And.intro ?_ ?_)) <;> try (first | trivial | omega | exact inK64 (by omega) (by omega) | exact inKu8 (by omega) (by omega) | (simp only [maxLen]; omega) | exact .inl trivial | exact .inl rfl))
        all_goals (refine ⟨Le.st ?_, Ent.refl _⟩; (try (push_cast (maxSteps := 1000000))); try rfl)
    · (try (push_cast (maxSteps := 1000000)))
      by_cases hkw2 : k < w
      · have hdw : decide (k < w) = true := decide_eq_true hkw2
        (try (push_cast (maxSteps := 1000000) [hdw]))
        (repeat ((with_reducible refine And.intro ?_ ?_); focus (first | trivial | omega | exact inK64 (by omega) (by omega) | exact inKu8 (by omega) (by omega))))
        refine ⟨k + 1, by omega, by omega, Le.st ?_, Ent.refl _⟩
        (try (push_cast (maxSteps := 1000000)))
        try rfl
      · have hdw : decide (k < w) = false := decide_eq_false hkw2
        obtain rfl : k = w := by omega
        (try (push_cast (maxSteps := 1000000) [hdw]))
        refine DrawG.gho 3 3 [.v (.int .i64 0)] rfl fun u => ?_
        (try (push_cast (maxSteps := 1000000)))
        have hit := f35 (fp := 12) (cs := [.at_ [.v (.int .i64 by_)], .at_ [.v (.int .i64 rest)]]) (p := p) (f36 l u 0 (by omega) (by omega) (by omega)) c12 (by omega)
        have htw : l.takeWhile p = l.take k := by
          have := List.prefix_iff_eq_take.1 (List.takeWhile_prefix p (l := l))
          rw [hw] at this
          exact this
        have hask : (if k < l.length then Gh.box u 3 (nD (0 + k + 1)) else Gh.box u 3 (nD (0 + l.length))) = Gh.box u 3 (nD (min ((k : Int) + 1) (l.length : Int))) := by
          split
          · rw [show (0 : Int) + k + 1 = min ((k : Int) + 1) (l.length : Int) by omega]
          · rw [show (0 : Int) + l.length = min ((k : Int) + 1) (l.length : Int) by omega]
        rw [hw, hask, htw] at hit
        have hfi := first_all hit (by rw [List.length_take]; omega)
        refine DrawG.cut V_G (.take 0 (.two 1 (.one 2 (.one 3 (.one 4 (.one 5 .done)))) 2 (.one 1 (.one 3 (.one 4 (.one 5 .done)))))) 1000 (by decide +kernel) ⟨[(13, .c (.d (rowD (l.take k)))), (12, .c (.d (.v u))), (11, nL k), (10, .c (.d (rowD (l.filter p)))), (9, .c (.op 2 0)), (0, .c (.d (rowD l)))], [.dead, .dead, .bx 35 [.d (.clo 12 [.at_ [.v (.int .i64 by_)], .at_ [.v (.int .i64 rest)]])], .dead]⟩ (Gh.box u 3 (nD (min ((k : Int) + 1) (l.length : Int)))) ?_ ?_
        · (try (push_cast (maxSteps := 1000000)))
          ((repeat' (with_reducible refine And.intro ?_ ?_)) <;> try (first | trivial | omega | exact inK64 (by omega) (by omega) | exact inKu8 (by omega) (by omega) | (simp only [maxLen]; omega) | exact .inl trivial | exact .inl rfl))
          · refine .inr (.inl ⟨_, f17 l u, rfl, ?_⟩)
            (try (push_cast (maxSteps := 1000000)))
            (refine .inl ⟨_, f16 _ (.clo 12 [.at_ [.v (.int .i64 by_)], .at_ [.v (.int .i64 rest)]]), rfl, ?_⟩; try (push_cast (maxSteps := 1000000)))
            (refine .inr ⟨_, hfi.conseq (emp_sep' _), rfl, ?_⟩)
            rintro r G' ⟨rfl, hG⟩
            (try (push_cast (maxSteps := 1000000)))
            refine ⟨Le.st ?_, hG⟩
            (try (push_cast (maxSteps := 1000000)))
            try rfl
          · refine .inr (.inl ⟨_, f17 l u, rfl, ?_⟩)
            (try (push_cast (maxSteps := 1000000)))
            (refine .inl ⟨_, f16 _ (.clo 12 [.at_ [.v (.int .i64 by_)], .at_ [.v (.int .i64 rest)]]), rfl, ?_⟩; try (push_cast (maxSteps := 1000000)))
            (refine .inr ⟨_, hfi.conseq (emp_sep' _), rfl, ?_⟩)
            rintro r G' ⟨rfl, hG⟩
            (try (push_cast (maxSteps := 1000000)))
            refine ⟨Le.st ?_, hG⟩
            (try (push_cast (maxSteps := 1000000)))
            try rfl
        · (try (push_cast (maxSteps := 1000000)))
          have hmin : decide (min ((k : Int) + 1) (l.length : Int) = min ((k : Int) + 1) (l.length : Int)) = true := decide_eq_true rfl
          refine ⟨3, .i64, _, Gh.emp, sep_emp' _, ⟨_, T3, rfl⟩, ?_⟩
          (try (push_cast (maxSteps := 1000000) [hmin]))
          refine ⟨inK64 (by omega) (by omega), ?_⟩
          have hit2 : IterT V (.clo 37 [.at_ [.clo 34 [.at_ [rowD l]]], .at_ [.clo 20 [.at_ [.clo 12 [.at_ [.v (.int .i64 by_)], .at_ [.v (.int .i64 rest)]]]]]]) ((l.map p).map bL) Gh.emp (fun _ => Gh.emp) Gh.emp := by
            rw [List.map_map]
            exact f37 (o := fun x => .bool (p x)) (f34 l (by omega)) (fun x hx => f20 x p (fp := 12) (cs := [.at_ [.v (.int .i64 by_)], .at_ [.v (.int .i64 rest)]]) (c12 x hx)) (by omega)
          have hco := f18 hit2 (by rw [List.length_map]; omega)
          (refine .inl ⟨_, f10 l, rfl, ?_⟩; try (push_cast (maxSteps := 1000000)))
          (refine .inl ⟨_, f19 (.clo 34 [.at_ [rowD l]]) (.clo 20 [.at_ [.clo 12 [.at_ [.v (.int .i64 by_)], .at_ [.v (.int .i64 rest)]]]]), rfl, ?_⟩; try (push_cast (maxSteps := 1000000)))
          (refine .inr ⟨_, beside hco, rfl, ?_⟩)
          rintro r G' ⟨rfl, hG⟩
          (try (push_cast (maxSteps := 1000000)))
          refine LoopG.ov V_G (α := Nat) [71] (fun k => [nL k]) (fun _ => [.dead, .dead, .dead, .dead]) (fun _ => G') (fun k => k ≤ l.length) (fun k => l.length - k) 1000 0 (by omega) (Ent.refl _) (by (try (push_cast (maxSteps := 1000000)))) ?_
          intro j hj
          by_cases hlt : j < l.length
          · have hv := List.getElem?_eq_getElem hlt; have hd : decide ((j : Int) < (l.length : Int)) = true := decide_eq_true (by omega)
            have hv2 : (l.map p)[j]? = some (p l[j]) := by rw [List.getElem?_map, hv]; rfl
            have c := c12 _ (List.getElem_mem hlt)
            (try (push_cast (maxSteps := 1000000) [hd]))
            refine DrawG.cut V_G (.take 0 (.take 1 (.take 5 (.take 6 (.three 2 (.three 3 (.two 4 (.one 7 (.one 8 (.one 9 (.one 10 .done)))) 7 (.two 4 (.one 8 (.one 9 (.one 10 .done))) 8 (.one 4 (.one 9 (.one 10 .done))))) 4 (.two 3 (.one 7 (.one 8 (.one 9 (.one 10 .done)))) 7 (.two 3 (.one 8 (.one 9 (.one 10 .done))) 8 (.two 3 (.one 9 (.one 10 .done)) 9 (.one 3 (.one 10 .done))))) 7 (.three 3 (.two 4 (.one 8 (.one 9 (.one 10 .done))) 8 (.one 4 (.one 9 (.one 10 .done)))) 4 (.two 3 (.one 8 (.one 9 (.one 10 .done))) 8 (.two 3 (.one 9 (.one 10 .done)) 9 (.one 3 (.one 10 .done)))) 8 (.two 3 (.one 4 (.one 9 (.one 10 .done))) 4 (.two 3 (.one 9 (.one 10 .done)) 9 (.one 3 (.one 10 .done)))))) 4 (.two 2 (.two 3 (.one 7 (.one 8 (.one 9 (.one 10 .done)))) 7 (.two 3 (.one 8 (.one 9 (.one 10 .done))) 8 (.two 3 (.one 9 (.one 10 .done)) 9 (.one 3 (.one 10 .done))))) 7 (.two 2 (.two 3 (.one 8 (.one 9 (.one 10 .done))) 8 (.two 3 (.one 9 (.one 10 .done)) 9 (.one 3 (.one 10 .done)))) 8 (.two 2 (.two 3 (.one 9 (.one 10 .done)) 9 (.one 3 (.one 10 .done))) 9 (.one 2 (.one 3 (.one 10 .done)))))) 7 (.three 2 (.three 3 (.two 4 (.one 8 (.one 9 (.one 10 .done))) 8 (.one 4 (.one 9 (.one 10 .done)))) 4 (.two 3 (.one 8 (.one 9 (.one 10 .done))) 8 (.two 3 (.one 9 (.one 10 .done)) 9 (.one 3 (.one 10 .done)))) 8 (.two 3 (.one 4 (.one 9 (.one 10 .done))) 4 (.two 3 (.one 9 (.one 10 .done)) 9 (.one 3 (.one 10 .done))))) 4 (.two 2 (.two 3 (.one 8 (.one 9 (.one 10 .done))) 8 (.two 3 (.one 9 (.one 10 .done)) 9 (.one 3 (.one 10 .done)))) 8 (.two 2 (.two 3 (.one 9 (.one 10 .done)) 9 (.one 3 (.one 10 .done))) 9 (.one 2 (.one 3 (.one 10 .done))))) 8 (.two 2 (.two 3 (.one 4 (.one 9 (.one 10 .done))) 4 (.two 3 (.one 9 (.one 10 .done)) 9 (.one 3 (.one 10 .done)))) 4 (.two 2 (.two 3 (.one 9 (.one 10 .done)) 9 (.one 3 (.one 10 .done))) 9 (.one 2 (.one 3 (.one 10 .done))))))))))) 1000 (by decide +kernel) ⟨[(84, bL false), (71, nL j), (70, nL l.length), (14, .c (.d (.sl 1 ((l.map p).map bD)))), (13, .c (.d (rowD (l.take k)))), (11, nL k), (10, .c (.d (rowD (l.filter p)))), (9, .c (.d (.at_ [.clo 12 [.at_ [.v (.int .i64 by_)], .at_ [.v (.int .i64 rest)]]]))), (0, .c (.d (rowD l)))], [.dead, .dead, .dead, .dead]⟩ G' ?_ ?_
            · generalize hpx : p l[j] = px at *
              (try (push_cast (maxSteps := 1000000) [getD_map hv, getD_map hv2]))
              ((repeat' (with_reducible refine And.intro ?_ ?_)) <;> try (first | trivial | omega | exact inK64 (by omega) (by omega) | exact inKu8 (by omega) (by omega) | (simp only [maxLen]; omega) | exact .inl trivial | exact .inl rfl))
              all_goals (refine .inl ⟨_, c, rfl, ?_⟩; (try (push_cast (maxSteps := 1000000) [getD_map hv2])); ((repeat' (with_reducible refine And.intro ?_ ?_)) <;> try (first | trivial | omega | exact inK64 (by omega) (by omega) | exact inKu8 (by omega) (by omega) | (simp only [maxLen]; omega) | exact .inl trivial | exact .inl rfl)))
              all_goals (refine ⟨Le.st ?_, Ent.refl _⟩; (try (push_cast (maxSteps := 1000000))); (first | rfl | (cases px <;> rfl) | skip))
            · (try (push_cast (maxSteps := 1000000)))
              (repeat ((with_reducible refine And.intro ?_ ?_); focus (first | trivial | omega | exact inK64 (by omega) (by omega) | exact inKu8 (by omega) (by omega))))
              refine ⟨j + 1, by omega, by omega, Le.st ?_, Ent.refl _⟩
              (try (push_cast (maxSteps := 1000000)))
              try rfl
          · have hd : decide ((j : Int) < (l.length : Int)) = false := decide_eq_false (by omega)
            (try (push_cast (maxSteps := 1000000) [hd]))
            have r1 := f21 (f38 (fp := 12) (cs := [.at_ [.v (.int .i64 by_)], .at_ [.v (.int .i64 rest)]]) (p := p) (f34 l (by omega)) c12 (by omega)) (by have := List.length_filter_le p l; omega)
            have hfl : (l.filter p).length ≤ 1000000 := by have := List.length_filter_le p l; omega
            have r2 := f11 (l.filter p) (l.filter p) hfl
            rw [decide_eq_true rfl] at r2
            have r3 := f11 (l.take k) (l.take k) (by rw [List.length_take]; omega)
            rw [decide_eq_true rfl] at r3
            have r4 : Spec V 11 [.c (.d (rowD (l.take k))), .c (.d (.sl 1 ((l.map nD).take k)))] (bL true) := by rw [← List.map_take]; exact r3
            refine DrawG.of V_G (.take 0 (.take 5 (.two 1 (.one 2 (.one 3 (.one 4 (.one 6 (.one 7 (.take 8 (.take 9 (.one 10 (.one 11 (.one 12 (.one 13 (.one 14 (.one 15 (.one 16 (.one 17 .done))))))))))))))) 2 (.one 1 (.one 3 (.one 4 (.one 6 (.one 7 (.take 8 (.take 9 (.one 10 (.one 11 (.one 12 (.one 13 (.one 14 (.one 15 (.one 16 (.one 17 .done)))))))))))))))))) 1000 (by decide +kernel) ?_
            (try (push_cast (maxSteps := 1000000)))
            ((repeat' (with_reducible refine And.intro ?_ ?_)) <;> try (first | trivial | omega | exact inK64 (by omega) (by omega) | exact inKu8 (by omega) (by omega) | (simp only [maxLen]; omega) | exact .inl trivial | exact .inl rfl))
            all_goals (refine .inl ⟨_, f10 l, rfl, ?_⟩; (try (push_cast (maxSteps := 1000000))); refine .inl ⟨_, f22 (.clo 34 [.at_ [rowD l]]) (.clo 12 [.at_ [.v (.int .i64 by_)], .at_ [.v (.int .i64 rest)]]), rfl, ?_⟩; (try (push_cast (maxSteps := 1000000))); refine .inr ⟨_, beside r1, rfl, ?_⟩)
            all_goals (rintro r G2 ⟨rfl, hG2⟩; (try (push_cast (maxSteps := 1000000))); refine .inl ⟨_, r2, rfl, ?_⟩; (try (push_cast (maxSteps := 1000000))))
            all_goals (refine ⟨by omega, .inl ⟨_, r4, rfl, ?_⟩⟩; (try (push_cast (maxSteps := 1000000))); refine .inr ⟨_, beside f7, rfl, ?_⟩)
            all_goals (rintro r G3 ⟨rfl, hG3⟩; (try (push_cast (maxSteps := 1000000))))
            all_goals exact res_of (bL true) rfl rfl ⟨⟨trivial, trivial⟩, rfl⟩
end Go.LS.Tryr
