/- Contracts of the functions of the seat, one by one (part D34); no condition but those that each bears. -/
import Derived.Test.YtfmbjaeppffdpaaDoorD33
namespace Go.LS.Tryd
open Go Go.LS
set_option maxRecDepth 100000
set_option linter.unusedSimpArgs false
set_option linter.unusedVariables false

theorem d129 (a b : Vl) : Spec V 129 [.ag ((eV a).map .d), .ag ((eV b).map .d)] (i2 .i64 (cmpF a b)) := f75 a b
theorem d128 (v : Vl) (l : List Vl) (hl : l.length ≤ 1000000) : Spec V 128 [.c (.d (.sl 4 ((v :: l).map eV))), .c (.d (.clo 129 []))] (.ag ((eV (bestV (1) l v)).map .d)) := by
  have hd0 : decide (((v :: l).length : Int) < 1) = false := decide_eq_false (by simp only [List.length_cons]; omega)
  obtain ⟨q, hq⟩ : ∃ q, q = v :: l := ⟨_, rfl⟩
  have hql : q.length = l.length + 1 := by rw [hq]; rfl
  have hq0 : q[0]? = some v := by rw [hq]; rfl
  rw [← hq] at hd0 ⊢
  (refine Spec.of_go (L := fun | 0 => some [0, 1, 4] | 1 => some [0, 1, 4, 9] | 2 => some [0, 1, 4] | 3 => some [0, 1, 4, 5] | 4 => some [0, 1, 4, 5, 6] | 5 => some [0, 1, 4, 5, 6, 17] | 6 => some [0, 1, 4, 5, 6] | 7 => some [0, 1, 4, 5, 6, 27] | 8 => some [0, 1, 4, 5, 6] | 9 => some [4] | _ => none) 1000 Go.Proofs.Tryd.func128 rfl rfl ⟨Nat.le_of_ble_eq_true rfl, rfl⟩ rfl ?_; unfold Go.Proofs.Tryd.f128; push_cast (maxSteps := 1000000))
  (try (push_cast (maxSteps := 1000000) [hd0, getD_map hq0]))
  ((repeat' (with_reducible refine And.intro ?_ ?_)) <;> try (first | trivial | omega | exact inK64 (by omega) (by omega) | exact inKu8 (by omega) (by omega) | (simp only [maxLen]; omega) | exact .inl trivial | exact .inl rfl))
  refine LoopK.ov (α := Nat × Vl) [6] (fun s => [i2 .i64 ((s.1 : Int) + 1)]) (fun s => [.bx 103 [.d (.v (.int .i64 0)), .d (.v (.string ByteArray.empty)), .d (.v (.int .i64 0)), .d (.v (.bool false))], .bx 103 ((eV s.2).map .d)]) (fun s => s.1 ≤ l.length ∧ bestV (1) (l.drop s.1) s.2 = bestV (1) l v) (fun s => l.length - s.1) 1000 (0, v) ⟨by simp, rfl⟩ (by (try (push_cast (maxSteps := 1000000))) <;> first | rfl | exact ⟨rfl, rfl⟩ | trace_state) ?_
  rintro ⟨k, m⟩ ⟨hk, hc⟩
  simp only at hk hc
  by_cases hlt : k < l.length
  · have hv := List.getElem?_eq_getElem hlt
    have hd : decide ((k : Int) + 1 < (q.length : Int)) = true := decide_eq_true (by omega)
    have hqk : q[k + 1]? = some l[k] := by rw [hq, List.getElem?_cons_succ]; exact hv
    rw [drop_cons hv] at hc
    simp only [bestV] at hc
    have h129 := d129 l[k] m
    generalize l[k] = x at *
    have hci : (q.map eV).getD (k + 1) [] = eV x := getD_map hqk
    have hT : ((k : Int) + 1).toNat = k + 1 := by omega
    obtain ⟨xk, xs, xn, xb⟩ := x
    obtain ⟨mk, ms, mn, mb⟩ := m
    simp only [eV_eq] at h129 hci hc ⊢
    generalize hcm : cmpF ⟨xk, xs, xn, xb⟩ ⟨mk, ms, mn, mb⟩ = c at *
    cases hb : decide (c < 0) with
    | true =>
      rw [if_pos (by have := of_decide_eq_true hb; omega)] at hc
      (try (push_cast (maxSteps := 1000000) [hd, hT, hci]))
      (refine DrawK.of (.take 0 (.take 1 (.take 2 (.take 3 (.take 4 (.take 5 (.one 6 (.take 7 .done)))))))) 1000 (by decide +kernel) ?_; try (push_cast (maxSteps := 1000000)))
      (try (push_cast (maxSteps := 1000000) [hT, hci]))
      ((repeat' (with_reducible refine And.intro ?_ ?_)) <;> try (first | trivial | omega | exact inK64 (by omega) (by omega) | exact inKu8 (by omega) (by omega) | (simp only [maxLen]; omega) | exact .inl trivial | exact .inl rfl))
      all_goals (refine ⟨_, h129, rfl, ?_⟩)
      all_goals (try (push_cast (maxSteps := 1000000) [hT, hci, hb]))
      all_goals ((repeat' (with_reducible refine And.intro ?_ ?_)) <;> try (first | trivial | omega | exact inK64 (by omega) (by omega) | exact inKu8 (by omega) (by omega) | (simp only [maxLen]; omega) | exact .inl trivial | exact .inl rfl))
      all_goals (try (push_cast (maxSteps := 1000000) [hT, hci]))
      all_goals ((repeat' (with_reducible refine And.intro ?_ ?_)) <;> try (first | trivial | omega | exact inK64 (by omega) (by omega) | exact inKu8 (by omega) (by omega) | (simp only [maxLen]; omega) | exact .inl trivial | exact .inl rfl))
      all_goals (first | omega | (refine ⟨(k + 1, ⟨xk, xs, xn, xb⟩), ⟨by simp only; omega, hc⟩, by simp only; omega, Le.st ?_⟩; (try (push_cast (maxSteps := 1000000) [hT, hci]))))
      all_goals rfl
    | false =>
      rw [if_neg (by have := of_decide_eq_false hb; omega)] at hc
      (try (push_cast (maxSteps := 1000000) [hd, hT, hci]))
      (refine DrawK.of (.take 0 (.take 1 (.take 2 (.take 3 (.take 4 (.take 5 (.one 6 (.take 7 .done)))))))) 1000 (by decide +kernel) ?_; try (push_cast (maxSteps := 1000000)))
      (try (push_cast (maxSteps := 1000000) [hT, hci]))
      ((repeat' (with_reducible refine And.intro ?_ ?_)) <;> try (first | trivial | omega | exact inK64 (by omega) (by omega) | exact inKu8 (by omega) (by omega) | (simp only [maxLen]; omega) | exact .inl trivial | exact .inl rfl))
      all_goals (refine ⟨_, h129, rfl, ?_⟩)
      all_goals (try (push_cast (maxSteps := 1000000) [hT, hci, hb]))
      all_goals ((repeat' (with_reducible refine And.intro ?_ ?_)) <;> try (first | trivial | omega | exact inK64 (by omega) (by omega) | exact inKu8 (by omega) (by omega) | (simp only [maxLen]; omega) | exact .inl trivial | exact .inl rfl))
      all_goals (first | omega | (refine ⟨(k + 1, ⟨mk, ms, mn, mb⟩), ⟨by simp only; omega, hc⟩, by simp only; omega, Le.st ?_⟩; (try (push_cast (maxSteps := 1000000) [hT, hci]))))
      all_goals rfl
  · have hd : decide ((k : Int) + 1 < (q.length : Int)) = false := decide_eq_false (by omega)
    rw [List.drop_eq_nil_of_le (by omega)] at hc
    simp only [bestV] at hc
    (try (push_cast (maxSteps := 1000000) [hd]))
    rw [← hc]
    exact ⟨rfl, rfl, rfl, rfl⟩
theorem d130 (v : Vl) (l : List Vl) (hl : l.length ≤ 1000000) : Spec V 130 [.c (.d (.sl 4 ((v :: l).map eV))), .c (.d (.clo 129 []))] (.ag ((eV (bestV (-1) l v)).map .d)) := by
  have hd0 : decide (((v :: l).length : Int) < 1) = false := decide_eq_false (by simp only [List.length_cons]; omega)
  obtain ⟨q, hq⟩ : ∃ q, q = v :: l := ⟨_, rfl⟩
  have hql : q.length = l.length + 1 := by rw [hq]; rfl
  have hq0 : q[0]? = some v := by rw [hq]; rfl
  rw [← hq] at hd0 ⊢
  (refine Spec.of_go (L := fun | 0 => some [0, 1, 4] | 1 => some [0, 1, 4, 9] | 2 => some [0, 1, 4] | 3 => some [0, 1, 4, 5] | 4 => some [0, 1, 4, 5, 6] | 5 => some [0, 1, 4, 5, 6, 17] | 6 => some [0, 1, 4, 5, 6] | 7 => some [0, 1, 4, 5, 6, 27] | 8 => some [0, 1, 4, 5, 6] | 9 => some [4] | _ => none) 1000 Go.Proofs.Tryd.func130 rfl rfl ⟨Nat.le_of_ble_eq_true rfl, rfl⟩ rfl ?_; unfold Go.Proofs.Tryd.f130; push_cast (maxSteps := 1000000))
  (try (push_cast (maxSteps := 1000000) [hd0, getD_map hq0]))
  ((repeat' (with_reducible refine And.intro ?_ ?_)) <;> try (first | trivial | omega | exact inK64 (by omega) (by omega) | exact inKu8 (by omega) (by omega) | (simp only [maxLen]; omega) | exact .inl trivial | exact .inl rfl))
  refine LoopK.ov (α := Nat × Vl) [6] (fun s => [i2 .i64 ((s.1 : Int) + 1)]) (fun s => [.bx 103 [.d (.v (.int .i64 0)), .d (.v (.string ByteArray.empty)), .d (.v (.int .i64 0)), .d (.v (.bool false))], .bx 103 ((eV s.2).map .d)]) (fun s => s.1 ≤ l.length ∧ bestV (-1) (l.drop s.1) s.2 = bestV (-1) l v) (fun s => l.length - s.1) 1000 (0, v) ⟨by simp, rfl⟩ (by (try (push_cast (maxSteps := 1000000))) <;> first | rfl | exact ⟨rfl, rfl⟩ | trace_state) ?_
  rintro ⟨k, m⟩ ⟨hk, hc⟩
  simp only at hk hc
  by_cases hlt : k < l.length
  · have hv := List.getElem?_eq_getElem hlt
    have hd : decide ((k : Int) + 1 < (q.length : Int)) = true := decide_eq_true (by omega)
    have hqk : q[k + 1]? = some l[k] := by rw [hq, List.getElem?_cons_succ]; exact hv
    rw [drop_cons hv] at hc
    simp only [bestV] at hc
    have h129 := d129 l[k] m
    generalize l[k] = x at *
    have hci : (q.map eV).getD (k + 1) [] = eV x := getD_map hqk
    have hT : ((k : Int) + 1).toNat = k + 1 := by omega
    obtain ⟨xk, xs, xn, xb⟩ := x
    obtain ⟨mk, ms, mn, mb⟩ := m
    simp only [eV_eq] at h129 hci hc ⊢
    generalize hcm : cmpF ⟨xk, xs, xn, xb⟩ ⟨mk, ms, mn, mb⟩ = c at *
    cases hb : decide (0 < c) with
    | true =>
      rw [if_pos (by have := of_decide_eq_true hb; omega)] at hc
      (try (push_cast (maxSteps := 1000000) [hd, hT, hci]))
      (refine DrawK.of (.take 0 (.take 1 (.take 2 (.take 3 (.take 4 (.take 5 (.one 6 (.take 7 .done)))))))) 1000 (by decide +kernel) ?_; try (push_cast (maxSteps := 1000000)))
      (try (push_cast (maxSteps := 1000000) [hT, hci]))
      ((repeat' (with_reducible refine And.intro ?_ ?_)) <;> try (first | trivial | omega | exact inK64 (by omega) (by omega) | exact inKu8 (by omega) (by omega) | (simp only [maxLen]; omega) | exact .inl trivial | exact .inl rfl))
      all_goals (refine ⟨_, h129, rfl, ?_⟩)
      all_goals (try (push_cast (maxSteps := 1000000) [hT, hci, hb]))
      all_goals ((repeat' (with_reducible refine And.intro ?_ ?_)) <;> try (first | trivial | omega | exact inK64 (by omega) (by omega) | exact inKu8 (by omega) (by omega) | (simp only [maxLen]; omega) | exact .inl trivial | exact .inl rfl))
      all_goals (try (push_cast (maxSteps := 1000000) [hT, hci]))
      all_goals ((repeat' (with_reducible refine And.intro ?_ ?_)) <;> try (first | trivial | omega | exact inK64 (by omega) (by omega) | exact inKu8 (by omega) (by omega) | (simp only [maxLen]; omega) | exact .inl trivial | exact .inl rfl))
      all_goals (first | omega | (refine ⟨(k + 1, ⟨xk, xs, xn, xb⟩), ⟨by simp only; omega, hc⟩, by simp only; omega, Le.st ?_⟩; (try (push_cast (maxSteps := 1000000) [hT, hci]))))
      all_goals rfl
    | false =>
      rw [if_neg (by have := of_decide_eq_false hb; omega)] at hc
      (try (push_cast (maxSteps := 1000000) [hd, hT, hci]))
      (refine DrawK.of (.take 0 (.take 1 (.take 2 (.take 3 (.take 4 (.take 5 (.one 6 (.take 7 .done)))))))) 1000 (by decide +kernel) ?_; try (push_cast (maxSteps := 1000000)))
      (try (push_cast (maxSteps := 1000000) [hT, hci]))
      ((repeat' (with_reducible refine And.intro ?_ ?_)) <;> try (first | trivial | omega | exact inK64 (by omega) (by omega) | exact inKu8 (by omega) (by omega) | (simp only [maxLen]; omega) | exact .inl trivial | exact .inl rfl))
      all_goals (refine ⟨_, h129, rfl, ?_⟩)
      all_goals (try (push_cast (maxSteps := 1000000) [hT, hci, hb]))
      all_goals ((repeat' (with_reducible refine And.intro ?_ ?_)) <;> try (first | trivial | omega | exact inK64 (by omega) (by omega) | exact inKu8 (by omega) (by omega) | (simp only [maxLen]; omega) | exact .inl trivial | exact .inl rfl))
      all_goals (first | omega | (refine ⟨(k + 1, ⟨mk, ms, mn, mb⟩), ⟨by simp only; omega, hc⟩, by simp only; omega, Le.st ?_⟩; (try (push_cast (maxSteps := 1000000) [hT, hci]))))
      all_goals rfl
  · have hd : decide ((k : Int) + 1 < (q.length : Int)) = false := decide_eq_false (by omega)
    rw [List.drop_eq_nil_of_le (by omega)] at hc
    simp only [bestV] at hc
    (try (push_cast (maxSteps := 1000000) [hd]))
    rw [← hc]
    exact ⟨rfl, rfl, rfl, rfl⟩

theorem some_take {p : Nat} {g : List (List Vl)} {k : Nat} {r : List Vl} {v : Vl} (h : g[k]? = some r) (hv : r[p]? = some v) : someV p (g.take (k + 1)) = someV p (g.take k) ++ if v.k = 0 then [] else [v] := by
  unfold someV
  rw [List.take_add_one, h, Option.toList_some, List.map_append, List.filter_append, List.map_cons, List.map_nil, vAt_get hv, List.filter_cons, List.filter_nil]
  by_cases e : v.k = 0 <;> simp [e]
theorem some_len (p : Nat) (g : List (List Vl)) : (someV p g).length ≤ g.length := by
  unfold someV
  have := List.length_filter_le (fun v : Vl => !decide (v.k = 0)) (g.map fun r => vAt r p)
  rwa [List.length_map] at this
theorem some_mem {p : Nat} {g : List (List Vl)} {v : Vl} (hp : ∀ r ∈ g, p < r.length) (h : v ∈ someV p g) : ∃ r ∈ g, v ∈ r := by
  unfold someV at h
  obtain ⟨r, hr, rfl⟩ := List.mem_map.1 (List.mem_filter.1 h).1
  refine ⟨r, hr, ?_⟩
  have := hp r hr
  rw [vAt_get (List.getElem?_eq_getElem this)]
  exact List.getElem_mem this
def intsV (l : List Vl) : List Int := (l.filter fun v => decide (v.k = 2)).map fun v => v.n
theorem ints_take {l : List Vl} {k : Nat} {v : Vl} (h : l[k]? = some v) : intsV (l.take (k + 1)) = intsV (l.take k) ++ if v.k = 2 then [v.n] else [] := by
  unfold intsV
  rw [List.take_add_one, h, Option.toList_some, List.filter_append, List.map_append, List.filter_cons, List.filter_nil]
  by_cases e : v.k = 2 <;> simp [e]
theorem ints_len (l : List Vl) : (intsV l).length ≤ l.length := by
  unfold intsV
  rw [List.length_map]
  exact List.length_filter_le _ _
set_option maxHeartbeats 2000000 in
theorem d113 (L : List Cl) (a : Ag) (g : List (List Vl)) (hL : okLen L) (hg : g.length ≤ 100000) (hr : ∀ r ∈ g, ∀ v ∈ r, okV2 v) (hw : a.op ≠ 1 → ∀ r ∈ g, placeN L a.col < r.length) :
    Spec V 113 [.ag ((eAg a).map .d), .c (.d (.sl 3 (L.map eC))), .c (.d (.sl 1 (g.map eR)))] (.tu [.ag ((eV (tellG L a g).1).map .d), i2 .i64 (tellG L a g).2]) := by
  have h64 := f62 L a.col hL
  obtain ⟨F, hF⟩ : ∃ F, F = tellG L a g := ⟨_, rfl⟩
  rw [← hF]
  unfold tellG at hF
  have hpd : (findF a.col L 0).2.1 = placeN L a.col := rfl
  generalize hff : findF a.col L 0 = ff at *
  obtain ⟨⟨cn, ck, cz⟩, fp, fo⟩ := ff
  simp only at hpd
  subst hpd
  obtain ⟨op, col, nm⟩ := a
  simp only [eC_eq, eAg_eq] at h64 hF hw ⊢
  have hc127 := fun n => d127 n
  simp only [eV_eq, intV] at hc127
  (refine Spec.of_go (L := fun | 0 => some [1, 2, 3, 6] | 1 => some [1, 2, 3, 6, 21] | 2 => some [6, 7] | 3 => some [2, 3, 6, 9] | 4 => some [2, 3, 6, 9, 35] | 5 => some [2, 6, 9, 38] | 6 => some [6, 7] | 7 => some [6, 7] | 8 => some [2, 3, 6, 9, 11] | 9 => some [3, 6, 9, 11, 46, 47, 48] | 10 => some [3, 6, 9, 11, 46, 47, 48, 49] | 11 => some [3, 6, 9, 11, 13, 46, 47, 48] | 12 => some [3, 6, 9, 11, 13, 46, 47, 48, 57] | 13 => some [3, 6, 9, 11, 46, 47, 48] | 14 => some [3, 6, 9, 11, 46, 47, 48] | 15 => some [3, 6, 11, 66] | 16 => some [6, 7] | 17 => some [3, 6, 11, 73] | 18 => some [6, 7] | 19 => some [3, 6, 11, 78] | 20 => some [6, 7] | 21 => some [6, 11, 84] | 22 => some [6, 7] | 23 => some [6, 11, 14] | 24 => some [6, 14, 90, 91, 92] | 25 => some [6, 14, 90, 91, 92, 93] | 26 => some [6, 14, 16, 90, 91, 92] | 27 => some [6, 14, 16, 90, 91, 92, 98] | 28 => some [6, 14, 90, 91, 92] | 29 => some [6, 14, 90, 91, 92] | 30 => some [6, 17, 18] | 31 => some [6, 17, 18, 111] | 32 => some [6, 7] | 33 => some [6, 7] | _ => none) 1000 Go.Proofs.Tryd.func113 rfl rfl ⟨Nat.le_of_ble_eq_true rfl, rfl⟩ rfl ?_; unfold Go.Proofs.Tryd.f113; push_cast (maxSteps := 1000000))
  by_cases o1 : op = 1
  · rw [if_pos o1] at hF
    subst hF
    (try (push_cast (maxSteps := 1000000) [o1]))
    ((repeat' (with_reducible refine And.intro ?_ ?_)) <;> try (first | trivial | omega | exact inK64 (by omega) (by omega) | exact inKu8 (by omega) (by omega) | (simp only [maxLen]; omega) | exact .inl trivial | exact .inl rfl))
    refine ⟨_, hc127 _, rfl, ?_⟩
    (try (push_cast (maxSteps := 1000000)))
    all_goals exact ⟨rfl, rfl, rfl, rfl⟩
  · rw [if_neg o1] at hF
    have hw := hw o1
    generalize placeN L col = p at *
    (try (push_cast (maxSteps := 1000000) [o1]))
    refine ⟨_, h64, rfl, ?_⟩
    by_cases o6 : op = 6
    · rw [if_pos o6] at hF
      by_cases g0 : g.length = 0
      · rw [if_pos g0] at hF
        subst hF
        have hd : decide ((g.length : Int) = 0) = true := decide_eq_true (by omega)
        (try (push_cast (maxSteps := 1000000) [o6, hd]))
        all_goals exact ⟨rfl, rfl, rfl, rfl⟩
      · rw [if_neg g0] at hF
        subst hF
        have hd : decide ((g.length : Int) = 0) = false := decide_eq_false (by omega)
        have hg0 : 0 < g.length := by omega
        have hv := List.getElem?_eq_getElem hg0
        have hrm := List.getElem_mem hg0
        have hrp := List.getElem?_eq_getElem (hw _ hrm)
        have hrl := hw _ hrm
        have hva := vAt_get hrp
        have hh : g.headD [] = g[0] := by cases g with | nil => exact absurd rfl g0 | cons r g => rfl
        rw [hh, hva]
        generalize g[0][p] = v at *
        generalize g[0] = r at *
        have hci : (r.map eV).getD p [] = eV v := getD_map hrp
        obtain ⟨vk, vs, vn, vb⟩ := v
        simp only [eV_eq] at hci
        (try (push_cast (maxSteps := 1000000) [o6, hd, getD_map hv, hci]))
        ((repeat' (with_reducible refine And.intro ?_ ?_)) <;> try (first | trivial | omega | exact inK64 (by omega) (by omega) | exact inKu8 (by omega) (by omega) | (simp only [maxLen]; omega) | exact .inl trivial | exact .inl rfl))
    · rw [if_neg o6] at hF
      (try (push_cast (maxSteps := 1000000) [o6]))
      refine LoopK.le (Le.nil 11 103 4 (by decide) (by (try (push_cast (maxSteps := 1000000))))) ?_
      (try (push_cast (maxSteps := 1000000)))
      refine LoopK.ov (α := Nat) [48] (fun k => [i2 .i64 k]) (fun k => [.bx 101 [.d (.v (.int .i64 op)), .d (.v (.string col)), .d (.v (.string nm))], .bx 103 [.d (.v (.int .i64 0)), .d (.v (.string ByteArray.empty)), .d (.v (.int .i64 0)), .d (.v (.bool false))], .bx 105 [.d (.v (.string cn)), .d (.v (.int .i64 ck)), .d (.v (.bool cz))], .rw 103 4 ((someV p (g.take k)).map eV)]) (fun k => k ≤ g.length) (fun k => g.length - k) 1000 0 (by omega) (by (try (push_cast (maxSteps := 1000000))) <;> first | rfl | exact ⟨rfl, rfl⟩ | trace_state) ?_
      rintro k hk
      by_cases hlt : k < g.length
      · have hv := List.getElem?_eq_getElem hlt; have hd : decide ((k : Int) < (g.length : Int)) = true := decide_eq_true (by omega)
        have hrm := List.getElem_mem hlt
        have hrp := List.getElem?_eq_getElem (hw _ hrm)
        have hrl := hw _ hrm
        have hsl := some_len p (g.take k)
        rw [List.length_take] at hsl
        have hst := some_take hv hrp
        generalize g[k][p] = v at *
        generalize g[k] = r at *
        obtain ⟨vk, vs, vn, vb⟩ := v
        have hci : (r.map eV).getD p [] = eV ⟨vk, vs, vn, vb⟩ := getD_map hrp
        simp only [eV_eq] at hci hst
        by_cases v0 : vk = 0
        · rw [if_pos v0, List.append_nil] at hst
          (try (push_cast (maxSteps := 1000000) [hd, getD_map hv, hci, v0]))
          ((repeat' (with_reducible refine And.intro ?_ ?_)) <;> try (first | trivial | omega | exact inK64 (by omega) (by omega) | exact inKu8 (by omega) (by omega) | (simp only [maxLen]; omega) | exact .inl trivial | exact .inl rfl))
          refine ⟨k + 1, by omega, by omega, Le.st ?_⟩
          rw [hst]
          (try (push_cast (maxSteps := 1000000))); (all_goals first | rfl | skip)
        · rw [if_neg v0] at hst
          (try (push_cast (maxSteps := 1000000) [hd, getD_map hv, hci, v0, List.length_map]))
          ((repeat' (with_reducible refine And.intro ?_ ?_)) <;> try (first | trivial | omega | exact inK64 (by omega) (by omega) | exact inKu8 (by omega) (by omega) | (simp only [maxLen]; omega) | exact .inl trivial | exact .inl rfl))
          all_goals (try (simp only [maxLen]; omega))
          refine ⟨k + 1, by omega, by omega, Le.st ?_⟩
          rw [hst]
          (try (push_cast (maxSteps := 1000000)))
          all_goals (first | rfl | (simp; done) | (simp; rfl) | trace_state)
      · have hd : decide ((k : Int) < (g.length : Int)) = false := decide_eq_false (by omega)
        rw [show g.take k = g from List.take_of_length_le (by omega)]
        have hsl := some_len p g
        have hsm := fun v (h : v ∈ someV p g) => some_mem hw h
        have hv2 : ∀ v ∈ someV p g, okV2 v := fun v h => by obtain ⟨r, h1, h2⟩ := hsm v h; exact hr r h1 v h2
        generalize someV p g = vs at *
        by_cases o2 : op = 2
        · rw [if_pos o2] at hF
          subst hF
          (try (push_cast (maxSteps := 1000000) [hd, o2, List.length_map]))
          ((repeat' (with_reducible refine And.intro ?_ ?_)) <;> try (first | trivial | omega | exact inK64 (by omega) (by omega) | exact inKu8 (by omega) (by omega) | (simp only [maxLen]; omega) | exact .inl trivial | exact .inl rfl))
          refine ⟨_, hc127 _, rfl, ?_⟩
          (try (push_cast (maxSteps := 1000000)))
          all_goals exact ⟨rfl, rfl, rfl, rfl⟩
        · rw [if_neg o2] at hF
          obtain ⟨q, hq⟩ : ∃ q, q = vs := ⟨_, rfl⟩
          cases vs with
          | nil =>
            simp only at hF
            subst hF
            rw [← hq]
            have hln : decide ((q.length : Int) = 0) = true := decide_eq_true (by rw [hq]; rfl)
            (try (push_cast (maxSteps := 1000000) [hd, o2, hln, List.length_map]))
            all_goals exact ⟨rfl, rfl, rfl, rfl⟩
          | cons v vs =>
            simp only at hF
            have hln : decide ((q.length : Int) = 0) = false := decide_eq_false (by rw [hq]; simp only [List.length_cons]; omega)
            by_cases o4 : op = 4
            · rw [if_pos o4] at hF
              subst hF
              have h128 := d128 v vs (by simp only [List.length_cons] at hsl; omega)
              simp only [eV_eq] at h128
              rw [← hq] at h128 hsl hv2 ⊢
              generalize bestV 1 vs v = m at *
              obtain ⟨mk, ms, mn, mb⟩ := m
              (try (push_cast (maxSteps := 1000000) [hd, o2, o4, hln, List.length_map]))
              all_goals (refine ⟨_, h128, rfl, ?_⟩)
              all_goals (try (push_cast (maxSteps := 1000000)))
              all_goals trace_state
            · rw [if_neg o4] at hF
              by_cases o5 : op = 5
              · rw [if_pos o5] at hF
                subst hF
                have h130 := d130 v vs (by simp only [List.length_cons] at hsl; omega)
                simp only [eV_eq] at h130
                rw [← hq] at h130 hsl hv2 ⊢
                generalize bestV (-1) vs v = m at *
                obtain ⟨mk, ms, mn, mb⟩ := m
                (try (push_cast (maxSteps := 1000000) [hd, o2, o4, o5, hln, List.length_map]))
                all_goals (refine ⟨_, h130, rfl, ?_⟩)
                all_goals (try (push_cast (maxSteps := 1000000)))
                all_goals trace_state
              · rw [if_neg o5] at hF
                rw [show ((v :: vs).filter fun v => decide (v.k = 2)).map (fun v => v.n) = intsV (v :: vs) from rfl, ← hq] at hF
                rw [← hq] at hsl hv2 ⊢
                clear hq
                (try (push_cast (maxSteps := 1000000) [hd, o2, o4, o5, hln, List.length_map]))
                refine LoopK.le (Le.nil 14 2 1 (by decide) (by (try (push_cast (maxSteps := 1000000))))) ?_
                (try (push_cast (maxSteps := 1000000)))
                refine LoopK.fz 3 rfl ?_
                (try (push_cast (maxSteps := 1000000)))
                have h131 := d131 (intsV q) (by have := ints_len q; simp only [okLen]; omega) (fun n hn => by
                  obtain ⟨v, hv, rfl⟩ := List.mem_map.1 hn
                  exact (hv2 v (List.mem_filter.1 hv).1).2)
                refine LoopK.ov (α := Nat) [92] (fun k => [i2 .i64 k]) (fun k => [.bx 101 [.d (.v (.int .i64 op)), .d (.v (.string col)), .d (.v (.string nm))], .bx 103 [.d (.v (.int .i64 0)), .d (.v (.string ByteArray.empty)), .d (.v (.int .i64 0)), .d (.v (.bool false))], .bx 105 [.d (.v (.string cn)), .d (.v (.int .i64 ck)), .d (.v (.bool cz))], .dead, .rw 2 1 ((intsV (q.take k)).map eI)]) (fun k => k ≤ q.length) (fun k => q.length - k) 1000 0 (by omega) (by (try (push_cast (maxSteps := 1000000))) <;> first | rfl | exact ⟨rfl, rfl⟩ | trace_state) ?_
                rintro k hk
                clear hd hlt
                by_cases hlt : k < q.length
                · have hv := List.getElem?_eq_getElem hlt; have hd : decide ((k : Int) < (q.length : Int)) = true := decide_eq_true (by omega)
                  have hil := ints_len (q.take k)
                  rw [List.length_take] at hil
                  have hit := ints_take hv
                  generalize q[k] = v at *
                  obtain ⟨vk, vs, vn, vb⟩ := v
                  have hci : (q.map eV).getD k [] = eV ⟨vk, vs, vn, vb⟩ := getD_map hv
                  simp only [eV_eq] at hci hit
                  by_cases v2 : vk = 2
                  · rw [if_pos v2] at hit
                    (try (push_cast (maxSteps := 1000000) [hd, hci, v2, List.length_map]))
                    ((repeat' (with_reducible refine And.intro ?_ ?_)) <;> try (first | trivial | omega | exact inK64 (by omega) (by omega) | exact inKu8 (by omega) (by omega) | (simp only [maxLen]; omega) | exact .inl trivial | exact .inl rfl))
                    all_goals (try (simp only [maxLen]; omega))
                    refine ⟨k + 1, by omega, by omega, Le.st ?_⟩
                    rw [hit]
                    (try (push_cast (maxSteps := 1000000)))
                    all_goals (first | rfl | (simp; done) | (simp; rfl) | trace_state)
                  · rw [if_neg v2, List.append_nil] at hit
                    (try (push_cast (maxSteps := 1000000) [hd, hci, v2, List.length_map]))
                    ((repeat' (with_reducible refine And.intro ?_ ?_)) <;> try (first | trivial | omega | exact inK64 (by omega) (by omega) | exact inKu8 (by omega) (by omega) | (simp only [maxLen]; omega) | exact .inl trivial | exact .inl rfl))
                    refine ⟨k + 1, by omega, by omega, Le.st ?_⟩
                    rw [hit]
                    (try (push_cast (maxSteps := 1000000))); (all_goals first | rfl | skip)
                · have hd : decide ((k : Int) < (q.length : Int)) = false := decide_eq_false (by omega)
                  rw [show q.take k = q from List.take_of_length_le (by omega)]
                  generalize sumG (intsV q) = S at *
                  obtain ⟨s1, s2⟩ := S
                  simp only at h131 hF
                  (try (push_cast (maxSteps := 1000000) [hd]))
                  refine ⟨_, h131, rfl, ?_⟩
                  by_cases s0 : s2 = 0
                  · rw [if_neg (by simp [s0])] at hF
                    subst hF
                    (try (push_cast (maxSteps := 1000000) [s0]))
                    refine ⟨_, hc127 _, rfl, ?_⟩
                    (try (push_cast (maxSteps := 1000000)))
                    all_goals exact ⟨rfl, rfl, rfl, rfl⟩
                  · rw [if_pos s0] at hF
                    subst hF
                    (try (push_cast (maxSteps := 1000000) [s0]))
                    all_goals exact ⟨rfl, rfl, rfl, rfl⟩
end Go.LS.Tryd
