/- Contracts of the functions of the seat, one by one (part D9); no condition but those that each bears. -/
import Derived.Test.YtfmbjaeppffdpaaDoorD8
namespace Go.LS.Tryd
open Go Go.LS
set_option maxRecDepth 100000
set_option linter.unusedSimpArgs false
set_option linter.unusedVariables false

set_option maxHeartbeats 1000000 in
theorem d88 (L : List Cl) (ks : List ByteArray) (c : Ch) (hL : okLen L) (hk : okLen ks) (hf : ∀ n ∈ ks, foundN L n) (hc : okR2 c.o ∧ okR2 c.n) :
    Spec V 88 [.c (.d (.sl 3 (L.map eRC))), .c (.d (.sl 1 (ks.map eS))), .ag ((eRCh c).map .d)] (i2 .i64 (oneP L.length (placesN L ks) c)) := by
  have hplt := placesN_lt hf
  obtain ⟨k, o, n⟩ := c
  simp only at hc
  have h1 : o.length = L.length → Spec V 123 _ _ := fun h => d123 L ks o hL hk hf (fun p hp => by have := hplt p hp; omega)
  have h2 : n.length = L.length → Spec V 123 _ _ := fun h => d123 L ks n hL hk hf (fun p hp => by have := hplt p hp; omega)
  have h3 : o.length = L.length → n.length = L.length → Spec V 92 _ _ := fun h h' => d92 L ks o n hL hk hf (fun p hp => by have := hplt p hp; omega) (fun p hp => by have := hplt p hp; omega)
  obtain ⟨R, hR⟩ : ∃ R, R = oneP L.length (placesN L ks) ⟨k, o, n⟩ := ⟨_, rfl⟩
  rw [← hR]
  simp only [oneP] at hR
  generalize placesN L ks = ps at *
  (refine Spec.of_go (L := fun | 0 => some [0, 1, 5] | 1 => some [0, 1, 5, 36] | 2 => some [6] | 3 => some [0, 1, 5, 60] | 4 => some [6] | 5 => some [0, 1, 5, 84] | 6 => some [6] | 7 => some [97] | 8 => some [6] | 9 => some [6] | _ => none) 1000 Go.Proofs.Tryd.func88 rfl rfl ⟨Nat.le_of_ble_eq_true rfl, rfl⟩ rfl ?_; unfold Go.Proofs.Tryd.f88; push_cast (maxSteps := 1000000))
  rcases Int.lt_or_le k 1 with a | a
  · have d := decide_eq_true a
    rw [if_pos (.inl (.inl a))] at hR
    subst hR
    (try (push_cast (maxSteps := 1000000) [d]))
  have d1 : decide (k < 1) = false := decide_eq_false (by omega)
  rcases Int.lt_or_le 3 k with a' | a'
  · have d := decide_eq_true a'
    rw [if_pos (.inl (.inr a'))] at hR
    subst hR
    (try (push_cast (maxSteps := 1000000) [d, d1]))
  have hk3 : k = 1 ∨ k = 2 ∨ k = 3 := by omega
  clear a a' d1
  rcases hk3 with rfl | rfl | rfl
  · (try (push_cast (maxSteps := 1000000)))
    refine BrP.mk (fun h => ?_) (fun h => ?_) <;> try (push_cast (maxSteps := 1000000) [h])
    · rw [if_pos (by have := of_decide_eq_true h; omega)] at hR
      simp [hR]
    · rw [if_neg (by have := of_decide_eq_false h; omega)] at hR
      (try (push_cast (maxSteps := 1000000)))
      refine BrP.mk (fun h => ?_) (fun h => ?_) <;> try (push_cast (maxSteps := 1000000) [h])
      · have h' : ¬ o.length = L.length := by simp at h; omega
        rw [if_pos (by omega)] at hR
        simp [hR]
      · have h' : o.length = L.length := by simp at h; omega
        rw [if_neg (by omega)] at hR
        (try (push_cast (maxSteps := 1000000)))
        refine ⟨_, h1 h', rfl, ?_⟩
        cases hn : nullF ps o with
        | true =>
          rw [hn, if_pos (by simp)] at hR
          (try (push_cast (maxSteps := 1000000)))
          exact hR.symm
        | false =>
          rw [hn, if_neg (by simp), if_neg (by simp)] at hR
          (try (push_cast (maxSteps := 1000000)))
          exact hR.symm
  · (try (push_cast (maxSteps := 1000000)))
    rw [if_neg (by omega)] at hR
    refine BrP.mk (fun h => ?_) (fun h => ?_) <;> try (push_cast (maxSteps := 1000000) [h])
    · have h' : ¬ o.length = L.length := by simp at h; omega
      rw [if_pos (by omega)] at hR
      simp [hR]
    · have h' : o.length = L.length := by simp at h; omega
      (try (push_cast (maxSteps := 1000000)))
      refine BrP.mk (fun h => ?_) (fun h => ?_) <;> try (push_cast (maxSteps := 1000000) [h])
      · have h' : ¬ n.length = L.length := by simp at h; omega
        rw [if_pos (by omega)] at hR
        simp [hR]
      · have h'' : n.length = L.length := by simp at h; omega
        rw [if_neg (by omega)] at hR
        (try (push_cast (maxSteps := 1000000)))
        refine ⟨_, h1 h', rfl, ?_⟩
        cases hn : nullF ps o with
        | true =>
          rw [hn, if_pos (by simp)] at hR
          (try (push_cast (maxSteps := 1000000)))
          exact hR.symm
        | false =>
          rw [hn] at hR
          (try (push_cast (maxSteps := 1000000)))
          refine ⟨_, h2 h'', rfl, ?_⟩
          cases hn2 : nullF ps n with
          | true =>
            rw [hn2, if_pos (by simp)] at hR
            (try (push_cast (maxSteps := 1000000)))
            exact hR.symm
          | false =>
            rw [hn2, if_neg (by simp)] at hR
            (try (push_cast (maxSteps := 1000000)))
            refine ⟨_, h3 h' h'', rfl, ?_⟩
            cases ha : alikeF ps o n with
            | true =>
              rw [ha, if_neg (by simp)] at hR
              (try (push_cast (maxSteps := 1000000)))
              exact hR.symm
            | false =>
              rw [ha, if_pos (by simp)] at hR
              (try (push_cast (maxSteps := 1000000)))
              exact hR.symm
  · (try (push_cast (maxSteps := 1000000)))
    refine BrP.mk (fun h => ?_) (fun h => ?_) <;> try (push_cast (maxSteps := 1000000) [h])
    · rw [if_pos (by have := of_decide_eq_true h; omega)] at hR
      simp [hR]
    · rw [if_neg (by have := of_decide_eq_false h; omega)] at hR
      (try (push_cast (maxSteps := 1000000)))
      refine BrP.mk (fun h => ?_) (fun h => ?_) <;> try (push_cast (maxSteps := 1000000) [h])
      · have h' : ¬ n.length = L.length := by simp at h; omega
        rw [if_pos (by omega)] at hR
        simp [hR]
      · have h' : n.length = L.length := by simp at h; omega
        rw [if_neg (by omega)] at hR
        (try (push_cast (maxSteps := 1000000)))
        refine ⟨_, h2 h', rfl, ?_⟩
        cases hn : nullF ps n with
        | true =>
          rw [hn, if_pos (by simp)] at hR
          (try (push_cast (maxSteps := 1000000)))
          exact hR.symm
        | false =>
          rw [hn, if_neg (by simp), if_neg (by simp)] at hR
          (try (push_cast (maxSteps := 1000000)))
          exact hR.symm
set_option maxHeartbeats 1000000 in
theorem d87 (L : List Cl) (ps : List Nat) (c : Ch) (hL : okLen L) (hc : okR2 c.o ∧ okR2 c.n) (hr : (∀ v ∈ c.o, rightF v = true) ∧ ∀ v ∈ c.n, rightF v = true) (hp : ps.length ≤ 64) (hlt : ∀ p ∈ ps, p < L.length) :
    Spec V 87 [.c (.d (.sl 3 (L.map eC))), .c (.d (.sl 1 (ps.map eJ))), .ag ((eCh c).map .d)] (i2 .i64 (oneP L.length ps c)) := by
  obtain ⟨k, o, n⟩ := c
  simp only at hc hr
  have hmo : (∀ p ∈ ps, p < o.length) → Spec V 90 _ _ := fun h => d90 o ps (fun v hv => (hc.1.2 v hv).1) (fun v hv => (hc.1.2 v hv).2) hp h
  have hmn : (∀ p ∈ ps, p < n.length) → Spec V 90 _ _ := fun h => d90 n ps (fun v hv => (hc.2.2 v hv).1) (fun v hv => (hc.2.2 v hv).2) hp h
  have hma := mark_alikeN (ps := ps) hr.1 hr.2
  obtain ⟨R, hR⟩ : ∃ R, R = oneP L.length ps ⟨k, o, n⟩ := ⟨_, rfl⟩
  rw [← hR]
  simp only [oneP] at hR
  (refine Spec.of_go (L := fun | 0 => some [0, 1, 5] | 1 => some [0, 1, 5, 43] | 2 => some [6] | 3 => some [0, 1, 5, 7] | 4 => some [0, 1, 5, 7, 46] | 5 => some [0, 1, 5, 7] | 6 => some [0, 1, 5, 7, 54] | 7 => some [0, 1, 5, 7] | 8 => some [0, 1, 5, 7, 60, 61, 62] | 9 => some [0, 1, 5, 7, 60, 61, 62, 63] | 10 => some [0, 1, 5, 7, 9, 60, 61, 62] | 11 => some [0, 1, 5, 7, 60, 61, 62, 70] | 12 => some [6] | 13 => some [0, 1, 5, 7, 60, 61, 62] | 14 => some [1, 5, 72, 73, 74] | 15 => some [1, 5, 72, 73, 74, 75] | 16 => some [1, 5, 11, 72, 73, 74] | 17 => some [1, 5, 11, 72, 73, 74, 78, 79, 80] | 18 => some [1, 5, 11, 72, 73, 74, 78, 79, 80, 81] | 19 => some [1, 5, 11, 13, 72, 73, 74, 78, 79, 80] | 20 => some [1, 5, 11, 72, 73, 74, 78, 79, 80, 89] | 21 => some [6] | 22 => some [1, 5, 11, 72, 73, 74, 78, 79, 80] | 23 => some [1, 5, 72, 73, 74] | 24 => some [105] | 25 => some [6] | 26 => some [6] | _ => none) 1000 Go.Proofs.Tryd.func87 rfl rfl ⟨Nat.le_of_ble_eq_true rfl, rfl⟩ rfl ?_; unfold Go.Proofs.Tryd.f87; push_cast (maxSteps := 1000000))
  rcases Int.lt_or_le k 1 with a | a
  · have d := decide_eq_true a
    rw [if_pos (.inl (.inl a))] at hR
    subst hR
    (try (push_cast (maxSteps := 1000000) [d]))
  have d1 : decide (k < 1) = false := decide_eq_false (by omega)
  rcases Int.lt_or_le 3 k with a' | a'
  · have d := decide_eq_true a'
    rw [if_pos (.inl (.inr a'))] at hR
    subst hR
    (try (push_cast (maxSteps := 1000000) [d, d1]))
  have hk3 : k = 1 ∨ k = 2 ∨ k = 3 := by omega
  clear a a' d1
  have hall : ∃ rs : List (List Vl), rs = (if k ≠ 3 then [o] else []) ++ (if k ≠ 1 then [n] else []) := ⟨_, rfl⟩
  obtain ⟨rs, hrs⟩ := hall
  obtain ⟨kk, hkk⟩ : ∃ kk, kk = k := ⟨_, rfl⟩
  have h10 : (0 < o.length → k ≠ 3) → (0 < n.length → k ≠ 1) → (∃ r ∈ rs, ¬ r.length = L.length) → R = 10 := by
    rintro f3 f1 ⟨r, hr, hne⟩
    rw [hrs] at hr
    rw [hR, if_neg (by omega), if_pos ?_]
    rcases List.mem_append.1 hr with hr | hr <;> split at hr <;> simp at hr <;> subst hr
    · exact .inl ⟨by assumption, hne⟩
    · exact .inr ⟨by assumption, hne⟩
  have h20 : (0 < o.length → k ≠ 3) → (0 < n.length → k ≠ 1) → (∀ r ∈ rs, r.length = L.length) → (∃ r ∈ rs, nullF ps r = true) → R = 20 := by
    rintro f3 f1 hw ⟨r, hr, hne⟩
    have hx : ¬ ((k ≠ 3 ∧ o.length ≠ L.length) ∨ (k ≠ 1 ∧ n.length ≠ L.length)) := by
      rintro (⟨e, h⟩ | ⟨e, h⟩)
      · exact h (hw o (by rw [hrs, if_pos e]; simp))
      · exact h (hw n (by rw [hrs, if_pos e]; simp))
    rw [hrs] at hr
    rw [hR, if_neg (by omega), if_neg hx, if_pos ?_]
    rcases List.mem_append.1 hr with hr | hr <;> split at hr <;> simp at hr <;> subst hr
    · exact .inl ⟨by assumption, hne⟩
    · exact .inr ⟨by assumption, hne⟩
  have h0 : (0 < o.length → k ≠ 3) → (0 < n.length → k ≠ 1) → (∀ r ∈ rs, r.length = L.length) → (∀ r ∈ rs, nullF ps r = false) → R = if k = 2 ∧ alikeF ps o n = false then 21 else 0 := by
    intro f3 f1 hw hn
    have hx : ¬ ((k ≠ 3 ∧ o.length ≠ L.length) ∨ (k ≠ 1 ∧ n.length ≠ L.length)) := by
      rintro (⟨e, h⟩ | ⟨e, h⟩)
      · exact h (hw o (by rw [hrs, if_pos e]; simp))
      · exact h (hw n (by rw [hrs, if_pos e]; simp))
    rw [hR, if_neg (by omega), if_neg hx, if_neg ?_]
    rintro (⟨e, h⟩ | ⟨e, h⟩)
    · rw [hn o (by rw [hrs, if_pos e]; simp)] at h; cases h
    · rw [hn n (by rw [hrs, if_pos e]; simp)] at h; cases h
  have hpo : k ≠ 3 → (∀ r ∈ rs, r.length = L.length) → o.length = L.length := fun e hw => hw o (by rw [hrs, if_pos e]; simp)
  have hpn : k ≠ 1 → (∀ r ∈ rs, r.length = L.length) → n.length = L.length := fun e hw => hw n (by rw [hrs, if_pos e]; simp)
  have hrl : rs.length = (if k ≠ 3 then 1 else 0) + (if k ≠ 1 then 1 else 0) := by
    rw [hrs, List.length_append]
    split <;> split <;> rfl
  rcases hk3 with rfl | rfl | rfl
  · simp only [Int.reduceEq, ne_eq, not_false_eq_true, not_true_eq_false, if_true, if_false, List.append_nil, Nat.add_zero, Nat.zero_add, Nat.reduceAdd] at hrs hrl
    (try (push_cast (maxSteps := 1000000)))
    refine BrP.mk (fun h => ?_) (fun h => ?_) <;> try (push_cast (maxSteps := 1000000) [h])
    · rw [if_pos (by have := of_decide_eq_true h; omega)] at hR
      simp [hR]
    · have hb := of_decide_eq_false h
      replace h10 := h10 (by omega) (by omega)
      replace h20 := h20 (by omega) (by omega)
      replace h0 := h0 (by omega) (by omega)
      have hre : [[DV.sl 4 (List.map eV o)]] = rs.map eR := by rw [hrs]; rfl
      (try (push_cast (maxSteps := 1000000)))
      refine ⟨⟨.inl trivial, by simp [maxLen]⟩, ?_⟩
      refine LoopK.fz 2 rfl ?_
      (try (push_cast (maxSteps := 1000000)))
      rw [hre]
      refine LoopK.s1 (α := Nat) [62] (fun j => [i2 .i64 j]) (fun j => j ≤ rs.length ∧ ∀ r ∈ rs.take j, r.length = L.length) (fun j => rs.length - j) 1000 0 ⟨by omega, by simp⟩ (by (try (push_cast (maxSteps := 1000000)))) ?_
      rintro j ⟨hj, hw⟩
      by_cases hlt2 : j < rs.length
      · have hv2 := List.getElem?_eq_getElem hlt2
        have hd2 : decide ((j : Int) < 1) = true := decide_eq_true (by omega)
        have htj : rs.take (j + 1) = rs.take j ++ [rs[j]] := by rw [List.take_add_one, hv2]; rfl
        have hmem := List.getElem_mem hlt2
        (try (push_cast (maxSteps := 1000000) [hd2, getD_map hv2]))
        ((repeat' (with_reducible refine And.intro ?_ ?_)) <;> try (first | trivial | omega | exact inK64 (by omega) (by omega) | exact inKu8 (by omega) (by omega) | (simp only [maxLen]; omega) | exact .inl trivial | exact .inl rfl))
        refine BrP.mk (fun h => ?_) (fun h => ?_) <;> try (push_cast (maxSteps := 1000000) [h])
        · have hne : ¬ rs[j].length = L.length := by simp at h; omega
          rw [h10 ⟨_, hmem, hne⟩]
        · have hne : rs[j].length = L.length := by simp at h; omega
          ((repeat' (with_reducible refine And.intro ?_ ?_)) <;> try (first | trivial | omega | exact inK64 (by omega) (by omega) | exact inKu8 (by omega) (by omega) | (simp only [maxLen]; omega) | exact .inl trivial | exact .inl rfl))
          refine ⟨j + 1, ⟨by omega, ?_⟩, by omega, Le.st ?_⟩
          · intro r hr
            rw [htj] at hr
            rcases List.mem_append.1 hr with hr | hr
            · exact hw r hr
            · rw [List.mem_singleton.1 hr]; exact hne
          · (try (push_cast (maxSteps := 1000000)))
            all_goals rfl
      · have hd2 : decide ((j : Int) < 1) = false := decide_eq_false (by omega)
        rw [List.take_of_length_le (by omega)] at hw
        (try (push_cast (maxSteps := 1000000) [hd2]))
        refine LoopK.s1 (α := Nat) [74] (fun j => [i2 .i64 j]) (fun j => j ≤ rs.length ∧ ∀ r ∈ rs.take j, nullF ps r = false) (fun j => rs.length - j) 1000 0 ⟨by omega, by simp⟩ (by (try (push_cast (maxSteps := 1000000)))) ?_
        rintro i ⟨hi, hn⟩
        by_cases hlt3 : i < rs.length
        · have hv3 := List.getElem?_eq_getElem hlt3
          have hd3 : decide ((i : Int) < (rs.length : Int)) = true := decide_eq_true (by omega)
          have hti : rs.take (i + 1) = rs.take i ++ [rs[i]] := by rw [List.take_add_one, hv3]; rfl
          have hmem := List.getElem_mem hlt3
          have hwi := hw _ hmem
          generalize rs[i] = r at *
          (try (push_cast (maxSteps := 1000000) [hd3, getD_map hv3]))
          ((repeat' (with_reducible refine And.intro ?_ ?_)) <;> try (first | trivial | omega | exact inK64 (by omega) (by omega) | exact inKu8 (by omega) (by omega) | (simp only [maxLen]; omega) | exact .inl trivial | exact .inl rfl))
          refine LoopK.s1 (α := Nat) [80] (fun p => [i2 .i64 p]) (fun p => p ≤ ps.length ∧ nullF (ps.drop p) r = nullF ps r) (fun p => ps.length - p) 1000 0 ⟨by omega, rfl⟩ (by (try (push_cast (maxSteps := 1000000)))) ?_
          rintro p ⟨hpp, hnn⟩
          by_cases hlt4 : p < ps.length
          · have hv4 := List.getElem?_eq_getElem hlt4
            have hd4 : decide ((p : Int) < (ps.length : Int)) = true := decide_eq_true (by omega)
            have hpl := hlt _ (List.getElem_mem hlt4)
            rw [drop_cons hv4] at hnn
            generalize ps[p] = x at *
            have hv5 := List.getElem?_eq_getElem (l := r) (i := x) (by omega)
            simp only [nullF, List.any_cons, vAt_get hv5] at hnn
            (try (push_cast (maxSteps := 1000000) [hd4, getD_map hv4]))
            ((repeat' (with_reducible refine And.intro ?_ ?_)) <;> try (first | trivial | omega | exact inK64 (by omega) (by omega) | exact inKu8 (by omega) (by omega) | (simp only [maxLen]; omega) | exact .inl trivial | exact .inl rfl))
            (try (push_cast (maxSteps := 1000000) [getD_map hv5]))
            ((repeat' (with_reducible refine And.intro ?_ ?_)) <;> try (first | trivial | omega | exact inK64 (by omega) (by omega) | exact inKu8 (by omega) (by omega) | (simp only [maxLen]; omega) | exact .inl trivial | exact .inl rfl))
            refine BrP.mk (fun h => ?_) (fun h => ?_) <;> try (push_cast (maxSteps := 1000000) [h])
            · rw [h, Bool.true_or] at hnn
              rw [h20 hw ⟨_, hmem, hnn.symm⟩]
            · rw [h, Bool.false_or] at hnn
              ((repeat' (with_reducible refine And.intro ?_ ?_)) <;> try (first | trivial | omega | exact inK64 (by omega) (by omega) | exact inKu8 (by omega) (by omega) | (simp only [maxLen]; omega) | exact .inl trivial | exact .inl rfl))
              refine ⟨p + 1, ⟨by omega, hnn⟩, by omega, Le.st ?_⟩
              (try (push_cast (maxSteps := 1000000)))
              all_goals rfl
          · have hd4 : decide ((p : Int) < (ps.length : Int)) = false := decide_eq_false (by omega)
            rw [List.drop_eq_nil_of_le (by omega)] at hnn
            (try (push_cast (maxSteps := 1000000) [hd4]))
            ((repeat' (with_reducible refine And.intro ?_ ?_)) <;> try (first | trivial | omega | exact inK64 (by omega) (by omega) | exact inKu8 (by omega) (by omega) | (simp only [maxLen]; omega) | exact .inl trivial | exact .inl rfl))
            refine ⟨i + 1, ⟨by omega, ?_⟩, by omega, Le.st ?_⟩
            · intro y hy
              rw [hti] at hy
              rcases List.mem_append.1 hy with hy | hy
              · exact hn y hy
              · rw [List.mem_singleton.1 hy, ← hnn]; rfl
            · (try (push_cast (maxSteps := 1000000)))
              all_goals rfl
        · have hd3 : decide ((i : Int) < (rs.length : Int)) = false := decide_eq_false (by omega)
          rw [List.take_of_length_le (by omega)] at hn
          have hR0 := h0 hw hn
          (try (push_cast (maxSteps := 1000000) [hd3]))
          (refine DrawK.of (.take 0 (.take 1 (.take 2 (.take 3 (.take 4 (.take 5 (.take 6 (.take 8 (.take 9 (.take 10 (.one 7 (.one 11 (.take 12 (.take 13 .done)))))))))))))) 1000 (by decide +kernel) ?_; try (push_cast (maxSteps := 1000000)))
          simpa using hR0.symm
  · simp only [Int.reduceEq, ne_eq, not_false_eq_true, not_true_eq_false, if_true, if_false, List.append_nil, Nat.add_zero, Nat.zero_add, Nat.reduceAdd, List.cons_append, List.nil_append] at hrs hrl
    (try (push_cast (maxSteps := 1000000)))
    replace h10 := h10 (by omega) (by omega)
    replace h20 := h20 (by omega) (by omega)
    replace h0 := h0 (by omega) (by omega)
    have hre : [[DV.sl 4 (List.map eV o)], [DV.sl 4 (List.map eV n)]] = rs.map eR := by rw [hrs]; rfl
    refine ⟨⟨.inl trivial, by simp [maxLen]⟩, ⟨.inl trivial, by simp [maxLen]⟩, ?_⟩
    refine LoopK.fz 2 rfl ?_
    (try (push_cast (maxSteps := 1000000)))
    rw [hre]
    refine LoopK.s1 (α := Nat) [62] (fun j => [i2 .i64 j]) (fun j => j ≤ rs.length ∧ ∀ r ∈ rs.take j, r.length = L.length) (fun j => rs.length - j) 1000 0 ⟨by omega, by simp⟩ (by (try (push_cast (maxSteps := 1000000)))) ?_
    rintro j ⟨hj, hw⟩
    by_cases hlt2 : j < rs.length
    · have hv2 := List.getElem?_eq_getElem hlt2
      have hd2 : decide ((j : Int) < 2) = true := decide_eq_true (by omega)
      have htj : rs.take (j + 1) = rs.take j ++ [rs[j]] := by rw [List.take_add_one, hv2]; rfl
      have hmem := List.getElem_mem hlt2
      (try (push_cast (maxSteps := 1000000) [hd2, getD_map hv2]))
      ((repeat' (with_reducible refine And.intro ?_ ?_)) <;> try (first | trivial | omega | exact inK64 (by omega) (by omega) | exact inKu8 (by omega) (by omega) | (simp only [maxLen]; omega) | exact .inl trivial | exact .inl rfl))
      refine BrP.mk (fun h => ?_) (fun h => ?_) <;> try (push_cast (maxSteps := 1000000) [h])
      · have hne : ¬ rs[j].length = L.length := by simp at h; omega
        rw [h10 ⟨_, hmem, hne⟩]
      · have hne : rs[j].length = L.length := by simp at h; omega
        ((repeat' (with_reducible refine And.intro ?_ ?_)) <;> try (first | trivial | omega | exact inK64 (by omega) (by omega) | exact inKu8 (by omega) (by omega) | (simp only [maxLen]; omega) | exact .inl trivial | exact .inl rfl))
        refine ⟨j + 1, ⟨by omega, ?_⟩, by omega, Le.st ?_⟩
        · intro r hr
          rw [htj] at hr
          rcases List.mem_append.1 hr with hr | hr
          · exact hw r hr
          · rw [List.mem_singleton.1 hr]; exact hne
        · (try (push_cast (maxSteps := 1000000)))
          all_goals rfl
    · have hd2 : decide ((j : Int) < 2) = false := decide_eq_false (by omega)
      rw [List.take_of_length_le (by omega)] at hw
      (try (push_cast (maxSteps := 1000000) [hd2]))
      refine LoopK.s1 (α := Nat) [74] (fun j => [i2 .i64 j]) (fun j => j ≤ rs.length ∧ ∀ r ∈ rs.take j, nullF ps r = false) (fun j => rs.length - j) 1000 0 ⟨by omega, by simp⟩ (by (try (push_cast (maxSteps := 1000000)))) ?_
      rintro i ⟨hi, hn⟩
      by_cases hlt3 : i < rs.length
      · have hv3 := List.getElem?_eq_getElem hlt3
        have hd3 : decide ((i : Int) < (rs.length : Int)) = true := decide_eq_true (by omega)
        have hti : rs.take (i + 1) = rs.take i ++ [rs[i]] := by rw [List.take_add_one, hv3]; rfl
        have hmem := List.getElem_mem hlt3
        have hwi := hw _ hmem
        generalize rs[i] = r at *
        (try (push_cast (maxSteps := 1000000) [hd3, getD_map hv3]))
        ((repeat' (with_reducible refine And.intro ?_ ?_)) <;> try (first | trivial | omega | exact inK64 (by omega) (by omega) | exact inKu8 (by omega) (by omega) | (simp only [maxLen]; omega) | exact .inl trivial | exact .inl rfl))
        refine LoopK.s1 (α := Nat) [80] (fun p => [i2 .i64 p]) (fun p => p ≤ ps.length ∧ nullF (ps.drop p) r = nullF ps r) (fun p => ps.length - p) 1000 0 ⟨by omega, rfl⟩ (by (try (push_cast (maxSteps := 1000000)))) ?_
        rintro p ⟨hpp, hnn⟩
        by_cases hlt4 : p < ps.length
        · have hv4 := List.getElem?_eq_getElem hlt4
          have hd4 : decide ((p : Int) < (ps.length : Int)) = true := decide_eq_true (by omega)
          have hpl := hlt _ (List.getElem_mem hlt4)
          rw [drop_cons hv4] at hnn
          generalize ps[p] = x at *
          have hv5 := List.getElem?_eq_getElem (l := r) (i := x) (by omega)
          simp only [nullF, List.any_cons, vAt_get hv5] at hnn
          (try (push_cast (maxSteps := 1000000) [hd4, getD_map hv4]))
          ((repeat' (with_reducible refine And.intro ?_ ?_)) <;> try (first | trivial | omega | exact inK64 (by omega) (by omega) | exact inKu8 (by omega) (by omega) | (simp only [maxLen]; omega) | exact .inl trivial | exact .inl rfl))
          (try (push_cast (maxSteps := 1000000) [getD_map hv5]))
          ((repeat' (with_reducible refine And.intro ?_ ?_)) <;> try (first | trivial | omega | exact inK64 (by omega) (by omega) | exact inKu8 (by omega) (by omega) | (simp only [maxLen]; omega) | exact .inl trivial | exact .inl rfl))
          refine BrP.mk (fun h => ?_) (fun h => ?_) <;> try (push_cast (maxSteps := 1000000) [h])
          · rw [h, Bool.true_or] at hnn
            rw [h20 hw ⟨_, hmem, hnn.symm⟩]
          · rw [h, Bool.false_or] at hnn
            ((repeat' (with_reducible refine And.intro ?_ ?_)) <;> try (first | trivial | omega | exact inK64 (by omega) (by omega) | exact inKu8 (by omega) (by omega) | (simp only [maxLen]; omega) | exact .inl trivial | exact .inl rfl))
            refine ⟨p + 1, ⟨by omega, hnn⟩, by omega, Le.st ?_⟩
            (try (push_cast (maxSteps := 1000000)))
            all_goals rfl
        · have hd4 : decide ((p : Int) < (ps.length : Int)) = false := decide_eq_false (by omega)
          rw [List.drop_eq_nil_of_le (by omega)] at hnn
          (try (push_cast (maxSteps := 1000000) [hd4]))
          ((repeat' (with_reducible refine And.intro ?_ ?_)) <;> try (first | trivial | omega | exact inK64 (by omega) (by omega) | exact inKu8 (by omega) (by omega) | (simp only [maxLen]; omega) | exact .inl trivial | exact .inl rfl))
          refine ⟨i + 1, ⟨by omega, ?_⟩, by omega, Le.st ?_⟩
          · intro y hy
            rw [hti] at hy
            rcases List.mem_append.1 hy with hy | hy
            · exact hn y hy
            · rw [List.mem_singleton.1 hy, ← hnn]; rfl
          · (try (push_cast (maxSteps := 1000000)))
            all_goals rfl
      · have hd3 : decide ((i : Int) < (rs.length : Int)) = false := decide_eq_false (by omega)
        rw [List.take_of_length_le (by omega)] at hn
        have hR0 := h0 hw hn
        (try (push_cast (maxSteps := 1000000) [hd3]))
        have e1 := hpo (by simp) hw
        have e2 := hpn (by simp) hw
        (refine DrawK.of (.take 0 (.take 1 (.take 2 (.take 3 (.take 4 (.take 5 (.take 6 (.take 8 (.take 9 (.take 10 (.one 7 (.one 11 (.take 12 (.take 13 .done)))))))))))))) 1000 (by decide +kernel) ?_; try (push_cast (maxSteps := 1000000)))
        refine ⟨_, hmo (fun p hp => by have := hlt p hp; omega), rfl, ?_⟩
        (try (push_cast (maxSteps := 1000000)))
        refine ⟨_, hmn (fun p hp => by have := hlt p hp; omega), rfl, ?_⟩
        (try (push_cast (maxSteps := 1000000)))
        cases ha : alikeF ps o n with
        | true =>
          rw [ha] at hR0 hma
          have hm : decide (markF [110] o ps = markF [110] n ps) = true := decide_eq_true (hma.2 rfl)
          (try (push_cast (maxSteps := 1000000) [hm]))
          simpa using hR0.symm
        | false =>
          rw [ha] at hR0 hma
          have hm : decide (markF [110] o ps = markF [110] n ps) = false := decide_eq_false (fun e => by cases hma.1 e)
          (try (push_cast (maxSteps := 1000000) [hm]))
          simpa using hR0.symm
  · simp only [Int.reduceEq, ne_eq, not_false_eq_true, not_true_eq_false, if_true, if_false, List.nil_append, Nat.add_zero, Nat.zero_add, Nat.reduceAdd] at hrs hrl
    (try (push_cast (maxSteps := 1000000)))
    refine BrP.mk (fun h => ?_) (fun h => ?_) <;> try (push_cast (maxSteps := 1000000) [h])
    · rw [if_pos (by have := of_decide_eq_true h; omega)] at hR
      simp [hR]
    · have hb := of_decide_eq_false h
      replace h10 := h10 (by omega) (by omega)
      replace h20 := h20 (by omega) (by omega)
      replace h0 := h0 (by omega) (by omega)
      have hre : [[DV.sl 4 (List.map eV n)]] = rs.map eR := by rw [hrs]; rfl
      (try (push_cast (maxSteps := 1000000)))
      refine ⟨⟨.inl trivial, by simp [maxLen]⟩, ?_⟩
      refine LoopK.fz 2 rfl ?_
      (try (push_cast (maxSteps := 1000000)))
      rw [hre]
      refine LoopK.s1 (α := Nat) [62] (fun j => [i2 .i64 j]) (fun j => j ≤ rs.length ∧ ∀ r ∈ rs.take j, r.length = L.length) (fun j => rs.length - j) 1000 0 ⟨by omega, by simp⟩ (by (try (push_cast (maxSteps := 1000000)))) ?_
      rintro j ⟨hj, hw⟩
      by_cases hlt2 : j < rs.length
      · have hv2 := List.getElem?_eq_getElem hlt2
        have hd2 : decide ((j : Int) < 1) = true := decide_eq_true (by omega)
        have htj : rs.take (j + 1) = rs.take j ++ [rs[j]] := by rw [List.take_add_one, hv2]; rfl
        have hmem := List.getElem_mem hlt2
        (try (push_cast (maxSteps := 1000000) [hd2, getD_map hv2]))
        ((repeat' (with_reducible refine And.intro ?_ ?_)) <;> try (first | trivial | omega | exact inK64 (by omega) (by omega) | exact inKu8 (by omega) (by omega) | (simp only [maxLen]; omega) | exact .inl trivial | exact .inl rfl))
        refine BrP.mk (fun h => ?_) (fun h => ?_) <;> try (push_cast (maxSteps := 1000000) [h])
        · have hne : ¬ rs[j].length = L.length := by simp at h; omega
          rw [h10 ⟨_, hmem, hne⟩]
        · have hne : rs[j].length = L.length := by simp at h; omega
          ((repeat' (with_reducible refine And.intro ?_ ?_)) <;> try (first | trivial | omega | exact inK64 (by omega) (by omega) | exact inKu8 (by omega) (by omega) | (simp only [maxLen]; omega) | exact .inl trivial | exact .inl rfl))
          refine ⟨j + 1, ⟨by omega, ?_⟩, by omega, Le.st ?_⟩
          · intro r hr
            rw [htj] at hr
            rcases List.mem_append.1 hr with hr | hr
            · exact hw r hr
            · rw [List.mem_singleton.1 hr]; exact hne
          · (try (push_cast (maxSteps := 1000000)))
            all_goals rfl
      · have hd2 : decide ((j : Int) < 1) = false := decide_eq_false (by omega)
        rw [List.take_of_length_le (by omega)] at hw
        (try (push_cast (maxSteps := 1000000) [hd2]))
        refine LoopK.s1 (α := Nat) [74] (fun j => [i2 .i64 j]) (fun j => j ≤ rs.length ∧ ∀ r ∈ rs.take j, nullF ps r = false) (fun j => rs.length - j) 1000 0 ⟨by omega, by simp⟩ (by (try (push_cast (maxSteps := 1000000)))) ?_
        rintro i ⟨hi, hn⟩
        by_cases hlt3 : i < rs.length
        · have hv3 := List.getElem?_eq_getElem hlt3
          have hd3 : decide ((i : Int) < (rs.length : Int)) = true := decide_eq_true (by omega)
          have hti : rs.take (i + 1) = rs.take i ++ [rs[i]] := by rw [List.take_add_one, hv3]; rfl
          have hmem := List.getElem_mem hlt3
          have hwi := hw _ hmem
          generalize rs[i] = r at *
          (try (push_cast (maxSteps := 1000000) [hd3, getD_map hv3]))
          ((repeat' (with_reducible refine And.intro ?_ ?_)) <;> try (first | trivial | omega | exact inK64 (by omega) (by omega) | exact inKu8 (by omega) (by omega) | (simp only [maxLen]; omega) | exact .inl trivial | exact .inl rfl))
          refine LoopK.s1 (α := Nat) [80] (fun p => [i2 .i64 p]) (fun p => p ≤ ps.length ∧ nullF (ps.drop p) r = nullF ps r) (fun p => ps.length - p) 1000 0 ⟨by omega, rfl⟩ (by (try (push_cast (maxSteps := 1000000)))) ?_
          rintro p ⟨hpp, hnn⟩
          by_cases hlt4 : p < ps.length
          · have hv4 := List.getElem?_eq_getElem hlt4
            have hd4 : decide ((p : Int) < (ps.length : Int)) = true := decide_eq_true (by omega)
            have hpl := hlt _ (List.getElem_mem hlt4)
            rw [drop_cons hv4] at hnn
            generalize ps[p] = x at *
            have hv5 := List.getElem?_eq_getElem (l := r) (i := x) (by omega)
            simp only [nullF, List.any_cons, vAt_get hv5] at hnn
            (try (push_cast (maxSteps := 1000000) [hd4, getD_map hv4]))
            ((repeat' (with_reducible refine And.intro ?_ ?_)) <;> try (first | trivial | omega | exact inK64 (by omega) (by omega) | exact inKu8 (by omega) (by omega) | (simp only [maxLen]; omega) | exact .inl trivial | exact .inl rfl))
            (try (push_cast (maxSteps := 1000000) [getD_map hv5]))
            ((repeat' (with_reducible refine And.intro ?_ ?_)) <;> try (first | trivial | omega | exact inK64 (by omega) (by omega) | exact inKu8 (by omega) (by omega) | (simp only [maxLen]; omega) | exact .inl trivial | exact .inl rfl))
            refine BrP.mk (fun h => ?_) (fun h => ?_) <;> try (push_cast (maxSteps := 1000000) [h])
            · rw [h, Bool.true_or] at hnn
              rw [h20 hw ⟨_, hmem, hnn.symm⟩]
            · rw [h, Bool.false_or] at hnn
              ((repeat' (with_reducible refine And.intro ?_ ?_)) <;> try (first | trivial | omega | exact inK64 (by omega) (by omega) | exact inKu8 (by omega) (by omega) | (simp only [maxLen]; omega) | exact .inl trivial | exact .inl rfl))
              refine ⟨p + 1, ⟨by omega, hnn⟩, by omega, Le.st ?_⟩
              (try (push_cast (maxSteps := 1000000)))
              all_goals rfl
          · have hd4 : decide ((p : Int) < (ps.length : Int)) = false := decide_eq_false (by omega)
            rw [List.drop_eq_nil_of_le (by omega)] at hnn
            (try (push_cast (maxSteps := 1000000) [hd4]))
            ((repeat' (with_reducible refine And.intro ?_ ?_)) <;> try (first | trivial | omega | exact inK64 (by omega) (by omega) | exact inKu8 (by omega) (by omega) | (simp only [maxLen]; omega) | exact .inl trivial | exact .inl rfl))
            refine ⟨i + 1, ⟨by omega, ?_⟩, by omega, Le.st ?_⟩
            · intro y hy
              rw [hti] at hy
              rcases List.mem_append.1 hy with hy | hy
              · exact hn y hy
              · rw [List.mem_singleton.1 hy, ← hnn]; rfl
            · (try (push_cast (maxSteps := 1000000)))
              all_goals rfl
        · have hd3 : decide ((i : Int) < (rs.length : Int)) = false := decide_eq_false (by omega)
          rw [List.take_of_length_le (by omega)] at hn
          have hR0 := h0 hw hn
          (try (push_cast (maxSteps := 1000000) [hd3]))
          (refine DrawK.of (.take 0 (.take 1 (.take 2 (.take 3 (.take 4 (.take 5 (.take 6 (.take 8 (.take 9 (.take 10 (.one 7 (.one 11 (.take 12 (.take 13 .done)))))))))))))) 1000 (by decide +kernel) ?_; try (push_cast (maxSteps := 1000000)))
          simpa using hR0.symm
end Go.LS.Tryd
