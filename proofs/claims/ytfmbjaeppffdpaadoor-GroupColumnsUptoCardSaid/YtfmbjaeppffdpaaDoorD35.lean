/- Contracts of the functions of the seat, one by one (part D35); no condition but those that each bears. -/
import Derived.Test.YtfmbjaeppffdpaaDoorD34
namespace Go.LS.Tryd
open Go Go.LS
set_option maxRecDepth 100000
set_option linter.unusedSimpArgs false
set_option linter.unusedVariables false

theorem column_place {L : List Cl} {a : Ag} (h : (columnG L a).2 = 0) (h1 : a.op ≠ 1) : placeN L a.col < L.length := by
  unfold columnG at h
  split at h
  · cases h
  · split at h
    · cases h
    · rename_i hf
      exact placeN_lt (by simpa [foundN] using hf)
theorem find_ok {L : List Cl} {ks : List ByteArray} (h : (keyF L [] ks 0).2 = 0) : findG L ks = (placesN L ks, ks.length, 0) := by
  unfold findG
  rw [if_neg (by simp [h])]
set_option maxHeartbeats 2000000 in
theorem d60 (t : Tb) (ks : List ByteArray) (ag : List Ag) (ht : okT2 t) (hk : okKeys ks) (ha : ag.length ≤ 1000) (hn : ∀ a ∈ ag, a.nm.size ≤ 1099511627776) (hR : t.R.length ≤ 90000) :
    Spec V 60 [.ag ((eT t).map .d), .c (.d (.sl 1 (ks.map eS))), .c (.d (.sl 3 (ag.map eAg)))] (.tu [.ag ((eT (groupC t ks ag).1).map .d), i2 .i64 (groupC t ks ag).2]) := by
  have hk' : ks.length ≤ 64 := hk
  obtain ⟨L, A⟩ := t
  obtain ⟨hL, hAl, hAv, hAr⟩ := ht
  simp only at hL hAl hAv hAr hR
  have h51 := d51 L ks ag hL hk ha hn
  have h111 := d111 ⟨L, A⟩ hAl (fun r hr => (hAv r hr).1)
  have h94 := d94 L ks hL hk
  obtain ⟨F, hF⟩ : ∃ F, F = groupC ⟨L, A⟩ ks ag := ⟨_, rfl⟩
  rw [← hF]
  unfold groupC at hF
  simp only at hF
  simp only [eT_eq] at h111
  (refine Spec.of_go (L := fun | 0 => some [1, 2, 3, 6] | 1 => some [1, 2, 3, 6, 8, 10] | 2 => some [1, 2, 3, 6, 8, 10, 34] | 3 => some [6, 7] | 4 => some [1, 2, 3, 6, 8, 39] | 5 => some [6, 7] | 6 => some [2, 3, 6, 8, 11] | 7 => some [2, 3, 6, 11, 14] | 8 => some [2, 3, 6, 11, 14, 54, 55, 56] | 9 => some [2, 3, 6, 11, 14, 54, 55, 56, 57] | 10 => some [2, 3, 6, 11, 14, 16, 54, 55, 56] | 11 => some [2, 3, 6, 11, 14, 16, 17, 54, 55, 56] | 12 => some [2, 3, 6, 11, 14, 16, 17, 54, 55, 56, 60, 61, 62] | 13 => some [2, 3, 6, 11, 14, 16, 17, 54, 55, 56, 60, 61, 62, 63] | 14 => some [2, 3, 6, 11, 14, 16, 17, 19, 54, 55, 56, 60, 61, 62] | 15 => some [2, 3, 6, 11, 14, 16, 17, 54, 55, 56, 60, 61, 62] | 16 => some [2, 3, 6, 11, 14, 16, 17, 54, 55, 56, 60, 61, 62] | 17 => some [2, 3, 6, 11, 14, 16, 17, 54, 55, 56, 76, 77, 78] | 18 => some [2, 3, 6, 11, 14, 16, 17, 54, 55, 56, 76, 77, 78, 79] | 19 => some [2, 3, 6, 11, 14, 16, 17, 21, 54, 55, 56, 76, 77, 78] | 20 => some [2, 3, 6, 11, 14, 16, 17, 22, 23, 54, 55, 56, 76, 77, 78] | 21 => some [2, 3, 6, 11, 14, 16, 17, 22, 23, 54, 55, 56, 76, 77, 78, 91] | 22 => some [6, 7] | 23 => some [2, 3, 6, 11, 14, 16, 17, 54, 55, 56, 76, 77, 78] | 24 => some [2, 3, 6, 11, 14, 16, 17, 54, 55, 56, 76, 77, 78] | 25 => some [2, 3, 6, 11, 14, 54, 55, 56] | 26 => some [2, 3, 6, 11, 14, 54, 55, 56] | 27 => some [6, 7] | _ => none) 1000 Go.Proofs.Tryd.func60 rfl rfl ⟨Nat.le_of_ble_eq_true rfl, rfl⟩ rfl ?_; unfold Go.Proofs.Tryd.f60; push_cast (maxSteps := 1000000))
  refine ⟨_, h51, rfl, ?_⟩
  by_cases c1 : (colsG L ks ag).2.2 = 0
  · rw [if_neg (by simp [c1])] at hF
    obtain ⟨q1, q2, q3, q4, q5⟩ := colsG_ok c1
    have hfound := key_found L ks [] 0 q2
    rw [find_ok q2] at h94
    (try (push_cast (maxSteps := 1000000) [c1]))
    refine ⟨_, h111, rfl, ?_⟩
    cases ea : evenF ⟨L, A⟩ with
    | false =>
      rw [ea, if_pos rfl] at hF
      subst hF
      (try (push_cast (maxSteps := 1000000)))
    | true =>
      rw [ea, if_neg (by simp)] at hF
      have hrow : ∀ x ∈ A, x.length = L.length := by simpa [evenF] using ea
      have hplt := placesN_lt hfound
      have hpl : (placesN L ks).length ≤ 64 := by rw [placesN, List.length_map]; exact hk'
      generalize placesN L ks = ps at *
      have h112 := d112 A ps (by omega) (fun r hr v hv => (hAv r hr).2 v hv) hpl (fun r hr p hp => by rw [hrow r hr]; exact hplt p hp)
      have hgm := fun g (h : g ∈ partC ps A) => partC_mem h
      have hgl := partC_len ps A
      generalize partC ps A = gs at *
      generalize (colsG L ks ag).1 = L' at *
      (try (push_cast (maxSteps := 1000000)))
      refine ⟨_, h94, rfl, ?_⟩
      (try (push_cast (maxSteps := 1000000)))
      refine ⟨_, h112, rfl, ?_⟩
      (try (push_cast (maxSteps := 1000000)))
      refine LoopK.le (Le.nilB 2 1 51 1 (by decide) rfl rfl) ?_
      (try (push_cast (maxSteps := 1000000)))
      refine LoopK.ov (α := Nat × List (List Vl)) [56] (fun s => [i2 .i64 s.1]) (fun s => [.bx 25 [.d (.sl 3 (L.map eC)), .d (.sl 1 (A.map eR))], .bx 25 [.d (.v (.slice none 0 0)), .d (.v (.slice none 0 0))], .bx 25 [.d (.sl 3 (L'.map eC)), .os 3], .rw 51 1 (s.2.map eR)]) (fun s => s.1 ≤ gs.length ∧ s.2.length = s.1 ∧ rowsG L ps ag (gs.drop s.1) s.2 = rowsG L ps ag gs []) (fun s => gs.length - s.1) 1000 (0, []) ⟨by simp, rfl, rfl⟩ (by (try (push_cast (maxSteps := 1000000))) <;> first | rfl | exact ⟨rfl, rfl⟩ | exact ⟨rfl, rfl, rfl⟩ | trivial) ?_
      rintro ⟨k, out⟩ ⟨hk1, hol, hrun⟩
      simp only at hk1 hol hrun
      by_cases hlt : k < gs.length
      · have hv := List.getElem?_eq_getElem hlt; have hd : decide ((k : Int) < (gs.length : Int)) = true := decide_eq_true (by omega)
        rw [drop_cons hv] at hrun
        simp only [rowsG] at hrun
        obtain ⟨g1, g2, g3⟩ := hgm _ (List.getElem_mem hlt)
        generalize gs[k] = g at *
        have hgi : (gs.map eRs).getD k [] = eRs g := getD_map hv
        simp only [eRs_eq] at hgi
        (try (push_cast (maxSteps := 1000000) [hd, hgi]))
        ((repeat' (with_reducible refine And.intro ?_ ?_)) <;> try (first | trivial | omega | exact inK64 (by omega) (by omega) | exact inKu8 (by omega) (by omega) | (simp only [maxLen]; omega) | exact .inl trivial | exact .inl rfl))
        refine LoopK.le (Le.nil 17 103 4 (by decide) (by (try (push_cast (maxSteps := 1000000))))) ?_
        (try (push_cast (maxSteps := 1000000)))
        refine LoopK.ov (α := Nat) [62] (fun j => [i2 .i64 j]) (fun j => [.bx 25 [.d (.sl 3 (L.map eC)), .d (.sl 1 (A.map eR))], .bx 25 [.d (.v (.slice none 0 0)), .d (.v (.slice none 0 0))], .bx 25 [.d (.sl 3 (L'.map eC)), .os 3], .rw 51 1 (out.map eR), .rw 103 4 ((keysV (ps.take j) g).map eV)]) (fun j => j ≤ ps.length) (fun j => ps.length - j) 1000 0 (by omega) (by (try (push_cast (maxSteps := 1000000))) <;> first | rfl | exact ⟨rfl, rfl⟩ | exact ⟨rfl, rfl, rfl⟩ | trivial) ?_
        rintro j hj
        by_cases hlt2 : j < ps.length
        · have hv2 := List.getElem?_eq_getElem hlt2
          have hd2 : decide ((j : Int) < (ps.length : Int)) = true := decide_eq_true (by omega)
          have hg0 : 0 < g.length := Nat.pos_of_ne_zero fun e => g1 (by omega) (List.eq_nil_of_length_eq_zero e)
          have hv3 := List.getElem?_eq_getElem hg0
          have hh : g.headD [] = g[0] := by cases g with | nil => simp at hg0 | cons r g => rfl
          have hrm := g3 _ (List.getElem_mem hg0)
          have hpr := hplt ps[j] (List.getElem_mem hlt2)
          rw [← hrow _ hrm] at hpr
          have hv4 := List.getElem?_eq_getElem hpr
          have hkt : keysV (ps.take (j + 1)) g = keysV (ps.take j) g ++ [g[0][ps[j]]] := by
            unfold keysV
            rw [List.take_add_one, hv2, Option.toList_some, List.map_append, List.map_cons, List.map_nil, hh, vAt_get hv4]
          have hkl : (keysV (ps.take j) g).length = j := by unfold keysV; rw [List.length_map, List.length_take]; omega
          generalize g[0][ps[j]] = v at *
          generalize g[0] = r at *
          generalize ps[j] = p at *
          obtain ⟨vk, vs, vn, vb⟩ := v
          have hci : (r.map eV).getD p [] = eV ⟨vk, vs, vn, vb⟩ := getD_map hv4
          simp only [eV_eq] at hci hkt
          (try (push_cast (maxSteps := 1000000) [hd2, getD_map hv2, getD_map hv3, hci, List.length_map, hkl]))
          ((repeat' (with_reducible refine And.intro ?_ ?_)) <;> try (first | trivial | omega | exact inK64 (by omega) (by omega) | exact inKu8 (by omega) (by omega) | (simp only [maxLen]; omega) | exact .inl trivial | exact .inl rfl))
          all_goals (try (simp only [maxLen]; omega))
          refine ⟨j + 1, by omega, by omega, Le.st ?_⟩
          rw [hkt]
          (try (push_cast (maxSteps := 1000000)))
          all_goals (first | rfl | (simp; done) | (simp; rfl) | trace_state)
        · have hd2 : decide ((j : Int) < (ps.length : Int)) = false := decide_eq_false (by omega)
          rw [show ps.take j = ps from List.take_of_length_le (by omega)]
          have hkl : (keysV ps g).length = ps.length := by simp [keysV]
          (try (push_cast (maxSteps := 1000000) [hd2]))
          clear hd2 hlt2 hj
          refine LoopK.ov (α := Nat × List Vl) [78] (fun s => [i2 .i64 s.1]) (fun s => [.bx 25 [.d (.sl 3 (L.map eC)), .d (.sl 1 (A.map eR))], .bx 25 [.d (.v (.slice none 0 0)), .d (.v (.slice none 0 0))], .bx 25 [.d (.sl 3 (L'.map eC)), .os 3], .rw 51 1 (out.map eR), .rw 103 4 (s.2.map eV)]) (fun s => s.1 ≤ ag.length ∧ s.2.length = ps.length + s.1 ∧ tellsG L g (ag.drop s.1) s.2 = tellsG L g ag (keysV ps g)) (fun s => ag.length - s.1) 1000 (0, keysV ps g) ⟨by simp, by simp [hkl], rfl⟩ (by (try (push_cast (maxSteps := 1000000))) <;> first | rfl | exact ⟨rfl, rfl⟩ | exact ⟨rfl, rfl, rfl⟩ | trivial) ?_
          rintro ⟨j, w⟩ ⟨hj, hwl, htr⟩
          simp only at hj hwl htr
          by_cases hlt2 : j < ag.length
          · have hv2 := List.getElem?_eq_getElem hlt2
            have hd2 : decide ((j : Int) < (ag.length : Int)) = true := decide_eq_true (by omega)
            rw [drop_cons hv2] at htr
            simp only [tellsG] at htr
            have hcp := fun h1 => column_place (q3 _ (List.getElem_mem hlt2)) h1
            generalize ag[j] = a at *
            have h113 := d113 L a g hL.1 (by omega) (fun r hr v hv => (hAv r (g3 r hr)).2 v hv) (fun h1 r hr => by rw [hrow r (g3 r hr)]; exact hcp h1)
            obtain ⟨op, col, nm⟩ := a
            generalize tellG L ⟨op, col, nm⟩ g = T at *
            obtain ⟨⟨tk, ts, tn, tb⟩, te⟩ := T
            simp only [eV_eq, eAg_eq] at h113 htr
            (try (push_cast (maxSteps := 1000000) [hd2, getD_map hv2]))
            ((repeat' (with_reducible refine And.intro ?_ ?_)) <;> try (first | trivial | omega | exact inK64 (by omega) (by omega) | exact inKu8 (by omega) (by omega) | (simp only [maxLen]; omega) | exact .inl trivial | exact .inl rfl))
            refine ⟨_, h113, rfl, ?_⟩
            by_cases t0 : te = 0
            · rw [if_neg (by simp [t0])] at htr
              (try (push_cast (maxSteps := 1000000) [t0, List.length_map]))
              ((repeat' (with_reducible refine And.intro ?_ ?_)) <;> try (first | trivial | omega | exact inK64 (by omega) (by omega) | exact inKu8 (by omega) (by omega) | (simp only [maxLen]; omega) | exact .inl trivial | exact .inl rfl))
              all_goals (try (simp only [maxLen]; omega))
              refine ⟨(j + 1, w ++ [⟨tk, ts, tn, tb⟩]), ⟨by simp only; omega, by simp only [List.length_append, List.length_cons, List.length_nil]; omega, by simp only; exact htr⟩, by simp only; omega, Le.st ?_⟩
              (try (push_cast (maxSteps := 1000000)))
              all_goals (first | rfl | (simp; done) | (simp; rfl) | trace_state)
            · rw [if_pos t0] at htr
              rw [← htr, if_pos t0] at hrun
              rw [← hrun, if_pos t0] at hF
              subst hF
              (try (push_cast (maxSteps := 1000000) [t0]))
          · have hd2 : decide ((j : Int) < (ag.length : Int)) = false := decide_eq_false (by omega)
            rw [List.drop_eq_nil_of_le (by omega)] at htr
            simp only [tellsG] at htr
            rw [← htr, if_neg (by simp)] at hrun
            simp only at hrun
            (try (push_cast (maxSteps := 1000000) [hd2, List.length_map]))
            ((repeat' (with_reducible refine And.intro ?_ ?_)) <;> try (first | trivial | omega | exact inK64 (by omega) (by omega) | exact inKu8 (by omega) (by omega) | (simp only [maxLen]; omega) | exact .inl trivial | exact .inl rfl))
            all_goals (try (simp only [maxLen]; omega))
            refine ⟨(k + 1, out ++ [w]), ⟨by simp only; omega, by simp only [List.length_append, List.length_cons, List.length_nil]; omega, by simp only; exact hrun⟩, by simp only; omega, Le.st ?_⟩
            (try (push_cast (maxSteps := 1000000)))
            all_goals (first | rfl | exact ⟨rfl, rfl⟩ | (simp; done) | (simp; rfl) | trace_state)
      · have hd : decide ((k : Int) < (gs.length : Int)) = false := decide_eq_false (by omega)
        rw [List.drop_eq_nil_of_le (by omega)] at hrun
        simp only [rowsG] at hrun
        rw [← hrun, if_neg (by simp)] at hF
        subst hF
        (try (push_cast (maxSteps := 1000000) [hd]))
        all_goals trace_state
  · rw [if_pos c1] at hF
    subst hF
    (try (push_cast (maxSteps := 1000000) [c1]))
end Go.LS.Tryd
