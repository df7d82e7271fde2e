/- Contracts of the functions of the seat, one by one (part D11); no condition but those that each bears. -/
import Derived.Test.YtfmbjaeppffdpaaDoorPD
import Derived.Test.YtfmbjaeppffdpaaDoorD10
namespace Go.LS.Tryd
open Go Go.LS
set_option maxRecDepth 100000
set_option linter.unusedSimpArgs false
set_option linter.unusedVariables false

theorem d89R (r : List (List Vl)) (hr : okLen r) : SpecR V 89 [.c (.d (.sl 1 (r.map eR)))] 51 1 (r.map eR) := by
  (refine SpecR.of_go2 (L := fun | 0 => some [0] | 1 => some [0, 4] | 2 => some [2] | 3 => some [2] | _ => none) 1000 Go.Proofs.Tryd.func89 rfl rfl ⟨Nat.le_of_ble_eq_true rfl, rfl⟩ (by decide) ?_; unfold Go.Proofs.Tryd.f89; push_cast (maxSteps := 1000000))
  intro b hb
  (try (push_cast (maxSteps := 1000000)))
  refine BrP.mk (fun h => ?_) (fun h => ?_) <;> try (push_cast (maxSteps := 1000000) [h])
  · have := hb h
    simp at this
    simp [this]
  · ((repeat' (with_reducible refine And.intro ?_ ?_)) <;> try (first | trivial | omega | exact inK64 (by omega) (by omega) | exact inKu8 (by omega) (by omega) | (simp only [maxLen]; omega) | exact .inl trivial | exact .inl rfl))
    all_goals trace_state
theorem d78 (r : List Cl) (hr : okLen r) : Spec V 78 [.c (.d (.sl 3 (r.map eC)))] (.c (.d (.sl 3 (r.map eC)))) := by
  (refine Spec.of_go (L := fun | 0 => some [0] | 1 => some [0, 4] | 2 => some [2] | 3 => some [2] | _ => none) 1000 Go.Proofs.Tryd.func78 rfl rfl ⟨Nat.le_of_ble_eq_true rfl, rfl⟩ rfl ?_; unfold Go.Proofs.Tryd.f78; push_cast (maxSteps := 1000000))
  intro b hb
  (try (push_cast (maxSteps := 1000000)))
  refine BrP.mk (fun h => ?_) (fun h => ?_) <;> try (push_cast (maxSteps := 1000000) [h])
  · have := hb h
    simp at this
    simp [this]
  · ((repeat' (with_reducible refine And.intro ?_ ?_)) <;> try (first | trivial | omega | exact inK64 (by omega) (by omega) | exact inKu8 (by omega) (by omega) | (simp only [maxLen]; omega) | exact .inl trivial | exact .inl rfl))
    all_goals trace_state
set_option maxHeartbeats 1000000 in
theorem d47 (t : Tb) (ks : List ByteArray) (cs : List Ch) (ht : okT2 t) (hk : okKeys ks) (hc : okChs cs) (hr : ∀ c ∈ cs, rightC c) (htl : t.R.length ≤ 1000) (hcl : cs.length ≤ 1000) :
    Spec V 47 [.ag ((eT t).map .d), .c (.d (.sl 1 (ks.map eS))), .c (.d (.sl 3 (cs.map eCh)))] (.tu [.ag ((eT ⟨if (applyF t ks cs).2.2 = 0 then t.L else [], (applyF t ks cs).1⟩).map .d), i2 .i64 ((applyF t ks cs).2.1 : Int), i2 .i64 (applyF t ks cs).2.2]) := by
  have h18 := d18 t ks ht hk
  have h45 := d45 t.L ks cs ht.l hk hc hr
  have h86 := d86 t.L ks ht.l.1 hk
  have h89 := d89R t.R ht.r
  have h78 := d78 t.L ht.l.1
  obtain ⟨L, R0⟩ := t
  obtain ⟨R, hR⟩ : ∃ R, R = applyF ⟨L, R0⟩ ks cs := ⟨_, rfl⟩
  rw [← hR]
  simp only [applyF] at hR
  simp only [eT_eq] at h18 h45 h86 h89 h78
  (refine to1 ?_; refine Spec.of_go (V := V2) (L := fun | 0 => some [1, 2, 3, 6] | 1 => some [1, 2, 3, 6, 10] | 2 => some [1, 2, 3, 6, 10, 34] | 3 => some [6, 7, 8] | 4 => some [1, 2, 3, 6, 11, 12] | 5 => some [1, 2, 3, 6, 11, 12, 46] | 6 => some [6, 7, 8] | 7 => some [2, 3, 6, 13] | 8 => some [2, 3, 6, 13, 14] | 9 => some [2, 3, 6, 13, 14, 15] | 10 => some [2, 3, 6, 13, 14, 15, 16] | 11 => some [2, 3, 6, 13, 14, 15, 16, 61, 62, 63] | 12 => some [2, 3, 6, 13, 14, 15, 16, 61, 62, 63, 64] | 13 => some [2, 3, 6, 13, 14, 15, 16, 17, 18, 61, 62, 63] | 14 => some [2, 3, 6, 13, 14, 15, 16, 61, 62, 63] | 15 => some [2, 3, 6, 13, 14, 15, 16, 61, 62, 63] | 16 => some [2, 3, 6, 13, 14, 15, 16, 74, 75, 76] | 17 => some [2, 3, 6, 13, 14, 15, 16, 74, 75, 76, 77] | 18 => some [2, 3, 6, 13, 14, 15, 16, 19, 20, 74, 75, 76] | 19 => some [2, 3, 6, 13, 14, 15, 16, 19, 20, 21, 74, 75, 76] | 20 => some [2, 3, 6, 13, 14, 15, 16, 19, 20, 21, 22, 23, 74, 75, 76] | 21 => some [2, 3, 6, 13, 14, 15, 16, 74, 75, 76] | 22 => some [2, 3, 6, 13, 14, 15, 16, 19, 20, 21, 22, 23, 74, 75, 76, 95] | 23 => some [6, 7, 8] | 24 => some [2, 3, 6, 13, 14, 15, 16, 19, 20, 21, 22, 23, 74, 75, 76, 104] | 25 => some [2, 3, 6, 13, 14, 15, 16, 20, 74, 75, 76] | 26 => some [2, 3, 6, 13, 14, 15, 16, 74, 75, 76] | 27 => some [2, 3, 6, 13, 14, 15, 16, 74, 75, 76] | 28 => some [2, 3, 6, 13, 14, 15, 16, 19, 20, 21, 22, 74, 75, 76, 120] | 29 => some [6, 7, 8] | 30 => some [2, 3, 6, 13, 14, 15, 16, 19, 20, 21, 22, 74, 75, 76, 125] | 31 => some [6, 7, 8] | 32 => some [2, 3, 6, 13, 14, 15, 16, 20, 21, 22, 74, 75, 76, 136] | 33 => some [2, 3, 6, 13, 14, 15, 16, 22, 74, 75, 76] | 34 => some [2, 3, 6, 13, 14, 15, 16, 74, 75, 76] | 35 => some [2, 3, 6, 13, 14, 15, 16, 74, 75, 76] | 36 => some [2, 6, 14, 15, 24] | 37 => some [2, 6, 15, 24, 150, 151, 152] | 38 => some [2, 6, 15, 24, 150, 151, 152, 153] | 39 => some [2, 6, 15, 24, 25, 26, 150, 151, 152] | 40 => some [2, 6, 15, 24, 26, 150, 151, 152, 161] | 41 => some [2, 6, 15, 24, 150, 151, 152] | 42 => some [2, 6, 15, 24, 150, 151, 152] | 43 => some [6, 7, 8] | _ => none) 1000 Go.Proofs.Tryd.func47 rfl rfl ⟨Nat.le_of_ble_eq_true rfl, rfl⟩ rfl ?_; unfold Go.Proofs.Tryd.f47; push_cast (maxSteps := 1000000))
  refine ⟨_, to2 h18, rfl, ?_⟩
  (try (push_cast (maxSteps := 1000000)))
  refine BrP.mk (fun h => ?_) (fun h => ?_) <;> try (push_cast (maxSteps := 1000000) [h])
  · have h' : ¬ (tabF ⟨L, R0⟩ ks).2 = 0 := by simpa using h
    rw [if_pos h'] at hR
    subst hR
    (try (push_cast (maxSteps := 1000000)))
    all_goals simp [h']
  · have h' : (tabF ⟨L, R0⟩ ks).2 = 0 := by simpa using h
    rw [if_neg (by simp [h'])] at hR
    refine ⟨_, to2 h45, rfl, ?_⟩
    (try (push_cast (maxSteps := 1000000)))
    refine BrP.mk (fun h => ?_) (fun h => ?_) <;> try (push_cast (maxSteps := 1000000) [h])
    · have h2 : ¬ (checkP L ks cs).2 = 0 := by simpa using h
      rw [if_pos h2] at hR
      subst hR
      (try (push_cast (maxSteps := 1000000)))
      all_goals simp [h2]
    · have h2 : (checkP L ks cs).2 = 0 := by simpa using h
      rw [if_neg (by simp [h2])] at hR
      refine ⟨_, to2 h86, rfl, ?_⟩
      (try (push_cast (maxSteps := 1000000)))
      refine .inl ⟨_, _, _, toR2 h89, ?_⟩
      (try (push_cast (maxSteps := 1000000)))
      refine ⟨⟨by omega, by have : R0.length ≤ 1000 := htl; omega, by have : R0.length ≤ 1000 := htl; omega⟩, ?_⟩
      have hpl : (placesN L ks).length ≤ 64 := by simpa [placesN, okKeys] using hk
      have hplt := tab_lt h'
      have hrows := tab_rows h'
      have hap := tab_apart h'
      obtain ⟨h2a, h2b⟩ := ones_ok (show (onesP L.length (placesN L ks) cs 0).2 = 0 by
        have := h2
        simp only [checkP] at this
        split at this
        · exact absurd this (by assumption)
        · exact this)
      have htl' : R0.length ≤ 1000 := htl
      obtain ⟨htL, htr, htv, htrt⟩ := ht
      simp only at hplt hrows hap htL htr htv htrt
      clear h18 h45 h86 h89 h' h2 h h2b
      generalize placesN L ks = ps at *
      have hmk : ∀ r ∈ R0, Spec V2 90 [.c (.d (.sl 4 (r.map eV))), .c (.d (.sl 1 (ps.map eJ)))] (s2 (markF [110] r ps)) := fun r hr => to2 (d90 r ps (fun v hv => ((htv r hr).2 v hv).1) (fun v hv => ((htv r hr).2 v hv).2) hpl (fun p hp => by have := hplt p hp; have := (hrows r hr).1; omega))
      refine LoopK.ov (α := Nat × List (ByteArray × DV)) [63] (fun a => [i2 .i64 a.1]) (fun a => [.bx 25 [.d (.sl 3 (L.map eC)), .d (.sl 1 (R0.map eR))], .bx 25 [.d (.v (.slice none 0 0)), .d (.v (.slice none 0 0))], .rw 51 1 (R0.map eR), .rw 4 1 (List.replicate R0.length (zeroD (.bool false))), .mp a.2]) (fun a => a.1 ≤ R0.length ∧ MapZ ps ((R0.take a.1).map fun r => (r, false)) a.2) (fun a => R0.length - a.1) 1000 (0, []) ⟨by simp, by simpa using mapZ_nil ps⟩ (by (try (push_cast (maxSteps := 1000000))) <;> first | rfl | exact ⟨rfl, rfl⟩ | exact ⟨rfl, rfl, rfl⟩ | trivial) ?_
      rintro ⟨k, es⟩ ⟨hk1, hes⟩
      simp only at hk1 hes
      by_cases hlt : k < R0.length
      · have hv := List.getElem?_eq_getElem hlt; have hd : decide ((k : Int) < (R0.length : Int)) = true := decide_eq_true (by omega)
        have hm := List.getElem_mem hlt
        have h90 := hmk _ hm
        have htk : R0.take (k + 1) = R0.take k ++ [R0[k]] := by rw [List.take_add_one, hv]; rfl
        have hno : ∀ i, ¬ AtZ ps ((R0.take k).map fun r => (r, false)) R0[k] i := by
          rintro i ⟨r, h1, h2⟩
          rw [List.getElem?_map, Option.map_eq_some_iff] at h1
          obtain ⟨x, h1, e⟩ := h1
          injection e with e1 e2
          subst e1
          rw [apart_not hv hap x (List.mem_of_getElem? h1)] at h2
          cases h2
        have hms := mapZ_snoc hes (htrt _ hm) hno
        rw [List.length_map, List.length_take, Nat.min_eq_left hk1] at hms
        generalize R0[k] = r at *
        (try (push_cast (maxSteps := 1000000) [hd, getD_map hv]))
        ((repeat' (with_reducible refine And.intro ?_ ?_)) <;> try (first | trivial | omega | exact inK64 (by omega) (by omega) | exact inKu8 (by omega) (by omega) | (simp only [maxLen]; omega) | exact .inl trivial | exact .inl rfl))
        refine ⟨_, h90, rfl, ?_⟩
        (try (push_cast (maxSteps := 1000000)))
        ((repeat' (with_reducible refine And.intro ?_ ?_)) <;> try (first | trivial | omega | exact inK64 (by omega) (by omega) | exact inKu8 (by omega) (by omega) | (simp only [maxLen]; omega) | exact .inl trivial | exact .inl rfl))
        refine ⟨(k + 1, mset es (markF [110] r ps) (eIx k)), ⟨by simp only; omega, ?_⟩, by simp only; omega, Le.st ?_⟩
        · simp only
          rw [htk, List.map_append]
          exact hms
        · (try (push_cast (maxSteps := 1000000)))
          exact ⟨rfl, rfl⟩
      · have hd : decide ((k : Int) < (R0.length : Int)) = false := decide_eq_false (by omega)
        (try (push_cast (maxSteps := 1000000) [hd]))
        rw [List.take_of_length_le (by omega)] at hes
        clear hmk hd hlt hk1
        rw [eZ_all R0, gZ_all R0]
        have hok0 : ∀ z ∈ R0.map (fun r => (r, false)), okR2 z.1 ∧ ∀ v ∈ z.1, rightF v = true := by
          intro z hz
          obtain ⟨r, hr, rfl⟩ := List.mem_map.1 hz
          exact ⟨htv r hr, htrt r hr⟩
        refine LoopK.ov (α := Nat × List Zr × List (ByteArray × DV)) [76] (fun a => [i2 .i64 a.1]) (fun a => [.bx 25 [.d (.sl 3 (L.map eC)), .d (.sl 1 (eZ (R0.map fun r => (r, false))))], .bx 25 [.d (.v (.slice none 0 0)), .d (.v (.slice none 0 0))], .rw 51 1 (eZ a.2.1), .rw 4 1 (gZ a.2.1), .mp a.2.2]) (fun a => a.1 ≤ cs.length ∧ runP ps (cs.drop a.1) (liveR a.2.1) a.1 = runP ps cs R0 0 ∧ MapZ ps a.2.1 a.2.2 ∧ ApZ ps a.2.1 ∧ a.2.1.length ≤ R0.length + a.1 ∧ ∀ z ∈ a.2.1, okR2 z.1 ∧ ∀ v ∈ z.1, rightF v = true) (fun a => cs.length - a.1) 1000 (0, R0.map fun r => (r, false), es) ⟨by simp, by rw [liveR_all]; rfl, hes, apZ_all hap, by simp, hok0⟩ (by (try (push_cast (maxSteps := 1000000))) <;> first | rfl | exact ⟨rfl, rfl⟩ | exact ⟨rfl, rfl, rfl⟩ | trivial) ?_
        clear hes hok0
        rintro ⟨k, zs, es⟩ ⟨hk1, hrun, hes, hapz, hzl, hzok⟩
        simp only at hk1 hrun hes hapz hzl hzok
        by_cases hlt : k < cs.length
        · have hv := List.getElem?_eq_getElem hlt; have hd : decide ((k : Int) < (cs.length : Int)) = true := decide_eq_true (by omega)
          have hm := List.getElem_mem hlt
          have hrc := one_right (h2a _ hm)
          have hcr := hr _ hm
          have hco := hc.2 _ hm
          have hkey := hrc.key
          have hkr : ∀ v ∈ keyC cs[k], rightF v = true := by
            unfold keyC; split
            · exact hcr.2
            · exact hcr.1
          have h91 := d91 cs[k] ps hco hpl (fun p hp => by have := hplt p hp; omega)
          rw [drop_cons hv] at hrun
          simp only [runP] at hrun
          generalize cs[k] = c at *
          simp only [eCh_eq, List.map_cons, List.map_nil] at h91
          (try (push_cast (maxSteps := 1000000) [hd, getD_map hv]))
          ((repeat' (with_reducible refine And.intro ?_ ?_)) <;> try (first | trivial | omega | exact inK64 (by omega) (by omega) | exact inKu8 (by omega) (by omega) | (simp only [maxLen]; omega) | exact .inl trivial | exact .inl rfl))
          refine ⟨_, to2 h91, rfl, ?_⟩
          by_cases hat : ∃ i, AtZ ps zs (keyC c) i
          · obtain ⟨i, hat⟩ := hat
            have hy := hes.yes _ hkr i hat
            obtain ⟨r, hri, hrx⟩ := hat
            have hfa := find_atZ hapz hri hrx
            have hil := (List.getElem?_eq_some_iff.1 hri).1
            have hi0 := eZ_len zs
            have hi1 := gZ_len zs
            have hg0 := eZ_get hri
            have hg1 := gZ_get hri
            have hrok := hzok _ (List.mem_of_getElem? hri)
            simp only [eIx] at hy
            have herr : errP ps (liveR zs) c = if c.k = 3 then 15 else if sameR r c.o = true then 0 else 23 := by
              unfold errP; rw [hfa]
            (try (push_cast (maxSteps := 1000000) [hy]))
            refine BrP.mk (fun h => ?_) (fun h => ?_) <;> try (push_cast (maxSteps := 1000000) [h])
            · have h3 := of_decide_eq_true h
              rw [herr, if_pos h3, if_pos (by decide)] at hrun
              rw [← hrun] at hR
              subst hR
              simp
            · have h3 := of_decide_eq_false h
              rw [herr, if_neg h3] at hrun
              have hk2 : keyC c = c.o := if_neg h3
              have h73 := d73 r c.o hrok.1.1 hco.1.1
              (try (push_cast (maxSteps := 1000000)))
              (refine DrawK.of (.take 0 (.take 1 (.take 2 (.take 3 (.take 4 (.take 5 (.one 6 (.take 7 (.take 8 .done))))))))) 1000 (by decide +kernel) ?_; try (push_cast (maxSteps := 1000000)))
              (try (push_cast (maxSteps := 1000000) [hg0, hi0]))
              ((repeat' (with_reducible refine And.intro ?_ ?_)) <;> try (first | trivial | omega | exact inK64 (by omega) (by omega) | exact inKu8 (by omega) (by omega) | (simp only [maxLen]; omega) | exact .inl trivial | exact .inl rfl))
              refine ⟨_, to2 h73, rfl, ?_⟩
              (try (push_cast (maxSteps := 1000000)))
              refine BrP.mk (fun h => ?_) (fun h => ?_) <;> try (push_cast (maxSteps := 1000000) [h])
              · have hs : sameR r c.o = false := by simpa using h
                simp only [hs, Bool.false_eq_true, if_false, ne_eq, Int.reduceEq, not_false_eq_true, if_true] at hrun
                rw [← hrun] at hR
                subst hR
                simp
              · have hs : sameR r c.o = true := by simpa using h
                obtain rfl := sameR_iff.1 hs
                simp only [hs, if_true, ne_eq, not_true_eq_false, if_false] at hrun
                (try (push_cast (maxSteps := 1000000)))
                refine BrP.mk (fun h => ?_) (fun h => ?_) <;> try (push_cast (maxSteps := 1000000) [h])
                · have h1 := of_decide_eq_true h
                  obtain ⟨hmz, haz⟩ := mapZ_gone hes hapz hkr hri hrx
                  have hlv : liveR (zs.set i (c.o, true)) = nextP ps (liveR zs) c := by
                    rw [liveZ_set hapz hri hrx]
                    unfold nextP
                    rw [if_neg h3, hk2]
                    simp [h1, liveR]
                  refine ⟨⟨by omega, by omega⟩, by omega, ?_⟩
                  ((repeat' (with_reducible refine And.intro ?_ ?_)) <;> try (first | trivial | omega | exact inK64 (by omega) (by omega) | exact inKu8 (by omega) (by omega) | (simp only [maxLen]; omega) | exact .inl trivial | exact .inl rfl))
                  refine ⟨(k + 1, zs.set i (c.o, true), mdel es (markF [110] (keyC c) ps)), ⟨by simp only; omega, by simp only; rw [hlv]; exact hrun, hmz, haz, by simp only [List.length_set]; omega, ?_⟩, by simp only; omega, Le.st ?_⟩
                  · intro z hz
                    rcases List.mem_or_eq_of_mem_set hz with hz | rfl
                    · exact hzok z hz
                    · exact hrok
                  · rw [hg1, gZ_set, eZ_set, eZ_own hri]
                    (try (push_cast (maxSteps := 1000000))); (all_goals first | rfl | skip)
                · have h1 := of_decide_eq_false h
                  have h2 : c.k = 2 := by have := hrc.k; omega
                  obtain ⟨hmz, haz⟩ := mapZ_set (n := c.n) hes hapz hri (hrc.two h2)
                  have hlv : liveR (zs.set i (c.n, false)) = nextP ps (liveR zs) c := by
                    rw [liveZ_set hapz hri hrx]
                    unfold nextP
                    rw [if_neg h3, hk2]
                    simp [h2, liveR]
                  refine ⟨⟨by omega, by omega⟩, by omega, ?_⟩
                  ((repeat' (with_reducible refine And.intro ?_ ?_)) <;> try (first | trivial | omega | exact inK64 (by omega) (by omega) | exact inKu8 (by omega) (by omega) | (simp only [maxLen]; omega) | exact .inl trivial | exact .inl rfl))
                  refine ⟨(k + 1, zs.set i (c.n, false), es), ⟨by simp only; omega, by simp only; rw [hlv]; exact hrun, hmz, haz, by simp only [List.length_set]; omega, ?_⟩, by simp only; omega, Le.st ?_⟩
                  · intro z hz
                    rcases List.mem_or_eq_of_mem_set hz with hz | rfl
                    · exact hzok z hz
                    · exact ⟨hco.2, hcr.2⟩
                  · rw [hg0, gZ_set, eZ_set, gZ_own hri]
                    (try (push_cast (maxSteps := 1000000))); (all_goals first | rfl | skip)
          · have hat' : ∀ i, ¬ AtZ ps zs (keyC c) i := fun i hi => hat ⟨i, hi⟩
            have hn := hes.no _ hkr hat'
            have hfa := find_noZ hat'
            have herr : errP ps (liveR zs) c = if c.k = 3 then 0 else 25 := by
              unfold errP; rw [hfa]
            (try (push_cast (maxSteps := 1000000) [hn]))
            refine BrP.mk (fun h => ?_) (fun h => ?_) <;> try (push_cast (maxSteps := 1000000) [h])
            · have h3 := of_decide_eq_true h
              rw [herr, if_pos h3, if_neg (by decide)] at hrun
              have hk2 : keyC c = c.n := if_pos h3
              rw [hk2] at hat' hkr
              have hmz := mapZ_snoc hes hkr hat'
              have haz := apZ_snoc hapz hat'
              have hlv : liveR (zs ++ [(c.n, false)]) = nextP ps (liveR zs) c := by
                unfold nextP
                rw [if_pos h3, liveR_append]
                rfl
              have hi0 := eZ_len zs
              have hi1 := gZ_len zs
              (try (push_cast (maxSteps := 1000000)))
              refine ⟨⟨.inl trivial, by simp only [maxLen]; omega, by omega⟩, ⟨.inl trivial, by simp only [maxLen]; omega, by omega⟩, ?_⟩
              ((repeat' (with_reducible refine And.intro ?_ ?_)) <;> try (first | trivial | omega | exact inK64 (by omega) (by omega) | exact inKu8 (by omega) (by omega) | (simp only [maxLen]; omega) | exact .inl trivial | exact .inl rfl))
              refine ⟨(k + 1, zs ++ [(c.n, false)], mset es (markF [110] c.n ps) (eIx zs.length)), ⟨by simp only; omega, by simp only; rw [hlv]; exact hrun, hmz, haz, by simp only [List.length_append, List.length_cons, List.length_nil]; omega, ?_⟩, by simp only; omega, Le.st ?_⟩
              · intro z hz
                rcases List.mem_append.1 hz with hz | hz
                · exact hzok z hz
                · rw [List.mem_singleton.1 hz]; exact ⟨hco.2, hcr.2⟩
              · rw [hk2, hi0, eZ_snoc, gZ_snoc]
                (try (push_cast (maxSteps := 1000000))); (all_goals first | rfl | skip)
                all_goals exact ⟨rfl, rfl⟩
            · have h3 := of_decide_eq_false h
              rw [herr, if_neg h3, if_pos (by decide)] at hrun
              rw [← hrun] at hR
              subst hR
              (try (push_cast (maxSteps := 1000000)))
              try simp
        · have hd : decide ((k : Int) < (cs.length : Int)) = false := decide_eq_false (by omega)
          (try (push_cast (maxSteps := 1000000) [hd]))
          rw [List.drop_eq_nil_of_le (by omega)] at hrun
          simp only [runP] at hrun
          rw [← hrun] at hR
          subst hR
          refine .inr ⟨_, to2 h78, rfl, ?_⟩
          (try (push_cast (maxSteps := 1000000)))
          have hkk : k = cs.length := by omega
          clear hrun hes hd hlt h2a hc hr h78
          refine LoopK.le (Le.nilB 5 1 51 1 (by decide) rfl rfl) ?_
          (try (push_cast (maxSteps := 1000000)))
          refine LoopK.ov (α := Nat) [152] (fun j => [i2 .i64 j]) (fun j => [.bx 25 [.d (.sl 3 (L.map eC)), .d (.sl 1 (eZ (R0.map fun r => (r, false))))], .bx 25 [.d (.v (.slice none 0 0)), .d (.v (.slice none 0 0))], .rw 51 1 (eZ zs), .rw 4 1 (gZ zs), .mp es, .bx 25 [.d (.sl 3 (L.map eC)), .os 6], .rw 51 1 ((liveR (zs.take j)).map eR)]) (fun j => j ≤ zs.length) (fun j => zs.length - j) 1000 0 (by omega) (by (try (push_cast (maxSteps := 1000000))) <;> first | rfl | exact ⟨rfl, rfl⟩ | exact ⟨rfl, rfl, rfl⟩ | trivial) ?_
          rintro j hj
          have hi0 := eZ_len zs
          have hi1 := gZ_len zs
          by_cases hlt : j < zs.length
          · have hv := List.getElem?_eq_getElem hlt; have hd : decide ((j : Int) < (zs.length : Int)) = true := decide_eq_true (by omega)
            have hm := List.getElem_mem hlt
            have hzo := hzok _ hm
            have hg0 := eZ_get hv
            have hg1 := gZ_get hv
            have htj : zs.take (j + 1) = zs.take j ++ [zs[j]] := by rw [List.take_add_one, hv]; rfl
            have hll := liveR_len (zs.take j)
            rw [List.length_take] at hll
            have hlj : liveR (zs.take (j + 1)) = liveR (zs.take j) ++ liveR [zs[j]] := by rw [htj, liveR_append]
            generalize zs[j] = z at *
            obtain ⟨r, g⟩ := z
            have h72 := f58 r hzo.1.1
            cases g with
            | true =>
              rw [show liveR [(r, true)] = [] from rfl, List.append_nil] at hlj
              (try (push_cast (maxSteps := 1000000) [hi0, hi1, hd, hg0, hg1]))
              refine ⟨⟨by omega, by omega⟩, ⟨by omega, by omega⟩, ?_⟩
              ((repeat' (with_reducible refine And.intro ?_ ?_)) <;> try (first | trivial | omega | exact inK64 (by omega) (by omega) | exact inKu8 (by omega) (by omega) | (simp only [maxLen]; omega) | exact .inl trivial | exact .inl rfl))
              refine ⟨j + 1, by omega, by omega, Le.st ?_⟩
              rw [hlj]
              (try (push_cast (maxSteps := 1000000))); (all_goals first | rfl | skip)
            | false =>
              rw [show liveR [(r, false)] = [r] from rfl] at hlj
              (try (push_cast (maxSteps := 1000000) [hi0, hi1, hd, hg0, hg1]))
              refine ⟨⟨by omega, by omega⟩, ⟨by omega, by omega⟩, ?_⟩
              (refine DrawK.of (.take 0 (.take 1 (.take 2 (.one 3 (.one 4 (.one 5 (.one 6 (.one 7 .done)))))))) 1000 (by decide +kernel) ?_; try (push_cast (maxSteps := 1000000)))
              refine ⟨_, to2 h72, rfl, ?_⟩
              (try (push_cast (maxSteps := 1000000)))
              refine ⟨⟨.inl trivial, by simp only [maxLen]; omega, by omega⟩, ?_⟩
              ((repeat' (with_reducible refine And.intro ?_ ?_)) <;> try (first | trivial | omega | exact inK64 (by omega) (by omega) | exact inKu8 (by omega) (by omega) | (simp only [maxLen]; omega) | exact .inl trivial | exact .inl rfl))
              refine ⟨j + 1, by omega, by omega, Le.st ?_⟩
              rw [hlj]
              (try (push_cast (maxSteps := 1000000))); (all_goals first | rfl | skip)
              all_goals (first | (simp; done) | (simp; rfl))
          · have hd : decide ((j : Int) < (zs.length : Int)) = false := decide_eq_false (by omega)
            rw [List.take_of_length_le (by omega)]
            (try (push_cast (maxSteps := 1000000) [hi0, hd]))
            rw [hkk]
end Go.LS.Tryd
