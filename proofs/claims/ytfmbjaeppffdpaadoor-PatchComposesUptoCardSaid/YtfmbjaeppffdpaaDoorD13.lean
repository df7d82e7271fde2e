/- Contracts of the functions of the seat, one by one (part D13); no condition but those that each bears. -/
import Derived.Test.YtfmbjaeppffdpaaDoorDG
import Derived.Test.YtfmbjaeppffdpaaDoorPD
namespace Go.LS.Tryd
open Go Go.LS
set_option maxRecDepth 100000
set_option linter.unusedSimpArgs false
set_option linter.unusedVariables false

def eChs (l : List Ch) : List DV := [.sl 3 (l.map eCh)]
@[push_cast] theorem eChs_eq (l : List Ch) : eChs l = [.sl 3 (l.map eCh)] := rfl
theorem flat_succ {α : Type} {ls : List (List α)} {k : Nat} {x : List α} (h : ls[k]? = some x) : (ls.take (k + 1)).flatten = (ls.take k).flatten ++ x := by
  rw [List.take_add_one, h]; simp
theorem flat_le {α : Type} (ls : List (List α)) (k : Nat) : (ls.take k).flatten.length ≤ ls.flatten.length := by
  conv => rhs; rw [← List.take_append_drop k ls]
  rw [List.flatten_append, List.length_append]; omega
theorem d101 (ls : List (List Ch)) (hl : ls.length ≤ 100) (ht : ls.flatten.length ≤ 4096) (hx : ∀ l ∈ ls, l.length ≤ 4096) : Spec V 101 [.c (.d (.sl 1 (ls.map eChs)))] (.c (.d (.sl 3 (ls.flatten.map eCh)))) := by
  have h125 := d125 ls.flatten.length ht
  (refine to1 ?_; refine Spec.of_go (V := V2) (L := fun | 0 => some [0] | 1 => some [0, 3] | 2 => some [0, 3, 9, 10, 11] | 3 => some [0, 3, 9, 10, 11, 12] | 4 => some [0, 3, 5, 9, 10, 11] | 5 => some [0, 3, 9, 10, 11] | 6 => some [0, 3, 9, 10, 11, 20] | 7 => some [0, 3, 9, 10, 11] | 8 => some [0, 3, 9, 10, 11] | 9 => some [0, 6] | 10 => some [6, 25, 26, 27] | 11 => some [6, 25, 26, 27, 28] | 12 => some [6, 8, 25, 26, 27] | 13 => some [6, 25, 26, 27] | 14 => some [6, 25, 26, 27] | 15 => some [2] | _ => none) 1000 Go.Proofs.Tryd.func101 rfl rfl ⟨Nat.le_of_ble_eq_true rfl, rfl⟩ rfl ?_; unfold Go.Proofs.Tryd.f101; push_cast (maxSteps := 1000000))
  refine LoopK.s1 (α := Nat) [11, 3] (fun k => [i2 .i64 k, i2 .i64 ((ls.take k).flatten.length : Int)]) (fun k => k ≤ ls.length) (fun k => ls.length - k) 1000 0 (by omega) (by (try (push_cast (maxSteps := 1000000))) <;> simp) ?_
  rintro k hk
  have hle := flat_le ls k
  by_cases hlt : k < ls.length
  · have hv := List.getElem?_eq_getElem hlt; have hd : decide ((k : Int) < (ls.length : Int)) = true := decide_eq_true (by omega)
    have hfs := flat_succ hv
    have hxl := hx _ (List.getElem_mem hlt)
    generalize ls[k] = x at *
    (try (push_cast (maxSteps := 1000000) [hd, getD_map hv]))
    ((repeat' (with_reducible refine And.intro ?_ ?_)) <;> try (first | trivial | omega | exact inK64 (by omega) (by omega) | exact inKu8 (by omega) (by omega) | (simp only [maxLen]; omega) | exact .inl trivial | exact .inl rfl))
    refine BrP.mk (fun h => ?_) (fun h => ?_) <;> try (push_cast (maxSteps := 1000000) [h])
    · have := of_decide_eq_true h
      omega
    · ((repeat' (with_reducible refine And.intro ?_ ?_)) <;> try (first | trivial | omega | exact inK64 (by omega) (by omega) | exact inKu8 (by omega) (by omega) | (simp only [maxLen]; omega) | exact .inl trivial | exact .inl rfl))
      refine ⟨k + 1, by omega, by omega, Le.st ?_⟩
      rw [hfs]
      (try (push_cast (maxSteps := 1000000)))
      all_goals simp
  · have hd : decide ((k : Int) < (ls.length : Int)) = false := decide_eq_false (by omega)
    rw [List.take_of_length_le (by omega)]
    (try (push_cast (maxSteps := 1000000) [hd]))
    refine .inl ⟨_, _, _, toR2 h125, ?_⟩
    (try (push_cast (maxSteps := 1000000)))
    refine LoopK.ov (α := Nat) [27] (fun k => [i2 .i64 k]) (fun k => [.rw 111 3 ((ls.take k).flatten.map eCh)]) (fun k => k ≤ ls.length) (fun k => ls.length - k) 1000 0 (by omega) (by (try (push_cast (maxSteps := 1000000))) <;> first | rfl | exact ⟨rfl, rfl⟩ | exact ⟨rfl, rfl, rfl⟩ | trivial) ?_
    rintro k hk
    have hle := flat_le ls k
    by_cases hlt : k < ls.length
    · have hv := List.getElem?_eq_getElem hlt; have hd : decide ((k : Int) < (ls.length : Int)) = true := decide_eq_true (by omega)
      have hfs := flat_succ hv
      have hxl := hx _ (List.getElem_mem hlt)
      generalize ls[k] = x at *
      (try (push_cast (maxSteps := 1000000) [hd, getD_map hv]))
      refine ⟨⟨by omega, by omega⟩, ⟨.inl trivial, by simp only [maxLen]; omega, by omega⟩, ?_⟩
      ((repeat' (with_reducible refine And.intro ?_ ?_)) <;> try (first | trivial | omega | exact inK64 (by omega) (by omega) | exact inKu8 (by omega) (by omega) | (simp only [maxLen]; omega) | exact .inl trivial | exact .inl rfl))
      refine ⟨k + 1, by omega, by omega, Le.st ?_⟩
      rw [hfs]
      (try (push_cast (maxSteps := 1000000))); (all_goals first | rfl | skip)
      all_goals (first | (simp; done) | (simp; rfl))
    · have hd : decide ((k : Int) < (ls.length : Int)) = false := decide_eq_false (by omega)
      rw [List.take_of_length_le (by omega)]
      (try (push_cast (maxSteps := 1000000) [hd]))
set_option maxHeartbeats 1000000 in
theorem d54 (L : List Cl) (ks : List ByteArray) (x y : List Ch) (hL : okCl L) (hk : okKeys ks) (hx : okChs x) (hy : okChs y) (hxr : ∀ c ∈ x, rightC c) (hyr : ∀ c ∈ y, rightC c) (hxl : x.length ≤ 1000) (hyl : y.length ≤ 1000) :
    Spec V 54 [.c (.d (.sl 3 (L.map eC))), .c (.d (.sl 1 (ks.map eS))), .c (.d (.sl 3 (x.map eCh))), .c (.d (.sl 3 (y.map eCh)))] (.tu [.c (.d (.sl 3 ((compF L ks x y).1.map eCh))), i2 .i64 ((compF L ks x y).2.1 : Int), i2 .i64 (compF L ks x y).2.2]) := by
  have h45x := d45 L ks x hL hk hx hxr
  have h45y := d45 L ks y hL hk hy hyr
  have h86 := d86 L ks hL.1 hk
  have h101 := d101 [x, y] (by simp) (by simp; omega) (by intro l hl; simp at hl; rcases hl with rfl | rfl <;> omega)
  simp only [List.map_cons, List.map_nil, eChs_eq, List.flatten_cons, List.flatten_nil, List.append_nil] at h101
  obtain ⟨R, hR⟩ : ∃ R, R = compF L ks x y := ⟨_, rfl⟩
  rw [← hR]
  simp only [compF] at hR
  (refine to1 ?_; refine Spec.of_go (V := V2) (L := fun | 0 => some [0, 1, 2, 3] | 1 => some [0, 1, 2, 3, 11, 12] | 2 => some [0, 1, 2, 3, 11, 12, 37] | 3 => some [8, 9, 10] | 4 => some [0, 1, 2, 3, 13, 14] | 5 => some [0, 1, 2, 3, 13, 14, 48] | 6 => some [8, 9, 10] | 7 => some [2, 3, 15] | 8 => some [2, 3, 15, 16] | 9 => some [2, 3, 15, 16, 17] | 10 => some [15, 16, 17, 61, 62, 63] | 11 => some [15, 16, 17, 61, 62, 63, 64] | 12 => some [15, 16, 17, 18, 19, 61, 62, 63] | 13 => some [15, 16, 17, 18, 19, 20, 61, 62, 63] | 14 => some [15, 16, 17, 18, 19, 20, 21, 22, 61, 62, 63] | 15 => some [15, 16, 17, 18, 19, 20, 21, 61, 62, 63, 78] | 16 => some [15, 16, 17, 18, 19, 20, 21, 61, 62, 63] | 17 => some [15, 16, 17, 18, 19, 21, 61, 62, 63] | 18 => some [15, 16, 17, 18, 19, 21, 61, 62, 63] | 19 => some [15, 16, 17, 18, 21, 22, 23, 61, 62, 63] | 20 => some [15, 16, 17, 18, 21, 23, 61, 62, 63, 98] | 21 => some [8, 9, 10] | 22 => some [15, 16, 17, 61, 62, 63] | 23 => some [15, 16, 17, 61, 62, 63] | 24 => some [16, 24, 25] | 25 => some [24, 25, 105, 106, 107] | 26 => some [24, 25, 105, 106, 107, 108] | 27 => some [24, 25, 27, 105, 106, 107] | 28 => some [24, 25, 27, 28, 105, 106, 107] | 29 => some [24, 25, 27, 28, 105, 106, 107, 123] | 30 => some [24, 25, 105, 106, 107] | 31 => some [24, 25, 28, 105, 106, 107, 135] | 32 => some [24, 25, 105, 106, 107] | 33 => some [24, 25, 105, 106, 107] | 34 => some [24] | 35 => some [8, 9, 10] | _ => none) 1000 Go.Proofs.Tryd.func54 rfl rfl ⟨Nat.le_of_ble_eq_true rfl, rfl⟩ rfl ?_; unfold Go.Proofs.Tryd.f54; push_cast (maxSteps := 1000000))
  refine ⟨_, to2 h45x, rfl, ?_⟩
  (try (push_cast (maxSteps := 1000000)))
  refine BrP.mk (fun h => ?_) (fun h => ?_) <;> try (push_cast (maxSteps := 1000000) [h])
  · have h' : ¬ (checkP L ks x).2 = 0 := by simpa using h
    rw [if_pos h'] at hR
    subst hR
    (try (push_cast (maxSteps := 1000000)))
    all_goals simp
  · have h' : (checkP L ks x).2 = 0 := by simpa using h
    rw [if_neg (by simp [h'])] at hR
    refine ⟨_, to2 h45y, rfl, ?_⟩
    (try (push_cast (maxSteps := 1000000)))
    refine BrP.mk (fun h => ?_) (fun h => ?_) <;> try (push_cast (maxSteps := 1000000) [h])
    · have h2 : ¬ (checkP L ks y).2 = 0 := by simpa using h
      rw [if_pos h2] at hR
      subst hR
      (try (push_cast (maxSteps := 1000000)))
      have := check_le L ks y
      exact inK64 (by omega) (by omega)
    · have h2 : (checkP L ks y).2 = 0 := by simpa using h
      rw [if_neg (by simp [h2])] at hR
      refine ⟨_, to2 h86, rfl, ?_⟩
      (try (push_cast (maxSteps := 1000000)))
      refine ⟨_, to2 h101, rfl, ?_⟩
      (try (push_cast (maxSteps := 1000000)))
      have hpl : (placesN L ks).length ≤ 64 := by simpa [placesN, okKeys] using hk
      have hone : ∀ c ∈ x ++ y, oneP L.length (placesN L ks) c = 0 := by
        have hh : ∀ cs : List Ch, (checkP L ks cs).2 = 0 → ∀ c ∈ cs, oneP L.length (placesN L ks) c = 0 := by
          intro cs hcs
          simp only [checkP] at hcs
          split at hcs
          · exact absurd hcs (by assumption)
          · exact (ones_ok hcs).1
        intro c hc
        rcases List.mem_append.1 hc with hc | hc
        · exact hh x h' c hc
        · exact hh y h2 c hc
      have hplt : ∀ p ∈ placesN L ks, p < L.length := by
        simp only [checkP] at h'
        split at h'
        · exact absurd h' (by assumption)
        · rename_i hz
          exact tab_lt (t := ⟨L, []⟩) (by simpa using hz)
      have hok : ∀ c ∈ x ++ y, (okR2 c.o ∧ okR2 c.n) ∧ rightC c := by
        intro c hc
        rcases List.mem_append.1 hc with hc | hc
        · exact ⟨hx.2 c hc, hxr c hc⟩
        · exact ⟨hy.2 c hc, hyr c hc⟩
      have hal : (x ++ y).length ≤ 2000 := by rw [List.length_append]; omega
      clear h45x h45y h86 h101 h' h2 h
      generalize placesN L ks = ps at *
      generalize x ++ y = cs at *
      refine LoopK.le (Le.nil 16 175 4 (by decide) (by (try (push_cast (maxSteps := 1000000))))) ?_
      (try (push_cast (maxSteps := 1000000)))
      refine LoopK.ov (α := Nat × List Sl × List (ByteArray × DV)) [63] (fun a => [i2 .i64 a.1]) (fun a => [.mp a.2.2, .dead, .rw 175 4 (eSls eSl a.2.1)]) (fun a => a.1 ≤ cs.length ∧ slotsF ps a.2.1 (cs.drop a.1) a.1 = slotsF ps [] cs 0 ∧ MapZ ps (keysZ a.2.1) a.2.2 ∧ ApZ ps (keysZ a.2.1) ∧ a.2.1.length ≤ a.1 ∧ ∀ z ∈ a.2.1, okSl z.2) (fun a => cs.length - a.1) 1000 (0, [], []) ⟨by simp, rfl, mapZ_nil ps, apZ_nil ps, by simp, by simp⟩ (by (try (push_cast (maxSteps := 1000000))) <;> first | rfl | exact ⟨rfl, rfl⟩ | exact ⟨rfl, rfl, rfl⟩ | trivial) ?_
      rintro ⟨k, zs, es⟩ ⟨hk1, hrun, hes, hapz, hzl, hzok⟩
      simp only at hk1 hrun hes hapz hzl hzok
      have hi0 := eSls_len eSl zs
      by_cases hlt : k < cs.length
      · have hv := List.getElem?_eq_getElem hlt; have hd : decide ((k : Int) < (cs.length : Int)) = true := decide_eq_true (by omega)
        have hm := List.getElem_mem hlt
        have hrc := one_right (hone _ hm)
        obtain ⟨hco, hcr⟩ := hok _ hm
        have hkey := hrc.key
        have hkr : ∀ v ∈ keyC cs[k], rightF v = true := by
          unfold keyC; split
          · exact hcr.2
          · exact hcr.1
        have h91 := d91 cs[k] ps hco hpl (fun p hp => by have := hplt p hp; omega)
        rw [drop_cons hv] at hrun
        simp only [slotsF] at hrun
        generalize cs[k] = c at *
        simp only [eCh_eq, List.map_cons, List.map_nil] at h91
        (try (push_cast (maxSteps := 1000000) [hd, getD_map hv]))
        ((repeat' (with_reducible refine And.intro ?_ ?_)) <;> try (first | trivial | omega | exact inK64 (by omega) (by omega) | exact inKu8 (by omega) (by omega) | (simp only [maxLen]; omega) | exact .inl trivial | exact .inl rfl))
        refine ⟨_, to2 h91, rfl, ?_⟩
        by_cases hat : ∃ i, AtZ ps (keysZ zs) (keyC c) i
        · obtain ⟨i, hat⟩ := hat
          have hy := hes.yes _ hkr i hat
          have hsi := slotI_at hapz hat
          obtain ⟨r, hri, hrx⟩ := hat
          obtain ⟨s, hs, rfl⟩ := keysZ_get hri
          have hil := (List.getElem?_eq_some_iff.1 hs).1
          have hg0 := eSls_get (f := eSl) hs
          have hso := hzok _ (List.mem_of_getElem? hs)
          have h102 := d102 s.2 c hso hco
          simp only [eSl_eq, eCh_eq, List.map_cons, List.map_nil, togR] at h102
          simp only [eIx] at hy
          have hsl : slotF ps zs c = (togF s.2 c).map fun t => zs.set i (s.1, t) := by
            simp only [slotF, hsi]
            rw [show zs.getD i sl0 = s by simp [List.getD, hs]]
          rw [hsl] at hrun
          (try (push_cast (maxSteps := 1000000) [hy]))
          cases htg : togF s.2 c with
          | none =>
            simp only [htg, Option.map_none] at h102 hrun
            rw [← hrun] at hR
            simp only [ne_eq, Int.reduceEq, not_false_eq_true, if_true] at hR
            subst hR
            (refine DrawK.of (.take 0 (.take 1 (.take 2 (.take 3 (.take 4 (.two 5 (.take 6 (.take 7 (.two 8 (.one 9 (.one 10 (.one 11 .done))) 9 (.two 8 (.one 10 (.one 11 .done)) 10 (.one 8 (.one 11 .done)))))) 9 (.one 5 (.take 6 (.take 7 (.two 8 (.one 10 (.one 11 .done)) 10 (.one 8 (.one 11 .done)))))))))))) 1000 (by decide +kernel) ?_; try (push_cast (maxSteps := 1000000)))
            (try (push_cast (maxSteps := 1000000) [hi0, hg0]))
            ((repeat' (with_reducible refine And.intro ?_ ?_)) <;> try (first | trivial | omega | exact inK64 (by omega) (by omega) | exact inKu8 (by omega) (by omega) | (simp only [maxLen]; omega) | exact .inl trivial | exact .inl rfl))
            all_goals (refine ⟨_, to2 h102, rfl, ?_⟩)
            all_goals (try (push_cast (maxSteps := 1000000)))
            all_goals simp
          | some t =>
            simp only [htg, Option.map_some] at h102 hrun
            have hto := tog_ok hso hco htg
            have hmz : MapZ ps (keysZ (zs.set i (s.1, t))) es := by rw [keysZ_set hs]; exact hes
            have haz : ApZ ps (keysZ (zs.set i (s.1, t))) := by rw [keysZ_set hs]; exact hapz
            have hzo : ∀ z ∈ zs.set i (s.1, t), okSl z.2 := by
              intro z hz
              rcases List.mem_or_eq_of_mem_set hz with hz | rfl
              · exact hzok z hz
              · exact hto
            have hzn : (zs.set i (s.1, t)).length ≤ k + 1 := by rw [List.length_set]; omega
            (refine DrawK.of (.take 0 (.take 1 (.take 2 (.take 3 (.take 4 (.two 5 (.take 6 (.take 7 (.two 8 (.one 9 (.one 10 (.one 11 .done))) 9 (.two 8 (.one 10 (.one 11 .done)) 10 (.one 8 (.one 11 .done)))))) 9 (.one 5 (.take 6 (.take 7 (.two 8 (.one 10 (.one 11 .done)) 10 (.one 8 (.one 11 .done)))))))))))) 1000 (by decide +kernel) ?_; try (push_cast (maxSteps := 1000000)))
            (try (push_cast (maxSteps := 1000000) [hi0, hg0]))
            ((repeat' (with_reducible refine And.intro ?_ ?_)) <;> try (first | trivial | omega | exact inK64 (by omega) (by omega) | exact inKu8 (by omega) (by omega) | (simp only [maxLen]; omega) | exact .inl trivial | exact .inl rfl))
            all_goals (refine ⟨_, to2 h102, rfl, ?_⟩)
            all_goals (try (push_cast (maxSteps := 1000000) [hi0, hg0]))
            all_goals ((repeat' (with_reducible refine And.intro ?_ ?_)) <;> try (first | trivial | omega | exact inK64 (by omega) (by omega) | exact inKu8 (by omega) (by omega) | (simp only [maxLen]; omega) | exact .inl trivial | exact .inl rfl))
            all_goals (refine ⟨(k + 1, zs.set i (s.1, t), es), ⟨by simp only; omega, hrun, hmz, haz, hzn, hzo⟩, by simp only; omega, Le.st ?_⟩)
            all_goals rw [eSls_set]
            all_goals (try (push_cast (maxSteps := 1000000)))
            all_goals (first | rfl | exact ⟨rfl, rfl⟩ | exact ⟨trivial, rfl⟩ | trace_state)
        · have hat' : ∀ i, ¬ AtZ ps (keysZ zs) (keyC c) i := fun i hi => hat ⟨i, hi⟩
          have hn := hes.no _ hkr hat'
          have hsi := slotI_no hat'
          have hsl : slotF ps zs c = some (zs ++ [(keyC c, true, c)]) := by simp only [slotF, hsi]
          rw [hsl] at hrun
          simp only at hrun
          have h102 := d102 (false, ⟨0, [], []⟩) c ⟨⟨by simp [okLen], by simp⟩, ⟨by simp [okLen], by simp⟩⟩ hco
          simp only [eSl_eq, eCh_eq, List.map_cons, List.map_nil, togR, togF, if_true] at h102
          have hmz := mapZ_snoc hes hkr hat'
          have haz := apZ_snoc hapz hat'
          rw [keysZ_len] at hmz
          (try (push_cast (maxSteps := 1000000) [hn]))
          refine ⟨⟨.inl trivial, by simp only [maxLen]; omega, by omega⟩, ?_⟩
          (refine DrawK.of (.take 0 (.take 1 (.take 2 (.take 3 (.take 4 (.two 5 (.take 6 (.take 7 (.two 8 (.one 9 (.one 10 (.one 11 .done))) 9 (.two 8 (.one 10 (.one 11 .done)) 10 (.one 8 (.one 11 .done)))))) 9 (.one 5 (.take 6 (.take 7 (.two 8 (.one 10 (.one 11 .done)) 10 (.one 8 (.one 11 .done)))))))))))) 1000 (by decide +kernel) ?_; try (push_cast (maxSteps := 1000000)))
          have hln : (eSls eSl zs ++ [[DV.v (.bool false), .v (.int .i64 0), .sl 4 [], .sl 4 []]]).length = zs.length + 1 := by rw [List.length_append, hi0]; rfl
          have hzo : ∀ z ∈ zs ++ [(keyC c, true, c)], okSl z.2 := by
            intro z hz
            rcases List.mem_append.1 hz with hz | hz
            · exact hzok z hz
            · rw [List.mem_singleton.1 hz]; exact hco
          have hzn : (zs ++ [(keyC c, true, c)]).length ≤ k + 1 := by simp; omega
          rw [← keysZ_snoc zs (keyC c, true, c)] at hmz haz
          (try (push_cast (maxSteps := 1000000) [hi0, getD_snoc hi0, hln]))
          ((repeat' (with_reducible refine And.intro ?_ ?_)) <;> try (first | trivial | omega | exact inK64 (by omega) (by omega) | exact inKu8 (by omega) (by omega) | (simp only [maxLen]; omega) | exact .inl trivial | exact .inl rfl))
          all_goals (refine ⟨_, to2 h102, rfl, ?_⟩)
          all_goals (try (push_cast (maxSteps := 1000000) [hi0, set_snoc hi0, getD_snoc hi0, hln]))
          all_goals ((repeat' (with_reducible refine And.intro ?_ ?_)) <;> try (first | trivial | omega | exact inK64 (by omega) (by omega) | exact inKu8 (by omega) (by omega) | (simp only [maxLen]; omega) | exact .inl trivial | exact .inl rfl))
          all_goals (refine ⟨(k + 1, zs ++ [(keyC c, true, c)], mset es (markF [110] (keyC c) ps) (eIx zs.length)), ⟨by simp only; omega, hrun, hmz, haz, hzn, hzo⟩, by simp only; omega, Le.st ?_⟩)
          all_goals rw [eSls_snoc]
          all_goals (try (push_cast (maxSteps := 1000000)))
          all_goals (first | rfl | exact ⟨rfl, rfl⟩ | exact ⟨trivial, rfl⟩ | trace_state)
      · have hd : decide ((k : Int) < (cs.length : Int)) = false := decide_eq_false (by omega)
        rw [List.drop_eq_nil_of_le (by omega)] at hrun
        simp only [slotsF] at hrun
        rw [← hrun] at hR
        simp only [ne_eq, not_true_eq_false, if_false] at hR
        subst hR
        (try (push_cast (maxSteps := 1000000) [hd]))
        refine LoopK.le (Le.nil 24 111 3 (by decide) (by (try (push_cast (maxSteps := 1000000))))) ?_
        (try (push_cast (maxSteps := 1000000)))
        refine LoopK.le (Le.nil 25 111 3 (by decide) (by (try (push_cast (maxSteps := 1000000))))) ?_
        (try (push_cast (maxSteps := 1000000)))
        have hz2 : zs.length ≤ 2000 := by omega
        clear hes hapz hd hlt hk1 hone hok
        refine LoopK.ov (α := Nat) [107] (fun j => [i2 .i64 j]) (fun j => [.mp es, .dead, .rw 175 4 (eSls eSl zs), .rw 111 3 ((outA (zs.take j)).map eCh), .rw 111 3 ((outB (zs.take j)).map eCh)]) (fun j => j ≤ zs.length) (fun j => zs.length - j) 1000 0 (by omega) (by (try (push_cast (maxSteps := 1000000))) <;> first | rfl | exact ⟨rfl, rfl⟩ | exact ⟨rfl, rfl, rfl⟩ | trivial) ?_
        rintro j hj
        have hla := outA_len (zs.take j)
        have hlb := outB_len (zs.take j)
        rw [List.length_take] at hla hlb
        by_cases hlt : j < zs.length
        · have hv := List.getElem?_eq_getElem hlt; have hd : decide ((j : Int) < (zs.length : Int)) = true := decide_eq_true (by omega)
          have hm := List.getElem_mem hlt
          have hso := hzok _ hm
          have hg0 := eSls_get (f := eSl) hv
          have hsa := outA_succ hv
          have hsb := outB_succ hv
          generalize zs[j] = s at *
          obtain ⟨r, b, c⟩ := s
          have h72o := f58 c.o hso.1.1
          have h72n := f58 c.n hso.2.1
          (try (push_cast (maxSteps := 1000000) [hd, hi0, hg0]))
          refine ⟨⟨by omega, by omega⟩, ?_⟩
          simp only at hsa hsb
          cases b with
          | false =>
            simp only [Bool.false_eq_true, false_and, if_false, List.append_nil] at hsa hsb
            (refine DrawK.of (.take 0 (.take 1 (.take 2 (.take 3 (.take 4 (.take 5 (.take 7 (.take 8 (.take 9 (.two 6 (.two 10 (.take 11 (.one 12 (.one 13 .done))) 12 (.one 10 (.take 11 (.one 13 .done)))) 12 (.one 6 (.one 10 (.take 11 (.one 13 .done)))))))))))))) 1000 (by decide +kernel) ?_; try (push_cast (maxSteps := 1000000)))
            all_goals ((repeat' (with_reducible refine And.intro ?_ ?_)) <;> try (first | trivial | omega | exact inK64 (by omega) (by omega) | exact inKu8 (by omega) (by omega) | (simp only [maxLen]; omega) | exact .inl trivial | exact .inl rfl))
            all_goals (refine ⟨_, to2 h72o, rfl, ?_⟩)
            all_goals (try (push_cast (maxSteps := 1000000)))
            all_goals ((repeat' (with_reducible refine And.intro ?_ ?_)) <;> try (first | trivial | omega | exact inK64 (by omega) (by omega) | exact inKu8 (by omega) (by omega) | (simp only [maxLen]; omega) | exact .inl trivial | exact .inl rfl))
            all_goals (refine ⟨_, to2 h72n, rfl, ?_⟩)
            all_goals (try (push_cast (maxSteps := 1000000) [hi0]))
            all_goals ((repeat' (with_reducible refine And.intro ?_ ?_)) <;> try (first | trivial | omega | exact inK64 (by omega) (by omega) | exact inKu8 (by omega) (by omega) | (simp only [maxLen]; omega) | exact .inl trivial | exact .inl rfl))
            all_goals (refine ⟨j + 1, by omega, by omega, Le.st ?_⟩)
            all_goals rw [hsa, hsb]
            all_goals (try (push_cast (maxSteps := 1000000)))
            all_goals (first | rfl | exact ⟨rfl, rfl⟩ | trace_state)
          | true =>
            by_cases h3 : c.k = 3
            · have d3 : decide (c.k = 3) = true := decide_eq_true h3
              simp only [h3, ne_eq, not_true_eq_false, and_false, and_self, if_false, if_true, List.append_nil] at hsa hsb
              (refine DrawK.of (.take 0 (.take 1 (.take 2 (.take 3 (.take 4 (.take 5 (.take 7 (.take 8 (.take 9 (.two 6 (.two 10 (.take 11 (.one 12 (.one 13 .done))) 12 (.one 10 (.take 11 (.one 13 .done)))) 12 (.one 6 (.one 10 (.take 11 (.one 13 .done)))))))))))))) 1000 (by decide +kernel) ?_; try (push_cast (maxSteps := 1000000)))
              all_goals ((repeat' (with_reducible refine And.intro ?_ ?_)) <;> try (first | trivial | omega | exact inK64 (by omega) (by omega) | exact inKu8 (by omega) (by omega) | (simp only [maxLen]; omega) | exact .inl trivial | exact .inl rfl))
              all_goals (refine ⟨_, to2 h72o, rfl, ?_⟩)
              all_goals (try (push_cast (maxSteps := 1000000)))
              all_goals ((repeat' (with_reducible refine And.intro ?_ ?_)) <;> try (first | trivial | omega | exact inK64 (by omega) (by omega) | exact inKu8 (by omega) (by omega) | (simp only [maxLen]; omega) | exact .inl trivial | exact .inl rfl))
              all_goals (refine ⟨_, to2 h72n, rfl, ?_⟩)
              all_goals (try (push_cast (maxSteps := 1000000) [hi0, d3]))
              all_goals ((repeat' (with_reducible refine And.intro ?_ ?_)) <;> try (first | trivial | omega | exact inK64 (by omega) (by omega) | exact inKu8 (by omega) (by omega) | (simp only [maxLen]; omega) | exact .inl trivial | exact .inl rfl))
              all_goals (try refine ⟨⟨.inl trivial, by simp only [maxLen]; omega, by omega⟩, ?_⟩)
              all_goals ((repeat' (with_reducible refine And.intro ?_ ?_)) <;> try (first | trivial | omega | exact inK64 (by omega) (by omega) | exact inKu8 (by omega) (by omega) | (simp only [maxLen]; omega) | exact .inl trivial | exact .inl rfl))
              all_goals (refine ⟨j + 1, by omega, by omega, Le.st ?_⟩)
              all_goals rw [hsa, hsb]
              all_goals (try (push_cast (maxSteps := 1000000)))
              all_goals (first | rfl | exact ⟨rfl, rfl⟩ | (simp; done) | (simp; rfl))
            · have d3 : decide (c.k = 3) = false := decide_eq_false h3
              simp only [h3, ne_eq, not_false_eq_true, and_false, and_self, if_false, if_true, List.append_nil] at hsa hsb
              (refine DrawK.of (.take 0 (.take 1 (.take 2 (.take 3 (.take 4 (.take 5 (.take 7 (.take 8 (.take 9 (.two 6 (.two 10 (.take 11 (.one 12 (.one 13 .done))) 12 (.one 10 (.take 11 (.one 13 .done)))) 12 (.one 6 (.one 10 (.take 11 (.one 13 .done)))))))))))))) 1000 (by decide +kernel) ?_; try (push_cast (maxSteps := 1000000)))
              all_goals ((repeat' (with_reducible refine And.intro ?_ ?_)) <;> try (first | trivial | omega | exact inK64 (by omega) (by omega) | exact inKu8 (by omega) (by omega) | (simp only [maxLen]; omega) | exact .inl trivial | exact .inl rfl))
              all_goals (refine ⟨_, to2 h72o, rfl, ?_⟩)
              all_goals (try (push_cast (maxSteps := 1000000)))
              all_goals ((repeat' (with_reducible refine And.intro ?_ ?_)) <;> try (first | trivial | omega | exact inK64 (by omega) (by omega) | exact inKu8 (by omega) (by omega) | (simp only [maxLen]; omega) | exact .inl trivial | exact .inl rfl))
              all_goals (refine ⟨_, to2 h72n, rfl, ?_⟩)
              all_goals (try (push_cast (maxSteps := 1000000) [hi0, d3]))
              all_goals ((repeat' (with_reducible refine And.intro ?_ ?_)) <;> try (first | trivial | omega | exact inK64 (by omega) (by omega) | exact inKu8 (by omega) (by omega) | (simp only [maxLen]; omega) | exact .inl trivial | exact .inl rfl))
              all_goals (try refine ⟨⟨.inl trivial, by simp only [maxLen]; omega, by omega⟩, ?_⟩)
              all_goals ((repeat' (with_reducible refine And.intro ?_ ?_)) <;> try (first | trivial | omega | exact inK64 (by omega) (by omega) | exact inKu8 (by omega) (by omega) | (simp only [maxLen]; omega) | exact .inl trivial | exact .inl rfl))
              all_goals (refine ⟨j + 1, by omega, by omega, Le.st ?_⟩)
              all_goals rw [hsa, hsb]
              all_goals (try (push_cast (maxSteps := 1000000)))
              all_goals (first | rfl | exact ⟨rfl, rfl⟩ | (simp; done) | (simp; rfl))
        · have hd : decide ((j : Int) < (zs.length : Int)) = false := decide_eq_false (by omega)
          rw [List.take_of_length_le (by omega)] at hla hlb ⊢
          (try (push_cast (maxSteps := 1000000) [hd, hi0]))
          have hfin : List.map eCh (outA zs) ++ List.map eCh (outB zs) = List.map eCh (outS zs) := by rw [outS_eq, List.map_append]
          have hla' := outA_len zs
          have hlb' := outB_len zs
          refine ⟨⟨.inl trivial, by simp only [maxLen]; omega, by omega⟩, hfin, ?_⟩
          rw [hfin, List.length_map]
end Go.LS.Tryd
