/- Contracts of the functions of the seat, one by one (part D37); no condition but those that each bears. -/
import Derived.Test.YtfmbjaeppffdpaaDoorD36
import Derived.Test.YtfmbjaeppffdpaaDoorPGc
namespace Go.LS.Tryd
open Go Go.LS
set_option maxRecDepth 100000
set_option linter.unusedSimpArgs false
set_option linter.unusedVariables false

theorem d72 (r : List Vl) (hr : okLen r) : Spec V 72 [.c (.d (.sl 4 (r.map eV)))] (.c (.d (.sl 4 (r.map eV)))) := f58 r hr
theorem d78g (r : List Cl) (hr : okLen r) : Spec V 78 [.c (.d (.sl 3 (r.map eC)))] (.c (.d (.sl 3 (r.map eC)))) := by
  (refine Spec.of_go (L := fun | 0 => some [0] | 1 => some [0, 4] | 2 => some [2] | 3 => some [2] | _ => none) 1000 Go.Proofs.Tryd.func78 rfl rfl ⟨Nat.le_of_ble_eq_true rfl, rfl⟩ rfl ?_; unfold Go.Proofs.Tryd.f78; push_cast (maxSteps := 1000000))
  intro b hb
  (try (push_cast (maxSteps := 1000000)))
  refine BrP.mk (fun h => ?_) (fun h => ?_) <;> try (push_cast (maxSteps := 1000000) [h])
  · have := hb h
    simp at this
    simp [this]
  · ((repeat' (with_reducible refine And.intro ?_ ?_)) <;> try (first | trivial | omega | exact inK64 (by omega) (by omega) | exact inKu8 (by omega) (by omega) | (simp only [maxLen]; omega) | exact .inl trivial | exact .inl rfl))
    all_goals trace_state
theorem d59 (t : Tb) (ht : okLen t.R) (hr : ∀ r ∈ t.R, okLen r) : Spec V 59 [.ag ((eT t).map .d)] (b2 (evenF t)) := by
  obtain ⟨L, A⟩ := t
  simp only at ht hr
  (refine Spec.of_go (L := fun | 0 => some [1] | 1 => some [1, 6, 7, 8] | 2 => some [1, 6, 7, 8, 9] | 3 => some [1, 4, 6, 7, 8] | 4 => some [1, 6, 7, 8, 17] | 5 => some [2] | 6 => some [1, 6, 7, 8] | 7 => some [2] | _ => none) 1000 Go.Proofs.Tryd.func59 rfl rfl ⟨Nat.le_of_ble_eq_true rfl, rfl⟩ rfl ?_; unfold Go.Proofs.Tryd.f59; push_cast (maxSteps := 1000000))
  refine LoopK.s1 (α := Nat) [8] (fun k => [i2 .i64 k]) (fun k => k ≤ A.length ∧ ((A.drop k).all fun r => decide (r.length = L.length)) = evenF ⟨L, A⟩) (fun k => A.length - k) 1000 0 ⟨by omega, rfl⟩ (by (try (push_cast (maxSteps := 1000000)))) ?_
  rintro k ⟨hk, hc⟩
  by_cases hlt : k < A.length
  · have hv := List.getElem?_eq_getElem hlt; have hd : decide ((k : Int) < (A.length : Int)) = true := decide_eq_true (by omega)
    rw [drop_cons hv, List.all_cons] at hc
    generalize A[k] = r at *
    (try (push_cast (maxSteps := 1000000) [hd, getD_map hv]))
    ((repeat' (with_reducible refine And.intro ?_ ?_)) <;> try (first | trivial | omega | exact inK64 (by omega) (by omega) | exact inKu8 (by omega) (by omega) | (simp only [maxLen]; omega) | exact .inl trivial | exact .inl rfl))
    refine BrP.mk (fun h => ?_) (fun h => ?_) <;> try (push_cast (maxSteps := 1000000) [h])
    · have hw : ¬ r.length = L.length := by simp at h; omega
      rw [← hc]
      simp [hw]
    · have hw : r.length = L.length := by simp at h; omega
      rw [decide_eq_true hw, Bool.true_and] at hc
      ((repeat' (with_reducible refine And.intro ?_ ?_)) <;> try (first | trivial | omega | exact inK64 (by omega) (by omega) | exact inKu8 (by omega) (by omega) | (simp only [maxLen]; omega) | exact .inl trivial | exact .inl rfl))
      refine ⟨k + 1, ⟨by omega, hc⟩, by omega, Le.st ?_⟩
      (try (push_cast (maxSteps := 1000000))); (all_goals first | rfl | skip)
  · have hd : decide ((k : Int) < (A.length : Int)) = false := decide_eq_false (by omega)
    rw [List.drop_eq_nil_of_le (by omega), List.all_nil] at hc
    (try (push_cast (maxSteps := 1000000) [hd]))
    exact hc
set_option maxHeartbeats 2000000 in
theorem d61 (t : Tb) (ks : List ByteArray) (ht : okT2 t) (hk : okKeys ks) (hR : t.R.length ≤ 90000) :
    Spec V 61 [.ag ((eT t).map .d), .c (.d (.sl 1 (ks.map eS)))] (.tu [.c (.d (.sl 2 ((partsC t ks).1.map eT))), i2 .i64 (partsC t ks).2]) := by
  have hk' : ks.length ≤ 64 := hk
  obtain ⟨L, A⟩ := t
  obtain ⟨hL, hAl, hAv, hAr⟩ := ht
  simp only at hL hAl hAv hAr hR
  have h63 := f47 L hL
  have h111 := d111 ⟨L, A⟩ hAl (fun r hr => (hAv r hr).1)
  have h94 := d94 L ks hL hk
  have h78 := d78g L hL.1
  obtain ⟨F, hF⟩ : ∃ F, F = partsC ⟨L, A⟩ ks := ⟨_, rfl⟩
  rw [← hF]
  unfold partsC at hF
  simp only at hF
  simp only [eT_eq] at h111
  (refine Spec.of_go (L := fun | 0 => some [1, 2] | 1 => some [1, 2, 7] | 2 => some [1, 2, 7, 24] | 3 => some [4, 5] | 4 => some [2, 8, 10] | 5 => some [2, 8, 10, 35] | 6 => some [4, 5] | 7 => some [2, 8, 39] | 8 => some [4, 5] | 9 => some [2, 8, 11] | 10 => some [2, 11, 43, 44, 45] | 11 => some [2, 11, 43, 44, 45, 46] | 12 => some [2, 11, 13, 43, 44, 45] | 13 => some [2, 11, 13, 14, 43, 44, 45] | 14 => some [2, 11, 14, 43, 44, 45, 53, 54, 55] | 15 => some [2, 11, 14, 43, 44, 45, 53, 54, 55, 56] | 16 => some [2, 11, 14, 16, 43, 44, 45, 53, 54, 55] | 17 => some [2, 11, 14, 43, 44, 45, 53, 54, 55] | 18 => some [2, 11, 14, 43, 44, 45, 53, 54, 55] | 19 => some [2, 11, 43, 44, 45] | 20 => some [2, 11, 43, 44, 45] | 21 => some [4, 5] | _ => none) 1000 Go.Proofs.Tryd.func61 rfl rfl ⟨Nat.le_of_ble_eq_true rfl, rfl⟩ rfl ?_; unfold Go.Proofs.Tryd.f61; push_cast (maxSteps := 1000000))
  refine ⟨_, h63, rfl, ?_⟩
  by_cases c1 : (checkC L).2 = 0
  · rw [if_neg (by simp [c1])] at hF
    (try (push_cast (maxSteps := 1000000) [c1]))
    refine ⟨_, h94, rfl, ?_⟩
    unfold findG
    by_cases c2 : (keyF L [] ks 0).2 = 0
    · rw [if_neg (by simp [c2])] at hF
      rw [if_neg (by simp [c2])]
      have hfound := key_found L ks [] 0 c2
      (try (push_cast (maxSteps := 1000000)))
      refine ⟨_, h111, rfl, ?_⟩
      cases ea : evenF ⟨L, A⟩ with
      | false =>
        rw [ea, if_pos rfl] at hF
        subst hF
        (try (push_cast (maxSteps := 1000000)))
      | true =>
        rw [ea, if_neg (by simp)] at hF
        have hrow : ∀ x ∈ A, x.length = L.length := by simpa [evenF] using ea
        have hplt := placesN_lt hfound
        have hpl : (placesN L ks).length ≤ 64 := by rw [placesN, List.length_map]; exact hk'
        generalize placesN L ks = ps at *
        have h112 := d112 A ps (by omega) (fun r hr v hv => (hAv r hr).2 v hv) hpl (fun r hr p hp => by rw [hrow r hr]; exact hplt p hp)
        have hgm := fun g (h : g ∈ partC ps A) => partC_mem h
        have hgl := partC_len ps A
        generalize partC ps A = gs at *
        subst hF
        (try (push_cast (maxSteps := 1000000)))
        refine ⟨_, h112, rfl, ?_⟩
        (try (push_cast (maxSteps := 1000000)))
        refine LoopK.le (Le.nil 11 25 2 (by decide) (by (try (push_cast (maxSteps := 1000000))))) ?_
        (try (push_cast (maxSteps := 1000000)))
        refine LoopK.ov (α := Nat) [45] (fun k => [i2 .i64 k]) (fun k => [.bx 25 [.d (.sl 3 (L.map eC)), .d (.sl 1 (A.map eR))], .rw 25 2 (((gs.take k).map fun g => (⟨L, g⟩ : Tb)).map eT)]) (fun k => k ≤ gs.length) (fun k => gs.length - k) 1000 0 (by omega) (by (try (push_cast (maxSteps := 1000000))) <;> first | rfl | exact ⟨rfl, rfl⟩ | exact ⟨rfl, rfl, rfl⟩ | trivial) ?_
        rintro k hk1
        by_cases hlt : k < gs.length
        · have hv := List.getElem?_eq_getElem hlt; have hd : decide ((k : Int) < (gs.length : Int)) = true := decide_eq_true (by omega)
          have htk : (gs.take (k + 1)).map (fun g => (⟨L, g⟩ : Tb)) = (gs.take k).map (fun g => (⟨L, g⟩ : Tb)) ++ [⟨L, gs[k]⟩] := by rw [List.take_add_one, hv, List.map_append]; rfl
          have hlk : ((gs.take k).map (fun g => (⟨L, g⟩ : Tb))).length = k := by rw [List.length_map, List.length_take]; omega
          obtain ⟨g1, g2, g3⟩ := hgm _ (List.getElem_mem hlt)
          generalize gs[k] = g at *
          generalize (gs.take k).map (fun g => (⟨L, g⟩ : Tb)) = out at *
          have hgi : (gs.map eRs).getD k [] = eRs g := getD_map hv
          simp only [eRs_eq] at hgi
          (try (push_cast (maxSteps := 1000000) [hd, hgi]))
          ((repeat' (with_reducible refine And.intro ?_ ?_)) <;> try (first | trivial | omega | exact inK64 (by omega) (by omega) | exact inKu8 (by omega) (by omega) | (simp only [maxLen]; omega) | exact .inl trivial | exact .inl rfl))
          refine ⟨_, h78, rfl, ?_⟩
          (try (push_cast (maxSteps := 1000000)))
          refine LoopK.le (Le.nilB 2 1 51 1 (by decide) rfl rfl) ?_
          (try (push_cast (maxSteps := 1000000)))
          refine LoopK.ov (α := Nat) [55] (fun j => [i2 .i64 j]) (fun j => [.bx 25 [.d (.sl 3 (L.map eC)), .d (.sl 1 (A.map eR))], .rw 25 2 (out.map eT), .bx 25 [.d (.sl 3 (L.map eC)), .os 3], .rw 51 1 ((g.take j).map eR)]) (fun j => j ≤ g.length) (fun j => g.length - j) 1000 0 (by omega) (by (try (push_cast (maxSteps := 1000000))) <;> first | rfl | exact ⟨rfl, rfl⟩ | exact ⟨rfl, rfl, rfl⟩ | trivial) ?_
          rintro j hj
          by_cases hlt2 : j < g.length
          · have hv2 := List.getElem?_eq_getElem hlt2
            have hd2 : decide ((j : Int) < (g.length : Int)) = true := decide_eq_true (by omega)
            have htj : g.take (j + 1) = g.take j ++ [g[j]] := by rw [List.take_add_one, hv2]; rfl
            have hlj : (g.take j).length = j := by rw [List.length_take]; omega
            have h72 := d72 g[j] (hAv _ (g3 _ (List.getElem_mem hlt2))).1
            generalize g[j] = r at *
            (try (push_cast (maxSteps := 1000000) [hd2, getD_map hv2]))
            ((repeat' (with_reducible refine And.intro ?_ ?_)) <;> try (first | trivial | omega | exact inK64 (by omega) (by omega) | exact inKu8 (by omega) (by omega) | (simp only [maxLen]; omega) | exact .inl trivial | exact .inl rfl))
            (refine DrawK.of (.take 0 (.take 1 (.take 2 (.one 3 (.one 4 (.one 5 (.one 6 (.one 7 .done)))))))) 1000 (by decide +kernel) ?_; try (push_cast (maxSteps := 1000000)))
            ((repeat' (with_reducible refine And.intro ?_ ?_)) <;> try (first | trivial | omega | exact inK64 (by omega) (by omega) | exact inKu8 (by omega) (by omega) | (simp only [maxLen]; omega) | exact .inl trivial | exact .inl rfl))
            all_goals (refine ⟨_, h72, rfl, ?_⟩)
            all_goals (try (push_cast (maxSteps := 1000000) [List.length_map, hlj]))
            all_goals ((repeat' (with_reducible refine And.intro ?_ ?_)) <;> try (first | trivial | omega | exact inK64 (by omega) (by omega) | exact inKu8 (by omega) (by omega) | (simp only [maxLen]; omega) | exact .inl trivial | exact .inl rfl))
            all_goals (try (simp only [maxLen]; omega))
            all_goals (refine ⟨j + 1, by omega, by omega, Le.st ?_⟩)
            all_goals rw [htj]
            all_goals (try (push_cast (maxSteps := 1000000)))
            all_goals (first | rfl | exact ⟨rfl, rfl⟩ | (simp; done) | (simp; rfl) | trace_state)
          · have hd2 : decide ((j : Int) < (g.length : Int)) = false := decide_eq_false (by omega)
            rw [show g.take j = g from List.take_of_length_le (by omega)]
            (try (push_cast (maxSteps := 1000000) [hd2, List.length_map, hlk]))
            ((repeat' (with_reducible refine And.intro ?_ ?_)) <;> try (first | trivial | omega | exact inK64 (by omega) (by omega) | exact inKu8 (by omega) (by omega) | (simp only [maxLen]; omega) | exact .inl trivial | exact .inl rfl))
            all_goals (try (simp only [maxLen]; omega))
            refine ⟨k + 1, by omega, by omega, Le.st ?_⟩
            rw [htk]
            (try (push_cast (maxSteps := 1000000)))
            all_goals (first | rfl | exact ⟨rfl, rfl⟩ | (simp; done) | (simp; rfl) | trace_state)
        · have hd : decide ((k : Int) < (gs.length : Int)) = false := decide_eq_false (by omega)
          rw [show gs.take k = gs from List.take_of_length_le (by omega)]
          (try (push_cast (maxSteps := 1000000) [hd]))
    · rw [if_pos c2] at hF
      rw [if_pos c2]
      subst hF
      (try (push_cast (maxSteps := 1000000) [c2]))
  · rw [if_pos c1] at hF
    subst hF
    (try (push_cast (maxSteps := 1000000) [c1]))
def nmG : ByteArray := { data := #[104, 111, 119, 32, 109, 97, 110, 121, 44, 32, 111, 102, 32, 119, 104, 105, 99, 104, 32, 110, 111, 32, 99, 111, 108, 117, 109, 110, 32, 104, 97, 115, 32, 116, 104, 101, 32, 110, 97, 109, 101] }
theorem group_none {t : Tb} {ks : List ByteArray} {ag : List Ag} (h : (groupC t ks ag).2 ≠ 0) : (groupC t ks ag).1 = ⟨[], []⟩ := by
  unfold groupC at h ⊢
  by_cases h1 : (colsG t.L ks ag).2.2 = 0
  · rw [if_neg (by simp [h1])] at h ⊢
    by_cases h2 : evenF t = false
    · rw [if_pos h2]
    · rw [if_neg h2] at h ⊢
      by_cases h3 : (rowsG t.L (placesN t.L ks) ag (partC (placesN t.L ks) t.R) []).2 = 0
      · rw [if_neg (by simp [h3])] at h
        exact absurd rfl h
      · rw [if_pos h3]
  · rw [if_pos h1]
theorem group_cols {t : Tb} {ks : List ByteArray} {ag : List Ag} (h : (groupC t ks ag).2 = 0) : (groupC t ks ag).1.L = (colsG t.L ks ag).1 ∧ (colsG t.L ks ag).2.2 = 0 ∧ evenF t = true := by
  unfold groupC at h ⊢
  by_cases h1 : (colsG t.L ks ag).2.2 = 0
  · rw [if_neg (by simp [h1])] at h ⊢
    by_cases h2 : evenF t = false
    · rw [if_pos h2] at h; cases h
    · rw [if_neg h2] at h ⊢
      by_cases h3 : (rowsG t.L (placesN t.L ks) ag (partC (placesN t.L ks) t.R) []).2 = 0
      · rw [if_neg (by simp [h3])]
        exact ⟨rfl, h1, by simpa using h2⟩
      · rw [if_pos h3] at h; exact absurd h h3
  · rw [if_pos h1] at h; exact absurd h h1
theorem okV2_zero : okV2 vl0 := ⟨Nat.zero_le _, inK64 (by simp [vl0]) (by simp [vl0])⟩
theorem okV2_at {r : List Vl} (h : ∀ v ∈ r, okV2 v) (p : Nat) : okV2 (vAt r p) := by
  unfold vAt
  rw [List.getD_eq_getElem?_getD]
  cases hp : r[p]? with
  | none => exact okV2_zero
  | some v => exact h v (List.mem_of_getElem? hp)
theorem cnt_okV {ps : List Nat} {g : List (List Vl)} (h : ∀ r ∈ g, ∀ v ∈ r, okV2 v) (hl : g.length ≤ 100000) : ∀ v ∈ cntRow ps g, okV2 v := by
  intro v hv
  unfold cntRow keysV at hv
  rcases List.mem_append.1 hv with hv | hv
  · obtain ⟨p, _, rfl⟩ := List.mem_map.1 hv
    refine okV2_at ?_ p
    cases g with
    | nil => intro v hv; cases hv
    | cons r g => exact h r (by simp)
  · rw [List.mem_singleton.1 hv]; exact ⟨Nat.zero_le _, inK64 (by simp only [intV]; omega) (by simp only [intV]; omega)⟩
theorem lens_take {gs : List (List (List Vl))} {k : Nat} {g : List (List Vl)} (h : gs[k]? = some g) : lensG (gs.take (k + 1)) = lensG (gs.take k) + g.length := by
  unfold lensG
  rw [List.take_add_one, h, Option.toList_some, List.map_append, List.sum_append]
  simp
theorem sum_le : ∀ (l : List Nat) (k : Nat), (l.take k).sum ≤ l.sum
  | [], k => by simp
  | x :: l, 0 => by simp
  | x :: l, k + 1 => by
    have := sum_le l k
    simp only [List.take_succ_cons, List.sum_cons]; omega
theorem lens_le (gs : List (List (List Vl))) (k : Nat) : lensG (gs.take k) ≤ lensG gs := by
  unfold lensG
  rw [List.map_take]
  exact sum_le _ k
theorem cnt_last (ps : List Nat) (g : List (List Vl)) : (cntRow ps g)[ps.length]? = some (intV g.length) := by
  unfold cntRow
  rw [List.getElem?_append_right (by simp [keysV])]
  simp [keysV]
set_option maxHeartbeats 4000000 in
theorem d14 (z : Gc) (hz : okGc z) : Spec V 14 [.ag ((eGc z).map .d)] (b2 true) := by
  have h49 := d49 z hz
  obtain ⟨⟨L, A⟩, ks, ag⟩ := z
  obtain ⟨ht, hk, ha⟩ := hz
  simp only at ht hk ha
  have h59 := d59 ⟨L, A⟩ ht.r (fun r hr => (ht.v r hr).1)
  simp only [eGc_eq, eT_eq] at h49 h59
  (refine Spec.of_go (L := fun | 0 => some [1] | 1 => some [1, 21] | 2 => some [2] | 3 => some [1, 3, 4] | 4 => some [1, 3, 34] | 5 => some [2] | 6 => some [1, 3, 5] | 7 => some [1, 3, 5, 6] | 8 => some [1, 3, 5, 6, 43, 44, 45] | 9 => some [1, 3, 5, 6, 43, 44, 45, 46] | 10 => some [1, 3, 5, 6, 8, 43, 44, 45] | 11 => some [1, 3, 5, 6, 43, 44, 45] | 12 => some [1, 3, 5, 6, 43, 44, 45] | 13 => some [1, 3, 5, 6, 60, 61, 62] | 14 => some [1, 3, 5, 6, 60, 61, 62, 63] | 15 => some [1, 3, 5, 6, 10, 60, 61, 62] | 16 => some [1, 3, 5, 6, 60, 61, 62] | 17 => some [1, 3, 5, 6, 60, 61, 62] | 18 => some [1, 3, 5, 11, 12] | 19 => some [2] | _ => none) 1000 Go.Proofs.Tryd.func14 rfl rfl ⟨Nat.le_of_ble_eq_true rfl, rfl⟩ rfl ?_; unfold Go.Proofs.Tryd.f14; push_cast (maxSteps := 1000000))
  refine ⟨_, h49, rfl, ?_⟩
  (try (push_cast (maxSteps := 1000000)))
  cases hf : fitsG ⟨⟨L, A⟩, ks, ag⟩ with
  | false =>
    (try (push_cast (maxSteps := 1000000)))
    refine ⟨_, d50, rfl, ?_⟩
    (try (push_cast (maxSteps := 1000000)))
  | true =>
    obtain ⟨f1, f2, f3, f4⟩ := fitsG_parts hf
    simp only at f1 f2 f3 f4
    have la := fewT_len f1
    simp only at la
    (try (push_cast (maxSteps := 1000000)))
    refine ⟨_, h59, rfl, ?_⟩
    cases ea : evenF ⟨L, A⟩ with
    | false =>
      (try (push_cast (maxSteps := 1000000)))
      refine ⟨_, d50, rfl, ?_⟩
      (try (push_cast (maxSteps := 1000000)))
    | true =>
      have ht2 := ht.right f1
      have hks : okKeys ks := by simp only [okKeys]; omega
      have h60 := d60 ⟨L, A⟩ ks [cntA nmG] ht2 hks (by simp) (fun a h => by rw [List.mem_singleton.1 h]; decide) (by simp only; omega)
      have hno := @group_none ⟨L, A⟩ ks [cntA nmG]
      have hco := @counts_ok ⟨L, A⟩ ks nmG ht2.right
      have hgc := @group_cols ⟨L, A⟩ ks [cntA nmG]
      have hcn := colsG_name (L := L) (ks := ks) («as» := [cntA nmG]) ht.l.2 (fun a h => by rw [List.mem_singleton.1 h]; decide)
      have hcl := colsG_len L ks [cntA nmG]
      obtain ⟨G, hG⟩ : ∃ G, G = groupC ⟨L, A⟩ ks [cntA nmG] := ⟨_, rfl⟩
      rw [← hG] at h60 hno hco hgc
      clear hG
      obtain ⟨⟨L', R'⟩, ge⟩ := G
      simp only [eT_eq, List.map_cons, List.map_nil, cntA, eAg_eq, nmG] at h60
      clear hf h49 h59
      (try (push_cast (maxSteps := 1000000)))
      refine ⟨_, h60, rfl, ?_⟩
      by_cases g0 : ge = 0
      · obtain ⟨e1, e2, e3⟩ := hco g0
        obtain ⟨e4, _, _⟩ := hgc g0
        simp only at e1 e2 e3 e4
        rw [← e4] at hcn hcl
        clear hno hco hgc
        have hl' : L'.length ≤ 13 := by simp only [List.length_cons, List.length_nil] at hcl; omega
        have hsum := partC_sum (placesN L ks) A
        have hgl := partC_len (placesN L ks) A
        have hgm := fun g (h : g ∈ partC (placesN L ks) A) => partC_mem h
        have hpsl : (placesN L ks).length = ks.length := by simp [placesN]
        have hle := lens_le (partC (placesN L ks) A)
        generalize placesN L ks = ps at *
        generalize partC ps A = gs at *
        have hR'l : R'.length = gs.length := by rw [e1, List.length_map]
        have hR'm : ∀ r ∈ R', ∃ g ∈ gs, r = cntRow ps g := by
          intro r hr
          rw [e1] at hr
          obtain ⟨g, h1, h2⟩ := List.mem_map.1 hr
          exact ⟨g, h1, h2.symm⟩
        have ht3 : okT2 ⟨L', R'⟩ := by
          refine ⟨⟨by simp only [okLen]; omega, hcn⟩, by simp only [okLen]; omega, fun r hr => ?_, fun r hr => ?_⟩
          · obtain ⟨g, h1, rfl⟩ := hR'm r hr
            obtain ⟨_, q2, q3⟩ := hgm g h1
            exact ⟨by rw [okLen, cnt_len]; omega, cnt_okV (fun r h => (ht2.v r (q3 r h)).2) (by omega)⟩
          · obtain ⟨g, h1, rfl⟩ := hR'm r hr
            obtain ⟨_, q2, q3⟩ := hgm g h1
            exact cnt_right (fun r h => ht2.right r (q3 r h))
        have h61 := d61 ⟨L', R'⟩ (namesN L') ht3 (by simp only [okKeys, namesN, List.length_map]; omega) (by simp only; omega)
        generalize partsC ⟨L', R'⟩ (namesN L') = P at *
        obtain ⟨P, pe⟩ := P
        simp only at e2 e3 h61
        subst e2
        simp only [eT_eq] at h61
        (try (push_cast (maxSteps := 1000000) [g0]))
        refine LoopK.s1 (α := Nat) [45, 5] (fun k => [i2 .i64 k, i2 .i64 (lensG (gs.take k))]) (fun k => k ≤ R'.length) (fun k => R'.length - k) 1000 0 (by omega) (by (try (push_cast (maxSteps := 1000000))) <;> first | rfl | exact ⟨rfl, rfl⟩ | trace_state) ?_
        rintro k hk1
        by_cases hlt : k < R'.length
        · have hd : decide ((k : Int) < (R'.length : Int)) = true := decide_eq_true (by omega)
          obtain ⟨g, hvg⟩ : ∃ g, gs[k]? = some g := ⟨_, List.getElem?_eq_getElem (show k < gs.length by omega)⟩
          have hv : R'[k]? = some (cntRow ps g) := by rw [e1, List.getElem?_map, hvg]; rfl
          have hlk := hle (k + 1)
          have hlk0 := hle k
          have hlt1 := lens_take hvg
          have hrl := cnt_len ps g
          have hlast := cnt_last ps g
          generalize cntRow ps g = r at *
          have hci : (r.map eV).getD ps.length [] = [.v (.int .i64 2), .v (.string ByteArray.empty), .v (.int .i64 g.length), .v (.bool false)] := getD_map hlast
          have hT : ((r.length : Int) - 1).toNat = ps.length := by omega
          (try (push_cast (maxSteps := 1000000) [hd, getD_map hv, hT, hci]))
          ((repeat' (with_reducible refine And.intro ?_ ?_)) <;> try (first | trivial | omega | exact inK64 (by omega) (by omega) | exact inKu8 (by omega) (by omega) | (simp only [maxLen]; omega) | exact .inl trivial | exact .inl rfl))
          refine ⟨k + 1, by omega, by omega, Le.st ?_⟩
          rw [hlt1]
          (try (push_cast (maxSteps := 1000000)))
          all_goals (first | rfl | exact ⟨rfl, rfl⟩ | trace_state)
        · have hd : decide ((k : Int) < (R'.length : Int)) = false := decide_eq_false (by omega)
          rw [show gs.take k = gs from List.take_of_length_le (by omega), hsum]
          (try (push_cast (maxSteps := 1000000) [hd]))
          clear hd hlt hk1
          refine LoopK.le (Le.nil 6 9 1 (by decide) (by (try (push_cast (maxSteps := 1000000))))) ?_
          (try (push_cast (maxSteps := 1000000)))
          refine LoopK.ov (α := Nat) [62] (fun k => [i2 .i64 k]) (fun k => [.bx 84 [.d (.sl 3 (L.map eC)), .d (.sl 1 (A.map eR)), .d (.sl 1 (ks.map eS)), .d (.sl 3 (ag.map eAg))], .dead, .bx 25 [.d (.sl 3 (L'.map eC)), .d (.sl 1 (R'.map eR))], .rw 9 1 ((namesN (L'.take k)).map eS)]) (fun k => k ≤ L'.length) (fun k => L'.length - k) 1000 0 (by omega) (by (try (push_cast (maxSteps := 1000000))) <;> first | rfl | exact ⟨rfl, rfl⟩ | exact ⟨rfl, rfl, rfl⟩ | trivial) ?_
          rintro k hk1
          by_cases hlt : k < L'.length
          · have hv := List.getElem?_eq_getElem hlt; have hd : decide ((k : Int) < (L'.length : Int)) = true := decide_eq_true (by omega)
            have htk : namesN (L'.take (k + 1)) = namesN (L'.take k) ++ [L'[k].name] := by unfold namesN; rw [List.take_add_one, hv, List.map_append]; rfl
            have hlk : (namesN (L'.take k)).length = k := by unfold namesN; rw [List.length_map, List.length_take]; omega
            generalize L'[k] = o at *
            (try (push_cast (maxSteps := 1000000) [hd, getD_map hv, hlk]))
            ((repeat' (with_reducible refine And.intro ?_ ?_)) <;> try (first | trivial | omega | exact inK64 (by omega) (by omega) | exact inKu8 (by omega) (by omega) | (simp only [maxLen]; omega) | exact .inl trivial | exact .inl rfl))
            refine ⟨k + 1, by omega, by omega, Le.st ?_⟩
            rw [htk]
            (try (push_cast (maxSteps := 1000000)))
            all_goals (first | rfl | exact ⟨rfl, rfl⟩ | (simp; done) | (simp; rfl) | trace_state)
          · have hd : decide ((k : Int) < (L'.length : Int)) = false := decide_eq_false (by omega)
            rw [show L'.take k = L' from List.take_of_length_le (by omega)]
            (try (push_cast (maxSteps := 1000000) [hd]))
            refine ⟨_, h61, rfl, ?_⟩
            (try (push_cast (maxSteps := 1000000) [List.length_map, e3]))
            refine ⟨_, d50, rfl, ?_⟩
            (try (push_cast (maxSteps := 1000000)))
      · have := hno g0
        simp only [Tb.mk.injEq] at this
        obtain ⟨rfl, rfl⟩ := this
        (try (push_cast (maxSteps := 1000000) [g0]))
        refine ⟨_, d50, rfl, ?_⟩
        (try (push_cast (maxSteps := 1000000)))
end Go.LS.Tryd
