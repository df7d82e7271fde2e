/- Contracts of the functions of the seat, one by one (part Z2); no condition but those that each bears. -/
import Derived.Test.YtfmbjaeppffdpaaGreatDoorPP
import Derived.Test.YtfmbjaeppffdpaaGreatDoorDC
import Derived.Test.YtfmbjaeppffdpaaGreatDoorDB
namespace Go.LS.Tryz
open Go Go.LS
set_option maxRecDepth 100000
set_option linter.unusedSimpArgs false
set_option linter.unusedVariables false
theorem z83 (r : List Cl) (hr : okLen r) : Spec V 83 [.c (.d (.sl 3 (r.map eC)))] (.c (.d (.sl 3 (r.map eC)))) := by
 (refine Spec.of_go (L := fun | 0 => some [0] | 1 => some [0, 4] | 2 => some [2] | 3 => some [2] | _ => none) 1000 Go.Proofs.Tryz.func83 rfl rfl ⟨Nat.le_of_ble_eq_true rfl, rfl⟩ rfl ?_; unfold Go.Proofs.Tryz.f83; push_cast (maxSteps := mS))
 intro b hb
 (try push_cast (maxSteps := mS))
 refine BrP.mk (fun h => ?_) (fun h => ?_) <;> try (push_cast (maxSteps := mS) [h])
 ·have := hb h
  simp at this
  simp [this]
 ·((repeat' with_reducible refine And.intro ?_ ?_) <;> try first | trivial | omega | exact ix | exact iu | exact im | exact .inl trivial | exact .inl rfl)
  all_goals trace_state
theorem z45 (t : Tb) (ht : okCl t.L) (hr : okLen t.R) (hrr : ∀ r ∈ t.R, okLen r) : Spec V 45 [.ag ((eT t).map .d)] (i2 .i64 (chkT t)) := by
 obtain ⟨L, A⟩ := t
 simp only at ht hr hrr
 have h34 := f47 L ht
 obtain ⟨R, hR⟩ : ∃ R, R = chkT ⟨L, A⟩ := ⟨_, rfl⟩
 rw [← hR]
 unfold chkT at hR
 simp only at hR
 (refine Spec.of_go (L := fun | 0 => some [1] | 1 => some [1, 4] | 2 => some [1, 4, 14] | 3 => some [2] | 4 => some [1, 17, 18, 19] | 5 => some [1, 17, 18, 19, 20] | 6 => some [1, 6, 17, 18, 19] | 7 => some [1, 17, 18, 19, 28] | 8 => some [2] | 9 => some [1, 17, 18, 19] | 10 => some [2] | _ => none) 1000 Go.Proofs.Tryz.func45 rfl rfl ⟨Nat.le_of_ble_eq_true rfl, rfl⟩ rfl ?_; unfold Go.Proofs.Tryz.f45; push_cast (maxSteps := mS))
 refine ⟨_, h34, rfl, ?_⟩
 by_cases c1 : (checkC L).2 = 0
 ·rw [if_neg (by simp [c1])] at hR
  (try push_cast (maxSteps := mS) [c1])
  refine LoopK.s1 (α := Nat) [19] (fun k => [i2 .i64 k]) (fun k => k ≤ A.length ∧ ((A.drop k).all fun r => decide (r.length = L.length)) = evenF ⟨L, A⟩) (fun k => A.length - k) 1000 0 ⟨by omega, rfl⟩ (by (try push_cast (maxSteps := mS)) <;> first | rfl | exact ⟨rfl, rfl⟩ | exact ⟨rfl, rfl, rfl⟩ | trivial) ?_
  rintro k ⟨hk, hc⟩
  by_cases hlt : k < A.length
  ·have hv := List.getElem?_eq_getElem hlt; have hd : decide ((k : Int) < (A.length : Int)) = true := decide_eq_true (by omega)
   rw [drop_cons hv, List.all_cons] at hc
   have hrl := hrr _ (List.getElem_mem hlt)
   generalize A[k] = r at *
   by_cases hw : r.length = L.length
   ·rw [decide_eq_true hw, Bool.true_and] at hc
    (try push_cast (maxSteps := mS) [hd, getD_map hv, hw])
    ((repeat' with_reducible refine And.intro ?_ ?_) <;> try first | trivial | omega | exact ix | exact iu | exact im | exact .inl trivial | exact .inl rfl)
    refine ⟨k + 1, ⟨by omega, hc⟩, by omega, Le.st ?_⟩
    (try push_cast (maxSteps := mS)); (all_goals first | rfl | skip)
   ·have hw' : ¬ (r.length : Int) = (L.length : Int) := by omega
    rw [decide_eq_false hw, Bool.false_and] at hc
    rw [← hc, if_pos rfl] at hR
    subst hR
    (try push_cast (maxSteps := mS) [hd, getD_map hv, hw, hw'])
    ((repeat' with_reducible refine And.intro ?_ ?_) <;> try first | trivial | omega | exact ix | exact iu | exact im | exact .inl trivial | exact .inl rfl)
  ·have hd : decide ((k : Int) < (A.length : Int)) = false := decide_eq_false (by omega)
   rw [List.drop_eq_nil_of_le (by omega), List.all_nil] at hc
   rw [← hc, if_neg (by simp)] at hR
   subst hR
   (try push_cast (maxSteps := mS) [hd])
 ·rw [if_pos c1] at hR
  subst hR
  (try push_cast (maxSteps := mS) [c1])
set_option maxHeartbeats 2000000 in
theorem z47 (l : List Cl) (rows : List (List Vl)) (e : Int) (hl : okLen l) (hr : okLen rows) (hrr : ∀ r ∈ rows, okLen r) :
  Spec V 47 [.c (.d (.sl 3 (l.map eC))), .c (.d (.sl 1 (rows.map eR))), i2 .i64 e] (.tu [.ag ((eT (tabT l rows e).1).map .d), i2 .i64 (tabT l rows e).2]) := by
 have h83 := z83 l hl
 have hrl : rows.length ≤ 1099511627776 := hr
 (refine Spec.of_go (L := fun | 0 => some [0, 1, 2, 6] | 1 => some [0, 1, 2, 6, 12] | 2 => some [6, 7] | 3 => some [1, 6, 8] | 4 => some [6, 8, 18, 19, 20] | 5 => some [6, 8, 18, 19, 20, 21] | 6 => some [6, 8, 10, 18, 19, 20] | 7 => some [6, 8, 18, 19, 20] | 8 => some [6, 8, 18, 19, 20] | 9 => some [6, 7] | _ => none) 1000 Go.Proofs.Tryz.func47 rfl rfl ⟨Nat.le_of_ble_eq_true rfl, rfl⟩ rfl ?_; unfold Go.Proofs.Tryz.f47; push_cast (maxSteps := mS))
 by_cases c1 : e = 0
 ·subst c1
  simp only [tabT]
  (try push_cast (maxSteps := mS))
  refine ⟨_, h83, rfl, ?_⟩
  (try push_cast (maxSteps := mS))
  refine LoopK.le (Le.nilB 1 1 28 1 (by decide) rfl rfl) ?_
  (try push_cast (maxSteps := mS))
  refine LoopK.ov (α := Nat) [20] (fun k => [i2 .i64 k]) (fun k => [.bx 25 [.d (.v (.slice none 0 0)), .d (.v (.slice none 0 0))], .bx 25 [.d (.sl 3 (l.map eC)), .os 2], .rw 28 1 ((rows.take k).map eR)]) (fun k => k ≤ rows.length) (fun k => rows.length - k) 1000 0 (by omega) (by (try push_cast (maxSteps := mS)) <;> first | rfl | exact ⟨rfl, rfl⟩ | exact ⟨rfl, rfl, rfl⟩ | trivial) ?_
  rintro k hk1
  by_cases hlt : k < rows.length
  ·have hv := List.getElem?_eq_getElem hlt; have hd : decide ((k : Int) < (rows.length : Int)) = true := decide_eq_true (by omega)
   have htk : rows.take (k + 1) = rows.take k ++ [rows[k]] := by rw [List.take_add_one, hv]; rfl
   have hlk : (rows.take k).length = k := by rw [List.length_take]; omega
   have h58 := f58 rows[k] (hrr _ (List.getElem_mem hlt))
   generalize rows[k] = r at *
   (try push_cast (maxSteps := mS) [hd, getD_map hv])
   ((repeat' with_reducible refine And.intro ?_ ?_) <;> try first | trivial | omega | exact ix | exact iu | exact im | exact .inl trivial | exact .inl rfl)
   (refine DrawK.of (.take 0 (.take 1 (.take 2 (.one 3 (.one 4 (.one 5 (.one 6 (.one 7 .done)))))))) 1000 (by decide +kernel) ?_; try (push_cast (maxSteps := mS)))
   ((repeat' with_reducible refine And.intro ?_ ?_) <;> try first | trivial | omega | exact ix | exact iu | exact im | exact .inl trivial | exact .inl rfl)
   all_goals (refine ⟨_, h58, rfl, ?_⟩)
   all_goals (try push_cast (maxSteps := mS) [List.length_map, hlk])
   all_goals ((repeat' with_reducible refine And.intro ?_ ?_) <;> try first | trivial | omega | exact ix | exact iu | exact im | exact .inl trivial | exact .inl rfl)
   all_goals (try (simp only [maxLen]; omega))
   all_goals (refine ⟨k + 1, by omega, by omega, Le.st ?_⟩)
   all_goals rw [htk]
   all_goals (try push_cast (maxSteps := mS))
   all_goals (first | rfl | exact ⟨rfl, rfl⟩ | (simp; done) | (simp; rfl) | trace_state)
  ·have hd : decide ((k : Int) < (rows.length : Int)) = false := decide_eq_false (by omega)
   rw [show rows.take k = rows from List.take_of_length_le (by omega)]
   (try push_cast (maxSteps := mS) [hd])
 ·have e1 : tabT l rows e = (tb0, e) := by unfold tabT; rw [if_pos c1]
  rw [e1]
  (try push_cast (maxSteps := mS) [c1, tb0])
set_option maxHeartbeats 4000000 in
theorem z49 (t : Tb) (ns : List ByteArray) (ht : okCl t.L) (hn : okKeys ns) (hr : okLen t.R) (hw : ∀ r ∈ t.R, r.length = t.L.length) :
  Spec V 49 [.ag ((eT t).map .d), .c (.d (.sl 1 (ns.map eS)))] (.tu [.ag ((eT (pickP t ns).1).map .d), i2 .i64 (pickP t ns).2]) := by
 obtain ⟨L, A⟩ := t
 simp only at ht hr hw
 have hn' : ns.length ≤ 64 := hn
 have hr' : A.length ≤ 1099511627776 := hr
 obtain ⟨F, hF⟩ : ∃ F, F = pickP ⟨L, A⟩ ns := ⟨_, rfl⟩
 rw [← hF]
 unfold pickP at hF
 simp only at hF
 (refine Spec.of_go (L := fun | 0 => some [1, 2, 4] | 1 => some [1, 2, 4, 20] | 2 => some [4, 5] | 3 => some [1, 2, 4, 6] | 4 => some [1, 2, 4, 6, 7] | 5 => some [2, 4, 6, 7, 22, 23, 24] | 6 => some [2, 4, 6, 7, 22, 23, 24, 25] | 7 => some [2, 4, 6, 7, 9, 22, 23, 24] | 8 => some [2, 4, 6, 7, 10, 11, 12, 22, 23, 24] | 9 => some [2, 4, 6, 7, 10, 11, 22, 23, 24, 37] | 10 => some [4, 5] | 11 => some [2, 4, 6, 7, 10, 11, 22, 23, 24, 41] | 12 => some [4, 5] | 13 => some [2, 4, 6, 7, 10, 22, 23, 24] | 14 => some [2, 4, 6, 7, 22, 23, 24] | 15 => some [2, 4, 6, 7, 22, 23, 24] | 16 => some [4, 6, 7, 55, 56, 57] | 17 => some [4, 6, 7, 55, 56, 57, 58] | 18 => some [4, 6, 7, 14, 55, 56, 57] | 19 => some [4, 6, 7, 14, 15, 55, 56, 57] | 20 => some [4, 6, 7, 14, 15, 55, 56, 57, 61, 62, 63] | 21 => some [4, 6, 7, 14, 15, 55, 56, 57, 61, 62, 63, 64] | 22 => some [4, 6, 7, 14, 15, 17, 55, 56, 57, 61, 62, 63] | 23 => some [4, 6, 7, 14, 15, 55, 56, 57, 61, 62, 63] | 24 => some [4, 6, 7, 14, 15, 55, 56, 57, 61, 62, 63] | 25 => some [4, 6, 7, 55, 56, 57] | 26 => some [4, 6, 7, 55, 56, 57] | 27 => some [4, 5] | _ => none) 1000 Go.Proofs.Tryz.func49 rfl rfl ⟨Nat.le_of_ble_eq_true rfl, rfl⟩ rfl ?_; unfold Go.Proofs.Tryz.f49; push_cast (maxSteps := mS))
 by_cases c0 : ns.length = 0
 ·rw [if_pos c0] at hF
  subst hF
  (try push_cast (maxSteps := mS) [c0, tb0])
 ·rw [if_neg c0] at hF
  have c1 : ¬ (ns.length : Int) = 0 := by omega
  (try push_cast (maxSteps := mS) [c1])
  refine LoopK.le (Le.nil 7 3 1 (by decide) (by (try push_cast (maxSteps := mS)))) ?_
  (try push_cast (maxSteps := mS))
  refine LoopK.le (Le.nilB 2 0 52 3 (by decide) rfl rfl) ?_
  (try push_cast (maxSteps := mS))
  refine LoopK.ov (α := Nat) [24] (fun k => [i2 .i64 k]) (fun k => [.bx 25 [.d (.sl 3 (L.map eC)), .d (.sl 1 (A.map eR))], .bx 25 [.d (.v (.slice none 0 0)), .d (.v (.slice none 0 0))], .bx 25 [.os 4, .d (.v (.slice none 0 0))], .rw 3 1 ((placesN L (ns.take k)).map eJ), .rw 52 3 (((placesN L (ns.take k)).map fun p => L.getD p cl0).map eC)])
   (fun k => k ≤ ns.length ∧ keyF L (ns.take k) (ns.drop k) k = keyF L [] ns 0 ∧ ∀ n ∈ ns.take k, foundN L n) (fun k => ns.length - k) 1000 0 ⟨by omega, rfl, by simp⟩ (by (try push_cast (maxSteps := mS)) <;> first | rfl | exact ⟨rfl, rfl⟩ | exact ⟨rfl, rfl, rfl⟩ | trivial) ?_
  rintro k ⟨hk, hc, hf⟩
  by_cases hlt : k < ns.length
  ·have hv := List.getElem?_eq_getElem hlt; have hd : decide ((k : Int) < (ns.length : Int)) = true := decide_eq_true (by omega)
   rw [drop_cons hv] at hc; simp only [keyF] at hc
   have h89 := f62 L ns[k] ht.1
   simp only [eC_eq, List.map_cons, List.map_nil] at h89
   (try push_cast (maxSteps := mS) [hd, getD_map hv])
   ((repeat' with_reducible refine And.intro ?_ ?_) <;> try first | trivial | omega | exact ix | exact iu | exact im | exact .inl trivial | exact .inl rfl)
   refine ⟨_, h89, rfl, ?_⟩
   (try push_cast (maxSteps := mS))
   ((repeat' with_reducible refine And.intro ?_ ?_) <;> try first | trivial | omega | exact ix | exact iu | exact im | exact .inl trivial | exact .inl rfl)
   refine BrP.mk (fun h => ?_) (fun h => ?_) <;> try (push_cast (maxSteps := mS) [h])
   ·rw [if_pos (by simpa using h)] at hc
    rw [← hc, if_pos (by simp)] at hF
    subst hF
    (try push_cast (maxSteps := mS) [tb0])
   ·have hfk : foundN L ns[k] := by simpa [foundN] using h
    rw [if_neg (by simpa using h)] at hc
    have hS := d65 (placesN L (ns.take k)) (placeN L ns[k]) (by simp only [okLen, placesN, List.length_map, List.length_take]; omega)
    rw [place_mem hfk hf] at hS
    unfold placeN at hS
    (try push_cast (maxSteps := mS))
    refine ⟨_, hS, rfl, ?_⟩
    (try push_cast (maxSteps := mS))
    refine BrP.mk (fun h => ?_) (fun h => ?_) <;> try (push_cast (maxSteps := mS) [h])
    ·rw [if_pos h] at hc
     rw [← hc, if_pos (by simp)] at hF
     subst hF
     (try push_cast (maxSteps := mS) [tb0])
    ·rw [if_neg (by simp [h])] at hc
     have htk : ns.take (k + 1) = ns.take k ++ [ns[k]] := by rw [List.take_add_one, hv]; rfl
     rw [← htk] at hc
     have hpk : (placesN L (ns.take k)).length = k := by simp [placesN]; omega
     have hgc : L.getD (placeN L ns[k]) cl0 = (findF ns[k] L 0).1 := by rw [List.getD_eq_getElem?_getD, (placeN_get hfk).1]; rfl
     have hpt : placesN L (ns.take (k + 1)) = placesN L (ns.take k) ++ [placeN L ns[k]] := by rw [htk, placesN, List.map_append]; rfl
     (try push_cast (maxSteps := mS) [hpk])
     ((repeat' with_reducible refine And.intro ?_ ?_) <;> try first | trivial | omega | exact ix | exact iu | exact im | exact .inl trivial | exact .inl rfl)
     refine ⟨k + 1, ⟨by omega, hc, ?_⟩, by omega, Le.st ?_⟩
     ·intro n hn
      rw [htk] at hn
      rcases List.mem_append.1 hn with hn | hn
      ·exact hf n hn
      ·rw [List.mem_singleton.1 hn]; exact hfk
     ·rw [hpt, List.map_append, List.map_append, List.map_append, List.map_cons, List.map_nil, List.map_cons, List.map_nil, List.map_cons, List.map_nil, hgc]
      (try push_cast (maxSteps := mS))
      all_goals (first | exact ⟨rfl, rfl⟩ | rfl | trace_state)
  ·have hd : decide ((k : Int) < (ns.length : Int)) = false := decide_eq_false (by omega)
   have hkk : k = ns.length := by omega
   subst hkk
   rw [List.take_length, List.drop_length, keyF] at hc
   rw [List.take_length] at hf
   rw [List.take_length]
   rw [← hc, if_neg (by simp)] at hF
   have hplt := placesN_lt (l := L) (ks := ns) hf
   have hpl : (placesN L ns).length = ns.length := by simp [placesN]
   generalize placesN L ns = ps at *
   subst hF
   clear hc hf hlt
   (try push_cast (maxSteps := mS) [hd])
   clear hd
   refine LoopK.le (Le.nilB 2 1 28 1 (by decide) rfl rfl) ?_
   (try push_cast (maxSteps := mS))
   refine LoopK.ov (α := Nat) [57] (fun k => [i2 .i64 k]) (fun k => [.bx 25 [.d (.sl 3 (L.map eC)), .d (.sl 1 (A.map eR))], .bx 25 [.d (.v (.slice none 0 0)), .d (.v (.slice none 0 0))], .bx 25 [.os 4, .os 5], .rw 3 1 (ps.map eJ), .rw 52 3 ((ps.map fun p => L.getD p cl0).map eC), .rw 28 1 (((A.take k).map fun r => ps.map (vAt r)).map eR)]) (fun k => k ≤ A.length) (fun k => A.length - k) 1000 0 (by omega) (by (try push_cast (maxSteps := mS)) <;> first | rfl | exact ⟨rfl, rfl⟩ | exact ⟨rfl, rfl, rfl⟩ | trivial) ?_
   rintro k hk1
   by_cases hlt : k < A.length
   ·have hv := List.getElem?_eq_getElem hlt; have hd : decide ((k : Int) < (A.length : Int)) = true := decide_eq_true (by omega)
    have htk : (A.take (k + 1)).map (fun r => ps.map (vAt r)) = (A.take k).map (fun r => ps.map (vAt r)) ++ [ps.map (vAt A[k])] := by rw [List.take_add_one, hv, List.map_append]; rfl
    have hlk : ((A.take k).map (fun r => ps.map (vAt r))).length = k := by rw [List.length_map, List.length_take]; omega
    have hrl := hw _ (List.getElem_mem hlt)
    generalize A[k] = r at *
    generalize (A.take k).map (fun r => ps.map (vAt r)) = out at *
    (try push_cast (maxSteps := mS) [hd, getD_map hv])
    ((repeat' with_reducible refine And.intro ?_ ?_) <;> try first | trivial | omega | exact ix | exact iu | exact im | exact .inl trivial | exact .inl rfl)
    refine LoopK.le (Le.nil 15 27 4 (by decide) (by (try push_cast (maxSteps := mS)))) ?_
    (try push_cast (maxSteps := mS))
    refine LoopK.ov (α := Nat) [63] (fun j => [i2 .i64 j]) (fun j => [.bx 25 [.d (.sl 3 (L.map eC)), .d (.sl 1 (A.map eR))], .bx 25 [.d (.v (.slice none 0 0)), .d (.v (.slice none 0 0))], .bx 25 [.os 4, .os 5], .rw 3 1 (ps.map eJ), .rw 52 3 ((ps.map fun p => L.getD p cl0).map eC), .rw 28 1 (out.map eR), .rw 27 4 (((ps.take j).map (vAt r)).map eV)]) (fun j => j ≤ ps.length) (fun j => ps.length - j) 1000 0 (by omega) (by (try push_cast (maxSteps := mS)) <;> first | rfl | exact ⟨rfl, rfl⟩ | exact ⟨rfl, rfl, rfl⟩ | trivial) ?_
    rintro j hj1
    by_cases hlt2 : j < ps.length
    ·have hv2 := List.getElem?_eq_getElem hlt2
     have hd2 : decide ((j : Int) < (ps.length : Int)) = true := decide_eq_true (by omega)
     have htj : (ps.take (j + 1)).map (vAt r) = (ps.take j).map (vAt r) ++ [vAt r ps[j]] := by rw [List.take_add_one, hv2, List.map_append]; rfl
     have hlj : ((ps.take j).map (vAt r)).length = j := by rw [List.length_map, List.length_take]; omega
     have hpj := hplt _ (List.getElem_mem hlt2)
     generalize ps[j] = p at *
     have hvp : r[p]? = some (vAt r p) := by rw [vAt, List.getD_eq_getElem?_getD, List.getElem?_eq_getElem (show p < r.length by omega)]; rfl
     (try push_cast (maxSteps := mS) [hd2, getD_map hv2, getD_map hvp, hlj])
     ((repeat' with_reducible refine And.intro ?_ ?_) <;> try first | trivial | omega | exact ix | exact iu | exact im | exact .inl trivial | exact .inl rfl)
     refine ⟨j + 1, by omega, by omega, Le.st ?_⟩
     rw [htj]
     (try push_cast (maxSteps := mS))
     all_goals (first | rfl | exact ⟨by rw [List.map_append]; rfl, rfl, rfl⟩ | exact ⟨by rw [List.map_append]; rfl, rfl⟩ | trace_state)
    ·have hd2 : decide ((j : Int) < (ps.length : Int)) = false := decide_eq_false (by omega)
     rw [show ps.take j = ps from List.take_of_length_le (by omega)]
     (try push_cast (maxSteps := mS) [hd2, List.length_map, hlk])
     ((repeat' with_reducible refine And.intro ?_ ?_) <;> try first | trivial | omega | exact ix | exact iu | exact im | exact .inl trivial | exact .inl rfl)
     refine ⟨k + 1, by omega, by omega, Le.st ?_⟩
     rw [htk]
     (try push_cast (maxSteps := mS))
     exact ⟨by rw [List.map_append]; rfl, rfl, rfl⟩
   ·have hd : decide ((k : Int) < (A.length : Int)) = false := decide_eq_false (by omega)
    rw [show A.take k = A from List.take_of_length_le (by omega)]
    (try push_cast (maxSteps := mS) [hd])
end Go.LS.Tryz
