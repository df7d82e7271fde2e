/- Contracts of the functions of the seat, one by one (part WG); no condition but those that each bears. -/
import Derived.Test.YtfmbjaeppffdpaaGreatDoorWF
import Derived.Test.YtfmbjaeppffdpaaGreatDoorLSy
namespace Go.LS.Tryz
open Go Go.LS
set_option maxRecDepth 100000
set_option linter.unusedVariables false
set_option linter.unusedSimpArgs false
set_option linter.unusedVariables false
abbrev nilV : DV := .v (.slice none 0 0)
abbrev whR (a : Nd) : List DV := [.v (.int .i64 1), .v (.int .i64 a.op), .v (.string a.col), .v (.int .i64 a.v.k), .v (.string a.v.s), .v (.int .i64 a.v.n), .v (.bool a.v.b), .sl 4 (a.l.map eV), .sl 8 (a.ks.map eN),
 nilV, .v (.int .i64 0), nilV, nilV, nilV, nilV, .v (.int .i64 0), nilV]
set_option maxHeartbeats 4000000 in
theorem z3 (t : Tb) (a b : Nd) (ht : okT0 t) (ha0 : bN a ≤ 100000000000) (hb0 : bN b ≤ 100000000000) : Spec V 3 [.ag ((eT t).map .d), .ag ((eN a).map .d), .ag ((eN b).map .d)] (b2 true) := by
 have ha : okNd a := by unfold okNd; omega
 have hb : okNd b := by unfold okNd; omega
 have hab : okNd (bothN a b) := by simp only [okNd, bothN, bN, bNs, bVs, vl0, ByteArray.size_empty]; omega
 have h10 := z10 t ht
 have h11a := f12 a ha
 have h11b := f12 b hb
 have h12a := f15 a t.L ha ht.l
 have h12b := f15 b t.L hb ht.l
 have h14a := f17 (bN a) a (Nat.le_refl _) ha
 have h14b := f17 (bN b) b (Nat.le_refl _) hb
 have h13a := f51 (bN a) a (Nat.le_refl _) ha
 have h13b := f51 (bN b) b (Nat.le_refl _) hb
 simp only [eT_eq] at h10
 rw [eN_eq] at h11a h12a h14a
 rw [eN_eq] at h11b h12b h14b
 rw [eRN_eq] at h14a h13a
 rw [eRN_eq] at h14b h13b
 (refine Spec.of_go (L := fun | 0 => some [3, 4, 5] | 1 => some [3, 4, 5, 57] | 2 => some [6] | 3 => some [3, 4, 5, 7, 8] | 4 => some [3, 7, 8, 9] | 5 => some [3, 7, 8, 9, 10] | 6 => some [3, 7, 8, 9, 10, 11, 12] | 7 => some [3, 7, 9, 10, 11, 12, 13, 14] | 8 => some [3, 7, 10, 11, 12, 13, 14, 15, 16] | 9 => some [3, 7, 10, 120] | 10 => some [6] | 11 => some [3, 7, 10, 12, 17] | 12 => some [12, 14, 17, 18] | 13 => some [6] | _ => none) 1000 Go.Proofs.Tryz.func3 rfl rfl ⟨Nat.le_of_ble_eq_true rfl, rfl⟩ rfl ?_; unfold Go.Proofs.Tryz.f3; push_cast (maxSteps := mS))
 (refine ⟨_, h10, rfl, ?_⟩; try (push_cast (maxSteps := mS)))
 by_cases hf : fineB t = true
 case neg =>
  have hf' : fineB t = false := by simpa using hf
  (try push_cast (maxSteps := mS) [hf'])
  (refine ⟨_, z15, rfl, ?_⟩; try (push_cast (maxSteps := mS)))
 (try push_cast (maxSteps := mS) [hf])
 (refine ⟨_, h11a, rfl, ?_⟩; try (push_cast (maxSteps := mS)))
 by_cases c1 : cnt a ≤ 120
 case neg =>
  (try push_cast (maxSteps := mS) [decide_eq_false c1])
  (refine ⟨_, z15, rfl, ?_⟩; try (push_cast (maxSteps := mS)))
 (try push_cast (maxSteps := mS) [decide_eq_true c1])
 (refine ⟨_, h11b, rfl, ?_⟩; try (push_cast (maxSteps := mS)))
 by_cases c2 : cnt b ≤ 120
 case neg =>
  (try push_cast (maxSteps := mS) [decide_eq_false c2])
  (refine ⟨_, z15, rfl, ?_⟩; try (push_cast (maxSteps := mS)))
 (try push_cast (maxSteps := mS) [decide_eq_true c2])
 (refine ⟨_, h12a, rfl, ?_⟩; try (push_cast (maxSteps := mS)))
 by_cases c3 : checkF a t.L = 0
 case neg =>
  (try push_cast (maxSteps := mS) [decide_eq_false c3])
  (refine ⟨_, z15, rfl, ?_⟩; try (push_cast (maxSteps := mS)))
 (try push_cast (maxSteps := mS) [decide_eq_true c3])
 (refine ⟨_, h12b, rfl, ?_⟩; try (push_cast (maxSteps := mS)))
 by_cases c4 : checkF b t.L = 0
 case neg =>
  (try push_cast (maxSteps := mS) [decide_eq_false c4])
  (refine ⟨_, z15, rfl, ?_⟩; try (push_cast (maxSteps := mS)))
 (try push_cast (maxSteps := mS) [decide_eq_true c4])
 (refine ⟨_, h14a, rfl, ?_⟩; try (push_cast (maxSteps := mS)))
 (refine ⟨_, h13a, rfl, ?_⟩; try (push_cast (maxSteps := mS)))
 by_cases c5 : dep a = 100
 case pos =>
  (try push_cast (maxSteps := mS) [decide_eq_true c5])
  (refine ⟨_, z15, rfl, ?_⟩; try (push_cast (maxSteps := mS)))
 (try push_cast (maxSteps := mS) [decide_eq_false c5])
 (refine ⟨_, h14b, rfl, ?_⟩; try (push_cast (maxSteps := mS)))
 (refine ⟨_, h13b, rfl, ?_⟩; try (push_cast (maxSteps := mS)))
 by_cases c6 : dep b = 100
 case pos =>
  (try push_cast (maxSteps := mS) [decide_eq_true c6])
  (refine ⟨_, z15, rfl, ?_⟩; try (push_cast (maxSteps := mS)))
 (try push_cast (maxSteps := mS) [decide_eq_false c6])
 refine F4.DrawK.cut (.take 0 (.take 1 (.three 2 (.three 3 (.two 4 (.one 5 (.one 6 (.one 7 .done))) 5 (.one 4 (.one 6 (.one 7 .done)))) 4 (.two 3 (.one 5 (.one 6 (.one 7 .done))) 5 (.two 3 (.one 6 (.one 7 .done)) 6 (.take 3 (.one 7 .done)))) 5 (.two 3 (.one 4 (.one 6 (.one 7 .done))) 4 (.two 3 (.one 6 (.one 7 .done)) 6 (.take 3 (.one 7 .done))))) 4 (.two 2 (.two 3 (.one 5 (.one 6 (.one 7 .done))) 5 (.two 3 (.one 6 (.one 7 .done)) 6 (.take 3 (.one 7 .done)))) 5 (.two 2 (.two 3 (.one 6 (.one 7 .done)) 6 (.take 3 (.one 7 .done))) 6 (.take 2 (.take 3 (.one 7 .done))))) 5 (.two 2 (.two 3 (.one 4 (.one 6 (.one 7 .done))) 4 (.two 3 (.one 6 (.one 7 .done)) 6 (.take 3 (.one 7 .done)))) 4 (.two 2 (.two 3 (.one 6 (.one 7 .done)) 6 (.take 3 (.one 7 .done))) 6 (.take 2 (.take 3 (.one 7 .done)))))))) 1000 (by decide +kernel) ⟨[(7, .c (.d (.at_ (whR a)))), (8, .c (.d (.at_ (whR b)))), (3, .c (.op 0 0)), (4, .c (.op 1 0)), (5, .c (.op 2 0))], [.bx 25 ((eT t).map .d), .bx 31 ((eN a).map .d), .bx 31 ((eN b).map .d)]⟩ ?_ ?_
 ·(try push_cast (maxSteps := mS))
  all_goals (repeat' (with_reducible refine And.intro ?_ ?_)) <;> try (first | trivial | omega)
  all_goals refine Le.frz [3, 4] ?_
  all_goals (try push_cast (maxSteps := mS))
  all_goals try rfl
  all_goals (repeat' (first | rfl | apply And.intro))
 ·have hc : chkT t = 0 := fine_chk hf
  obtain ⟨c, m, hl⟩ : ∃ c m, t.L = c :: m := by
   cases h : t.L with
   | nil => exact ((checkC_ok (chk_cols hc)).2.2 h).elim
   | cons c m => exact ⟨c, m, rfl⟩
  have hg : (t.L.map eC).getD 0 [] = [.v (.string c.name), .v (.int .i64 c.kind), .v (.bool c.null)] := by rw [hl]; rfl
  have hlp : (0 : Int) < (t.L.length : Int) := by rw [hl]; simp
  (try push_cast (maxSteps := mS) [hg])
  refine ⟨hlp, ?_⟩
  have hw := chk_wide hc
  have g0 := okG_fine ht hf
  have hA := okH_wh ha
  have hB := okH_wh hb
  have flt : ∀ {u : Tb} (p : List Vl → Bool), okG u → okG ⟨u.L, u.R.filter p⟩ := fun p hu => okG_sub hu (List.length_filter_le _ _) fun r hr => (List.mem_filter.1 hr).1
  have k1 := z16 (run25 g0 (flt (holdsF a t.L) g0) (flt (holdsF b t.L) (flt (holdsF a t.L) g0)) hA hB (.inl rfl) (.inl rfl) (step_where hc c3 hw) (step_where (t := ⟨t.L, t.R.filter fun r => holdsF a t.L r⟩) (chk_filter _ hc) c4 (wide_filter _ hw)))
  have k2 := z16 (run25 g0 (flt (holdsF b t.L) g0) (flt (holdsF a t.L) (flt (holdsF b t.L) g0)) hB hA (.inl rfl) (.inl rfl) (step_where hc c4 hw) (step_where (t := ⟨t.L, t.R.filter fun r => holdsF b t.L r⟩) (chk_filter _ hc) c3 (wide_filter _ hw)))
  have k3 := z16 (run25o g0 (flt (fun r => holdsF (bothN a b) t.L r) g0) (okH_wh hab) (.inl rfl) (step_where hc (both_check c3 c4 c5 c6) hw))
  simp only [List.map_cons, List.map_nil, eSt_eq, whS, st0, tb0, eT_eq] at k1 k2
  simp only [List.map_cons, List.map_nil, eSt_eq, whS, st0, tb0, eT_eq, bothN, vl0, Nd.op, Nd.col, Nd.v, Nd.l, Nd.ks, eN_eq] at k3
  have rsG : ∀ {u : Tb}, okG u → okRs u.R := fun h => h.ok.rs
  have e12 : (t.R.filter (holdsF a t.L)).filter (holdsF b t.L) = (t.R.filter (holdsF b t.L)).filter (holdsF a t.L) := by
   simp only [List.filter_filter]
   exact List.filter_congr fun x _ => Bool.and_comm _ _
  have e13 : (t.R.filter (holdsF a t.L)).filter (holdsF b t.L) = t.R.filter fun r => holdsF (bothN a b) t.L r := by
   simp only [List.filter_filter, both_holds]
   exact List.filter_congr fun x _ => Bool.and_comm _ _
  have q1 := z17 ⟨t.L, (t.R.filter (holdsF a t.L)).filter (holdsF b t.L)⟩ ⟨t.L, (t.R.filter (holdsF b t.L)).filter (holdsF a t.L)⟩ (rsG (flt (holdsF b t.L) (flt (holdsF a t.L) g0))) (rsG (flt (holdsF a t.L) (flt (holdsF b t.L) g0)))
  have q2 := z17 ⟨t.L, (t.R.filter (holdsF a t.L)).filter (holdsF b t.L)⟩ ⟨t.L, t.R.filter fun r => holdsF (bothN a b) t.L r⟩ (rsG (flt (holdsF b t.L) (flt (holdsF a t.L) g0))) (rsG (flt (fun r => holdsF (bothN a b) t.L r) g0))
  have a1 : allF ((t.R.filter (holdsF a t.L)).filter (holdsF b t.L)) ((t.R.filter (holdsF b t.L)).filter (holdsF a t.L)) = true := by rw [e12]; exact allF_self _
  have a2 : allF ((t.R.filter (holdsF a t.L)).filter (holdsF b t.L)) (t.R.filter fun r => holdsF (bothN a b) t.L r) = true := by rw [← e13]; exact allF_self _
  simp only [eT_eq, a1] at q1
  simp only [eT_eq, a2] at q2
  (refine ⟨_, k1, rfl, ?_⟩; try (push_cast (maxSteps := mS)))
  (refine ⟨_, k2, rfl, ?_⟩; try (push_cast (maxSteps := mS)))
  (refine ⟨_, k3, rfl, ?_⟩; try (push_cast (maxSteps := mS)))
  (refine ⟨_, q1, rfl, ?_⟩; try (push_cast (maxSteps := mS)))
  (refine ⟨_, q2, rfl, ?_⟩; try (push_cast (maxSteps := mS)))
  have srt : ∀ {u : Tb} (f : List Vl → List Vl → Int), okG u → okG ⟨u.L, sortF f u.R⟩ := fun f hu => okG_sub hu (Nat.le_of_eq (sortF_len f _)) fun r hr => (sortF_mem f r _).1 hr
  have k4 := z16 (run25 g0 (flt (holdsF a t.L) g0) (srt (ordF (placesF [⟨c.name, true⟩] t.L)) (flt (holdsF a t.L) g0)) hA (okH_so ⟨c.name, true⟩) (.inl rfl) (.inr rfl) (step_where hc c3 hw) (sort_step (t := ⟨t.L, t.R.filter fun r => holdsF a t.L r⟩) (chk_filter _ hc) hl true))
  have k5 := z16 (run25 g0 (srt (ordF (placesF [⟨c.name, true⟩] t.L)) g0) (flt (holdsF a t.L) (srt (ordF (placesF [⟨c.name, true⟩] t.L)) g0)) (okH_so ⟨c.name, true⟩) hA (.inr rfl) (.inl rfl) (sort_step hc hl true) (step_where (t := ⟨t.L, sortF (ordF (placesF [⟨c.name, true⟩] t.L)) t.R⟩) (chk_sort _ hc) c3 (wide_sort _ hw)))
  have q3 := z17 ⟨t.L, sortF (ordF (placesF [⟨c.name, true⟩] t.L)) (t.R.filter (holdsF a t.L))⟩ ⟨t.L, (sortF (ordF (placesF [⟨c.name, true⟩] t.L)) t.R).filter (holdsF a t.L)⟩ (rsG (srt _ (flt (holdsF a t.L) g0))) (rsG (flt (holdsF a t.L) (srt _ g0)))
  have a3 : allF (sortF (ordF (placesF [⟨c.name, true⟩] t.L)) (t.R.filter (holdsF a t.L))) ((sortF (ordF (placesF [⟨c.name, true⟩] t.L)) t.R).filter (holdsF a t.L)) = true := by rw [sort_filter (ord_ordF _)]; exact allF_self _
  simp only [eT_eq, a3] at q3
  generalize sortF (ordF (placesF [⟨c.name, true⟩] t.L)) = srF at *
  simp only [List.map_cons, List.map_nil, eSt_eq, whS, soS, st0, tb0, nd0, vl0, Nd.op, Nd.col, Nd.v, Nd.l, Nd.ks, eK_eq, eT_eq] at k4 k5
  (refine ⟨_, k4, rfl, ?_⟩; try (push_cast (maxSteps := mS)))
  (refine ⟨_, k5, rfl, ?_⟩; try (push_cast (maxSteps := mS)))
  (refine ⟨_, q3, rfl, ?_⟩; try (push_cast (maxSteps := mS)))
  (refine ⟨_, z15, rfl, ?_⟩; try (push_cast (maxSteps := mS)))
end Go.LS.Tryz
