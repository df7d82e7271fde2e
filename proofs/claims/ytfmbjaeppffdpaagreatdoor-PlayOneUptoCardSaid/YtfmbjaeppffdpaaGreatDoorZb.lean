/- Contracts of the functions of the seat, one by one (part Zb); no condition but those that each bears. -/
import Derived.Test.YtfmbjaeppffdpaaGreatDoorZa
import Derived.Test.YtfmbjaeppffdpaaGreatDoorZ4
import Derived.Test.YtfmbjaeppffdpaaGreatDoorPP
namespace Go.LS.Tryz
open Go Go.LS
set_option maxRecDepth 100000
set_option linter.unusedSimpArgs false
set_option linter.unusedVariables false
theorem namesB_le {l : List ByteArray} (h : namesB l = true) : l.length ≤ 12 ∧ ∀ s ∈ l, s.size ≤ 60 := by
 simp only [namesB, Bool.and_eq_true, decide_eq_true_eq, List.all_eq_true] at h
 exact ⟨h.2, h.1⟩
theorem short_okH {s : Stp} (hs : okStp s) (h : shortB s = true) : okH s := by
 simp only [shortB, Bool.and_eq_true, decide_eq_true_eq] at h
 obtain ⟨h1, h2, _, h4, h5⟩ := h
 obtain ⟨a1, a2⟩ := namesB_le h1
 obtain ⟨b1, b2⟩ := namesB_le h2
 have e1 := colsO_len s.on
 have e2 := colsA_len s.ag
 simp only [List.length_append] at a1
 have hl := fewT_len h4
 exact ⟨hs, b1, b2, by omega, by omega, fun a ha => by
  have : a.nm ∈ colsK s.ks ++ colsO s.on ++ colsA s.ag := by
   refine List.mem_append.2 (.inr ?_)
   exact List.mem_flatMap.2 ⟨a, ha, by simp⟩
  have := a2 _ this
  omega, hs.w.right h4, hl.1, h5⟩
theorem few_okG {t : Tb} (ht : okT0 t) (h : fewT t = true) : okG t := by
 have hl := fewT_len h
 exact ⟨ht.right h, by omega, by omega, by omega⟩
set_option maxHeartbeats 4000000 in
theorem z6 (t : Tb) (s : Stp) (ht : okT0 t) (hs : okStp s) : Spec V 6 [.ag ((eT t).map .d), .ag ((eSt s).map .d)] (b2 true) := by
 have h18 := z18 t [s] ht (by simp [okLen]) (by simpa using hs)
 have h22 := d20 t ht
 have hshort : fewB t [s] = true → okG t ∧ okH s := fun h => by
  simp only [fewB, List.all_cons, List.all_nil, Bool.and_true, Bool.and_eq_true, decide_eq_true_eq] at h
  exact ⟨few_okG ht h.2.1, short_okH hs h.1⟩
 have h20 := fun g h => z20 t s g h
 have h21 := fun g h => z21 t s g h
 have h23 := fun h => z23 s hs h
 have h24 := fun (g : okG t) (h : okH s) => z24 (stepT t s).1 (stepT t s).1 (step_good g.ok g.cl (by have := g.rl; omega) h).ok (step_good g.ok g.cl (by have := g.rl; omega) h).ok.l.1 (step_good g.ok g.cl (by have := g.rl; omega) h).ok.r (fun r hr => ((step_good g.ok g.cl (by have := g.rl; omega) h).ok.v r hr).1)
 rw [sameCs_iff.2 rfl, allF_self] at h24
 generalize stepT t s = R at *
 obtain ⟨⟨RL, RR⟩, re⟩ := R
 obtain ⟨L, A⟩ := t
 obtain ⟨kind, ⟨op, col, v, vl, kids⟩, ks, n, nm, ⟨M, C⟩, on, how, ag⟩ := s
 simp only [eT_eq, eRT_eq, eSt_eq, eRSt_eq, op_mk, col_mk, v_mk, l_mk, ks_mk, List.map_cons, List.map_nil] at h18 h20 h21 h22 h23 h24
 (refine Spec.of_go (L := fun | 0 => some [2, 3] | 1 => some [2, 3, 13] | 2 => some [4] | 3 => some [2, 3, 5, 6] | 4 => some [5, 6, 7, 8] | 5 => some [4] | _ => none) 1000 Go.Proofs.Tryz.func6 rfl rfl ⟨Nat.le_of_ble_eq_true rfl, rfl⟩ rfl ?_; unfold Go.Proofs.Tryz.f6; push_cast (maxSteps := mS))
 refine ⟨_, h18, rfl, ?_⟩
 cases hf : fewB ⟨L, A⟩ [⟨kind, .mk op col v vl kids, ks, n, nm, ⟨M, C⟩, on, how, ag⟩] with
 | false =>
  (try push_cast (maxSteps := mS))
  refine ⟨_, z19, rfl, ?_⟩
  (try push_cast (maxSteps := mS))
 | true =>
  obtain ⟨hg, hh⟩ := hshort hf
  replace h20 := h20 hg hh
  replace h21 := h21 hg hh
  replace h24 := h24 hg hh
  replace h23 := h23 (by have := hh.al; simp only at this; omega)
  clear h18
  (try push_cast (maxSteps := mS))
  refine ⟨_, h20, rfl, ?_⟩
  (try push_cast (maxSteps := mS))
  refine DrawK.cut (.take 0 (.take 2 (.two 1 (.two 3 (.two 4 (.take 5 (.take 6 (.two 7 (.one 8 (.one 9 (.take 10 .done))) 8 (.two 7 (.one 9 (.take 10 .done)) 9 (.take 7 (.take 10 .done)))))) 8 (.one 4 (.take 5 (.take 6 (.two 7 (.one 9 (.take 10 .done)) 9 (.take 7 (.take 10 .done))))))) 8 (.one 3 (.one 4 (.take 5 (.take 6 (.two 7 (.one 9 (.take 10 .done)) 9 (.take 7 (.take 10 .done)))))))) 8 (.one 1 (.one 3 (.one 4 (.take 5 (.take 6 (.two 7 (.one 9 (.take 10 .done)) 9 (.take 7 (.take 10 .done))))))))))) 1000 (by decide +kernel) ⟨[(8, i2 .i64 re), (7, .c (.op 4 0)), (6, i2 .i64 re), (5, .c (.op 3 0))],
   [.bx 25 [.d (.sl 3 (L.map eC)), .d (.sl 1 (A.map eR))], .bx 50 ((eSt ⟨kind, .mk op col v vl kids, ks, n, nm, ⟨M, C⟩, on, how, ag⟩).map .d), .rw 50 17 [eSt ⟨kind, .mk op col v vl kids, ks, n, nm, ⟨M, C⟩, on, how, ag⟩], .bx 25 [.d (.sl 3 (RL.map eC)), .d (.sl 1 (RR.map eR))], .bx 74 [.d (.sl 3 (RL.map eRC)), .d (.sl 1 (RR.map eRR))]]⟩ ?_ ?_
  ·(try push_cast (maxSteps := mS))
   ((repeat' with_reducible refine And.intro ?_ ?_) <;> try first | trivial | omega | exact ix | exact iu | exact im | exact .inl trivial | exact .inl rfl)
   all_goals (refine ⟨_, h22, rfl, ?_⟩)
   all_goals (try push_cast (maxSteps := mS))
   all_goals ((repeat' with_reducible refine And.intro ?_ ?_) <;> try first | trivial | omega | exact ix | exact iu | exact im | exact .inl trivial | exact .inl rfl)
   all_goals (refine ⟨_, h23, rfl, ?_⟩)
   all_goals (try push_cast (maxSteps := mS))
   all_goals ((repeat' with_reducible refine And.intro ?_ ?_) <;> try first | trivial | omega | exact ix | exact iu | exact im | exact .inl trivial | exact .inl rfl)
   all_goals (refine ⟨_, h21, rfl, ?_⟩)
   all_goals (try push_cast (maxSteps := mS))
   all_goals ((repeat' with_reducible refine And.intro ?_ ?_) <;> try first | trivial | omega | exact ix | exact iu | exact im | exact .inl trivial | exact .inl rfl)
   all_goals (refine Le.st ?_)
   all_goals (try push_cast (maxSteps := mS))
   all_goals rfl
  (try push_cast (maxSteps := mS))
  refine ⟨_, h24, rfl, ?_⟩
  (try push_cast (maxSteps := mS))
  refine ⟨_, z19, rfl, ?_⟩
  (try push_cast (maxSteps := mS))
end Go.LS.Tryz
