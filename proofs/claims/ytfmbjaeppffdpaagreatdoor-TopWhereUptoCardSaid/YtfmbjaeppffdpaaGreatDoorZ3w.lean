/- Contracts of the functions of the seat, one by one (part Z3w); no condition but those that each bears. -/
import Derived.Test.YtfmbjaeppffdpaaGreatDoorZ2
import Derived.Test.YtfmbjaeppffdpaaGreatDoorSB
namespace Go.LS.Tryz
open Go Go.LS
set_option maxRecDepth 100000
set_option linter.unusedSimpArgs false
set_option linter.unusedVariables false
set_option maxHeartbeats 8000000 in
theorem z20w (t : Tb) (s : Stp) (ht : okG t) (hs : okH s) (hkk : s.kind = 1 ∨ s.kind = 2) : Spec V 20 [.ag ((eT t).map .d), .ag ((eSt s).map .d)] (.tu [.ag ((eT (stepT t s).1).map .d), i2 .i64 (stepT t s).2]) := by
 obtain ⟨⟨htl, htr, htv, hright⟩, hL, hR, hS⟩ := ht
 have hrs : okRs t.R := okT2.rs ⟨htl, htr, htv, hright⟩
 have hrl : ∀ r ∈ t.R, okLen r := fun r hr => (htv r hr).1
 have h45 := z45 t htl htr hrl
 obtain ⟨⟨hki, hq, hks, hni, hnl, hw0, hon0, hhow, hag0, htot⟩, hnm, hnz, hon, hag, haz, hw, hwl, hwr⟩ := hs
 have h46 := f25 s.q t.L t.R hq htl htr hrl
 have h48 := f35 s.ks t.L t.R hks htl hrs hS
 have m1 : ∀ r ∈ (selF s.q t.L t.R).1, okLen r := fun r hr => by
  unfold selF at hr
  split at hr
  ·cases hr
  ·split at hr
   ·cases hr
   ·exact hrl r (List.mem_filter.1 hr).1
 have l1 : okLen (selF s.q t.L t.R).1 := by
  have : t.R.length ≤ 200 := hR
  unfold selF
  split
  ·simp [okLen]
  ·split
   ·simp [okLen]
   ·have := List.length_filter_le (fun r => holdsF s.q t.L r) t.R
    simp only [okLen]; omega
 have m2 : ∀ r ∈ (sortC s.ks t.L t.R).1, okLen r := fun r hr => by
  unfold sortC at hr
  split at hr
  ·cases hr
  ·exact hrl r ((sortF_mem _ _ _).1 hr)
 have l2 : okLen (sortC s.ks t.L t.R).1 := by
  unfold sortC
  split
  ·simp [okLen]
  ·simp only [okLen, sortF_len]; omega
 have t1 := z47 t.L (selF s.q t.L t.R).1 (selF s.q t.L t.R).2 htl.1 l1 m1
 have t2 := z47 t.L (sortC s.ks t.L t.R).1 (sortC s.ks t.L t.R).2 htl.1 l2 m2
 obtain ⟨F, hF⟩ : ∃ F, F = stepT t s := ⟨_, rfl⟩
 rw [← hF]
 have e2 : sortP s.ks t.L t.R = sortC s.ks t.L t.R := rfl
 unfold stepT at hF
 rw [e2] at hF
 obtain ⟨L, A⟩ := t
 obtain ⟨kind, ⟨op, col, v, vl, kids⟩, ks, n, nm, ⟨L2, A2⟩, on, how, ag⟩ := s
 simp only [eT_eq, eN_eq, op_mk, col_mk, v_mk, l_mk, ks_mk] at *
 generalize chkT ⟨L, A⟩ = c at *
 (refine Spec.of_go (L := fun | 0 => some [2, 3, 4] | 1 => some [2, 3, 4, 6] | 2 => some [2, 3, 4, 6, 16] | 3 => some [4, 5] | 4 => some [2, 3, 4, 20] | 5 => some [2, 3, 4, 20, 21] | 6 => some [2, 4, 7, 8] | 7 => some [4, 5] | 8 => some [2, 3, 4, 20, 40] | 9 => some [2, 4, 9, 10] | 10 => some [4, 5] | 11 => some [2, 3, 4, 20, 59] | 12 => some [4, 5] | 13 => some [2, 3, 4, 20, 76] | 14 => some [4, 5] | 15 => some [2, 3, 4, 20, 84] | 16 => some [4, 5] | 17 => some [2, 3, 4, 20, 92] | 18 => some [4, 5] | 19 => some [2, 3, 4, 20, 104] | 20 => some [4, 5] | 21 => some [2, 3, 4, 114] | 22 => some [2, 4, 11, 12] | 23 => some [4, 5] | 24 => some [4, 5] | _ => none) 1000 Go.Proofs.Tryz.func20 rfl rfl ⟨Nat.le_of_ble_eq_true rfl, rfl⟩ rfl ?_; unfold Go.Proofs.Tryz.f20; push_cast (maxSteps := mS))
 refine ⟨_, h45, rfl, ?_⟩
 by_cases c1 : c = 0
 ·rw [if_neg (by simp [c1])] at hF
  (try push_cast (maxSteps := mS) [c1])
  by_cases k1 : kind = 1
  ·rw [if_pos k1] at hF
   subst hF
   (try push_cast (maxSteps := mS) [k1])
   refine ⟨_, h46, rfl, ?_⟩
   (try push_cast (maxSteps := mS))
   refine ⟨_, t1, rfl, ?_⟩
   (try push_cast (maxSteps := mS))
  ·rw [if_neg k1] at hF
   (try push_cast (maxSteps := mS) [k1])
   by_cases k2 : kind = 2
   ·rw [if_pos k2] at hF
    subst hF
    (try push_cast (maxSteps := mS) [k2])
    refine ⟨_, h48, rfl, ?_⟩
    (try push_cast (maxSteps := mS))
    refine ⟨_, t2, rfl, ?_⟩
    (try push_cast (maxSteps := mS))
   ·omega
 ·rw [if_pos c1] at hF
  subst hF
  (try push_cast (maxSteps := mS) [c1, tb0])
set_option maxHeartbeats 4000000 in
theorem z25w (t : Tb) (l : List Stp) (hl : l.length ≤ 100) (hs : ∀ s ∈ l, okH s) (hkk : ∀ s ∈ l, s.kind = 1 ∨ s.kind = 2) (P : Nat → Tb → Prop) (hP : ∀ i t, P i t → okG t) (h0 : P 0 t) (hn : ∀ i t s, P i t → l[i]? = some s → (stepT t s).2 = 0 → P (i + 1) (stepT t s).1) :
  Spec V 25 [.ag ((eT t).map .d), .c (.d (.sl 17 (l.map eSt)))] (.tu [.ag ((eT (runA t l).1).map .d), i2 .i64 (runA t l).2.1, i2 .i64 (runA t l).2.2]) := by
 have h45 := z45 t (hP 0 t h0).ok.l (hP 0 t h0).ok.r (fun r h => ((hP 0 t h0).ok.v r h).1)
 have h47 := z47 t.L t.R (chkT t) (hP 0 t h0).ok.l.1 (hP 0 t h0).ok.r (fun r h => ((hP 0 t h0).ok.v r h).1)
 obtain ⟨F, hF⟩ : ∃ F, F = runA t l := ⟨_, rfl⟩
 rw [← hF]
 unfold runA at hF
 simp only [eT_eq] at h45 h47
 (refine Spec.of_go (L := fun | 0 => some [1, 2, 4] | 1 => some [1, 2, 4, 15] | 2 => some [4, 7, 8] | 3 => some [4, 5, 6] | 4 => some [1, 2, 4, 28, 29, 30] | 5 => some [1, 2, 4, 28, 29, 30, 31] | 6 => some [1, 2, 4, 9, 10, 28, 29, 30] | 7 => some [1, 2, 4, 9, 11, 12, 28, 29, 30] | 8 => some [1, 2, 4, 9, 11, 12, 28, 29, 30, 42] | 9 => some [4, 5, 6] | 10 => some [1, 2, 4, 28, 29, 30] | 11 => some [1, 2, 4, 28, 29, 30] | 12 => some [4, 5, 6] | _ => none) 1000 Go.Proofs.Tryz.func25 rfl rfl ⟨Nat.le_of_ble_eq_true rfl, rfl⟩ rfl ?_; unfold Go.Proofs.Tryz.f25; push_cast (maxSteps := mS))
 by_cases c0 : l.length = 0
 ·rw [if_pos c0] at hF
  subst hF
  (try push_cast (maxSteps := mS) [c0])
  (refine DrawK.of (.take 0 (.take 1 (.take 2 (.take 3 (.take 4 (.two 5 (.two 6 (.take 7 (.take 8 (.two 9 (.one 10 (.one 11 (.one 12 .done))) 10 (.two 9 (.one 11 (.one 12 .done)) 11 (.one 9 (.one 12 .done)))))) 10 (.one 6 (.take 7 (.take 8 (.two 9 (.one 11 (.one 12 .done)) 11 (.one 9 (.one 12 .done))))))) 10 (.one 5 (.one 6 (.take 7 (.take 8 (.two 9 (.one 11 (.one 12 .done)) 11 (.one 9 (.one 12 .done))))))))))))) 1000 (by decide +kernel) ?_; try (push_cast (maxSteps := mS)))
  ((repeat' with_reducible refine And.intro ?_ ?_) <;> try first | trivial | omega | exact ix | exact iu | exact im | exact .inl trivial | exact .inl rfl)
  all_goals (refine ⟨_, h45, rfl, ?_⟩)
  all_goals (try push_cast (maxSteps := mS))
  all_goals ((repeat' with_reducible refine And.intro ?_ ?_) <;> try first | trivial | omega | exact ix | exact iu | exact im | exact .inl trivial | exact .inl rfl)
  all_goals (refine ⟨_, h47, rfl, ?_⟩)
  all_goals (try push_cast (maxSteps := mS))
  all_goals trace_state
 ·rw [if_neg c0] at hF
  have c1 : ¬ (l.length : Int) = 0 := by omega
  (try push_cast (maxSteps := mS) [c1])
  refine LoopK.ov (α := Nat × Tb) [30] (fun p => [i2 .i64 p.1]) (fun p => [.bx 25 [.d (.sl 3 (p.2.L.map eC)), .d (.sl 1 (p.2.R.map eR))], .bx 25 [.d (.v (.slice none 0 0)), .d (.v (.slice none 0 0))]])
   (fun p => p.1 ≤ l.length ∧ P p.1 p.2 ∧ runT p.2 (l.drop p.1) p.1 = F) (fun p => l.length - p.1) 1000 (0, t) ⟨by simp, h0, hF.symm⟩ (by (try push_cast (maxSteps := mS)) <;> first | rfl | exact ⟨rfl, rfl⟩ | exact ⟨rfl, rfl, rfl⟩ | trivial) ?_
  rintro ⟨k, u⟩ ⟨hk, hp, hc⟩
  simp only at hk hp hc
  clear h45 h47
  by_cases hlt : k < l.length
  ·have hv := List.getElem?_eq_getElem hlt; have hd : decide ((k : Int) < (l.length : Int)) = true := decide_eq_true (by omega)
   rw [drop_cons hv] at hc
   simp only [runT] at hc
   have h20 := z20w u l[k] (hP k u hp) (hs _ (List.getElem_mem hlt)) (hkk _ (List.getElem_mem hlt))
   have hnk := hn k u l[k] hp hv
   generalize l[k] = s at *
   simp only [eT_eq, eSt_eq] at h20
   (try push_cast (maxSteps := mS) [hd, getD_map hv])
   ((repeat' with_reducible refine And.intro ?_ ?_) <;> try first | trivial | omega | exact ix | exact iu | exact im | exact .inl trivial | exact .inl rfl)
   refine ⟨_, h20, rfl, ?_⟩
   (try push_cast (maxSteps := mS))
   ((repeat' with_reducible refine And.intro ?_ ?_) <;> try first | trivial | omega | exact ix | exact iu | exact im | exact .inl trivial | exact .inl rfl)
   by_cases e : (stepT u s).2 = 0
   ·rw [if_neg (by simp [e])] at hc
    replace hnk := hnk e
    generalize stepT u s = S at *
    (try push_cast (maxSteps := mS) [e])
    ((repeat' with_reducible refine And.intro ?_ ?_) <;> try first | trivial | omega | exact ix | exact iu | exact im | exact .inl trivial | exact .inl rfl)
    refine ⟨(k + 1, S.1), ⟨by simp only; omega, hnk, hc⟩, by simp only; omega, Le.st ?_⟩
    (try push_cast (maxSteps := mS))
    all_goals (first | rfl | exact ⟨rfl, rfl⟩ | trace_state)
   ·rw [if_pos e] at hc
    subst hc
    (try push_cast (maxSteps := mS) [e, tb0])
  ·have hd : decide ((k : Int) < (l.length : Int)) = false := decide_eq_false (by omega)
   have hkk : k = l.length := by omega
   subst hkk
   rw [List.drop_length, runT] at hc
   subst hc
   (try push_cast (maxSteps := mS) [hd])
end Go.LS.Tryz
