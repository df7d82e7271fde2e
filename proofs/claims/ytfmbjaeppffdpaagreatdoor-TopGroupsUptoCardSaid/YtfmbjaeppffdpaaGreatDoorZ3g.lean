/- Contracts of the functions of the seat, one by one (part Z3g); no condition but those that each bears. -/
import Derived.Test.YtfmbjaeppffdpaaGreatDoorZ3x
import Derived.Test.YtfmbjaeppffdpaaGreatDoorSB
import Derived.Test.YtfmbjaeppffdpaaGreatDoorDE
namespace Go.LS.Tryz
open Go Go.LS
set_option maxRecDepth 100000
set_option linter.unusedSimpArgs false
set_option linter.unusedVariables false
theorem uniq_mem {α : Type} (f : α → α → Int) (d : α) (rows : List α) : ∀ k, ∀ x ∈ uniqK f d rows k, x = d ∨ x ∈ rows := by
 intro k
 induction k with
 | zero => intro x hx; cases hx
 | succ k ih =>
  intro x hx
  rw [uniqK] at hx
  split at hx
  ·rcases List.mem_append.1 hx with hx | hx
   ·exact ih x hx
   ·rw [List.mem_singleton.1 hx, List.getD_eq_getElem?_getD]
    cases h : rows[k]? with
    | none => exact .inl rfl
    | some v => exact .inr (List.mem_of_getElem? h)
  ·exact ih x hx
set_option maxHeartbeats 8000000 in
theorem z20g (t : Tb) (s : Stp) (ht : okG t) (hs : okH s) (hkk : s.kind = 1 ∨ s.kind = 4 ∨ s.kind = 7 ∨ s.kind = 8) : Spec V 20 [.ag ((eT t).map .d), .ag ((eSt s).map .d)] (.tu [.ag ((eT (stepT t s).1).map .d), i2 .i64 (stepT t s).2]) := by
 obtain ⟨⟨htl, htr, htv, hright⟩, hL, hR, hS⟩ := ht
 have hrs : okRs t.R := okT2.rs ⟨htl, htr, htv, hright⟩
 have hrl : ∀ r ∈ t.R, okLen r := fun r hr => (htv r hr).1
 have h45 := z45 t htl htr hrl
 obtain ⟨⟨hki, hq, hks, hni, hnl, hw0, hon0, hhow, hag0, htot⟩, hnm, hnz, hon, hag, haz, hw, hwl, hwr⟩ := hs
 have h46 := f25 s.q t.L t.R hq htl htr hrl
 have h53 := f42 s.ks t.L t.R hks htl hrs hS
 have h49 := fun h => z49 t s.nm htl (by simp only [okKeys]; omega) htr h
 have h52 := d60 t s.nm s.ag ⟨htl, htr, htv, hright⟩ (by simp only [okKeys]; omega) (by omega) haz (by omega)
 have m1 : ∀ r ∈ (selF s.q t.L t.R).1, okLen r := fun r hr => by
  unfold selF at hr
  split at hr
  ·cases hr
  ·split at hr
   ·cases hr
   ·exact hrl r (List.mem_filter.1 hr).1
 have l1 : okLen (selF s.q t.L t.R).1 := by
  have : t.R.length ≤ 200 := hR
  unfold selF
  split
  ·simp [okLen]
  ·split
   ·simp [okLen]
   ·have := List.length_filter_le (fun r => holdsF s.q t.L r) t.R
    simp only [okLen]; omega
 have m8 : ∀ r ∈ (uniqC s.ks t.L t.R).1, okLen r := fun r hr => by
  unfold uniqC at hr
  split at hr
  ·cases hr
  ·rcases uniq_mem _ _ _ _ r hr with h | h
   ·subst h; simp [okLen]
   ·exact hrl r h
 have l8 : okLen (uniqC s.ks t.L t.R).1 := by
  unfold uniqC
  split
  ·simp [okLen]
  ·have := uniqK_len (ordF (placesF s.ks t.L)) [] t.R t.R.length
   simp only [okLen]; omega
 have t1 := z47 t.L (selF s.q t.L t.R).1 (selF s.q t.L t.R).2 htl.1 l1 m1
 have t8 := z47 t.L (uniqC s.ks t.L t.R).1 (uniqC s.ks t.L t.R).2 htl.1 l8 m8
 have hev : chkT t = 0 → ∀ r ∈ t.R, r.length = t.L.length := fun h => by
  unfold chkT at h
  split at h
  ·contradiction
  ·split at h
   ·cases h
   ·rename_i h2
    have : evenF t = true := by simpa using h2
    simpa [evenF] using this
 obtain ⟨F, hF⟩ : ∃ F, F = stepT t s := ⟨_, rfl⟩
 rw [← hF]
 have e8 : uniqP s.ks t.L t.R = uniqC s.ks t.L t.R := rfl
 unfold stepT at hF
 rw [e8] at hF
 obtain ⟨L, A⟩ := t
 obtain ⟨kind, ⟨op, col, v, vl, kids⟩, ks, n, nm, ⟨L2, A2⟩, on, how, ag⟩ := s
 simp only [eT_eq, eN_eq, op_mk, col_mk, v_mk, l_mk, ks_mk] at *
 generalize chkT ⟨L, A⟩ = c at *
 (refine Spec.of_go (L := fun | 0 => some [2, 3, 4] | 1 => some [2, 3, 4, 6] | 2 => some [2, 3, 4, 6, 16] | 3 => some [4, 5] | 4 => some [2, 3, 4, 20] | 5 => some [2, 3, 4, 20, 21] | 6 => some [2, 4, 7, 8] | 7 => some [4, 5] | 8 => some [2, 3, 4, 20, 40] | 9 => some [2, 4, 9, 10] | 10 => some [4, 5] | 11 => some [2, 3, 4, 20, 59] | 12 => some [4, 5] | 13 => some [2, 3, 4, 20, 76] | 14 => some [4, 5] | 15 => some [2, 3, 4, 20, 84] | 16 => some [4, 5] | 17 => some [2, 3, 4, 20, 92] | 18 => some [4, 5] | 19 => some [2, 3, 4, 20, 104] | 20 => some [4, 5] | 21 => some [2, 3, 4, 114] | 22 => some [2, 4, 11, 12] | 23 => some [4, 5] | 24 => some [4, 5] | _ => none) 1000 Go.Proofs.Tryz.func20 rfl rfl ⟨Nat.le_of_ble_eq_true rfl, rfl⟩ rfl ?_; unfold Go.Proofs.Tryz.f20; push_cast (maxSteps := mS))
 refine ⟨_, h45, rfl, ?_⟩
 by_cases c1 : c = 0
 ·rw [if_neg (by simp [c1])] at hF
  replace h49 := h49 (hev c1)
  clear hev
  (try push_cast (maxSteps := mS) [c1])
  by_cases k1 : kind = 1
  ·rw [if_pos k1] at hF
   subst hF
   (try push_cast (maxSteps := mS) [k1])
   refine ⟨_, h46, rfl, ?_⟩
   (try push_cast (maxSteps := mS))
   refine ⟨_, t1, rfl, ?_⟩
   (try push_cast (maxSteps := mS))
  ·rw [if_neg k1] at hF
   have k2 : ¬ kind = 2 := by omega
   have k3 : ¬ kind = 3 := by omega
   rw [if_neg k2, if_neg k3] at hF
   (try push_cast (maxSteps := mS) [k1, k2, k3])
   by_cases k4 : kind = 4
   ·rw [if_pos k4] at hF
    subst hF
    (try push_cast (maxSteps := mS) [k4])
    refine ⟨_, h49, rfl, ?_⟩
    (try push_cast (maxSteps := mS))
   ·have k5 : ¬ kind = 5 := by omega
    have k6 : ¬ kind = 6 := by omega
    rw [if_neg k4, if_neg k5, if_neg k6] at hF
    (try push_cast (maxSteps := mS) [k4, k5, k6])
    by_cases k7 : kind = 7
    ·rw [if_pos k7] at hF
     subst hF
     (try push_cast (maxSteps := mS) [k7])
     refine ⟨_, h52, rfl, ?_⟩
     (try push_cast (maxSteps := mS))
    ·have k8 : kind = 8 := by omega
     rw [if_neg k7, if_pos k8] at hF
     subst hF
     clear hkk k7
     (try push_cast (maxSteps := mS) [k8])
     refine ⟨_, h53, rfl, ?_⟩
     (try push_cast (maxSteps := mS))
     refine ⟨_, t8, rfl, ?_⟩
     (try push_cast (maxSteps := mS))
 ·rw [if_pos c1] at hF
  subst hF
  (try push_cast (maxSteps := mS) [c1, tb0])
end Go.LS.Tryz
