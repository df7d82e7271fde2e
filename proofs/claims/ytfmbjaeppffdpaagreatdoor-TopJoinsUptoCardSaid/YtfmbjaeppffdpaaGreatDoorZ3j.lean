/- Contracts of the functions of the seat, one by one (part Z3j); no condition but those that each bears. -/
import Derived.Test.YtfmbjaeppffdpaaGreatDoorZ3x
import Derived.Test.YtfmbjaeppffdpaaGreatDoorSB
import Derived.Test.YtfmbjaeppffdpaaGreatDoorDD
namespace Go.LS.Tryz
open Go Go.LS
set_option maxRecDepth 100000
set_option linter.unusedSimpArgs false
set_option linter.unusedVariables false
set_option maxHeartbeats 8000000 in
theorem z20j (t : Tb) (s : Stp) (ht : okG t) (hs : okStp s) (hw : okT2 s.w) (ho : s.on.length ≤ 64) (hwl : s.w.L.length ≤ 1000) (hwr : s.w.R.length ≤ 200) (hkk : s.kind = 1 ∨ s.kind = 6) : Spec V 20 [.ag ((eT t).map .d), .ag ((eSt s).map .d)] (.tu [.ag ((eT (stepT t s).1).map .d), i2 .i64 (stepT t s).2]) := by
 obtain ⟨⟨htl, htr, htv, hright⟩, hL, hR, hS⟩ := ht
 have hrs : okRs t.R := okT2.rs ⟨htl, htr, htv, hright⟩
 have hrl : ∀ r ∈ t.R, okLen r := fun r hr => (htv r hr).1
 have h45 := z45 t htl htr hrl
 obtain ⟨hki, hq, hks, hni, hnl, hw0, hon0, hhow, hag0, htot⟩ := hs
 have h46 := f25 s.q t.L t.R hq htl htr hrl
 have h51 := d38 t s.w s.on s.how ⟨htl, htr, htv, hright⟩ hw (by omega) hhow (by omega) (by omega) (by omega) (by omega)
 have m1 : ∀ r ∈ (selF s.q t.L t.R).1, okLen r := fun r hr => by
  unfold selF at hr
  split at hr
  ·cases hr
  ·split at hr
   ·cases hr
   ·exact hrl r (List.mem_filter.1 hr).1
 have l1 : okLen (selF s.q t.L t.R).1 := by
  have : t.R.length ≤ 200 := hR
  unfold selF
  split
  ·simp [okLen]
  ·split
   ·simp [okLen]
   ·have := List.length_filter_le (fun r => holdsF s.q t.L r) t.R
    simp only [okLen]; omega
 have t1 := z47 t.L (selF s.q t.L t.R).1 (selF s.q t.L t.R).2 htl.1 l1 m1
 obtain ⟨F, hF⟩ : ∃ F, F = stepT t s := ⟨_, rfl⟩
 rw [← hF]
 unfold stepT at hF
 obtain ⟨L, A⟩ := t
 obtain ⟨kind, ⟨op, col, v, vl, kids⟩, ks, n, nm, ⟨L2, A2⟩, on, how, ag⟩ := s
 simp only [eT_eq, eN_eq, op_mk, col_mk, v_mk, l_mk, ks_mk] at *
 generalize chkT ⟨L, A⟩ = c at *
 (refine Spec.of_go (L := fun | 0 => some [2, 3, 4] | 1 => some [2, 3, 4, 6] | 2 => some [2, 3, 4, 6, 16] | 3 => some [4, 5] | 4 => some [2, 3, 4, 20] | 5 => some [2, 3, 4, 20, 21] | 6 => some [2, 4, 7, 8] | 7 => some [4, 5] | 8 => some [2, 3, 4, 20, 40] | 9 => some [2, 4, 9, 10] | 10 => some [4, 5] | 11 => some [2, 3, 4, 20, 59] | 12 => some [4, 5] | 13 => some [2, 3, 4, 20, 76] | 14 => some [4, 5] | 15 => some [2, 3, 4, 20, 84] | 16 => some [4, 5] | 17 => some [2, 3, 4, 20, 92] | 18 => some [4, 5] | 19 => some [2, 3, 4, 20, 104] | 20 => some [4, 5] | 21 => some [2, 3, 4, 114] | 22 => some [2, 4, 11, 12] | 23 => some [4, 5] | 24 => some [4, 5] | _ => none) 1000 Go.Proofs.Tryz.func20 rfl rfl ⟨Nat.le_of_ble_eq_true rfl, rfl⟩ rfl ?_; unfold Go.Proofs.Tryz.f20; push_cast (maxSteps := mS))
 refine ⟨_, h45, rfl, ?_⟩
 by_cases c1 : c = 0
 ·rw [if_neg (by simp [c1])] at hF
  (try push_cast (maxSteps := mS) [c1])
  by_cases k1 : kind = 1
  ·rw [if_pos k1] at hF
   subst hF
   (try push_cast (maxSteps := mS) [k1])
   refine ⟨_, h46, rfl, ?_⟩
   (try push_cast (maxSteps := mS))
   refine ⟨_, t1, rfl, ?_⟩
   (try push_cast (maxSteps := mS))
  ·rw [if_neg k1] at hF
   have k2 : ¬ kind = 2 := by omega
   have k3 : ¬ kind = 3 := by omega
   have k4 : ¬ kind = 4 := by omega
   have k5 : ¬ kind = 5 := by omega
   have k6 : kind = 6 := by omega
   rw [if_neg k2, if_neg k3, if_neg k4, if_neg k5, if_pos k6] at hF
   subst hF
   clear hkk k1 k2 k3 k4 k5
   (try push_cast (maxSteps := mS) [k6])
   refine ⟨_, h51, rfl, ?_⟩
   (try push_cast (maxSteps := mS))
 ·rw [if_pos c1] at hF
  subst hF
  (try push_cast (maxSteps := mS) [c1, tb0])
end Go.LS.Tryz
