/- Contracts of the functions of the seat, one by one (part WE); no condition but those that each bears. -/
import Derived.Test.YtfmbjaeppffdpaaGreatDoorWD
import Derived.Test.YtfmbjaeppffdpaaGreatDoorZ2
import Derived.Test.YtfmbjaeppffdpaaGreatDoorSA
import Derived.Test.YtfmbjaeppffdpaaGreatDoorDA
import Derived.Test.YtfmbjaeppffdpaaGreatDoorPTa
namespace Go.LS.Tryz
open Go Go.LS
set_option maxRecDepth 100000
set_option linter.unusedVariables false
set_option linter.unusedSimpArgs false
set_option linter.unusedVariables false
theorem specT {f : FuncId} {args : List LV} {r0 : LV} (h : SpecG VT f args Gh.emp fun r _ => r = r0) (hd : dataL r0 = true) : Spec V f args r0 := by
 refine ⟨h.1, hd, fun w E us _ hE hdat => ?_⟩
 refine (h.2 w E (fun _ => False) us (fun _ h => h) (fun _ h => h.elim) hE hdat).mono ?_
 rintro e w' ⟨v, r, G', E', rfl, rfl, _, h1, h2, h3, h4⟩
 have h5 : dlv w' (ownA E (fun _ => False) E') (none0 E) [] r v := dlv_toData hd h4
 exact ⟨v, rfl, h2.weaken fun _ _ h => h.elim, dlv_O (O := ownA E (fun _ => False) E') (O' := E) (fun b hb => .inl ⟨hb, id⟩) h5⟩
theorem z15 : Spec V 15 [] (b2 true) := specT w15 rfl
theorem z16 {t u : Tb} {l : List Stp} {n : Nat} {e : Int} (h : Spec V 25 [.ag ((eT t).map .d), .c (.d (.sl 17 (l.map eSt)))] (.tu [.ag ((eT u).map .d), i2 .i64 n, i2 .i64 e])) :
  Spec V 16 [.ag ((eT t).map .d), .c (.d (.sl 17 (l.map eSt)))] (.tu [.ag ((eT u).map .d), b2 (decide (e = 0))]) := by
 simp only [eT_eq] at h
 (refine Spec.of_go (L := fun | 0 => some [1, 2, 4] | 1 => some [4, 6, 8] | 2 => some [4, 5] | _ => none) 1000 Go.Proofs.Tryz.func16 rfl rfl ⟨Nat.le_of_ble_eq_true rfl, rfl⟩ rfl ?_; unfold Go.Proofs.Tryz.f16; push_cast (maxSteps := mS))
 (refine ⟨_, h, rfl, ?_⟩; try (push_cast (maxSteps := mS)))
theorem z17 (a b : Tb) (ha : okRs a.R) (hb : okRs b.R) : Spec V 17 [.ag ((eT a).map .d), .ag ((eT b).map .d)] (b2 (allF a.R b.R)) := by
 have h1 := f27 a.R ha.1 fun r hr => (ha.2 r hr).1
 have h2 := f27 b.R hb.1 fun r hr => (hb.2 r hr).1
 have h3 := f26 a.R b.R ha.1 hb.1 (fun r hr => (ha.2 r hr).1) fun r hr => (hb.2 r hr).1
 (refine Spec.of_go (L := fun | 0 => some [2, 3] | 1 => some [4] | _ => none) 1000 Go.Proofs.Tryz.func17 rfl rfl ⟨Nat.le_of_ble_eq_true rfl, rfl⟩ rfl ?_; unfold Go.Proofs.Tryz.f17; push_cast (maxSteps := mS))
 (refine DrawK.of (.take 0 (.take 1 (.take 3 (.take 4 (.one 2 (.one 5 (.one 6 (.take 7 .done)))))))) 1000 (by decide +kernel) ?_; try (push_cast (maxSteps := mS)))
 ((repeat' with_reducible refine And.intro ?_ ?_) <;> try first | trivial | omega | exact ix | exact iu | exact im | exact .inl trivial | exact .inl rfl)
 all_goals (refine ⟨_, h1, rfl, ?_⟩; try ((try push_cast (maxSteps := mS))))
 all_goals (refine ⟨_, h2, rfl, ?_⟩; try ((try push_cast (maxSteps := mS))))
 all_goals (refine ⟨_, h3, rfl, ?_⟩; try ((try push_cast (maxSteps := mS))))
theorem z10 (t : Tb) (ht : okT0 t) : Spec V 10 [.ag ((eT t).map .d)] (b2 (fineB t)) := by
 have h1 := f18 t.L ht.l.1
 have h2 := f50 t.L ht.l
 have h3 := d58 t ht
 simp only [eT_eq] at h3
 unfold fineB
 (refine Spec.of_go (L := fun | 0 => some [1] | 1 => some [1, 4] | 2 => some [1, 20] | 3 => some [2] | 4 => some [1, 22, 23, 24] | 5 => some [1, 22, 23, 24, 25] | 6 => some [1, 6, 22, 23, 24] | 7 => some [1, 22, 23, 24, 33] | 8 => some [2] | 9 => some [1, 22, 23, 24] | 10 => some [2] | _ => none) 1000 Go.Proofs.Tryz.func10 rfl rfl ⟨Nat.le_of_ble_eq_true rfl, rfl⟩ rfl ?_; unfold Go.Proofs.Tryz.f10; push_cast (maxSteps := mS))
 (refine ⟨_, h1, rfl, ?_⟩; try (push_cast (maxSteps := mS)))
 (refine ⟨_, h2, rfl, ?_⟩; try (push_cast (maxSteps := mS)))
 refine BrP.mk (fun h => ?_) (fun h => ?_) <;> try (push_cast (maxSteps := mS) [h])
 ·have h' : (checkC t.L).2 ≠ 0 := by simpa using h
  rw [decide_eq_false h']; rfl
 ·have h' : (checkC t.L).2 = 0 := by simpa using h
  rw [decide_eq_true h', Bool.true_and]
  (refine ⟨_, h3, rfl, ?_⟩; try (push_cast (maxSteps := mS)))
  refine BrP.mk (fun h => ?_) (fun h => ?_) <;> try (push_cast (maxSteps := mS) [h])
  ·have hf : fewT t = false := by simpa using h
   rw [hf]; rfl
  ·have hf : fewT t = true := by simpa using h
   rw [hf, Bool.true_and]
   obtain ⟨hl1, hr1⟩ := fewT_len hf
   refine LoopK.s1 (α := Nat) [24] (fun k => [i2 .i64 k]) (fun k => k ≤ t.R.length ∧ (t.R.take k).all (fun r => decide (r.length = t.L.length)) = true) (fun k => t.R.length - k) 1000 0 ⟨by omega, rfl⟩ (by (try push_cast (maxSteps := mS))) ?_
   rintro k ⟨hk, hc⟩
   by_cases hlt : k < t.R.length
   ·have hv := List.getElem?_eq_getElem hlt; have hd : decide ((k : Int) < (t.R.length : Int)) = true := decide_eq_true (by omega)
    have hg : (t.R.map eR).getD k [] = eR t.R[k] := by rw [List.getD_eq_getElem?_getD, List.getElem?_map, hv]; rfl
    have he : evenF t = true → t.R[k].length = t.L.length := fun h => by
     have := List.all_eq_true.1 h _ (List.getElem_mem hlt)
     exact of_decide_eq_true this
    have ht' : t.R.take (k + 1) = t.R.take k ++ [t.R[k]] := List.take_succ_eq_append_getElem hlt
    generalize t.R[k] = r at *
    (try push_cast (maxSteps := mS) [hd, hg])
    refine ⟨⟨by omega, by omega⟩, ?_⟩
    refine BrP.mk (fun h => ?_) (fun h => ?_) <;> try (push_cast (maxSteps := mS) [h])
    ·have hn : ¬ r.length = t.L.length := by simp at h; omega
     cases hev : evenF t with
     | false => rfl
     | true => exact absurd (he hev) hn
    ·have hn : r.length = t.L.length := by simp at h; omega
     (repeat ((with_reducible refine And.intro ?_ ?_); focus (first | trivial | omega | exact ix | exact inKu8 (by omega) (by omega))))
     refine ⟨k + 1, ⟨by omega, ?_⟩, by omega, Le.st ?_⟩
     ·rw [ht', List.all_append, hc]
      simp [hn]
     ·(try push_cast (maxSteps := mS))
   ·have hd : decide ((k : Int) < (t.R.length : Int)) = false := decide_eq_false (by omega)
    obtain rfl : k = t.R.length := by omega
    rw [List.take_length] at hc
    (try push_cast (maxSteps := mS) [hd])
    exact hc.symm
end Go.LS.Tryz
