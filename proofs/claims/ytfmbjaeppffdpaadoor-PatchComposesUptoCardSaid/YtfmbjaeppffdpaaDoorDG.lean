/- Contracts of the functions of the seat, one by one (part DG); no condition but those that each bears. -/
import Derived.Test.YtfmbjaeppffdpaaDoorD11
import Derived.Lib.AppendZerosOnto
import Derived.Shelf.RegionOpenPlain
import Derived.WalkKit
import Derived.Lib.Walk
import Derived.Lib.SliceRun
namespace Go.Proofs
open Go Go.Shelf Go.RowKit Go.Lib
set_option maxRecDepth 100000
set_option linter.unusedSimpArgs false
set_option linter.unusedVariables false

set_option maxHeartbeats 2000000 in
theorem Tryd.grow0 (w : World) : Calls Go.Proofs.Tryd.prog 125 #[.slice none 0 0, .int .i64 0] w fun e w' => e = .returned (.slice none 0 0) ∧ w' = w := by
  go_enter Tryd.func125, Tryd.ntmps125
  go_wp2
  go_ret
  exact ⟨rfl, rfl⟩
set_option maxHeartbeats 2000000 in
theorem Tryd.grow1 {i0 : TypeInfo} {z : Value} (u41 : Tryd.prog.underlying 41 = some (.slice 111)) (u3' : Tryd.prog.underlying 3 = some (.int .i64)) (hi0 : Tryd.prog.info? 111 = some i0) (hz0 : i0.zero = some z) (hs0 : i0.size = 3) (hb0 : i0.bytes = 56)
    (n : Nat) (hn : n ≤ 4096) (h0 : 0 < n) (w : World) : Calls Tryd.prog 125 #[.slice none 0 0, .int .i64 n] w fun e w' =>
      e = .returned (.slice (some ⟨w.heap.size, 0, none⟩) 0 (grownCap w n 0 111)) ∧
      w' = w.drew.alloc (.cells (Builtin.zeroCells z.cells n ++ Builtin.zeroCells z.cells (grownCap w n 0 111 - n)) 111) := by
  have hold : (Builtin.firstCells i0.size 0 (.slice none 0 0)).run Tryd.prog w.drew = .ok #[] w.drew := run_firstCells_none w.drew i0.size 0 0 0
  have hrz : ∀ ty, (Builtin.append_ #[41, 3] ty #[.slice none 0 0, .int .i64 (n : Int)]).run Tryd.prog w =
      .ok (.slice (some ⟨w.heap.size, 0, none⟩) n (grownCap w n 0 111)) (w.drew.alloc (.cells (Builtin.zeroCells z.cells n ++ Builtin.zeroCells z.cells (grownCap w n 0 111 - n)) 111)) := fun ty => by
    have h := Lib.run_append_grow_zeros w 41 3 ty 111 i0 z .i64 .i64 u41 u3' hi0 hz0 none 0 0 [] hold n h0 (by omega) (by omega) (by omega) (by rw [hb0]; omega) (growslice_fits (by omega) (by rw [hb0]; omega))
    simpa using h
  have h1 : ¬ ((n : Int) < 0) := by omega
  have h4 : (n : Int) > 0 := by omega
  have hGn : n ≤ grownCap w n 0 111 := grownCap_ge w _ _ _
  obtain ⟨G, hG⟩ : ∃ G, G = grownCap w n 0 111 := ⟨_, rfl⟩
  rw [← hG] at hrz hGn ⊢
  have hG63 : G ≤ 9223372036854775807 := by
    have := grownCap_le_maxLen w n 0 111 (by unfold maxLen; omega)
    rw [← hG] at this
    unfold maxLen at this
    omega
  clear hold hG
  have u0 := run_underlying u41
  have u3 := run_underlying u3'
  go_enter Tryd.func125, Tryd.ntmps125
  go_wp2_with (at_builtin; refine Lib.wpList_append_run _ rfl _ _ _ _ rfl _ _ rfl rfl _ _ (hrz _) ?_)
  all_goals (go_ret; exact ⟨rfl, rfl⟩)
end Go.Proofs
namespace Go.LS.Tryd
open Go Go.LS Go.RowKit Go.Lib
set_option maxRecDepth 100000

theorem d125 (n : Nat) (hn : n ≤ 4096) : SpecR V 125 [.c (.d (.v (.slice none 0 0))), i2 .i64 n] 111 3 [] := by
  refine ⟨⟨_, Go.Proofs.Tryd.func125, rfl, rfl⟩, by decide, fun w E us hG hE hd => ?_⟩
  obtain ⟨u1, r1, e1, hd1, u2, r2, e2, hd2, e3⟩ := hd
  subst e3
  have q1 : u1 = .slice none 0 0 := hd1.1
  have q2 : u2 = .int .i64 n := hd2.1
  subst q1 q2 e2
  have eus : us = #[.slice none 0 0, .int .i64 n] := Array.toList_inj.1 e1
  subst eus
  rcases Nat.eq_zero_or_pos n with rfl | h0
  · refine (Go.Proofs.Tryd.grow0 w).mono ?_
    rintro e w' ⟨rfl, rfl⟩
    exact ⟨_, none, rfl, Ext.refl _ _, (fun b hb => by cases hb), ⟨by decide, .inl ⟨rfl, rfl⟩⟩, .inl ⟨rfl, rfl, rfl⟩⟩
  · have k41 := V.hT 41 _ (rfl : T 41 = some _)
    have k3 := V.hT 3 _ (rfl : T 3 = some _)
    have k111 := V.hT 111 _ (rfl : T 111 = some _)
    obtain ⟨i0, a1, a2, a3, a4⟩ := k111.inf
    refine (Go.Proofs.Tryd.grow1 k41.und k3.und a1 a4 a2 a3 n hn h0 w).mono ?_
    rintro e w' ⟨rfl, rfl⟩
    have hge := grownCap_ge w n 0 111
    have hle := grownCap_le_maxLen w n 0 111 (by unfold maxLen; omega)
    generalize grownCap w n 0 111 = G at *
    have hsz : ∀ m, (Builtin.zeroCells (Value.agg #[.int .i64 0, .slice none 0 0, .slice none 0 0]).cells m).size = m * 3 := fun m => by simp [Builtin.zeroCells, Value.cells]
    refine ⟨_, some w.heap.size, rfl, (Ext.drew noB w).trans (Ext.alloc noB _ _), (fun b hb => by injection hb with hb; omega), ⟨by decide, .inr ⟨w.heap.size, _, G, rfl, by rw [show w.heap.size = w.drew.heap.size from rfl]; exact heap_alloc_new _ _, ?_, Nat.zero_le _, ⟨hle, fun h => by omega⟩, trivial⟩⟩, .inr ⟨w.heap.size, _, G, _, rfl, by rw [show w.heap.size = w.drew.heap.size from rfl]; exact heap_alloc_new _ _, ?_, Nat.zero_le _, hle, rfl⟩⟩
    · rw [Array.size_append]
      have q1 := hsz n
      have q2 := hsz (G - n)
      simp only at q1 q2 ⊢
      omega
    · rw [Array.size_append]
      have q1 := hsz n
      have q2 := hsz (G - n)
      simp only at q1 q2 ⊢
      omega
end Go.LS.Tryd
