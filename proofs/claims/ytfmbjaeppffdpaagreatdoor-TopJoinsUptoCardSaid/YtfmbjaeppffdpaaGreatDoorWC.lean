/- Contracts of the functions of the seat, one by one (part WC); no condition but those that each bears. -/
import Derived.Test.YtfmbjaeppffdpaaGreatDoorWB
import Derived.Test.YtfmbjaeppffdpaaGreatDoorLRi
import Derived.Test.YtfmbjaeppffdpaaGreatDoorPA
namespace Go.LS.Tryz
open Go Go.LS
set_option maxRecDepth 100000
@[push_cast] def lv0WC : Nat → Option (List Nat) := fun | 0 => some [0, 3] | 1 => some [0, 3, 12] | 2 => some [0, 3] | 3 => some [0, 3, 23] | 4 => some [0, 4, 5, 6] | 5 => some [0, 30] | 6 => some [0, 4, 5, 6] | 7 => some [0, 7] | 8 => some [0, 7] | 9 => some [0, 7, 42] | 10 => some [0, 7] | 11 => some [0, 7] | 12 => some [0, 4, 5, 6] | _ => none
set_option linter.unusedVariables false
set_option linter.unusedSimpArgs false
set_option linter.unusedVariables false
set_option maxHeartbeats 4000000
abbrev nilR : LV := .c (.d (.sl 1 []))
theorem w153 (u : Value) (e1 e2 e3 e4 : Bool) (n : Int) (f f' : List Int) (r r' : List ByteArray) (b b' : Int) (R : Gh)
  (h : SpecG VTx 177 [.c (.d (.v u)), EV e1 e2 e3 e4 false n] ((Gh.st u (MK f r b)).sep R) fun res G' => res = i6L 0 ∧ Ent G' ((Gh.st u (MK f' r' b')).sep R)) :
  SpecG VTx 153 [.c (.d (.v u)), EV e1 e2 e3 e4 false n] ((Gh.st u (MK f r b)).sep R) fun res G' => res = .tu [nilR, trL false, i6L 0] ∧ Ent G' ((Gh.st u (MK f' r' b')).sep R) := by
 (refine SpecG.of_take VTx_G 0 (L := lv0WC) 1000 Go.Proofs.Tryz.func153 rfl rfl ⟨Nat.le_of_ble_eq_true rfl, rfl⟩ (by simp [numS]) (by rfl) ?_; unfold Go.Proofs.Tryz.f153; push_cast (maxSteps := mS))
 refine ⟨0, 3, MK f r b, [.bx 255 (evC e1 e2 e3 e4 false n)], rfl, by simp, rfl, ⟨rfl, by decide⟩, ⟨rfl, rfl⟩, ?_⟩
 (try push_cast (maxSteps := mS))
 refine .inr ⟨_, h, rfl, ?_⟩
 rintro res G' ⟨rfl, hG⟩
 refine ⟨[13], MK f' r' b', [.bx 255 (evC e1 e2 e3 e4 false n)], R, by simp [LS.putO, LS.put, delS], hG, rfl, rfl, ?_⟩
 (try push_cast (maxSteps := mS))
 refine res_tk [(6, i6L 0), (5, trL false), (4, .c (.d (.v (.slice none 0 0)))), (0, .c (.op 0 0))] (Le.st ?_) (by simp) rfl (fun v => ⟨⟨trivial, trivial, trivial, trivial⟩, rfl⟩)
 (try push_cast (maxSteps := mS))
 all_goals first | rfl | exact ⟨rfl, rfl⟩
theorem w153g (u : Value) (R : Gh) : SpecG VTx 153 [.c (.d (.v u)), EV false false false false false 0] ((Gh.st u ML).sep R) fun res G' => res = .tu [nilR, trL false, i6L 0] ∧ Ent G' ((Gh.st u ML).sep R) := by
 (refine SpecG.of_take VTx_G 0 (L := lv0WC) 1000 Go.Proofs.Tryz.func153 rfl rfl ⟨Nat.le_of_ble_eq_true rfl, rfl⟩ (by simp [numS]) (by rfl) ?_; unfold Go.Proofs.Tryz.f153; push_cast (maxSteps := mS))
 refine ⟨0, 2, ML, [.bx 255 (evC false false false false false 0)], rfl, by simp, rfl, ⟨rfl, by decide⟩, ⟨rfl, rfl⟩, ?_⟩
 (try push_cast (maxSteps := mS))
 refine .inr ⟨_, w177g u R, rfl, ?_⟩
 rintro res G' ⟨rfl, hG⟩
 refine ⟨[13], ML, [.bx 255 (evC false false false false false 0)], R, by simp [LS.putO, LS.put, delS], hG, rfl, rfl, ?_⟩
 (try push_cast (maxSteps := mS))
 refine res_tk [(6, i6L 0), (5, trL false), (4, .c (.d (.v (.slice none 0 0)))), (0, .c (.op 0 0))] (Le.st ?_) (by simp) rfl (fun v => ⟨⟨trivial, trivial, trivial, trivial⟩, rfl⟩)
 (try push_cast (maxSteps := mS))
 all_goals first | rfl | exact ⟨rfl, rfl⟩
theorem w153r (u : Value) (n : Int) (s1 s2 : ByteArray) (R : Gh) (hs : strN [n] = s2) (hn : 0 ≤ n ∧ n ≤ 255) :
  SpecG VTx 153 [.c (.d (.v u)), EV false false false true true 0] ((Gh.st u (MK [n] [s1] 1)).sep R) fun res G' => res = .tu [.c (.d (.sl 1 [stD s1, stD s2])), trL true, i6L 0] ∧ Ent G' ((Gh.st u ML).sep R) := by
 (refine SpecG.of_take VTx_G 0 (L := lv0WC) 1000 Go.Proofs.Tryz.func153 rfl rfl ⟨Nat.le_of_ble_eq_true rfl, rfl⟩ (by simp [numS]) (by rfl) ?_; unfold Go.Proofs.Tryz.f153; push_cast (maxSteps := mS))
 refine ⟨0, 3, MK [n] [s1] 1, [.bx 255 (evC false false false true true 0)], rfl, by simp, rfl, ⟨rfl, by decide⟩, ⟨rfl, rfl⟩, ?_⟩
 (try push_cast (maxSteps := mS))
 refine .inr ⟨_, w177f u n [s1] 1 R hn (by simp), rfl, ?_⟩
 rintro res G' ⟨rfl, hG⟩
 rw [hs] at hG
 refine ⟨[13], MK [] [s1, s2] 1, [.bx 255 (evC false false false true true 0)], R, by simp [LS.putO, LS.put, delS], hG, rfl, rfl, ?_⟩
 (try push_cast (maxSteps := mS))
 refine .inr ⟨⟨by decide, by decide⟩, ?_⟩
 refine res_tk [(6, i6L 0), (5, trL true), (4, .c (.d (.sl 1 [stD s1, stD s2]))), (0, .c (.op 0 0))] (Le.frz [2] ?_) (by simp) rfl (fun v => ⟨⟨trivial, trivial, trivial, trivial⟩, rfl⟩)
 (try push_cast (maxSteps := mS))
 all_goals first | rfl | exact ⟨rfl, rfl⟩
theorem w117 : SpecG VT 117 [.ag limC] Gh.emp fun res G' => ∃ u, res = .tu [.c (.d (.v u)), i6L 0] ∧ Ent G' (Gh.st u (MK [] [] 0)) := by
 (refine SpecG.of_make VT_G 2 (L := fun | 0 => some [1, 2] | 1 => some [1, 2, 4] | 2 => some [1, 2, 4, 8] | 3 => some [2, 3] | 4 => some [2, 3] | _ => none) 1000 Go.Proofs.Tryz.func117 rfl rfl ⟨Nat.le_of_ble_eq_true rfl, rfl⟩ ?_; unfold Go.Proofs.Tryz.f117; push_cast (maxSteps := mS))
 (refine .inl ⟨_, w150, rfl, ?_⟩; try (push_cast (maxSteps := mS)))
 refine ⟨[(2, .c (.op 0 0)), (3, i6L 0)], MK [] [] 0, ?_, by simp, fun u => ⟨.tu [.c (.d (.v u)), i6L 0], _, sep_emp _, ⟨u, rfl, Ent.refl _⟩, rfl, ⟨⟨trivial, trivial, trivial⟩, rfl⟩⟩⟩
 refine Le.trans (Le.shift (pre := [.bx 113 limC]) 1 rfl rfl) ?_
 refine Le.trans (Le.nilB (sl := [(3, i6L 0), (2, .c (.op 0 0))]) (ob := [.bx 251 (mkC (.d (.v (.slice none 0 0))) (.d (.v (.slice none 0 0))) 0 0 0)]) 0 4 5 1 (by decide) (t' := 251) (cs := mkC (.d (.v (.slice none 0 0))) (.d (.v (.slice none 0 0))) 0 0 0) rfl rfl) ?_
 refine Le.trans (Le.nilB (sl := [(3, i6L 0), (2, .c (.op 0 0))]) (ob := [.bx 251 (mkC (.os 1) (.d (.v (.slice none 0 0))) 0 0 0), .rw 5 1 []]) 0 5 9 1 (by decide) (t' := 251) (cs := mkC (.os 1) (.d (.v (.slice none 0 0))) 0 0 0) rfl rfl) ?_
 refine Le.st ?_
 (try push_cast (maxSteps := mS))
 all_goals first | rfl | exact ⟨rfl, rfl⟩
abbrev wkC (u : Value) (s : Int) : List DV := [.v (.int .u8 44), .v (.int .u8 34), .v (.int .i64 1), .v u, .v (.int .i64 0), .v (.int .i64 s)]
theorem w119 (u v : Value) (o o' : List OB) (s s' : Int) (b : Int) (e1 e2 e3 e4 e5 : Bool) (n : Int) (rec : List (List DV)) (d : Bool) (R : Gh) (hb : b ≤ 127)
  (h1 : Spec VT 152 [.ag diaC, i6L s, u8L b] (.tu [EV e1 e2 e3 e4 e5 n, i6L s', i6L 0]))
  (h2 : SpecG VT 153 [.c (.d (.v u)), EV e1 e2 e3 e4 e5 n] ((Gh.st u o).sep R) fun res G' => res = .tu [.c (.d (.sl 1 rec)), trL d, i6L 0] ∧ Ent G' ((Gh.st u o').sep R)) :
  SpecG VT 119 [.c (.d (.v v)), u8L b] ((Gh.st v [.bx 210 ((wkC u s).map .d)]).sep ((Gh.st u o).sep R)) fun res G' => res = .tu [.c (.d (.sl 1 rec)), trL d, i6L 0] ∧ Ent G' ((Gh.st v [.bx 210 ((wkC u s').map .d)]).sep ((Gh.st u o').sep R)) := by
 (refine SpecG.of_take VT_G 0 (L := fun | 0 => some [0, 1] | 1 => some [0, 1, 7, 8] | 2 => some [0, 1, 7, 22] | 3 => some [0, 4, 5, 6] | 4 => some [0, 1] | 5 => some [0, 9, 10, 11] | 6 => some [0, 9, 10, 11, 42] | 7 => some [0, 4, 5, 6] | 8 => some [0, 9] | 9 => some [0, 4, 5, 6] | _ => none) 1000 Go.Proofs.Tryz.func119 rfl rfl ⟨Nat.le_of_ble_eq_true rfl, rfl⟩ (by simp [numS]) (by rfl) ?_; unfold Go.Proofs.Tryz.f119; push_cast (maxSteps := mS))
 (refine .inl ⟨_, w146 b hb, rfl, ?_⟩; try (push_cast (maxSteps := mS)))
 refine DrawG.cut VT_G (.take 0 (.take 1 (.take 2 (.take 4 (.take 5 (.take 6 (.take 8 (.three 3 (.two 7 (.two 9 (.take 10 (.take 11 (.take 12 (.take 13 (.one 14 (.one 15 (.one 16 (.one 17 .done)))))))) 14 (.one 9 (.one 10 (.take 11 (.take 12 (.take 13 (.one 15 (.one 16 (.one 17 .done))))))))) 14 (.one 7 (.one 9 (.one 10 (.take 11 (.take 12 (.take 13 (.one 15 (.one 16 (.one 17 .done)))))))))) 7 (.two 3 (.two 9 (.take 10 (.take 11 (.take 12 (.take 13 (.one 14 (.one 15 (.one 16 (.one 17 .done)))))))) 14 (.one 9 (.one 10 (.take 11 (.take 12 (.take 13 (.one 15 (.one 16 (.one 17 .done))))))))) 14 (.one 3 (.one 9 (.one 10 (.take 11 (.take 12 (.take 13 (.one 15 (.one 16 (.one 17 .done)))))))))) 14 (.two 3 (.one 7 (.one 9 (.one 10 (.take 11 (.take 12 (.take 13 (.one 15 (.one 16 (.one 17 .done))))))))) 7 (.one 3 (.one 9 (.one 10 (.take 11 (.take 12 (.take 13 (.one 15 (.one 16 (.one 17 .done)))))))))))))))))) 1000 (by decide +kernel) ⟨[(9, .c (.op 1 0)), (10, i6L s'), (11, i6L 0), (0, .c (.op 0 0))], [.bx 210 ((wkC u s).map .d), .bx 255 (evC e1 e2 e3 e4 e5 n)]⟩ ((Gh.st u o).sep R) ?_ ?_
 ·(try push_cast (maxSteps := mS))
  (repeat' (with_reducible refine And.intro ?_ ?_)) <;> try (first | trivial | omega)
  all_goals refine .inl ⟨_, h1, rfl, ?_⟩
  all_goals (try push_cast (maxSteps := mS))
  all_goals (repeat' (with_reducible refine And.intro ?_ ?_)) <;> try (first | trivial | omega)
  all_goals refine ⟨Le.st ?_, Ent.refl _⟩
  all_goals (try push_cast (maxSteps := mS))
  all_goals first | rfl | exact ⟨rfl, rfl⟩
 ·(try push_cast (maxSteps := mS))
  refine DrawG.cut VT_G (.take 0 (.take 1 (.take 2 (.two 3 (.one 4 (.one 5 (.take 6 (.take 7 (.one 8 (.one 9 (.one 10 (.one 11 .done)))))))) 4 (.one 3 (.one 5 (.take 6 (.take 7 (.one 8 (.one 9 (.one 10 (.one 11 .done)))))))))))) 1000 (by decide +kernel) ⟨[(6, i6L 0), (5, trL d), (4, .c (.d (.sl 1 rec))), (0, .c (.op 0 0))], [.bx 210 ((wkC u s').map .d), .bx 255 (evC e1 e2 e3 e4 e5 n)]⟩ ((Gh.st u o').sep R) ?_ ?_
  ·(try push_cast (maxSteps := mS))
   (repeat' (with_reducible refine And.intro ?_ ?_)) <;> try (first | trivial | omega)
   all_goals refine .inr ⟨_, h2, rfl, ?_⟩
   all_goals rintro res G' ⟨rfl, hG⟩
   all_goals (try push_cast (maxSteps := mS))
   all_goals (repeat' (with_reducible refine And.intro ?_ ?_)) <;> try (first | trivial | omega)
   all_goals refine ⟨Le.st ?_, hG⟩
   all_goals (try push_cast (maxSteps := mS))
   all_goals first | rfl | exact ⟨rfl, rfl⟩
  ·(try push_cast (maxSteps := mS))
   refine res_tk [(6, i6L 0), (5, trL d), (4, .c (.d (.sl 1 rec))), (0, .c (.op 0 0))] (Le.st ?_) (by simp) rfl (fun v => ⟨⟨trivial, trivial, trivial, trivial⟩, rfl⟩)
   (try push_cast (maxSteps := mS))
   all_goals first | rfl | exact ⟨rfl, rfl⟩
theorem w120 (u v : Value) (R : Gh) :
  SpecG VT 120 [.c (.d (.v v))] ((Gh.st v [.bx 210 ((wkC u 0).map .d)]).sep ((Gh.st u ML).sep R)) fun res G' => res = .tu [nilR, trL false, i6L 0] ∧ Ent G' ((Gh.st v [.bx 210 ((wkC u 0).map .d)]).sep ((Gh.st u ML).sep R)) := by
 (refine SpecG.of_take VT_G 0 (L := fun | 0 => some [0] | 1 => some [0, 11] | 2 => some [0, 2, 3, 4] | 3 => some [0, 5, 6] | 4 => some [0, 5, 6, 21] | 5 => some [0, 2, 3, 4] | 6 => some [0, 2, 3, 4] | _ => none) 1000 Go.Proofs.Tryz.func120 rfl rfl ⟨Nat.le_of_ble_eq_true rfl, rfl⟩ (by simp [numS]) (by rfl) ?_; unfold Go.Proofs.Tryz.f120; push_cast (maxSteps := mS))
 (refine .inl ⟨_, w154, rfl, ?_⟩; try (push_cast (maxSteps := mS)))
 refine DrawG.cut VT_G (.take 0 (.take 1 (.take 2 (.two 3 (.one 4 (.one 5 (.take 6 (.take 7 (.one 8 (.one 9 (.one 10 (.one 11 .done)))))))) 4 (.one 3 (.one 5 (.take 6 (.take 7 (.one 8 (.one 9 (.one 10 (.one 11 .done)))))))))))) 1000 (by decide +kernel) ⟨[(4, i6L 0), (3, trL false), (2, nilR), (0, .c (.op 0 0))], [.bx 210 ((wkC u 0).map .d), .bx 255 (evC false false false false false 0)]⟩ ((Gh.st u ML).sep R) ?_ ?_
 ·(try push_cast (maxSteps := mS))
  (repeat' (with_reducible refine And.intro ?_ ?_)) <;> try (first | trivial | omega)
  all_goals refine .inr ⟨_, sgT (w153g u R), rfl, ?_⟩
  all_goals rintro res G' ⟨rfl, hG⟩
  all_goals (try push_cast (maxSteps := mS))
  all_goals (repeat' (with_reducible refine And.intro ?_ ?_)) <;> try (first | trivial | omega)
  all_goals refine ⟨Le.st ?_, hG⟩
  all_goals (try push_cast (maxSteps := mS))
  all_goals first | rfl | exact ⟨rfl, rfl⟩
 ·(try push_cast (maxSteps := mS))
  refine res_tk [(4, i6L 0), (3, trL false), (2, nilR), (0, .c (.op 0 0))] (Le.st ?_) (by simp) rfl (fun v => ⟨⟨trivial, trivial, trivial, trivial⟩, rfl⟩)
  (try push_cast (maxSteps := mS))
  all_goals first | rfl | exact ⟨rfl, rfl⟩
end Go.LS.Tryz
