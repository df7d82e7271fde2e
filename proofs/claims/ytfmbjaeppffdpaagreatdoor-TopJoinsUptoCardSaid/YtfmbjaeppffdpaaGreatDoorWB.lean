/- Contracts of the functions of the seat, one by one (part WB); no condition but those that each bears. -/
import Derived.Test.YtfmbjaeppffdpaaGreatDoorWA
namespace Go.LS.Tryz
open Go Go.LS
set_option maxRecDepth 100000
@[push_cast] def lv0WB : Nat → Option (List Nat) := fun | 0 => some [0, 3] | 1 => some [0, 3, 7] | 2 => some [0, 3, 17] | 3 => some [0, 4] | 4 => some [0, 3] | 5 => some [0, 3, 26] | 6 => some [0, 3, 37] | 7 => some [0, 4] | 8 => some [0, 3] | 9 => some [0, 3, 5] | 10 => some [0, 3, 5, 62] | 11 => some [0, 3, 5] | 12 => some [0, 3, 5, 75] | 13 => some [0, 4] | 14 => some [0, 3, 5, 88] | 15 => some [0, 4] | 16 => some [0, 5, 90] | 17 => some [0, 5] | 18 => some [0, 105] | 19 => some [0, 4] | 20 => some [0, 4] | _ => none
set_option linter.unusedVariables false
set_option linter.unusedSimpArgs false
set_option linter.unusedVariables false
set_option maxHeartbeats 4000000
abbrev i6C (n : Int) : CV := .d (.v (.int .i64 n))
abbrev mkC (f r : CV) (b c w : Int) : List CV := [i6C 9, i6C 9, i6C 9, .d (.v (.bool false)), f, r, i6C b, i6C c, i6C w, i6C 0]
abbrev u8D (n : Int) : List DV := [.v (.int .u8 n)]
abbrev stD (s : ByteArray) : List DV := [.v (.string s)]
abbrev MK (f : List Int) (r : List ByteArray) (b : Int) : List OB := [.bx 251 (mkC (.os 1) (.os 2) b 0 0), .rw 5 1 (f.map u8D), .rw 9 1 (r.map stD)]
theorem w186 (u : Value) (n : Int) (r : List ByteArray) (b : Int) (R : Gh) (hn : 0 ≤ n ∧ n ≤ 255) (hr : r.length ≤ 5) :
  SpecG VT 186 [.c (.d (.v u))] ((Gh.st u (MK [n] r b)).sep R) fun res G' => res = .tu [] ∧ Ent G' ((Gh.st u (MK [] (r ++ [strN [n]]) b)).sep R) := by
 (refine SpecG.of_take VT_G 0 (L := fun | 0 => some [0] | 1 => some [0] | _ => none) 1000 Go.Proofs.Tryz.func186 rfl rfl ⟨Nat.le_of_ble_eq_true rfl, rfl⟩ (by simp [numS]) (by rfl) ?_; unfold Go.Proofs.Tryz.f186; push_cast (maxSteps := mS))
 refine DrawG.cut VT_G (.take 0 (.take 1 (.take 2 (.take 3 (.take 5 (.take 6 (.take 7 (.two 4 (.one 8 (.one 9 (.one 10 (.one 11 (.one 12 (.one 13 (.one 14 .done))))))) 8 (.two 4 (.one 9 (.one 10 (.one 11 (.one 12 (.one 13 (.one 14 .done)))))) 9 (.two 4 (.one 10 (.one 11 (.one 12 (.one 13 (.one 14 .done))))) 10 (.one 4 (.one 11 (.one 12 (.one 13 (.one 14 .done))))))))))))))) 1000 (by decide +kernel) ⟨[(0, .c (.op 0 0))], [.bx 251 (mkC (.os 1) (.os 2) b 0 0), .rw 5 1 [u8D n], .rw 9 1 (r.map stD ++ [stD (strN [n])])]⟩ R ?_ ?_
 ·(try push_cast (maxSteps := mS))
  (repeat' (with_reducible refine And.intro ?_ ?_)) <;> try (first | trivial | omega | exact .inl trivial | (simp only [maxLen]; omega))
  all_goals refine ⟨Le.st ?_, Ent.refl _⟩
  all_goals (try push_cast (maxSteps := mS))
  all_goals try rfl
 ·(try push_cast (maxSteps := mS))
  refine ⟨_, _, _, rfl, ⟨_, _, _, T224, rfl, T5, rfl⟩, ⟨by omega, by simp, by decide⟩, ?_⟩
  (try push_cast (maxSteps := mS))
  refine ⟨[(0, .c (.op 0 0))], MK [] (r ++ [strN [n]]) b, ?_, by simp, fun v => ⟨.tu [], _, Ent.refl _, fun e => ⟨rfl, e ▸ Ent.refl _⟩, rfl, ?_⟩⟩
  ·simp only [MK, List.map_append, List.map_cons, List.map_nil]
   refine Le.st ?_
   (try push_cast (maxSteps := mS))
   try rfl
  ·exact ⟨trivial, rfl⟩
theorem res_tk {rs : List ResultVar} {ts : List Nat} {s0 : Nat} {τ : LS} {R : Gh} {u : Value} {obs1 : List OB} {r : LV} (sl1 : List (Nat × LV)) (hle : Le τ ⟨sl1, obs1⟩) (hm : (s0, LV.c (.op 0 0)) ∈ sl1) (hd : dataL r = true)
  (hres : ∀ v, Res T rs ts r ⟨(s0, .c (.d (.v v))) :: sl1.filter (fun p => dataL p.2), []⟩) : ResT T rs ts s0 (fun v r' G' => v = u → r' = r ∧ Ent G' ((Gh.st u obs1).sep R)) τ R :=
 ⟨sl1, obs1, hle, hm, fun v => ⟨r, _, Ent.refl _, fun e => ⟨rfl, e ▸ Ent.refl _⟩, hd, hres v⟩⟩
abbrev EV (b a f l r : Bool) (n : Int) : LV := .ag (evC b a f l r n)
theorem w177a (u : Value) (n : Int) (R : Gh) : SpecG VTx 177 [.c (.d (.v u)), EV true true false false false n] ((Gh.st u (MK [] [] 0)).sep R) fun res G' => res = i6L 0 ∧ Ent G' ((Gh.st u (MK [n] [] 1)).sep R) := by
 (refine SpecG.of_take VTx_G 0 (L := lv0WB) 1000 Go.Proofs.Tryz.func177 rfl rfl ⟨Nat.le_of_ble_eq_true rfl, rfl⟩ (by simp [numS]) (by rfl) ?_; unfold Go.Proofs.Tryz.f177; push_cast (maxSteps := mS))
 refine DrawG.cut VTx_G (.take 0 (.take 1 (.take 2 (.take 4 (.take 5 (.take 6 (.take 7 (.two 3 (.one 8 (.one 9 .done)) 8 (.one 3 (.one 9 .done)))))))))) 1000 (by decide +kernel) ⟨[(17, trL false), (3, .c (.op 3 0)), (0, .c (.op 0 0))], [.bx 251 (mkC (.os 1) (.os 2) 0 0 0), .rw 5 1 [], .rw 9 1 [], .bx 255 (evC true true false false false n)]⟩ R ?_ ?_
 ·(try push_cast (maxSteps := mS))
  (repeat' (with_reducible refine And.intro ?_ ?_)) <;> try (first | trivial | omega)
  all_goals refine ⟨Le.st ?_, Ent.refl _⟩
  all_goals (try push_cast (maxSteps := mS))
  all_goals first | rfl | exact ⟨rfl, rfl⟩
 ·(try push_cast (maxSteps := mS))
  refine .inr ⟨⟨by decide, by decide⟩, ?_⟩
  refine DrawG.cut VTx_G (.take 0 (.take 1 (.take 2 (.take 5 (.take 6 (.take 7 (.take 8 (.two 3 (.two 4 (.one 9 (.one 10 .done)) 9 (.one 4 (.one 10 .done))) 9 (.one 3 (.one 4 (.one 10 .done))))))))))) 1000 (by decide +kernel) ⟨[(37, trL false), (3, .c (.op 3 0)), (0, .c (.op 0 0))], [.bx 251 (mkC (.os 1) (.os 2) 1 0 0), .rw 5 1 [], .rw 9 1 [], .bx 255 (evC true true false false false n)]⟩ R ?_ ?_
  ·(try push_cast (maxSteps := mS))
   (repeat' (with_reducible refine And.intro ?_ ?_)) <;> try (first | trivial | omega)
   all_goals refine ⟨Le.st ?_, Ent.refl _⟩
   all_goals (try push_cast (maxSteps := mS))
   all_goals first | rfl | exact ⟨rfl, rfl⟩
  ·(try push_cast (maxSteps := mS))
   refine DrawG.cut VTx_G (.take 0 (.take 1 (.take 2 (.take 3 (.take 5 (.two 4 (.one 6 (.one 7 (.one 8 (.one 9 (.one 10 (.one 11 .done)))))) 6 (.two 4 (.one 7 (.one 8 (.one 9 (.one 10 (.one 11 .done))))) 7 (.one 4 (.one 8 (.one 9 (.one 10 (.one 11 .done)))))))))))) 1000 (by decide +kernel) ⟨[(3, .c (.op 3 0)), (0, .c (.op 0 0))], [.bx 251 (mkC (.os 1) (.os 2) 1 0 0), .rw 5 1 [u8D n], .rw 9 1 [], .bx 255 (evC true true false false false n)]⟩ R ?_ ?_
   ·(try push_cast (maxSteps := mS))
    (repeat' (with_reducible refine And.intro ?_ ?_)) <;> try (first | trivial | omega | exact .inl trivial | (simp only [maxLen]; omega))
    all_goals refine ⟨Le.st ?_, Ent.refl _⟩
    all_goals (try push_cast (maxSteps := mS))
    all_goals first | rfl | exact ⟨rfl, rfl⟩
   ·(try push_cast (maxSteps := mS))
    refine res_tk [(4, i6L 0), (0, .c (.op 0 0))] (Le.st ?_) (by simp) rfl (fun v => ⟨⟨trivial, trivial⟩, rfl⟩)
    (try push_cast (maxSteps := mS))
    all_goals first | rfl | exact ⟨rfl, rfl⟩
theorem w177b (u : Value) (n : Int) (r : List ByteArray) (b : Int) (R : Gh) (hn : 0 ≤ n ∧ n ≤ 255) (hr : r.length ≤ 5) :
  SpecG VTx 177 [.c (.d (.v u)), EV false false true false false 0] ((Gh.st u (MK [n] r b)).sep R) fun res G' => res = i6L 0 ∧ Ent G' ((Gh.st u (MK [] (r ++ [strN [n]]) b)).sep R) := by
 (refine SpecG.of_take VTx_G 0 (L := lv0WB) 1000 Go.Proofs.Tryz.func177 rfl rfl ⟨Nat.le_of_ble_eq_true rfl, rfl⟩ (by simp [numS]) (by rfl) ?_; unfold Go.Proofs.Tryz.f177; push_cast (maxSteps := mS))
 refine ⟨0, 3, MK [n] r b, [.bx 255 (evC false false true false false 0)], rfl, by simp, rfl, ⟨rfl, by decide⟩, ⟨rfl, rfl⟩, ?_⟩
 (try push_cast (maxSteps := mS))
 refine .inr ⟨_, sgTx (w186 u n r b R hn hr), rfl, ?_⟩
 rintro res G' ⟨rfl, hG⟩
 refine ⟨[], MK [] (r ++ [strN [n]]) b, [.bx 255 (evC false false true false false 0)], R, by simp, hG, rfl, rfl, ?_⟩
 have hl : decide ((9 : Int) ≤ ((r ++ [strN [n]]).length : Int)) = false := decide_eq_false (by simp; omega)
 have hl2 : (List.map stD (r ++ [strN [n]])).length = (r ++ [strN [n]]).length := List.length_map ..
 generalize r ++ [strN [n]] = r' at *
 (try push_cast (maxSteps := mS))
 refine DrawG.cut VTx_G (.take 0 (.take 1 (.take 2 (.take 5 (.take 6 (.take 7 (.take 8 (.two 3 (.two 4 (.one 9 (.one 10 .done)) 9 (.one 4 (.one 10 .done))) 9 (.one 3 (.one 4 (.one 10 .done))))))))))) 1000 (by decide +kernel) ⟨[(75, trL false), (5, trL false), (3, .c (.op 3 0)), (0, .c (.op 0 0))], MK [] r' b ++ [.bx 255 (evC false false true false false 0)]⟩ R ?_ ?_
 ·(try push_cast (maxSteps := mS) [hl, hl2])
  (repeat' (with_reducible refine And.intro ?_ ?_)) <;> try (first | trivial | omega)
  all_goals refine ⟨Le.st ?_, Ent.refl _⟩
  all_goals (try push_cast (maxSteps := mS))
  all_goals first | rfl | exact ⟨rfl, rfl⟩
 ·(try push_cast (maxSteps := mS))
  refine DrawG.cut VTx_G (.one 0 (.one 1 (.take 2 (.take 3 (.take 4 (.take 7 (.take 8 (.take 9 (.two 5 (.two 6 (.one 10 (.one 11 (.one 12 .done))) 10 (.one 6 (.one 11 (.one 12 .done)))) 10 (.one 5 (.one 6 (.one 11 (.one 12 .done))))))))))))) 1000 (by decide +kernel) ⟨[(88, trL false), (5, trL false), (3, .c (.op 3 0)), (0, .c (.op 0 0))], MK [] r' b ++ [.bx 255 (evC false false true false false 0)]⟩ R ?_ ?_
  ·(try push_cast (maxSteps := mS))
   (repeat' (with_reducible refine And.intro ?_ ?_)) <;> try (first | trivial | omega)
   all_goals refine ⟨Le.st ?_, Ent.refl _⟩
   all_goals (try push_cast (maxSteps := mS))
   all_goals first | rfl | exact ⟨rfl, rfl⟩
  ·(try push_cast (maxSteps := mS))
   refine res_tk [(4, i6L 0), (0, .c (.op 0 0))] (Le.st ?_) (by simp) rfl (fun v => ⟨⟨trivial, trivial⟩, rfl⟩)
   (try push_cast (maxSteps := mS))
   all_goals first | rfl | exact ⟨rfl, rfl⟩
theorem w177c (u : Value) (f : List Int) (r : List ByteArray) (b : Int) (R : Gh) : SpecG VTx 177 [.c (.d (.v u)), EV false false false false false 0] ((Gh.st u (MK f r b)).sep R) fun res G' => res = i6L 0 ∧ Ent G' ((Gh.st u (MK f r b)).sep R) := by
 (refine SpecG.of_take VTx_G 0 (L := lv0WB) 1000 Go.Proofs.Tryz.func177 rfl rfl ⟨Nat.le_of_ble_eq_true rfl, rfl⟩ (by simp [numS]) (by rfl) ?_; unfold Go.Proofs.Tryz.f177; push_cast (maxSteps := mS))
 refine res_tk [(4, i6L 0), (0, .c (.op 0 0))] (Le.st ?_) (by simp) rfl (fun v => ⟨⟨trivial, trivial⟩, rfl⟩)
 (try push_cast (maxSteps := mS))
 all_goals first | rfl | exact ⟨rfl, rfl⟩
abbrev ML : List OB := [.bx 251 (mkC (.os 1) (.d (.v (.slice none 0 0))) 1 1 2), .rw 5 1 []]
theorem w177g (u : Value) (R : Gh) : SpecG VTx 177 [.c (.d (.v u)), EV false false false false false 0] ((Gh.st u ML).sep R) fun res G' => res = i6L 0 ∧ Ent G' ((Gh.st u ML).sep R) := by
 (refine SpecG.of_take VTx_G 0 (L := lv0WB) 1000 Go.Proofs.Tryz.func177 rfl rfl ⟨Nat.le_of_ble_eq_true rfl, rfl⟩ (by simp [numS]) (by rfl) ?_; unfold Go.Proofs.Tryz.f177; push_cast (maxSteps := mS))
 refine res_tk [(4, i6L 0), (0, .c (.op 0 0))] (Le.st ?_) (by simp) rfl (fun v => ⟨⟨trivial, trivial⟩, rfl⟩)
 (try push_cast (maxSteps := mS))
 all_goals first | rfl | exact ⟨rfl, rfl⟩
theorem w177d (u : Value) (n : Int) (r : List ByteArray) (b : Int) (R : Gh) : SpecG VTx 177 [.c (.d (.v u)), EV false true false false false n] ((Gh.st u (MK [] r b)).sep R) fun res G' => res = i6L 0 ∧ Ent G' ((Gh.st u (MK [n] r b)).sep R) := by
 (refine SpecG.of_take VTx_G 0 (L := lv0WB) 1000 Go.Proofs.Tryz.func177 rfl rfl ⟨Nat.le_of_ble_eq_true rfl, rfl⟩ (by simp [numS]) (by rfl) ?_; unfold Go.Proofs.Tryz.f177; push_cast (maxSteps := mS))
 refine DrawG.cut VTx_G (.take 0 (.take 1 (.take 2 (.take 5 (.take 6 (.take 7 (.take 8 (.two 3 (.two 4 (.one 9 (.one 10 .done)) 9 (.one 4 (.one 10 .done))) 9 (.one 3 (.one 4 (.one 10 .done))))))))))) 1000 (by decide +kernel) ⟨[(37, trL false), (3, .c (.op 3 0)), (0, .c (.op 0 0))], MK [] r b ++ [.bx 255 (evC false true false false false n)]⟩ R ?_ ?_
 ·(try push_cast (maxSteps := mS))
  (repeat' (with_reducible refine And.intro ?_ ?_)) <;> try (first | trivial | omega)
  all_goals refine ⟨Le.st ?_, Ent.refl _⟩
  all_goals (try push_cast (maxSteps := mS))
  all_goals first | rfl | exact ⟨rfl, rfl⟩
 ·(try push_cast (maxSteps := mS))
  refine DrawG.cut VTx_G (.take 0 (.take 1 (.take 2 (.take 3 (.take 5 (.two 4 (.one 6 (.one 7 (.one 8 (.one 9 (.one 10 (.one 11 .done)))))) 6 (.two 4 (.one 7 (.one 8 (.one 9 (.one 10 (.one 11 .done))))) 7 (.one 4 (.one 8 (.one 9 (.one 10 (.one 11 .done)))))))))))) 1000 (by decide +kernel) ⟨[(3, .c (.op 3 0)), (0, .c (.op 0 0))], MK [n] r b ++ [.bx 255 (evC false true false false false n)]⟩ R ?_ ?_
  ·(try push_cast (maxSteps := mS))
   (repeat' (with_reducible refine And.intro ?_ ?_)) <;> try (first | trivial | omega | exact .inl trivial | (simp only [maxLen]; omega))
   all_goals refine ⟨Le.st ?_, Ent.refl _⟩
   all_goals (try push_cast (maxSteps := mS))
   all_goals first | rfl | exact ⟨rfl, rfl⟩
  ·(try push_cast (maxSteps := mS))
   refine res_tk [(4, i6L 0), (0, .c (.op 0 0))] (Le.st ?_) (by simp) rfl (fun v => ⟨⟨trivial, trivial⟩, rfl⟩)
   (try push_cast (maxSteps := mS))
   all_goals first | rfl | exact ⟨rfl, rfl⟩
theorem w177f (u : Value) (n : Int) (r : List ByteArray) (b : Int) (R : Gh) (hn : 0 ≤ n ∧ n ≤ 255) (hr : r.length ≤ 5) :
  SpecG VTx 177 [.c (.d (.v u)), EV false false false true true 0] ((Gh.st u (MK [n] r b)).sep R) fun res G' => res = i6L 0 ∧ Ent G' ((Gh.st u (MK [] (r ++ [strN [n]]) b)).sep R) := by
 (refine SpecG.of_take VTx_G 0 (L := lv0WB) 1000 Go.Proofs.Tryz.func177 rfl rfl ⟨Nat.le_of_ble_eq_true rfl, rfl⟩ (by simp [numS]) (by rfl) ?_; unfold Go.Proofs.Tryz.f177; push_cast (maxSteps := mS))
 refine ⟨0, 3, MK [n] r b, [.bx 255 (evC false false false true true 0)], rfl, by simp, rfl, ⟨rfl, by decide⟩, ⟨rfl, rfl⟩, ?_⟩
 (try push_cast (maxSteps := mS))
 refine .inr ⟨_, sgTx (w186 u n r b R hn hr), rfl, ?_⟩
 rintro res G' ⟨rfl, hG⟩
 refine ⟨[], MK [] (r ++ [strN [n]]) b, [.bx 255 (evC false false false true true 0)], R, by simp, hG, rfl, rfl, ?_⟩
 generalize r ++ [strN [n]] = r' at *
 (try push_cast (maxSteps := mS))
 refine DrawG.cut VTx_G (.one 0 (.one 1 (.take 2 (.take 3 (.take 4 (.take 7 (.take 8 (.take 9 (.two 5 (.two 6 (.one 10 (.one 11 (.one 12 .done))) 10 (.one 6 (.one 11 (.one 12 .done)))) 10 (.one 5 (.one 6 (.one 11 (.one 12 .done))))))))))))) 1000 (by decide +kernel) ⟨[(105, trL false), (0, .c (.op 0 0))], MK [] r' b⟩ R ?_ ?_
 ·(try push_cast (maxSteps := mS))
  (repeat' (with_reducible refine And.intro ?_ ?_)) <;> try (first | trivial | omega)
  all_goals refine ⟨Le.st ?_, Ent.refl _⟩
  all_goals (try push_cast (maxSteps := mS))
  all_goals first | rfl | exact ⟨rfl, rfl⟩
 ·(try push_cast (maxSteps := mS))
  refine res_tk [(4, i6L 0), (0, .c (.op 0 0))] (Le.st ?_) (by simp) rfl (fun v => ⟨⟨trivial, trivial⟩, rfl⟩)
  (try push_cast (maxSteps := mS))
  all_goals first | rfl | exact ⟨rfl, rfl⟩
end Go.LS.Tryz
