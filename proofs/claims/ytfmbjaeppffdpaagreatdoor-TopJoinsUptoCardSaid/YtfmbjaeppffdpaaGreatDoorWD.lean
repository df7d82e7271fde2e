/- Contracts of the functions of the seat, one by one (part WD); no condition but those that each bears. -/
import Derived.Test.YtfmbjaeppffdpaaGreatDoorWC
namespace Go.LS.Tryz
open Go Go.LS
set_option maxRecDepth 100000
set_option linter.unusedVariables false
set_option linter.unusedSimpArgs false
set_option linter.unusedVariables false
set_option maxHeartbeats 4000000
theorem res_of {rs : List ResultVar} {ts : List Nat} {post : LV → Gh → Prop} {τ : LS} {G : Gh} (r : LV) (h : post r G) (hd : dataL r = true) (hr : Res T rs ts r τ) : ResG T rs ts post τ G := ⟨r, G, Ent.refl _, h, hd, hr⟩
abbrev T0 (ut : Value) : Gh := Gh.box ut 105 [.v (.slice none 0 0)]
abbrev recD : DV := .sl 1 [stD (strN [97]), stD (strN [98])]
abbrev T1 (ut : Value) : Gh := Gh.box ut 105 [.sl 1 [[recD]]]
theorem w78s (ut : Value) (R : Gh) : SpecG VT 78 [.c (.d recD), .c (.d (.v ut))] ((Gh.st ut [.bx 105 [.d (.v (.slice none 0 0))]]).sep R) fun res G' => res = trL true ∧ Ent G' ((Gh.st ut [.bx 105 [.d (.sl 1 [[recD]])]]).sep R) := by
 (refine SpecG.of_take VT_G 1 (L := fun | 0 => some [0, 1] | 1 => some [1] | 2 => some [1, 3] | _ => none) 1000 Go.Proofs.Tryz.func78 rfl rfl ⟨Nat.le_of_ble_eq_true rfl, rfl⟩ (by simp [numS]) (by rfl) ?_; unfold Go.Proofs.Tryz.f78; push_cast (maxSteps := mS))
 refine ⟨⟨.inl trivial, by simp only [maxLen]; omega⟩, ?_⟩
 refine res_tk [(3, trL true), (1, .c (.op 0 0))] (Le.frz [2] ?_) (by simp) rfl (fun v => ⟨⟨trivial, trivial⟩, rfl⟩)
 (try push_cast (maxSteps := mS))
 all_goals first | rfl | exact ⟨rfl, rfl⟩
theorem w78 (ut : Value) (R : Gh) : SpecG VT 78 [.c (.d recD), .c (.d (.v ut))] ((T0 ut).sep R) fun res G' => res = trL true ∧ Ent G' ((T1 ut).sep R) :=
 ((w78s ut R).conseqO (EntO.sep box_st)).post fun r G h => ⟨h.1, h.2.trans (sep_mono (st_box (t := 105) (ds := [.sl 1 [[recD]]])) (Ent.refl _))⟩
abbrev Wk (v u : Value) (s : Int) : Gh := Gh.box v 210 (wkC u s)
theorem w119b (u v : Value) (o o' : List OB) (s s' : Int) (b : Int) (e1 e2 e3 e4 e5 : Bool) (n : Int) (rec : List (List DV)) (d : Bool) (R : Gh) (hb : b ≤ 127)
  (h1 : Spec VT 152 [.ag diaC, i6L s, u8L b] (.tu [EV e1 e2 e3 e4 e5 n, i6L s', i6L 0]))
  (h2 : SpecG VT 153 [.c (.d (.v u)), EV e1 e2 e3 e4 e5 n] ((Gh.st u o).sep R) fun res G' => res = .tu [.c (.d (.sl 1 rec)), trL d, i6L 0] ∧ Ent G' ((Gh.st u o').sep R)) :
  SpecG VT 119 [.c (.d (.v v)), u8L b] ((Wk v u s).sep ((Gh.st u o).sep R)) fun res G' => res = .tu [.c (.d (.sl 1 rec)), trL d, i6L 0] ∧ Ent G' ((Wk v u s').sep ((Gh.st u o').sep R)) :=
 ((w119 u v o o' s s' b e1 e2 e3 e4 e5 n rec d R hb h1 h2).conseqO (EntO.sep box_st)).post fun r G h => ⟨h.1, h.2.trans (sep_mono st_box (Ent.refl _))⟩
theorem w120b (u v : Value) (R : Gh) :
  SpecG VT 120 [.c (.d (.v v))] ((Wk v u 0).sep ((Gh.st u ML).sep R)) fun res G' => res = .tu [nilR, trL false, i6L 0] ∧ Ent G' ((Wk v u 0).sep ((Gh.st u ML).sep R)) :=
 ((w120 u v R).conseqO (EntO.sep box_st)).post fun r G h => ⟨h.1, h.2.trans (sep_mono st_box (Ent.refl _))⟩
def stS : Nat → Int
 | 0 => 0
 | 1 => 2
 | 2 => 1
 | 3 => 3
 | 4 => 3
 | 5 => 4
 | _ => 0
def mkS : Nat → List OB
 | 0 => MK [] [] 0
 | 1 => MK [97] [] 1
 | 2 => MK [] [strN [97]] 1
 | 3 => MK [] [strN [97]] 1
 | 4 => MK [98] [strN [97]] 1
 | 5 => MK [98] [strN [97]] 1
 | _ => ML
def tS (ut : Value) (k : Nat) : Gh := if k < 6 then T0 ut else T1 ut
def JS (v um ut : Value) (k : Nat) : Gh := (Wk v um (stS k)).sep ((Gh.st um (mkS k)).sep (tS ut k))
theorem w77 (ut : Value) : SpecG VT 77 [.ag diaC, .ag limC, s2 txt, .c (.d (.clo 78 [.v ut]))] (T0 ut) fun res G' => res = .ag [i6C 0, i6C 0] ∧ ∃ R, Ent G' ((T1 ut).sep R) := by
 have hsz : txt.size = 6 := rfl
 have h66 : ((6 : Nat) : Int) - ((6 : Nat) : Int) = 0 := rfl
 (refine SpecG.of_go VT_G (L := fun | 0 => some [2, 3, 4, 5, 8] | 1 => some [2, 3, 4, 5, 8, 9] | 2 => some [2, 3, 4, 5, 8, 9, 26] | 3 => some [8] | 4 => some [2, 3, 4, 8, 10, 11] | 5 => some [2, 3, 4, 8, 10, 11, 35] | 6 => some [8] | 7 => some [2, 3, 8, 12] | 8 => some [2, 3, 8, 12, 13] | 9 => some [2, 3, 8, 12, 15] | 10 => some [2, 3, 8, 12, 15, 16] | 11 => some [2, 3, 8, 12, 15, 16, 54] | 12 => some [2, 3, 8, 12, 15, 16] | 13 => some [2, 3, 8, 12, 15, 16, 17, 18, 19] | 14 => some [2, 3, 8, 12, 15, 16, 17, 18, 19, 65] | 15 => some [3, 8, 12, 15, 16] | 16 => some [2, 3, 8, 12, 15, 16, 69] | 17 => some [8] | 18 => some [3, 8, 12, 15, 16, 79] | 19 => some [3, 8, 15, 20, 21, 22] | 20 => some [3, 8, 15, 20, 22, 85] | 21 => some [8, 15, 22] | 22 => some [8, 15, 16] | 23 => some [8, 15, 16, 91] | 24 => some [8] | 25 => some [8] | _ => none) 1000 Go.Proofs.Tryz.func77 rfl rfl ⟨Nat.le_of_ble_eq_true rfl, rfl⟩ ?_; unfold Go.Proofs.Tryz.f77; push_cast (maxSteps := mS))
 (refine .inl ⟨_, w116, rfl, ?_⟩; try (push_cast (maxSteps := mS)))
 refine .inr ⟨_, (w117.frame (T0 ut)).conseq (sep_emp' _), rfl, ?_⟩
 rintro res G' ⟨G1, ⟨um, rfl, hG1⟩, rfl⟩
 (try push_cast (maxSteps := mS))
 (refine .inl ⟨_, w118, rfl, ?_⟩; try (push_cast (maxSteps := mS)))
 (try push_cast (maxSteps := mS) [hsz, h66])
 refine ⟨⟨by decide, by decide⟩, ?_⟩
 refine LoopG.gho 3 210 (wkC um 0) rfl fun v => ?_
 (try push_cast (maxSteps := mS))
 refine LoopG.gh (G' := JS v um ut 0) ((sep_comm _ _).trans (sep_mono (Ent.refl _) ((sep_comm _ _).trans (sep_mono hG1 (Ent.refl _))))) ?_
 refine LoopG.ov VT_G (α := Nat) [15] (fun k => [i6L k]) (fun _ => [.bx 111 diaC, .bx 113 limC, .bx 107 [i6C 0, i6C 0], .dead]) (JS v um ut) (fun k => k ≤ 6) (fun k => 6 - k) 1000 0 (by omega) (Ent.refl _) (by (try push_cast (maxSteps := mS)); try rfl) ?_
 intro k hk
 have hk7 : k = 0 ∨ k = 1 ∨ k = 2 ∨ k = 3 ∨ k = 4 ∨ k = 5 ∨ k = 6 := by omega
 rcases hk7 with rfl | rfl | rfl | rfl | rfl | rfl | rfl
 ·have hb : (((sB txt 0).toNat : Nat) : Int) = 97 := rfl
  (try push_cast (maxSteps := mS) [hsz, hb])
  refine .inr ?_
  (try push_cast (maxSteps := mS))
  refine .inr ⟨_, w119b um v (MK [] [] 0) (MK [97] [] 1) 0 2 97 true true false false false 97 [] false (T0 ut) (by omega) w152a (sgT (w153 um true true false false 97 [] [97] [] [] 0 1 (T0 ut) (w177a um 97 (T0 ut)))), rfl, ?_⟩
  rintro res G' ⟨rfl, hG⟩
  (try push_cast (maxSteps := mS))
  (repeat ((with_reducible refine And.intro ?_ ?_); focus (first | trivial | omega | exact ix | exact inKu8 (by omega) (by omega))))
  refine ⟨1, by omega, by omega, Le.st ?_, hG⟩
  (try push_cast (maxSteps := mS))
  all_goals first | rfl | exact ⟨rfl, rfl⟩
 ·have hb : (((sB txt 1).toNat : Nat) : Int) = 44 := rfl
  (try push_cast (maxSteps := mS) [hsz, hb])
  refine .inr ?_
  (try push_cast (maxSteps := mS))
  refine .inr ⟨_, w119b um v (MK [97] [] 1) (MK [] [strN [97]] 1) 2 1 44 false false true false false 0 [] false (T0 ut) (by omega) w152b (sgT (w153 um false false true false 0 [97] [] [] [strN [97]] 1 1 (T0 ut) (w177b um 97 [] 1 (T0 ut) (by omega) (by simp)))), rfl, ?_⟩
  rintro res G' ⟨rfl, hG⟩
  (try push_cast (maxSteps := mS))
  (repeat ((with_reducible refine And.intro ?_ ?_); focus (first | trivial | omega | exact ix | exact inKu8 (by omega) (by omega))))
  refine ⟨2, by omega, by omega, Le.st ?_, hG⟩
  (try push_cast (maxSteps := mS))
  all_goals first | rfl | exact ⟨rfl, rfl⟩
 ·have hb : (((sB txt 2).toNat : Nat) : Int) = 34 := rfl
  (try push_cast (maxSteps := mS) [hsz, hb])
  refine .inr ?_
  (try push_cast (maxSteps := mS))
  refine .inr ⟨_, w119b um v (MK [] [strN [97]] 1) (MK [] [strN [97]] 1) 1 3 34 false false false false false 0 [] false (T0 ut) (by omega) w152c (sgT (w153 um false false false false 0 [] [] [strN [97]] [strN [97]] 1 1 (T0 ut) (w177c um [] [strN [97]] 1 (T0 ut)))), rfl, ?_⟩
  rintro res G' ⟨rfl, hG⟩
  (try push_cast (maxSteps := mS))
  (repeat ((with_reducible refine And.intro ?_ ?_); focus (first | trivial | omega | exact ix | exact inKu8 (by omega) (by omega))))
  refine ⟨3, by omega, by omega, Le.st ?_, hG⟩
  (try push_cast (maxSteps := mS))
  all_goals first | rfl | exact ⟨rfl, rfl⟩
 ·have hb : (((sB txt 3).toNat : Nat) : Int) = 98 := rfl
  (try push_cast (maxSteps := mS) [hsz, hb])
  refine .inr ?_
  (try push_cast (maxSteps := mS))
  refine .inr ⟨_, w119b um v (MK [] [strN [97]] 1) (MK [98] [strN [97]] 1) 3 3 98 false true false false false 98 [] false (T0 ut) (by omega) w152d (sgT (w153 um false true false false 98 [] [98] [strN [97]] [strN [97]] 1 1 (T0 ut) (w177d um 98 [strN [97]] 1 (T0 ut)))), rfl, ?_⟩
  rintro res G' ⟨rfl, hG⟩
  (try push_cast (maxSteps := mS))
  (repeat ((with_reducible refine And.intro ?_ ?_); focus (first | trivial | omega | exact ix | exact inKu8 (by omega) (by omega))))
  refine ⟨4, by omega, by omega, Le.st ?_, hG⟩
  (try push_cast (maxSteps := mS))
  all_goals first | rfl | exact ⟨rfl, rfl⟩
 ·have hb : (((sB txt 4).toNat : Nat) : Int) = 34 := rfl
  (try push_cast (maxSteps := mS) [hsz, hb])
  refine .inr ?_
  (try push_cast (maxSteps := mS))
  refine .inr ⟨_, w119b um v (MK [98] [strN [97]] 1) (MK [98] [strN [97]] 1) 3 4 34 false false false false false 0 [] false (T0 ut) (by omega) w152e (sgT (w153 um false false false false 0 [98] [98] [strN [97]] [strN [97]] 1 1 (T0 ut) (w177c um [98] [strN [97]] 1 (T0 ut)))), rfl, ?_⟩
  rintro res G' ⟨rfl, hG⟩
  (try push_cast (maxSteps := mS))
  (repeat ((with_reducible refine And.intro ?_ ?_); focus (first | trivial | omega | exact ix | exact inKu8 (by omega) (by omega))))
  refine ⟨5, by omega, by omega, Le.st ?_, hG⟩
  (try push_cast (maxSteps := mS))
  all_goals first | rfl | exact ⟨rfl, rfl⟩
 ·have hb : (((sB txt 5).toNat : Nat) : Int) = 10 := rfl
  (try push_cast (maxSteps := mS) [hsz, hb])
  refine .inr ?_
  (try push_cast (maxSteps := mS))
  refine .inr ⟨_, w119b um v (MK [98] [strN [97]] 1) ML 4 0 10 false false false true true 0 [stD (strN [97]), stD (strN [98])] true (T0 ut) (by omega) w152f (sgT (w153r um 98 (strN [97]) (strN [98]) (T0 ut) rfl (by omega))), rfl, ?_⟩
  rintro res G' ⟨rfl, hG⟩
  (try push_cast (maxSteps := mS))
  refine .inr ⟨_, (w78 ut ((Wk v um 0).sep (Gh.st um ML))).conseq ((hG.trans (sep_assoc' _ _ _)).trans (sep_comm _ _)), rfl, ?_⟩
  rintro res2 G2 ⟨rfl, hG2⟩
  (try push_cast (maxSteps := mS))
  (repeat ((with_reducible refine And.intro ?_ ?_); focus (first | trivial | omega | exact ix | exact inKu8 (by omega) (by omega))))
  refine ⟨6, by omega, by omega, Le.st ?_, (hG2.trans (sep_comm _ _)).trans (sep_assoc _ _ _)⟩
  (try push_cast (maxSteps := mS))
  all_goals first | rfl | exact ⟨rfl, rfl⟩
 ·(try push_cast (maxSteps := mS) [hsz])
  refine .inr ?_
  (try push_cast (maxSteps := mS))
  refine .inr ⟨_, w120b um v (T1 ut), rfl, ?_⟩
  rintro res G' ⟨rfl, hG⟩
  (try push_cast (maxSteps := mS))
  refine res_of (.ag [i6C 0, i6C 0]) ⟨rfl, (Wk v um 0).sep (Gh.st um ML), (hG.trans (sep_assoc' _ _ _)).trans (sep_comm _ _)⟩ rfl ?_
  first | exact ⟨trivial, rfl⟩ | exact ⟨⟨trivial, trivial⟩, rfl⟩ | ((try push_cast (maxSteps := mS)); done) | skip
theorem w39 : SpecG VT 39 [.ag diaC, .ag limC, s2 txt] Gh.emp fun res _ => res = .tu [.c (.d (.sl 1 [[recD]])), .ag [i6C 0, i6C 0]] := by
 (refine SpecG.of_go VT_G (L := fun | 0 => some [2, 3, 4, 7] | 1 => some [2, 3, 4, 7, 8] | 2 => some [7, 8, 9] | 3 => some [6, 7] | _ => none) 1000 Go.Proofs.Tryz.func39 rfl rfl ⟨Nat.le_of_ble_eq_true rfl, rfl⟩ ?_; unfold Go.Proofs.Tryz.f39; push_cast (maxSteps := mS))
 refine ⟨3, 105, [.v (.slice none 0 0)], rfl, fun ut => ?_⟩
 (try push_cast (maxSteps := mS))
 refine .inr ⟨_, (w77 ut).conseq ((sep_comm _ _).trans (sep_emp _)), rfl, ?_⟩
 rintro res G' ⟨rfl, R, hG⟩
 (try push_cast (maxSteps := mS))
 refine DrawG.cut VT_G (.two 0 (.two 1 (.one 2 (.one 3 .done)) 2 (.one 1 (.one 3 .done))) 1 (.one 0 (.one 2 (.one 3 .done)))) 1000 (by decide +kernel) ⟨[(6, .c (.d (.sl 1 [[recD]]))), (7, .c (.op 2 0))], [.bx 111 diaC, .bx 113 limC, .bx 107 [i6C 0, i6C 0]]⟩ ((T1 ut).sep R) ?_ ?_
 ·(try push_cast (maxSteps := mS))
  (repeat' (with_reducible refine And.intro ?_ ?_)) <;> try (first | trivial | omega)
  all_goals refine ⟨105, _, R, hG, ⟨_, T105, rfl⟩, ?_⟩
  all_goals (try push_cast (maxSteps := mS))
  all_goals (repeat' (with_reducible refine And.intro ?_ ?_)) <;> try (first | trivial | omega)
  all_goals refine ⟨Le.st ?_, Ent.refl _⟩
  all_goals (try push_cast (maxSteps := mS))
  all_goals first | rfl | exact ⟨rfl, rfl⟩
 ·(try push_cast (maxSteps := mS))
  refine res_of (.tu [.c (.d (.sl 1 [[recD]])), .ag [i6C 0, i6C 0]]) rfl rfl ?_
  first | exact ⟨trivial, rfl⟩ | exact ⟨⟨trivial, trivial⟩, rfl⟩ | exact ⟨⟨trivial, trivial, trivial⟩, rfl⟩ | ((try push_cast (maxSteps := mS)); done) | skip
theorem w15 : SpecG VT 15 [] Gh.emp fun res _ => res = trL true := by
 (refine SpecG.of_go VT_G (L := fun | 0 => some [] | 1 => some [1, 2] | 2 => some [0] | _ => none) 1000 Go.Proofs.Tryz.func15 rfl rfl ⟨Nat.le_of_ble_eq_true rfl, rfl⟩ ?_; unfold Go.Proofs.Tryz.f15; push_cast (maxSteps := mS))
 refine .inr ⟨_, w39, rfl, ?_⟩
 rintro res G' rfl
 have hd : decide (strN [98] = ⟨#[98]⟩) = true := by decide
 (try push_cast (maxSteps := mS))
 (try push_cast (maxSteps := mS) [hd])
 refine res_of (trL true) rfl rfl ?_
 first | exact ⟨trivial, rfl⟩ | exact ⟨⟨trivial, trivial⟩, rfl⟩ | ((try push_cast (maxSteps := mS)); done)
end Go.LS.Tryz
