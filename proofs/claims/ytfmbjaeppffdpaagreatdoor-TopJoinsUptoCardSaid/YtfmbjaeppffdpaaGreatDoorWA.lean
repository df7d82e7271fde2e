/- Contracts of the functions of the seat, one by one (part WA); no condition but those that each bears. -/
import Derived.Test.YtfmbjaeppffdpaaGreatDoorLRg
import Derived.Test.YtfmbjaeppffdpaaGreatDoorT
namespace Go.LS.Tryz
open Go Go.LS
set_option maxRecDepth 100000
@[push_cast] def lv0WA : Nat → Option (List Nat) := fun | 0 => some [0] | 1 => some [2] | _ => none
@[push_cast] def lv1WA : Nat → Option (List Nat) := fun | 0 => some [1, 2, 3, 6] | 1 => some [1, 2, 3, 6, 9] | 2 => some [1, 2, 3, 6, 9, 10] | 3 => some [6, 7, 8] | 4 => some [1, 2, 3, 6, 9, 18] | 5 => some [1, 2, 3, 6, 9, 18] | 6 => some [1, 2, 3, 6, 9, 18] | 7 => some [6, 7, 8] | 8 => some [1, 2, 3, 6, 9, 29] | 9 => some [2, 6, 34] | 10 => some [6, 7, 8] | 11 => some [6, 7, 8] | 12 => some [1, 2, 6, 9, 38] | 13 => some [1, 2, 6, 38] | 14 => some [1, 6, 42] | 15 => some [6, 7, 8] | 16 => some [6, 7, 8] | 17 => some [6, 7, 8] | _ => none
@[push_cast] def lv2WA : Nat → Option (List Nat) := fun | 0 => some [1, 2, 3, 6] | 1 => some [1, 2, 3, 6, 9] | 2 => some [6, 7, 8] | 3 => some [1, 2, 3, 6, 14] | 4 => some [6, 7, 8] | 5 => some [1, 2, 3, 6, 24] | 6 => some [6, 7, 8] | 7 => some [1, 2, 3, 6, 35] | 8 => some [6, 7, 8] | 9 => some [1, 2, 6, 41] | 10 => some [6, 7, 8] | 11 => some [1, 2, 6, 47] | 12 => some [6, 7, 8] | 13 => some [1, 2, 6, 51] | 14 => some [6, 7, 8] | 15 => some [2, 6, 55] | 16 => some [6, 7, 8] | 17 => some [6, 7, 8] | _ => none
set_option linter.unusedVariables false
set_option linter.unusedSimpArgs false
set_option linter.unusedVariables false
set_option maxHeartbeats 4000000
/-! What a whole text's walk reaches: worlds of any kind. -/
noncomputable def VT : Env := ⟨Go.Proofs.Tryz.prog, T, fun _ => True, okAll, 0, fun _ _ => Nat.zero_le _, fun _ _ _ _ => trivial, fun f => f == 78 || f == 119 || f == 120, fun _ => false, false, by rfl⟩
@[push_cast] theorem VT_px : VT.px = false := rfl
@[push_cast] theorem VT_T : VT.T = T := rfl
@[push_cast] theorem VT_muts : VT.muts = fun f => f == 78 || f == 119 || f == 120 := Eq.trans rfl rfl
@[push_cast] theorem VT_grows : VT.grows = fun _ => false := Eq.trans rfl rfl
theorem VT_G : ∀ w, VT.G w := fun _ => trivial
noncomputable def VTx : Env := ⟨Go.Proofs.Tryz.prog, T, fun _ => True, okAll, 0, fun _ _ => Nat.zero_le _, fun _ _ _ _ => trivial, fun f => f == 186 || f == 177, fun _ => false, true, by rfl⟩
@[push_cast] theorem VTx_px : VTx.px = true := rfl
@[push_cast] theorem VTx_T : VTx.T = T := rfl
@[push_cast] theorem VTx_muts : VTx.muts = fun f => f == 186 || f == 177 := Eq.trans rfl rfl
@[push_cast] theorem VTx_grows : VTx.grows = fun _ => false := Eq.trans rfl rfl
theorem VTx_G : ∀ w, VTx.G w := fun _ => trivial
theorem sgTx {f : FuncId} {args : List LV} {G : Gh} {post : LV → Gh → Prop} (h : SpecG VT f args G post) : SpecG VTx f args G post := h
theorem sgT {f : FuncId} {args : List LV} {G : Gh} {post : LV → Gh → Prop} (h : SpecG VTx f args G post) : SpecG VT f args G post := h
abbrev u8L (n : Int) : LV := .c (.d (.v (.int .u8 n)))
abbrev i6L (n : Int) : LV := .c (.d (.v (.int .i64 n)))
abbrev trL (b : Bool) : LV := .c (.d (.v (.bool b)))
abbrev diaC : List CV := [.d (.v (.int .u8 44)), .d (.v (.int .u8 34)), .d (.v (.int .i64 1))]
abbrev limC : List CV := [.d (.v (.int .i64 9)), .d (.v (.int .i64 9)), .d (.v (.int .i64 9)), .d (.v (.bool false))]
abbrev evC (b a f l r : Bool) (n : Int) : List CV := [.d (.v (.bool b)), .d (.v (.bool a)), .d (.v (.bool f)), .d (.v (.bool l)), .d (.v (.bool r)), .d (.v (.int .u8 n))]
theorem w148a : Spec VT 148 [u8L 44] (trL true) := by
 (refine Spec.of_go (L := lv0WA) 1000 Go.Proofs.Tryz.func148 rfl rfl ⟨Nat.le_of_ble_eq_true rfl, rfl⟩ rfl ?_; unfold Go.Proofs.Tryz.f148; push_cast (maxSteps := mS))
theorem w148b : Spec VT 148 [u8L 34] (trL true) := by
 (refine Spec.of_go (L := lv0WA) 1000 Go.Proofs.Tryz.func148 rfl rfl ⟨Nat.le_of_ble_eq_true rfl, rfl⟩ rfl ?_; unfold Go.Proofs.Tryz.f148; push_cast (maxSteps := mS))
theorem w149 : Spec VT 149 [i6L 1] (s2 ⟨#[108, 102]⟩) := by
 (refine Spec.of_go (L := fun | 0 => some [0] | 1 => some [3] | 2 => some [3, 4] | 3 => some [2] | 4 => some [3, 6] | 5 => some [2] | 6 => some [8] | 7 => some [2] | 8 => some [2] | _ => none) 1000 Go.Proofs.Tryz.func149 rfl rfl ⟨Nat.le_of_ble_eq_true rfl, rfl⟩ rfl ?_; unfold Go.Proofs.Tryz.f149; push_cast (maxSteps := mS))
theorem w116 : Spec VT 116 [.ag diaC] (i6L 0) := by
 have hd : decide ((⟨#[108, 102]⟩ : ByteArray) = ⟨#[]⟩) = false := by decide
 (refine Spec.of_go (L := fun | 0 => some [1] | 1 => some [25] | 2 => some [2] | 3 => some [2] | _ => none) 1000 Go.Proofs.Tryz.func116 rfl rfl ⟨Nat.le_of_ble_eq_true rfl, rfl⟩ rfl ?_; unfold Go.Proofs.Tryz.f116; push_cast (maxSteps := mS))
 (refine ⟨_, w148a, rfl, ?_⟩; try (push_cast (maxSteps := mS)))
 (refine ⟨_, w148b, rfl, ?_⟩; try (push_cast (maxSteps := mS)))
 (refine ⟨_, w149, rfl, ?_⟩; try (push_cast (maxSteps := mS)))
 (try push_cast (maxSteps := mS) [hd])
theorem w173 : Spec VT 173 [i6L 9] (trL true) := by
 (refine Spec.of_go (L := lv0WA) 1000 Go.Proofs.Tryz.func173 rfl rfl ⟨Nat.le_of_ble_eq_true rfl, rfl⟩ rfl ?_; unfold Go.Proofs.Tryz.f173; push_cast (maxSteps := mS))
theorem w150 : Spec VT 150 [.ag limC] (i6L 0) := by
 (refine Spec.of_go (L := fun | 0 => some [1] | 1 => some [18] | 2 => some [2] | 3 => some [2] | _ => none) 1000 Go.Proofs.Tryz.func150 rfl rfl ⟨Nat.le_of_ble_eq_true rfl, rfl⟩ rfl ?_; unfold Go.Proofs.Tryz.f150; push_cast (maxSteps := mS))
 (refine ⟨_, w173, rfl, ?_⟩; try (push_cast (maxSteps := mS)))
 (refine ⟨_, w173, rfl, ?_⟩; try (push_cast (maxSteps := mS)))
 (refine ⟨_, w173, rfl, ?_⟩; try (push_cast (maxSteps := mS)))
theorem w169 (b : Int) (h : b ≤ 127) : Spec VT 169 [u8L b] (.tu [i6L 0, trL true]) := by
 have hd : decide (b ≤ 127) = true := decide_eq_true h
 (refine Spec.of_go (L := fun | 0 => some [0] | 1 => some [0, 4] | 2 => some [2, 3] | 3 => some [0, 7] | 4 => some [2, 3] | 5 => some [0, 10] | 6 => some [2, 3] | 7 => some [0, 13] | 8 => some [2, 3] | 9 => some [0, 16] | 10 => some [2, 3] | 11 => some [0, 19] | 12 => some [2, 3] | 13 => some [0, 22] | 14 => some [2, 3] | 15 => some [0, 25] | 16 => some [2, 3] | 17 => some [28] | 18 => some [2, 3] | 19 => some [2, 3] | _ => none) 1000 Go.Proofs.Tryz.func169 rfl rfl ⟨Nat.le_of_ble_eq_true rfl, rfl⟩ rfl ?_; unfold Go.Proofs.Tryz.f169; push_cast (maxSteps := mS))
 (try push_cast (maxSteps := mS) [hd])
theorem w146 (b : Int) (h : b ≤ 127) : Spec VT 146 [i6L 0, u8L b] (.tu [i6L 0, trL true]) := by
 (refine Spec.of_go (L := fun | 0 => some [0, 1] | 1 => some [1, 6] | 2 => some [1, 6, 7] | 3 => some [4, 5] | 4 => some [1, 6, 13] | 5 => some [4, 5] | 6 => some [1, 6, 19] | 7 => some [4, 5] | 8 => some [1, 6, 25] | 9 => some [4, 5] | 10 => some [1, 6, 31] | 11 => some [4, 5] | 12 => some [1, 6, 37] | 13 => some [4, 5] | 14 => some [1, 6, 43] | 15 => some [4, 5] | 16 => some [1, 49] | 17 => some [4, 5] | 18 => some [4, 5] | _ => none) 1000 Go.Proofs.Tryz.func146 rfl rfl ⟨Nat.le_of_ble_eq_true rfl, rfl⟩ rfl ?_; unfold Go.Proofs.Tryz.f146; push_cast (maxSteps := mS))
 (refine ⟨_, w169 b h, rfl, ?_⟩; try (push_cast (maxSteps := mS)))
theorem w185 (b : Int) (h : b = 97 ∨ b = 44 ∨ b = 34 ∨ b = 98 ∨ b = 10) : Spec VT 185 [.ag diaC, u8L b] (trL false) := by
 rcases h with rfl | rfl | rfl | rfl | rfl
 all_goals (refine Spec.of_go (L := fun | 0 => some [1, 2] | 1 => some [4] | _ => none) 1000 Go.Proofs.Tryz.func185 rfl rfl ⟨Nat.le_of_ble_eq_true rfl, rfl⟩ rfl ?_; unfold Go.Proofs.Tryz.f185; push_cast (maxSteps := mS))
theorem w175 : Spec VT 175 [.ag diaC, u8L 97] (.tu [.ag (evC true true false false false 97), i6L 2, i6L 0]) := by
 (refine Spec.of_go (L := fun | 0 => some [1, 2, 4] | 1 => some [1, 2, 4, 7] | 2 => some [4, 5, 6] | 3 => some [1, 2, 4, 12] | 4 => some [4, 5, 6] | 5 => some [1, 4, 18] | 6 => some [4, 5, 6] | 7 => some [1, 4, 24] | 8 => some [4, 5, 6] | 9 => some [1, 4, 28] | 10 => some [4, 5, 6] | 11 => some [4, 5, 6] | _ => none) 1000 Go.Proofs.Tryz.func175 rfl rfl ⟨Nat.le_of_ble_eq_true rfl, rfl⟩ rfl ?_; unfold Go.Proofs.Tryz.f175; push_cast (maxSteps := mS))
 (refine ⟨_, w185 97 (by simp), rfl, ?_⟩; try (push_cast (maxSteps := mS)))
theorem w176a : Spec VT 176 [.ag diaC, i6L 2, u8L 44] (.tu [.ag (evC false false true false false 0), i6L 1, i6L 0]) := by
 (refine Spec.of_go (L := lv2WA) 1000 Go.Proofs.Tryz.func176 rfl rfl ⟨Nat.le_of_ble_eq_true rfl, rfl⟩ rfl ?_; unfold Go.Proofs.Tryz.f176; push_cast (maxSteps := mS))
 (refine ⟨_, w185 44 (by simp), rfl, ?_⟩; try (push_cast (maxSteps := mS)))
theorem w176b : Spec VT 176 [.ag diaC, i6L 1, u8L 34] (.tu [.ag (evC false false false false false 0), i6L 3, i6L 0]) := by
 (refine Spec.of_go (L := lv2WA) 1000 Go.Proofs.Tryz.func176 rfl rfl ⟨Nat.le_of_ble_eq_true rfl, rfl⟩ rfl ?_; unfold Go.Proofs.Tryz.f176; push_cast (maxSteps := mS))
 (refine ⟨_, w185 34 (by simp), rfl, ?_⟩; try (push_cast (maxSteps := mS)))
theorem w176c : Spec VT 176 [.ag diaC, i6L 4, u8L 10] (.tu [.ag (evC false false false true true 0), i6L 0, i6L 0]) := by
 (refine Spec.of_go (L := lv2WA) 1000 Go.Proofs.Tryz.func176 rfl rfl ⟨Nat.le_of_ble_eq_true rfl, rfl⟩ rfl ?_; unfold Go.Proofs.Tryz.f176; push_cast (maxSteps := mS))
 (refine ⟨_, w185 10 (by simp), rfl, ?_⟩; try (push_cast (maxSteps := mS)))
theorem w152a : Spec VT 152 [.ag diaC, i6L 0, u8L 97] (.tu [.ag (evC true true false false false 97), i6L 2, i6L 0]) := by
 (refine Spec.of_go (L := lv1WA) 1000 Go.Proofs.Tryz.func152 rfl rfl ⟨Nat.le_of_ble_eq_true rfl, rfl⟩ rfl ?_; unfold Go.Proofs.Tryz.f152; push_cast (maxSteps := mS))
 (refine ⟨_, w175, rfl, ?_⟩; try (push_cast (maxSteps := mS)))
theorem w152b : Spec VT 152 [.ag diaC, i6L 2, u8L 44] (.tu [.ag (evC false false true false false 0), i6L 1, i6L 0]) := by
 (refine Spec.of_go (L := lv1WA) 1000 Go.Proofs.Tryz.func152 rfl rfl ⟨Nat.le_of_ble_eq_true rfl, rfl⟩ rfl ?_; unfold Go.Proofs.Tryz.f152; push_cast (maxSteps := mS))
 (refine ⟨_, w176a, rfl, ?_⟩; try (push_cast (maxSteps := mS)))
theorem w152c : Spec VT 152 [.ag diaC, i6L 1, u8L 34] (.tu [.ag (evC false false false false false 0), i6L 3, i6L 0]) := by
 (refine Spec.of_go (L := lv1WA) 1000 Go.Proofs.Tryz.func152 rfl rfl ⟨Nat.le_of_ble_eq_true rfl, rfl⟩ rfl ?_; unfold Go.Proofs.Tryz.f152; push_cast (maxSteps := mS))
 (refine ⟨_, w176b, rfl, ?_⟩; try (push_cast (maxSteps := mS)))
theorem w152d : Spec VT 152 [.ag diaC, i6L 3, u8L 98] (.tu [.ag (evC false true false false false 98), i6L 3, i6L 0]) := by
 (refine Spec.of_go (L := lv1WA) 1000 Go.Proofs.Tryz.func152 rfl rfl ⟨Nat.le_of_ble_eq_true rfl, rfl⟩ rfl ?_; unfold Go.Proofs.Tryz.f152; push_cast (maxSteps := mS))
theorem w152e : Spec VT 152 [.ag diaC, i6L 3, u8L 34] (.tu [.ag (evC false false false false false 0), i6L 4, i6L 0]) := by
 (refine Spec.of_go (L := lv1WA) 1000 Go.Proofs.Tryz.func152 rfl rfl ⟨Nat.le_of_ble_eq_true rfl, rfl⟩ rfl ?_; unfold Go.Proofs.Tryz.f152; push_cast (maxSteps := mS))
theorem w152f : Spec VT 152 [.ag diaC, i6L 4, u8L 10] (.tu [.ag (evC false false false true true 0), i6L 0, i6L 0]) := by
 (refine Spec.of_go (L := lv1WA) 1000 Go.Proofs.Tryz.func152 rfl rfl ⟨Nat.le_of_ble_eq_true rfl, rfl⟩ rfl ?_; unfold Go.Proofs.Tryz.f152; push_cast (maxSteps := mS))
 (refine ⟨_, w176c, rfl, ?_⟩; try (push_cast (maxSteps := mS)))
theorem w154 : Spec VT 154 [i6L 0] (.tu [.ag (evC false false false false false 0), i6L 0]) := by
 (refine Spec.of_go (L := fun | 0 => some [0, 2] | 1 => some [2, 4] | 2 => some [2, 4, 5] | 3 => some [2, 4, 5] | 4 => some [2, 4, 5] | 5 => some [2, 3] | 6 => some [2, 4, 10] | 7 => some [2, 3] | 8 => some [2, 4, 13] | 9 => some [2, 13] | 10 => some [2, 3] | 11 => some [2, 3] | _ => none) 1000 Go.Proofs.Tryz.func154 rfl rfl ⟨Nat.le_of_ble_eq_true rfl, rfl⟩ rfl ?_; unfold Go.Proofs.Tryz.f154; push_cast (maxSteps := mS))
abbrev txt : ByteArray := ⟨#[97, 44, 34, 98, 34, 10]⟩
theorem w184 : Spec VT 184 [s2 txt, s2 ⟨#[239, 187, 191]⟩] (trL false) := by
 have hd : decide ((txt.extract 0 3) = ⟨#[239, 187, 191]⟩) = false := by decide
 have e1 : (⟨#[239, 187, 191]⟩ : ByteArray).size = 3 := rfl
 have e2 : txt.size = 6 := rfl
 have hd2 : decide (((3 : Nat) : Int) ≤ ((6 : Nat) : Int)) = true := by decide
 have e3 : (((3 : Nat) : Int)).toNat = 3 := rfl
 (refine Spec.of_go (L := fun | 0 => some [0, 1] | 1 => some [4] | _ => none) 1000 Go.Proofs.Tryz.func184 rfl rfl ⟨Nat.le_of_ble_eq_true rfl, rfl⟩ rfl ?_; unfold Go.Proofs.Tryz.f184; push_cast (maxSteps := mS))
 (try push_cast (maxSteps := mS) [e1, e2, hd2])
 (try push_cast (maxSteps := mS) [e3, hd])
theorem w174 : Spec VT 174 [s2 txt, s2 ⟨#[239, 187, 191]⟩] (.tu [s2 txt, trL false]) := by
 (refine Spec.of_go (L := fun | 0 => some [0, 1] | 1 => some [0, 1, 9] | 2 => some [4, 5] | 3 => some [4, 5] | _ => none) 1000 Go.Proofs.Tryz.func174 rfl rfl ⟨Nat.le_of_ble_eq_true rfl, rfl⟩ rfl ?_; unfold Go.Proofs.Tryz.f174; push_cast (maxSteps := mS))
 (refine ⟨_, w184, rfl, ?_⟩; try (push_cast (maxSteps := mS)))
theorem w151 : Spec VT 151 [s2 txt, s2 ⟨#[239, 187, 191]⟩] (.tu [s2 txt, trL false]) := by
 (refine Spec.of_go (L := fun | 0 => some [0, 1] | 1 => some [4, 5] | _ => none) 1000 Go.Proofs.Tryz.func151 rfl rfl ⟨Nat.le_of_ble_eq_true rfl, rfl⟩ rfl ?_; unfold Go.Proofs.Tryz.f151; push_cast (maxSteps := mS))
 (refine ⟨_, w174, rfl, ?_⟩; try (push_cast (maxSteps := mS)))
theorem w118 : Spec VT 118 [s2 txt] (.tu [s2 txt, trL false]) := by
 (refine Spec.of_go (L := fun | 0 => some [0] | 1 => some [2, 3] | _ => none) 1000 Go.Proofs.Tryz.func118 rfl rfl ⟨Nat.le_of_ble_eq_true rfl, rfl⟩ rfl ?_; unfold Go.Proofs.Tryz.f118; push_cast (maxSteps := mS))
 (refine ⟨_, w151, rfl, ?_⟩; try (push_cast (maxSteps := mS)))
end Go.LS.Tryz
