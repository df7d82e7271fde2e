/- The law OrderTops holds: for every case and number, together of bulk at most 1048576, it returns true, and its arguments read as they did. -/
import Derived.Test.YtfmbjaeppffdpaaS30
import Derived.Test.YtfmbjaeppffdpaaRD
namespace Go.Proofs.Ytfmbjaeppffdpaa.orderTops
open Go Go.LS Go.LS.Try Go.RowKit Go.ChangeShapes Go.WideShapes
set_option maxRecDepth 100000
set_option linter.unusedVariables false

theorem own : ownKnob Try.prog.godebug = none := by kernel_rfl
theorem laidOut : laidOutB Try.prog = true := by kernel_rfl
theorem contract (H : Type) (enc : TypeId × Value → H) (W : World) (base : Nat) (args : Array Value) (ds gs : List (DataW H)) (before : List MemPlace)
    (hval : ∀ (j : Nat) t v, Try.f10.params[j]? = some t → args[j]? = some v → Value.okWide Try.prog W .any base t v)
    (hW : DataW.Whole enc Try.prog Try.f10.params.toList Rows.orderTopsSpec.vars false W args.toList ds gs before) (hk : Rows.uptoSmall H (ds ++ gs) = true) :
    Calls Try.prog 10 args W fun e W' => ∃ v, e = .returned v ∧ Rows.orderTopsSpec.post enc Try.prog Try.f10 false true false false W args v W' := by
  have hW' := hW
  obtain ⟨p, q, hA, hV, rfl, hfz, hnd⟩ := hW
  have hps : Try.f10.params.toList = [64, 3] := by kernel_rfl
  have hp0 : Try.f10.params[0]? = some 64 := by kernel_rfl
  have hp1 : Try.f10.params[1]? = some 3 := by kernel_rfl
  rw [hps] at hA
  obtain ⟨v0, vs0, d0, ds0, p0, q0, hargs, rfl, rfl, h0, r0⟩ := trodAll_cons hA
  obtain ⟨v1, vs1, d1, ds1, p1, q1, rfl, rfl, rfl, h1, r1⟩ := trodAll_cons r0
  obtain ⟨rfl, rfl, rfl⟩ := trodAll_nil r1
  obtain rfl : args = #[v0, v1] := by cases args; simp_all
  obtain ⟨rfl, rfl⟩ := trodVars_none hV
  have hb := bound hk
  simp only [List.append_nil, blks] at hb
  obtain ⟨us0, rfl, _⟩ := okWide_struct ok64.und (hval 0 64 v0 hp0 rfl)
  obtain ⟨a1, rfl⟩ := okWide_int ok3.und (hval 1 3 v1 hp1 rfl)
  obtain ⟨x0, k0, m0, i0⟩ := dat_one rdK h0
  obtain ⟨x1, k1, m1, i1⟩ := dat_one (fun n => Rd.int ok3.und) h1
  have oZ := okZ (z := x0) (by omega)
  have hspec := f10 x0 x1 oZ.1 oZ.2.1 oZ.2.2 i1
  exact contract_of_spec (V := V) rfl trivial hspec ⟨_, _, rfl, dat_agg k0, _, _, rfl, dat_cell rfl k1, rfl⟩ hW' (tb := 4) (by kernel_rfl) ok4.und laidOut (by rw [hps]; kernel_rfl) rfl rfl

theorem lifted (os : Os) (started : os.Started) (H : Type) (enc : TypeId × Value → H) (F : Stop.Interp) :
    ReturnsInHanded {} Try.checked os 10 .any ((Rows.OpenSpec.upto Rows.orderTopsSpec).pre6 enc Try.prog Try.f10 Rows.orderTopsUptoRow.domain false) (((Rows.OpenSpec.upto Rows.orderTopsSpec).at F).post enc Try.prog Try.f10 false true false false) := by
  refine returnsInHanded_of_cond (C := Try.checked) (s := Rows.OpenSpec.upto Rows.orderTopsSpec) (k := Rows.uptoSmall) rfl own started (by kernel_rfl) Try.func10
    (OpenSpec.witness (enc := enc) (C := Try.checked) (s := Rows.OpenSpec.upto Rows.orderTopsSpec) (k := Rows.uptoSmall) rfl false
      ⟨#[], #[.agg #[.slice none 0 0, .slice none 0 0, .slice none 0 0], .int .i64 0], []⟩ 8 (by kernel_rfl) (by kernel_rfl) (by kernel_rfl)
      (x := ([.agg [.nil, .nil, .nil], .lit (.int .i64 0)], [], [])) (by kernel_rfl) rfl (by kernel_rfl)) ?_
  intro W base args ds gs before hval hW _ hk _
  exact contract H enc W base args ds gs before hval hW hk

theorem proved : Rows.OrderTopsUptoSaid :=
  OpenClaim.holds_of_cond 10 Try.f10 rfl rfl rfl rfl rfl rfl rfl ⟨rfl, rfl, rfl, rfl, rfl⟩ rfl rfl rfl rfl rfl (by kernel_rfl) Try.func10 (by kernel_rfl)
    (of_decide_eq_true (by kernel_rfl)) (by unfold Func.isWrapper; first | (rw [if_pos (by decide +kernel)]; kernel_rfl) | (rw [if_neg (by decide +kernel)]; exact ⟨rfl, rfl⟩))
    (fun os started H enc _ F => lifted os started H enc F)
end Go.Proofs.Ytfmbjaeppffdpaa.orderTops
