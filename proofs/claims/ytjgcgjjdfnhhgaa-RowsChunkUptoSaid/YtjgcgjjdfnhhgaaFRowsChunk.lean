/- The law RowsChunk holds: for every list and number, together of bulk at most 1048576, it returns true, and its arguments read as they did. -/
import Derived.Test.YtjgcgjjdfnhhgaaRWC
import Derived.Test.YtjgcgjjdfnhhgaaRWD
namespace Go.Proofs.Ytjgcgjjdfnhhgaa.rowsChunk
open Go Go.LS Go.LS.Tryr Go.RowKit Go.ChangeShapes Go.WideShapes
set_option maxRecDepth 100000
set_option linter.unusedVariables false

theorem own : ownKnob Try.prog.godebug = none := by kernel_rfl
theorem laidOut : laidOutB Try.prog = true := by kernel_rfl
theorem contract (H : Type) (enc : TypeId × Value → H) (W : World) (base : Nat) (args : Array Value) (ds gs : List (DataW H)) (before : List MemPlace)
    (hval : ∀ (j : Nat) t v, Try.f3.params[j]? = some t → args[j]? = some v → Value.okWide Try.prog W .any base t v)
    (hW : DataW.Whole enc Try.prog Try.f3.params.toList Rows.rowsChunkSpec.vars false W args.toList ds gs before) (hk : Rows.uptoSmall H (ds ++ gs) = true) :
    Calls Try.prog 3 args W fun e W' => ∃ v, e = .returned v ∧ Rows.rowsChunkSpec.post enc Try.prog Try.f3 false true false false W args v W' := by
  have hW' := hW
  obtain ⟨p, q, hA, hV, rfl, hfz, hnd⟩ := hW
  have hps : Try.f3.params.toList = [22, 3] := by kernel_rfl
  have hp0 : Try.f3.params[0]? = some 22 := by kernel_rfl
  have hp1 : Try.f3.params[1]? = some 3 := by kernel_rfl
  rw [hps] at hA
  obtain ⟨v0, vs0, d0, ds0, p0, q0, hargs, rfl, rfl, h0, r0⟩ := trodAll_cons hA
  obtain ⟨v1, vs1, d1, ds1, p1, q1, rfl, rfl, rfl, h1, r1⟩ := trodAll_cons r0
  obtain ⟨rfl, rfl, rfl⟩ := trodAll_nil r1
  obtain rfl : args = #[v0, v1] := by cases args; simp_all
  obtain ⟨rfl, rfl⟩ := trodVars_none hV
  have hb := bound hk
  simp only [List.append_nil, blks] at hb
  obtain ⟨a0, l0, c0, rfl⟩ := okWide_slice ok22.und (hval 0 22 v0 hp0 rfl)
  obtain ⟨a1, rfl⟩ := okWide_int ok3.und (hval 1 3 v1 hp1 rfl)
  obtain ⟨x0, k0, m0, i0⟩ := dat_one rdI h0
  obtain ⟨x1, k1, m1, i1⟩ := dat_one (fun n => Rd.int ok3.und) h1
  have hlen : x0.length ≤ 1048576 := by rw [sum_one] at m0; omega
  have hspec := spec_of (f3 x0 x1 hlen i0 i1) rfl
  exact contract_of_spec (V := V) rfl trivial hspec ⟨_, _, rfl, dat_cell rfl k0, _, _, rfl, dat_cell rfl k1, rfl⟩ hW' (tb := 4) (by kernel_rfl) ok4.und laidOut (by rw [hps]; kernel_rfl) rfl rfl

theorem lifted (os : Os) (started : os.Started) (H : Type) (enc : TypeId × Value → H) (F : Stop.Interp) :
    ReturnsInHanded {} Try.checked os 3 .any ((Rows.OpenSpec.upto Rows.rowsChunkSpec).pre6 enc Try.prog Try.f3 Rows.rowsChunkUptoRow.domain false) (((Rows.OpenSpec.upto Rows.rowsChunkSpec).at F).post enc Try.prog Try.f3 false true false false) := by
  refine returnsInHanded_of_cond (C := Try.checked) (s := Rows.OpenSpec.upto Rows.rowsChunkSpec) (k := Rows.uptoSmall) rfl own started (by kernel_rfl) Try.func3
    (OpenSpec.witness (enc := enc) (C := Try.checked) (s := Rows.OpenSpec.upto Rows.rowsChunkSpec) (k := Rows.uptoSmall) rfl false
      ⟨#[], #[.slice none 0 0, .int .i64 0], []⟩ 8 (by kernel_rfl) (by kernel_rfl) (by kernel_rfl)
      (x := ([.nil, .lit (.int .i64 0)], [], [])) (by kernel_rfl) rfl (by kernel_rfl)) ?_
  intro W base args ds gs before hval hW _ hk _
  exact contract H enc W base args ds gs before hval hW hk

theorem proved : Rows.RowsChunkUptoSaid :=
  OpenClaim.holds_of_cond 3 Try.f3 rfl rfl rfl rfl rfl rfl rfl ⟨rfl, rfl, rfl, rfl, rfl⟩ rfl rfl rfl rfl rfl (by kernel_rfl) Try.func3 (by kernel_rfl)
    (of_decide_eq_true (by kernel_rfl)) (by unfold Func.isWrapper; first | (rw [if_pos (by decide +kernel)]; kernel_rfl) | (rw [if_neg (by decide +kernel)]; exact ⟨rfl, rfl⟩))
    (fun os started H enc _ F => lifted os started H enc F)
end Go.Proofs.Ytjgcgjjdfnhhgaa.rowsChunk
