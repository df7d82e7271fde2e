/- More plain facts. -/
import Derived.Test.YtfmbjaeppffdpaaPc
namespace Go.LS
open Go
set_option maxRecDepth 100000
set_option linter.unusedSimpArgs false
set_option linter.unusedVariables false
/-- Fewer things known, once objects are written to no more. -/
def LeF (σ : LS) (ks : List Nat) (τ : LS) : Prop := match fzs σ ks with
  | some σ' => leS σ'.sl τ.sl ∧ σ'.ob.take τ.ob.length = τ.ob ∧ (τ.sl.all fun p => refsLV τ.ob.length p.2) = true ∧ τ.ob.all (refsO τ.ob.length) = true
  | none => False
theorem Le.frz (ks : List Nat) {σ τ : LS} (h : LeF σ ks τ) : Le σ τ := by
  unfold LeF at h
  split at h
  · rename_i σ' hf
    rintro N w0 a w ⟨ι, hi⟩
    exact Le.st (sl := σ'.sl) (ob := σ'.ob) (sl' := τ.sl) (ob' := τ.ob) h N w0 a w ⟨ι, fzs_sound hi hf⟩
  · exact h.elim
attribute [push_cast] LeF
theorem mapTake {α β : Type} {f : α → β} {l : List α} {i : Nat} {x : α} (h : l[i]? = some x) : (l.take (i + 1)).map f = (l.take i).map f ++ [f x] := by
  rw [List.take_add_one, h]; simp
theorem valid_empty : validB { data := #[] } = true := rfl
theorem whole_dec (s : ByteArray) : decide ((wholeF s : Int) = (s.size : Int)) = validB s := by
  rw [valid_whole]
  rw [Bool.eq_iff_iff, decide_eq_true_eq, decide_eq_true_eq]
  omega
theorem bi_zero (b : Bool) : decide (bi b = 0) = !b := by cases b <;> rfl
theorem zeroV_ref (v : Vl) : (decide (v.k = 0) && (decide (v.s = ByteArray.empty) && (decide (v.n = 0) && decide (bi v.b = 0)))) = zeroV v := by
  unfold zeroV; rw [bi_zero]; cases v.b <;> rfl
theorem tail_all (col : ByteArray) (op : Int) (v : Vl) (vl : List Vl) (ks : List Nd) (l : List Cl) : tailF (.mk op col v vl ks) l =
    if (findF col l 0).2.2 = false then 16 else if ((vl ++ [v]).all fun v => fitsF v (findF col l 0).1) = true then 0 else 21 := by
  rw [tail_mk, List.all_append]
  split
  · rfl
  · cases h1 : fitsF v (findF col l 0).1 <;> cases h2 : (vl.all fun v => fitsF v (findF col l 0).1) <;> simp [h1]
end Go.LS
