/- Part DA: 7 texts, one behind the other. -/
import Derived.Test.YtfmbjaeppffdpaaGreatDoorPD
import Derived.Test.YtfmbjaeppffdpaaGreatDoorSA
import Derived.Test.YtfmbjaeppffdpaaGreatDoorL
import Derived.KernelRfl
namespace Go.LS.Tryz
open Go Go.LS
set_option maxRecDepth 100000
set_option linter.unusedSimpArgs false
set_option linter.unusedVariables false
def eJ (n : Nat) : List DV := [.v (.int .i64 n)]
@[push_cast] theorem eJ_eq (n : Nat) : eJ n = [.v (.int .i64 n)] := rfl
theorem d117 (bs : List UInt8) (i : Int) (hi : inK .i64 i) (hl : bs.length ≤ 140000000000000) : SpecA V 128 5 1 (bs.map bD) [i2 .i64 i, i2 .i64 10] ((bs ++ Lib.itoa i).map bD) :=
 appInt_spec (V := V) Go.Proofs.Tryz.laysM176 (fun _ h => h) ⟨_, Go.Proofs.Tryz.func128, rfl, rfl⟩ (by decide) bs i hi (by omega)
theorem strD_tru : strD { data := #[116, 114, 117, 101] } = truB.map bD := rfl
theorem strD_fls : strD { data := #[102, 97, 108, 115, 101] } = flsB.map bD := rfl
theorem size_tru : ({ data := #[116, 114, 117, 101] } : ByteArray).size = 4 := rfl
theorem size_fls : ({ data := #[102, 97, 108, 115, 101] } : ByteArray).size = 5 := rfl
theorem d134 (bs : List UInt8) (b : Bool) (hl : bs.length ≤ 140000000000000) : SpecA V 163 5 1 (bs.map bD) [b2 b] ((bs ++ if b then truB else flsB).map bD) := by
 (refine SpecA.of_go (L := fun | 0 => some [0, 1] | 1 => some [0, 5] | 2 => some [4] | 3 => some [4] | _ => none) 1000 Go.Proofs.Tryz.func163 rfl rfl ⟨Nat.le_of_ble_eq_true rfl, rfl⟩ (by decide) ?_; unfold Go.Proofs.Tryz.f163; push_cast (maxSteps := mS))
 refine BrP.mk (fun h => ?_) (fun h => ?_) <;> try (push_cast (maxSteps := mS) [h])
 ·subst h
  refine ⟨by rw [size_tru]; omega, ?_⟩
  rw [strD_tru]; simp
 ·subst h
  refine ⟨by rw [size_fls]; omega, ?_⟩
  rw [strD_fls]; simp
theorem d118 (bs : List UInt8) (b : Bool) (hl : bs.length ≤ 140000000000000) : SpecA V 129 5 1 (bs.map bD) [b2 b] ((bs ++ if b then truB else flsB).map bD) := by
 have hS := d134 bs b hl
 (refine SpecA.of_go (L := fun | 0 => some [0, 1] | 1 => some [4] | _ => none) 1000 Go.Proofs.Tryz.func129 rfl rfl ⟨Nat.le_of_ble_eq_true rfl, rfl⟩ (by decide) ?_; unfold Go.Proofs.Tryz.f129; push_cast (maxSteps := mS))
 exact ⟨_, hS, rfl⟩
def idxN (x : Nat) : List Nat → Int → Int
 | [], _ => -1
 | y :: l, k => if y = x then k else idxN x l (k + 1)
theorem tok_len (nul : List UInt8) {v : Vl} (h1 : okVl v) (h2 : inK .i64 v.n) (h3 : nul.length ≤ 1) : (tokF nul v).length ≤ 1099511627840 := by
 have h1' : v.s.size ≤ 1099511627776 := h1
 have hs : v.s.data.toList.length = v.s.size := Array.length_toList
 have ha := itoa_len (v.s.size : Int) (by omega) (by omega)
 have hb := itoa_len v.n h2.1 h2.2
 unfold tokF
 split
 ·omega
 ·split
  ·simp only [List.length_cons, List.length_append]; omega
  ·split
   ·simp only [List.length_cons, List.length_append, List.length_nil]; omega
   ·split
    ·cases v.b <;> simp
    ·simp
open Go Go.LS
set_option maxRecDepth 100000
set_option linter.unusedSimpArgs false
set_option linter.unusedVariables false
open Go Go.LS
set_option maxRecDepth 100000
set_option linter.unusedSimpArgs false
set_option linter.unusedVariables false
theorem d58 (t : Tb) (ht : okT0 t) : Spec V 32 [.ag ((eT t).map .d)] (b2 (fewT t)) := by
 obtain ⟨l, r⟩ := t
 obtain ⟨hl, hr, hvr⟩ := ht
 simp only at hl hr hvr
 have hrl : r.length ≤ 1099511627776 := hr
 (refine Spec.of_go (L := fun | 0 => some [1] | 1 => some [1, 16] | 2 => some [2] | 3 => some [18, 19, 20] | 4 => some [18, 19, 20, 21] | 5 => some [4, 18, 19, 20] | 6 => some [18, 19, 20, 24, 25, 26] | 7 => some [18, 19, 20, 24, 25, 26, 27] | 8 => some [6, 18, 19, 20, 24, 25, 26] | 9 => some [18, 19, 20, 24, 25, 26, 33] | 10 => some [2] | 11 => some [18, 19, 20, 24, 25, 26] | 12 => some [18, 19, 20] | 13 => some [2] | _ => none) 1000 Go.Proofs.Tryz.func32 rfl rfl ⟨Nat.le_of_ble_eq_true rfl, rfl⟩ rfl ?_; unfold Go.Proofs.Tryz.f32; push_cast (maxSteps := mS))
 refine ⟨_, f13 l hl.1, rfl, ?_⟩
 (try push_cast (maxSteps := mS))
 cases hL : (!longC l && decide (l.length ≤ 12)) with
 | false =>
  have hz : fewT ⟨l, r⟩ = false := by simp only [fewT]; rw [hL]; rfl
  (try push_cast (maxSteps := mS))
  exact hz.symm
 | true =>
  (try push_cast (maxSteps := mS))
  refine ⟨_, f19 r hr (fun x hx => (hvr x hx).1), rfl, ?_⟩
  (try push_cast (maxSteps := mS))
  cases hs : smallF r with
  | false =>
   have hz : fewT ⟨l, r⟩ = false := by simp only [fewT]; rw [hs]; simp
   (try push_cast (maxSteps := mS))
   exact hz.symm
  | true =>
   have hz : fewT ⟨l, r⟩ = r.all fun r => r.all rightF := by simp only [fewT]; rw [hL, hs]; simp
   (try push_cast (maxSteps := mS))
   rw [hz]
   refine LoopK.s1 (α := Nat) [20] (fun j => [i2 .i64 j]) (fun j => j ≤ r.length ∧ (r.drop j).all (fun r => r.all rightF) = r.all fun r => r.all rightF) (fun j => r.length - j) 1000 0 ⟨by omega, rfl⟩ (by (try push_cast (maxSteps := mS))) ?_
   rintro j ⟨hj, hc⟩
   by_cases hlt : j < r.length
   ·have hv := List.getElem?_eq_getElem hlt; have hd : decide ((j : Int) < (r.length : Int)) = true := decide_eq_true (by omega)
    rw [drop_cons hv] at hc
    simp only [List.all_cons] at hc
    have hrow := hvr _ (List.getElem_mem hlt)
    generalize r[j] = row at *
    have hrw : row.length ≤ 1099511627776 := hrow.1
    (try push_cast (maxSteps := mS) [hd, getD_map hv])
    ((repeat' with_reducible refine And.intro ?_ ?_) <;> try first | trivial | omega | exact ix | exact iu | exact im | exact .inl trivial | exact .inl rfl)
    refine LoopK.s1 (α := Nat) [26] (fun i => [i2 .i64 i]) (fun i => i ≤ row.length ∧ (row.drop i).all rightF = row.all rightF) (fun i => row.length - i) 1000 0 ⟨by omega, rfl⟩ (by (try push_cast (maxSteps := mS))) ?_
    rintro i ⟨hi, hc2⟩
    by_cases hlt2 : i < row.length
    ·have hv2 := List.getElem?_eq_getElem hlt2
     have hd2 : decide ((i : Int) < (row.length : Int)) = true := decide_eq_true (by omega)
     rw [drop_cons hv2] at hc2
     simp only [List.all_cons] at hc2
     have hvl := hrow.2 _ (List.getElem_mem hlt2)
     generalize row[i] = v at *
     (try push_cast (maxSteps := mS) [hd2, getD_map hv2])
     ((repeat' with_reducible refine And.intro ?_ ?_) <;> try first | trivial | omega | exact ix | exact iu | exact im | exact .inl trivial | exact .inl rfl)
     (have hS := f22 v; simp only [eS_eq, eN_eq, eV_eq, eRN_eq, eRV_eq, eC_eq, eRC_eq, List.map_cons, List.map_nil, i2, b2, s2] at hS; refine ⟨_, hS, rfl, ?_⟩; clear hS; try (push_cast (maxSteps := mS)))
     (have hS := f21 v hvl.1; simp only [eS_eq, eN_eq, eV_eq, eRN_eq, eRV_eq, eC_eq, eRC_eq, List.map_cons, List.map_nil, i2, b2, s2] at hS; refine ⟨_, hS, rfl, ?_⟩; clear hS; try (push_cast (maxSteps := mS)))
     refine BrP.mk (fun h => ?_) (fun h => ?_) <;> try (push_cast (maxSteps := mS) [h])
     ·have hw : rightF v = false := by simpa using h
      rw [hw, Bool.false_and] at hc2
      rw [← hc2, Bool.false_and] at hc
      exact hc
     ·have hw : rightF v = true := by simpa using h
      rw [hw, Bool.true_and] at hc2
      ((repeat' with_reducible refine And.intro ?_ ?_) <;> try first | trivial | omega | exact ix | exact iu | exact im | exact .inl trivial | exact .inl rfl)
      refine ⟨i + 1, ⟨by omega, hc2⟩, by omega, Le.st ?_⟩
      (try push_cast (maxSteps := mS))
      all_goals rfl
    ·have hd2 : decide ((i : Int) < (row.length : Int)) = false := decide_eq_false (by omega)
     rw [List.drop_eq_nil_of_le (by omega), List.all_nil] at hc2
     rw [← hc2, Bool.true_and] at hc
     (try push_cast (maxSteps := mS) [hd2])
     ((repeat' with_reducible refine And.intro ?_ ?_) <;> try first | trivial | omega | exact ix | exact iu | exact im | exact .inl trivial | exact .inl rfl)
     refine ⟨j + 1, ⟨by omega, hc⟩, by omega, Le.st ?_⟩
     (try push_cast (maxSteps := mS))
   ·have hd : decide ((j : Int) < (r.length : Int)) = false := decide_eq_false (by omega)
    rw [List.drop_eq_nil_of_le (by omega), List.all_nil] at hc
    (try push_cast (maxSteps := mS) [hd])
    exact hc
open Go Go.LS
set_option maxRecDepth 100000
set_option linter.unusedSimpArgs false
set_option linter.unusedVariables false
end Go.LS.Tryz
namespace Go.LS.Tryz
open Go Go.LS
set_option maxRecDepth 100000
set_option linter.unusedSimpArgs false
set_option linter.unusedVariables false
def sId : ByteArray := { data := #[105, 100] }
def sS : ByteArray := { data := #[115] }
def sX : ByteArray := { data := #[120] }
def sY : ByteArray := { data := #[121] }
def sZ : ByteArray := { data := #[122] }
def sQ : ByteArray := { data := #[113] }
def awRow (n : Int) (s : ByteArray) : List Vl := [⟨2, ByteArray.empty, n, false⟩, ⟨1, s, 0, false⟩]
def awCols : List Cl := [⟨sId, 2, false⟩, ⟨sS, 1, false⟩]
def awA : Tb := ⟨awCols, [awRow 1 sX, awRow 2 sY]⟩
def awB : Tb := ⟨awCols, [awRow 2 sZ, awRow 3 sQ]⟩
end Go.LS.Tryz
namespace Go.LS.Tryz
open Go Go.LS
set_option maxRecDepth 100000
set_option linter.unusedSimpArgs false
set_option linter.unusedVariables false
end Go.LS.Tryz
namespace Go.LS.Tryz
open Go Go.LS
set_option maxRecDepth 100000
set_option linter.unusedSimpArgs false
set_option linter.unusedVariables false
end Go.LS.Tryz
