/- Tables and steps of the tops may be walked. -/
import Derived.Test.YtfmbjaeppffdpaaGreatDoorPTc
namespace Go.LS
open Go
set_option linter.unusedSimpArgs false
set_option linter.unusedVariables false
theorem in64 {n : Int} (h1 : -9223372036854775808 ≤ n) (h2 : n ≤ 9223372036854775807) : inK .i64 n := ⟨h1, h2⟩
theorem in64_0 : inK .i64 0 := in64 (by omega) (by omega)
theorem okG_fine {t : Tb} (ht : okT0 t) (hf : fineB t = true) : okG t := by
 simp only [fineB, Bool.and_eq_true] at hf
 obtain ⟨h1, h2⟩ := fewT_len hf.2.1
 exact ⟨ht.right hf.2.1, by omega, by omega, by omega⟩
theorem okG_sub {t : Tb} {rows : List (List Vl)} (ht : okG t) (hl : rows.length ≤ t.R.length) (hm : ∀ r ∈ rows, r ∈ t.R) : okG ⟨t.L, rows⟩ := by
 obtain ⟨⟨h1, h2, h3, h4⟩, h5, h6, h7⟩ := ht
 exact ⟨⟨h1, Nat.le_trans hl h2, fun r hr => h3 r (hm r hr), fun r hr => h4 r (hm r hr)⟩, h5, Nat.le_trans hl h6, Nat.lt_of_le_of_lt hl h7⟩
theorem okT2_zero : okT2 tb0 := ⟨⟨by simp [tb0, okLen], by simp [tb0]⟩, by simp [tb0, okLen], by simp [tb0], by simp [tb0]⟩
theorem okT0_zero : okT0 tb0 := ⟨⟨by simp [tb0, okLen], by simp [tb0]⟩, by simp [tb0, okLen], by simp [tb0]⟩
theorem okH_wh {a : Nd} (ha : okNd a) : okH (whS a) :=
 ⟨⟨in64 (by show (-9223372036854775808 : Int) ≤ 1; omega) (by show (1 : Int) ≤ 9223372036854775807; omega), ha, by simp [whS, st0, okLen], in64_0, by simp [whS, st0, okLen], okT0_zero, by simp [whS, st0, okLen], in64_0, by simp [whS, st0, okLen], by simp [whS, st0]⟩,
   by simp [whS, st0], by simp [whS, st0], by simp [whS, st0], by simp [whS, st0], by simp [whS, st0], okT2_zero, by simp [whS, st0, tb0], by simp [whS, st0, tb0]⟩
theorem okH_so (k : Ky) : okH (soS k) :=
 ⟨⟨in64 (by show (-9223372036854775808 : Int) ≤ 2; omega) (by show (2 : Int) ≤ 9223372036854775807; omega), by simp [soS, st0, nd0, okNd, bN, bVs, bNs, vl0], by simp [soS, st0, okLen], in64_0, by simp [soS, st0, okLen], okT0_zero, by simp [soS, st0, okLen], in64_0, by simp [soS, st0, okLen], by simp [soS, st0]⟩,
   by simp [soS, st0], by simp [soS, st0], by simp [soS, st0], by simp [soS, st0], by simp [soS, st0], okT2_zero, by simp [soS, st0, tb0], by simp [soS, st0, tb0]⟩
end Go.LS
