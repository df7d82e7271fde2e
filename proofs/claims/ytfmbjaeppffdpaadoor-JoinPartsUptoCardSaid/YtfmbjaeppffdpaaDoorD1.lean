/- Contracts of the functions of the seat, one by one (part D1); no condition but those that each bears. -/
import Derived.Test.YtfmbjaeppffdpaaDoorPD
import Derived.Test.YtfmbjaeppffdpaaDoorSA
import Derived.Test.YtfmbjaeppffdpaaDoorL
namespace Go.LS.Tryd
open Go Go.LS
set_option maxRecDepth 100000
set_option linter.unusedSimpArgs false
set_option linter.unusedVariables false

def eJ (n : Nat) : List DV := [.v (.int .i64 n)]
@[push_cast] theorem eJ_eq (n : Nat) : eJ n = [.v (.int .i64 n)] := rfl
theorem d117 (bs : List UInt8) (i : Int) (hi : inK .i64 i) (hl : bs.length ≤ 140000000000000) : SpecA V 117 5 1 (bs.map bD) [i2 .i64 i, i2 .i64 10] ((bs ++ Lib.itoa i).map bD) :=
  appInt_spec (V := V) Go.Proofs.Tryd.laysM176 (fun _ h => h) ⟨_, Go.Proofs.Tryd.func117, rfl, rfl⟩ (by decide) bs i hi (by omega)
theorem strD_tru : strD { data := #[116, 114, 117, 101] } = truB.map bD := rfl
theorem strD_fls : strD { data := #[102, 97, 108, 115, 101] } = flsB.map bD := rfl
theorem size_tru : ({ data := #[116, 114, 117, 101] } : ByteArray).size = 4 := rfl
theorem size_fls : ({ data := #[102, 97, 108, 115, 101] } : ByteArray).size = 5 := rfl
theorem d134 (bs : List UInt8) (b : Bool) (hl : bs.length ≤ 140000000000000) : SpecA V 134 5 1 (bs.map bD) [b2 b] ((bs ++ if b then truB else flsB).map bD) := by
  (refine SpecA.of_go (L := fun | 0 => some [0, 1] | 1 => some [0, 5] | 2 => some [4] | 3 => some [4] | _ => none) 1000 Go.Proofs.Tryd.func134 rfl rfl ⟨Nat.le_of_ble_eq_true rfl, rfl⟩ (by decide) ?_; unfold Go.Proofs.Tryd.f134; push_cast (maxSteps := 1000000))
  refine BrP.mk (fun h => ?_) (fun h => ?_) <;> try (push_cast (maxSteps := 1000000) [h])
  · subst h
    refine ⟨by rw [size_tru]; omega, ?_⟩
    rw [strD_tru]; simp
  · subst h
    refine ⟨by rw [size_fls]; omega, ?_⟩
    rw [strD_fls]; simp
theorem d118 (bs : List UInt8) (b : Bool) (hl : bs.length ≤ 140000000000000) : SpecA V 118 5 1 (bs.map bD) [b2 b] ((bs ++ if b then truB else flsB).map bD) := by
  have hS := d134 bs b hl
  (refine SpecA.of_go (L := fun | 0 => some [0, 1] | 1 => some [4] | _ => none) 1000 Go.Proofs.Tryd.func118 rfl rfl ⟨Nat.le_of_ble_eq_true rfl, rfl⟩ (by decide) ?_; unfold Go.Proofs.Tryd.f118; push_cast (maxSteps := 1000000))
  exact ⟨_, hS, rfl⟩
def idxN (x : Nat) : List Nat → Int → Int
  | [], _ => -1
  | y :: l, k => if y = x then k else idxN x l (k + 1)
theorem tok_len (nul : List UInt8) {v : Vl} (h1 : okVl v) (h2 : inK .i64 v.n) (h3 : nul.length ≤ 1) : (tokF nul v).length ≤ 1099511627840 := by
  have h1' : v.s.size ≤ 1099511627776 := h1
  have hs : v.s.data.toList.length = v.s.size := Array.length_toList
  have ha := itoa_len (v.s.size : Int) (by omega) (by omega)
  have hb := itoa_len v.n h2.1 h2.2
  unfold tokF
  split
  · omega
  · split
    · simp only [List.length_cons, List.length_append]; omega
    · split
      · simp only [List.length_cons, List.length_append, List.length_nil]; omega
      · split
        · cases v.b <;> simp
        · simp
end Go.LS.Tryd
