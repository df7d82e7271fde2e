/- What the seat's program gives to all walks. -/
import Derived.Test.YtjgcgjjdfnhhgaaLRr
import Derived.Test.YtjgcgjjdfnhhgaaT
namespace Go.LS.Tryr
open Go Go.LS
set_option maxRecDepth 100000
set_option maxHeartbeats 4000000
noncomputable def V : Env := ⟨Go.Proofs.Try.prog, T, fun _ => True, okAll, 0, fun _ _ => Nat.zero_le _, fun _ _ _ _ => trivial, fun f => f == 17, fun _ => false, false, by rfl⟩
@[push_cast] theorem V_px : V.px = false := rfl
@[push_cast] theorem V_T : V.T = T := rfl
@[push_cast] theorem V_muts : V.muts = fun f => f == 17 := Eq.trans rfl rfl
@[push_cast] theorem V_grows : V.grows = fun _ => false := Eq.trans rfl rfl
theorem inK64 {n : Int} (h1 : -9223372036854775808 ≤ n) (h2 : n ≤ 9223372036854775807) : inK .i64 n := ⟨h1, h2⟩
theorem inKu8 {n : Int} (h1 : 0 ≤ n) (h2 : n ≤ 255) : inK .u8 n := ⟨h1, h2⟩
theorem V_G : ∀ w, V.G w := fun _ => trivial
end Go.LS.Tryr
