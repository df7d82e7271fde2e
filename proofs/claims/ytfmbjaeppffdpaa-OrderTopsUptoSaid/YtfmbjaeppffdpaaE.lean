/- What the seat's program gives to all walks. -/
import Derived.Test.YtfmbjaeppffdpaaLSr
import Derived.Test.YtfmbjaeppffdpaaT
namespace Go.LS.Try
open Go Go.LS
set_option maxRecDepth 100000
noncomputable def V : Env := ⟨Go.Proofs.Try.prog, T, fun _ => True, okAll, 0, fun _ _ => Nat.zero_le _, fun _ _ _ _ => trivial, (fun f => f == 64 || f == 65 || f == 68 || f == 80 || f == 81 || f == 92 || f == 93 || f == 94 || f == 95 || f == 101 || f == 102 || f == 108 || f == 109), (fun _ => false), by rfl⟩
@[push_cast] theorem V_T : V.T = T := rfl
@[push_cast] theorem V_muts : V.muts = (fun f => f == 64 || f == 65 || f == 68 || f == 80 || f == 81 || f == 92 || f == 93 || f == 94 || f == 95 || f == 101 || f == 102 || f == 108 || f == 109) := rfl
@[push_cast] theorem V_grows : V.grows = (fun _ => false) := rfl
end Go.LS.Try
