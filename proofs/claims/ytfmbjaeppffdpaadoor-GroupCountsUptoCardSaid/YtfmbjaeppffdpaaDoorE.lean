/- What the seat's program gives to all walks. -/
import Derived.Test.YtfmbjaeppffdpaaDoorLSt
import Derived.Test.YtfmbjaeppffdpaaDoorT
namespace Go.LS.Tryd
open Go Go.LS
set_option maxRecDepth 100000
noncomputable def V : Env := ⟨Go.Proofs.Tryd.prog, T, fun w => Go.Lib.TabIs Go.Proofs.Tryd.prog w "internal/strconv.uint64pow10" .u64 Go.Lib.pow10Tab, okAll, 0 + 1, fun w h => tab_gz h (by kernel_rfl), fun w w' h hw => tab_gs (by kernel_rfl) h hw, (fun f => f == 117 || f == 118 || f == 133 || f == 134), (fun f => f == 117 || f == 118 || f == 133 || f == 134), false, by rfl⟩
@[push_cast] theorem V_px : V.px = false := rfl
@[push_cast] theorem V_T : V.T = T := rfl
@[push_cast] theorem V_muts : V.muts = (fun f => f == 117 || f == 118 || f == 133 || f == 134) := rfl
@[push_cast] theorem V_grows : V.grows = (fun f => f == 117 || f == 118 || f == 133 || f == 134) := rfl
end Go.LS.Tryd
