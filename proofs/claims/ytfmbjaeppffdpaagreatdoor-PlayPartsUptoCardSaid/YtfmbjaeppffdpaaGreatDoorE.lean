/- What the seat's program gives to all walks. -/
import Derived.Test.YtfmbjaeppffdpaaGreatDoorLSt
import Derived.Test.YtfmbjaeppffdpaaGreatDoorT
namespace Go.LS.Tryz
open Go Go.LS
set_option maxRecDepth 100000
set_option maxHeartbeats 4000000
noncomputable def V:Env:=⟨Go.Proofs.Tryz.prog,T,fun w=>Go.Lib.TabIs Go.Proofs.Tryz.prog w "internal/strconv.uint64pow10" .u64 Go.Lib.pow10Tab,okAll,0+1,fun w h=>tab_gz h (by kernel_rfl),fun w w' h hw=>tab_gs (by kernel_rfl) h hw,(fun f=>f == 85 || f == 86 || f == 101 || f == 125 || f == 128 || f == 129 || f == 140 || f == 160 || f == 161 || f == 162 || f == 163 || f == 167 || f == 168 || f == 181 || f == 183 || f == 187 || f == 192),(fun f=>f == 128 || f == 129 || f == 162 || f == 163),false,by rfl⟩
@[push_cast] theorem V_px:V.px=false:=rfl
@[push_cast] theorem V_T:V.T=T:=rfl
@[push_cast] theorem V_muts:V.muts=(fun f=>f == 85 || f == 86 || f == 101 || f == 125 || f == 128 || f == 129 || f == 140 || f == 160 || f == 161 || f == 162 || f == 163 || f == 167 || f == 168 || f == 181 || f == 183 || f == 187 || f == 192):=Eq.trans rfl rfl
@[push_cast] theorem V_grows:V.grows=(fun f=>f == 128 || f == 129 || f == 162 || f == 163):=Eq.trans rfl rfl
end Go.LS.Tryz
