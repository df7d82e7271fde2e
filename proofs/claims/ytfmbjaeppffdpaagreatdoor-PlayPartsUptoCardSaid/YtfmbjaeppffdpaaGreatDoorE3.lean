/- The walk in which headers of new rows are known word by word. -/
import Derived.Test.YtfmbjaeppffdpaaGreatDoorLD
import Derived.Test.YtfmbjaeppffdpaaGreatDoorE
namespace Go.LS.Tryz
open Go Go.LS
set_option maxRecDepth 100000
set_option maxHeartbeats 4000000
noncomputable def V3:Env:={ V with px:=true }
@[push_cast] theorem V3_T:V3.T=T:=rfl
@[push_cast] theorem V3_px:V3.px=true:=rfl
@[push_cast] theorem V3_muts:V3.muts=(fun f=>f == 85 || f == 86 || f == 101 || f == 125 || f == 128 || f == 129 || f == 140 || f == 160 || f == 161 || f == 162 || f == 163 || f == 167 || f == 168 || f == 181 || f == 183 || f == 187 || f == 192):=Eq.trans rfl rfl
@[push_cast] theorem V3_grows:V3.grows=(fun f=>f == 128 || f == 129 || f == 162 || f == 163):=Eq.trans rfl rfl
theorem of3 {f:FuncId} {xs:List LV} {r:LV} (h:Spec V3 f xs r):Spec V f xs r:=h
theorem to3 {f:FuncId} {xs:List LV} {r:LV} (h:Spec V f xs r):Spec V3 f xs r:=h
end Go.LS.Tryz
