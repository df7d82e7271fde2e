/- The walk in which what clones gives a row of one's own. -/
import Derived.Test.YtfmbjaeppffdpaaGreatDoorLD
import Derived.Test.YtfmbjaeppffdpaaGreatDoorE
namespace Go.LS.Tryz
open Go Go.LS
set_option maxRecDepth 100000
set_option maxHeartbeats 4000000
noncomputable def V2:Env:={ V with muts:=(fun f=>f == 82 || f == 83 || f == 85 || f == 86 || f == 101 || f == 125 || f == 128 || f == 129 || f == 140 || f == 160 || f == 161 || f == 162 || f == 163 || f == 165 || f == 167 || f == 168 || f == 181 || f == 183 || f == 187 || f == 192),grows:=(fun f=>f == 128 || f == 129 || f == 162 || f == 163) }
@[push_cast] theorem V2_px:V2.px=false:=rfl
@[push_cast] theorem V2_T:V2.T=T:=rfl
@[push_cast] theorem V2_muts:V2.muts=(fun f=>f == 82 || f == 83 || f == 85 || f == 86 || f == 101 || f == 125 || f == 128 || f == 129 || f == 140 || f == 160 || f == 161 || f == 162 || f == 163 || f == 165 || f == 167 || f == 168 || f == 181 || f == 183 || f == 187 || f == 192):=Eq.trans rfl rfl
@[push_cast] theorem V2_grows:V2.grows=(fun f=>f == 128 || f == 129 || f == 162 || f == 163):=Eq.trans rfl rfl
theorem to1 {f:FuncId} {xs:List LV} {r:LV} (h:Spec V2 f xs r):Spec V f xs r:=h
theorem to2 {f:FuncId} {xs:List LV} {r:LV} (h:Spec V f xs r):Spec V2 f xs r:=h
theorem toR2 {f:FuncId} {xs:List LV} {t size:Nat} {es:List (List DV)} (h:SpecR V f xs t size es):SpecR V2 f xs t size es:=h
end Go.LS.Tryz
