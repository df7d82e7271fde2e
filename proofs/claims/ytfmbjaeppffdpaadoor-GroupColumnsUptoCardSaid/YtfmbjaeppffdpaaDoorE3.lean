/- The walk in which headers of new rows are known word by word. -/
import Derived.Test.YtfmbjaeppffdpaaDoorLD
import Derived.Test.YtfmbjaeppffdpaaDoorE
namespace Go.LS.Tryd
open Go Go.LS
set_option maxRecDepth 100000
noncomputable def V3 : Env := { V with px := true }
@[push_cast] theorem V3_T : V3.T = T := rfl
@[push_cast] theorem V3_px : V3.px = true := rfl
@[push_cast] theorem V3_muts : V3.muts = (fun f => f == 117 || f == 118 || f == 133 || f == 134) := rfl
@[push_cast] theorem V3_grows : V3.grows = (fun f => f == 117 || f == 118 || f == 133 || f == 134) := rfl
theorem of3 {f : FuncId} {xs : List LV} {r : LV} (h : Spec V3 f xs r) : Spec V f xs r := h
theorem to3 {f : FuncId} {xs : List LV} {r : LV} (h : Spec V f xs r) : Spec V3 f xs r := h
end Go.LS.Tryd
