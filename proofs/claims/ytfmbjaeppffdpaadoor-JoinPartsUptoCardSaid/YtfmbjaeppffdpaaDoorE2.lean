/- The walk in which what clones gives a row of one's own. -/
import Derived.Test.YtfmbjaeppffdpaaDoorLD
import Derived.Test.YtfmbjaeppffdpaaDoorE
namespace Go.LS.Tryd
open Go Go.LS
set_option maxRecDepth 100000
noncomputable def V2 : Env := { V with muts := (fun f => f == 72 || f == 78 || f == 89 || f == 117 || f == 118 || f == 124 || f == 125 || f == 133 || f == 134), grows := (fun f => f == 117 || f == 118 || f == 125 || f == 133 || f == 134) }
@[push_cast] theorem V2_px : V2.px = false := rfl
@[push_cast] theorem V2_T : V2.T = T := rfl
@[push_cast] theorem V2_muts : V2.muts = (fun f => f == 72 || f == 78 || f == 89 || f == 117 || f == 118 || f == 124 || f == 125 || f == 133 || f == 134) := rfl
@[push_cast] theorem V2_grows : V2.grows = (fun f => f == 117 || f == 118 || f == 125 || f == 133 || f == 134) := rfl
theorem to1 {f : FuncId} {xs : List LV} {r : LV} (h : Spec V2 f xs r) : Spec V f xs r := h
theorem to2 {f : FuncId} {xs : List LV} {r : LV} (h : Spec V f xs r) : Spec V2 f xs r := h
theorem toR2 {f : FuncId} {xs : List LV} {t size : Nat} {es : List (List DV)} (h : SpecR V f xs t size es) : SpecR V2 f xs t size es := h
end Go.LS.Tryd
