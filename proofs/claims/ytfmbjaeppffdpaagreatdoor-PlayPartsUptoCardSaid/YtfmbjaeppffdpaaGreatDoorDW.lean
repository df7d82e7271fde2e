/- Contracts of the functions of the seat,one by one (part DW);no condition but those that each bears. -/
import Derived.Test.YtfmbjaeppffdpaaGreatDoorE
import Derived.Test.YtfmbjaeppffdpaaGreatDoorRows
import Derived.KernelRfl
import Derived.WalkKit
import Derived.Deep.DeepHandedRow
import Derived.Lib.LaidTab
import Derived.Stop.LaidErr
namespace Go.LS.Tryz
open Go Go.ChangeShapes Go.WideShapes Go.ChangeAt Go.RowKit
set_option maxRecDepth 100000
set_option linter.unusedSimpArgs false
set_option linter.unusedVariables false
abbrev laid3:List (String × DataW Unit):=[("math/bits.deBruijn32tab",Go.Proofs.YtfmbjaeppffdpaaGreatDoor.Rows.laid_math_bits_deBruijn32tab),("math/bits.deBruijn64tab",Go.Proofs.YtfmbjaeppffdpaaGreatDoor.Rows.laid_math_bits_deBruijn64tab),("internal/strconv.uint64pow10",Go.Proofs.YtfmbjaeppffdpaaGreatDoor.Rows.laid_internal_strconv_uint64pow10)]
theorem gTab:Go.Proofs.Tryz.prog.globalNamed "internal/strconv.uint64pow10" = some 0:=by kernel_rfl
theorem gTabType:(Go.Proofs.Tryz.prog.globals[0]?).map (·.type)=some 293:=by kernel_rfl
theorem cellsTab:Go.Proofs.Tryz.prog.cellsOf 293=20:=by kernel_rfl
theorem cellsEl:Go.Proofs.Tryz.prog.cellsOf 271=1:=by kernel_rfl
theorem tabE:Go.Proofs.YtfmbjaeppffdpaaGreatDoor.Rows.laid_internal_strconv_uint64pow10=Go.Lib.tabData (H:=Unit) .u64 Go.Lib.pow10Tab:=by kernel_rfl
theorem table {W:World} (h:laidMetH Go.Proofs.Tryz.prog laid3 W):Go.Lib.TabIs Go.Proofs.Tryz.prog W "internal/strconv.uint64pow10" .u64 Go.Lib.pow10Tab:=by
 have h3:laidMet Go.Proofs.Tryz.prog [("internal/strconv.uint64pow10",Go.Proofs.YtfmbjaeppffdpaaGreatDoor.Rows.laid_internal_strconv_uint64pow10)] W:=laidMet.tail (laidMet.tail h)
 rw [tabE] at h3
 exact Go.Lib.tabIs_of_head (rest:=[]) gTab gTabType Go.Proofs.Tryz.underlying293 Go.Proofs.Tryz.underlying271 cellsEl cellsTab h3
def setTab (vs:Array Value):Obj→Obj
 | .cells _ t frozen=>.cells vs t frozen
 | o=>o
noncomputable def laidWorld (os:Os):World :=
 { World.holding Go.Proofs.Tryz.prog os ⟨#[],#[],[]⟩ with heap:=(((World.holding Go.Proofs.Tryz.prog os ⟨#[],#[],[]⟩).heap.modify 0 (setTab #[.int .u64 1,.int .u64 10,.int .u64 100,.int .u64 1000,.int .u64 10000,.int .u64 100000,.int .u64 1000000,.int .u64 10000000,.int .u64 100000000,.int .u64 1000000000,.int .u64 10000000000,.int .u64 100000000000,.int .u64 1000000000000,.int .u64 10000000000000,.int .u64 100000000000000,.int .u64 1000000000000000,.int .u64 10000000000000000,.int .u64 100000000000000000,.int .u64 1000000000000000000,.int .u64 10000000000000000000])).modify 1 (setTab #[.int .u8 0,.int .u8 1,.int .u8 28,.int .u8 2,.int .u8 29,.int .u8 14,.int .u8 24,.int .u8 3,.int .u8 30,.int .u8 22,.int .u8 20,.int .u8 15,.int .u8 25,.int .u8 17,.int .u8 4,.int .u8 8,.int .u8 31,.int .u8 27,.int .u8 13,.int .u8 23,.int .u8 21,.int .u8 19,.int .u8 16,.int .u8 7,.int .u8 26,.int .u8 12,.int .u8 18,.int .u8 6,.int .u8 11,.int .u8 5,.int .u8 10,.int .u8 9])).modify 2 (setTab #[.int .u8 0,.int .u8 1,.int .u8 56,.int .u8 2,.int .u8 57,.int .u8 49,.int .u8 28,.int .u8 3,.int .u8 61,.int .u8 58,.int .u8 42,.int .u8 50,.int .u8 38,.int .u8 29,.int .u8 17,.int .u8 4,.int .u8 62,.int .u8 47,.int .u8 59,.int .u8 36,.int .u8 45,.int .u8 43,.int .u8 51,.int .u8 22,.int .u8 53,.int .u8 39,.int .u8 33,.int .u8 30,.int .u8 24,.int .u8 18,.int .u8 12,.int .u8 5,.int .u8 63,.int .u8 55,.int .u8 48,.int .u8 27,.int .u8 60,.int .u8 41,.int .u8 37,.int .u8 16,.int .u8 46,.int .u8 35,.int .u8 44,.int .u8 21,.int .u8 52,.int .u8 32,.int .u8 23,.int .u8 11,.int .u8 54,.int .u8 26,.int .u8 40,.int .u8 15,.int .u8 34,.int .u8 20,.int .u8 31,.int .u8 10,.int .u8 25,.int .u8 14,.int .u8 19,.int .u8 9,.int .u8 13,.int .u8 8,.int .u8 7,.int .u8 6]) }
theorem laid_met (os:Os) (args:Array Value):laidMet Go.Proofs.Tryz.prog laid3 ((laidWorld os).forCall (fun _ _=>0) ⟨#[],args,[]⟩).memory :=
 laidMet_of_run' 8 (by kernel_rfl) (by kernel_rfl)
end Go.LS.Tryz
