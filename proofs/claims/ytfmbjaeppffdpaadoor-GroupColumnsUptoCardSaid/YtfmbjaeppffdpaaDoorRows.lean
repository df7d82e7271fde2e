/-
  NARROWER THAN 'FOR EVERY INPUT', by the rows' own cells (each row's printed sentence says how): DiffChecks: laid · DiffTells: laid · DiffTurns: laid · JoinChecks: laid · JoinJoins: laid · JoinParts: laid · PatchChecks: laid · PatchApplies: laid · GroupColumns: laid · PatchComposes: laid · PatchSame: laid · GroupCounts: laid · PatchDiffs: laid.
  DERIVED. THE GIVEN ROWS OF THIS SEAT. 13 by the template 'for every input the law returns true; each argument reads behind the call as it read before'; 0 by the template 'total and deterministic' (their statements: YtfmbjaeppffdpaaDoorTotals.lean).
  GIVEN WITH THE SEED: the statements are not yours to turn. If you find one false, say at which input.
  Laid BY PROGRAM, IN A SANDBOX (cutbox-rows.mjs): the forced cells as the released guide's own fill.sh prints them over the translation c0ad79ae9a77b4a8… (all of the seat's roots in one cut). By AI agents, Wed Nov 11 2026. No macro, syntax, notation, axiom, sorry.
-/
import Derived.Test.YtfmbjaeppffdpaaDoorChecked
import GoSem.Claim
import GoSem.ClaimJoined
import GoSem.ClaimMapViews
import Derived.JoinedTies
import Derived.KernelRfl
namespace Go.Proofs.YtfmbjaeppffdpaaDoor
/- THE CELL 'sum', in the pinned program and in every row, IS THE sha256 OF THE DUMP (.gsa) THAT YtfmbjaeppffdpaaDoorProg.lean LOADS. Nothing in Lean hashes anything: it is a label: what it is worth is what the hold of that sum in a sandbox is worth. -/
noncomputable def Tryd.pinned : Pinned := { name := "ytfmbjaeppffdpaadoor", sum := "c0ad79ae9a77b4a8526c9f935ef93e7ddafd4b56ddef6a3f0ab78446e88e997c", checked := Tryd.checked }
namespace Rows
def none {H : Type} : Left H := { results := [], args := [] }

/- WHAT THE LISTED PACKAGE-LEVEL VARIABLES READ AS WHEN THE CALL BEGINS. Each datum BY PROGRAM (the guide's laid-datum.mjs) off the statement by which the dump's own 'gosem.cut.vars' lays the variable. In a bare row this is a premise. The card (YtfmbjaeppffdpaaDoorCards.lean) ties it to the program's text. -/
def laid_math_bits_deBruijn32tab {H : Type} : DataW H := .agg [.lit (.int .u8 0), .lit (.int .u8 1), .lit (.int .u8 28), .lit (.int .u8 2), .lit (.int .u8 29), .lit (.int .u8 14), .lit (.int .u8 24), .lit (.int .u8 3), .lit (.int .u8 30), .lit (.int .u8 22), .lit (.int .u8 20), .lit (.int .u8 15), .lit (.int .u8 25), .lit (.int .u8 17), .lit (.int .u8 4), .lit (.int .u8 8), .lit (.int .u8 31), .lit (.int .u8 27), .lit (.int .u8 13), .lit (.int .u8 23), .lit (.int .u8 21), .lit (.int .u8 19), .lit (.int .u8 16), .lit (.int .u8 7), .lit (.int .u8 26), .lit (.int .u8 12), .lit (.int .u8 18), .lit (.int .u8 6), .lit (.int .u8 11), .lit (.int .u8 5), .lit (.int .u8 10), .lit (.int .u8 9)]
def laid_math_bits_deBruijn64tab {H : Type} : DataW H := .agg [.lit (.int .u8 0), .lit (.int .u8 1), .lit (.int .u8 56), .lit (.int .u8 2), .lit (.int .u8 57), .lit (.int .u8 49), .lit (.int .u8 28), .lit (.int .u8 3), .lit (.int .u8 61), .lit (.int .u8 58), .lit (.int .u8 42), .lit (.int .u8 50), .lit (.int .u8 38), .lit (.int .u8 29), .lit (.int .u8 17), .lit (.int .u8 4), .lit (.int .u8 62), .lit (.int .u8 47), .lit (.int .u8 59), .lit (.int .u8 36), .lit (.int .u8 45), .lit (.int .u8 43), .lit (.int .u8 51), .lit (.int .u8 22), .lit (.int .u8 53), .lit (.int .u8 39), .lit (.int .u8 33), .lit (.int .u8 30), .lit (.int .u8 24), .lit (.int .u8 18), .lit (.int .u8 12), .lit (.int .u8 5), .lit (.int .u8 63), .lit (.int .u8 55), .lit (.int .u8 48), .lit (.int .u8 27), .lit (.int .u8 60), .lit (.int .u8 41), .lit (.int .u8 37), .lit (.int .u8 16), .lit (.int .u8 46), .lit (.int .u8 35), .lit (.int .u8 44), .lit (.int .u8 21), .lit (.int .u8 52), .lit (.int .u8 32), .lit (.int .u8 23), .lit (.int .u8 11), .lit (.int .u8 54), .lit (.int .u8 26), .lit (.int .u8 40), .lit (.int .u8 15), .lit (.int .u8 34), .lit (.int .u8 20), .lit (.int .u8 31), .lit (.int .u8 10), .lit (.int .u8 25), .lit (.int .u8 14), .lit (.int .u8 19), .lit (.int .u8 9), .lit (.int .u8 13), .lit (.int .u8 8), .lit (.int .u8 7), .lit (.int .u8 6)]
def laid_internal_strconv_uint64pow10 {H : Type} : DataW H := .agg [.lit (.int .u64 1), .lit (.int .u64 10), .lit (.int .u64 100), .lit (.int .u64 1000), .lit (.int .u64 10000), .lit (.int .u64 100000), .lit (.int .u64 1000000), .lit (.int .u64 10000000), .lit (.int .u64 100000000), .lit (.int .u64 1000000000), .lit (.int .u64 10000000000), .lit (.int .u64 100000000000), .lit (.int .u64 1000000000000), .lit (.int .u64 10000000000000), .lit (.int .u64 100000000000000), .lit (.int .u64 1000000000000000), .lit (.int .u64 10000000000000000), .lit (.int .u64 100000000000000000), .lit (.int .u64 1000000000000000000), .lit (.int .u64 10000000000000000000)]

/-- 'quillpenlaw25.DiffChecks': WHATEVER THE INPUT: true; the input reads as it did. -/
def diffChecksSpec : ChangeSpec := { name := "diffChecks", fn := fun _ => fun
  | [d] => { results := [.lit (.bool true)], args := [d] }
  | _ => none }
def diffChecksRow : OpenClaim := { program := "ytfmbjaeppffdpaadoor", sum := "c0ad79ae9a77b4a8526c9f935ef93e7ddafd4b56ddef6a3f0ab78446e88e997c", func := "quillpen/quillpenlaw25.DiffChecks", spec := "diffChecks", unfollowed := true, recurses := true, named := ["internal/strconv.uint64pow10", "math/bits.deBruijn32tab", "math/bits.deBruijn64tab"], apart := false, laid := [("math/bits.deBruijn32tab", laid_math_bits_deBruijn32tab), ("math/bits.deBruijn64tab", laid_math_bits_deBruijn64tab), ("internal/strconv.uint64pow10", laid_internal_strconv_uint64pow10)] }
def DiffChecksSaid : Prop := diffChecksRow.holds Tryd.pinned (OpenSpec.ofChange diffChecksSpec)

/-- ITS FALSE NEIGHBOUR: 'it returns false'. Refute it at one input. -/
def diffChecksWrong : ChangeSpec := { name := "diffChecks", fn := fun _ => fun
  | [d] => { results := [.lit (.bool false)], args := [d] }
  | _ => none }
def DiffChecksWrongFalsely : Prop := diffChecksRow.holds Tryd.pinned (OpenSpec.ofChange diffChecksWrong)

/-- 'quillpenlaw25.DiffTells': WHATEVER THE INPUT: true; the input reads as it did. -/
def diffTellsSpec : ChangeSpec := { name := "diffTells", fn := fun _ => fun
  | [d] => { results := [.lit (.bool true)], args := [d] }
  | _ => none }
def diffTellsRow : OpenClaim := { program := "ytfmbjaeppffdpaadoor", sum := "c0ad79ae9a77b4a8526c9f935ef93e7ddafd4b56ddef6a3f0ab78446e88e997c", func := "quillpen/quillpenlaw25.DiffTells", spec := "diffTells", unfollowed := true, recurses := true, named := ["internal/strconv.uint64pow10", "math/bits.deBruijn32tab", "math/bits.deBruijn64tab"], apart := false, laid := [("math/bits.deBruijn32tab", laid_math_bits_deBruijn32tab), ("math/bits.deBruijn64tab", laid_math_bits_deBruijn64tab), ("internal/strconv.uint64pow10", laid_internal_strconv_uint64pow10)] }
def DiffTellsSaid : Prop := diffTellsRow.holds Tryd.pinned (OpenSpec.ofChange diffTellsSpec)

/-- ITS FALSE NEIGHBOUR: 'it returns false'. Refute it at one input. -/
def diffTellsWrong : ChangeSpec := { name := "diffTells", fn := fun _ => fun
  | [d] => { results := [.lit (.bool false)], args := [d] }
  | _ => none }
def DiffTellsWrongFalsely : Prop := diffTellsRow.holds Tryd.pinned (OpenSpec.ofChange diffTellsWrong)

/-- 'quillpenlaw25.DiffTurns': WHATEVER THE INPUT: true; the input reads as it did. -/
def diffTurnsSpec : ChangeSpec := { name := "diffTurns", fn := fun _ => fun
  | [d] => { results := [.lit (.bool true)], args := [d] }
  | _ => none }
def diffTurnsRow : OpenClaim := { program := "ytfmbjaeppffdpaadoor", sum := "c0ad79ae9a77b4a8526c9f935ef93e7ddafd4b56ddef6a3f0ab78446e88e997c", func := "quillpen/quillpenlaw25.DiffTurns", spec := "diffTurns", unfollowed := true, recurses := true, named := ["internal/strconv.uint64pow10", "math/bits.deBruijn32tab", "math/bits.deBruijn64tab"], apart := false, laid := [("math/bits.deBruijn32tab", laid_math_bits_deBruijn32tab), ("math/bits.deBruijn64tab", laid_math_bits_deBruijn64tab), ("internal/strconv.uint64pow10", laid_internal_strconv_uint64pow10)] }
def DiffTurnsSaid : Prop := diffTurnsRow.holds Tryd.pinned (OpenSpec.ofChange diffTurnsSpec)

/-- ITS FALSE NEIGHBOUR: 'it returns false'. Refute it at one input. -/
def diffTurnsWrong : ChangeSpec := { name := "diffTurns", fn := fun _ => fun
  | [d] => { results := [.lit (.bool false)], args := [d] }
  | _ => none }
def DiffTurnsWrongFalsely : Prop := diffTurnsRow.holds Tryd.pinned (OpenSpec.ofChange diffTurnsWrong)

/-- 'quillpenlaw23.JoinChecks': WHATEVER THE INPUT: true; the input reads as it did. -/
def joinChecksSpec : ChangeSpec := { name := "joinChecks", fn := fun _ => fun
  | [d] => { results := [.lit (.bool true)], args := [d] }
  | _ => none }
def joinChecksRow : OpenClaim := { program := "ytfmbjaeppffdpaadoor", sum := "c0ad79ae9a77b4a8526c9f935ef93e7ddafd4b56ddef6a3f0ab78446e88e997c", func := "quillpen/quillpenlaw23.JoinChecks", spec := "joinChecks", unfollowed := true, recurses := true, named := ["internal/strconv.uint64pow10", "math/bits.deBruijn32tab", "math/bits.deBruijn64tab"], apart := false, laid := [("math/bits.deBruijn32tab", laid_math_bits_deBruijn32tab), ("math/bits.deBruijn64tab", laid_math_bits_deBruijn64tab), ("internal/strconv.uint64pow10", laid_internal_strconv_uint64pow10)] }
def JoinChecksSaid : Prop := joinChecksRow.holds Tryd.pinned (OpenSpec.ofChange joinChecksSpec)

/-- ITS FALSE NEIGHBOUR: 'it returns false'. Refute it at one input. -/
def joinChecksWrong : ChangeSpec := { name := "joinChecks", fn := fun _ => fun
  | [d] => { results := [.lit (.bool false)], args := [d] }
  | _ => none }
def JoinChecksWrongFalsely : Prop := joinChecksRow.holds Tryd.pinned (OpenSpec.ofChange joinChecksWrong)

/-- 'quillpenlaw23.JoinJoins': WHATEVER THE INPUT: true; the input reads as it did. -/
def joinJoinsSpec : ChangeSpec := { name := "joinJoins", fn := fun _ => fun
  | [d] => { results := [.lit (.bool true)], args := [d] }
  | _ => none }
def joinJoinsRow : OpenClaim := { program := "ytfmbjaeppffdpaadoor", sum := "c0ad79ae9a77b4a8526c9f935ef93e7ddafd4b56ddef6a3f0ab78446e88e997c", func := "quillpen/quillpenlaw23.JoinJoins", spec := "joinJoins", unfollowed := true, recurses := true, named := ["internal/strconv.uint64pow10", "math/bits.deBruijn32tab", "math/bits.deBruijn64tab"], apart := false, laid := [("math/bits.deBruijn32tab", laid_math_bits_deBruijn32tab), ("math/bits.deBruijn64tab", laid_math_bits_deBruijn64tab), ("internal/strconv.uint64pow10", laid_internal_strconv_uint64pow10)] }
def JoinJoinsSaid : Prop := joinJoinsRow.holds Tryd.pinned (OpenSpec.ofChange joinJoinsSpec)

/-- ITS FALSE NEIGHBOUR: 'it returns false'. Refute it at one input. -/
def joinJoinsWrong : ChangeSpec := { name := "joinJoins", fn := fun _ => fun
  | [d] => { results := [.lit (.bool false)], args := [d] }
  | _ => none }
def JoinJoinsWrongFalsely : Prop := joinJoinsRow.holds Tryd.pinned (OpenSpec.ofChange joinJoinsWrong)

/-- 'quillpenlaw23.JoinParts': WHATEVER THE INPUT: true; the input reads as it did. -/
def joinPartsSpec : ChangeSpec := { name := "joinParts", fn := fun _ => fun
  | [d] => { results := [.lit (.bool true)], args := [d] }
  | _ => none }
def joinPartsRow : OpenClaim := { program := "ytfmbjaeppffdpaadoor", sum := "c0ad79ae9a77b4a8526c9f935ef93e7ddafd4b56ddef6a3f0ab78446e88e997c", func := "quillpen/quillpenlaw23.JoinParts", spec := "joinParts", unfollowed := true, recurses := true, named := ["internal/strconv.uint64pow10", "math/bits.deBruijn32tab", "math/bits.deBruijn64tab"], apart := false, laid := [("math/bits.deBruijn32tab", laid_math_bits_deBruijn32tab), ("math/bits.deBruijn64tab", laid_math_bits_deBruijn64tab), ("internal/strconv.uint64pow10", laid_internal_strconv_uint64pow10)] }
def JoinPartsSaid : Prop := joinPartsRow.holds Tryd.pinned (OpenSpec.ofChange joinPartsSpec)

/-- ITS FALSE NEIGHBOUR: 'it returns false'. Refute it at one input. -/
def joinPartsWrong : ChangeSpec := { name := "joinParts", fn := fun _ => fun
  | [d] => { results := [.lit (.bool false)], args := [d] }
  | _ => none }
def JoinPartsWrongFalsely : Prop := joinPartsRow.holds Tryd.pinned (OpenSpec.ofChange joinPartsWrong)

/-- 'quillpenlaw28.PatchChecks': WHATEVER THE INPUT: true; the input reads as it did. -/
def patchChecksSpec : ChangeSpec := { name := "patchChecks", fn := fun _ => fun
  | [d] => { results := [.lit (.bool true)], args := [d] }
  | _ => none }
def patchChecksRow : OpenClaim := { program := "ytfmbjaeppffdpaadoor", sum := "c0ad79ae9a77b4a8526c9f935ef93e7ddafd4b56ddef6a3f0ab78446e88e997c", func := "quillpen/quillpenlaw28.PatchChecks", spec := "patchChecks", unfollowed := true, recurses := true, named := ["internal/strconv.uint64pow10", "math/bits.deBruijn32tab", "math/bits.deBruijn64tab"], apart := false, laid := [("math/bits.deBruijn32tab", laid_math_bits_deBruijn32tab), ("math/bits.deBruijn64tab", laid_math_bits_deBruijn64tab), ("internal/strconv.uint64pow10", laid_internal_strconv_uint64pow10)] }
def PatchChecksSaid : Prop := patchChecksRow.holds Tryd.pinned (OpenSpec.ofChange patchChecksSpec)

/-- ITS FALSE NEIGHBOUR: 'it returns false'. Refute it at one input. -/
def patchChecksWrong : ChangeSpec := { name := "patchChecks", fn := fun _ => fun
  | [d] => { results := [.lit (.bool false)], args := [d] }
  | _ => none }
def PatchChecksWrongFalsely : Prop := patchChecksRow.holds Tryd.pinned (OpenSpec.ofChange patchChecksWrong)

/-- 'quillpenlaw28.PatchApplies': WHATEVER THE INPUT: true; the input reads as it did. -/
def patchAppliesSpec : ChangeSpec := { name := "patchApplies", fn := fun _ => fun
  | [d] => { results := [.lit (.bool true)], args := [d] }
  | _ => none }
def patchAppliesRow : OpenClaim := { program := "ytfmbjaeppffdpaadoor", sum := "c0ad79ae9a77b4a8526c9f935ef93e7ddafd4b56ddef6a3f0ab78446e88e997c", func := "quillpen/quillpenlaw28.PatchApplies", spec := "patchApplies", unfollowed := true, recurses := true, named := ["internal/strconv.uint64pow10", "math/bits.deBruijn32tab", "math/bits.deBruijn64tab"], apart := false, laid := [("math/bits.deBruijn32tab", laid_math_bits_deBruijn32tab), ("math/bits.deBruijn64tab", laid_math_bits_deBruijn64tab), ("internal/strconv.uint64pow10", laid_internal_strconv_uint64pow10)] }
def PatchAppliesSaid : Prop := patchAppliesRow.holds Tryd.pinned (OpenSpec.ofChange patchAppliesSpec)

/-- ITS FALSE NEIGHBOUR: 'it returns false'. Refute it at one input. -/
def patchAppliesWrong : ChangeSpec := { name := "patchApplies", fn := fun _ => fun
  | [d] => { results := [.lit (.bool false)], args := [d] }
  | _ => none }
def PatchAppliesWrongFalsely : Prop := patchAppliesRow.holds Tryd.pinned (OpenSpec.ofChange patchAppliesWrong)

/-- 'quillpenlaw24.GroupColumns': WHATEVER THE INPUT: true; the input reads as it did. -/
def groupColumnsSpec : ChangeSpec := { name := "groupColumns", fn := fun _ => fun
  | [d] => { results := [.lit (.bool true)], args := [d] }
  | _ => none }
def groupColumnsRow : OpenClaim := { program := "ytfmbjaeppffdpaadoor", sum := "c0ad79ae9a77b4a8526c9f935ef93e7ddafd4b56ddef6a3f0ab78446e88e997c", func := "quillpen/quillpenlaw24.GroupColumns", spec := "groupColumns", inPlace := ["math/bits.Add64"], unfollowed := true, recurses := true, named := ["internal/strconv.uint64pow10", "math/bits.deBruijn32tab", "math/bits.deBruijn64tab"], apart := false, laid := [("math/bits.deBruijn32tab", laid_math_bits_deBruijn32tab), ("math/bits.deBruijn64tab", laid_math_bits_deBruijn64tab), ("internal/strconv.uint64pow10", laid_internal_strconv_uint64pow10)] }
def GroupColumnsSaid : Prop := groupColumnsRow.holds Tryd.pinned (OpenSpec.ofChange groupColumnsSpec)

/-- ITS FALSE NEIGHBOUR: 'it returns false'. Refute it at one input. -/
def groupColumnsWrong : ChangeSpec := { name := "groupColumns", fn := fun _ => fun
  | [d] => { results := [.lit (.bool false)], args := [d] }
  | _ => none }
def GroupColumnsWrongFalsely : Prop := groupColumnsRow.holds Tryd.pinned (OpenSpec.ofChange groupColumnsWrong)

/-- 'quillpenlaw28.PatchComposes': WHATEVER THE INPUT: true; the input reads as it did. -/
def patchComposesSpec : ChangeSpec := { name := "patchComposes", fn := fun _ => fun
  | [d] => { results := [.lit (.bool true)], args := [d] }
  | _ => none }
def patchComposesRow : OpenClaim := { program := "ytfmbjaeppffdpaadoor", sum := "c0ad79ae9a77b4a8526c9f935ef93e7ddafd4b56ddef6a3f0ab78446e88e997c", func := "quillpen/quillpenlaw28.PatchComposes", spec := "patchComposes", unfollowed := true, recurses := true, named := ["internal/strconv.uint64pow10", "math/bits.deBruijn32tab", "math/bits.deBruijn64tab"], apart := false, laid := [("math/bits.deBruijn32tab", laid_math_bits_deBruijn32tab), ("math/bits.deBruijn64tab", laid_math_bits_deBruijn64tab), ("internal/strconv.uint64pow10", laid_internal_strconv_uint64pow10)] }
def PatchComposesSaid : Prop := patchComposesRow.holds Tryd.pinned (OpenSpec.ofChange patchComposesSpec)

/-- ITS FALSE NEIGHBOUR: 'it returns false'. Refute it at one input. -/
def patchComposesWrong : ChangeSpec := { name := "patchComposes", fn := fun _ => fun
  | [d] => { results := [.lit (.bool false)], args := [d] }
  | _ => none }
def PatchComposesWrongFalsely : Prop := patchComposesRow.holds Tryd.pinned (OpenSpec.ofChange patchComposesWrong)

/-- 'quillpenlaw28.PatchSame': WHATEVER THE INPUT: true; the input reads as it did. -/
def patchSameSpec : ChangeSpec := { name := "patchSame", fn := fun _ => fun
  | [d1, d2] => { results := [.lit (.bool true)], args := [d1, d2] }
  | _ => none }
def patchSameRow : OpenClaim := { program := "ytfmbjaeppffdpaadoor", sum := "c0ad79ae9a77b4a8526c9f935ef93e7ddafd4b56ddef6a3f0ab78446e88e997c", func := "quillpen/quillpenlaw28.PatchSame", spec := "patchSame", unfollowed := true, recurses := true, named := ["internal/strconv.uint64pow10", "math/bits.deBruijn32tab", "math/bits.deBruijn64tab"], apart := false, laid := [("math/bits.deBruijn32tab", laid_math_bits_deBruijn32tab), ("math/bits.deBruijn64tab", laid_math_bits_deBruijn64tab), ("internal/strconv.uint64pow10", laid_internal_strconv_uint64pow10)] }
def PatchSameSaid : Prop := patchSameRow.holds Tryd.pinned (OpenSpec.ofChange patchSameSpec)

/-- ITS FALSE NEIGHBOUR: 'it returns false'. Refute it at one input. -/
def patchSameWrong : ChangeSpec := { name := "patchSame", fn := fun _ => fun
  | [d1, d2] => { results := [.lit (.bool false)], args := [d1, d2] }
  | _ => none }
def PatchSameWrongFalsely : Prop := patchSameRow.holds Tryd.pinned (OpenSpec.ofChange patchSameWrong)

/-- 'quillpenlaw24.GroupCounts': WHATEVER THE INPUT: true; the input reads as it did. -/
def groupCountsSpec : ChangeSpec := { name := "groupCounts", fn := fun _ => fun
  | [d] => { results := [.lit (.bool true)], args := [d] }
  | _ => none }
def groupCountsRow : OpenClaim := { program := "ytfmbjaeppffdpaadoor", sum := "c0ad79ae9a77b4a8526c9f935ef93e7ddafd4b56ddef6a3f0ab78446e88e997c", func := "quillpen/quillpenlaw24.GroupCounts", spec := "groupCounts", inPlace := ["math/bits.Add64"], unfollowed := true, recurses := true, named := ["internal/strconv.uint64pow10", "math/bits.deBruijn32tab", "math/bits.deBruijn64tab"], apart := false, laid := [("math/bits.deBruijn32tab", laid_math_bits_deBruijn32tab), ("math/bits.deBruijn64tab", laid_math_bits_deBruijn64tab), ("internal/strconv.uint64pow10", laid_internal_strconv_uint64pow10)] }
def GroupCountsSaid : Prop := groupCountsRow.holds Tryd.pinned (OpenSpec.ofChange groupCountsSpec)

/-- ITS FALSE NEIGHBOUR: 'it returns false'. Refute it at one input. -/
def groupCountsWrong : ChangeSpec := { name := "groupCounts", fn := fun _ => fun
  | [d] => { results := [.lit (.bool false)], args := [d] }
  | _ => none }
def GroupCountsWrongFalsely : Prop := groupCountsRow.holds Tryd.pinned (OpenSpec.ofChange groupCountsWrong)

/-- 'quillpenlaw28.PatchDiffs': WHATEVER THE INPUT: true; the input reads as it did. -/
def patchDiffsSpec : ChangeSpec := { name := "patchDiffs", fn := fun _ => fun
  | [d] => { results := [.lit (.bool true)], args := [d] }
  | _ => none }
def patchDiffsRow : OpenClaim := { program := "ytfmbjaeppffdpaadoor", sum := "c0ad79ae9a77b4a8526c9f935ef93e7ddafd4b56ddef6a3f0ab78446e88e997c", func := "quillpen/quillpenlaw28.PatchDiffs", spec := "patchDiffs", unfollowed := true, recurses := true, named := ["internal/strconv.uint64pow10", "math/bits.deBruijn32tab", "math/bits.deBruijn64tab"], apart := false, laid := [("math/bits.deBruijn32tab", laid_math_bits_deBruijn32tab), ("math/bits.deBruijn64tab", laid_math_bits_deBruijn64tab), ("internal/strconv.uint64pow10", laid_internal_strconv_uint64pow10)] }
def PatchDiffsSaid : Prop := patchDiffsRow.holds Tryd.pinned (OpenSpec.ofChange patchDiffsSpec)

/-- ITS FALSE NEIGHBOUR: 'it returns false'. Refute it at one input. -/
def patchDiffsWrong : ChangeSpec := { name := "patchDiffs", fn := fun _ => fun
  | [d] => { results := [.lit (.bool false)], args := [d] }
  | _ => none }
def PatchDiffsWrongFalsely : Prop := patchDiffsRow.holds Tryd.pinned (OpenSpec.ofChange patchDiffsWrong)

/- THE SECOND FORM. 'bulk': how many values and letters a reading holds, each counted each time it is reached (what is shared counts as often as it is met; a slice's spare places count too). A statement '..UptoSaid' is the law's where the arguments, and the package variables that the reading takes, are together of bulk at most 1048576: NARROWER than '..Said'. Prove '..Said' where nothing that the law and all that it calls make is longer than what came in: it says more and counts as full. Else prove '..UptoSaid'. A law counts once. -/
mutual
def uptoBulk {H : Type} : DataW H → Nat
  | .lit (.string bytes) => bytes.length + 1
  | .lit _ => 1
  | .nil => 1
  | .ptr d => uptoBulk d + 1
  | .slice elems spare => uptoBulkAll elems + uptoBulkAll spare + 1
  | .agg parts => uptoBulkAll parts + 1
  | .iface _ d => uptoBulk d + 1
  | .map entries => uptoBulkEntries entries + 1
  | .held _ => 1
def uptoBulkAll {H : Type} : List (DataW H) → Nat
  | [] => 0
  | d :: r => uptoBulk d + uptoBulkAll r
def uptoBulkEntries {H : Type} : List (Lit × DataW H) → Nat
  | [] => 0
  | x :: r => uptoBulkEntry x + uptoBulkEntries r
def uptoBulkEntry {H : Type} : Lit × DataW H → Nat
  | (.string bytes, d) => bytes.length + uptoBulk d + 1
  | (_, d) => uptoBulk d + 1
 end
def uptoSmall : (H : Type) → List (DataW H) → Bool := fun _ ds => decide (uptoBulkAll ds ≤ 1048576)
def OpenSpec.upto (s : _root_.Go.ChangeSpec) : _root_.Go.OpenSpec := { _root_.Go.OpenSpec.ofChange s with cond := some uptoSmall }

/-- 'quillpenlaw25.DiffChecks', WHERE WHAT IT READS IS OF BULK AT MOST 1048576: true; the input reads as it did. -/
def diffChecksUptoRow : OpenClaim := { program := "ytfmbjaeppffdpaadoor", sum := "c0ad79ae9a77b4a8526c9f935ef93e7ddafd4b56ddef6a3f0ab78446e88e997c", func := "quillpen/quillpenlaw25.DiffChecks", spec := "diffChecks", unfollowed := true, recurses := true, named := ["internal/strconv.uint64pow10", "math/bits.deBruijn32tab", "math/bits.deBruijn64tab"], apart := false, laid := [("math/bits.deBruijn32tab", laid_math_bits_deBruijn32tab), ("math/bits.deBruijn64tab", laid_math_bits_deBruijn64tab), ("internal/strconv.uint64pow10", laid_internal_strconv_uint64pow10)], narrowed := true }
def DiffChecksUptoSaid : Prop := diffChecksUptoRow.holds Tryd.pinned (OpenSpec.upto diffChecksSpec)

/-- 'quillpenlaw25.DiffTells', WHERE WHAT IT READS IS OF BULK AT MOST 1048576: true; the input reads as it did. -/
def diffTellsUptoRow : OpenClaim := { program := "ytfmbjaeppffdpaadoor", sum := "c0ad79ae9a77b4a8526c9f935ef93e7ddafd4b56ddef6a3f0ab78446e88e997c", func := "quillpen/quillpenlaw25.DiffTells", spec := "diffTells", unfollowed := true, recurses := true, named := ["internal/strconv.uint64pow10", "math/bits.deBruijn32tab", "math/bits.deBruijn64tab"], apart := false, laid := [("math/bits.deBruijn32tab", laid_math_bits_deBruijn32tab), ("math/bits.deBruijn64tab", laid_math_bits_deBruijn64tab), ("internal/strconv.uint64pow10", laid_internal_strconv_uint64pow10)], narrowed := true }
def DiffTellsUptoSaid : Prop := diffTellsUptoRow.holds Tryd.pinned (OpenSpec.upto diffTellsSpec)

/-- 'quillpenlaw25.DiffTurns', WHERE WHAT IT READS IS OF BULK AT MOST 1048576: true; the input reads as it did. -/
def diffTurnsUptoRow : OpenClaim := { program := "ytfmbjaeppffdpaadoor", sum := "c0ad79ae9a77b4a8526c9f935ef93e7ddafd4b56ddef6a3f0ab78446e88e997c", func := "quillpen/quillpenlaw25.DiffTurns", spec := "diffTurns", unfollowed := true, recurses := true, named := ["internal/strconv.uint64pow10", "math/bits.deBruijn32tab", "math/bits.deBruijn64tab"], apart := false, laid := [("math/bits.deBruijn32tab", laid_math_bits_deBruijn32tab), ("math/bits.deBruijn64tab", laid_math_bits_deBruijn64tab), ("internal/strconv.uint64pow10", laid_internal_strconv_uint64pow10)], narrowed := true }
def DiffTurnsUptoSaid : Prop := diffTurnsUptoRow.holds Tryd.pinned (OpenSpec.upto diffTurnsSpec)

/-- 'quillpenlaw23.JoinChecks', WHERE WHAT IT READS IS OF BULK AT MOST 1048576: true; the input reads as it did. -/
def joinChecksUptoRow : OpenClaim := { program := "ytfmbjaeppffdpaadoor", sum := "c0ad79ae9a77b4a8526c9f935ef93e7ddafd4b56ddef6a3f0ab78446e88e997c", func := "quillpen/quillpenlaw23.JoinChecks", spec := "joinChecks", unfollowed := true, recurses := true, named := ["internal/strconv.uint64pow10", "math/bits.deBruijn32tab", "math/bits.deBruijn64tab"], apart := false, laid := [("math/bits.deBruijn32tab", laid_math_bits_deBruijn32tab), ("math/bits.deBruijn64tab", laid_math_bits_deBruijn64tab), ("internal/strconv.uint64pow10", laid_internal_strconv_uint64pow10)], narrowed := true }
def JoinChecksUptoSaid : Prop := joinChecksUptoRow.holds Tryd.pinned (OpenSpec.upto joinChecksSpec)

/-- 'quillpenlaw23.JoinJoins', WHERE WHAT IT READS IS OF BULK AT MOST 1048576: true; the input reads as it did. -/
def joinJoinsUptoRow : OpenClaim := { program := "ytfmbjaeppffdpaadoor", sum := "c0ad79ae9a77b4a8526c9f935ef93e7ddafd4b56ddef6a3f0ab78446e88e997c", func := "quillpen/quillpenlaw23.JoinJoins", spec := "joinJoins", unfollowed := true, recurses := true, named := ["internal/strconv.uint64pow10", "math/bits.deBruijn32tab", "math/bits.deBruijn64tab"], apart := false, laid := [("math/bits.deBruijn32tab", laid_math_bits_deBruijn32tab), ("math/bits.deBruijn64tab", laid_math_bits_deBruijn64tab), ("internal/strconv.uint64pow10", laid_internal_strconv_uint64pow10)], narrowed := true }
def JoinJoinsUptoSaid : Prop := joinJoinsUptoRow.holds Tryd.pinned (OpenSpec.upto joinJoinsSpec)

/-- 'quillpenlaw23.JoinParts', WHERE WHAT IT READS IS OF BULK AT MOST 1048576: true; the input reads as it did. -/
def joinPartsUptoRow : OpenClaim := { program := "ytfmbjaeppffdpaadoor", sum := "c0ad79ae9a77b4a8526c9f935ef93e7ddafd4b56ddef6a3f0ab78446e88e997c", func := "quillpen/quillpenlaw23.JoinParts", spec := "joinParts", unfollowed := true, recurses := true, named := ["internal/strconv.uint64pow10", "math/bits.deBruijn32tab", "math/bits.deBruijn64tab"], apart := false, laid := [("math/bits.deBruijn32tab", laid_math_bits_deBruijn32tab), ("math/bits.deBruijn64tab", laid_math_bits_deBruijn64tab), ("internal/strconv.uint64pow10", laid_internal_strconv_uint64pow10)], narrowed := true }
def JoinPartsUptoSaid : Prop := joinPartsUptoRow.holds Tryd.pinned (OpenSpec.upto joinPartsSpec)

/-- 'quillpenlaw28.PatchChecks', WHERE WHAT IT READS IS OF BULK AT MOST 1048576: true; the input reads as it did. -/
def patchChecksUptoRow : OpenClaim := { program := "ytfmbjaeppffdpaadoor", sum := "c0ad79ae9a77b4a8526c9f935ef93e7ddafd4b56ddef6a3f0ab78446e88e997c", func := "quillpen/quillpenlaw28.PatchChecks", spec := "patchChecks", unfollowed := true, recurses := true, named := ["internal/strconv.uint64pow10", "math/bits.deBruijn32tab", "math/bits.deBruijn64tab"], apart := false, laid := [("math/bits.deBruijn32tab", laid_math_bits_deBruijn32tab), ("math/bits.deBruijn64tab", laid_math_bits_deBruijn64tab), ("internal/strconv.uint64pow10", laid_internal_strconv_uint64pow10)], narrowed := true }
def PatchChecksUptoSaid : Prop := patchChecksUptoRow.holds Tryd.pinned (OpenSpec.upto patchChecksSpec)

/-- 'quillpenlaw28.PatchApplies', WHERE WHAT IT READS IS OF BULK AT MOST 1048576: true; the input reads as it did. -/
def patchAppliesUptoRow : OpenClaim := { program := "ytfmbjaeppffdpaadoor", sum := "c0ad79ae9a77b4a8526c9f935ef93e7ddafd4b56ddef6a3f0ab78446e88e997c", func := "quillpen/quillpenlaw28.PatchApplies", spec := "patchApplies", unfollowed := true, recurses := true, named := ["internal/strconv.uint64pow10", "math/bits.deBruijn32tab", "math/bits.deBruijn64tab"], apart := false, laid := [("math/bits.deBruijn32tab", laid_math_bits_deBruijn32tab), ("math/bits.deBruijn64tab", laid_math_bits_deBruijn64tab), ("internal/strconv.uint64pow10", laid_internal_strconv_uint64pow10)], narrowed := true }
def PatchAppliesUptoSaid : Prop := patchAppliesUptoRow.holds Tryd.pinned (OpenSpec.upto patchAppliesSpec)

/-- 'quillpenlaw24.GroupColumns', WHERE WHAT IT READS IS OF BULK AT MOST 1048576: true; the input reads as it did. -/
def groupColumnsUptoRow : OpenClaim := { program := "ytfmbjaeppffdpaadoor", sum := "c0ad79ae9a77b4a8526c9f935ef93e7ddafd4b56ddef6a3f0ab78446e88e997c", func := "quillpen/quillpenlaw24.GroupColumns", spec := "groupColumns", inPlace := ["math/bits.Add64"], unfollowed := true, recurses := true, named := ["internal/strconv.uint64pow10", "math/bits.deBruijn32tab", "math/bits.deBruijn64tab"], apart := false, laid := [("math/bits.deBruijn32tab", laid_math_bits_deBruijn32tab), ("math/bits.deBruijn64tab", laid_math_bits_deBruijn64tab), ("internal/strconv.uint64pow10", laid_internal_strconv_uint64pow10)], narrowed := true }
def GroupColumnsUptoSaid : Prop := groupColumnsUptoRow.holds Tryd.pinned (OpenSpec.upto groupColumnsSpec)

/-- 'quillpenlaw28.PatchComposes', WHERE WHAT IT READS IS OF BULK AT MOST 1048576: true; the input reads as it did. -/
def patchComposesUptoRow : OpenClaim := { program := "ytfmbjaeppffdpaadoor", sum := "c0ad79ae9a77b4a8526c9f935ef93e7ddafd4b56ddef6a3f0ab78446e88e997c", func := "quillpen/quillpenlaw28.PatchComposes", spec := "patchComposes", unfollowed := true, recurses := true, named := ["internal/strconv.uint64pow10", "math/bits.deBruijn32tab", "math/bits.deBruijn64tab"], apart := false, laid := [("math/bits.deBruijn32tab", laid_math_bits_deBruijn32tab), ("math/bits.deBruijn64tab", laid_math_bits_deBruijn64tab), ("internal/strconv.uint64pow10", laid_internal_strconv_uint64pow10)], narrowed := true }
def PatchComposesUptoSaid : Prop := patchComposesUptoRow.holds Tryd.pinned (OpenSpec.upto patchComposesSpec)

/-- 'quillpenlaw28.PatchSame', WHERE WHAT IT READS IS OF BULK AT MOST 1048576: true; the input reads as it did. -/
def patchSameUptoRow : OpenClaim := { program := "ytfmbjaeppffdpaadoor", sum := "c0ad79ae9a77b4a8526c9f935ef93e7ddafd4b56ddef6a3f0ab78446e88e997c", func := "quillpen/quillpenlaw28.PatchSame", spec := "patchSame", unfollowed := true, recurses := true, named := ["internal/strconv.uint64pow10", "math/bits.deBruijn32tab", "math/bits.deBruijn64tab"], apart := false, laid := [("math/bits.deBruijn32tab", laid_math_bits_deBruijn32tab), ("math/bits.deBruijn64tab", laid_math_bits_deBruijn64tab), ("internal/strconv.uint64pow10", laid_internal_strconv_uint64pow10)], narrowed := true }
def PatchSameUptoSaid : Prop := patchSameUptoRow.holds Tryd.pinned (OpenSpec.upto patchSameSpec)

/-- 'quillpenlaw24.GroupCounts', WHERE WHAT IT READS IS OF BULK AT MOST 1048576: true; the input reads as it did. -/
def groupCountsUptoRow : OpenClaim := { program := "ytfmbjaeppffdpaadoor", sum := "c0ad79ae9a77b4a8526c9f935ef93e7ddafd4b56ddef6a3f0ab78446e88e997c", func := "quillpen/quillpenlaw24.GroupCounts", spec := "groupCounts", inPlace := ["math/bits.Add64"], unfollowed := true, recurses := true, named := ["internal/strconv.uint64pow10", "math/bits.deBruijn32tab", "math/bits.deBruijn64tab"], apart := false, laid := [("math/bits.deBruijn32tab", laid_math_bits_deBruijn32tab), ("math/bits.deBruijn64tab", laid_math_bits_deBruijn64tab), ("internal/strconv.uint64pow10", laid_internal_strconv_uint64pow10)], narrowed := true }
def GroupCountsUptoSaid : Prop := groupCountsUptoRow.holds Tryd.pinned (OpenSpec.upto groupCountsSpec)

/-- 'quillpenlaw28.PatchDiffs', WHERE WHAT IT READS IS OF BULK AT MOST 1048576: true; the input reads as it did. -/
def patchDiffsUptoRow : OpenClaim := { program := "ytfmbjaeppffdpaadoor", sum := "c0ad79ae9a77b4a8526c9f935ef93e7ddafd4b56ddef6a3f0ab78446e88e997c", func := "quillpen/quillpenlaw28.PatchDiffs", spec := "patchDiffs", unfollowed := true, recurses := true, named := ["internal/strconv.uint64pow10", "math/bits.deBruijn32tab", "math/bits.deBruijn64tab"], apart := false, laid := [("math/bits.deBruijn32tab", laid_math_bits_deBruijn32tab), ("math/bits.deBruijn64tab", laid_math_bits_deBruijn64tab), ("internal/strconv.uint64pow10", laid_internal_strconv_uint64pow10)], narrowed := true }
def PatchDiffsUptoSaid : Prop := patchDiffsUptoRow.holds Tryd.pinned (OpenSpec.upto patchDiffsSpec)

end Rows
end Go.Proofs.YtfmbjaeppffdpaaDoor
