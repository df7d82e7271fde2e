/-
  NARROWER THAN 'FOR EVERY INPUT', by the rows' own cells (each row's printed sentence says how): TopWhere: loops, laid · TopGroups: laid · TopJoins: laid · PlayOne: loops, laid · PlayRuns: loops, laid · PlayParts: loops, laid · PlayColumns: loops, laid.
  DERIVED. THE GIVEN ROWS OF THIS SEAT. 7 by the template 'for every input the law returns true; each argument reads behind the call as it read before'; 0 by the template 'total and deterministic' (their statements: YtfmbjaeppffdpaaGreatDoorTotals.lean).
  GIVEN WITH THE SEED: the statements are not yours to turn. If you find one false, say at which input.
  Laid BY PROGRAM, IN A SANDBOX (cutbox-rows.mjs): the forced cells as the released guide's own fill.sh prints them over the translation f8134527761e7f89… (all of the seat's roots in one cut). By AI agents, Wed Nov 11 2026. No macro, syntax, notation, axiom, sorry.
-/
import Derived.Test.YtfmbjaeppffdpaaGreatDoorChecked
import GoSem.Claim
import GoSem.ClaimJoined
import GoSem.ClaimMapViews
import Derived.JoinedTies
import Derived.KernelRfl
namespace Go.Proofs.YtfmbjaeppffdpaaGreatDoor
/- THE CELL 'sum', in the pinned program and in every row, IS THE sha256 OF THE DUMP (.gsa) THAT YtfmbjaeppffdpaaGreatDoorProg.lean LOADS. Nothing in Lean hashes anything: it is a label: what it is worth is what the hold of that sum in a sandbox is worth. -/
noncomputable def Tryz.pinned : Pinned := { name := "ytfmbjaeppffdpaagreatdoor", sum := "f8134527761e7f891da1ff30cbc024b8da76541c94f51e7e156077a99c4ec406", checked := Tryz.checked }
namespace Rows
def none {H : Type} : Left H := { results := [], args := [] }

/- WHAT THE LISTED PACKAGE-LEVEL VARIABLES READ AS WHEN THE CALL BEGINS. Each datum BY PROGRAM (the guide's laid-datum.mjs) off the statement by which the dump's own 'gosem.cut.vars' lays the variable. In a bare row this is a premise. The card (YtfmbjaeppffdpaaGreatDoorCards.lean) ties it to the program's text. -/
def laid_math_bits_deBruijn32tab {H : Type} : DataW H := .agg [.lit (.int .u8 0), .lit (.int .u8 1), .lit (.int .u8 28), .lit (.int .u8 2), .lit (.int .u8 29), .lit (.int .u8 14), .lit (.int .u8 24), .lit (.int .u8 3), .lit (.int .u8 30), .lit (.int .u8 22), .lit (.int .u8 20), .lit (.int .u8 15), .lit (.int .u8 25), .lit (.int .u8 17), .lit (.int .u8 4), .lit (.int .u8 8), .lit (.int .u8 31), .lit (.int .u8 27), .lit (.int .u8 13), .lit (.int .u8 23), .lit (.int .u8 21), .lit (.int .u8 19), .lit (.int .u8 16), .lit (.int .u8 7), .lit (.int .u8 26), .lit (.int .u8 12), .lit (.int .u8 18), .lit (.int .u8 6), .lit (.int .u8 11), .lit (.int .u8 5), .lit (.int .u8 10), .lit (.int .u8 9)]
def laid_math_bits_deBruijn64tab {H : Type} : DataW H := .agg [.lit (.int .u8 0), .lit (.int .u8 1), .lit (.int .u8 56), .lit (.int .u8 2), .lit (.int .u8 57), .lit (.int .u8 49), .lit (.int .u8 28), .lit (.int .u8 3), .lit (.int .u8 61), .lit (.int .u8 58), .lit (.int .u8 42), .lit (.int .u8 50), .lit (.int .u8 38), .lit (.int .u8 29), .lit (.int .u8 17), .lit (.int .u8 4), .lit (.int .u8 62), .lit (.int .u8 47), .lit (.int .u8 59), .lit (.int .u8 36), .lit (.int .u8 45), .lit (.int .u8 43), .lit (.int .u8 51), .lit (.int .u8 22), .lit (.int .u8 53), .lit (.int .u8 39), .lit (.int .u8 33), .lit (.int .u8 30), .lit (.int .u8 24), .lit (.int .u8 18), .lit (.int .u8 12), .lit (.int .u8 5), .lit (.int .u8 63), .lit (.int .u8 55), .lit (.int .u8 48), .lit (.int .u8 27), .lit (.int .u8 60), .lit (.int .u8 41), .lit (.int .u8 37), .lit (.int .u8 16), .lit (.int .u8 46), .lit (.int .u8 35), .lit (.int .u8 44), .lit (.int .u8 21), .lit (.int .u8 52), .lit (.int .u8 32), .lit (.int .u8 23), .lit (.int .u8 11), .lit (.int .u8 54), .lit (.int .u8 26), .lit (.int .u8 40), .lit (.int .u8 15), .lit (.int .u8 34), .lit (.int .u8 20), .lit (.int .u8 31), .lit (.int .u8 10), .lit (.int .u8 25), .lit (.int .u8 14), .lit (.int .u8 19), .lit (.int .u8 9), .lit (.int .u8 13), .lit (.int .u8 8), .lit (.int .u8 7), .lit (.int .u8 6)]
def laid_internal_strconv_uint64pow10 {H : Type} : DataW H := .agg [.lit (.int .u64 1), .lit (.int .u64 10), .lit (.int .u64 100), .lit (.int .u64 1000), .lit (.int .u64 10000), .lit (.int .u64 100000), .lit (.int .u64 1000000), .lit (.int .u64 10000000), .lit (.int .u64 100000000), .lit (.int .u64 1000000000), .lit (.int .u64 10000000000), .lit (.int .u64 100000000000), .lit (.int .u64 1000000000000), .lit (.int .u64 10000000000000), .lit (.int .u64 100000000000000), .lit (.int .u64 1000000000000000), .lit (.int .u64 10000000000000000), .lit (.int .u64 100000000000000000), .lit (.int .u64 1000000000000000000), .lit (.int .u64 10000000000000000000)]

/-- 'quillpentop.TopWhere': WHATEVER THE INPUT: true; the input reads as it did. -/
def topWhereSpec : ChangeSpec := { name := "topWhere", fn := fun _ => fun
  | [d1, d2, d3] => { results := [.lit (.bool true)], args := [d1, d2, d3] }
  | _ => none }
def topWhereRow : OpenClaim := { program := "ytfmbjaeppffdpaagreatdoor", sum := "f8134527761e7f891da1ff30cbc024b8da76541c94f51e7e156077a99c4ec406", func := "quillpen/quillpentop.TopWhere", spec := "topWhere", inPlace := ["math/bits.Add64"], unfollowed := true, recurses := true, named := ["internal/strconv.uint64pow10", "math/bits.deBruijn32tab", "math/bits.deBruijn64tab"], loops := true, apart := false, laid := [("math/bits.deBruijn32tab", laid_math_bits_deBruijn32tab), ("math/bits.deBruijn64tab", laid_math_bits_deBruijn64tab), ("internal/strconv.uint64pow10", laid_internal_strconv_uint64pow10)] }
def TopWhereSaid : Prop := topWhereRow.holds Tryz.pinned (OpenSpec.ofChange topWhereSpec)

/-- ITS FALSE NEIGHBOUR: 'it returns false'. Refute it at one input. -/
def topWhereWrong : ChangeSpec := { name := "topWhere", fn := fun _ => fun
  | [d1, d2, d3] => { results := [.lit (.bool false)], args := [d1, d2, d3] }
  | _ => none }
def TopWhereWrongFalsely : Prop := topWhereRow.holds Tryz.pinned (OpenSpec.ofChange topWhereWrong)

/-- 'quillpentop.TopGroups': WHATEVER THE INPUT: true; the input reads as it did. -/
def topGroupsSpec : ChangeSpec := { name := "topGroups", fn := fun _ => fun
  | [d1, d2] => { results := [.lit (.bool true)], args := [d1, d2] }
  | _ => none }
def topGroupsRow : OpenClaim := { program := "ytfmbjaeppffdpaagreatdoor", sum := "f8134527761e7f891da1ff30cbc024b8da76541c94f51e7e156077a99c4ec406", func := "quillpen/quillpentop.TopGroups", spec := "topGroups", inPlace := ["math/bits.Add64"], unfollowed := true, recurses := true, named := ["internal/strconv.uint64pow10", "math/bits.deBruijn32tab", "math/bits.deBruijn64tab"], apart := false, laid := [("math/bits.deBruijn32tab", laid_math_bits_deBruijn32tab), ("math/bits.deBruijn64tab", laid_math_bits_deBruijn64tab), ("internal/strconv.uint64pow10", laid_internal_strconv_uint64pow10)] }
def TopGroupsSaid : Prop := topGroupsRow.holds Tryz.pinned (OpenSpec.ofChange topGroupsSpec)

/-- ITS FALSE NEIGHBOUR: 'it returns false'. Refute it at one input. -/
def topGroupsWrong : ChangeSpec := { name := "topGroups", fn := fun _ => fun
  | [d1, d2] => { results := [.lit (.bool false)], args := [d1, d2] }
  | _ => none }
def TopGroupsWrongFalsely : Prop := topGroupsRow.holds Tryz.pinned (OpenSpec.ofChange topGroupsWrong)

/-- 'quillpentop.TopJoins': WHATEVER THE INPUT: true; the input reads as it did. -/
def topJoinsSpec : ChangeSpec := { name := "topJoins", fn := fun _ => fun
  | [d] => { results := [.lit (.bool true)], args := [d] }
  | _ => none }
def topJoinsRow : OpenClaim := { program := "ytfmbjaeppffdpaagreatdoor", sum := "f8134527761e7f891da1ff30cbc024b8da76541c94f51e7e156077a99c4ec406", func := "quillpen/quillpentop.TopJoins", spec := "topJoins", inPlace := ["math/bits.Add64"], unfollowed := true, recurses := true, named := ["internal/strconv.uint64pow10", "math/bits.deBruijn32tab", "math/bits.deBruijn64tab"], apart := false, laid := [("math/bits.deBruijn32tab", laid_math_bits_deBruijn32tab), ("math/bits.deBruijn64tab", laid_math_bits_deBruijn64tab), ("internal/strconv.uint64pow10", laid_internal_strconv_uint64pow10)] }
def TopJoinsSaid : Prop := topJoinsRow.holds Tryz.pinned (OpenSpec.ofChange topJoinsSpec)

/-- ITS FALSE NEIGHBOUR: 'it returns false'. Refute it at one input. -/
def topJoinsWrong : ChangeSpec := { name := "topJoins", fn := fun _ => fun
  | [d] => { results := [.lit (.bool false)], args := [d] }
  | _ => none }
def TopJoinsWrongFalsely : Prop := topJoinsRow.holds Tryz.pinned (OpenSpec.ofChange topJoinsWrong)

/-- 'quillpenlaw29.PlayOne': WHATEVER THE INPUT: true; the input reads as it did. -/
def playOneSpec : ChangeSpec := { name := "playOne", fn := fun _ => fun
  | [d1, d2] => { results := [.lit (.bool true)], args := [d1, d2] }
  | _ => none }
def playOneRow : OpenClaim := { program := "ytfmbjaeppffdpaagreatdoor", sum := "f8134527761e7f891da1ff30cbc024b8da76541c94f51e7e156077a99c4ec406", func := "quillpen/quillpenlaw29.PlayOne", spec := "playOne", inPlace := ["math/bits.Add64"], unfollowed := true, recurses := true, named := ["internal/strconv.uint64pow10", "math/bits.deBruijn32tab", "math/bits.deBruijn64tab"], loops := true, apart := false, laid := [("math/bits.deBruijn32tab", laid_math_bits_deBruijn32tab), ("math/bits.deBruijn64tab", laid_math_bits_deBruijn64tab), ("internal/strconv.uint64pow10", laid_internal_strconv_uint64pow10)] }
def PlayOneSaid : Prop := playOneRow.holds Tryz.pinned (OpenSpec.ofChange playOneSpec)

/-- ITS FALSE NEIGHBOUR: 'it returns false'. Refute it at one input. -/
def playOneWrong : ChangeSpec := { name := "playOne", fn := fun _ => fun
  | [d1, d2] => { results := [.lit (.bool false)], args := [d1, d2] }
  | _ => none }
def PlayOneWrongFalsely : Prop := playOneRow.holds Tryz.pinned (OpenSpec.ofChange playOneWrong)

/-- 'quillpenlaw29.PlayRuns': WHATEVER THE INPUT: true; the input reads as it did. -/
def playRunsSpec : ChangeSpec := { name := "playRuns", fn := fun _ => fun
  | [d1, d2] => { results := [.lit (.bool true)], args := [d1, d2] }
  | _ => none }
def playRunsRow : OpenClaim := { program := "ytfmbjaeppffdpaagreatdoor", sum := "f8134527761e7f891da1ff30cbc024b8da76541c94f51e7e156077a99c4ec406", func := "quillpen/quillpenlaw29.PlayRuns", spec := "playRuns", inPlace := ["math/bits.Add64"], unfollowed := true, recurses := true, named := ["internal/strconv.uint64pow10", "math/bits.deBruijn32tab", "math/bits.deBruijn64tab"], loops := true, apart := false, laid := [("math/bits.deBruijn32tab", laid_math_bits_deBruijn32tab), ("math/bits.deBruijn64tab", laid_math_bits_deBruijn64tab), ("internal/strconv.uint64pow10", laid_internal_strconv_uint64pow10)] }
def PlayRunsSaid : Prop := playRunsRow.holds Tryz.pinned (OpenSpec.ofChange playRunsSpec)

/-- ITS FALSE NEIGHBOUR: 'it returns false'. Refute it at one input. -/
def playRunsWrong : ChangeSpec := { name := "playRuns", fn := fun _ => fun
  | [d1, d2] => { results := [.lit (.bool false)], args := [d1, d2] }
  | _ => none }
def PlayRunsWrongFalsely : Prop := playRunsRow.holds Tryz.pinned (OpenSpec.ofChange playRunsWrong)

/-- 'quillpenlaw29.PlayParts': WHATEVER THE INPUT: true; the input reads as it did. -/
def playPartsSpec : ChangeSpec := { name := "playParts", fn := fun _ => fun
  | [d1, d2, d3] => { results := [.lit (.bool true)], args := [d1, d2, d3] }
  | _ => none }
def playPartsRow : OpenClaim := { program := "ytfmbjaeppffdpaagreatdoor", sum := "f8134527761e7f891da1ff30cbc024b8da76541c94f51e7e156077a99c4ec406", func := "quillpen/quillpenlaw29.PlayParts", spec := "playParts", inPlace := ["math/bits.Add64"], unfollowed := true, recurses := true, named := ["internal/strconv.uint64pow10", "math/bits.deBruijn32tab", "math/bits.deBruijn64tab"], loops := true, apart := false, laid := [("math/bits.deBruijn32tab", laid_math_bits_deBruijn32tab), ("math/bits.deBruijn64tab", laid_math_bits_deBruijn64tab), ("internal/strconv.uint64pow10", laid_internal_strconv_uint64pow10)] }
def PlayPartsSaid : Prop := playPartsRow.holds Tryz.pinned (OpenSpec.ofChange playPartsSpec)

/-- ITS FALSE NEIGHBOUR: 'it returns false'. Refute it at one input. -/
def playPartsWrong : ChangeSpec := { name := "playParts", fn := fun _ => fun
  | [d1, d2, d3] => { results := [.lit (.bool false)], args := [d1, d2, d3] }
  | _ => none }
def PlayPartsWrongFalsely : Prop := playPartsRow.holds Tryz.pinned (OpenSpec.ofChange playPartsWrong)

/-- 'quillpenlaw29.PlayColumns': WHATEVER THE INPUT: true; the input reads as it did. -/
def playColumnsSpec : ChangeSpec := { name := "playColumns", fn := fun _ => fun
  | [d1, d2] => { results := [.lit (.bool true)], args := [d1, d2] }
  | _ => none }
def playColumnsRow : OpenClaim := { program := "ytfmbjaeppffdpaagreatdoor", sum := "f8134527761e7f891da1ff30cbc024b8da76541c94f51e7e156077a99c4ec406", func := "quillpen/quillpenlaw29.PlayColumns", spec := "playColumns", inPlace := ["math/bits.Add64"], unfollowed := true, recurses := true, named := ["internal/strconv.uint64pow10", "math/bits.deBruijn32tab", "math/bits.deBruijn64tab"], loops := true, apart := false, laid := [("math/bits.deBruijn32tab", laid_math_bits_deBruijn32tab), ("math/bits.deBruijn64tab", laid_math_bits_deBruijn64tab), ("internal/strconv.uint64pow10", laid_internal_strconv_uint64pow10)] }
def PlayColumnsSaid : Prop := playColumnsRow.holds Tryz.pinned (OpenSpec.ofChange playColumnsSpec)

/-- ITS FALSE NEIGHBOUR: 'it returns false'. Refute it at one input. -/
def playColumnsWrong : ChangeSpec := { name := "playColumns", fn := fun _ => fun
  | [d1, d2] => { results := [.lit (.bool false)], args := [d1, d2] }
  | _ => none }
def PlayColumnsWrongFalsely : Prop := playColumnsRow.holds Tryz.pinned (OpenSpec.ofChange playColumnsWrong)

/- THE SECOND FORM. 'bulk': how many values and letters a reading holds, each counted each time it is reached (what is shared counts as often as it is met; a slice's spare places count too). A statement '..UptoSaid' is the law's where the arguments, and the package variables that the reading takes, are together of bulk at most 1048576: NARROWER than '..Said'. Prove '..Said' where nothing that the law and all that it calls make is longer than what came in: it says more and counts as full. Else prove '..UptoSaid'. A law counts once. -/
mutual
def uptoBulk {H : Type} : DataW H → Nat
  | .lit (.string bytes) => bytes.length + 1
  | .lit _ => 1
  | .nil => 1
  | .ptr d => uptoBulk d + 1
  | .slice elems spare => uptoBulkAll elems + uptoBulkAll spare + 1
  | .agg parts => uptoBulkAll parts + 1
  | .iface _ d => uptoBulk d + 1
  | .map entries => uptoBulkEntries entries + 1
  | .held _ => 1
def uptoBulkAll {H : Type} : List (DataW H) → Nat
  | [] => 0
  | d :: r => uptoBulk d + uptoBulkAll r
def uptoBulkEntries {H : Type} : List (Lit × DataW H) → Nat
  | [] => 0
  | x :: r => uptoBulkEntry x + uptoBulkEntries r
def uptoBulkEntry {H : Type} : Lit × DataW H → Nat
  | (.string bytes, d) => bytes.length + uptoBulk d + 1
  | (_, d) => uptoBulk d + 1
 end
def uptoSmall : (H : Type) → List (DataW H) → Bool := fun _ ds => decide (uptoBulkAll ds ≤ 1048576)
def OpenSpec.upto (s : _root_.Go.ChangeSpec) : _root_.Go.OpenSpec := { _root_.Go.OpenSpec.ofChange s with cond := some uptoSmall }

/-- 'quillpentop.TopWhere', WHERE WHAT IT READS IS OF BULK AT MOST 1048576: true; the input reads as it did. -/
def topWhereUptoRow : OpenClaim := { program := "ytfmbjaeppffdpaagreatdoor", sum := "f8134527761e7f891da1ff30cbc024b8da76541c94f51e7e156077a99c4ec406", func := "quillpen/quillpentop.TopWhere", spec := "topWhere", inPlace := ["math/bits.Add64"], unfollowed := true, recurses := true, named := ["internal/strconv.uint64pow10", "math/bits.deBruijn32tab", "math/bits.deBruijn64tab"], loops := true, apart := false, laid := [("math/bits.deBruijn32tab", laid_math_bits_deBruijn32tab), ("math/bits.deBruijn64tab", laid_math_bits_deBruijn64tab), ("internal/strconv.uint64pow10", laid_internal_strconv_uint64pow10)], narrowed := true }
def TopWhereUptoSaid : Prop := topWhereUptoRow.holds Tryz.pinned (OpenSpec.upto topWhereSpec)

/-- 'quillpentop.TopGroups', WHERE WHAT IT READS IS OF BULK AT MOST 1048576: true; the input reads as it did. -/
def topGroupsUptoRow : OpenClaim := { program := "ytfmbjaeppffdpaagreatdoor", sum := "f8134527761e7f891da1ff30cbc024b8da76541c94f51e7e156077a99c4ec406", func := "quillpen/quillpentop.TopGroups", spec := "topGroups", inPlace := ["math/bits.Add64"], unfollowed := true, recurses := true, named := ["internal/strconv.uint64pow10", "math/bits.deBruijn32tab", "math/bits.deBruijn64tab"], apart := false, laid := [("math/bits.deBruijn32tab", laid_math_bits_deBruijn32tab), ("math/bits.deBruijn64tab", laid_math_bits_deBruijn64tab), ("internal/strconv.uint64pow10", laid_internal_strconv_uint64pow10)], narrowed := true }
def TopGroupsUptoSaid : Prop := topGroupsUptoRow.holds Tryz.pinned (OpenSpec.upto topGroupsSpec)

/-- 'quillpentop.TopJoins', WHERE WHAT IT READS IS OF BULK AT MOST 1048576: true; the input reads as it did. -/
def topJoinsUptoRow : OpenClaim := { program := "ytfmbjaeppffdpaagreatdoor", sum := "f8134527761e7f891da1ff30cbc024b8da76541c94f51e7e156077a99c4ec406", func := "quillpen/quillpentop.TopJoins", spec := "topJoins", inPlace := ["math/bits.Add64"], unfollowed := true, recurses := true, named := ["internal/strconv.uint64pow10", "math/bits.deBruijn32tab", "math/bits.deBruijn64tab"], apart := false, laid := [("math/bits.deBruijn32tab", laid_math_bits_deBruijn32tab), ("math/bits.deBruijn64tab", laid_math_bits_deBruijn64tab), ("internal/strconv.uint64pow10", laid_internal_strconv_uint64pow10)], narrowed := true }
def TopJoinsUptoSaid : Prop := topJoinsUptoRow.holds Tryz.pinned (OpenSpec.upto topJoinsSpec)

/-- 'quillpenlaw29.PlayOne', WHERE WHAT IT READS IS OF BULK AT MOST 1048576: true; the input reads as it did. -/
def playOneUptoRow : OpenClaim := { program := "ytfmbjaeppffdpaagreatdoor", sum := "f8134527761e7f891da1ff30cbc024b8da76541c94f51e7e156077a99c4ec406", func := "quillpen/quillpenlaw29.PlayOne", spec := "playOne", inPlace := ["math/bits.Add64"], unfollowed := true, recurses := true, named := ["internal/strconv.uint64pow10", "math/bits.deBruijn32tab", "math/bits.deBruijn64tab"], loops := true, apart := false, laid := [("math/bits.deBruijn32tab", laid_math_bits_deBruijn32tab), ("math/bits.deBruijn64tab", laid_math_bits_deBruijn64tab), ("internal/strconv.uint64pow10", laid_internal_strconv_uint64pow10)], narrowed := true }
def PlayOneUptoSaid : Prop := playOneUptoRow.holds Tryz.pinned (OpenSpec.upto playOneSpec)

/-- 'quillpenlaw29.PlayRuns', WHERE WHAT IT READS IS OF BULK AT MOST 1048576: true; the input reads as it did. -/
def playRunsUptoRow : OpenClaim := { program := "ytfmbjaeppffdpaagreatdoor", sum := "f8134527761e7f891da1ff30cbc024b8da76541c94f51e7e156077a99c4ec406", func := "quillpen/quillpenlaw29.PlayRuns", spec := "playRuns", inPlace := ["math/bits.Add64"], unfollowed := true, recurses := true, named := ["internal/strconv.uint64pow10", "math/bits.deBruijn32tab", "math/bits.deBruijn64tab"], loops := true, apart := false, laid := [("math/bits.deBruijn32tab", laid_math_bits_deBruijn32tab), ("math/bits.deBruijn64tab", laid_math_bits_deBruijn64tab), ("internal/strconv.uint64pow10", laid_internal_strconv_uint64pow10)], narrowed := true }
def PlayRunsUptoSaid : Prop := playRunsUptoRow.holds Tryz.pinned (OpenSpec.upto playRunsSpec)

/-- 'quillpenlaw29.PlayParts', WHERE WHAT IT READS IS OF BULK AT MOST 1048576: true; the input reads as it did. -/
def playPartsUptoRow : OpenClaim := { program := "ytfmbjaeppffdpaagreatdoor", sum := "f8134527761e7f891da1ff30cbc024b8da76541c94f51e7e156077a99c4ec406", func := "quillpen/quillpenlaw29.PlayParts", spec := "playParts", inPlace := ["math/bits.Add64"], unfollowed := true, recurses := true, named := ["internal/strconv.uint64pow10", "math/bits.deBruijn32tab", "math/bits.deBruijn64tab"], loops := true, apart := false, laid := [("math/bits.deBruijn32tab", laid_math_bits_deBruijn32tab), ("math/bits.deBruijn64tab", laid_math_bits_deBruijn64tab), ("internal/strconv.uint64pow10", laid_internal_strconv_uint64pow10)], narrowed := true }
def PlayPartsUptoSaid : Prop := playPartsUptoRow.holds Tryz.pinned (OpenSpec.upto playPartsSpec)

/-- 'quillpenlaw29.PlayColumns', WHERE WHAT IT READS IS OF BULK AT MOST 1048576: true; the input reads as it did. -/
def playColumnsUptoRow : OpenClaim := { program := "ytfmbjaeppffdpaagreatdoor", sum := "f8134527761e7f891da1ff30cbc024b8da76541c94f51e7e156077a99c4ec406", func := "quillpen/quillpenlaw29.PlayColumns", spec := "playColumns", inPlace := ["math/bits.Add64"], unfollowed := true, recurses := true, named := ["internal/strconv.uint64pow10", "math/bits.deBruijn32tab", "math/bits.deBruijn64tab"], loops := true, apart := false, laid := [("math/bits.deBruijn32tab", laid_math_bits_deBruijn32tab), ("math/bits.deBruijn64tab", laid_math_bits_deBruijn64tab), ("internal/strconv.uint64pow10", laid_internal_strconv_uint64pow10)], narrowed := true }
def PlayColumnsUptoSaid : Prop := playColumnsUptoRow.holds Tryz.pinned (OpenSpec.upto playColumnsSpec)

end Rows
end Go.Proofs.YtfmbjaeppffdpaaGreatDoor
