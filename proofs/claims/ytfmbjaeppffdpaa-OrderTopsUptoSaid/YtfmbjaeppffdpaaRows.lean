/-
  NARROWER THAN 'FOR EVERY INPUT', by the rows' own cells (each row's printed sentence says how): QueryChecks: loops · QueryHolds: loops · QuerySelects: loops · QuerySame: loops.
  DERIVED. THE GIVEN ROWS OF THIS SEAT. 9 by the template 'for every input the law returns true; each argument reads behind the call as it read before'; 0 by the template 'total and deterministic' (their statements: YtfmbjaeppffdpaaTotals.lean).
  GIVEN WITH THE SEED: the statements are not yours to turn. If you find one false, say at which input.
  Laid BY PROGRAM, IN A SANDBOX (cutbox-rows.mjs): the forced cells as the released guide's own fill.sh prints them over the translation 02c0de52dfd13466… (all of the seat's roots in one cut). By AI agents, Wed Nov 11 2026. No macro, syntax, notation, axiom, sorry.
-/
import Derived.Test.YtfmbjaeppffdpaaChecked
import GoSem.Claim
import GoSem.ClaimJoined
import GoSem.ClaimMapViews
import Derived.JoinedTies
import Derived.KernelRfl
namespace Go.Proofs.Ytfmbjaeppffdpaa
/- THE CELL 'sum', in the pinned program and in every row, IS THE sha256 OF THE DUMP (.gsa) THAT YtfmbjaeppffdpaaProg.lean LOADS. Nothing in Lean hashes anything: it is a label: what it is worth is what the hold of that sum in a sandbox is worth. -/
noncomputable def Try.pinned : Pinned := { name := "ytfmbjaeppffdpaa", sum := "02c0de52dfd134664263f6091d0d1d300a15e6774902ddb5d552de3773c85208", checked := Try.checked }
namespace Rows
def none {H : Type} : Left H := { results := [], args := [] }

/-- 'quillpenlaw21.QueryChecks': WHATEVER THE INPUT: true; the input reads as it did. -/
def queryChecksSpec : ChangeSpec := { name := "queryChecks", fn := fun _ => fun
  | [d1, d2] => { results := [.lit (.bool true)], args := [d1, d2] }
  | _ => none }
def queryChecksRow : OpenClaim := { program := "ytfmbjaeppffdpaa", sum := "02c0de52dfd134664263f6091d0d1d300a15e6774902ddb5d552de3773c85208", func := "quillpen/quillpenlaw21.QueryChecks", spec := "queryChecks", unfollowed := true, recurses := true, loops := true, apart := false }
def QueryChecksSaid : Prop := queryChecksRow.holds Try.pinned (OpenSpec.ofChange queryChecksSpec)

/-- ITS FALSE NEIGHBOUR: 'it returns false'. Refute it at one input. -/
def queryChecksWrong : ChangeSpec := { name := "queryChecks", fn := fun _ => fun
  | [d1, d2] => { results := [.lit (.bool false)], args := [d1, d2] }
  | _ => none }
def QueryChecksWrongFalsely : Prop := queryChecksRow.holds Try.pinned (OpenSpec.ofChange queryChecksWrong)

/-- 'quillpenlaw21.QueryHolds': WHATEVER THE INPUT: true; the input reads as it did. -/
def queryHoldsSpec : ChangeSpec := { name := "queryHolds", fn := fun _ => fun
  | [d1, d2, d3] => { results := [.lit (.bool true)], args := [d1, d2, d3] }
  | _ => none }
def queryHoldsRow : OpenClaim := { program := "ytfmbjaeppffdpaa", sum := "02c0de52dfd134664263f6091d0d1d300a15e6774902ddb5d552de3773c85208", func := "quillpen/quillpenlaw21.QueryHolds", spec := "queryHolds", unfollowed := true, recurses := true, loops := true, apart := false }
def QueryHoldsSaid : Prop := queryHoldsRow.holds Try.pinned (OpenSpec.ofChange queryHoldsSpec)

/-- ITS FALSE NEIGHBOUR: 'it returns false'. Refute it at one input. -/
def queryHoldsWrong : ChangeSpec := { name := "queryHolds", fn := fun _ => fun
  | [d1, d2, d3] => { results := [.lit (.bool false)], args := [d1, d2, d3] }
  | _ => none }
def QueryHoldsWrongFalsely : Prop := queryHoldsRow.holds Try.pinned (OpenSpec.ofChange queryHoldsWrong)

/-- 'quillpenlaw21.QuerySelects': WHATEVER THE INPUT: true; the input reads as it did. -/
def querySelectsSpec : ChangeSpec := { name := "querySelects", fn := fun _ => fun
  | [d1, d2, d3] => { results := [.lit (.bool true)], args := [d1, d2, d3] }
  | _ => none }
def querySelectsRow : OpenClaim := { program := "ytfmbjaeppffdpaa", sum := "02c0de52dfd134664263f6091d0d1d300a15e6774902ddb5d552de3773c85208", func := "quillpen/quillpenlaw21.QuerySelects", spec := "querySelects", unfollowed := true, recurses := true, loops := true, apart := false }
def QuerySelectsSaid : Prop := querySelectsRow.holds Try.pinned (OpenSpec.ofChange querySelectsSpec)

/-- ITS FALSE NEIGHBOUR: 'it returns false'. Refute it at one input. -/
def querySelectsWrong : ChangeSpec := { name := "querySelects", fn := fun _ => fun
  | [d1, d2, d3] => { results := [.lit (.bool false)], args := [d1, d2, d3] }
  | _ => none }
def QuerySelectsWrongFalsely : Prop := querySelectsRow.holds Try.pinned (OpenSpec.ofChange querySelectsWrong)

/-- 'quillpenlaw21.QuerySame': WHATEVER THE INPUT: true; the input reads as it did. -/
def querySameSpec : ChangeSpec := { name := "querySame", fn := fun _ => fun
  | [d1, d2] => { results := [.lit (.bool true)], args := [d1, d2] }
  | _ => none }
def querySameRow : OpenClaim := { program := "ytfmbjaeppffdpaa", sum := "02c0de52dfd134664263f6091d0d1d300a15e6774902ddb5d552de3773c85208", func := "quillpen/quillpenlaw21.QuerySame", spec := "querySame", unfollowed := true, recurses := true, loops := true, apart := false }
def QuerySameSaid : Prop := querySameRow.holds Try.pinned (OpenSpec.ofChange querySameSpec)

/-- ITS FALSE NEIGHBOUR: 'it returns false'. Refute it at one input. -/
def querySameWrong : ChangeSpec := { name := "querySame", fn := fun _ => fun
  | [d1, d2] => { results := [.lit (.bool false)], args := [d1, d2] }
  | _ => none }
def QuerySameWrongFalsely : Prop := querySameRow.holds Try.pinned (OpenSpec.ofChange querySameWrong)

/-- 'quillpenlaw22.OrderChecks': WHATEVER THE INPUT: true; the input reads as it did. -/
def orderChecksSpec : ChangeSpec := { name := "orderChecks", fn := fun _ => fun
  | [d] => { results := [.lit (.bool true)], args := [d] }
  | _ => none }
def orderChecksRow : OpenClaim := { program := "ytfmbjaeppffdpaa", sum := "02c0de52dfd134664263f6091d0d1d300a15e6774902ddb5d552de3773c85208", func := "quillpen/quillpenlaw22.OrderChecks", spec := "orderChecks", unfollowed := true, recurses := true, apart := false }
def OrderChecksSaid : Prop := orderChecksRow.holds Try.pinned (OpenSpec.ofChange orderChecksSpec)

/-- ITS FALSE NEIGHBOUR: 'it returns false'. Refute it at one input. -/
def orderChecksWrong : ChangeSpec := { name := "orderChecks", fn := fun _ => fun
  | [d] => { results := [.lit (.bool false)], args := [d] }
  | _ => none }
def OrderChecksWrongFalsely : Prop := orderChecksRow.holds Try.pinned (OpenSpec.ofChange orderChecksWrong)

/-- 'quillpenlaw22.OrderSorts': WHATEVER THE INPUT: true; the input reads as it did. -/
def orderSortsSpec : ChangeSpec := { name := "orderSorts", fn := fun _ => fun
  | [d] => { results := [.lit (.bool true)], args := [d] }
  | _ => none }
def orderSortsRow : OpenClaim := { program := "ytfmbjaeppffdpaa", sum := "02c0de52dfd134664263f6091d0d1d300a15e6774902ddb5d552de3773c85208", func := "quillpen/quillpenlaw22.OrderSorts", spec := "orderSorts", unfollowed := true, recurses := true, apart := false }
def OrderSortsSaid : Prop := orderSortsRow.holds Try.pinned (OpenSpec.ofChange orderSortsSpec)

/-- ITS FALSE NEIGHBOUR: 'it returns false'. Refute it at one input. -/
def orderSortsWrong : ChangeSpec := { name := "orderSorts", fn := fun _ => fun
  | [d] => { results := [.lit (.bool false)], args := [d] }
  | _ => none }
def OrderSortsWrongFalsely : Prop := orderSortsRow.holds Try.pinned (OpenSpec.ofChange orderSortsWrong)

/-- 'quillpenlaw22.OrderCompares': WHATEVER THE INPUT: true; the input reads as it did. -/
def orderComparesSpec : ChangeSpec := { name := "orderCompares", fn := fun _ => fun
  | [d] => { results := [.lit (.bool true)], args := [d] }
  | _ => none }
def orderComparesRow : OpenClaim := { program := "ytfmbjaeppffdpaa", sum := "02c0de52dfd134664263f6091d0d1d300a15e6774902ddb5d552de3773c85208", func := "quillpen/quillpenlaw22.OrderCompares", spec := "orderCompares", unfollowed := true, recurses := true, apart := false }
def OrderComparesSaid : Prop := orderComparesRow.holds Try.pinned (OpenSpec.ofChange orderComparesSpec)

/-- ITS FALSE NEIGHBOUR: 'it returns false'. Refute it at one input. -/
def orderComparesWrong : ChangeSpec := { name := "orderCompares", fn := fun _ => fun
  | [d] => { results := [.lit (.bool false)], args := [d] }
  | _ => none }
def OrderComparesWrongFalsely : Prop := orderComparesRow.holds Try.pinned (OpenSpec.ofChange orderComparesWrong)

/-- 'quillpenlaw22.OrderTops': WHATEVER THE INPUT: true; the input reads as it did. -/
def orderTopsSpec : ChangeSpec := { name := "orderTops", fn := fun _ => fun
  | [d1, d2] => { results := [.lit (.bool true)], args := [d1, d2] }
  | _ => none }
def orderTopsRow : OpenClaim := { program := "ytfmbjaeppffdpaa", sum := "02c0de52dfd134664263f6091d0d1d300a15e6774902ddb5d552de3773c85208", func := "quillpen/quillpenlaw22.OrderTops", spec := "orderTops", unfollowed := true, recurses := true, apart := false }
def OrderTopsSaid : Prop := orderTopsRow.holds Try.pinned (OpenSpec.ofChange orderTopsSpec)

/-- ITS FALSE NEIGHBOUR: 'it returns false'. Refute it at one input. -/
def orderTopsWrong : ChangeSpec := { name := "orderTops", fn := fun _ => fun
  | [d1, d2] => { results := [.lit (.bool false)], args := [d1, d2] }
  | _ => none }
def OrderTopsWrongFalsely : Prop := orderTopsRow.holds Try.pinned (OpenSpec.ofChange orderTopsWrong)

/-- 'quillpenlaw22.OrderMerges': WHATEVER THE INPUT: true; the input reads as it did. -/
def orderMergesSpec : ChangeSpec := { name := "orderMerges", fn := fun _ => fun
  | [d1, d2] => { results := [.lit (.bool true)], args := [d1, d2] }
  | _ => none }
def orderMergesRow : OpenClaim := { program := "ytfmbjaeppffdpaa", sum := "02c0de52dfd134664263f6091d0d1d300a15e6774902ddb5d552de3773c85208", func := "quillpen/quillpenlaw22.OrderMerges", spec := "orderMerges", unfollowed := true, recurses := true, apart := false }
def OrderMergesSaid : Prop := orderMergesRow.holds Try.pinned (OpenSpec.ofChange orderMergesSpec)

/-- ITS FALSE NEIGHBOUR: 'it returns false'. Refute it at one input. -/
def orderMergesWrong : ChangeSpec := { name := "orderMerges", fn := fun _ => fun
  | [d1, d2] => { results := [.lit (.bool false)], args := [d1, d2] }
  | _ => none }
def OrderMergesWrongFalsely : Prop := orderMergesRow.holds Try.pinned (OpenSpec.ofChange orderMergesWrong)

/- THE SECOND FORM. 'bulk': how many values and letters a reading holds, each counted each time it is reached (what is shared counts as often as it is met; a slice's spare places count too). A statement '..UptoSaid' is the law's where the arguments, and the package variables that the reading takes, are together of bulk at most 1048576: NARROWER than '..Said'. Prove '..Said' where nothing that the law and all that it calls make is longer than what came in: it says more and counts as full. Else prove '..UptoSaid'. A law counts once. -/
mutual
def uptoBulk {H : Type} : DataW H → Nat
  | .lit (.string bytes) => bytes.length + 1
  | .lit _ => 1
  | .nil => 1
  | .ptr d => uptoBulk d + 1
  | .slice elems spare => uptoBulkAll elems + uptoBulkAll spare + 1
  | .agg parts => uptoBulkAll parts + 1
  | .iface _ d => uptoBulk d + 1
  | .map entries => uptoBulkEntries entries + 1
  | .held _ => 1
def uptoBulkAll {H : Type} : List (DataW H) → Nat
  | [] => 0
  | d :: r => uptoBulk d + uptoBulkAll r
def uptoBulkEntries {H : Type} : List (Lit × DataW H) → Nat
  | [] => 0
  | x :: r => uptoBulkEntry x + uptoBulkEntries r
def uptoBulkEntry {H : Type} : Lit × DataW H → Nat
  | (.string bytes, d) => bytes.length + uptoBulk d + 1
  | (_, d) => uptoBulk d + 1
 end
def uptoSmall : (H : Type) → List (DataW H) → Bool := fun _ ds => decide (uptoBulkAll ds ≤ 1048576)
def OpenSpec.upto (s : _root_.Go.ChangeSpec) : _root_.Go.OpenSpec := { _root_.Go.OpenSpec.ofChange s with cond := some uptoSmall }

/-- 'quillpenlaw21.QueryChecks', WHERE WHAT IT READS IS OF BULK AT MOST 1048576: true; the input reads as it did. -/
def queryChecksUptoRow : OpenClaim := { program := "ytfmbjaeppffdpaa", sum := "02c0de52dfd134664263f6091d0d1d300a15e6774902ddb5d552de3773c85208", func := "quillpen/quillpenlaw21.QueryChecks", spec := "queryChecks", unfollowed := true, recurses := true, loops := true, apart := false, narrowed := true }
def QueryChecksUptoSaid : Prop := queryChecksUptoRow.holds Try.pinned (OpenSpec.upto queryChecksSpec)

/-- 'quillpenlaw21.QueryHolds', WHERE WHAT IT READS IS OF BULK AT MOST 1048576: true; the input reads as it did. -/
def queryHoldsUptoRow : OpenClaim := { program := "ytfmbjaeppffdpaa", sum := "02c0de52dfd134664263f6091d0d1d300a15e6774902ddb5d552de3773c85208", func := "quillpen/quillpenlaw21.QueryHolds", spec := "queryHolds", unfollowed := true, recurses := true, loops := true, apart := false, narrowed := true }
def QueryHoldsUptoSaid : Prop := queryHoldsUptoRow.holds Try.pinned (OpenSpec.upto queryHoldsSpec)

/-- 'quillpenlaw21.QuerySelects', WHERE WHAT IT READS IS OF BULK AT MOST 1048576: true; the input reads as it did. -/
def querySelectsUptoRow : OpenClaim := { program := "ytfmbjaeppffdpaa", sum := "02c0de52dfd134664263f6091d0d1d300a15e6774902ddb5d552de3773c85208", func := "quillpen/quillpenlaw21.QuerySelects", spec := "querySelects", unfollowed := true, recurses := true, loops := true, apart := false, narrowed := true }
def QuerySelectsUptoSaid : Prop := querySelectsUptoRow.holds Try.pinned (OpenSpec.upto querySelectsSpec)

/-- 'quillpenlaw21.QuerySame', WHERE WHAT IT READS IS OF BULK AT MOST 1048576: true; the input reads as it did. -/
def querySameUptoRow : OpenClaim := { program := "ytfmbjaeppffdpaa", sum := "02c0de52dfd134664263f6091d0d1d300a15e6774902ddb5d552de3773c85208", func := "quillpen/quillpenlaw21.QuerySame", spec := "querySame", unfollowed := true, recurses := true, loops := true, apart := false, narrowed := true }
def QuerySameUptoSaid : Prop := querySameUptoRow.holds Try.pinned (OpenSpec.upto querySameSpec)

/-- 'quillpenlaw22.OrderChecks', WHERE WHAT IT READS IS OF BULK AT MOST 1048576: true; the input reads as it did. -/
def orderChecksUptoRow : OpenClaim := { program := "ytfmbjaeppffdpaa", sum := "02c0de52dfd134664263f6091d0d1d300a15e6774902ddb5d552de3773c85208", func := "quillpen/quillpenlaw22.OrderChecks", spec := "orderChecks", unfollowed := true, recurses := true, apart := false, narrowed := true }
def OrderChecksUptoSaid : Prop := orderChecksUptoRow.holds Try.pinned (OpenSpec.upto orderChecksSpec)

/-- 'quillpenlaw22.OrderSorts', WHERE WHAT IT READS IS OF BULK AT MOST 1048576: true; the input reads as it did. -/
def orderSortsUptoRow : OpenClaim := { program := "ytfmbjaeppffdpaa", sum := "02c0de52dfd134664263f6091d0d1d300a15e6774902ddb5d552de3773c85208", func := "quillpen/quillpenlaw22.OrderSorts", spec := "orderSorts", unfollowed := true, recurses := true, apart := false, narrowed := true }
def OrderSortsUptoSaid : Prop := orderSortsUptoRow.holds Try.pinned (OpenSpec.upto orderSortsSpec)

/-- 'quillpenlaw22.OrderCompares', WHERE WHAT IT READS IS OF BULK AT MOST 1048576: true; the input reads as it did. -/
def orderComparesUptoRow : OpenClaim := { program := "ytfmbjaeppffdpaa", sum := "02c0de52dfd134664263f6091d0d1d300a15e6774902ddb5d552de3773c85208", func := "quillpen/quillpenlaw22.OrderCompares", spec := "orderCompares", unfollowed := true, recurses := true, apart := false, narrowed := true }
def OrderComparesUptoSaid : Prop := orderComparesUptoRow.holds Try.pinned (OpenSpec.upto orderComparesSpec)

/-- 'quillpenlaw22.OrderTops', WHERE WHAT IT READS IS OF BULK AT MOST 1048576: true; the input reads as it did. -/
def orderTopsUptoRow : OpenClaim := { program := "ytfmbjaeppffdpaa", sum := "02c0de52dfd134664263f6091d0d1d300a15e6774902ddb5d552de3773c85208", func := "quillpen/quillpenlaw22.OrderTops", spec := "orderTops", unfollowed := true, recurses := true, apart := false, narrowed := true }
def OrderTopsUptoSaid : Prop := orderTopsUptoRow.holds Try.pinned (OpenSpec.upto orderTopsSpec)

/-- 'quillpenlaw22.OrderMerges', WHERE WHAT IT READS IS OF BULK AT MOST 1048576: true; the input reads as it did. -/
def orderMergesUptoRow : OpenClaim := { program := "ytfmbjaeppffdpaa", sum := "02c0de52dfd134664263f6091d0d1d300a15e6774902ddb5d552de3773c85208", func := "quillpen/quillpenlaw22.OrderMerges", spec := "orderMerges", unfollowed := true, recurses := true, apart := false, narrowed := true }
def OrderMergesUptoSaid : Prop := orderMergesUptoRow.holds Try.pinned (OpenSpec.upto orderMergesSpec)

end Rows
end Go.Proofs.Ytfmbjaeppffdpaa
