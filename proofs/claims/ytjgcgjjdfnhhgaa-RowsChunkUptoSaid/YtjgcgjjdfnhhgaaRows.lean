/-
  No cell of these rows narrows 'for every input' (looked for: loops, veiled, ifaces, maps, wideKeys, modest, calm, conditions, laid).
  DERIVED. THE GIVEN ROWS OF THIS SEAT. 4 by the template 'for every input the law returns true; each argument reads behind the call as it read before'; 0 by the template 'total and deterministic' (their statements: YtjgcgjjdfnhhgaaTotals.lean).
  GIVEN WITH THE SEED: the statements are not yours to turn. If you find one false, say at which input.
  Laid BY PROGRAM, IN A SANDBOX (cutbox-rows.mjs): the forced cells as the released guide's own fill.sh prints them over the translation 43b2525e3ecca005… (all of the seat's roots in one cut). By AI agents, Wed Nov 11 2026. No macro, syntax, notation, axiom, sorry.
-/
import Derived.Test.YtjgcgjjdfnhhgaaChecked
import GoSem.Claim
import GoSem.ClaimJoined
import GoSem.ClaimMapViews
import Derived.JoinedTies
import Derived.KernelRfl
namespace Go.Proofs.Ytjgcgjjdfnhhgaa
/- THE CELL 'sum', in the pinned program and in every row, IS THE sha256 OF THE DUMP (.gsa) THAT YtjgcgjjdfnhhgaaProg.lean LOADS. Nothing in Lean hashes anything: it is a label: what it is worth is what the hold of that sum in a sandbox is worth. -/
noncomputable def Try.pinned : Pinned := { name := "ytjgcgjjdfnhhgaa", sum := "43b2525e3ecca0054a3332410a617df8bbe8c5336b31782cbff21b5c5cfae9a1", checked := Try.checked }
namespace Rows
def none {H : Type} : Left H := { results := [], args := [] }

/-- 'quillpenlaw14.RowsChunk': WHATEVER THE INPUT: true; the input reads as it did. -/
def rowsChunkSpec : ChangeSpec := { name := "rowsChunk", fn := fun _ => fun
  | [d1, d2] => { results := [.lit (.bool true)], args := [d1, d2] }
  | _ => none }
def rowsChunkRow : OpenClaim := { program := "ytjgcgjjdfnhhgaa", sum := "43b2525e3ecca0054a3332410a617df8bbe8c5336b31782cbff21b5c5cfae9a1", func := "quillpen/quillpenlaw14.RowsChunk", spec := "rowsChunk", unfollowed := true, recurses := true, apart := false }
def RowsChunkSaid : Prop := rowsChunkRow.holds Try.pinned (OpenSpec.ofChange rowsChunkSpec)

/-- ITS FALSE NEIGHBOUR: 'it returns false'. Refute it at one input. -/
def rowsChunkWrong : ChangeSpec := { name := "rowsChunk", fn := fun _ => fun
  | [d1, d2] => { results := [.lit (.bool false)], args := [d1, d2] }
  | _ => none }
def RowsChunkWrongFalsely : Prop := rowsChunkRow.holds Try.pinned (OpenSpec.ofChange rowsChunkWrong)

/-- 'quillpenlaw14.RowsKeep': WHATEVER THE INPUT: true; the input reads as it did. -/
def rowsKeepSpec : ChangeSpec := { name := "rowsKeep", fn := fun _ => fun
  | [d1, d2, d3] => { results := [.lit (.bool true)], args := [d1, d2, d3] }
  | _ => none }
def rowsKeepRow : OpenClaim := { program := "ytjgcgjjdfnhhgaa", sum := "43b2525e3ecca0054a3332410a617df8bbe8c5336b31782cbff21b5c5cfae9a1", func := "quillpen/quillpenlaw14.RowsKeep", spec := "rowsKeep", unfollowed := true, recurses := true, apart := false }
def RowsKeepSaid : Prop := rowsKeepRow.holds Try.pinned (OpenSpec.ofChange rowsKeepSpec)

/-- ITS FALSE NEIGHBOUR: 'it returns false'. Refute it at one input. -/
def rowsKeepWrong : ChangeSpec := { name := "rowsKeep", fn := fun _ => fun
  | [d1, d2, d3] => { results := [.lit (.bool false)], args := [d1, d2, d3] }
  | _ => none }
def RowsKeepWrongFalsely : Prop := rowsKeepRow.holds Try.pinned (OpenSpec.ofChange rowsKeepWrong)

/-- 'quillpenlaw14.RowsTake': WHATEVER THE INPUT: true; the input reads as it did. -/
def rowsTakeSpec : ChangeSpec := { name := "rowsTake", fn := fun _ => fun
  | [d1, d2] => { results := [.lit (.bool true)], args := [d1, d2] }
  | _ => none }
def rowsTakeRow : OpenClaim := { program := "ytjgcgjjdfnhhgaa", sum := "43b2525e3ecca0054a3332410a617df8bbe8c5336b31782cbff21b5c5cfae9a1", func := "quillpen/quillpenlaw14.RowsTake", spec := "rowsTake", unfollowed := true, recurses := true, apart := false }
def RowsTakeSaid : Prop := rowsTakeRow.holds Try.pinned (OpenSpec.ofChange rowsTakeSpec)

/-- ITS FALSE NEIGHBOUR: 'it returns false'. Refute it at one input. -/
def rowsTakeWrong : ChangeSpec := { name := "rowsTake", fn := fun _ => fun
  | [d1, d2] => { results := [.lit (.bool false)], args := [d1, d2] }
  | _ => none }
def RowsTakeWrongFalsely : Prop := rowsTakeRow.holds Try.pinned (OpenSpec.ofChange rowsTakeWrong)

/-- 'quillpenlaw14.RowsStop': WHATEVER THE INPUT: true; the input reads as it did. -/
def rowsStopSpec : ChangeSpec := { name := "rowsStop", fn := fun _ => fun
  | [d1, d2, d3] => { results := [.lit (.bool true)], args := [d1, d2, d3] }
  | _ => none }
def rowsStopRow : OpenClaim := { program := "ytjgcgjjdfnhhgaa", sum := "43b2525e3ecca0054a3332410a617df8bbe8c5336b31782cbff21b5c5cfae9a1", func := "quillpen/quillpenlaw14.RowsStop", spec := "rowsStop", unfollowed := true, recurses := true, apart := false }
def RowsStopSaid : Prop := rowsStopRow.holds Try.pinned (OpenSpec.ofChange rowsStopSpec)

/-- ITS FALSE NEIGHBOUR: 'it returns false'. Refute it at one input. -/
def rowsStopWrong : ChangeSpec := { name := "rowsStop", fn := fun _ => fun
  | [d1, d2, d3] => { results := [.lit (.bool false)], args := [d1, d2, d3] }
  | _ => none }
def RowsStopWrongFalsely : Prop := rowsStopRow.holds Try.pinned (OpenSpec.ofChange rowsStopWrong)

/- THE SECOND FORM. 'bulk': how many values and letters a reading holds, each counted each time it is reached (what is shared counts as often as it is met; a slice's spare places count too). A statement '..UptoSaid' is the law's where the arguments, and the package variables that the reading takes, are together of bulk at most 1048576: NARROWER than '..Said'. Prove '..Said' where nothing that the law and all that it calls make is longer than what came in: it says more and counts as full. Else prove '..UptoSaid'. A law counts once. -/
mutual
def uptoBulk {H : Type} : DataW H → Nat
  | .lit (.string bytes) => bytes.length + 1
  | .lit _ => 1
  | .nil => 1
  | .ptr d => uptoBulk d + 1
  | .slice elems spare => uptoBulkAll elems + uptoBulkAll spare + 1
  | .agg parts => uptoBulkAll parts + 1
  | .iface _ d => uptoBulk d + 1
  | .map entries => uptoBulkEntries entries + 1
  | .held _ => 1
def uptoBulkAll {H : Type} : List (DataW H) → Nat
  | [] => 0
  | d :: r => uptoBulk d + uptoBulkAll r
def uptoBulkEntries {H : Type} : List (Lit × DataW H) → Nat
  | [] => 0
  | x :: r => uptoBulkEntry x + uptoBulkEntries r
def uptoBulkEntry {H : Type} : Lit × DataW H → Nat
  | (.string bytes, d) => bytes.length + uptoBulk d + 1
  | (_, d) => uptoBulk d + 1
 end
def uptoSmall : (H : Type) → List (DataW H) → Bool := fun _ ds => decide (uptoBulkAll ds ≤ 1048576)
def OpenSpec.upto (s : _root_.Go.ChangeSpec) : _root_.Go.OpenSpec := { _root_.Go.OpenSpec.ofChange s with cond := some uptoSmall }

/-- 'quillpenlaw14.RowsChunk', WHERE WHAT IT READS IS OF BULK AT MOST 1048576: true; the input reads as it did. -/
def rowsChunkUptoRow : OpenClaim := { program := "ytjgcgjjdfnhhgaa", sum := "43b2525e3ecca0054a3332410a617df8bbe8c5336b31782cbff21b5c5cfae9a1", func := "quillpen/quillpenlaw14.RowsChunk", spec := "rowsChunk", unfollowed := true, recurses := true, apart := false, narrowed := true }
def RowsChunkUptoSaid : Prop := rowsChunkUptoRow.holds Try.pinned (OpenSpec.upto rowsChunkSpec)

/-- 'quillpenlaw14.RowsKeep', WHERE WHAT IT READS IS OF BULK AT MOST 1048576: true; the input reads as it did. -/
def rowsKeepUptoRow : OpenClaim := { program := "ytjgcgjjdfnhhgaa", sum := "43b2525e3ecca0054a3332410a617df8bbe8c5336b31782cbff21b5c5cfae9a1", func := "quillpen/quillpenlaw14.RowsKeep", spec := "rowsKeep", unfollowed := true, recurses := true, apart := false, narrowed := true }
def RowsKeepUptoSaid : Prop := rowsKeepUptoRow.holds Try.pinned (OpenSpec.upto rowsKeepSpec)

/-- 'quillpenlaw14.RowsTake', WHERE WHAT IT READS IS OF BULK AT MOST 1048576: true; the input reads as it did. -/
def rowsTakeUptoRow : OpenClaim := { program := "ytjgcgjjdfnhhgaa", sum := "43b2525e3ecca0054a3332410a617df8bbe8c5336b31782cbff21b5c5cfae9a1", func := "quillpen/quillpenlaw14.RowsTake", spec := "rowsTake", unfollowed := true, recurses := true, apart := false, narrowed := true }
def RowsTakeUptoSaid : Prop := rowsTakeUptoRow.holds Try.pinned (OpenSpec.upto rowsTakeSpec)

/-- 'quillpenlaw14.RowsStop', WHERE WHAT IT READS IS OF BULK AT MOST 1048576: true; the input reads as it did. -/
def rowsStopUptoRow : OpenClaim := { program := "ytjgcgjjdfnhhgaa", sum := "43b2525e3ecca0054a3332410a617df8bbe8c5336b31782cbff21b5c5cfae9a1", func := "quillpen/quillpenlaw14.RowsStop", spec := "rowsStop", unfollowed := true, recurses := true, apart := false, narrowed := true }
def RowsStopUptoSaid : Prop := rowsStopUptoRow.holds Try.pinned (OpenSpec.upto rowsStopSpec)

end Rows
end Go.Proofs.Ytjgcgjjdfnhhgaa
