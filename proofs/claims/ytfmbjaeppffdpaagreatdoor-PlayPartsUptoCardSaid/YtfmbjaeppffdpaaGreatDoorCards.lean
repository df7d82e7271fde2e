/-
  DERIVED. GIVEN WITH THE SEED: THE CARDS: each row of YtfmbjaeppffdpaaGreatDoorRows.lean that lists a variable, with what it lists TIED to the program's text (the seventh form; the later family's looks); each row that meets fmt, with fmt's text TOLD by the authors' own Lean function (tested against real Go, not proved from fmt's source: count such statements apart). THE CARD IS WHAT COUNTS. Prove the row's statement (the work); the ties are given (YtfmbjaeppffdpaaGreatDoorTie.lean); close each card by the builder's one call (the guide's Derived/Test/ToyasCard.lean, 'card_holds'). Laid BY PROGRAM, IN A SANDBOX (cutbox-door.mjs). By AI agents, Wed Nov 11 2026. No macro, syntax, notation, axiom, sorry.
-/
import Derived.Test.YtfmbjaeppffdpaaGreatDoorRows
import GoSem.ClaimSeven
namespace Go.Proofs.YtfmbjaeppffdpaaGreatDoor
namespace Rows

/-- THE TIED CARD OF 'quillpentop.TopWhere'. -/
def topWhereCard : Claim7 := { stood := { row := topWhereRow, standIns := [], harness := (true, "e124c4eab677e2d86f16e75443bdf451015198247bcd9c89913ee0776633d8c8"), looks := false }, kinds := [], alts := [], laidByText := true, laidKinds := [.data, .data, .data], laidTests := true, laidLooks := .later }
def TopWhereCardSaid : Prop := Claim7.holds Tryz.pinned (.plain (OpenSpec.ofChange topWhereSpec)) topWhereCard

/-- THE TIED CARD OF 'quillpentop.TopGroups'. -/
def topGroupsCard : Claim7 := { stood := { row := topGroupsRow, standIns := [], harness := (true, "e124c4eab677e2d86f16e75443bdf451015198247bcd9c89913ee0776633d8c8"), looks := false }, kinds := [], alts := [], laidByText := true, laidKinds := [.data, .data, .data], laidTests := true, laidLooks := .later }
def TopGroupsCardSaid : Prop := Claim7.holds Tryz.pinned (.plain (OpenSpec.ofChange topGroupsSpec)) topGroupsCard

/-- THE TIED CARD OF 'quillpentop.TopJoins'. -/
def topJoinsCard : Claim7 := { stood := { row := topJoinsRow, standIns := [], harness := (true, "e124c4eab677e2d86f16e75443bdf451015198247bcd9c89913ee0776633d8c8"), looks := false }, kinds := [], alts := [], laidByText := true, laidKinds := [.data, .data, .data], laidTests := true, laidLooks := .later }
def TopJoinsCardSaid : Prop := Claim7.holds Tryz.pinned (.plain (OpenSpec.ofChange topJoinsSpec)) topJoinsCard

/-- THE TIED CARD OF 'quillpenlaw29.PlayOne'. -/
def playOneCard : Claim7 := { stood := { row := playOneRow, standIns := [], harness := (true, "e124c4eab677e2d86f16e75443bdf451015198247bcd9c89913ee0776633d8c8"), looks := false }, kinds := [], alts := [], laidByText := true, laidKinds := [.data, .data, .data], laidTests := true, laidLooks := .later }
def PlayOneCardSaid : Prop := Claim7.holds Tryz.pinned (.plain (OpenSpec.ofChange playOneSpec)) playOneCard

/-- THE TIED CARD OF 'quillpenlaw29.PlayRuns'. -/
def playRunsCard : Claim7 := { stood := { row := playRunsRow, standIns := [], harness := (true, "e124c4eab677e2d86f16e75443bdf451015198247bcd9c89913ee0776633d8c8"), looks := false }, kinds := [], alts := [], laidByText := true, laidKinds := [.data, .data, .data], laidTests := true, laidLooks := .later }
def PlayRunsCardSaid : Prop := Claim7.holds Tryz.pinned (.plain (OpenSpec.ofChange playRunsSpec)) playRunsCard

/-- THE TIED CARD OF 'quillpenlaw29.PlayParts'. -/
def playPartsCard : Claim7 := { stood := { row := playPartsRow, standIns := [], harness := (true, "e124c4eab677e2d86f16e75443bdf451015198247bcd9c89913ee0776633d8c8"), looks := false }, kinds := [], alts := [], laidByText := true, laidKinds := [.data, .data, .data], laidTests := true, laidLooks := .later }
def PlayPartsCardSaid : Prop := Claim7.holds Tryz.pinned (.plain (OpenSpec.ofChange playPartsSpec)) playPartsCard

/-- THE TIED CARD OF 'quillpenlaw29.PlayColumns'. -/
def playColumnsCard : Claim7 := { stood := { row := playColumnsRow, standIns := [], harness := (true, "e124c4eab677e2d86f16e75443bdf451015198247bcd9c89913ee0776633d8c8"), looks := false }, kinds := [], alts := [], laidByText := true, laidKinds := [.data, .data, .data], laidTests := true, laidLooks := .later }
def PlayColumnsCardSaid : Prop := Claim7.holds Tryz.pinned (.plain (OpenSpec.ofChange playColumnsSpec)) playColumnsCard

/-- THE SECOND FORM's CARD OF 'quillpentop.TopWhere'. -/
def topWhereUptoCard : Claim7 := { stood := { row := topWhereUptoRow, standIns := [], harness := (true, "e124c4eab677e2d86f16e75443bdf451015198247bcd9c89913ee0776633d8c8"), looks := false }, kinds := [], alts := [], laidByText := true, laidKinds := [.data, .data, .data], laidTests := true, laidLooks := .later }
def TopWhereUptoCardSaid : Prop := Claim7.holds Tryz.pinned (.plain (OpenSpec.upto topWhereSpec)) topWhereUptoCard

/-- THE SECOND FORM's CARD OF 'quillpentop.TopGroups'. -/
def topGroupsUptoCard : Claim7 := { stood := { row := topGroupsUptoRow, standIns := [], harness := (true, "e124c4eab677e2d86f16e75443bdf451015198247bcd9c89913ee0776633d8c8"), looks := false }, kinds := [], alts := [], laidByText := true, laidKinds := [.data, .data, .data], laidTests := true, laidLooks := .later }
def TopGroupsUptoCardSaid : Prop := Claim7.holds Tryz.pinned (.plain (OpenSpec.upto topGroupsSpec)) topGroupsUptoCard

/-- THE SECOND FORM's CARD OF 'quillpentop.TopJoins'. -/
def topJoinsUptoCard : Claim7 := { stood := { row := topJoinsUptoRow, standIns := [], harness := (true, "e124c4eab677e2d86f16e75443bdf451015198247bcd9c89913ee0776633d8c8"), looks := false }, kinds := [], alts := [], laidByText := true, laidKinds := [.data, .data, .data], laidTests := true, laidLooks := .later }
def TopJoinsUptoCardSaid : Prop := Claim7.holds Tryz.pinned (.plain (OpenSpec.upto topJoinsSpec)) topJoinsUptoCard

/-- THE SECOND FORM's CARD OF 'quillpenlaw29.PlayOne'. -/
def playOneUptoCard : Claim7 := { stood := { row := playOneUptoRow, standIns := [], harness := (true, "e124c4eab677e2d86f16e75443bdf451015198247bcd9c89913ee0776633d8c8"), looks := false }, kinds := [], alts := [], laidByText := true, laidKinds := [.data, .data, .data], laidTests := true, laidLooks := .later }
def PlayOneUptoCardSaid : Prop := Claim7.holds Tryz.pinned (.plain (OpenSpec.upto playOneSpec)) playOneUptoCard

/-- THE SECOND FORM's CARD OF 'quillpenlaw29.PlayRuns'. -/
def playRunsUptoCard : Claim7 := { stood := { row := playRunsUptoRow, standIns := [], harness := (true, "e124c4eab677e2d86f16e75443bdf451015198247bcd9c89913ee0776633d8c8"), looks := false }, kinds := [], alts := [], laidByText := true, laidKinds := [.data, .data, .data], laidTests := true, laidLooks := .later }
def PlayRunsUptoCardSaid : Prop := Claim7.holds Tryz.pinned (.plain (OpenSpec.upto playRunsSpec)) playRunsUptoCard

/-- THE SECOND FORM's CARD OF 'quillpenlaw29.PlayParts'. -/
def playPartsUptoCard : Claim7 := { stood := { row := playPartsUptoRow, standIns := [], harness := (true, "e124c4eab677e2d86f16e75443bdf451015198247bcd9c89913ee0776633d8c8"), looks := false }, kinds := [], alts := [], laidByText := true, laidKinds := [.data, .data, .data], laidTests := true, laidLooks := .later }
def PlayPartsUptoCardSaid : Prop := Claim7.holds Tryz.pinned (.plain (OpenSpec.upto playPartsSpec)) playPartsUptoCard

/-- THE SECOND FORM's CARD OF 'quillpenlaw29.PlayColumns'. -/
def playColumnsUptoCard : Claim7 := { stood := { row := playColumnsUptoRow, standIns := [], harness := (true, "e124c4eab677e2d86f16e75443bdf451015198247bcd9c89913ee0776633d8c8"), looks := false }, kinds := [], alts := [], laidByText := true, laidKinds := [.data, .data, .data], laidTests := true, laidLooks := .later }
def PlayColumnsUptoCardSaid : Prop := Claim7.holds Tryz.pinned (.plain (OpenSpec.upto playColumnsSpec)) playColumnsUptoCard
end Rows
end Go.Proofs.YtfmbjaeppffdpaaGreatDoor
