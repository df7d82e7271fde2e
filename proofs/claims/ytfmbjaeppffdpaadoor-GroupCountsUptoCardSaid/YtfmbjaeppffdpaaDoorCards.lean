/-
  DERIVED. GIVEN WITH THE SEED: THE CARDS: each row of YtfmbjaeppffdpaaDoorRows.lean that lists a variable, with what it lists TIED to the program's text (the seventh form; the later family's looks); each row that meets fmt, with fmt's text TOLD by the authors' own Lean function (tested against real Go, not proved from fmt's source: count such statements apart). THE CARD IS WHAT COUNTS. Prove the row's statement (the work); the ties are given (YtfmbjaeppffdpaaDoorTie.lean); close each card by the builder's one call (the guide's Derived/Test/ToyasCard.lean, 'card_holds'). Laid BY PROGRAM, IN A SANDBOX (cutbox-door.mjs). By AI agents, Wed Nov 11 2026. No macro, syntax, notation, axiom, sorry.
-/
import Derived.Test.YtfmbjaeppffdpaaDoorRows
import GoSem.ClaimSeven
namespace Go.Proofs.YtfmbjaeppffdpaaDoor
namespace Rows

/-- THE TIED CARD OF 'quillpenlaw25.DiffChecks'. -/
def diffChecksCard : Claim7 := { stood := { row := diffChecksRow, standIns := [], harness := (true, "823a491a5c2e21c1bacd3bcf841c0d0687c8cb10f7d2f30e554de65517eef7bd"), looks := false }, kinds := [], alts := [], laidByText := true, laidKinds := [.data, .data, .data], laidTests := true, laidLooks := .later }
def DiffChecksCardSaid : Prop := Claim7.holds Tryd.pinned (.plain (OpenSpec.ofChange diffChecksSpec)) diffChecksCard

/-- THE TIED CARD OF 'quillpenlaw25.DiffTells'. -/
def diffTellsCard : Claim7 := { stood := { row := diffTellsRow, standIns := [], harness := (true, "823a491a5c2e21c1bacd3bcf841c0d0687c8cb10f7d2f30e554de65517eef7bd"), looks := false }, kinds := [], alts := [], laidByText := true, laidKinds := [.data, .data, .data], laidTests := true, laidLooks := .later }
def DiffTellsCardSaid : Prop := Claim7.holds Tryd.pinned (.plain (OpenSpec.ofChange diffTellsSpec)) diffTellsCard

/-- THE TIED CARD OF 'quillpenlaw25.DiffTurns'. -/
def diffTurnsCard : Claim7 := { stood := { row := diffTurnsRow, standIns := [], harness := (true, "823a491a5c2e21c1bacd3bcf841c0d0687c8cb10f7d2f30e554de65517eef7bd"), looks := false }, kinds := [], alts := [], laidByText := true, laidKinds := [.data, .data, .data], laidTests := true, laidLooks := .later }
def DiffTurnsCardSaid : Prop := Claim7.holds Tryd.pinned (.plain (OpenSpec.ofChange diffTurnsSpec)) diffTurnsCard

/-- THE TIED CARD OF 'quillpenlaw23.JoinChecks'. -/
def joinChecksCard : Claim7 := { stood := { row := joinChecksRow, standIns := [], harness := (true, "823a491a5c2e21c1bacd3bcf841c0d0687c8cb10f7d2f30e554de65517eef7bd"), looks := false }, kinds := [], alts := [], laidByText := true, laidKinds := [.data, .data, .data], laidTests := true, laidLooks := .later }
def JoinChecksCardSaid : Prop := Claim7.holds Tryd.pinned (.plain (OpenSpec.ofChange joinChecksSpec)) joinChecksCard

/-- THE TIED CARD OF 'quillpenlaw23.JoinJoins'. -/
def joinJoinsCard : Claim7 := { stood := { row := joinJoinsRow, standIns := [], harness := (true, "823a491a5c2e21c1bacd3bcf841c0d0687c8cb10f7d2f30e554de65517eef7bd"), looks := false }, kinds := [], alts := [], laidByText := true, laidKinds := [.data, .data, .data], laidTests := true, laidLooks := .later }
def JoinJoinsCardSaid : Prop := Claim7.holds Tryd.pinned (.plain (OpenSpec.ofChange joinJoinsSpec)) joinJoinsCard

/-- THE TIED CARD OF 'quillpenlaw23.JoinParts'. -/
def joinPartsCard : Claim7 := { stood := { row := joinPartsRow, standIns := [], harness := (true, "823a491a5c2e21c1bacd3bcf841c0d0687c8cb10f7d2f30e554de65517eef7bd"), looks := false }, kinds := [], alts := [], laidByText := true, laidKinds := [.data, .data, .data], laidTests := true, laidLooks := .later }
def JoinPartsCardSaid : Prop := Claim7.holds Tryd.pinned (.plain (OpenSpec.ofChange joinPartsSpec)) joinPartsCard

/-- THE TIED CARD OF 'quillpenlaw28.PatchChecks'. -/
def patchChecksCard : Claim7 := { stood := { row := patchChecksRow, standIns := [], harness := (true, "823a491a5c2e21c1bacd3bcf841c0d0687c8cb10f7d2f30e554de65517eef7bd"), looks := false }, kinds := [], alts := [], laidByText := true, laidKinds := [.data, .data, .data], laidTests := true, laidLooks := .later }
def PatchChecksCardSaid : Prop := Claim7.holds Tryd.pinned (.plain (OpenSpec.ofChange patchChecksSpec)) patchChecksCard

/-- THE TIED CARD OF 'quillpenlaw28.PatchApplies'. -/
def patchAppliesCard : Claim7 := { stood := { row := patchAppliesRow, standIns := [], harness := (true, "823a491a5c2e21c1bacd3bcf841c0d0687c8cb10f7d2f30e554de65517eef7bd"), looks := false }, kinds := [], alts := [], laidByText := true, laidKinds := [.data, .data, .data], laidTests := true, laidLooks := .later }
def PatchAppliesCardSaid : Prop := Claim7.holds Tryd.pinned (.plain (OpenSpec.ofChange patchAppliesSpec)) patchAppliesCard

/-- THE TIED CARD OF 'quillpenlaw24.GroupColumns'. -/
def groupColumnsCard : Claim7 := { stood := { row := groupColumnsRow, standIns := [], harness := (true, "823a491a5c2e21c1bacd3bcf841c0d0687c8cb10f7d2f30e554de65517eef7bd"), looks := false }, kinds := [], alts := [], laidByText := true, laidKinds := [.data, .data, .data], laidTests := true, laidLooks := .later }
def GroupColumnsCardSaid : Prop := Claim7.holds Tryd.pinned (.plain (OpenSpec.ofChange groupColumnsSpec)) groupColumnsCard

/-- THE TIED CARD OF 'quillpenlaw28.PatchComposes'. -/
def patchComposesCard : Claim7 := { stood := { row := patchComposesRow, standIns := [], harness := (true, "823a491a5c2e21c1bacd3bcf841c0d0687c8cb10f7d2f30e554de65517eef7bd"), looks := false }, kinds := [], alts := [], laidByText := true, laidKinds := [.data, .data, .data], laidTests := true, laidLooks := .later }
def PatchComposesCardSaid : Prop := Claim7.holds Tryd.pinned (.plain (OpenSpec.ofChange patchComposesSpec)) patchComposesCard

/-- THE TIED CARD OF 'quillpenlaw28.PatchSame'. -/
def patchSameCard : Claim7 := { stood := { row := patchSameRow, standIns := [], harness := (true, "823a491a5c2e21c1bacd3bcf841c0d0687c8cb10f7d2f30e554de65517eef7bd"), looks := false }, kinds := [], alts := [], laidByText := true, laidKinds := [.data, .data, .data], laidTests := true, laidLooks := .later }
def PatchSameCardSaid : Prop := Claim7.holds Tryd.pinned (.plain (OpenSpec.ofChange patchSameSpec)) patchSameCard

/-- THE TIED CARD OF 'quillpenlaw24.GroupCounts'. -/
def groupCountsCard : Claim7 := { stood := { row := groupCountsRow, standIns := [], harness := (true, "823a491a5c2e21c1bacd3bcf841c0d0687c8cb10f7d2f30e554de65517eef7bd"), looks := false }, kinds := [], alts := [], laidByText := true, laidKinds := [.data, .data, .data], laidTests := true, laidLooks := .later }
def GroupCountsCardSaid : Prop := Claim7.holds Tryd.pinned (.plain (OpenSpec.ofChange groupCountsSpec)) groupCountsCard

/-- THE TIED CARD OF 'quillpenlaw28.PatchDiffs'. -/
def patchDiffsCard : Claim7 := { stood := { row := patchDiffsRow, standIns := [], harness := (true, "823a491a5c2e21c1bacd3bcf841c0d0687c8cb10f7d2f30e554de65517eef7bd"), looks := false }, kinds := [], alts := [], laidByText := true, laidKinds := [.data, .data, .data], laidTests := true, laidLooks := .later }
def PatchDiffsCardSaid : Prop := Claim7.holds Tryd.pinned (.plain (OpenSpec.ofChange patchDiffsSpec)) patchDiffsCard

/-- THE SECOND FORM's CARD OF 'quillpenlaw25.DiffChecks'. -/
def diffChecksUptoCard : Claim7 := { stood := { row := diffChecksUptoRow, standIns := [], harness := (true, "823a491a5c2e21c1bacd3bcf841c0d0687c8cb10f7d2f30e554de65517eef7bd"), looks := false }, kinds := [], alts := [], laidByText := true, laidKinds := [.data, .data, .data], laidTests := true, laidLooks := .later }
def DiffChecksUptoCardSaid : Prop := Claim7.holds Tryd.pinned (.plain (OpenSpec.upto diffChecksSpec)) diffChecksUptoCard

/-- THE SECOND FORM's CARD OF 'quillpenlaw25.DiffTells'. -/
def diffTellsUptoCard : Claim7 := { stood := { row := diffTellsUptoRow, standIns := [], harness := (true, "823a491a5c2e21c1bacd3bcf841c0d0687c8cb10f7d2f30e554de65517eef7bd"), looks := false }, kinds := [], alts := [], laidByText := true, laidKinds := [.data, .data, .data], laidTests := true, laidLooks := .later }
def DiffTellsUptoCardSaid : Prop := Claim7.holds Tryd.pinned (.plain (OpenSpec.upto diffTellsSpec)) diffTellsUptoCard

/-- THE SECOND FORM's CARD OF 'quillpenlaw25.DiffTurns'. -/
def diffTurnsUptoCard : Claim7 := { stood := { row := diffTurnsUptoRow, standIns := [], harness := (true, "823a491a5c2e21c1bacd3bcf841c0d0687c8cb10f7d2f30e554de65517eef7bd"), looks := false }, kinds := [], alts := [], laidByText := true, laidKinds := [.data, .data, .data], laidTests := true, laidLooks := .later }
def DiffTurnsUptoCardSaid : Prop := Claim7.holds Tryd.pinned (.plain (OpenSpec.upto diffTurnsSpec)) diffTurnsUptoCard

/-- THE SECOND FORM's CARD OF 'quillpenlaw23.JoinChecks'. -/
def joinChecksUptoCard : Claim7 := { stood := { row := joinChecksUptoRow, standIns := [], harness := (true, "823a491a5c2e21c1bacd3bcf841c0d0687c8cb10f7d2f30e554de65517eef7bd"), looks := false }, kinds := [], alts := [], laidByText := true, laidKinds := [.data, .data, .data], laidTests := true, laidLooks := .later }
def JoinChecksUptoCardSaid : Prop := Claim7.holds Tryd.pinned (.plain (OpenSpec.upto joinChecksSpec)) joinChecksUptoCard

/-- THE SECOND FORM's CARD OF 'quillpenlaw23.JoinJoins'. -/
def joinJoinsUptoCard : Claim7 := { stood := { row := joinJoinsUptoRow, standIns := [], harness := (true, "823a491a5c2e21c1bacd3bcf841c0d0687c8cb10f7d2f30e554de65517eef7bd"), looks := false }, kinds := [], alts := [], laidByText := true, laidKinds := [.data, .data, .data], laidTests := true, laidLooks := .later }
def JoinJoinsUptoCardSaid : Prop := Claim7.holds Tryd.pinned (.plain (OpenSpec.upto joinJoinsSpec)) joinJoinsUptoCard

/-- THE SECOND FORM's CARD OF 'quillpenlaw23.JoinParts'. -/
def joinPartsUptoCard : Claim7 := { stood := { row := joinPartsUptoRow, standIns := [], harness := (true, "823a491a5c2e21c1bacd3bcf841c0d0687c8cb10f7d2f30e554de65517eef7bd"), looks := false }, kinds := [], alts := [], laidByText := true, laidKinds := [.data, .data, .data], laidTests := true, laidLooks := .later }
def JoinPartsUptoCardSaid : Prop := Claim7.holds Tryd.pinned (.plain (OpenSpec.upto joinPartsSpec)) joinPartsUptoCard

/-- THE SECOND FORM's CARD OF 'quillpenlaw28.PatchChecks'. -/
def patchChecksUptoCard : Claim7 := { stood := { row := patchChecksUptoRow, standIns := [], harness := (true, "823a491a5c2e21c1bacd3bcf841c0d0687c8cb10f7d2f30e554de65517eef7bd"), looks := false }, kinds := [], alts := [], laidByText := true, laidKinds := [.data, .data, .data], laidTests := true, laidLooks := .later }
def PatchChecksUptoCardSaid : Prop := Claim7.holds Tryd.pinned (.plain (OpenSpec.upto patchChecksSpec)) patchChecksUptoCard

/-- THE SECOND FORM's CARD OF 'quillpenlaw28.PatchApplies'. -/
def patchAppliesUptoCard : Claim7 := { stood := { row := patchAppliesUptoRow, standIns := [], harness := (true, "823a491a5c2e21c1bacd3bcf841c0d0687c8cb10f7d2f30e554de65517eef7bd"), looks := false }, kinds := [], alts := [], laidByText := true, laidKinds := [.data, .data, .data], laidTests := true, laidLooks := .later }
def PatchAppliesUptoCardSaid : Prop := Claim7.holds Tryd.pinned (.plain (OpenSpec.upto patchAppliesSpec)) patchAppliesUptoCard

/-- THE SECOND FORM's CARD OF 'quillpenlaw24.GroupColumns'. -/
def groupColumnsUptoCard : Claim7 := { stood := { row := groupColumnsUptoRow, standIns := [], harness := (true, "823a491a5c2e21c1bacd3bcf841c0d0687c8cb10f7d2f30e554de65517eef7bd"), looks := false }, kinds := [], alts := [], laidByText := true, laidKinds := [.data, .data, .data], laidTests := true, laidLooks := .later }
def GroupColumnsUptoCardSaid : Prop := Claim7.holds Tryd.pinned (.plain (OpenSpec.upto groupColumnsSpec)) groupColumnsUptoCard

/-- THE SECOND FORM's CARD OF 'quillpenlaw28.PatchComposes'. -/
def patchComposesUptoCard : Claim7 := { stood := { row := patchComposesUptoRow, standIns := [], harness := (true, "823a491a5c2e21c1bacd3bcf841c0d0687c8cb10f7d2f30e554de65517eef7bd"), looks := false }, kinds := [], alts := [], laidByText := true, laidKinds := [.data, .data, .data], laidTests := true, laidLooks := .later }
def PatchComposesUptoCardSaid : Prop := Claim7.holds Tryd.pinned (.plain (OpenSpec.upto patchComposesSpec)) patchComposesUptoCard

/-- THE SECOND FORM's CARD OF 'quillpenlaw28.PatchSame'. -/
def patchSameUptoCard : Claim7 := { stood := { row := patchSameUptoRow, standIns := [], harness := (true, "823a491a5c2e21c1bacd3bcf841c0d0687c8cb10f7d2f30e554de65517eef7bd"), looks := false }, kinds := [], alts := [], laidByText := true, laidKinds := [.data, .data, .data], laidTests := true, laidLooks := .later }
def PatchSameUptoCardSaid : Prop := Claim7.holds Tryd.pinned (.plain (OpenSpec.upto patchSameSpec)) patchSameUptoCard

/-- THE SECOND FORM's CARD OF 'quillpenlaw24.GroupCounts'. -/
def groupCountsUptoCard : Claim7 := { stood := { row := groupCountsUptoRow, standIns := [], harness := (true, "823a491a5c2e21c1bacd3bcf841c0d0687c8cb10f7d2f30e554de65517eef7bd"), looks := false }, kinds := [], alts := [], laidByText := true, laidKinds := [.data, .data, .data], laidTests := true, laidLooks := .later }
def GroupCountsUptoCardSaid : Prop := Claim7.holds Tryd.pinned (.plain (OpenSpec.upto groupCountsSpec)) groupCountsUptoCard

/-- THE SECOND FORM's CARD OF 'quillpenlaw28.PatchDiffs'. -/
def patchDiffsUptoCard : Claim7 := { stood := { row := patchDiffsUptoRow, standIns := [], harness := (true, "823a491a5c2e21c1bacd3bcf841c0d0687c8cb10f7d2f30e554de65517eef7bd"), looks := false }, kinds := [], alts := [], laidByText := true, laidKinds := [.data, .data, .data], laidTests := true, laidLooks := .later }
def PatchDiffsUptoCardSaid : Prop := Claim7.holds Tryd.pinned (.plain (OpenSpec.upto patchDiffsSpec)) patchDiffsUptoCard
end Rows
end Go.Proofs.YtfmbjaeppffdpaaDoor
