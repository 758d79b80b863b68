/-
  DERIVED. GIVEN WITH THE SEED: THE CARDS: each row of YtiannfegjbbpfaaDoorRows.lean that lists a variable, with what it lists TIED to the program's text (the seventh form; the later family's looks); each row that meets fmt, with fmt's text TOLD by the authors' own Lean function (tested against real Go, not proved from fmt's source: count such statements apart). THE CARD IS WHAT COUNTS. Prove the row's statement (the work); the ties are given (YtiannfegjbbpfaaDoorTie.lean); close each card by the builder's one call (the guide's Derived/Test/ToyasCard.lean, 'card_holds'). Laid BY PROGRAM, IN A SANDBOX (cutbox-door.mjs). By AI agents, Wed Nov 11 2026. No macro, syntax, notation, axiom, sorry.
-/
import Derived.Test.YtiannfegjbbpfaaDoorRows
import GoSem.ClaimSeven
namespace Go.Proofs.YtiannfegjbbpfaaDoor
namespace Rows

/-- THE TIED CARD OF 'tesseraelaw06.ContFlips'. -/
def contFlipsCard : Claim7 := { stood := { row := contFlipsRow, standIns := [], harness := (true, "fcf2b8f973d374891d913fc11fc988e2c23ac6a3ed602ab19198aaf9e65dbcc2"), looks := false }, kinds := [], alts := [], laidByText := true, laidKinds := [.data], laidTests := true, laidLooks := .later }
def ContFlipsCardSaid : Prop := Claim7.holds Tryd.pinned (.plain (OpenSpec.ofChange contFlipsSpec)) contFlipsCard

/-- THE TIED CARD OF 'tesseraelaw06.ContSizes'. -/
def contSizesCard : Claim7 := { stood := { row := contSizesRow, standIns := [], harness := (true, "fcf2b8f973d374891d913fc11fc988e2c23ac6a3ed602ab19198aaf9e65dbcc2"), looks := false }, kinds := [], alts := [], laidByText := true, laidKinds := [.data], laidTests := true, laidLooks := .later }
def ContSizesCardSaid : Prop := Claim7.holds Tryd.pinned (.plain (OpenSpec.ofChange contSizesSpec)) contSizesCard

/-- THE TIED CARD OF 'tesseraelaw06.ContRanks'. -/
def contRanksCard : Claim7 := { stood := { row := contRanksRow, standIns := [], harness := (true, "fcf2b8f973d374891d913fc11fc988e2c23ac6a3ed602ab19198aaf9e65dbcc2"), looks := false }, kinds := [], alts := [], laidByText := true, laidKinds := [.data], laidTests := true, laidLooks := .later }
def ContRanksCardSaid : Prop := Claim7.holds Tryd.pinned (.plain (OpenSpec.ofChange contRanksSpec)) contRanksCard

/-- THE TIED CARD OF 'tesseraelaw06.ContParts'. -/
def contPartsCard : Claim7 := { stood := { row := contPartsRow, standIns := [], harness := (true, "fcf2b8f973d374891d913fc11fc988e2c23ac6a3ed602ab19198aaf9e65dbcc2"), looks := false }, kinds := [], alts := [], laidByText := true, laidKinds := [.data], laidTests := true, laidLooks := .later }
def ContPartsCardSaid : Prop := Claim7.holds Tryd.pinned (.plain (OpenSpec.ofChange contPartsSpec)) contPartsCard

/-- THE TIED CARD OF 'tesseraelaw06.ContOps'. -/
def contOpsCard : Claim7 := { stood := { row := contOpsRow, standIns := [], harness := (true, "fcf2b8f973d374891d913fc11fc988e2c23ac6a3ed602ab19198aaf9e65dbcc2"), looks := false }, kinds := [], alts := [], laidByText := true, laidKinds := [.data], laidTests := true, laidLooks := .later }
def ContOpsCardSaid : Prop := Claim7.holds Tryd.pinned (.plain (OpenSpec.ofChange contOpsSpec)) contOpsCard

/-- THE TIED CARD OF 'tesseraelaw06.ContBack'. -/
def contBackCard : Claim7 := { stood := { row := contBackRow, standIns := [], harness := (true, "fcf2b8f973d374891d913fc11fc988e2c23ac6a3ed602ab19198aaf9e65dbcc2"), looks := false }, kinds := [], alts := [], laidByText := true, laidKinds := [.data], laidTests := true, laidLooks := .later }
def ContBackCardSaid : Prop := Claim7.holds Tryd.pinned (.plain (OpenSpec.ofChange contBackSpec)) contBackCard

/-- THE TIED CARD OF 'tesseraelaw06.ContPlaces'. -/
def contPlacesCard : Claim7 := { stood := { row := contPlacesRow, standIns := [], harness := (true, "fcf2b8f973d374891d913fc11fc988e2c23ac6a3ed602ab19198aaf9e65dbcc2"), looks := false }, kinds := [], alts := [], laidByText := true, laidKinds := [.data], laidTests := true, laidLooks := .later }
def ContPlacesCardSaid : Prop := Claim7.holds Tryd.pinned (.plain (OpenSpec.ofChange contPlacesSpec)) contPlacesCard

/-- THE TIED CARD OF 'tesseraelaw06.ContMakes'. -/
def contMakesCard : Claim7 := { stood := { row := contMakesRow, standIns := [], harness := (true, "fcf2b8f973d374891d913fc11fc988e2c23ac6a3ed602ab19198aaf9e65dbcc2"), looks := false }, kinds := [], alts := [], laidByText := true, laidKinds := [.data], laidTests := true, laidLooks := .later }
def ContMakesCardSaid : Prop := Claim7.holds Tryd.pinned (.plain (OpenSpec.ofChange contMakesSpec)) contMakesCard

/-- THE SECOND FORM's CARD OF 'tesseraelaw06.ContFlips'. -/
def contFlipsUptoCard : Claim7 := { stood := { row := contFlipsUptoRow, standIns := [], harness := (true, "fcf2b8f973d374891d913fc11fc988e2c23ac6a3ed602ab19198aaf9e65dbcc2"), looks := false }, kinds := [], alts := [], laidByText := true, laidKinds := [.data], laidTests := true, laidLooks := .later }
def ContFlipsUptoCardSaid : Prop := Claim7.holds Tryd.pinned (.plain (OpenSpec.upto contFlipsSpec)) contFlipsUptoCard

/-- THE SECOND FORM's CARD OF 'tesseraelaw06.ContSizes'. -/
def contSizesUptoCard : Claim7 := { stood := { row := contSizesUptoRow, standIns := [], harness := (true, "fcf2b8f973d374891d913fc11fc988e2c23ac6a3ed602ab19198aaf9e65dbcc2"), looks := false }, kinds := [], alts := [], laidByText := true, laidKinds := [.data], laidTests := true, laidLooks := .later }
def ContSizesUptoCardSaid : Prop := Claim7.holds Tryd.pinned (.plain (OpenSpec.upto contSizesSpec)) contSizesUptoCard

/-- THE SECOND FORM's CARD OF 'tesseraelaw06.ContRanks'. -/
def contRanksUptoCard : Claim7 := { stood := { row := contRanksUptoRow, standIns := [], harness := (true, "fcf2b8f973d374891d913fc11fc988e2c23ac6a3ed602ab19198aaf9e65dbcc2"), looks := false }, kinds := [], alts := [], laidByText := true, laidKinds := [.data], laidTests := true, laidLooks := .later }
def ContRanksUptoCardSaid : Prop := Claim7.holds Tryd.pinned (.plain (OpenSpec.upto contRanksSpec)) contRanksUptoCard

/-- THE SECOND FORM's CARD OF 'tesseraelaw06.ContParts'. -/
def contPartsUptoCard : Claim7 := { stood := { row := contPartsUptoRow, standIns := [], harness := (true, "fcf2b8f973d374891d913fc11fc988e2c23ac6a3ed602ab19198aaf9e65dbcc2"), looks := false }, kinds := [], alts := [], laidByText := true, laidKinds := [.data], laidTests := true, laidLooks := .later }
def ContPartsUptoCardSaid : Prop := Claim7.holds Tryd.pinned (.plain (OpenSpec.upto contPartsSpec)) contPartsUptoCard

/-- THE SECOND FORM's CARD OF 'tesseraelaw06.ContOps'. -/
def contOpsUptoCard : Claim7 := { stood := { row := contOpsUptoRow, standIns := [], harness := (true, "fcf2b8f973d374891d913fc11fc988e2c23ac6a3ed602ab19198aaf9e65dbcc2"), looks := false }, kinds := [], alts := [], laidByText := true, laidKinds := [.data], laidTests := true, laidLooks := .later }
def ContOpsUptoCardSaid : Prop := Claim7.holds Tryd.pinned (.plain (OpenSpec.upto contOpsSpec)) contOpsUptoCard

/-- THE SECOND FORM's CARD OF 'tesseraelaw06.ContBack'. -/
def contBackUptoCard : Claim7 := { stood := { row := contBackUptoRow, standIns := [], harness := (true, "fcf2b8f973d374891d913fc11fc988e2c23ac6a3ed602ab19198aaf9e65dbcc2"), looks := false }, kinds := [], alts := [], laidByText := true, laidKinds := [.data], laidTests := true, laidLooks := .later }
def ContBackUptoCardSaid : Prop := Claim7.holds Tryd.pinned (.plain (OpenSpec.upto contBackSpec)) contBackUptoCard

/-- THE SECOND FORM's CARD OF 'tesseraelaw06.ContPlaces'. -/
def contPlacesUptoCard : Claim7 := { stood := { row := contPlacesUptoRow, standIns := [], harness := (true, "fcf2b8f973d374891d913fc11fc988e2c23ac6a3ed602ab19198aaf9e65dbcc2"), looks := false }, kinds := [], alts := [], laidByText := true, laidKinds := [.data], laidTests := true, laidLooks := .later }
def ContPlacesUptoCardSaid : Prop := Claim7.holds Tryd.pinned (.plain (OpenSpec.upto contPlacesSpec)) contPlacesUptoCard

/-- THE SECOND FORM's CARD OF 'tesseraelaw06.ContMakes'. -/
def contMakesUptoCard : Claim7 := { stood := { row := contMakesUptoRow, standIns := [], harness := (true, "fcf2b8f973d374891d913fc11fc988e2c23ac6a3ed602ab19198aaf9e65dbcc2"), looks := false }, kinds := [], alts := [], laidByText := true, laidKinds := [.data], laidTests := true, laidLooks := .later }
def ContMakesUptoCardSaid : Prop := Claim7.holds Tryd.pinned (.plain (OpenSpec.upto contMakesSpec)) contMakesUptoCard
end Rows
end Go.Proofs.YtiannfegjbbpfaaDoor
