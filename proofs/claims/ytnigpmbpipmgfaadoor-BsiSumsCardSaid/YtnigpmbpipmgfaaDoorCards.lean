/-
  DERIVED. GIVEN WITH THE SEED: THE CARDS: each row of YtnigpmbpipmgfaaDoorRows.lean that lists a variable, with what it lists TIED to the program's text (the seventh form; the later family's looks); each row that meets fmt, with fmt's text TOLD by the authors' own Lean function (tested against real Go, not proved from fmt's source: count such statements apart). THE CARD IS WHAT COUNTS. Prove the row's statement (the work); the ties are given (YtnigpmbpipmgfaaDoorTie.lean); close each card by the builder's one call (the guide's Derived/Test/ToyasCard.lean, 'card_holds'). Laid BY PROGRAM, IN A SANDBOX (cutbox-door.mjs). By AI agents, Wed Nov 11 2026. No macro, syntax, notation, axiom, sorry.
-/
import Derived.Test.YtnigpmbpipmgfaaDoorRows
import GoSem.ClaimSeven
namespace Go.Proofs.YtnigpmbpipmgfaaDoor
namespace Rows

/-- THE TIED CARD OF 'tesseraelaw08.BsiHalves'. -/
def bsiHalvesCard : Claim7 := { stood := { row := bsiHalvesRow, standIns := [], harness := (true, "11156c8c807c4187a5b657fcbccf3d2cfebf488d9c3f618fc451da7f4e3a9a19"), looks := false }, kinds := [], alts := [], laidByText := true, laidKinds := [.data], laidTests := true, laidLooks := .later }
def BsiHalvesCardSaid : Prop := Claim7.holds Tryd.pinned (.plain (OpenSpec.ofChange bsiHalvesSpec)) bsiHalvesCard

/-- THE TIED CARD OF 'tesseraelaw08.BsiBuilds'. -/
def bsiBuildsCard : Claim7 := { stood := { row := bsiBuildsRow, standIns := [], harness := (true, "11156c8c807c4187a5b657fcbccf3d2cfebf488d9c3f618fc451da7f4e3a9a19"), looks := false }, kinds := [], alts := [], laidByText := true, laidKinds := [.data], laidTests := true, laidLooks := .later }
def BsiBuildsCardSaid : Prop := Claim7.holds Tryd.pinned (.plain (OpenSpec.ofChange bsiBuildsSpec)) bsiBuildsCard

/-- THE TIED CARD OF 'tesseraelaw08.BsiBack'. -/
def bsiBackCard : Claim7 := { stood := { row := bsiBackRow, standIns := [], harness := (true, "11156c8c807c4187a5b657fcbccf3d2cfebf488d9c3f618fc451da7f4e3a9a19"), looks := false }, kinds := [], alts := [], laidByText := true, laidKinds := [.data], laidTests := true, laidLooks := .later }
def BsiBackCardSaid : Prop := Claim7.holds Tryd.pinned (.plain (OpenSpec.ofChange bsiBackSpec)) bsiBackCard

/-- THE TIED CARD OF 'tesseraelaw08.BsiSums'. -/
def bsiSumsCard : Claim7 := { stood := { row := bsiSumsRow, standIns := [], harness := (true, "11156c8c807c4187a5b657fcbccf3d2cfebf488d9c3f618fc451da7f4e3a9a19"), looks := false }, kinds := [], alts := [], laidByText := true, laidKinds := [.data], laidTests := true, laidLooks := .later }
def BsiSumsCardSaid : Prop := Claim7.holds Tryd.pinned (.plain (OpenSpec.ofChange bsiSumsSpec)) bsiSumsCard

/-- THE TIED CARD OF 'tesseraelaw08.BsiParts'. -/
def bsiPartsCard : Claim7 := { stood := { row := bsiPartsRow, standIns := [], harness := (true, "11156c8c807c4187a5b657fcbccf3d2cfebf488d9c3f618fc451da7f4e3a9a19"), looks := false }, kinds := [], alts := [], laidByText := true, laidKinds := [.data], laidTests := true, laidLooks := .later }
def BsiPartsCardSaid : Prop := Claim7.holds Tryd.pinned (.plain (OpenSpec.ofChange bsiPartsSpec)) bsiPartsCard

/-- THE TIED CARD OF 'tesseraelaw08.BsiCompares'. -/
def bsiComparesCard : Claim7 := { stood := { row := bsiComparesRow, standIns := [], harness := (true, "11156c8c807c4187a5b657fcbccf3d2cfebf488d9c3f618fc451da7f4e3a9a19"), looks := false }, kinds := [], alts := [], laidByText := true, laidKinds := [.data], laidTests := true, laidLooks := .later }
def BsiComparesCardSaid : Prop := Claim7.holds Tryd.pinned (.plain (OpenSpec.ofChange bsiComparesSpec)) bsiComparesCard

/-- THE TIED CARD OF 'tesseraelaw08.BsiOrders'. -/
def bsiOrdersCard : Claim7 := { stood := { row := bsiOrdersRow, standIns := [], harness := (true, "11156c8c807c4187a5b657fcbccf3d2cfebf488d9c3f618fc451da7f4e3a9a19"), looks := false }, kinds := [], alts := [], laidByText := true, laidKinds := [.data], laidTests := true, laidLooks := .later }
def BsiOrdersCardSaid : Prop := Claim7.holds Tryd.pinned (.plain (OpenSpec.ofChange bsiOrdersSpec)) bsiOrdersCard

/-- THE SECOND FORM's CARD OF 'tesseraelaw08.BsiHalves'. -/
def bsiHalvesUptoCard : Claim7 := { stood := { row := bsiHalvesUptoRow, standIns := [], harness := (true, "11156c8c807c4187a5b657fcbccf3d2cfebf488d9c3f618fc451da7f4e3a9a19"), looks := false }, kinds := [], alts := [], laidByText := true, laidKinds := [.data], laidTests := true, laidLooks := .later }
def BsiHalvesUptoCardSaid : Prop := Claim7.holds Tryd.pinned (.plain (OpenSpec.upto bsiHalvesSpec)) bsiHalvesUptoCard

/-- THE SECOND FORM's CARD OF 'tesseraelaw08.BsiBuilds'. -/
def bsiBuildsUptoCard : Claim7 := { stood := { row := bsiBuildsUptoRow, standIns := [], harness := (true, "11156c8c807c4187a5b657fcbccf3d2cfebf488d9c3f618fc451da7f4e3a9a19"), looks := false }, kinds := [], alts := [], laidByText := true, laidKinds := [.data], laidTests := true, laidLooks := .later }
def BsiBuildsUptoCardSaid : Prop := Claim7.holds Tryd.pinned (.plain (OpenSpec.upto bsiBuildsSpec)) bsiBuildsUptoCard

/-- THE SECOND FORM's CARD OF 'tesseraelaw08.BsiBack'. -/
def bsiBackUptoCard : Claim7 := { stood := { row := bsiBackUptoRow, standIns := [], harness := (true, "11156c8c807c4187a5b657fcbccf3d2cfebf488d9c3f618fc451da7f4e3a9a19"), looks := false }, kinds := [], alts := [], laidByText := true, laidKinds := [.data], laidTests := true, laidLooks := .later }
def BsiBackUptoCardSaid : Prop := Claim7.holds Tryd.pinned (.plain (OpenSpec.upto bsiBackSpec)) bsiBackUptoCard

/-- THE SECOND FORM's CARD OF 'tesseraelaw08.BsiSums'. -/
def bsiSumsUptoCard : Claim7 := { stood := { row := bsiSumsUptoRow, standIns := [], harness := (true, "11156c8c807c4187a5b657fcbccf3d2cfebf488d9c3f618fc451da7f4e3a9a19"), looks := false }, kinds := [], alts := [], laidByText := true, laidKinds := [.data], laidTests := true, laidLooks := .later }
def BsiSumsUptoCardSaid : Prop := Claim7.holds Tryd.pinned (.plain (OpenSpec.upto bsiSumsSpec)) bsiSumsUptoCard

/-- THE SECOND FORM's CARD OF 'tesseraelaw08.BsiParts'. -/
def bsiPartsUptoCard : Claim7 := { stood := { row := bsiPartsUptoRow, standIns := [], harness := (true, "11156c8c807c4187a5b657fcbccf3d2cfebf488d9c3f618fc451da7f4e3a9a19"), looks := false }, kinds := [], alts := [], laidByText := true, laidKinds := [.data], laidTests := true, laidLooks := .later }
def BsiPartsUptoCardSaid : Prop := Claim7.holds Tryd.pinned (.plain (OpenSpec.upto bsiPartsSpec)) bsiPartsUptoCard

/-- THE SECOND FORM's CARD OF 'tesseraelaw08.BsiCompares'. -/
def bsiComparesUptoCard : Claim7 := { stood := { row := bsiComparesUptoRow, standIns := [], harness := (true, "11156c8c807c4187a5b657fcbccf3d2cfebf488d9c3f618fc451da7f4e3a9a19"), looks := false }, kinds := [], alts := [], laidByText := true, laidKinds := [.data], laidTests := true, laidLooks := .later }
def BsiComparesUptoCardSaid : Prop := Claim7.holds Tryd.pinned (.plain (OpenSpec.upto bsiComparesSpec)) bsiComparesUptoCard

/-- THE SECOND FORM's CARD OF 'tesseraelaw08.BsiOrders'. -/
def bsiOrdersUptoCard : Claim7 := { stood := { row := bsiOrdersUptoRow, standIns := [], harness := (true, "11156c8c807c4187a5b657fcbccf3d2cfebf488d9c3f618fc451da7f4e3a9a19"), looks := false }, kinds := [], alts := [], laidByText := true, laidKinds := [.data], laidTests := true, laidLooks := .later }
def BsiOrdersUptoCardSaid : Prop := Claim7.holds Tryd.pinned (.plain (OpenSpec.upto bsiOrdersSpec)) bsiOrdersUptoCard
end Rows
end Go.Proofs.YtnigpmbpipmgfaaDoor
