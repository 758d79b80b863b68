/-
  DERIVED. GIVEN WITH THE SEED: THE CARDS: each row of YtalnfbkmlllfhaaDoorRows.lean that lists a variable, with what it lists TIED to the program's text (the seventh form; the later family's looks); each row that meets fmt, with fmt's text TOLD by the authors' own Lean function (tested against real Go, not proved from fmt's source: count such statements apart). THE CARD IS WHAT COUNTS. Prove the row's statement (the work); the ties are given (YtalnfbkmlllfhaaDoorTie.lean); close each card by the builder's one call (the guide's Derived/Test/ToyasCard.lean, 'card_holds'). Laid BY PROGRAM, IN A SANDBOX (cutbox-door.mjs). By AI agents, Wed Nov 11 2026. No macro, syntax, notation, axiom, sorry.
-/
import Derived.Test.YtalnfbkmlllfhaaDoorRows
import GoSem.ClaimSeven
namespace Go.Proofs.YtalnfbkmlllfhaaDoor
namespace Rows

/-- THE TIED CARD OF 'tesseraelaw07.RoarOps'. -/
def roarOpsCard : Claim7 := { stood := { row := roarOpsRow, standIns := [], harness := (true, "9092ec2933243f7c79c42b73ba3c15af23bc0b3b6f6bafb13cf76795b90235a3"), looks := true }, kinds := [], alts := [], laidByText := true, laidKinds := [.data], laidTests := true, laidLooks := .later }
def RoarOpsCardSaid : Prop := Claim7.holds Tryd.pinned (.plain (OpenSpec.ofChange roarOpsSpec)) roarOpsCard

/-- THE TIED CARD OF 'tesseraelaw07.RoarSpans'. -/
def roarSpansCard : Claim7 := { stood := { row := roarSpansRow, standIns := [], harness := (true, "9092ec2933243f7c79c42b73ba3c15af23bc0b3b6f6bafb13cf76795b90235a3"), looks := true }, kinds := [], alts := [], laidByText := true, laidKinds := [.data], laidTests := true, laidLooks := .later }
def RoarSpansCardSaid : Prop := Claim7.holds Tryd.pinned (.plain (OpenSpec.ofChange roarSpansSpec)) roarSpansCard

/-- THE TIED CARD OF 'tesseraelaw07.RoarRules'. -/
def roarRulesCard : Claim7 := { stood := { row := roarRulesRow, standIns := [], harness := (true, "9092ec2933243f7c79c42b73ba3c15af23bc0b3b6f6bafb13cf76795b90235a3"), looks := true }, kinds := [], alts := [], laidByText := true, laidKinds := [.data], laidTests := true, laidLooks := .later }
def RoarRulesCardSaid : Prop := Claim7.holds Tryd.pinned (.plain (OpenSpec.ofChange roarRulesSpec)) roarRulesCard

/-- THE TIED CARD OF 'tesseraelaw07.RoarMakes'. -/
def roarMakesCard : Claim7 := { stood := { row := roarMakesRow, standIns := [], harness := (true, "9092ec2933243f7c79c42b73ba3c15af23bc0b3b6f6bafb13cf76795b90235a3"), looks := true }, kinds := [], alts := [], laidByText := true, laidKinds := [.data], laidTests := true, laidLooks := .later }
def RoarMakesCardSaid : Prop := Claim7.holds Tryd.pinned (.plain (OpenSpec.ofChange roarMakesSpec)) roarMakesCard

/-- THE TIED CARD OF 'tesseraelaw07.RoarPlaces'. -/
def roarPlacesCard : Claim7 := { stood := { row := roarPlacesRow, standIns := [], harness := (true, "9092ec2933243f7c79c42b73ba3c15af23bc0b3b6f6bafb13cf76795b90235a3"), looks := true }, kinds := [], alts := [], laidByText := true, laidKinds := [.data], laidTests := true, laidLooks := .later }
def RoarPlacesCardSaid : Prop := Claim7.holds Tryd.pinned (.plain (OpenSpec.ofChange roarPlacesSpec)) roarPlacesCard

/-- THE TIED CARD OF 'tesseraelaw07.RoarCodes'. -/
def roarCodesCard : Claim7 := { stood := { row := roarCodesRow, standIns := [], harness := (true, "9092ec2933243f7c79c42b73ba3c15af23bc0b3b6f6bafb13cf76795b90235a3"), looks := true }, kinds := [], alts := [], laidByText := true, laidKinds := [.data, .sentinel, .sentinel, .sentinel, .sentinel], laidTests := true, laidLooks := .later }
def RoarCodesCardSaid : Prop := Claim7.holds Tryd.pinned (.plain (OpenSpec.ofChange roarCodesSpec)) roarCodesCard

/-- THE TIED CARD OF 'tesseraelaw07.RoarBack'. -/
def roarBackCard : Claim7 := { stood := { row := roarBackRow, standIns := [], harness := (true, "9092ec2933243f7c79c42b73ba3c15af23bc0b3b6f6bafb13cf76795b90235a3"), looks := true }, kinds := [], alts := [], laidByText := true, laidKinds := [.data, .sentinel, .sentinel, .sentinel, .sentinel], laidTests := true, laidLooks := .later }
def RoarBackCardSaid : Prop := Claim7.holds Tryd.pinned (.plain (OpenSpec.ofChange roarBackSpec)) roarBackCard

/-- THE SECOND FORM's CARD OF 'tesseraelaw07.RoarOps'. -/
def roarOpsUptoCard : Claim7 := { stood := { row := roarOpsUptoRow, standIns := [], harness := (true, "9092ec2933243f7c79c42b73ba3c15af23bc0b3b6f6bafb13cf76795b90235a3"), looks := true }, kinds := [], alts := [], laidByText := true, laidKinds := [.data], laidTests := true, laidLooks := .later }
def RoarOpsUptoCardSaid : Prop := Claim7.holds Tryd.pinned (.plain (OpenSpec.upto roarOpsSpec)) roarOpsUptoCard

/-- THE SECOND FORM's CARD OF 'tesseraelaw07.RoarSpans'. -/
def roarSpansUptoCard : Claim7 := { stood := { row := roarSpansUptoRow, standIns := [], harness := (true, "9092ec2933243f7c79c42b73ba3c15af23bc0b3b6f6bafb13cf76795b90235a3"), looks := true }, kinds := [], alts := [], laidByText := true, laidKinds := [.data], laidTests := true, laidLooks := .later }
def RoarSpansUptoCardSaid : Prop := Claim7.holds Tryd.pinned (.plain (OpenSpec.upto roarSpansSpec)) roarSpansUptoCard

/-- THE SECOND FORM's CARD OF 'tesseraelaw07.RoarRules'. -/
def roarRulesUptoCard : Claim7 := { stood := { row := roarRulesUptoRow, standIns := [], harness := (true, "9092ec2933243f7c79c42b73ba3c15af23bc0b3b6f6bafb13cf76795b90235a3"), looks := true }, kinds := [], alts := [], laidByText := true, laidKinds := [.data], laidTests := true, laidLooks := .later }
def RoarRulesUptoCardSaid : Prop := Claim7.holds Tryd.pinned (.plain (OpenSpec.upto roarRulesSpec)) roarRulesUptoCard

/-- THE SECOND FORM's CARD OF 'tesseraelaw07.RoarMakes'. -/
def roarMakesUptoCard : Claim7 := { stood := { row := roarMakesUptoRow, standIns := [], harness := (true, "9092ec2933243f7c79c42b73ba3c15af23bc0b3b6f6bafb13cf76795b90235a3"), looks := true }, kinds := [], alts := [], laidByText := true, laidKinds := [.data], laidTests := true, laidLooks := .later }
def RoarMakesUptoCardSaid : Prop := Claim7.holds Tryd.pinned (.plain (OpenSpec.upto roarMakesSpec)) roarMakesUptoCard

/-- THE SECOND FORM's CARD OF 'tesseraelaw07.RoarPlaces'. -/
def roarPlacesUptoCard : Claim7 := { stood := { row := roarPlacesUptoRow, standIns := [], harness := (true, "9092ec2933243f7c79c42b73ba3c15af23bc0b3b6f6bafb13cf76795b90235a3"), looks := true }, kinds := [], alts := [], laidByText := true, laidKinds := [.data], laidTests := true, laidLooks := .later }
def RoarPlacesUptoCardSaid : Prop := Claim7.holds Tryd.pinned (.plain (OpenSpec.upto roarPlacesSpec)) roarPlacesUptoCard

/-- THE SECOND FORM's CARD OF 'tesseraelaw07.RoarCodes'. -/
def roarCodesUptoCard : Claim7 := { stood := { row := roarCodesUptoRow, standIns := [], harness := (true, "9092ec2933243f7c79c42b73ba3c15af23bc0b3b6f6bafb13cf76795b90235a3"), looks := true }, kinds := [], alts := [], laidByText := true, laidKinds := [.data, .sentinel, .sentinel, .sentinel, .sentinel], laidTests := true, laidLooks := .later }
def RoarCodesUptoCardSaid : Prop := Claim7.holds Tryd.pinned (.plain (OpenSpec.upto roarCodesSpec)) roarCodesUptoCard

/-- THE SECOND FORM's CARD OF 'tesseraelaw07.RoarBack'. -/
def roarBackUptoCard : Claim7 := { stood := { row := roarBackUptoRow, standIns := [], harness := (true, "9092ec2933243f7c79c42b73ba3c15af23bc0b3b6f6bafb13cf76795b90235a3"), looks := true }, kinds := [], alts := [], laidByText := true, laidKinds := [.data, .sentinel, .sentinel, .sentinel, .sentinel], laidTests := true, laidLooks := .later }
def RoarBackUptoCardSaid : Prop := Claim7.holds Tryd.pinned (.plain (OpenSpec.upto roarBackSpec)) roarBackUptoCard
end Rows
end Go.Proofs.YtalnfbkmlllfhaaDoor
