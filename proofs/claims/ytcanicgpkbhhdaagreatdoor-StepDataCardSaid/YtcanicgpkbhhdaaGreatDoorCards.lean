/-
  DERIVED. GIVEN WITH THE SEED: THE CARDS: each row of YtcanicgpkbhhdaaGreatDoorRows.lean that lists a variable, with what it lists TIED to the program's text (the seventh form; the later family's looks); each row that meets fmt, with fmt's text TOLD by the authors' own Lean function (tested against real Go, not proved from fmt's source: count such statements apart). THE CARD IS WHAT COUNTS. Prove the row's statement (the work); the ties are given (YtcanicgpkbhhdaaGreatDoorTie.lean); close each card by the builder's one call (the guide's Derived/Test/ToyasCard.lean, 'card_holds'). Laid BY PROGRAM, IN A SANDBOX (cutbox-door.mjs). By AI agents, Wed Nov 11 2026. No macro, syntax, notation, axiom, sorry.
-/
import Derived.Test.YtcanicgpkbhhdaaGreatDoorRows
import GoSem.ClaimSeven
namespace Go.Proofs.YtcanicgpkbhhdaaGreatDoor
namespace Rows

/-- THE TIED CARD OF 'vouchlaw12.StepReckons'. -/
def stepReckonsCard : Claim7 := { stood := { row := stepReckonsRow, standIns := [], harness := (true, "03acbbbb9709fa3007aafccb0d85c808e2076622f421431a16773f843015ab77"), looks := true }, kinds := [], alts := [], laidByText := true, laidKinds := [.data, .data, .data, .data, .data], laidTests := true, laidLooks := .later }
def StepReckonsCardSaid : Prop := Claim7.holds Tryz.pinned (.plain (OpenSpec.ofChange stepReckonsSpec)) stepReckonsCard

/-- THE TIED CARD OF 'vouchlaw12.StepRows'. -/
def stepRowsCard : Claim7 := { stood := { row := stepRowsRow, standIns := [], harness := (true, "03acbbbb9709fa3007aafccb0d85c808e2076622f421431a16773f843015ab77"), looks := true }, kinds := [], alts := [], laidByText := true, laidKinds := [.data, .data, .data, .data, .data], laidTests := true, laidLooks := .later }
def StepRowsCardSaid : Prop := Claim7.holds Tryz.pinned (.plain (OpenSpec.ofChange stepRowsSpec)) stepRowsCard

/-- THE TIED CARD OF 'vouchlaw12.StepFacts'. -/
def stepFactsCard : Claim7 := { stood := { row := stepFactsRow, standIns := [], harness := (true, "03acbbbb9709fa3007aafccb0d85c808e2076622f421431a16773f843015ab77"), looks := true }, kinds := [], alts := [], laidByText := true, laidKinds := [.data, .data, .data, .data, .data], laidTests := true, laidLooks := .later }
def StepFactsCardSaid : Prop := Claim7.holds Tryz.pinned (.plain (OpenSpec.ofChange stepFactsSpec)) stepFactsCard

/-- THE TIED CARD OF 'vouchlaw12.StepHashes'. -/
def stepHashesCard : Claim7 := { stood := { row := stepHashesRow, standIns := [], harness := (true, "03acbbbb9709fa3007aafccb0d85c808e2076622f421431a16773f843015ab77"), looks := true }, kinds := [], alts := [], laidByText := true, laidKinds := [.data, .data, .data, .data, .data], laidTests := true, laidLooks := .later }
def StepHashesCardSaid : Prop := Claim7.holds Tryz.pinned (.plain (OpenSpec.ofChange stepHashesSpec)) stepHashesCard

/-- THE TIED CARD OF 'vouchlaw12.StepData'. -/
def stepDataCard : Claim7 := { stood := { row := stepDataRow, standIns := [], harness := (true, "03acbbbb9709fa3007aafccb0d85c808e2076622f421431a16773f843015ab77"), looks := true }, kinds := [], alts := [], laidByText := true, laidKinds := [.data, .data, .data, .data, .data], laidTests := true, laidLooks := .later }
def StepDataCardSaid : Prop := Claim7.holds Tryz.pinned (.plain (OpenSpec.ofChange stepDataSpec)) stepDataCard

/-- THE SECOND FORM's CARD OF 'vouchlaw12.StepReckons'. -/
def stepReckonsUptoCard : Claim7 := { stood := { row := stepReckonsUptoRow, standIns := [], harness := (true, "03acbbbb9709fa3007aafccb0d85c808e2076622f421431a16773f843015ab77"), looks := true }, kinds := [], alts := [], laidByText := true, laidKinds := [.data, .data, .data, .data, .data], laidTests := true, laidLooks := .later }
def StepReckonsUptoCardSaid : Prop := Claim7.holds Tryz.pinned (.plain (OpenSpec.upto stepReckonsSpec)) stepReckonsUptoCard

/-- THE SECOND FORM's CARD OF 'vouchlaw12.StepRows'. -/
def stepRowsUptoCard : Claim7 := { stood := { row := stepRowsUptoRow, standIns := [], harness := (true, "03acbbbb9709fa3007aafccb0d85c808e2076622f421431a16773f843015ab77"), looks := true }, kinds := [], alts := [], laidByText := true, laidKinds := [.data, .data, .data, .data, .data], laidTests := true, laidLooks := .later }
def StepRowsUptoCardSaid : Prop := Claim7.holds Tryz.pinned (.plain (OpenSpec.upto stepRowsSpec)) stepRowsUptoCard

/-- THE SECOND FORM's CARD OF 'vouchlaw12.StepFacts'. -/
def stepFactsUptoCard : Claim7 := { stood := { row := stepFactsUptoRow, standIns := [], harness := (true, "03acbbbb9709fa3007aafccb0d85c808e2076622f421431a16773f843015ab77"), looks := true }, kinds := [], alts := [], laidByText := true, laidKinds := [.data, .data, .data, .data, .data], laidTests := true, laidLooks := .later }
def StepFactsUptoCardSaid : Prop := Claim7.holds Tryz.pinned (.plain (OpenSpec.upto stepFactsSpec)) stepFactsUptoCard

/-- THE SECOND FORM's CARD OF 'vouchlaw12.StepHashes'. -/
def stepHashesUptoCard : Claim7 := { stood := { row := stepHashesUptoRow, standIns := [], harness := (true, "03acbbbb9709fa3007aafccb0d85c808e2076622f421431a16773f843015ab77"), looks := true }, kinds := [], alts := [], laidByText := true, laidKinds := [.data, .data, .data, .data, .data], laidTests := true, laidLooks := .later }
def StepHashesUptoCardSaid : Prop := Claim7.holds Tryz.pinned (.plain (OpenSpec.upto stepHashesSpec)) stepHashesUptoCard

/-- THE SECOND FORM's CARD OF 'vouchlaw12.StepData'. -/
def stepDataUptoCard : Claim7 := { stood := { row := stepDataUptoRow, standIns := [], harness := (true, "03acbbbb9709fa3007aafccb0d85c808e2076622f421431a16773f843015ab77"), looks := true }, kinds := [], alts := [], laidByText := true, laidKinds := [.data, .data, .data, .data, .data], laidTests := true, laidLooks := .later }
def StepDataUptoCardSaid : Prop := Claim7.holds Tryz.pinned (.plain (OpenSpec.upto stepDataSpec)) stepDataUptoCard
end Rows
end Go.Proofs.YtcanicgpkbhhdaaGreatDoor
