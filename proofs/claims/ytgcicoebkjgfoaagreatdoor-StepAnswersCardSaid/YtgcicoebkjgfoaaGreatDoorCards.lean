/-
  DERIVED. GIVEN WITH THE SEED: THE CARDS: each row of YtgcicoebkjgfoaaGreatDoorRows.lean that lists a variable, with what it lists TIED to the program's text (the seventh form; the later family's looks); each row that meets fmt, with fmt's text TOLD by the authors' own Lean function (tested against real Go, not proved from fmt's source: count such statements apart). THE CARD IS WHAT COUNTS. Prove the row's statement (the work); the ties are given (YtgcicoebkjgfoaaGreatDoorTie.lean); close each card by the builder's one call (the guide's Derived/Test/ToyasCard.lean, 'card_holds'). Laid BY PROGRAM, IN A SANDBOX (cutbox-door.mjs). By AI agents, Wed Nov 11 2026. No macro, syntax, notation, axiom, sorry.
-/
import Derived.Test.YtgcicoebkjgfoaaGreatDoorRows
import GoSem.ClaimSeven
namespace Go.Proofs.YtgcicoebkjgfoaaGreatDoor
namespace Rows

/-- THE TIED CARD OF 'vouchlaw12.StepSentry'. -/
def stepSentryCard : Claim7 := { stood := { row := stepSentryRow, standIns := [], harness := (true, "c94c3ca7b3dceb2165ec352c90bafeb20b9f5a1afa68591f352fb631375b65cb"), looks := true }, kinds := [], alts := [], laidByText := true, laidKinds := [.data, .data, .data, .data, .data], laidTests := true, laidLooks := .later }
def StepSentryCardSaid : Prop := Claim7.holds Tryz.pinned (.plain (OpenSpec.ofChange stepSentrySpec)) stepSentryCard

/-- THE TIED CARD OF 'vouchlaw12.StepNonces'. -/
def stepNoncesCard : Claim7 := { stood := { row := stepNoncesRow, standIns := [], harness := (true, "c94c3ca7b3dceb2165ec352c90bafeb20b9f5a1afa68591f352fb631375b65cb"), looks := true }, kinds := [], alts := [], laidByText := true, laidKinds := [.data, .data, .data, .data, .data], laidTests := true, laidLooks := .later }
def StepNoncesCardSaid : Prop := Claim7.holds Tryz.pinned (.plain (OpenSpec.ofChange stepNoncesSpec)) stepNoncesCard

/-- THE TIED CARD OF 'vouchlaw12.StepLight'. -/
def stepLightCard : Claim7 := { stood := { row := stepLightRow, standIns := [], harness := (true, "c94c3ca7b3dceb2165ec352c90bafeb20b9f5a1afa68591f352fb631375b65cb"), looks := true }, kinds := [], alts := [], laidByText := true, laidKinds := [.data, .data, .data, .data, .data], laidTests := true, laidLooks := .later }
def StepLightCardSaid : Prop := Claim7.holds Tryz.pinned (.plain (OpenSpec.ofChange stepLightSpec)) stepLightCard

/-- THE TIED CARD OF 'vouchlaw12.StepAnswers'. -/
def stepAnswersCard : Claim7 := { stood := { row := stepAnswersRow, standIns := [], harness := (true, "c94c3ca7b3dceb2165ec352c90bafeb20b9f5a1afa68591f352fb631375b65cb"), looks := true }, kinds := [], alts := [], laidByText := true, laidKinds := [.data, .data, .data, .data, .data], laidTests := true, laidLooks := .later }
def StepAnswersCardSaid : Prop := Claim7.holds Tryz.pinned (.plain (OpenSpec.ofChange stepAnswersSpec)) stepAnswersCard

/-- THE SECOND FORM's CARD OF 'vouchlaw12.StepSentry'. -/
def stepSentryUptoCard : Claim7 := { stood := { row := stepSentryUptoRow, standIns := [], harness := (true, "c94c3ca7b3dceb2165ec352c90bafeb20b9f5a1afa68591f352fb631375b65cb"), looks := true }, kinds := [], alts := [], laidByText := true, laidKinds := [.data, .data, .data, .data, .data], laidTests := true, laidLooks := .later }
def StepSentryUptoCardSaid : Prop := Claim7.holds Tryz.pinned (.plain (OpenSpec.upto stepSentrySpec)) stepSentryUptoCard

/-- THE SECOND FORM's CARD OF 'vouchlaw12.StepNonces'. -/
def stepNoncesUptoCard : Claim7 := { stood := { row := stepNoncesUptoRow, standIns := [], harness := (true, "c94c3ca7b3dceb2165ec352c90bafeb20b9f5a1afa68591f352fb631375b65cb"), looks := true }, kinds := [], alts := [], laidByText := true, laidKinds := [.data, .data, .data, .data, .data], laidTests := true, laidLooks := .later }
def StepNoncesUptoCardSaid : Prop := Claim7.holds Tryz.pinned (.plain (OpenSpec.upto stepNoncesSpec)) stepNoncesUptoCard

/-- THE SECOND FORM's CARD OF 'vouchlaw12.StepLight'. -/
def stepLightUptoCard : Claim7 := { stood := { row := stepLightUptoRow, standIns := [], harness := (true, "c94c3ca7b3dceb2165ec352c90bafeb20b9f5a1afa68591f352fb631375b65cb"), looks := true }, kinds := [], alts := [], laidByText := true, laidKinds := [.data, .data, .data, .data, .data], laidTests := true, laidLooks := .later }
def StepLightUptoCardSaid : Prop := Claim7.holds Tryz.pinned (.plain (OpenSpec.upto stepLightSpec)) stepLightUptoCard

/-- THE SECOND FORM's CARD OF 'vouchlaw12.StepAnswers'. -/
def stepAnswersUptoCard : Claim7 := { stood := { row := stepAnswersUptoRow, standIns := [], harness := (true, "c94c3ca7b3dceb2165ec352c90bafeb20b9f5a1afa68591f352fb631375b65cb"), looks := true }, kinds := [], alts := [], laidByText := true, laidKinds := [.data, .data, .data, .data, .data], laidTests := true, laidLooks := .later }
def StepAnswersUptoCardSaid : Prop := Claim7.holds Tryz.pinned (.plain (OpenSpec.upto stepAnswersSpec)) stepAnswersUptoCard
end Rows
end Go.Proofs.YtgcicoebkjgfoaaGreatDoor
