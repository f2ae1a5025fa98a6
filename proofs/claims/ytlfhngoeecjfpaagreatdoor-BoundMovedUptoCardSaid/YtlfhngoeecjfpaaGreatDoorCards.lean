/-
  DERIVED. GIVEN WITH THE SEED: THE CARDS: each row of YtlfhngoeecjfpaaGreatDoorRows.lean that lists a variable, with what it lists TIED to the program's text (the seventh form; the later family's looks); each row that meets fmt, with fmt's text TOLD by the authors' own Lean function (tested against real Go, not proved from fmt's source: count such statements apart). THE CARD IS WHAT COUNTS. Prove the row's statement (the work); the ties are given (YtlfhngoeecjfpaaGreatDoorTie.lean); close each card by the builder's one call (the guide's Derived/Test/ToyasCard.lean, 'card_holds'). Laid BY PROGRAM, IN A SANDBOX (cutbox-door.mjs). By AI agents, Wed Nov 11 2026. No macro, syntax, notation, axiom, sorry.
-/
import Derived.Test.YtlfhngoeecjfpaaGreatDoorRows
import GoSem.ClaimSeven
namespace Go.Proofs.YtlfhngoeecjfpaaGreatDoor
namespace Rows

/-- THE TIED CARD OF 'vouchlaw21.BoundOf'. -/
def boundOfCard : Claim7 := { stood := { row := boundOfRow, standIns := [], harness := (true, "dc9afb6852c1ea109db2aa21512e031f13dfb43ddb271a136be7a0a4e515edf5"), looks := true }, kinds := [], alts := [], laidByText := true, laidKinds := [.data, .data, .data], laidTests := true, laidLooks := .later }
def BoundOfCardSaid : Prop := Claim7.holds Tryz.pinned (.plain (OpenSpec.ofChange boundOfSpec)) boundOfCard

/-- THE TIED CARD OF 'vouchlaw21.BoundTurns'. -/
def boundTurnsCard : Claim7 := { stood := { row := boundTurnsRow, standIns := [], harness := (true, "dc9afb6852c1ea109db2aa21512e031f13dfb43ddb271a136be7a0a4e515edf5"), looks := true }, kinds := [], alts := [], laidByText := true, laidKinds := [.data, .data, .data], laidTests := true, laidLooks := .later }
def BoundTurnsCardSaid : Prop := Claim7.holds Tryz.pinned (.plain (OpenSpec.ofChange boundTurnsSpec)) boundTurnsCard

/-- THE TIED CARD OF 'vouchlaw21.BoundTower'. -/
def boundTowerCard : Claim7 := { stood := { row := boundTowerRow, standIns := [], harness := (true, "dc9afb6852c1ea109db2aa21512e031f13dfb43ddb271a136be7a0a4e515edf5"), looks := true }, kinds := [], alts := [], laidByText := true, laidKinds := [.data, .data, .data], laidTests := true, laidLooks := .later }
def BoundTowerCardSaid : Prop := Claim7.holds Tryz.pinned (.plain (OpenSpec.ofChange boundTowerSpec)) boundTowerCard

/-- THE TIED CARD OF 'vouchlaw21.BoundWalks'. -/
def boundWalksCard : Claim7 := { stood := { row := boundWalksRow, standIns := [], harness := (true, "dc9afb6852c1ea109db2aa21512e031f13dfb43ddb271a136be7a0a4e515edf5"), looks := true }, kinds := [], alts := [], laidByText := true, laidKinds := [.data, .data, .data], laidTests := true, laidLooks := .later }
def BoundWalksCardSaid : Prop := Claim7.holds Tryz.pinned (.plain (OpenSpec.ofChange boundWalksSpec)) boundWalksCard

/-- THE TIED CARD OF 'vouchlaw21.BoundMet'. -/
def boundMetCard : Claim7 := { stood := { row := boundMetRow, standIns := [], harness := (true, "dc9afb6852c1ea109db2aa21512e031f13dfb43ddb271a136be7a0a4e515edf5"), looks := true }, kinds := [], alts := [], laidByText := true, laidKinds := [.data, .data, .data], laidTests := true, laidLooks := .later }
def BoundMetCardSaid : Prop := Claim7.holds Tryz.pinned (.plain (OpenSpec.ofChange boundMetSpec)) boundMetCard

/-- THE TIED CARD OF 'vouchlaw21.BoundCircles'. -/
def boundCirclesCard : Claim7 := { stood := { row := boundCirclesRow, standIns := [], harness := (true, "dc9afb6852c1ea109db2aa21512e031f13dfb43ddb271a136be7a0a4e515edf5"), looks := true }, kinds := [], alts := [], laidByText := true, laidKinds := [.data, .data, .data], laidTests := true, laidLooks := .later }
def BoundCirclesCardSaid : Prop := Claim7.holds Tryz.pinned (.plain (OpenSpec.ofChange boundCirclesSpec)) boundCirclesCard

/-- THE TIED CARD OF 'vouchlaw21.BoundMoved'. -/
def boundMovedCard : Claim7 := { stood := { row := boundMovedRow, standIns := [], harness := (true, "dc9afb6852c1ea109db2aa21512e031f13dfb43ddb271a136be7a0a4e515edf5"), looks := true }, kinds := [], alts := [], laidByText := true, laidKinds := [.data, .data, .data], laidTests := true, laidLooks := .later }
def BoundMovedCardSaid : Prop := Claim7.holds Tryz.pinned (.plain (OpenSpec.ofChange boundMovedSpec)) boundMovedCard

/-- THE SECOND FORM's CARD OF 'vouchlaw21.BoundOf'. -/
def boundOfUptoCard : Claim7 := { stood := { row := boundOfUptoRow, standIns := [], harness := (true, "dc9afb6852c1ea109db2aa21512e031f13dfb43ddb271a136be7a0a4e515edf5"), looks := true }, kinds := [], alts := [], laidByText := true, laidKinds := [.data, .data, .data], laidTests := true, laidLooks := .later }
def BoundOfUptoCardSaid : Prop := Claim7.holds Tryz.pinned (.plain (OpenSpec.upto boundOfSpec)) boundOfUptoCard

/-- THE SECOND FORM's CARD OF 'vouchlaw21.BoundTurns'. -/
def boundTurnsUptoCard : Claim7 := { stood := { row := boundTurnsUptoRow, standIns := [], harness := (true, "dc9afb6852c1ea109db2aa21512e031f13dfb43ddb271a136be7a0a4e515edf5"), looks := true }, kinds := [], alts := [], laidByText := true, laidKinds := [.data, .data, .data], laidTests := true, laidLooks := .later }
def BoundTurnsUptoCardSaid : Prop := Claim7.holds Tryz.pinned (.plain (OpenSpec.upto boundTurnsSpec)) boundTurnsUptoCard

/-- THE SECOND FORM's CARD OF 'vouchlaw21.BoundTower'. -/
def boundTowerUptoCard : Claim7 := { stood := { row := boundTowerUptoRow, standIns := [], harness := (true, "dc9afb6852c1ea109db2aa21512e031f13dfb43ddb271a136be7a0a4e515edf5"), looks := true }, kinds := [], alts := [], laidByText := true, laidKinds := [.data, .data, .data], laidTests := true, laidLooks := .later }
def BoundTowerUptoCardSaid : Prop := Claim7.holds Tryz.pinned (.plain (OpenSpec.upto boundTowerSpec)) boundTowerUptoCard

/-- THE SECOND FORM's CARD OF 'vouchlaw21.BoundWalks'. -/
def boundWalksUptoCard : Claim7 := { stood := { row := boundWalksUptoRow, standIns := [], harness := (true, "dc9afb6852c1ea109db2aa21512e031f13dfb43ddb271a136be7a0a4e515edf5"), looks := true }, kinds := [], alts := [], laidByText := true, laidKinds := [.data, .data, .data], laidTests := true, laidLooks := .later }
def BoundWalksUptoCardSaid : Prop := Claim7.holds Tryz.pinned (.plain (OpenSpec.upto boundWalksSpec)) boundWalksUptoCard

/-- THE SECOND FORM's CARD OF 'vouchlaw21.BoundMet'. -/
def boundMetUptoCard : Claim7 := { stood := { row := boundMetUptoRow, standIns := [], harness := (true, "dc9afb6852c1ea109db2aa21512e031f13dfb43ddb271a136be7a0a4e515edf5"), looks := true }, kinds := [], alts := [], laidByText := true, laidKinds := [.data, .data, .data], laidTests := true, laidLooks := .later }
def BoundMetUptoCardSaid : Prop := Claim7.holds Tryz.pinned (.plain (OpenSpec.upto boundMetSpec)) boundMetUptoCard

/-- THE SECOND FORM's CARD OF 'vouchlaw21.BoundCircles'. -/
def boundCirclesUptoCard : Claim7 := { stood := { row := boundCirclesUptoRow, standIns := [], harness := (true, "dc9afb6852c1ea109db2aa21512e031f13dfb43ddb271a136be7a0a4e515edf5"), looks := true }, kinds := [], alts := [], laidByText := true, laidKinds := [.data, .data, .data], laidTests := true, laidLooks := .later }
def BoundCirclesUptoCardSaid : Prop := Claim7.holds Tryz.pinned (.plain (OpenSpec.upto boundCirclesSpec)) boundCirclesUptoCard

/-- THE SECOND FORM's CARD OF 'vouchlaw21.BoundMoved'. -/
def boundMovedUptoCard : Claim7 := { stood := { row := boundMovedUptoRow, standIns := [], harness := (true, "dc9afb6852c1ea109db2aa21512e031f13dfb43ddb271a136be7a0a4e515edf5"), looks := true }, kinds := [], alts := [], laidByText := true, laidKinds := [.data, .data, .data], laidTests := true, laidLooks := .later }
def BoundMovedUptoCardSaid : Prop := Claim7.holds Tryz.pinned (.plain (OpenSpec.upto boundMovedSpec)) boundMovedUptoCard
end Rows
end Go.Proofs.YtlfhngoeecjfpaaGreatDoor
