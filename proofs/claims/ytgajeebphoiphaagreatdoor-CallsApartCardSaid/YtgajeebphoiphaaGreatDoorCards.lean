/-
  DERIVED. GIVEN WITH THE SEED: THE CARDS: each row of YtgajeebphoiphaaGreatDoorRows.lean that lists a variable, with what it lists TIED to the program's text (the seventh form; the later family's looks); each row that meets fmt, with fmt's text TOLD by the authors' own Lean function (tested against real Go, not proved from fmt's source: count such statements apart). THE CARD IS WHAT COUNTS. Prove the row's statement (the work); the ties are given (YtgajeebphoiphaaGreatDoorTie.lean); close each card by the builder's one call (the guide's Derived/Test/ToyasCard.lean, 'card_holds'). Laid BY PROGRAM, IN A SANDBOX (cutbox-door.mjs). By AI agents, Wed Nov 11 2026. No macro, syntax, notation, axiom, sorry.
-/
import Derived.Test.YtgajeebphoiphaaGreatDoorRows
import GoSem.ClaimSeven
namespace Go.Proofs.YtgajeebphoiphaaGreatDoor
namespace Rows

/-- THE TIED CARD OF 'bulkheadlaw25.CallsWalls'. -/
def callsWallsCard : Claim7 := { stood := { row := callsWallsRow, standIns := [], harness := (true, "ddf860b2168d7394d4407c3c0b13b1ef816d673eba6bc4ee52ea3ad87f4a496f"), looks := true }, kinds := [], alts := [], laidByText := true, laidKinds := [.data, .data], laidTests := true, laidLooks := .later }
def CallsWallsCardSaid : Prop := Claim7.holds Tryz.pinned (.plain (OpenSpec.ofChange callsWallsSpec)) callsWallsCard

/-- THE TIED CARD OF 'bulkheadlaw25.CallsApart'. -/
def callsApartCard : Claim7 := { stood := { row := callsApartRow, standIns := [], harness := (true, "ddf860b2168d7394d4407c3c0b13b1ef816d673eba6bc4ee52ea3ad87f4a496f"), looks := true }, kinds := [], alts := [], laidByText := true, laidKinds := [.data, .data], laidTests := true, laidLooks := .later }
def CallsApartCardSaid : Prop := Claim7.holds Tryz.pinned (.plain (OpenSpec.ofChange callsApartSpec)) callsApartCard

/-- THE TIED CARD OF 'bulkheadlaw25.CallsCarry'. -/
def callsCarryCard : Claim7 := { stood := { row := callsCarryRow, standIns := [], harness := (true, "ddf860b2168d7394d4407c3c0b13b1ef816d673eba6bc4ee52ea3ad87f4a496f"), looks := true }, kinds := [], alts := [], laidByText := true, laidKinds := [.data, .data], laidTests := true, laidLooks := .later }
def CallsCarryCardSaid : Prop := Claim7.holds Tryz.pinned (.plain (OpenSpec.ofChange callsCarrySpec)) callsCarryCard

/-- THE SECOND FORM's CARD OF 'bulkheadlaw25.CallsWalls'. -/
def callsWallsUptoCard : Claim7 := { stood := { row := callsWallsUptoRow, standIns := [], harness := (true, "ddf860b2168d7394d4407c3c0b13b1ef816d673eba6bc4ee52ea3ad87f4a496f"), looks := true }, kinds := [], alts := [], laidByText := true, laidKinds := [.data, .data], laidTests := true, laidLooks := .later }
def CallsWallsUptoCardSaid : Prop := Claim7.holds Tryz.pinned (.plain (OpenSpec.upto callsWallsSpec)) callsWallsUptoCard

/-- THE SECOND FORM's CARD OF 'bulkheadlaw25.CallsApart'. -/
def callsApartUptoCard : Claim7 := { stood := { row := callsApartUptoRow, standIns := [], harness := (true, "ddf860b2168d7394d4407c3c0b13b1ef816d673eba6bc4ee52ea3ad87f4a496f"), looks := true }, kinds := [], alts := [], laidByText := true, laidKinds := [.data, .data], laidTests := true, laidLooks := .later }
def CallsApartUptoCardSaid : Prop := Claim7.holds Tryz.pinned (.plain (OpenSpec.upto callsApartSpec)) callsApartUptoCard

/-- THE SECOND FORM's CARD OF 'bulkheadlaw25.CallsCarry'. -/
def callsCarryUptoCard : Claim7 := { stood := { row := callsCarryUptoRow, standIns := [], harness := (true, "ddf860b2168d7394d4407c3c0b13b1ef816d673eba6bc4ee52ea3ad87f4a496f"), looks := true }, kinds := [], alts := [], laidByText := true, laidKinds := [.data, .data], laidTests := true, laidLooks := .later }
def CallsCarryUptoCardSaid : Prop := Claim7.holds Tryz.pinned (.plain (OpenSpec.upto callsCarrySpec)) callsCarryUptoCard
end Rows
end Go.Proofs.YtgajeebphoiphaaGreatDoor
