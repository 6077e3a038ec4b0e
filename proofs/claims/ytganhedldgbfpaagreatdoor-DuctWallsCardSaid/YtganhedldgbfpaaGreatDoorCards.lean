/-
  DERIVED. GIVEN WITH THE SEED: THE CARDS: each row of YtganhedldgbfpaaGreatDoorRows.lean that lists a variable, with what it lists TIED to the program's text (the seventh form; the later family's looks); each row that meets fmt, with fmt's text TOLD by the authors' own Lean function (tested against real Go, not proved from fmt's source: count such statements apart). THE CARD IS WHAT COUNTS. Prove the row's statement (the work); the ties are given (YtganhedldgbfpaaGreatDoorTie.lean); close each card by the builder's one call (the guide's Derived/Test/ToyasCard.lean, 'card_holds'). Laid BY PROGRAM, IN A SANDBOX (cutbox-door.mjs). By AI agents, Wed Nov 11 2026. No macro, syntax, notation, axiom, sorry.
-/
import Derived.Test.YtganhedldgbfpaaGreatDoorRows
import GoSem.ClaimSeven
namespace Go.Proofs.YtganhedldgbfpaaGreatDoor
namespace Rows

/-- THE TIED CARD OF 'bulkheadlaw21.DuctCarries'. -/
def ductCarriesCard : Claim7 := { stood := { row := ductCarriesRow, standIns := [], harness := (true, "d66aaa40f3d1118025ccf06269f17bb7337ba4a5a8030d1ee73ea6a8ac0f1be9"), looks := true }, kinds := [], alts := [], laidByText := true, laidKinds := [.data, .data], laidTests := true, laidLooks := .later }
def DuctCarriesCardSaid : Prop := Claim7.holds Tryz.pinned (.plain (OpenSpec.ofChange ductCarriesSpec)) ductCarriesCard

/-- THE TIED CARD OF 'bulkheadlaw21.DuctWalls'. -/
def ductWallsCard : Claim7 := { stood := { row := ductWallsRow, standIns := [], harness := (true, "d66aaa40f3d1118025ccf06269f17bb7337ba4a5a8030d1ee73ea6a8ac0f1be9"), looks := true }, kinds := [], alts := [], laidByText := true, laidKinds := [.data, .data], laidTests := true, laidLooks := .later }
def DuctWallsCardSaid : Prop := Claim7.holds Tryz.pinned (.plain (OpenSpec.ofChange ductWallsSpec)) ductWallsCard

/-- THE TIED CARD OF 'bulkheadlaw21.DuctExact'. -/
def ductExactCard : Claim7 := { stood := { row := ductExactRow, standIns := [], harness := (true, "d66aaa40f3d1118025ccf06269f17bb7337ba4a5a8030d1ee73ea6a8ac0f1be9"), looks := true }, kinds := [], alts := [], laidByText := true, laidKinds := [.data, .data], laidTests := true, laidLooks := .later }
def DuctExactCardSaid : Prop := Claim7.holds Tryz.pinned (.plain (OpenSpec.ofChange ductExactSpec)) ductExactCard

/-- THE SECOND FORM's CARD OF 'bulkheadlaw21.DuctCarries'. -/
def ductCarriesUptoCard : Claim7 := { stood := { row := ductCarriesUptoRow, standIns := [], harness := (true, "d66aaa40f3d1118025ccf06269f17bb7337ba4a5a8030d1ee73ea6a8ac0f1be9"), looks := true }, kinds := [], alts := [], laidByText := true, laidKinds := [.data, .data], laidTests := true, laidLooks := .later }
def DuctCarriesUptoCardSaid : Prop := Claim7.holds Tryz.pinned (.plain (OpenSpec.upto ductCarriesSpec)) ductCarriesUptoCard

/-- THE SECOND FORM's CARD OF 'bulkheadlaw21.DuctWalls'. -/
def ductWallsUptoCard : Claim7 := { stood := { row := ductWallsUptoRow, standIns := [], harness := (true, "d66aaa40f3d1118025ccf06269f17bb7337ba4a5a8030d1ee73ea6a8ac0f1be9"), looks := true }, kinds := [], alts := [], laidByText := true, laidKinds := [.data, .data], laidTests := true, laidLooks := .later }
def DuctWallsUptoCardSaid : Prop := Claim7.holds Tryz.pinned (.plain (OpenSpec.upto ductWallsSpec)) ductWallsUptoCard

/-- THE SECOND FORM's CARD OF 'bulkheadlaw21.DuctExact'. -/
def ductExactUptoCard : Claim7 := { stood := { row := ductExactUptoRow, standIns := [], harness := (true, "d66aaa40f3d1118025ccf06269f17bb7337ba4a5a8030d1ee73ea6a8ac0f1be9"), looks := true }, kinds := [], alts := [], laidByText := true, laidKinds := [.data, .data], laidTests := true, laidLooks := .later }
def DuctExactUptoCardSaid : Prop := Claim7.holds Tryz.pinned (.plain (OpenSpec.upto ductExactSpec)) ductExactUptoCard
end Rows
end Go.Proofs.YtganhedldgbfpaaGreatDoor
