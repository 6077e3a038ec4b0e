/-
  DERIVED. GIVEN WITH THE SEED: THE CARDS: each row of YtmgofekgjehegaaGreatDoorRows.lean that lists a variable, with what it lists TIED to the program's text (the seventh form; the later family's looks); each row that meets fmt, with fmt's text TOLD by the authors' own Lean function (tested against real Go, not proved from fmt's source: count such statements apart). THE CARD IS WHAT COUNTS. Prove the row's statement (the work); the ties are given (YtmgofekgjehegaaGreatDoorTie.lean); close each card by the builder's one call (the guide's Derived/Test/ToyasCard.lean, 'card_holds'). Laid BY PROGRAM, IN A SANDBOX (cutbox-door.mjs). By AI agents, Wed Nov 11 2026. No macro, syntax, notation, axiom, sorry.
-/
import Derived.Test.YtmgofekgjehegaaGreatDoorRows
import GoSem.ClaimSeven
namespace Go.Proofs.YtmgofekgjehegaaGreatDoor
namespace Rows

/-- THE TIED CARD OF 'bulkheadlaw27.SoloNames'. -/
def soloNamesCard : Claim7 := { stood := { row := soloNamesRow, standIns := [], harness := (true, "cdcc6ca816f3474a17879e1211249f526515e363fe3a65f000464a77360675e0"), looks := true }, kinds := [], alts := [], goes := true, laidByText := true, laidKinds := [.data, .data, .data], laidTests := true, laidLooks := .later }
def SoloNamesCardSaid : Prop := Claim7.holds Tryz.pinned (.plain (OpenSpec.ofChange soloNamesSpec)) soloNamesCard

/-- THE TIED CARD OF 'bulkheadlaw31.TrialNames'. -/
def trialNamesCard : Claim7 := { stood := { row := trialNamesRow, standIns := [], harness := (true, "cdcc6ca816f3474a17879e1211249f526515e363fe3a65f000464a77360675e0"), looks := true }, kinds := [], alts := [], goes := true, laidByText := true, laidKinds := [.data, .data, .data], laidTests := true, laidLooks := .later }
def TrialNamesCardSaid : Prop := Claim7.holds Tryz.pinned (.plain (OpenSpec.ofChange trialNamesSpec)) trialNamesCard

/-- THE SECOND FORM's CARD OF 'bulkheadlaw27.SoloNames'. -/
def soloNamesUptoCard : Claim7 := { stood := { row := soloNamesUptoRow, standIns := [], harness := (true, "cdcc6ca816f3474a17879e1211249f526515e363fe3a65f000464a77360675e0"), looks := true }, kinds := [], alts := [], goes := true, laidByText := true, laidKinds := [.data, .data, .data], laidTests := true, laidLooks := .later }
def SoloNamesUptoCardSaid : Prop := Claim7.holds Tryz.pinned (.plain (OpenSpec.upto soloNamesSpec)) soloNamesUptoCard

/-- THE SECOND FORM's CARD OF 'bulkheadlaw31.TrialNames'. -/
def trialNamesUptoCard : Claim7 := { stood := { row := trialNamesUptoRow, standIns := [], harness := (true, "cdcc6ca816f3474a17879e1211249f526515e363fe3a65f000464a77360675e0"), looks := true }, kinds := [], alts := [], goes := true, laidByText := true, laidKinds := [.data, .data, .data], laidTests := true, laidLooks := .later }
def TrialNamesUptoCardSaid : Prop := Claim7.holds Tryz.pinned (.plain (OpenSpec.upto trialNamesSpec)) trialNamesUptoCard
end Rows
end Go.Proofs.YtmgofekgjehegaaGreatDoor
