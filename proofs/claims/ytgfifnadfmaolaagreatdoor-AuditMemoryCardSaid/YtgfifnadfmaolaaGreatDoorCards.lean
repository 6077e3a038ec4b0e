/-
  DERIVED. GIVEN WITH THE SEED: THE CARDS: each row of YtgfifnadfmaolaaGreatDoorRows.lean that lists a variable, with what it lists TIED to the program's text (the seventh form; the later family's looks); each row that meets fmt, with fmt's text TOLD by the authors' own Lean function (tested against real Go, not proved from fmt's source: count such statements apart). THE CARD IS WHAT COUNTS. Prove the row's statement (the work); the ties are given (YtgfifnadfmaolaaGreatDoorTie.lean); close each card by the builder's one call (the guide's Derived/Test/ToyasCard.lean, 'card_holds'). Laid BY PROGRAM, IN A SANDBOX (cutbox-door.mjs). By AI agents, Wed Nov 11 2026. No macro, syntax, notation, axiom, sorry.
-/
import Derived.Test.YtgfifnadfmaolaaGreatDoorRows
import GoSem.ClaimSeven
namespace Go.Proofs.YtgfifnadfmaolaaGreatDoor
namespace Rows

/-- THE TIED CARD OF 'bulkheadlaw28.AuditTouched'. -/
def auditTouchedCard : Claim7 := { stood := { row := auditTouchedRow, standIns := [], harness := (true, "5f5fc30adc1b798a8bd447997131bffe695ac5e9e57e9ac14dfecfe7f6b82467"), looks := false }, kinds := [], alts := [], laidByText := true, laidKinds := [.data, .data], laidTests := true, laidLooks := .later }
def AuditTouchedCardSaid : Prop := Claim7.holds Tryz.pinned (.plain (OpenSpec.ofChange auditTouchedSpec)) auditTouchedCard

/-- THE TIED CARD OF 'bulkheadlaw28.AuditMemory'. -/
def auditMemoryCard : Claim7 := { stood := { row := auditMemoryRow, standIns := [], harness := (true, "5f5fc30adc1b798a8bd447997131bffe695ac5e9e57e9ac14dfecfe7f6b82467"), looks := false }, kinds := [], alts := [], laidByText := true, laidKinds := [.data, .data], laidTests := true, laidLooks := .later }
def AuditMemoryCardSaid : Prop := Claim7.holds Tryz.pinned (.plain (OpenSpec.ofChange auditMemorySpec)) auditMemoryCard

/-- THE SECOND FORM's CARD OF 'bulkheadlaw28.AuditTouched'. -/
def auditTouchedUptoCard : Claim7 := { stood := { row := auditTouchedUptoRow, standIns := [], harness := (true, "5f5fc30adc1b798a8bd447997131bffe695ac5e9e57e9ac14dfecfe7f6b82467"), looks := false }, kinds := [], alts := [], laidByText := true, laidKinds := [.data, .data], laidTests := true, laidLooks := .later }
def AuditTouchedUptoCardSaid : Prop := Claim7.holds Tryz.pinned (.plain (OpenSpec.upto auditTouchedSpec)) auditTouchedUptoCard

/-- THE SECOND FORM's CARD OF 'bulkheadlaw28.AuditMemory'. -/
def auditMemoryUptoCard : Claim7 := { stood := { row := auditMemoryUptoRow, standIns := [], harness := (true, "5f5fc30adc1b798a8bd447997131bffe695ac5e9e57e9ac14dfecfe7f6b82467"), looks := false }, kinds := [], alts := [], laidByText := true, laidKinds := [.data, .data], laidTests := true, laidLooks := .later }
def AuditMemoryUptoCardSaid : Prop := Claim7.holds Tryz.pinned (.plain (OpenSpec.upto auditMemorySpec)) auditMemoryUptoCard
end Rows
end Go.Proofs.YtgfifnadfmaolaaGreatDoor
