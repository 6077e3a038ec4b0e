/-
  DERIVED. GIVEN WITH THE SEED: THE CARDS: each row of YthnkmndjhedgdaaDoorRows.lean that lists a variable, with what it lists TIED to the program's text (the seventh form; the later family's looks); each row that meets fmt, with fmt's text TOLD by the authors' own Lean function (tested against real Go, not proved from fmt's source: count such statements apart). THE CARD IS WHAT COUNTS. Prove the row's statement (the work); the ties are given (YthnkmndjhedgdaaDoorTie.lean); close each card by the builder's one call (the guide's Derived/Test/ToyasCard.lean, 'card_holds'). Laid BY PROGRAM, IN A SANDBOX (cutbox-door.mjs). By AI agents, Wed Nov 11 2026. No macro, syntax, notation, axiom, sorry.
-/
import Derived.Test.YthnkmndjhedgdaaDoorRows
import GoSem.ClaimSeven
namespace Go.Proofs.YthnkmndjhedgdaaDoor
namespace Rows

/-- THE TIED CARD OF 'bulkheadlaw28.AuditMay'. -/
def auditMayCard : Claim7 := { stood := { row := auditMayRow, standIns := [], harness := (true, "8cbac47f6b1075eeb99fa12d015d37964122d5800ae95285e415d468f53ad200"), looks := false }, kinds := [], alts := [], laidByText := true, laidKinds := [.data, .data], laidTests := true, laidLooks := .later }
def AuditMayCardSaid : Prop := Claim7.holds Tryd.pinned (.plain (OpenSpec.ofChange auditMaySpec)) auditMayCard

/-- THE SECOND FORM's CARD OF 'bulkheadlaw28.AuditMay'. -/
def auditMayUptoCard : Claim7 := { stood := { row := auditMayUptoRow, standIns := [], harness := (true, "8cbac47f6b1075eeb99fa12d015d37964122d5800ae95285e415d468f53ad200"), looks := false }, kinds := [], alts := [], laidByText := true, laidKinds := [.data, .data], laidTests := true, laidLooks := .later }
def AuditMayUptoCardSaid : Prop := Claim7.holds Tryd.pinned (.plain (OpenSpec.upto auditMaySpec)) auditMayUptoCard
end Rows
end Go.Proofs.YthnkmndjhedgdaaDoor
