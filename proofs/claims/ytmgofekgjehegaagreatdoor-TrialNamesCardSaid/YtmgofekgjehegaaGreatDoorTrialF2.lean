/- Closed facts on the program's text, for the law TrialNames (recursion, variables). -/
import Derived.Test.YtmgofekgjehegaaGreatDoorC
import Derived.Test.YtmgofekgjehegaaGreatDoorRows
import Derived.ProofKit
namespace Go.Proofs.YtmgofekgjehegaaGreatDoor.trialNames
open Go.ChangeShapes Go.WideShapes Go.ChangeAt Go.RowKit
theorem fRec : (Rows.trialNamesRow.recurses == Tryz.prog.recurses 4) = true := by kernel_rfl
theorem fNamed : (Rows.trialNamesRow.named == Tryz.prog.varsNamed 4) = true := by kernel_rfl
end Go.Proofs.YtmgofekgjehegaaGreatDoor.trialNames
