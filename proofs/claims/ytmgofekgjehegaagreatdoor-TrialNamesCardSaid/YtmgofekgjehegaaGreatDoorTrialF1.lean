/- Closed facts on the program's text, for the law TrialNames (in place, followed). -/
import Derived.Test.YtmgofekgjehegaaGreatDoorC
import Derived.Test.YtmgofekgjehegaaGreatDoorRows
import Derived.ProofKit
namespace Go.Proofs.YtmgofekgjehegaaGreatDoor.trialNames
open Go.ChangeShapes Go.WideShapes Go.ChangeAt Go.RowKit
theorem fInPlace : (Rows.trialNamesRow.inPlace == Tryz.prog.inPlace 4) = true := by kernel_rfl
theorem fUnf : (Rows.trialNamesRow.unfollowed == Tryz.prog.unfollowed 4) = true := by kernel_rfl
end Go.Proofs.YtmgofekgjehegaaGreatDoor.trialNames
