/- Closed facts on the program's text, for the law SoloNames (in place, followed). -/
import Derived.Test.YtmgofekgjehegaaGreatDoorC
import Derived.Test.YtmgofekgjehegaaGreatDoorRows
import Derived.ProofKit
namespace Go.Proofs.YtmgofekgjehegaaGreatDoor.soloNames
open Go.ChangeShapes Go.WideShapes Go.ChangeAt Go.RowKit
theorem fInPlace : (Rows.soloNamesRow.inPlace == Tryz.prog.inPlace 3) = true := by kernel_rfl
theorem fUnf : (Rows.soloNamesRow.unfollowed == Tryz.prog.unfollowed 3) = true := by kernel_rfl
end Go.Proofs.YtmgofekgjehegaaGreatDoor.soloNames
