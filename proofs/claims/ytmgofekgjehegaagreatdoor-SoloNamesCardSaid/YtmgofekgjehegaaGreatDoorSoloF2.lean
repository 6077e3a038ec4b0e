/- Closed facts on the program's text, for the law SoloNames (recursion, variables). -/
import Derived.Test.YtmgofekgjehegaaGreatDoorC
import Derived.Test.YtmgofekgjehegaaGreatDoorRows
import Derived.ProofKit
namespace Go.Proofs.YtmgofekgjehegaaGreatDoor.soloNames
open Go.ChangeShapes Go.WideShapes Go.ChangeAt Go.RowKit
theorem fRec : (Rows.soloNamesRow.recurses == Tryz.prog.recurses 3) = true := by kernel_rfl
theorem fNamed : (Rows.soloNamesRow.named == Tryz.prog.varsNamed 3) = true := by kernel_rfl
end Go.Proofs.YtmgofekgjehegaaGreatDoor.soloNames
