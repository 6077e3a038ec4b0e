/- Closed facts on the program's text, for the law TrialNames (the types' and the functions' form). -/
import Derived.Test.YtmgofekgjehegaaGreatDoorC
import Derived.Test.YtmgofekgjehegaaGreatDoorRows
import Derived.ProofKit
namespace Go.Proofs.YtmgofekgjehegaaGreatDoor.trialNames
open Go.ChangeShapes Go.WideShapes Go.ChangeAt Go.RowKit
theorem fLaid : laidOutB Tryz.prog = true := by kernel_rfl
theorem fMaps : mapsRowed Tryz.prog = true := by kernel_rfl
theorem fHeard : Tryz.prog.stopsHeard = true := by kernel_rfl
theorem fEnter : Tryz.prog.mayEnter = true := by kernel_rfl
end Go.Proofs.YtmgofekgjehegaaGreatDoor.trialNames
