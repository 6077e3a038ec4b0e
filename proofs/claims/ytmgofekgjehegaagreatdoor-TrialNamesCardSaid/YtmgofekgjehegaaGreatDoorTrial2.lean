/- The law TrialNames: its row, and the card that ties the laid variables to the program's text. -/
import Derived.Test.YtmgofekgjehegaaGreatDoorTrial1
import Derived.Test.YtmgofekgjehegaaGreatDoorCards
import Derived.Test.YtmgofekgjehegaaGreatDoorTrialF1
import Derived.Test.YtmgofekgjehegaaGreatDoorTrialF2
import Derived.Test.YtmgofekgjehegaaGreatDoorTrialF3
namespace Go.Proofs.YtmgofekgjehegaaGreatDoor.trialNames
open Go.ChangeShapes Go.WideShapes Go.ChangeAt Go.RowKit
theorem closed : joinedFacts Tryz.prog 4 Tryz.f4 Rows.trialNamesSpec Rows.trialNamesRow = true := by
  unfold joinedFacts
  rw [fInPlace, fUnf, fRec, fNamed, fLaid, fMaps, fHeard, fEnter]
  kernel_rfl
theorem over : Rows.trialNamesRow.holds Tryz.pinned (OpenSpec.ofChange Rows.trialNamesSpec) :=
  OpenClaim.holds_of_wide_leaving 4 Tryz.f4 rfl rfl rfl rfl rfl rfl rfl ⟨rfl, rfl, rfl, rfl, rfl⟩ rfl rfl rfl rfl rfl (by kernel_rfl) Tryz.func4 closed
    (of_decide_eq_true (by kernel_rfl)) (by unfold Func.isWrapper; rw [if_neg (of_decide_eq_false (by kernel_rfl))]; exact ⟨rfl, rfl⟩)
    (fun os started H enc _ => ReturnsInHanded.leaving (lifted os started H enc))
end Go.Proofs.YtmgofekgjehegaaGreatDoor.trialNames
