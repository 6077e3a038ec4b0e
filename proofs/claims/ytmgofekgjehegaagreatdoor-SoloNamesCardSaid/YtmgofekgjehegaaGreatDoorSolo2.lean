/- The law SoloNames: its row, and the card that ties the laid variables to the program's text. -/
import Derived.Test.YtmgofekgjehegaaGreatDoorSolo
import Derived.Test.YtmgofekgjehegaaGreatDoorCards
import Derived.Test.YtmgofekgjehegaaGreatDoorSoloF1
import Derived.Test.YtmgofekgjehegaaGreatDoorSoloF2
import Derived.Test.YtmgofekgjehegaaGreatDoorSoloF3
namespace Go.Proofs.YtmgofekgjehegaaGreatDoor.soloNames
open Go.ChangeShapes Go.WideShapes Go.ChangeAt Go.RowKit
theorem closed : joinedFacts Tryz.prog 3 Tryz.f3 Rows.soloNamesSpec Rows.soloNamesRow = true := by
  unfold joinedFacts
  rw [fInPlace, fUnf, fRec, fNamed, fLaid, fMaps, fHeard, fEnter]
  kernel_rfl
theorem over : Rows.soloNamesRow.holds Tryz.pinned (OpenSpec.ofChange Rows.soloNamesSpec) :=
  OpenClaim.holds_of_wide_leaving 3 Tryz.f3 rfl rfl rfl rfl rfl rfl rfl ⟨rfl, rfl, rfl, rfl, rfl⟩ rfl rfl rfl rfl rfl (by kernel_rfl) Tryz.func3 closed
    (of_decide_eq_true (by kernel_rfl)) (by unfold Func.isWrapper; rw [if_neg (of_decide_eq_false (by kernel_rfl))]; exact ⟨rfl, rfl⟩)
    (fun os started H enc _ => ReturnsInHanded.leaving (lifted os started H enc))
end Go.Proofs.YtmgofekgjehegaaGreatDoor.soloNames
namespace Go.Proofs.YtmgofekgjehegaaGreatDoor
theorem soloNames_holds : Rows.SoloNamesCardSaid := by
  have hnew := Claim7.tied_new_at .later [.data, .data, .data] true (Claim7.new_of_sixth soloNames.over (true, Rows.soloNamesCard.stood.harness.2) true rfl ⟨rfl, rfl⟩ (by kernel_rfl) (by kernel_rfl) (fun f fn hf hfn => by
    obtain rfl : f = 3 := Option.some.inj ((show Tryz.prog.funcNamed "bulkhead/bulkheadlaw27.SoloNames" = some 3 by kernel_rfl).symm.trans hf) |>.symm
    obtain rfl : fn = Tryz.f3 := (Option.some.inj (Tryz.func3.symm.trans hfn)).symm
    exact ⟨by kernel_rfl, fun j t ht => by rw [Tryz.params3] at ht; simp at ht⟩)) (by kernel_rfl)
  exact ⟨hnew, (fun D hD => by cases hD), soloNames_row_tie, (fun h => by cases h), by kernel_rfl⟩
#print axioms soloNames_holds
end Go.Proofs.YtmgofekgjehegaaGreatDoor
