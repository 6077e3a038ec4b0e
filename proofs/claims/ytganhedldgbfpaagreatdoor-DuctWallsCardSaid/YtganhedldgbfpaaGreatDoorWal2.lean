/- The law DuctWalls: its row, and the card that ties the laid variables to the program's text. -/
import Derived.Test.YtganhedldgbfpaaGreatDoorWal1
import Derived.Test.YtganhedldgbfpaaGreatDoorCards
namespace Go.Proofs.YtganhedldgbfpaaGreatDoor.ductWalls
open Go.ChangeShapes Go.WideShapes Go.ChangeAt Go.RowKit
theorem over : Rows.ductWallsRow.holds Tryz.pinned (OpenSpec.ofChange Rows.ductWallsSpec) :=
 OpenClaim.holds_of_wide 4 Tryz.f4 rfl rfl rfl rfl rfl rfl rfl ⟨rfl, rfl, rfl, rfl, rfl⟩ rfl rfl rfl rfl rfl (by kernel_rfl) Tryz.func4 (by kernel_rfl)
  (of_decide_eq_true (by kernel_rfl)) (by unfold Func.isWrapper; rw [if_neg (of_decide_eq_false (by kernel_rfl))]; exact ⟨rfl, rfl⟩)
  (fun os started H enc _ => zKa os started H enc)
end Go.Proofs.YtganhedldgbfpaaGreatDoor.ductWalls
namespace Go.Proofs.YtganhedldgbfpaaGreatDoor
open Go.ChangeShapes Go.WideShapes Go.ChangeAt Go.RowKit
theorem ductWalls_holds : Rows.DuctWallsCardSaid :=
 Claim7.holds_tied_plain_at .later [] [.data, .data] true (true, Rows.ductWallsCard.stood.harness.2) true
  ductWalls.over (fun _ h => by cases h) (by kernel_rfl) (fun _ h => by cases h) ductWalls_row_tie rfl ⟨rfl, rfl⟩ (by kernel_rfl) (by kernel_rfl)
  (fun f fn hf hfn => by
   obtain rfl : f = 4 := Option.some.inj ((show Tryz.prog.funcNamed "bulkhead/bulkheadlaw21.DuctWalls" = some 4 by kernel_rfl).symm.trans hf) |>.symm
   obtain rfl : fn = Tryz.f4 := (Option.some.inj (Tryz.func4.symm.trans hfn)).symm
   exact ⟨by kernel_rfl, fun j t ht => by
    rw [Tryz.params4] at ht
    match j, ht with
    | 0, ht => cases ht; exact (show Tryz.prog.wantsStandIn 26 = false by kernel_rfl)
    | 1, ht => cases ht; exact (show Tryz.prog.wantsStandIn 27 = false by kernel_rfl)
    | j + 2, ht => simp at ht⟩)
  (by kernel_rfl)
#print axioms ductWalls_holds
end Go.Proofs.YtganhedldgbfpaaGreatDoor
