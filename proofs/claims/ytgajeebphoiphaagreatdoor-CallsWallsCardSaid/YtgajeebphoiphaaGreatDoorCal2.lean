/- The law CallsWalls: its row, and the card that ties the laid variables to the program's text. -/
import Derived.Test.YtgajeebphoiphaaGreatDoorCal1
import Derived.Test.YtgajeebphoiphaaGreatDoorCards
namespace Go.Proofs.YtgajeebphoiphaaGreatDoor.callsWalls
open Go.ChangeShapes Go.WideShapes Go.ChangeAt Go.RowKit
theorem over:Rows.callsWallsRow.holds Tryz.pinned (OpenSpec.ofChange Rows.callsWallsSpec):=
 OpenClaim.holds_of_wide 3 Tryz.f3 rfl rfl rfl rfl rfl rfl rfl ⟨rfl,rfl,rfl,rfl,rfl⟩ rfl rfl rfl rfl rfl (by kernel_rfl) Tryz.func3 (by kernel_rfl)
  (of_decide_eq_true (by kernel_rfl)) (by unfold Func.isWrapper;rw[if_neg (of_decide_eq_false (by kernel_rfl))];exact⟨rfl,rfl⟩)
  (fun os started H enc _=>zHi os started H enc)
end Go.Proofs.YtgajeebphoiphaaGreatDoor.callsWalls
namespace Go.Proofs.YtgajeebphoiphaaGreatDoor
open Go.ChangeShapes Go.WideShapes Go.ChangeAt Go.RowKit
theorem callsWalls_holds:Rows.CallsWallsCardSaid:=
 Claim7.holds_tied_plain_at .later [] [.data,.data] true (true,Rows.callsWallsCard.stood.harness.2) true
  callsWalls.over (fun _ h=>by cases h) (by kernel_rfl) (fun _ h=>by cases h) callsWalls_row_tie rfl ⟨rfl,rfl⟩ (by kernel_rfl) (by kernel_rfl)
  (fun f fn hf hfn=>by
   obtain rfl:f=3:=Option.some.inj ((show Tryz.prog.funcNamed "bulkhead/bulkheadlaw25.CallsWalls" = some 3 by kernel_rfl).symm.trans hf) |>.symm
   obtain rfl:fn=Tryz.f3:=(Option.some.inj (Tryz.func3.symm.trans hfn)).symm
   exact⟨by kernel_rfl,fun j t ht=>by
    rw[Tryz.params3]at ht
    match j,ht with
    | 0,ht=>cases ht;exact(show Tryz.prog.wantsStandIn 30=false by kernel_rfl)
    | 1,ht=>cases ht;exact(show Tryz.prog.wantsStandIn 31=false by kernel_rfl)
    | j+2,ht=>simp at ht⟩)
  (by kernel_rfl)
#print axioms callsWalls_holds
end Go.Proofs.YtgajeebphoiphaaGreatDoor
