/- The law CallsApart: its row, and the card that ties the laid variables to the program's text. -/
import Derived.Test.YtgajeebphoiphaaGreatDoorApa1
import Derived.Test.YtgajeebphoiphaaGreatDoorCards
namespace Go.Proofs.YtgajeebphoiphaaGreatDoor.callsApart
open Go.ChangeShapes Go.WideShapes Go.ChangeAt Go.RowKit
theorem over:Rows.callsApartRow.holds Tryz.pinned (OpenSpec.ofChange Rows.callsApartSpec):=
 OpenClaim.holds_of_wide 4 Tryz.f4 rfl rfl rfl rfl rfl rfl rfl ⟨rfl,rfl,rfl,rfl,rfl⟩ rfl rfl rfl rfl rfl (by kernel_rfl) Tryz.func4 (by kernel_rfl)
  (of_decide_eq_true (by kernel_rfl)) (by unfold Func.isWrapper;rw[if_neg (of_decide_eq_false (by kernel_rfl))];exact⟨rfl,rfl⟩)
  (fun os started H enc _=>zHW os started H enc)
end Go.Proofs.YtgajeebphoiphaaGreatDoor.callsApart
namespace Go.Proofs.YtgajeebphoiphaaGreatDoor
open Go.ChangeShapes Go.WideShapes Go.ChangeAt Go.RowKit
theorem callsApart_holds:Rows.CallsApartCardSaid:=
 Claim7.holds_tied_plain_at .later [] [.data,.data] true (true,Rows.callsApartCard.stood.harness.2) true
  callsApart.over (fun _ h=>by cases h) (by kernel_rfl) (fun _ h=>by cases h) callsApart_row_tie rfl ⟨rfl,rfl⟩ (by kernel_rfl) (by kernel_rfl)
  (fun f fn hf hfn=>by
   obtain rfl:f=4:=Option.some.inj ((show Tryz.prog.funcNamed "bulkhead/bulkheadlaw25.CallsApart" = some 4 by kernel_rfl).symm.trans hf) |>.symm
   obtain rfl:fn=Tryz.f4:=(Option.some.inj (Tryz.func4.symm.trans hfn)).symm
   exact⟨by kernel_rfl,fun j t ht=>by
    rw[Tryz.params4]at ht
    match j,ht with
    | 0,ht=>cases ht;exact(show Tryz.prog.wantsStandIn 30=false by kernel_rfl)
    | 1,ht=>cases ht;exact(show Tryz.prog.wantsStandIn 31=false by kernel_rfl)
    | 2,ht=>cases ht;exact(show Tryz.prog.wantsStandIn 46=false by kernel_rfl)
    | j+3,ht=>simp at ht⟩)
  (by kernel_rfl)
#print axioms callsApart_holds
end Go.Proofs.YtgajeebphoiphaaGreatDoor
