/- The law AuditMay: its row, and the card that ties the laid variables to the program's text. -/
import Derived.Test.YthnkmndjhedgdaaDoorMay1
import Derived.Test.YthnkmndjhedgdaaDoorCards
namespace Go.Proofs.YthnkmndjhedgdaaDoor.auditMay
open Go.ChangeShapes Go.WideShapes Go.ChangeAt Go.RowKit
theorem over : Rows.auditMayRow.holds Tryd.pinned (OpenSpec.ofChange Rows.auditMaySpec) :=
  OpenClaim.holds_of_wide 3 Tryd.f3 rfl rfl rfl rfl rfl rfl rfl ⟨rfl, rfl, rfl, rfl, rfl⟩ rfl rfl rfl rfl rfl (by kernel_rfl) Tryd.func3 (by kernel_rfl)
    (of_decide_eq_true (by kernel_rfl)) (by unfold Func.isWrapper; rw [if_neg (of_decide_eq_false (by kernel_rfl))]; exact ⟨rfl, rfl⟩)
    (fun os started H enc _ => lifted os started H enc)
end Go.Proofs.YthnkmndjhedgdaaDoor.auditMay
namespace Go.Proofs.YthnkmndjhedgdaaDoor
open Go.ChangeShapes Go.WideShapes Go.ChangeAt Go.RowKit
theorem auditMay_holds : Rows.AuditMayCardSaid :=
  Claim7.holds_tied_plain_at .later [] [.data, .data] true (true, Rows.auditMayCard.stood.harness.2) false
    auditMay.over (fun _ h => by cases h) (by kernel_rfl) (fun _ h => by cases h) auditMay_row_tie rfl ⟨rfl, rfl⟩ (by kernel_rfl) (by kernel_rfl)
    (fun f fn hf hfn => by
      obtain rfl : f = 3 := Option.some.inj ((show Tryd.prog.funcNamed "bulkhead/bulkheadlaw28.AuditMay" = some 3 by kernel_rfl).symm.trans hf) |>.symm
      obtain rfl : fn = Tryd.f3 := (Option.some.inj (Tryd.func3.symm.trans hfn)).symm
      exact ⟨by kernel_rfl, fun j t ht => by
        rw [Tryd.params3] at ht
        match j, ht with
        | 0, ht => cases ht; exact (show Tryd.prog.wantsStandIn 26 = false by kernel_rfl)
        | 1, ht => cases ht; exact (show Tryd.prog.wantsStandIn 3 = false by kernel_rfl)
        | 2, ht => cases ht; exact (show Tryd.prog.wantsStandIn 28 = false by kernel_rfl)
        | j + 3, ht => simp at ht⟩)
    (by kernel_rfl)
#print axioms auditMay_holds
end Go.Proofs.YthnkmndjhedgdaaDoor
