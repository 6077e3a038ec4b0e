/- The law AuditTouched: its row, and the card that ties the laid variables to the program's text. -/
import Derived.Test.YtgfifnadfmaolaaGreatDoorTouch1
import Derived.Test.YtgfifnadfmaolaaGreatDoorCards
namespace Go.Proofs.YtgfifnadfmaolaaGreatDoor.auditTouched
open Go.ChangeShapes Go.WideShapes Go.ChangeAt Go.RowKit
theorem over : Rows.auditTouchedRow.holds Tryz.pinned (OpenSpec.ofChange Rows.auditTouchedSpec) :=
  OpenClaim.holds_of_wide 3 Tryz.f3 rfl rfl rfl rfl rfl rfl rfl ⟨rfl, rfl, rfl, rfl, rfl⟩ rfl rfl rfl rfl rfl (by kernel_rfl) Tryz.func3 (by kernel_rfl)
    (of_decide_eq_true (by kernel_rfl)) (by unfold Func.isWrapper; rw [if_neg (of_decide_eq_false (by kernel_rfl))]; exact ⟨rfl, rfl⟩)
    (fun os started H enc _ => lifted os started H enc)
end Go.Proofs.YtgfifnadfmaolaaGreatDoor.auditTouched
namespace Go.Proofs.YtgfifnadfmaolaaGreatDoor
open Go.ChangeShapes Go.WideShapes Go.ChangeAt Go.RowKit
theorem auditTouched_holds : Rows.AuditTouchedCardSaid :=
  Claim7.holds_tied_plain_at .later [] [.data, .data] true (true, Rows.auditTouchedCard.stood.harness.2) false
    auditTouched.over (fun _ h => by cases h) (by kernel_rfl) (fun _ h => by cases h) auditTouched_row_tie rfl ⟨rfl, rfl⟩ (by kernel_rfl) (by kernel_rfl)
    (fun f fn hf hfn => by
      obtain rfl : f = 3 := Option.some.inj ((show Tryz.prog.funcNamed "bulkhead/bulkheadlaw28.AuditTouched" = some 3 by kernel_rfl).symm.trans hf) |>.symm
      obtain rfl : fn = Tryz.f3 := (Option.some.inj (Tryz.func3.symm.trans hfn)).symm
      exact ⟨by kernel_rfl, fun j t ht => by
        rw [Tryz.params3] at ht
        match j, ht with
        | 0, ht => cases ht; exact (show Tryz.prog.wantsStandIn 26 = false by kernel_rfl)
        | 1, ht => cases ht; exact (show Tryz.prog.wantsStandIn 27 = false by kernel_rfl)
        | 2, ht => cases ht; exact (show Tryz.prog.wantsStandIn 27 = false by kernel_rfl)
        | 3, ht => cases ht; exact (show Tryz.prog.wantsStandIn 4 = false by kernel_rfl)
        | j + 4, ht => simp at ht⟩)
    (by kernel_rfl)
#print axioms auditTouched_holds
end Go.Proofs.YtgfifnadfmaolaaGreatDoor
