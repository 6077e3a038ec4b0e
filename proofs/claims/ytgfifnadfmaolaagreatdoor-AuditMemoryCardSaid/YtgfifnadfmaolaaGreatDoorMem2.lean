/- The law AuditMemory: its row, and the card that ties the laid variables to the program's text. -/
import Derived.Test.YtgfifnadfmaolaaGreatDoorMem1
import Derived.Test.YtgfifnadfmaolaaGreatDoorCards
namespace Go.Proofs.YtgfifnadfmaolaaGreatDoor.auditMemory
open Go.ChangeShapes Go.WideShapes Go.ChangeAt Go.RowKit
theorem over : Rows.auditMemoryRow.holds Tryz.pinned (OpenSpec.ofChange Rows.auditMemorySpec) :=
 OpenClaim.holds_of_wide 4 Tryz.f4 rfl rfl rfl rfl rfl rfl rfl ⟨rfl, rfl, rfl, rfl, rfl⟩ rfl rfl rfl rfl rfl (by kernel_rfl) Tryz.func4 (by kernel_rfl)
  (of_decide_eq_true (by kernel_rfl)) (by unfold Func.isWrapper; rw [if_neg (of_decide_eq_false (by kernel_rfl))]; exact ⟨rfl, rfl⟩)
  (fun os started H enc _ => zME os started H enc)
end Go.Proofs.YtgfifnadfmaolaaGreatDoor.auditMemory
namespace Go.Proofs.YtgfifnadfmaolaaGreatDoor
open Go.ChangeShapes Go.WideShapes Go.ChangeAt Go.RowKit
theorem auditMemory_holds : Rows.AuditMemoryCardSaid :=
 Claim7.holds_tied_plain_at .later [] [.data, .data] true (true, Rows.auditMemoryCard.stood.harness.2) false
  auditMemory.over (fun _ h => by cases h) (by kernel_rfl) (fun _ h => by cases h) auditMemory_row_tie rfl ⟨rfl, rfl⟩ (by kernel_rfl) (by kernel_rfl)
  (fun f fn hf hfn => by
   obtain rfl : f = 4 := Option.some.inj ((show Tryz.prog.funcNamed "bulkhead/bulkheadlaw28.AuditMemory" = some 4 by kernel_rfl).symm.trans hf) |>.symm
   obtain rfl : fn = Tryz.f4 := (Option.some.inj (Tryz.func4.symm.trans hfn)).symm
   exact ⟨by kernel_rfl, fun j t ht => by
    rw [Tryz.params4] at ht
    match j, ht with
    | 0, ht => cases ht; exact (show Tryz.prog.wantsStandIn 26 = false by kernel_rfl)
    | 1, ht => cases ht; exact (show Tryz.prog.wantsStandIn 27 = false by kernel_rfl)
    | j + 2, ht => simp at ht⟩)
  (by kernel_rfl)
#print axioms auditMemory_holds
end Go.Proofs.YtgfifnadfmaolaaGreatDoor
