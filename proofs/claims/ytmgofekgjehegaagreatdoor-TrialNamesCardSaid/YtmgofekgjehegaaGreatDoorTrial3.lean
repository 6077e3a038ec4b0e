/- The law TrialNames: the card that ties the laid variables to the program's text. -/
import Derived.Test.YtmgofekgjehegaaGreatDoorTrial2
namespace Go.Proofs.YtmgofekgjehegaaGreatDoor
open Go.ChangeShapes Go.WideShapes Go.ChangeAt Go.RowKit
theorem trialNames_wf : Rows.trialNamesRow.wfByText (OpenSpec.ofChange Rows.trialNamesSpec) = true := by kernel_rfl
theorem trialNames_main : Tryz.pinned.checked.prog.mainIs = some (true, Rows.trialNamesCard.stood.harness.2.toList) := by kernel_rfl
theorem trialNames_named : Tryz.prog.funcNamed "bulkhead/bulkheadlaw31.TrialNames" = some 4 := by kernel_rfl
theorem trialNames_looks : true = Tryz.pinned.checked.prog.looks [] := by kernel_rfl
theorem trialNames_goes : true = Rows.trialNamesRow.goesBy Tryz.pinned.checked.prog := by kernel_rfl
theorem trialNames_holds : Rows.TrialNamesCardSaid := by
  have hnew := Claim7.tied_new_at .later [.data, .data, .data] true (Claim7.new_of_sixth trialNames.over (true, Rows.trialNamesCard.stood.harness.2) true rfl ⟨rfl, rfl⟩ trialNames_main (by kernel_rfl) (fun f fn hf hfn => by
    obtain rfl : f = 4 := Option.some.inj (trialNames_named.symm.trans hf) |>.symm
    obtain rfl : fn = Tryz.f4 := (Option.some.inj (Tryz.func4.symm.trans hfn)).symm
    exact ⟨trialNames_looks, fun j t ht => by rw [Tryz.params4] at ht; simp at ht⟩)) trialNames_wf
  exact ⟨hnew, (fun D hD => by cases hD), trialNames_row_tie, (fun h => by cases h), trialNames_goes⟩
#print axioms trialNames_holds
end Go.Proofs.YtmgofekgjehegaaGreatDoor
