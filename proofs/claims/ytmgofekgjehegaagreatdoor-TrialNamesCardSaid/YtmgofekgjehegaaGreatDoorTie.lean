/-
  DERIVED. GIVEN WITH THE SEED: THE PROGRAM's TIES (one call each: nine closed facts by the kernel) AND EACH ROW's TIE, after the 31st guide's Derived/Test/Toyas{Tie, Card}.lean. No idea stands in it: it is a product of the set-up. Laid BY PROGRAM, IN A SANDBOX (cutbox-door.mjs). By AI agents, Wed Nov 11 2026. No macro, syntax, notation, axiom, sorry.
-/
import Derived.Test.YtmgofekgjehegaaGreatDoorRows
import Derived.LaidByTextLater
import Derived.SevenTiedAt
import Derived.LaidSub
import Derived.LaidOnce
namespace Go.Proofs.YtmgofekgjehegaaGreatDoor
open Go
set_option maxRecDepth 100000
theorem seatTie1 : Tryz.prog.laidByTextLater [("bulkhead/isa.rows", Rows.laid_bulkhead_isa_rows), ("bulkhead/admit.nowhere", Rows.laid_bulkhead_admit_nowhere), ("bulkhead/admit.fine", Rows.laid_bulkhead_admit_fine)] [.data, .data, .data] true :=
  Program.laidByTextLater_by_one 54 8 94 (by kernel_rfl) (by kernel_rfl) (by kernel_rfl) (by kernel_rfl) (by kernel_rfl) (by kernel_rfl) (fun _ _ => by kernel_rfl)
theorem noOwnUnsafe : Tryz.pinned.checked.prog.headLifts.contains "ownunsafe" = false := by kernel_rfl
theorem tie : Tryz.prog.laidByTextLater [("bulkhead/isa.rows", Rows.laid_bulkhead_isa_rows), ("bulkhead/admit.nowhere", Rows.laid_bulkhead_admit_nowhere), ("bulkhead/admit.fine", Rows.laid_bulkhead_admit_fine)] [.data, .data, .data] true :=
  Program.laidByTextLater.sub seatTie1 ["bulkhead/isa.rows", "bulkhead/admit.nowhere", "bulkhead/admit.fine"] (by kernel_rfl) (by kernel_rfl)
theorem soloNames_row_tie : Rows.soloNamesRow.laidByTextAt .later Tryz.pinned [.data, .data, .data] true :=
  OpenClaim.laidByTextAt_later rfl rfl tie noOwnUnsafe
theorem trialNames_row_tie : Rows.trialNamesRow.laidByTextAt .later Tryz.pinned [.data, .data, .data] true :=
  OpenClaim.laidByTextAt_later rfl rfl tie noOwnUnsafe
theorem soloNamesUpto_row_tie : Rows.soloNamesUptoRow.laidByTextAt .later Tryz.pinned [.data, .data, .data] true :=
  OpenClaim.laidByTextAt_later rfl rfl tie noOwnUnsafe
theorem trialNamesUpto_row_tie : Rows.trialNamesUptoRow.laidByTextAt .later Tryz.pinned [.data, .data, .data] true :=
  OpenClaim.laidByTextAt_later rfl rfl tie noOwnUnsafe
end Go.Proofs.YtmgofekgjehegaaGreatDoor
