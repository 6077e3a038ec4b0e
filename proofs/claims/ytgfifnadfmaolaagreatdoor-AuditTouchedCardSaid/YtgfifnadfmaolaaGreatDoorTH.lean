/- Differ: it hands over the function that goes through the places (its captured memories in two boxes of its own). -/
import Derived.Test.YtgfifnadfmaolaaGreatDoorR
import Derived.Test.YtgfifnadfmaolaaGreatDoorG
namespace Go.Proofs.YtgfifnadfmaolaaGreatDoor
open Go.RowKit
set_option linter.unusedVariables false
def toDiffer (m o : Option MemMemory) : Ans := ⟨.fn (.func 51) [] [.ref 0 0, .ref 1 0], [.cells 34 [.op .sMemMemory m], .cells 34 [.op .sMemMemory o]]⟩
def HDiffer : Hint := ⟨fun _ => false, fun _ => ⟨[], []⟩, [], G0, nodp⟩
theorem runDiffer (J : Jmp) (m o : Option MemMemory) : runF Pr G0 HDiffer J GL Tryz.f26 [.op .sMemMemory m, .op .sMemMemory o] [] = some (toDiffer m o) := by kernel_rfl
theorem okDiffer (m o : Option MemMemory) : Okay Pr GL 26 [.op .sMemMemory m, .op .sMemMemory o] [] (toDiffer m o) :=
  okay_of_run (H := HDiffer) G0ok G0ok Tryz.func26 rfl (by kernel_rfl) 0 (runDiffer ..)
end Go.Proofs.YtgfifnadfmaolaaGreatDoor
