/-
  NARROWER THAN 'FOR EVERY INPUT', by the rows' own cells (each row's printed sentence says how): AuditTouched: laid · AuditMemory: laid.
  DERIVED. THE GIVEN ROWS OF THIS SEAT. 2 by the template 'for every input the law returns true; each argument reads behind the call as it read before'; 0 by the template 'total and deterministic' (their statements: YtgfifnadfmaolaaGreatDoorTotals.lean).
  GIVEN WITH THE SEED: the statements are not yours to turn. If you find one false, say at which input.
  Laid BY PROGRAM, IN A SANDBOX (cutbox-rows.mjs): the forced cells as the released guide's own fill.sh prints them over the translation 55dff73159c2874b… (all of the seat's roots in one cut). By AI agents, Wed Nov 11 2026. No macro, syntax, notation, axiom, sorry.
-/
import Derived.Test.YtgfifnadfmaolaaGreatDoorChecked
import GoSem.Claim
import GoSem.ClaimJoined
import GoSem.ClaimMapViews
import Derived.JoinedTies
import Derived.KernelRfl
namespace Go.Proofs.YtgfifnadfmaolaaGreatDoor
/- THE CELL 'sum', in the pinned program and in every row, IS THE sha256 OF THE DUMP (.gsa) THAT YtgfifnadfmaolaaGreatDoorProg.lean LOADS. Nothing in Lean hashes anything: it is a label: what it is worth is what the hold of that sum in a sandbox is worth. -/
noncomputable def Tryz.pinned : Pinned := { name := "ytgfifnadfmaolaagreatdoor", sum := "55dff73159c2874b63a8c4c376b0f9b612a24e90119b948dad45d580292fd4ce", checked := Tryz.checked }
namespace Rows
def none {H : Type} : Left H := { results := [], args := [] }

/- WHAT THE LISTED PACKAGE-LEVEL VARIABLES READ AS WHEN THE CALL BEGINS. Each datum BY PROGRAM (the guide's laid-datum.mjs) off the statement by which the dump's own 'gosem.cut.vars' lays the variable. In a bare row this is a premise. The card (YtgfifnadfmaolaaGreatDoorCards.lean) ties it to the program's text. -/
def laid_bulkhead_admit_nowhere {H : Type} : DataW H := .agg [.lit (.int .i64 (-1)), .lit (.int .i64 (-1))]
def laid_bulkhead_admit_fine {H : Type} : DataW H := .agg [.lit (.int .i64 0), .agg [.lit (.int .i64 0), .lit (.int .i64 0)]]

/-- 'bulkheadlaw28.AuditTouched': WHATEVER THE INPUT: true; the input reads as it did. -/
def auditTouchedSpec : ChangeSpec := { name := "auditTouched", fn := fun _ => fun
  | [d1, d2, d3, d4] => { results := [.lit (.bool true)], args := [d1, d2, d3, d4] }
  | _ => none }
def auditTouchedRow : OpenClaim := { program := "ytgfifnadfmaolaagreatdoor", sum := "55dff73159c2874b63a8c4c376b0f9b612a24e90119b948dad45d580292fd4ce", func := "bulkhead/bulkheadlaw28.AuditTouched", spec := "auditTouched", unfollowed := true, recurses := true, named := ["bulkhead/admit.fine", "bulkhead/admit.nowhere"], apart := false, laid := [("bulkhead/admit.nowhere", laid_bulkhead_admit_nowhere), ("bulkhead/admit.fine", laid_bulkhead_admit_fine)] }
def AuditTouchedSaid : Prop := auditTouchedRow.holds Tryz.pinned (OpenSpec.ofChange auditTouchedSpec)

/-- ITS FALSE NEIGHBOUR: 'it returns false'. Refute it at one input. -/
def auditTouchedWrong : ChangeSpec := { name := "auditTouched", fn := fun _ => fun
  | [d1, d2, d3, d4] => { results := [.lit (.bool false)], args := [d1, d2, d3, d4] }
  | _ => none }
def AuditTouchedWrongFalsely : Prop := auditTouchedRow.holds Tryz.pinned (OpenSpec.ofChange auditTouchedWrong)

/-- 'bulkheadlaw28.AuditMemory': WHATEVER THE INPUT: true; the input reads as it did. -/
def auditMemorySpec : ChangeSpec := { name := "auditMemory", fn := fun _ => fun
  | [d1, d2] => { results := [.lit (.bool true)], args := [d1, d2] }
  | _ => none }
def auditMemoryRow : OpenClaim := { program := "ytgfifnadfmaolaagreatdoor", sum := "55dff73159c2874b63a8c4c376b0f9b612a24e90119b948dad45d580292fd4ce", func := "bulkhead/bulkheadlaw28.AuditMemory", spec := "auditMemory", unfollowed := true, recurses := true, named := ["bulkhead/admit.fine", "bulkhead/admit.nowhere"], apart := false, laid := [("bulkhead/admit.nowhere", laid_bulkhead_admit_nowhere), ("bulkhead/admit.fine", laid_bulkhead_admit_fine)] }
def AuditMemorySaid : Prop := auditMemoryRow.holds Tryz.pinned (OpenSpec.ofChange auditMemorySpec)

/-- ITS FALSE NEIGHBOUR: 'it returns false'. Refute it at one input. -/
def auditMemoryWrong : ChangeSpec := { name := "auditMemory", fn := fun _ => fun
  | [d1, d2] => { results := [.lit (.bool false)], args := [d1, d2] }
  | _ => none }
def AuditMemoryWrongFalsely : Prop := auditMemoryRow.holds Tryz.pinned (OpenSpec.ofChange auditMemoryWrong)

/- THE SECOND FORM. 'bulk': how many values and letters a reading holds, each counted each time it is reached (what is shared counts as often as it is met; a slice's spare places count too). A statement '..UptoSaid' is the law's where the arguments, and the package variables that the reading takes, are together of bulk at most 1048576: NARROWER than '..Said'. Prove '..Said' where nothing that the law and all that it calls make is longer than what came in: it says more and counts as full. Else prove '..UptoSaid'. A law counts once. -/
mutual
def uptoBulk {H : Type} : DataW H → Nat
  | .lit (.string bytes) => bytes.length + 1
  | .lit _ => 1
  | .nil => 1
  | .ptr d => uptoBulk d + 1
  | .slice elems spare => uptoBulkAll elems + uptoBulkAll spare + 1
  | .agg parts => uptoBulkAll parts + 1
  | .iface _ d => uptoBulk d + 1
  | .map entries => uptoBulkEntries entries + 1
  | .held _ => 1
def uptoBulkAll {H : Type} : List (DataW H) → Nat
  | [] => 0
  | d :: r => uptoBulk d + uptoBulkAll r
def uptoBulkEntries {H : Type} : List (Lit × DataW H) → Nat
  | [] => 0
  | x :: r => uptoBulkEntry x + uptoBulkEntries r
def uptoBulkEntry {H : Type} : Lit × DataW H → Nat
  | (.string bytes, d) => bytes.length + uptoBulk d + 1
  | (_, d) => uptoBulk d + 1
 end
def uptoSmall : (H : Type) → List (DataW H) → Bool := fun _ ds => decide (uptoBulkAll ds ≤ 1048576)
def OpenSpec.upto (s : _root_.Go.ChangeSpec) : _root_.Go.OpenSpec := { _root_.Go.OpenSpec.ofChange s with cond := some uptoSmall }

/-- 'bulkheadlaw28.AuditTouched', WHERE WHAT IT READS IS OF BULK AT MOST 1048576: true; the input reads as it did. -/
def auditTouchedUptoRow : OpenClaim := { program := "ytgfifnadfmaolaagreatdoor", sum := "55dff73159c2874b63a8c4c376b0f9b612a24e90119b948dad45d580292fd4ce", func := "bulkhead/bulkheadlaw28.AuditTouched", spec := "auditTouched", unfollowed := true, recurses := true, named := ["bulkhead/admit.fine", "bulkhead/admit.nowhere"], apart := false, laid := [("bulkhead/admit.nowhere", laid_bulkhead_admit_nowhere), ("bulkhead/admit.fine", laid_bulkhead_admit_fine)], narrowed := true }
def AuditTouchedUptoSaid : Prop := auditTouchedUptoRow.holds Tryz.pinned (OpenSpec.upto auditTouchedSpec)

/-- 'bulkheadlaw28.AuditMemory', WHERE WHAT IT READS IS OF BULK AT MOST 1048576: true; the input reads as it did. -/
def auditMemoryUptoRow : OpenClaim := { program := "ytgfifnadfmaolaagreatdoor", sum := "55dff73159c2874b63a8c4c376b0f9b612a24e90119b948dad45d580292fd4ce", func := "bulkhead/bulkheadlaw28.AuditMemory", spec := "auditMemory", unfollowed := true, recurses := true, named := ["bulkhead/admit.fine", "bulkhead/admit.nowhere"], apart := false, laid := [("bulkhead/admit.nowhere", laid_bulkhead_admit_nowhere), ("bulkhead/admit.fine", laid_bulkhead_admit_fine)], narrowed := true }
def AuditMemoryUptoSaid : Prop := auditMemoryUptoRow.holds Tryz.pinned (OpenSpec.upto auditMemorySpec)

end Rows
end Go.Proofs.YtgfifnadfmaolaaGreatDoor
