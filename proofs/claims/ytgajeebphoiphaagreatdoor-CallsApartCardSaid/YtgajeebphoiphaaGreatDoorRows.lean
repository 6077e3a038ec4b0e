/-
  NARROWER THAN 'FOR EVERY INPUT', by the rows' own cells (each row's printed sentence says how): CallsWalls: laid · CallsApart: laid · CallsCarry: laid.
  DERIVED. THE GIVEN ROWS OF THIS SEAT. 3 by the template 'for every input the law returns true; each argument reads behind the call as it read before'; 0 by the template 'total and deterministic' (their statements: YtgajeebphoiphaaGreatDoorTotals.lean).
  GIVEN WITH THE SEED: the statements are not yours to turn. If you find one false, say at which input.
  Laid BY PROGRAM, IN A SANDBOX (cutbox-rows.mjs): the forced cells as the released guide's own fill.sh prints them over the translation 04af3e108db72d65… (all of the seat's roots in one cut). By AI agents, Wed Nov 11 2026. No macro, syntax, notation, axiom, sorry.
-/
import Derived.Test.YtgajeebphoiphaaGreatDoorChecked
import GoSem.Claim
import GoSem.ClaimJoined
import GoSem.ClaimMapViews
import Derived.JoinedTies
import Derived.KernelRfl
namespace Go.Proofs.YtgajeebphoiphaaGreatDoor
/- THE CELL 'sum', in the pinned program and in every row, IS THE sha256 OF THE DUMP (.gsa) THAT YtgajeebphoiphaaGreatDoorProg.lean LOADS. Nothing in Lean hashes anything: it is a label: what it is worth is what the hold of that sum in a sandbox is worth. -/
noncomputable def Tryz.pinned : Pinned := { name := "ytgajeebphoiphaagreatdoor", sum := "04af3e108db72d6541aa64a61b4cc17005fefb24f637594bb5aa0ab3456b1d36", checked := Tryz.checked }
namespace Rows
def none {H : Type} : Left H := { results := [], args := [] }

/- WHAT THE LISTED PACKAGE-LEVEL VARIABLES READ AS WHEN THE CALL BEGINS. Each datum BY PROGRAM (the guide's laid-datum.mjs) off the statement by which the dump's own 'gosem.cut.vars' lays the variable. In a bare row this is a premise. The card (YtgajeebphoiphaaGreatDoorCards.lean) ties it to the program's text. -/
def laid_bulkhead_admit_nowhere {H : Type} : DataW H := .agg [.lit (.int .i64 (-1)), .lit (.int .i64 (-1))]
def laid_bulkhead_admit_fine {H : Type} : DataW H := .agg [.lit (.int .i64 0), .agg [.lit (.int .i64 0), .lit (.int .i64 0)]]

/-- 'bulkheadlaw25.CallsWalls': WHATEVER THE INPUT: true; the input reads as it did. -/
def callsWallsSpec : ChangeSpec := { name := "callsWalls", fn := fun _ => fun
  | [d1, d2] => { results := [.lit (.bool true)], args := [d1, d2] }
  | _ => none }
def callsWallsRow : OpenClaim := { program := "ytgajeebphoiphaagreatdoor", sum := "04af3e108db72d6541aa64a61b4cc17005fefb24f637594bb5aa0ab3456b1d36", func := "bulkhead/bulkheadlaw25.CallsWalls", spec := "callsWalls", unfollowed := true, recurses := true, named := ["bulkhead/admit.fine", "bulkhead/admit.nowhere"], plainKeys := false, apart := false, laid := [("bulkhead/admit.nowhere", laid_bulkhead_admit_nowhere), ("bulkhead/admit.fine", laid_bulkhead_admit_fine)] }
def CallsWallsSaid : Prop := callsWallsRow.holds Tryz.pinned (OpenSpec.ofChange callsWallsSpec)

/-- ITS FALSE NEIGHBOUR: 'it returns false'. Refute it at one input. -/
def callsWallsWrong : ChangeSpec := { name := "callsWalls", fn := fun _ => fun
  | [d1, d2] => { results := [.lit (.bool false)], args := [d1, d2] }
  | _ => none }
def CallsWallsWrongFalsely : Prop := callsWallsRow.holds Tryz.pinned (OpenSpec.ofChange callsWallsWrong)

/-- 'bulkheadlaw25.CallsApart': WHATEVER THE INPUT: true; the input reads as it did. -/
def callsApartSpec : ChangeSpec := { name := "callsApart", fn := fun _ => fun
  | [d1, d2, d3] => { results := [.lit (.bool true)], args := [d1, d2, d3] }
  | _ => none }
def callsApartRow : OpenClaim := { program := "ytgajeebphoiphaagreatdoor", sum := "04af3e108db72d6541aa64a61b4cc17005fefb24f637594bb5aa0ab3456b1d36", func := "bulkhead/bulkheadlaw25.CallsApart", spec := "callsApart", unfollowed := true, recurses := true, named := ["bulkhead/admit.fine", "bulkhead/admit.nowhere"], plainKeys := false, apart := false, laid := [("bulkhead/admit.nowhere", laid_bulkhead_admit_nowhere), ("bulkhead/admit.fine", laid_bulkhead_admit_fine)] }
def CallsApartSaid : Prop := callsApartRow.holds Tryz.pinned (OpenSpec.ofChange callsApartSpec)

/-- ITS FALSE NEIGHBOUR: 'it returns false'. Refute it at one input. -/
def callsApartWrong : ChangeSpec := { name := "callsApart", fn := fun _ => fun
  | [d1, d2, d3] => { results := [.lit (.bool false)], args := [d1, d2, d3] }
  | _ => none }
def CallsApartWrongFalsely : Prop := callsApartRow.holds Tryz.pinned (OpenSpec.ofChange callsApartWrong)

/-- 'bulkheadlaw25.CallsCarry': WHATEVER THE INPUT: true; the input reads as it did. -/
def callsCarrySpec : ChangeSpec := { name := "callsCarry", fn := fun _ => fun
  | [d1, d2] => { results := [.lit (.bool true)], args := [d1, d2] }
  | _ => none }
def callsCarryRow : OpenClaim := { program := "ytgajeebphoiphaagreatdoor", sum := "04af3e108db72d6541aa64a61b4cc17005fefb24f637594bb5aa0ab3456b1d36", func := "bulkhead/bulkheadlaw25.CallsCarry", spec := "callsCarry", unfollowed := true, recurses := true, named := ["bulkhead/admit.fine", "bulkhead/admit.nowhere"], plainKeys := false, apart := false, laid := [("bulkhead/admit.nowhere", laid_bulkhead_admit_nowhere), ("bulkhead/admit.fine", laid_bulkhead_admit_fine)] }
def CallsCarrySaid : Prop := callsCarryRow.holds Tryz.pinned (OpenSpec.ofChange callsCarrySpec)

/-- ITS FALSE NEIGHBOUR: 'it returns false'. Refute it at one input. -/
def callsCarryWrong : ChangeSpec := { name := "callsCarry", fn := fun _ => fun
  | [d1, d2] => { results := [.lit (.bool false)], args := [d1, d2] }
  | _ => none }
def CallsCarryWrongFalsely : Prop := callsCarryRow.holds Tryz.pinned (OpenSpec.ofChange callsCarryWrong)

/- THE SECOND FORM. 'bulk': how many values and letters a reading holds, each counted each time it is reached (what is shared counts as often as it is met; a slice's spare places count too). A statement '..UptoSaid' is the law's where the arguments, and the package variables that the reading takes, are together of bulk at most 1048576: NARROWER than '..Said'. Prove '..Said' where nothing that the law and all that it calls make is longer than what came in: it says more and counts as full. Else prove '..UptoSaid'. A law counts once. -/
mutual
def uptoBulk {H : Type} : DataW H → Nat
  | .lit (.string bytes) => bytes.length + 1
  | .lit _ => 1
  | .nil => 1
  | .ptr d => uptoBulk d + 1
  | .slice elems spare => uptoBulkAll elems + uptoBulkAll spare + 1
  | .agg parts => uptoBulkAll parts + 1
  | .iface _ d => uptoBulk d + 1
  | .map entries => uptoBulkEntries entries + 1
  | .held _ => 1
def uptoBulkAll {H : Type} : List (DataW H) → Nat
  | [] => 0
  | d :: r => uptoBulk d + uptoBulkAll r
def uptoBulkEntries {H : Type} : List (Lit × DataW H) → Nat
  | [] => 0
  | x :: r => uptoBulkEntry x + uptoBulkEntries r
def uptoBulkEntry {H : Type} : Lit × DataW H → Nat
  | (.string bytes, d) => bytes.length + uptoBulk d + 1
  | (_, d) => uptoBulk d + 1
 end
def uptoSmall : (H : Type) → List (DataW H) → Bool := fun _ ds => decide (uptoBulkAll ds ≤ 1048576)
def OpenSpec.upto (s : _root_.Go.ChangeSpec) : _root_.Go.OpenSpec := { _root_.Go.OpenSpec.ofChange s with cond := some uptoSmall }

/-- 'bulkheadlaw25.CallsWalls', WHERE WHAT IT READS IS OF BULK AT MOST 1048576: true; the input reads as it did. -/
def callsWallsUptoRow : OpenClaim := { program := "ytgajeebphoiphaagreatdoor", sum := "04af3e108db72d6541aa64a61b4cc17005fefb24f637594bb5aa0ab3456b1d36", func := "bulkhead/bulkheadlaw25.CallsWalls", spec := "callsWalls", unfollowed := true, recurses := true, named := ["bulkhead/admit.fine", "bulkhead/admit.nowhere"], plainKeys := false, apart := false, laid := [("bulkhead/admit.nowhere", laid_bulkhead_admit_nowhere), ("bulkhead/admit.fine", laid_bulkhead_admit_fine)], narrowed := true }
def CallsWallsUptoSaid : Prop := callsWallsUptoRow.holds Tryz.pinned (OpenSpec.upto callsWallsSpec)

/-- 'bulkheadlaw25.CallsApart', WHERE WHAT IT READS IS OF BULK AT MOST 1048576: true; the input reads as it did. -/
def callsApartUptoRow : OpenClaim := { program := "ytgajeebphoiphaagreatdoor", sum := "04af3e108db72d6541aa64a61b4cc17005fefb24f637594bb5aa0ab3456b1d36", func := "bulkhead/bulkheadlaw25.CallsApart", spec := "callsApart", unfollowed := true, recurses := true, named := ["bulkhead/admit.fine", "bulkhead/admit.nowhere"], plainKeys := false, apart := false, laid := [("bulkhead/admit.nowhere", laid_bulkhead_admit_nowhere), ("bulkhead/admit.fine", laid_bulkhead_admit_fine)], narrowed := true }
def CallsApartUptoSaid : Prop := callsApartUptoRow.holds Tryz.pinned (OpenSpec.upto callsApartSpec)

/-- 'bulkheadlaw25.CallsCarry', WHERE WHAT IT READS IS OF BULK AT MOST 1048576: true; the input reads as it did. -/
def callsCarryUptoRow : OpenClaim := { program := "ytgajeebphoiphaagreatdoor", sum := "04af3e108db72d6541aa64a61b4cc17005fefb24f637594bb5aa0ab3456b1d36", func := "bulkhead/bulkheadlaw25.CallsCarry", spec := "callsCarry", unfollowed := true, recurses := true, named := ["bulkhead/admit.fine", "bulkhead/admit.nowhere"], plainKeys := false, apart := false, laid := [("bulkhead/admit.nowhere", laid_bulkhead_admit_nowhere), ("bulkhead/admit.fine", laid_bulkhead_admit_fine)], narrowed := true }
def CallsCarryUptoSaid : Prop := callsCarryUptoRow.holds Tryz.pinned (OpenSpec.upto callsCarrySpec)

end Rows
end Go.Proofs.YtgajeebphoiphaaGreatDoor
