/-
  NARROWER THAN 'FOR EVERY INPUT', by the rows' own cells (each row's printed sentence says how): DuctCarries: laid · DuctWalls: laid · DuctExact: laid.
  DERIVED. THE GIVEN ROWS OF THIS SEAT. 3 by the template 'for every input the law returns true; each argument reads behind the call as it read before'; 0 by the template 'total and deterministic' (their statements: YtganhedldgbfpaaGreatDoorTotals.lean).
  GIVEN WITH THE SEED: the statements are not yours to turn. If you find one false, say at which input.
  Laid BY PROGRAM, IN A SANDBOX (cutbox-rows.mjs): the forced cells as the released guide's own fill.sh prints them over the translation dbe48a9aa28229dd… (all of the seat's roots in one cut). By AI agents, Wed Nov 11 2026. No macro, syntax, notation, axiom, sorry.
-/
import Derived.Test.YtganhedldgbfpaaGreatDoorChecked
import GoSem.Claim
import GoSem.ClaimJoined
import GoSem.ClaimMapViews
import Derived.JoinedTies
import Derived.KernelRfl
namespace Go.Proofs.YtganhedldgbfpaaGreatDoor
/- THE CELL 'sum', in the pinned program and in every row, IS THE sha256 OF THE DUMP (.gsa) THAT YtganhedldgbfpaaGreatDoorProg.lean LOADS. Nothing in Lean hashes anything: it is a label: what it is worth is what the hold of that sum in a sandbox is worth. -/
noncomputable def Tryz.pinned : Pinned := { name := "ytganhedldgbfpaagreatdoor", sum := "dbe48a9aa28229dde481ecbf6604e544cd065504d0403981b51610239548cd00", checked := Tryz.checked }
namespace Rows
def none {H : Type} : Left H := { results := [], args := [] }

/- WHAT THE LISTED PACKAGE-LEVEL VARIABLES READ AS WHEN THE CALL BEGINS. Each datum BY PROGRAM (the guide's laid-datum.mjs) off the statement by which the dump's own 'gosem.cut.vars' lays the variable. In a bare row this is a premise. The card (YtganhedldgbfpaaGreatDoorCards.lean) ties it to the program's text. -/
def laid_bulkhead_admit_nowhere {H : Type} : DataW H := .agg [.lit (.int .i64 (-1)), .lit (.int .i64 (-1))]
def laid_bulkhead_admit_fine {H : Type} : DataW H := .agg [.lit (.int .i64 0), .agg [.lit (.int .i64 0), .lit (.int .i64 0)]]

/-- 'bulkheadlaw21.DuctCarries': WHATEVER THE INPUT: true; the input reads as it did. -/
def ductCarriesSpec : ChangeSpec := { name := "ductCarries", fn := fun _ => fun
  | [d1, d2] => { results := [.lit (.bool true)], args := [d1, d2] }
  | _ => none }
def ductCarriesRow : OpenClaim := { program := "ytganhedldgbfpaagreatdoor", sum := "dbe48a9aa28229dde481ecbf6604e544cd065504d0403981b51610239548cd00", func := "bulkhead/bulkheadlaw21.DuctCarries", spec := "ductCarries", unfollowed := true, recurses := true, named := ["bulkhead/admit.fine", "bulkhead/admit.nowhere"], apart := false, laid := [("bulkhead/admit.nowhere", laid_bulkhead_admit_nowhere), ("bulkhead/admit.fine", laid_bulkhead_admit_fine)] }
def DuctCarriesSaid : Prop := ductCarriesRow.holds Tryz.pinned (OpenSpec.ofChange ductCarriesSpec)

/-- ITS FALSE NEIGHBOUR: 'it returns false'. Refute it at one input. -/
def ductCarriesWrong : ChangeSpec := { name := "ductCarries", fn := fun _ => fun
  | [d1, d2] => { results := [.lit (.bool false)], args := [d1, d2] }
  | _ => none }
def DuctCarriesWrongFalsely : Prop := ductCarriesRow.holds Tryz.pinned (OpenSpec.ofChange ductCarriesWrong)

/-- 'bulkheadlaw21.DuctWalls': WHATEVER THE INPUT: true; the input reads as it did. -/
def ductWallsSpec : ChangeSpec := { name := "ductWalls", fn := fun _ => fun
  | [d1, d2] => { results := [.lit (.bool true)], args := [d1, d2] }
  | _ => none }
def ductWallsRow : OpenClaim := { program := "ytganhedldgbfpaagreatdoor", sum := "dbe48a9aa28229dde481ecbf6604e544cd065504d0403981b51610239548cd00", func := "bulkhead/bulkheadlaw21.DuctWalls", spec := "ductWalls", unfollowed := true, recurses := true, named := ["bulkhead/admit.fine", "bulkhead/admit.nowhere"], apart := false, laid := [("bulkhead/admit.nowhere", laid_bulkhead_admit_nowhere), ("bulkhead/admit.fine", laid_bulkhead_admit_fine)] }
def DuctWallsSaid : Prop := ductWallsRow.holds Tryz.pinned (OpenSpec.ofChange ductWallsSpec)

/-- ITS FALSE NEIGHBOUR: 'it returns false'. Refute it at one input. -/
def ductWallsWrong : ChangeSpec := { name := "ductWalls", fn := fun _ => fun
  | [d1, d2] => { results := [.lit (.bool false)], args := [d1, d2] }
  | _ => none }
def DuctWallsWrongFalsely : Prop := ductWallsRow.holds Tryz.pinned (OpenSpec.ofChange ductWallsWrong)

/-- 'bulkheadlaw21.DuctExact': WHATEVER THE INPUT: true; the input reads as it did. -/
def ductExactSpec : ChangeSpec := { name := "ductExact", fn := fun _ => fun
  | [d1, d2] => { results := [.lit (.bool true)], args := [d1, d2] }
  | _ => none }
def ductExactRow : OpenClaim := { program := "ytganhedldgbfpaagreatdoor", sum := "dbe48a9aa28229dde481ecbf6604e544cd065504d0403981b51610239548cd00", func := "bulkhead/bulkheadlaw21.DuctExact", spec := "ductExact", unfollowed := true, recurses := true, named := ["bulkhead/admit.fine", "bulkhead/admit.nowhere"], apart := false, laid := [("bulkhead/admit.nowhere", laid_bulkhead_admit_nowhere), ("bulkhead/admit.fine", laid_bulkhead_admit_fine)] }
def DuctExactSaid : Prop := ductExactRow.holds Tryz.pinned (OpenSpec.ofChange ductExactSpec)

/-- ITS FALSE NEIGHBOUR: 'it returns false'. Refute it at one input. -/
def ductExactWrong : ChangeSpec := { name := "ductExact", fn := fun _ => fun
  | [d1, d2] => { results := [.lit (.bool false)], args := [d1, d2] }
  | _ => none }
def DuctExactWrongFalsely : Prop := ductExactRow.holds Tryz.pinned (OpenSpec.ofChange ductExactWrong)

/- THE SECOND FORM. 'bulk': how many values and letters a reading holds, each counted each time it is reached (what is shared counts as often as it is met; a slice's spare places count too). A statement '..UptoSaid' is the law's where the arguments, and the package variables that the reading takes, are together of bulk at most 1048576: NARROWER than '..Said'. Prove '..Said' where nothing that the law and all that it calls make is longer than what came in: it says more and counts as full. Else prove '..UptoSaid'. A law counts once. -/
mutual
def uptoBulk {H : Type} : DataW H → Nat
  | .lit (.string bytes) => bytes.length + 1
  | .lit _ => 1
  | .nil => 1
  | .ptr d => uptoBulk d + 1
  | .slice elems spare => uptoBulkAll elems + uptoBulkAll spare + 1
  | .agg parts => uptoBulkAll parts + 1
  | .iface _ d => uptoBulk d + 1
  | .map entries => uptoBulkEntries entries + 1
  | .held _ => 1
def uptoBulkAll {H : Type} : List (DataW H) → Nat
  | [] => 0
  | d :: r => uptoBulk d + uptoBulkAll r
def uptoBulkEntries {H : Type} : List (Lit × DataW H) → Nat
  | [] => 0
  | x :: r => uptoBulkEntry x + uptoBulkEntries r
def uptoBulkEntry {H : Type} : Lit × DataW H → Nat
  | (.string bytes, d) => bytes.length + uptoBulk d + 1
  | (_, d) => uptoBulk d + 1
 end
def uptoSmall : (H : Type) → List (DataW H) → Bool := fun _ ds => decide (uptoBulkAll ds ≤ 1048576)
def OpenSpec.upto (s : _root_.Go.ChangeSpec) : _root_.Go.OpenSpec := { _root_.Go.OpenSpec.ofChange s with cond := some uptoSmall }

/-- 'bulkheadlaw21.DuctCarries', WHERE WHAT IT READS IS OF BULK AT MOST 1048576: true; the input reads as it did. -/
def ductCarriesUptoRow : OpenClaim := { program := "ytganhedldgbfpaagreatdoor", sum := "dbe48a9aa28229dde481ecbf6604e544cd065504d0403981b51610239548cd00", func := "bulkhead/bulkheadlaw21.DuctCarries", spec := "ductCarries", unfollowed := true, recurses := true, named := ["bulkhead/admit.fine", "bulkhead/admit.nowhere"], apart := false, laid := [("bulkhead/admit.nowhere", laid_bulkhead_admit_nowhere), ("bulkhead/admit.fine", laid_bulkhead_admit_fine)], narrowed := true }
def DuctCarriesUptoSaid : Prop := ductCarriesUptoRow.holds Tryz.pinned (OpenSpec.upto ductCarriesSpec)

/-- 'bulkheadlaw21.DuctWalls', WHERE WHAT IT READS IS OF BULK AT MOST 1048576: true; the input reads as it did. -/
def ductWallsUptoRow : OpenClaim := { program := "ytganhedldgbfpaagreatdoor", sum := "dbe48a9aa28229dde481ecbf6604e544cd065504d0403981b51610239548cd00", func := "bulkhead/bulkheadlaw21.DuctWalls", spec := "ductWalls", unfollowed := true, recurses := true, named := ["bulkhead/admit.fine", "bulkhead/admit.nowhere"], apart := false, laid := [("bulkhead/admit.nowhere", laid_bulkhead_admit_nowhere), ("bulkhead/admit.fine", laid_bulkhead_admit_fine)], narrowed := true }
def DuctWallsUptoSaid : Prop := ductWallsUptoRow.holds Tryz.pinned (OpenSpec.upto ductWallsSpec)

/-- 'bulkheadlaw21.DuctExact', WHERE WHAT IT READS IS OF BULK AT MOST 1048576: true; the input reads as it did. -/
def ductExactUptoRow : OpenClaim := { program := "ytganhedldgbfpaagreatdoor", sum := "dbe48a9aa28229dde481ecbf6604e544cd065504d0403981b51610239548cd00", func := "bulkhead/bulkheadlaw21.DuctExact", spec := "ductExact", unfollowed := true, recurses := true, named := ["bulkhead/admit.fine", "bulkhead/admit.nowhere"], apart := false, laid := [("bulkhead/admit.nowhere", laid_bulkhead_admit_nowhere), ("bulkhead/admit.fine", laid_bulkhead_admit_fine)], narrowed := true }
def DuctExactUptoSaid : Prop := ductExactUptoRow.holds Tryz.pinned (OpenSpec.upto ductExactSpec)

end Rows
end Go.Proofs.YtganhedldgbfpaaGreatDoor
