/-
  NARROWER THAN 'FOR EVERY INPUT', by the rows' own cells (each row's printed sentence says how): SoloNames: laid · TrialNames: laid.
  DERIVED. THE GIVEN ROWS OF THIS SEAT. 2 by the template 'for every input the law returns true; each argument reads behind the call as it read before'; 0 by the template 'total and deterministic' (their statements: YtmgofekgjehegaaGreatDoorTotals.lean).
  GIVEN WITH THE SEED: the statements are not yours to turn. If you find one false, say at which input.
  Laid BY PROGRAM, IN A SANDBOX (cutbox-rows.mjs): the forced cells as the released guide's own fill.sh prints them over the translation 1259d1157416610d… (all of the seat's roots in one cut). By AI agents, Wed Nov 11 2026. No macro, syntax, notation, axiom, sorry.
-/
import Derived.Test.YtmgofekgjehegaaGreatDoorChecked
import GoSem.Claim
import GoSem.ClaimJoined
import GoSem.ClaimMapViews
import Derived.JoinedTies
import Derived.KernelRfl
namespace Go.Proofs.YtmgofekgjehegaaGreatDoor
/- THE CELL 'sum', in the pinned program and in every row, IS THE sha256 OF THE DUMP (.gsa) THAT YtmgofekgjehegaaGreatDoorProg.lean LOADS. Nothing in Lean hashes anything: it is a label: what it is worth is what the hold of that sum in a sandbox is worth. -/
noncomputable def Tryz.pinned : Pinned := { name := "ytmgofekgjehegaagreatdoor", sum := "1259d1157416610d531e39bdb53f4a391e4cee2fd29740cc2abb3d4b30cacc89", checked := Tryz.checked }
namespace Rows
def none {H : Type} : Left H := { results := [], args := [] }

/- WHAT THE LISTED PACKAGE-LEVEL VARIABLES READ AS WHEN THE CALL BEGINS. Each datum BY PROGRAM (the guide's laid-datum.mjs) off the statement by which the dump's own 'gosem.cut.vars' lays the variable. In a bare row this is a premise. The card (YtmgofekgjehegaaGreatDoorCards.lean) ties it to the program's text. -/
def laid_bulkhead_isa_rows {H : Type} : DataW H := .agg [.agg [.lit (.string []), .lit (.int .i64 0), .lit (.int .i64 0)], .agg [.lit (.string [110, 111, 112]), .lit (.int .i64 1), .lit (.int .i64 1)], .agg [.lit (.string [109, 111, 118]), .lit (.int .i64 3), .lit (.int .i64 1)], .agg [.lit (.string [108, 105]), .lit (.int .i64 5), .lit (.int .i64 1)], .agg [.lit (.string [104, 105]), .lit (.int .i64 5), .lit (.int .i64 1)], .agg [.lit (.string [97, 100, 100]), .lit (.int .i64 4), .lit (.int .i64 1)], .agg [.lit (.string [115, 117, 98]), .lit (.int .i64 4), .lit (.int .i64 1)], .agg [.lit (.string [109, 117, 108]), .lit (.int .i64 4), .lit (.int .i64 3)], .agg [.lit (.string [100, 105, 118]), .lit (.int .i64 4), .lit (.int .i64 8)], .agg [.lit (.string [114, 101, 109]), .lit (.int .i64 4), .lit (.int .i64 8)], .agg [.lit (.string [97, 110, 100]), .lit (.int .i64 4), .lit (.int .i64 1)], .agg [.lit (.string [111, 114]), .lit (.int .i64 4), .lit (.int .i64 1)], .agg [.lit (.string [120, 111, 114]), .lit (.int .i64 4), .lit (.int .i64 1)], .agg [.lit (.string [115, 104, 108]), .lit (.int .i64 4), .lit (.int .i64 1)], .agg [.lit (.string [115, 104, 114]), .lit (.int .i64 4), .lit (.int .i64 1)], .agg [.lit (.string [115, 97, 114]), .lit (.int .i64 4), .lit (.int .i64 1)], .agg [.lit (.string [115, 108, 116]), .lit (.int .i64 4), .lit (.int .i64 1)], .agg [.lit (.string [115, 108, 116, 117]), .lit (.int .i64 4), .lit (.int .i64 1)], .agg [.lit (.string [97, 100, 100, 105]), .lit (.int .i64 6), .lit (.int .i64 1)], .agg [.lit (.string [108, 100]), .lit (.int .i64 6), .lit (.int .i64 1)], .agg [.lit (.string [115, 116]), .lit (.int .i64 6), .lit (.int .i64 1)], .agg [.lit (.string [98, 101, 113]), .lit (.int .i64 6), .lit (.int .i64 1)], .agg [.lit (.string [98, 110, 101]), .lit (.int .i64 6), .lit (.int .i64 1)], .agg [.lit (.string [98, 108, 116]), .lit (.int .i64 6), .lit (.int .i64 1)], .agg [.lit (.string [98, 103, 101]), .lit (.int .i64 6), .lit (.int .i64 1)], .agg [.lit (.string [98, 108, 116, 117]), .lit (.int .i64 6), .lit (.int .i64 1)], .agg [.lit (.string [106, 109, 112]), .lit (.int .i64 7), .lit (.int .i64 1)], .agg [.lit (.string [106, 97, 108]), .lit (.int .i64 5), .lit (.int .i64 1)], .agg [.lit (.string [106, 114]), .lit (.int .i64 2), .lit (.int .i64 1)], .agg [.lit (.string [99, 121, 99]), .lit (.int .i64 2), .lit (.int .i64 1)], .agg [.lit (.string [104, 121, 112]), .lit (.int .i64 7), .lit (.int .i64 24)]]
def laid_bulkhead_admit_nowhere {H : Type} : DataW H := .agg [.lit (.int .i64 (-1)), .lit (.int .i64 (-1))]
def laid_bulkhead_admit_fine {H : Type} : DataW H := .agg [.lit (.int .i64 0), .agg [.lit (.int .i64 0), .lit (.int .i64 0)]]

/-- 'bulkheadlaw27.SoloNames': WHATEVER THE INPUT: true; the input reads as it did. -/
def soloNamesSpec : ChangeSpec := { name := "soloNames", fn := fun _ => fun
  | [] => { results := [.lit (.bool true)], args := [] }
  | _ => none }
def soloNamesRow : OpenClaim := { program := "ytmgofekgjehegaagreatdoor", sum := "1259d1157416610d531e39bdb53f4a391e4cee2fd29740cc2abb3d4b30cacc89", func := "bulkhead/bulkheadlaw27.SoloNames", spec := "soloNames", unfollowed := true, recurses := true, named := ["bulkhead/admit.fine", "bulkhead/admit.nowhere", "bulkhead/isa.rows"], plainKeys := false, leaving := true, apart := false, laid := [("bulkhead/isa.rows", laid_bulkhead_isa_rows), ("bulkhead/admit.nowhere", laid_bulkhead_admit_nowhere), ("bulkhead/admit.fine", laid_bulkhead_admit_fine)] }
def SoloNamesSaid : Prop := soloNamesRow.holds Tryz.pinned (OpenSpec.ofChange soloNamesSpec)

/-- ITS FALSE NEIGHBOUR: 'it returns false'. Refute it at one input. -/
def soloNamesWrong : ChangeSpec := { name := "soloNames", fn := fun _ => fun
  | [] => { results := [.lit (.bool false)], args := [] }
  | _ => none }
def SoloNamesWrongFalsely : Prop := soloNamesRow.holds Tryz.pinned (OpenSpec.ofChange soloNamesWrong)

/-- 'bulkheadlaw31.TrialNames': WHATEVER THE INPUT: true; the input reads as it did. -/
def trialNamesSpec : ChangeSpec := { name := "trialNames", fn := fun _ => fun
  | [] => { results := [.lit (.bool true)], args := [] }
  | _ => none }
def trialNamesRow : OpenClaim := { program := "ytmgofekgjehegaagreatdoor", sum := "1259d1157416610d531e39bdb53f4a391e4cee2fd29740cc2abb3d4b30cacc89", func := "bulkhead/bulkheadlaw31.TrialNames", spec := "trialNames", inPlace := ["(*sync.WaitGroup).Add", "internal/race.ReleaseMerge", "internal/race.Disable", "internal/race.Enable", "internal/synctest.IsInBubble", "internal/synctest.Associate[sync.WaitGroup]", "sync.fatal", "sync/atomic.OrUint64", "sync/atomic.AddUint64", "internal/race.Read", "sync/atomic.LoadUint64", "sync/atomic.StoreUint64", "internal/synctest.Disassociate[sync.WaitGroup]", "sync.runtime_Semrelease", "(*sync.WaitGroup).Done", "(*sync.WaitGroup).Wait", "internal/race.Acquire", "internal/synctest.IsAssociated[sync.WaitGroup]", "sync/atomic.CompareAndSwapUint64", "internal/race.Write", "sync.runtime_SemacquireWaitGroup"], unfollowed := true, recurses := true, named := ["bulkhead/admit.fine", "bulkhead/admit.nowhere", "bulkhead/isa.rows"], plainKeys := false, leaving := true, apart := false, laid := [("bulkhead/isa.rows", laid_bulkhead_isa_rows), ("bulkhead/admit.nowhere", laid_bulkhead_admit_nowhere), ("bulkhead/admit.fine", laid_bulkhead_admit_fine)] }
def TrialNamesSaid : Prop := trialNamesRow.holds Tryz.pinned (OpenSpec.ofChange trialNamesSpec)

/-- ITS FALSE NEIGHBOUR: 'it returns false'. Refute it at one input. -/
def trialNamesWrong : ChangeSpec := { name := "trialNames", fn := fun _ => fun
  | [] => { results := [.lit (.bool false)], args := [] }
  | _ => none }
def TrialNamesWrongFalsely : Prop := trialNamesRow.holds Tryz.pinned (OpenSpec.ofChange trialNamesWrong)

/- THE SECOND FORM. 'bulk': how many values and letters a reading holds, each counted each time it is reached (what is shared counts as often as it is met; a slice's spare places count too). A statement '..UptoSaid' is the law's where the arguments, and the package variables that the reading takes, are together of bulk at most 1048576: NARROWER than '..Said'. Prove '..Said' where nothing that the law and all that it calls make is longer than what came in: it says more and counts as full. Else prove '..UptoSaid'. A law counts once. -/
mutual
def uptoBulk {H : Type} : DataW H → Nat
  | .lit (.string bytes) => bytes.length + 1
  | .lit _ => 1
  | .nil => 1
  | .ptr d => uptoBulk d + 1
  | .slice elems spare => uptoBulkAll elems + uptoBulkAll spare + 1
  | .agg parts => uptoBulkAll parts + 1
  | .iface _ d => uptoBulk d + 1
  | .map entries => uptoBulkEntries entries + 1
  | .held _ => 1
def uptoBulkAll {H : Type} : List (DataW H) → Nat
  | [] => 0
  | d :: r => uptoBulk d + uptoBulkAll r
def uptoBulkEntries {H : Type} : List (Lit × DataW H) → Nat
  | [] => 0
  | x :: r => uptoBulkEntry x + uptoBulkEntries r
def uptoBulkEntry {H : Type} : Lit × DataW H → Nat
  | (.string bytes, d) => bytes.length + uptoBulk d + 1
  | (_, d) => uptoBulk d + 1
 end
def uptoSmall : (H : Type) → List (DataW H) → Bool := fun _ ds => decide (uptoBulkAll ds ≤ 1048576)
def OpenSpec.upto (s : _root_.Go.ChangeSpec) : _root_.Go.OpenSpec := { _root_.Go.OpenSpec.ofChange s with cond := some uptoSmall }

/-- 'bulkheadlaw27.SoloNames', WHERE WHAT IT READS IS OF BULK AT MOST 1048576: true; the input reads as it did. -/
def soloNamesUptoRow : OpenClaim := { program := "ytmgofekgjehegaagreatdoor", sum := "1259d1157416610d531e39bdb53f4a391e4cee2fd29740cc2abb3d4b30cacc89", func := "bulkhead/bulkheadlaw27.SoloNames", spec := "soloNames", unfollowed := true, recurses := true, named := ["bulkhead/admit.fine", "bulkhead/admit.nowhere", "bulkhead/isa.rows"], plainKeys := false, leaving := true, apart := false, laid := [("bulkhead/isa.rows", laid_bulkhead_isa_rows), ("bulkhead/admit.nowhere", laid_bulkhead_admit_nowhere), ("bulkhead/admit.fine", laid_bulkhead_admit_fine)], narrowed := true }
def SoloNamesUptoSaid : Prop := soloNamesUptoRow.holds Tryz.pinned (OpenSpec.upto soloNamesSpec)

/-- 'bulkheadlaw31.TrialNames', WHERE WHAT IT READS IS OF BULK AT MOST 1048576: true; the input reads as it did. -/
def trialNamesUptoRow : OpenClaim := { program := "ytmgofekgjehegaagreatdoor", sum := "1259d1157416610d531e39bdb53f4a391e4cee2fd29740cc2abb3d4b30cacc89", func := "bulkhead/bulkheadlaw31.TrialNames", spec := "trialNames", inPlace := ["(*sync.WaitGroup).Add", "internal/race.ReleaseMerge", "internal/race.Disable", "internal/race.Enable", "internal/synctest.IsInBubble", "internal/synctest.Associate[sync.WaitGroup]", "sync.fatal", "sync/atomic.OrUint64", "sync/atomic.AddUint64", "internal/race.Read", "sync/atomic.LoadUint64", "sync/atomic.StoreUint64", "internal/synctest.Disassociate[sync.WaitGroup]", "sync.runtime_Semrelease", "(*sync.WaitGroup).Done", "(*sync.WaitGroup).Wait", "internal/race.Acquire", "internal/synctest.IsAssociated[sync.WaitGroup]", "sync/atomic.CompareAndSwapUint64", "internal/race.Write", "sync.runtime_SemacquireWaitGroup"], unfollowed := true, recurses := true, named := ["bulkhead/admit.fine", "bulkhead/admit.nowhere", "bulkhead/isa.rows"], plainKeys := false, leaving := true, apart := false, laid := [("bulkhead/isa.rows", laid_bulkhead_isa_rows), ("bulkhead/admit.nowhere", laid_bulkhead_admit_nowhere), ("bulkhead/admit.fine", laid_bulkhead_admit_fine)], narrowed := true }
def TrialNamesUptoSaid : Prop := trialNamesUptoRow.holds Tryz.pinned (OpenSpec.upto trialNamesSpec)

end Rows
end Go.Proofs.YtmgofekgjehegaaGreatDoor
