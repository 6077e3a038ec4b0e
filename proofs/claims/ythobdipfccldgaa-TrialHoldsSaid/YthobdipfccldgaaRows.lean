/-
  No cell of these rows narrows 'for every input' (looked for: loops, veiled, ifaces, maps, wideKeys, modest, calm, conditions, laid).
  DERIVED. THE GIVEN ROWS OF THIS SEAT. 4 by the template 'for every input the law returns true; each argument reads behind the call as it read before'; 0 by the template 'total and deterministic' (their statements: YthobdipfccldgaaTotals.lean).
  GIVEN WITH THE SEED: the statements are not yours to turn. If you find one false, say at which input.
  Laid BY PROGRAM, IN A SANDBOX (cutbox-rows.mjs): the forced cells as the released guide's own fill.sh prints them over the translation 014744c9bc11d7a4… (all of the seat's roots in one cut). By AI agents, Wed Nov 11 2026. No macro, syntax, notation, axiom, sorry.
-/
import Derived.Test.YthobdipfccldgaaChecked
import GoSem.Claim
import GoSem.ClaimJoined
import GoSem.ClaimMapViews
import Derived.JoinedTies
import Derived.KernelRfl
namespace Go.Proofs.Ythobdipfccldgaa
/- THE CELL 'sum', in the pinned program and in every row, IS THE sha256 OF THE DUMP (.gsa) THAT YthobdipfccldgaaProg.lean LOADS. Nothing in Lean hashes anything: it is a label: what it is worth is what the hold of that sum in a sandbox is worth. -/
noncomputable def Try.pinned : Pinned := { name := "ythobdipfccldgaa", sum := "014744c9bc11d7a4b631a071c4a1771d0f1b22228ed7d111fed7ba34486d7b82", checked := Try.checked }
namespace Rows
def none {H : Type} : Left H := { results := [], args := [] }

/-- 'bulkheadlaw21.DuctNames': WHATEVER THE INPUT: true; the input reads as it did. -/
def ductNamesSpec : ChangeSpec := { name := "ductNames", fn := fun _ => fun
  | [] => { results := [.lit (.bool true)], args := [] }
  | _ => none }
def ductNamesRow : OpenClaim := { program := "ythobdipfccldgaa", sum := "014744c9bc11d7a4b631a071c4a1771d0f1b22228ed7d111fed7ba34486d7b82", func := "bulkhead/bulkheadlaw21.DuctNames", spec := "ductNames", apart := false }
def DuctNamesSaid : Prop := ductNamesRow.holds Try.pinned (OpenSpec.ofChange ductNamesSpec)

/-- ITS FALSE NEIGHBOUR: 'it returns false'. Refute it at one input. -/
def ductNamesWrong : ChangeSpec := { name := "ductNames", fn := fun _ => fun
  | [] => { results := [.lit (.bool false)], args := [] }
  | _ => none }
def DuctNamesWrongFalsely : Prop := ductNamesRow.holds Try.pinned (OpenSpec.ofChange ductNamesWrong)

/-- 'bulkheadlaw25.CallsNames': WHATEVER THE INPUT: true; the input reads as it did. -/
def callsNamesSpec : ChangeSpec := { name := "callsNames", fn := fun _ => fun
  | [] => { results := [.lit (.bool true)], args := [] }
  | _ => none }
def callsNamesRow : OpenClaim := { program := "ythobdipfccldgaa", sum := "014744c9bc11d7a4b631a071c4a1771d0f1b22228ed7d111fed7ba34486d7b82", func := "bulkhead/bulkheadlaw25.CallsNames", spec := "callsNames", apart := false }
def CallsNamesSaid : Prop := callsNamesRow.holds Try.pinned (OpenSpec.ofChange callsNamesSpec)

/-- ITS FALSE NEIGHBOUR: 'it returns false'. Refute it at one input. -/
def callsNamesWrong : ChangeSpec := { name := "callsNames", fn := fun _ => fun
  | [] => { results := [.lit (.bool false)], args := [] }
  | _ => none }
def CallsNamesWrongFalsely : Prop := callsNamesRow.holds Try.pinned (OpenSpec.ofChange callsNamesWrong)

/-- 'bulkheadlaw29.ImageNames': WHATEVER THE INPUT: true; the input reads as it did. -/
def imageNamesSpec : ChangeSpec := { name := "imageNames", fn := fun _ => fun
  | [] => { results := [.lit (.bool true)], args := [] }
  | _ => none }
def imageNamesRow : OpenClaim := { program := "ythobdipfccldgaa", sum := "014744c9bc11d7a4b631a071c4a1771d0f1b22228ed7d111fed7ba34486d7b82", func := "bulkhead/bulkheadlaw29.ImageNames", spec := "imageNames", apart := false }
def ImageNamesSaid : Prop := imageNamesRow.holds Try.pinned (OpenSpec.ofChange imageNamesSpec)

/-- ITS FALSE NEIGHBOUR: 'it returns false'. Refute it at one input. -/
def imageNamesWrong : ChangeSpec := { name := "imageNames", fn := fun _ => fun
  | [] => { results := [.lit (.bool false)], args := [] }
  | _ => none }
def ImageNamesWrongFalsely : Prop := imageNamesRow.holds Try.pinned (OpenSpec.ofChange imageNamesWrong)

/-- 'bulkheadlaw31.TrialHolds': WHATEVER THE INPUT: true; the input reads as it did. -/
def trialHoldsSpec : ChangeSpec := { name := "trialHolds", fn := fun _ => fun
  | [d1, d2] => { results := [.lit (.bool true)], args := [d1, d2] }
  | _ => none }
def trialHoldsRow : OpenClaim := { program := "ythobdipfccldgaa", sum := "014744c9bc11d7a4b631a071c4a1771d0f1b22228ed7d111fed7ba34486d7b82", func := "bulkhead/bulkheadlaw31.TrialHolds", spec := "trialHolds", apart := false }
def TrialHoldsSaid : Prop := trialHoldsRow.holds Try.pinned (OpenSpec.ofChange trialHoldsSpec)

/-- ITS FALSE NEIGHBOUR: 'it returns false'. Refute it at one input. -/
def trialHoldsWrong : ChangeSpec := { name := "trialHolds", fn := fun _ => fun
  | [d1, d2] => { results := [.lit (.bool false)], args := [d1, d2] }
  | _ => none }
def TrialHoldsWrongFalsely : Prop := trialHoldsRow.holds Try.pinned (OpenSpec.ofChange trialHoldsWrong)

/- THE SECOND FORM. 'bulk': how many values and letters a reading holds, each counted each time it is reached (what is shared counts as often as it is met; a slice's spare places count too). A statement '..UptoSaid' is the law's where the arguments, and the package variables that the reading takes, are together of bulk at most 1048576: NARROWER than '..Said'. Prove '..Said' where nothing that the law and all that it calls make is longer than what came in: it says more and counts as full. Else prove '..UptoSaid'. A law counts once. -/
mutual
def uptoBulk {H : Type} : DataW H → Nat
  | .lit (.string bytes) => bytes.length + 1
  | .lit _ => 1
  | .nil => 1
  | .ptr d => uptoBulk d + 1
  | .slice elems spare => uptoBulkAll elems + uptoBulkAll spare + 1
  | .agg parts => uptoBulkAll parts + 1
  | .iface _ d => uptoBulk d + 1
  | .map entries => uptoBulkEntries entries + 1
  | .held _ => 1
def uptoBulkAll {H : Type} : List (DataW H) → Nat
  | [] => 0
  | d :: r => uptoBulk d + uptoBulkAll r
def uptoBulkEntries {H : Type} : List (Lit × DataW H) → Nat
  | [] => 0
  | x :: r => uptoBulkEntry x + uptoBulkEntries r
def uptoBulkEntry {H : Type} : Lit × DataW H → Nat
  | (.string bytes, d) => bytes.length + uptoBulk d + 1
  | (_, d) => uptoBulk d + 1
 end
def uptoSmall : (H : Type) → List (DataW H) → Bool := fun _ ds => decide (uptoBulkAll ds ≤ 1048576)
def OpenSpec.upto (s : _root_.Go.ChangeSpec) : _root_.Go.OpenSpec := { _root_.Go.OpenSpec.ofChange s with cond := some uptoSmall }

/-- 'bulkheadlaw21.DuctNames', WHERE WHAT IT READS IS OF BULK AT MOST 1048576: true; the input reads as it did. -/
def ductNamesUptoRow : OpenClaim := { program := "ythobdipfccldgaa", sum := "014744c9bc11d7a4b631a071c4a1771d0f1b22228ed7d111fed7ba34486d7b82", func := "bulkhead/bulkheadlaw21.DuctNames", spec := "ductNames", apart := false, narrowed := true }
def DuctNamesUptoSaid : Prop := ductNamesUptoRow.holds Try.pinned (OpenSpec.upto ductNamesSpec)

/-- 'bulkheadlaw25.CallsNames', WHERE WHAT IT READS IS OF BULK AT MOST 1048576: true; the input reads as it did. -/
def callsNamesUptoRow : OpenClaim := { program := "ythobdipfccldgaa", sum := "014744c9bc11d7a4b631a071c4a1771d0f1b22228ed7d111fed7ba34486d7b82", func := "bulkhead/bulkheadlaw25.CallsNames", spec := "callsNames", apart := false, narrowed := true }
def CallsNamesUptoSaid : Prop := callsNamesUptoRow.holds Try.pinned (OpenSpec.upto callsNamesSpec)

/-- 'bulkheadlaw29.ImageNames', WHERE WHAT IT READS IS OF BULK AT MOST 1048576: true; the input reads as it did. -/
def imageNamesUptoRow : OpenClaim := { program := "ythobdipfccldgaa", sum := "014744c9bc11d7a4b631a071c4a1771d0f1b22228ed7d111fed7ba34486d7b82", func := "bulkhead/bulkheadlaw29.ImageNames", spec := "imageNames", apart := false, narrowed := true }
def ImageNamesUptoSaid : Prop := imageNamesUptoRow.holds Try.pinned (OpenSpec.upto imageNamesSpec)

/-- 'bulkheadlaw31.TrialHolds', WHERE WHAT IT READS IS OF BULK AT MOST 1048576: true; the input reads as it did. -/
def trialHoldsUptoRow : OpenClaim := { program := "ythobdipfccldgaa", sum := "014744c9bc11d7a4b631a071c4a1771d0f1b22228ed7d111fed7ba34486d7b82", func := "bulkhead/bulkheadlaw31.TrialHolds", spec := "trialHolds", apart := false, narrowed := true }
def TrialHoldsUptoSaid : Prop := trialHoldsUptoRow.holds Try.pinned (OpenSpec.upto trialHoldsSpec)

end Rows
end Go.Proofs.Ythobdipfccldgaa
