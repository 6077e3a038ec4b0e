/- The law TrialHolds answers true: the two Holds tell the same of any two traces, in either order, and of a trace that is written over what it is then. No condition. -/
import Derived.Test.YthobdipfccldgaaH2
import Derived.Test.YthobdipfccldgaaRows
import Derived.WalkKit
import Derived.ProofKit
import Derived.OpenShut
import Derived.ChangeOld
import Derived.Below
import Derived.SizedLaws
import Derived.Carry
namespace Go.Proofs.Ythobdipfccldgaa.trialHolds
open Go.ChangeShapes Go.WideShapes Go.ChangeAt Go.RowKit
noncomputable def good1 (id : TypeId) : Bool := match tyOf id with
  | none => true
  | some t => match flat Try.prog 8 id with
    | some ls => decide (ls.mapM (leafTy Try.prog) = some t.leaves) && Nat.blt 0 (Try.prog.bytesOf id)
    | none => false
theorem tyOf_lt {id : TypeId} {t : Ty} (h : tyOf id = some t) : id < tyMax := by
  unfold tyOf at h
  split at h <;> first | (cases h; done) | decide
theorem good : Good Try.prog := by
  intro id t h
  have hall : (List.range tyMax).all good1 = true := by kernel_rfl
  have := List.all_eq_true.1 hall id (List.mem_range.2 (tyOf_lt h))
  unfold good1 at this
  rw [h] at this
  simp only at this
  split at this
  · rename_i ls hls
    simp only [Bool.and_eq_true, decide_eq_true_eq, Nat.blt_eq] at this
    exact ⟨ls, hls, this.1, this.2⟩
  · cases this
theorem own : ownKnob Try.prog.godebug = none := by kernel_rfl
theorem lifted (os : Os) (started : os.Started) (H : Type) (enc : TypeId × Value → H) :
    ReturnsInHanded {} Try.checked os 6 .any (Rows.trialHoldsSpec.pre6 enc Try.prog Try.f6 Rows.trialHoldsRow.domain false) (Rows.trialHoldsSpec.post enc Try.prog Try.f6 false true false false) := by
  refine returnsInHanded_of_change_sized (C := Try.checked) own started (by kernel_rfl) Try.func6
    (ChangeSpec.witness6 (enc := enc) (C := Try.checked) false ⟨#[], #[.slice none 0 0, .slice none 0 0], []⟩ 8 (by kernel_rfl) (by kernel_rfl) (by kernel_rfl) (by kernel_rfl)) ?_
  intro W base args ds gs before hval0 hW hcnd hsz0 _
  have hW' := hW
  obtain ⟨p, q, hA0, hV, rfl, hfz, hnd⟩ := hW
  have hA : DataW.TrodAll enc Try.prog W 0 (fun _ => true) true Try.f6.params.toList args.toList ds p := hA0
  have hlt := hA.lt
  have hsz : ∀ (j : Nat) (t : TypeId) (d : DataW H), (Try.f6.params.toList ++ Rows.trialHoldsSpec.plain.varTypes Try.prog)[j]? = some t → (ds ++ gs)[j]? = some d → Small Try.prog d t := fun j t d ht hd k hk => by
    have := List.all_eq_true.1 hsz0 k (DataW.weights_mem_each ht hd k hk)
    simpa using this
  rw [Try.params6] at hA hsz hval0
  obtain ⟨v, v', d, d', p0, p1, rfl, rfl, rfl, h0, h1⟩ := trodAll_two hA
  obtain ⟨rfl, rfl⟩ := trodVars_none hV
  have hu : Try.prog.underlying 23 = some (.slice 34) := by kernel_rfl
  obtain ⟨xs, hx⟩ := D_slice_arg good hu (t := .sSeen) rfl (hval0 0 _ v rfl rfl) h0 (hsz 0 _ d rfl rfl)
  obtain ⟨ys, hy⟩ := D_slice_arg good hu (t := .sSeen) rfl (hval0 1 _ v' rfl rfl) h1 (hsz 1 _ d' rfl rfl)
  have hk := okay6 xs ys (All W) W [v, v'] (fun _ h => h) (fun β g => .inl (by simp)) rfl (fun j hj => by
    match j, hj with
    | 0, _ => exact hx
    | 1, _ => exact hy)
  refine hk.mono fun e W' ⟨y, he, hb, F', _, _, hd⟩ => ?_
  subst he
  have hy' : y = .bool true := flatR_Dr hd rfl
  subst hy'
  have hl : laidOutB Try.prog = true := by kernel_rfl
  refine ⟨_, rfl, _, _, _, [], _, [], hW', trodAll_mk1 (shut_bool Try.underlying4 _), trodAll_mk2 (Below.trod hl (by kernel_rfl) (of_decide_eq_true (by kernel_rfl)) h0 hb (fun x hx => hlt x (by simp [hx]))) (Below.trod hl (by kernel_rfl) (of_decide_eq_true (by kernel_rfl)) h1 hb (fun x hx => hlt x (by simp [hx]))), rfl, hb.frame _, fun h => by cases h⟩
theorem over : Rows.trialHoldsRow.holds Try.pinned (OpenSpec.ofChange Rows.trialHoldsSpec) :=
  OpenClaim.holds_of_wide 6 Try.f6 rfl rfl rfl rfl rfl rfl rfl ⟨rfl, rfl, rfl, rfl, rfl⟩ rfl rfl rfl rfl rfl (by kernel_rfl) Try.func6 (by kernel_rfl)
    (of_decide_eq_true (by kernel_rfl)) (by unfold Func.isWrapper; rw [if_neg (of_decide_eq_false (by kernel_rfl))]; exact ⟨rfl, rfl⟩)
    (fun os started H enc _ => lifted os started H enc)
end Go.Proofs.Ythobdipfccldgaa.trialHolds
namespace Go.Proofs.Ythobdipfccldgaa
theorem trialHolds_holds : Rows.TrialHoldsSaid := trialHolds.over
end Go.Proofs.Ythobdipfccldgaa
