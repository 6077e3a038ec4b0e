/- The law AuditMay: what the statement says of the call: whatever configuration, partition and owner, it answers true. No condition; the variables that the run reads are laid as the program's text lays them. -/
import Derived.Test.YthnkmndjhedgdaaDoorB5
import Derived.Test.YthnkmndjhedgdaaDoorLG
import Derived.Test.YthnkmndjhedgdaaDoorTie
import Derived.SevenTiedAt
namespace Go.Proofs.YthnkmndjhedgdaaDoor.auditMay
open Go.ChangeShapes Go.WideShapes Go.ChangeAt Go.RowKit
set_option linter.unusedVariables false
noncomputable def good1 (id : TypeId) : Bool := match tyOf id with
  | none => true
  | some t => match t.dat with
    | false => true
    | true => match flat Tryd.prog 8 id with
      | some ls => decide (ls.mapM (leafTy Tryd.prog) = some t.leaves) && Nat.blt 0 (Tryd.prog.bytesOf id) && Nat.beq (Tryd.prog.bytesOf id) t.by
      | none => false
theorem tyOf_lt {id : TypeId} {t : Ty} (h : tyOf id = some t) : id < tyMax := by
  unfold tyOf at h
  split at h <;> first | (cases h; done) | decide
theorem good : Good Tryd.prog := by
  intro id t h hd
  have hall : (List.range tyMax).all good1 = true := by kernel_rfl
  have := List.all_eq_true.1 hall id (List.mem_range.2 (tyOf_lt h))
  unfold good1 at this
  rw [h] at this
  simp only [hd] at this
  split at this
  · rename_i ls hls
    simp only [Bool.and_eq_true, decide_eq_true_eq, Nat.blt_eq, Nat.beq_eq] at this
    exact ⟨ls, hls, this.1.1, this.1.2, this.2⟩
  · cases this
theorem own : ownKnob Tryd.prog.godebug = none := by kernel_rfl
noncomputable abbrev laidL : List (String × DataW Unit) := Rows.auditMayRow.laid
def args0 : Array Value := #[.agg #[.int .i64 0, .int .i64 0, .int .i64 0, .int .i64 0, .slice none 0 0, .slice none 0 0, .slice none 0 0], .int .i64 0, .agg #[.int .i64 0, .int .i64 0, .int .i64 0]]
theorem door_met (os : Os) (args : Array Value) : laidMetH Tryd.prog laidL ((World.doorLaid Tryd.prog 400 os).forCall (fun _ _ => 0) ⟨#[], args, []⟩).memory :=
  laidMetH_of_parts3 (fuel := 8) (laidMet_of_run' 8 (by kernel_rfl) (by kernel_rfl)) (by kernel_rfl) (by kernel_rfl)
theorem gFine : Tryd.prog.globalNamed "bulkhead/admit.fine" = some 0 := by kernel_rfl
theorem gNowhere : Tryd.prog.globalNamed "bulkhead/admit.nowhere" = some 1 := by kernel_rfl
theorem tFine : (Tryd.prog.globals[0]?).map (·.type) = some 93 := by kernel_rfl
theorem tNowhere : (Tryd.prog.globals[1]?).map (·.type) = some 36 := by kernel_rfl
theorem gl_ok {W : World} (h : laidMetH Tryd.prog laidL W) : GlOk GL (fun b => b < W.heap.size) W := by
  rw [MakeChecks.laidMetH_plain _ _ _ (by kernel_rfl)] at h
  obtain ⟨ps, ⟨g1, t1, cs1, f1, p1, q1, hg1, ht1, hv1, hd1, ⟨g2, t2, cs2, f2, p2, q2, hg2, ht2, hv2, hd2, _, _⟩, _⟩, _, _⟩ := h
  obtain rfl := Option.some.inj (gNowhere.symm.trans hg1)
  obtain rfl := Option.some.inj (gFine.symm.trans hg2)
  obtain rfl := Option.some.inj (tNowhere.symm.trans ht1)
  obtain rfl := Option.some.inj (tFine.symm.trans ht2)
  have e1 := cells_where hd1
  have e2 := cells_found hd2
  intro g
  match g with
  | 0 => exact el_of (t := .sAdmitFound) (x := fine) (cs := cs2) (World.var?_cell hg2 hv2) (by rw [← Array.length_toList, e2]; decide) (by decide) (fun j hj => by
      have hj : j < 3 := hj
      rw [← toL_getD, e2]
      match j, hj with
      | 0, _ => exact .v _
      | 1, _ => exact .v _
      | 2, _ => exact .v _)
  | 1 => exact el_of (t := .sWhere) (x := nowhere) (cs := cs1) (World.var?_cell hg1 hv1) (by rw [← Array.length_toList, e1]; decide) (by decide) (fun j hj => by
      have hj : j < 2 := hj
      rw [← toL_getD, e1]
      match j, hj with
      | 0, _ => exact .v _
      | 1, _ => exact .v _)
  | g + 2 => exact .undef _
set_option maxRecDepth 100000 in
theorem lifted (os : Os) (started : os.Started) (H : Type) (enc : TypeId × Value → H) :
    ReturnsInHanded {} Tryd.checked os 3 .any (fun w args => (Rows.auditMaySpec.pre enc Tryd.prog Tryd.f3 [] false w args ∧ laidMetH Tryd.prog laidL w) ∧ sizedMet enc Tryd.prog Tryd.f3 (OpenSpec.ofChange Rows.auditMaySpec) false w args)
      (Rows.auditMaySpec.post enc Tryd.prog Tryd.f3 false true false false) := by
  refine returnsInHanded_of_change_and (C := Tryd.checked) (X := fun w _ => laidMetH Tryd.prog laidL w) (fun _ _ _ hh h => h.of_heap hh) own started (by kernel_rfl) Tryd.func3
    (ChangeSpec.witness_shaped (enc := enc) (C := Tryd.checked) (os := os) (X := fun w _ => laidMetH Tryd.prog laidL w) false (World.doorLaid Tryd.prog 400 os) args0 8 rfl (World.shaped_of_RefB (by kernel_rfl) (by kernel_rfl)) (by kernel_rfl) (by kernel_rfl) (by kernel_rfl) (door_met os _)) ?_
  intro W base args ds gs before hval0 hW _ hsz0 hL _
  have hW' := hW
  obtain ⟨p, q, hA0, hV, rfl, hfz, hnd⟩ := hW
  have hA : DataW.TrodAll enc Tryd.prog W 0 (fun _ => true) true Tryd.f3.params.toList args.toList ds p := hA0
  have hlt := hA.lt
  have hsz : ∀ (j : Nat) (t : TypeId) (d : DataW H), (Tryd.f3.params.toList ++ Rows.auditMaySpec.plain.varTypes Tryd.prog)[j]? = some t → (ds ++ gs)[j]? = some d → Small Tryd.prog d t := fun j t d ht hd k hk => by
    have := List.all_eq_true.1 hsz0 k (DataW.weights_mem_each ht hd k hk)
    simpa using this
  rw [Tryd.params3] at hA hsz hval0
  obtain ⟨v0, v1, v2, d0, d1, d2, p0, p1, p2, rfl, rfl, rfl, h0, h1, h2⟩ := trodAll_three hA
  obtain ⟨rfl, rfl⟩ := trodVars_none hV
  obtain ⟨fs, hu0⟩ : ∃ fs, Tryd.prog.underlying 26 = some (.struct fs) := ⟨_, Tryd.underlying26⟩
  obtain ⟨fs2, hu2⟩ : ∃ fs, Tryd.prog.underlying 28 = some (.struct fs) := ⟨_, Tryd.underlying28⟩
  obtain ⟨c, hc, hfit⟩ := D_struct_arg good hu0 (t := .sConfig) rfl rfl (hval0 0 _ v0 rfl rfl) h0 (hsz 0 _ d0 rfl rfl)
  obtain ⟨o, ho, _⟩ := D_struct_arg good hu2 (t := .sOwner) rfl rfl (hval0 2 _ v2 rfl rfl) h2 (hsz 2 _ d2 rfl rfl)
  obtain ⟨n, hn1, _, _, _⟩ := open_int Tryd.underlying3 (hval0 1 _ v1 rfl rfl) h1
  subst hn1
  have hl := law_true (fitC hfit) n o
  have hsp : sp3 c n o = true := (sp_of hl).1
  have hspc : spc3 c n o = true := (sp_of hl).2
  have walk := oks3 c n o hspc
  rw [hsp] at walk
  have hk := walk (fun b => b < W.heap.size) W Gh.nil [v0, .int .i64 n, v2] ⟨fun _ h => h, fun b k hk => by simp at hk, fun p κ hp => by simp [Gh.nil] at hp, fun p κ hp => by simp [Gh.nil] at hp, fun b hb => by simp [Gh.nil] at hb⟩ (gl_ok hL) rfl (fun j hj => by
    match j, hj with
    | 0, _ => exact hc
    | 1, _ => exact .v _
    | 2, _ => exact ho)
  refine hk.mono fun e W' ⟨y, he, F', β', hkeep, _, _, _, _, _, _, hd⟩ => ?_
  subst he
  have hy : y = .bool true := V_v hd
  subst hy
  have hb : Below W.heap.size W W' := ⟨hkeep.os, hkeep.tape, hkeep.output, hkeep.size, fun k hk' => hkeep.block k hk' (fun h => h rfl)⟩
  have hlo : laidOutB Tryd.prog = true := by kernel_rfl
  exact ⟨_, rfl, _, _, _, [], _, [], hW', trodAll_mk1 (shut_bool Tryd.underlying4 _), trodAll_mk3 (Below.trod hlo (by kernel_rfl) (of_decide_eq_true (by kernel_rfl)) h0 hb (fun x hx => hlt x (by simp [hx]))) (Below.trod hlo (by kernel_rfl) (of_decide_eq_true (by kernel_rfl)) h1 hb (fun x hx => hlt x (by simp [hx]))) (Below.trod hlo (by kernel_rfl) (of_decide_eq_true (by kernel_rfl)) h2 hb (fun x hx => hlt x (by simp [hx]))), rfl, hb.frame _, fun h => by cases h⟩
end Go.Proofs.YthnkmndjhedgdaaDoor.auditMay
