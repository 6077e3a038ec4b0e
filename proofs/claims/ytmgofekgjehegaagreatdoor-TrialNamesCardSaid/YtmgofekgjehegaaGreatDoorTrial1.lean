/- The law TrialNames: what the statement says of the call. -/
import Derived.Test.YtmgofekgjehegaaGreatDoorTrial
import Derived.Test.YtmgofekgjehegaaGreatDoorLG
import Derived.Test.YtmgofekgjehegaaGreatDoorTie
import Derived.SevenTiedAt
namespace Go.Proofs.YtmgofekgjehegaaGreatDoor.trialNames
open Go.ChangeShapes Go.WideShapes Go.ChangeAt Go.RowKit
theorem own : ownKnob Tryz.prog.godebug = none := by kernel_rfl
noncomputable abbrev laidL : List (String × DataW Unit) := Rows.trialNamesRow.laid
theorem door_met (os : Os) (args : Array Value) : laidMetH Tryz.prog laidL ((World.doorLaid Tryz.prog 400 os).forCall (fun _ _ => 0) ⟨#[], args, []⟩).memory :=
  laidMetH_of_parts3 (fuel := 8) (laidMet_of_run' 8 (by kernel_rfl) (by kernel_rfl)) (by kernel_rfl) (by kernel_rfl)
theorem gFine : Tryz.prog.globalNamed "bulkhead/admit.fine" = some 0 := by kernel_rfl
theorem gNowhere : Tryz.prog.globalNamed "bulkhead/admit.nowhere" = some 1 := by kernel_rfl
theorem tFine : (Tryz.prog.globals[0]?).map (·.type) = some 277 := by kernel_rfl
theorem tNowhere : (Tryz.prog.globals[1]?).map (·.type) = some 47 := by kernel_rfl
theorem gl_ok {W : World} (h : laidMetH Tryz.prog laidL W) : GlOk GL (fun b => b < W.heap.size) W := by
  rw [MakeChecks.laidMetH_plain _ _ _ (by kernel_rfl)] at h
  obtain ⟨ps, ⟨g0, t0, cs0, f0, p0, q0, hg0, ht0, hv0, hd0, ⟨g1, t1, cs1, f1, p1, q1, hg1, ht1, hv1, hd1, ⟨g2, t2, cs2, f2, p2, q2, hg2, ht2, hv2, hd2, _, _⟩, _⟩, _⟩, _, _⟩ := h
  obtain rfl := Option.some.inj (gNowhere.symm.trans hg1)
  obtain rfl := Option.some.inj (gFine.symm.trans hg2)
  obtain rfl := Option.some.inj (tNowhere.symm.trans ht1)
  obtain rfl := Option.some.inj (tFine.symm.trans ht2)
  have e1 := cells_where hd1
  have e2 := cells_found hd2
  intro g
  match g with
  | 0 => exact el_of (t := .sAdmitFound) (x := fine) (cs := cs2) (World.var?_cell hg2 hv2) (by rw [← Array.length_toList, e2]; decide) (by decide) (fun j hj => by
      have hj : j < 3 := hj
      rw [← toL_getD, e2]
      match j, hj with
      | 0, _ => exact .v _
      | 1, _ => exact .v _
      | 2, _ => exact .v _)
  | 1 => exact el_of (t := .sWhere) (x := nowhere) (cs := cs1) (World.var?_cell hg1 hv1) (by rw [← Array.length_toList, e1]; decide) (by decide) (fun j hj => by
      have hj : j < 2 := hj
      rw [← toL_getD, e1]
      match j, hj with
      | 0, _ => exact .v _
      | 1, _ => exact .v _)
  | g + 2 => exact .undef _
set_option maxRecDepth 100000 in
theorem lifted (os : Os) (started : os.Started) (H : Type) (enc : TypeId × Value → H) :
    ReturnsInHanded {} Tryz.checked os 4 .any (fun w args => (Rows.trialNamesSpec.pre enc Tryz.prog Tryz.f4 [] false w args ∧ laidMetH Tryz.prog laidL w) ∧ sizedMet enc Tryz.prog Tryz.f4 (OpenSpec.ofChange Rows.trialNamesSpec) false w args)
      (Rows.trialNamesSpec.post enc Tryz.prog Tryz.f4 false true false false) := by
  refine returnsInHanded_of_change_and (C := Tryz.checked) (X := fun w _ => laidMetH Tryz.prog laidL w) (fun _ _ _ hh h => h.of_heap hh) own started (by kernel_rfl) Tryz.func4
    (ChangeSpec.witness_shaped (enc := enc) (C := Tryz.checked) (os := os) (X := fun w _ => laidMetH Tryz.prog laidL w) false (World.doorLaid Tryz.prog 400 os) #[] 8 rfl (World.shaped_of_RefB (by kernel_rfl) (by kernel_rfl)) (by kernel_rfl) (by kernel_rfl) (by kernel_rfl) (door_met os _)) ?_
  intro W base args ds gs before hval0 hW _ _ hL _
  have hW' := hW
  obtain ⟨p, q, hA0, hV, rfl, hfz, hnd⟩ := hW
  have hA : DataW.TrodAll enc Tryz.prog W 0 (fun _ => true) true Tryz.f4.params.toList args.toList ds p := hA0
  rw [Tryz.params4] at hA
  obtain ⟨rfl, rfl, rfl⟩ := trodAll_none hA
  obtain ⟨rfl, rfl⟩ := trodVars_none hV
  have hk := walk (fun b => b < W.heap.size) W Gh.nil [] ⟨fun _ h => h, fun b k hk => by simp at hk, fun p κ hp => by simp [Gh.nil] at hp, fun p κ hp => by simp [Gh.nil] at hp, fun b hb => by simp [Gh.nil] at hb⟩ (gl_ok hL) rfl (fun j hj => by simp at hj)
  refine hk.mono fun e W' ⟨y, he, F', β', hkeep, _, _, _, _, _, _, hd⟩ => ?_
  subst he
  have hy : y = .bool true := V_v hd
  subst hy
  have hb : Below W.heap.size W W' := ⟨hkeep.os, hkeep.tape, hkeep.output, hkeep.size, fun k hk' => hkeep.block k hk' (fun h => h rfl)⟩
  exact ⟨_, rfl, _, _, _, [], _, [], hW', trodAll_mk1 (shut_bool Tryz.underlying4 _), trodAll_mk0, rfl, hb.frame _, fun h => by cases h⟩
end Go.Proofs.YtmgofekgjehegaaGreatDoor.trialNames
