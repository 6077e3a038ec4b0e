/- Shadows of functions (printed by pr2.py off the model's code; the kernel holds each equation to it), and what they answer. -/
import Derived.Test.YtgfifnadfmaolaaGreatDoorTF
namespace Go.Proofs.YtgfifnadfmaolaaGreatDoor
open Go.RowKit
set_option linter.unusedVariables false
set_option linter.unusedSimpArgs false
/-! ### law28.AuditTouched -/
abbrev R3 := Bool
def to3 (r : R3) : Ans := ⟨.v (.bool r), []⟩
inductive L3 where
  | l11 (x0 : List Int)
  | l0 (x0 : List Owner) (x1 : Int) (x2 : Option MemMemory) (x4 : Int) (x3 : List Owner)
def num3 : L3 → Nat
  | .l11 _ => 11
  | .l0 _ _ _ _ _ => 0
def H3 : Hint := ⟨fun n => [5].any (Nat.beq n), hdAt [(11, ⟨fgt [3, 4, 9, 10, 75, 76, 77, 78, 101, 102, 103, 104, 117, 118, 119, 120, 121, 138, 139] 141 0, []⟩), (0, ⟨fgt [4, 11, 12, 13, 15, 17, 18, 20, 101, 102, 103, 104, 117, 118, 119, 120, 121, 138, 139] 141 0, []⟩)], [], G0, nodp⟩
noncomputable def st3 (c : Config) (one_1 : (List Bulkheadlaw28Turn)) (another : (List Bulkheadlaw28Turn)) (more : Bool) : L3 → St
  | .l11 x0 => ⟨mkE [(3, .v (.bool more)), (4, .ref 0 0), (9, .own 1), (10, .own 2)] 141 0, [.cells 26 [.v (.int .i64 c.frames), .v (.int .i64 c.major), .v (.int .i64 c.kernel), .v (.int .i64 c.room), .sl (.sl .sWindow) c.cores, .sl .sPartition c.partitions, .sl .sChannel c.channels], .arr 57 (.i .u32) (sp5 c one_1), .arr 57 (.i .u32) x0], GL, 0, [], nodp⟩
  | .l0 x0 x1 x2 x4 x3 => ⟨mkE [(4, .ref 0 0), (11, .sl .sOwner x0), (12, .v (.int .i64 x1)), (13, .op .sMemMemory ((sp7 (sp8 (sp5 c one_1))).1)), (15, .op .sMemMemory x2), (17, .ref 1 0), (18, .own 5), (20, .v (.int .i64 x4))] 141 0, [.cells 26 [.v (.int .i64 c.frames), .v (.int .i64 c.major), .v (.int .i64 c.kernel), .v (.int .i64 c.room), .sl (.sl .sWindow) c.cores, .sl .sPartition c.partitions, .sl .sChannel c.channels], .cells 26 [.v (.int .i64 ((sp9 c).frames)), .v (.int .i64 ((sp9 c).major)), .v (.int .i64 ((sp9 c).kernel)), .v (.int .i64 ((sp9 c).room)), .own 2, .own 3, .own 4], .arr 66 (.sl .sWindow) ((sp9 c).cores), .arr 70 .sPartition ((sp9 c).partitions), .arr 97 .sChannel ((sp9 c).channels), .arr 42 .sOwner x3], GL, 0, [], nodp⟩
noncomputable def bod3 {R : Type} (ret : R3 → R) (c : Config) (one_1 : (List Bulkheadlaw28Turn)) (another : (List Bulkheadlaw28Turn)) (more : Bool) (j : L3 → Option R) : L3 → Option R
  | .l11 x0 => cond (spc6 c (sp5 c one_1) x0) (
    cond (spc8 (sp5 c one_1)) (
      cond (spc7 (sp8 (sp5 c one_1))) (
        cond (spc8 x0) (
          cond (spc7 (sp8 x0)) (
            cond (!(((sp7 (sp8 (sp5 c one_1))).2 : Int) == 0))
              (some (ret false))
              (cond (!(((sp7 (sp8 x0)).2 : Int) == 0))
                (some (ret more))
                (cond (spc9 c) (
                  cond (spc10 (sp9 c) ((sp7 (sp8 (sp5 c one_1))).1) ((sp7 (sp8 x0)).1)) (
                    cond (!(((sp10 (sp9 c) ((sp7 (sp8 (sp5 c one_1))).1) ((sp7 (sp8 x0)).1)).2 : Int) == (sp6 c (sp5 c one_1) x0).2))
                      (some (ret false))
                      (cond (spc11 ((sp10 (sp9 c) ((sp7 (sp8 (sp5 c one_1))).1) ((sp7 (sp8 x0)).1)).1) ((sp6 c (sp5 c one_1) x0).1)) (
                        cond (!(sp11 ((sp10 (sp9 c) ((sp7 (sp8 (sp5 c one_1))).1) ((sp7 (sp8 x0)).1)).1) ((sp6 c (sp5 c one_1) x0).1)))
                          (some (ret false))
                          (j (.l0 ((sp6 c (sp5 c one_1) x0).1) ((sp6 c (sp5 c one_1) x0).2) ((sp7 (sp8 x0)).1) 0 ((sp10 (sp9 c) ((sp7 (sp8 (sp5 c one_1))).1) ((sp7 (sp8 x0)).1)).1)))) none)) none) none))) none) none) none) none) none
  | .l0 x0 x1 x2 x4 x3 => cond (decide ((x4 : Int) < x3.length))
    (cond (inR x4 x3.length) (j (.l0 x0 x1 x2 (IntKind.i64.wrap (x4 + 1)) (List.set x3 x4.toNat (⟨(-5), 0, 0⟩ : Owner)))) none)
    (cond (spc10 (sp9 c) x2 ((sp7 (sp8 (sp5 c one_1))).1)) (
      cond (!(((sp10 (sp9 c) x2 ((sp7 (sp8 (sp5 c one_1))).1)).2 : Int) == x1))
        (some (ret false))
        (cond (spc11 ((sp10 (sp9 c) x2 ((sp7 (sp8 (sp5 c one_1))).1)).1) x0) (
          cond (!(sp11 ((sp10 (sp9 c) x2 ((sp7 (sp8 (sp5 c one_1))).1)).1) x0))
            (some (ret false))
            (cond (spc10 (sp9 c) ((sp7 (sp8 (sp5 c one_1))).1) ((sp7 (sp8 (sp5 c one_1))).1)) (
              cond (!((((sp10 (sp9 c) ((sp7 (sp8 (sp5 c one_1))).1) ((sp7 (sp8 (sp5 c one_1))).1)).1).length : Int) == 0))
                (some (ret false))
                (cond (spc12 c) (
                  cond (!((!(((sp10 (sp9 c) ((sp7 (sp8 (sp5 c one_1))).1) ((sp7 (sp8 (sp5 c one_1))).1)).2 : Int) == 0)) == (sp12 c)))
                    (some (ret false))
                    (cond (spc10 (sp9 c) none x2) (
                      cond (spc10 (sp9 c) ((sp7 (sp8 (sp5 c one_1))).1) none) (
                        cond (((sp10 (sp9 c) none x2).2 : Int) == 3)
                          (some (ret (((sp10 (sp9 c) ((sp7 (sp8 (sp5 c one_1))).1) none).2 : Int) == 3)))
                          (some (ret false))) none) none)) none)) none)) none)) none)
noncomputable def ent3 {R : Type} (ret : R3 → R) (c : Config) (one_1 : (List Bulkheadlaw28Turn)) (another : (List Bulkheadlaw28Turn)) (more : Bool) (j : L3 → Option R) : Option R :=
    cond (spc5 c one_1) (
    cond (spc5 c another) (
      cond more
        (cond (decide (0 < (16 : Int)) && leB ((((sp5 c another) : List Int).length + 16) * 4) 140737488355328) (j (.l11 (((sp5 c another) : List Int) ++ List.replicate 16 0))) none)
        (j (.l11 (sp5 c another)))) none) none
theorem head3_11 (J : Jmp) (c : Config) (one_1 : (List Bulkheadlaw28Turn)) (another : (List Bulkheadlaw28Turn)) (more : Bool) (x0 : List Int) : stepAt Pr GTo H3 J 11 0 (bodyOf Tryz.f3) (fin Pr H3 Tryz.f3) (st3 c one_1 another more (.l11 x0)) = bod3 to3 c one_1 another more (fun l => J (num3 l) (st3 c one_1 another more l)) (.l11 x0) := by kernel_rfl
theorem head3_0 (J : Jmp) (c : Config) (one_1 : (List Bulkheadlaw28Turn)) (another : (List Bulkheadlaw28Turn)) (more : Bool) (x0 : List Owner) (x1 : Int) (x2 : Option MemMemory) (x4 : Int) (x3 : List Owner) : stepAt Pr GTo H3 J 0 0 (bodyOf Tryz.f3) (fin Pr H3 Tryz.f3) (st3 c one_1 another more (.l0 x0 x1 x2 x4 x3)) = bod3 to3 c one_1 another more (fun l => J (num3 l) (st3 c one_1 another more l)) (.l0 x0 x1 x2 x4 x3) := by kernel_rfl
theorem run3 (J : Jmp) (c : Config) (one_1 : (List Bulkheadlaw28Turn)) (another : (List Bulkheadlaw28Turn)) (more : Bool) : runF Pr GTo H3 J GL Tryz.f3 [(aCfg c), .sl .sBulkheadlaw28Turn one_1, .sl .sBulkheadlaw28Turn another, .v (.bool more)] [] = ent3 to3 c one_1 another more (fun l => J (num3 l) (st3 c one_1 another more l)) := by kernel_rfl
theorem shad3 (c : Config) (one_1 : (List Bulkheadlaw28Turn)) (another : (List Bulkheadlaw28Turn)) (more : Bool) : ∀ (n : Nat) (l : L3), runL Pr GTo H3 Tryz.f3 n (num3 l) (st3 c one_1 another more l) = shad (bod3 to3 c one_1 another more) n l
  | 0, l => by cases l <;> rfl
  | n + 1, l => by
    have ih : (fun l => runL Pr GTo H3 Tryz.f3 n (num3 l) (st3 c one_1 another more l)) = shad (bod3 to3 c one_1 another more) n := funext (shad3 c one_1 another more n)
    cases l with
    | l11 x0 => exact (step_eq ..).trans ((head3_11 ..).trans (by rw [ih]; rfl))
    | l0 x0 x1 x2 x4 x3 => exact (step_eq ..).trans ((head3_0 ..).trans (by rw [ih]; rfl))
theorem nat3 (c : Config) (one_1 : (List Bulkheadlaw28Turn)) (another : (List Bulkheadlaw28Turn)) (more : Bool) (s : L3 → Option R3) (l : L3) : bod3 to3 c one_1 another more (fun l => (s l).map to3) l = (bod3 id c one_1 another more s l).map to3 := by
  cases l <;> simp only [bod3, map_cond, Option.map_some, Option.map_none, id]
theorem ct3 (c : Config) (one_1 : (List Bulkheadlaw28Turn)) (another : (List Bulkheadlaw28Turn)) (more : Bool) (l : L3) : CT fun j => bod3 id c one_1 another more j l := by
  cases l <;> (dsimp only [bod3]; repeat (first | exact CT.jump _ | exact CT.const _ | apply CT.cond))
noncomputable def spL3 (c : Config) (one_1 : (List Bulkheadlaw28Turn)) (another : (List Bulkheadlaw28Turn)) (more : Bool) : L3 → Option R3 := lfp (bod3 id c one_1 another more)
theorem spL3_eq (c : Config) (one_1 : (List Bulkheadlaw28Turn)) (another : (List Bulkheadlaw28Turn)) (more : Bool) (l : L3) : spL3 c one_1 another more l = bod3 id c one_1 another more (spL3 c one_1 another more) l := lfp_eq (ct3 c one_1 another more) l
noncomputable def spO3 (c : Config) (one_1 : (List Bulkheadlaw28Turn)) (another : (List Bulkheadlaw28Turn)) (more : Bool) : Option R3 := ent3 id c one_1 another more (spL3 c one_1 another more)
noncomputable def sp3 (c : Config) (one_1 : (List Bulkheadlaw28Turn)) (another : (List Bulkheadlaw28Turn)) (more : Bool) : R3 := (spO3 c one_1 another more).getD default
noncomputable def spc3 (c : Config) (one_1 : (List Bulkheadlaw28Turn)) (another : (List Bulkheadlaw28Turn)) (more : Bool) : Bool := (spO3 c one_1 another more).isSome
theorem oks3 (c : Config) (one_1 : (List Bulkheadlaw28Turn)) (another : (List Bulkheadlaw28Turn)) (more : Bool) (hc : spc3 c one_1 another more = true) : Okay Pr GL 3 [(aCfg c), .sl .sBulkheadlaw28Turn one_1, .sl .sBulkheadlaw28Turn another, .v (.bool more)] [] (to3 (sp3 c one_1 another more)) := by
  obtain ⟨n, h⟩ := auto_ok (nat3 c one_1 another more) (fun s => show ent3 to3 c one_1 another more (fun l => (s l).map to3) = (ent3 id c one_1 another more s).map to3 by simp only [ent3, map_cond, Option.map_some, Option.map_none, id]) (ct3 c one_1 another more) (show CT fun j => ent3 id c one_1 another more j by dsimp only [ent3]; repeat (first | exact CT.jump _ | exact CT.const _ | apply CT.cond)) (isSome_getD hc)
  exact okay_of_run (H := H3) GTook G0ok Tryz.func3 rfl (by kernel_rfl) n (by
    rw [run3]
    rw [show (fun l => runL Pr GTo H3 Tryz.f3 n (num3 l) (st3 c one_1 another more l)) = shad (bod3 to3 c one_1 another more) n from funext (shad3 c one_1 another more n)]
    exact h)

noncomputable def g3 (args : List AV) (hp : List Blk) : Option (Bool × AV × List Blk) :=
  match hp, args with
  | [], [x0, x1, x2, x3] => (rdS .sConfig x0).bind fun a0 => (rdL (.sl .sBulkheadlaw28Turn) x1).bind fun a1 => (rdL (.sl .sBulkheadlaw28Turn) x2).bind fun a2 => (rdL .b x3).bind fun a3 => some ((spc3 a0 a1 a2 a3), .v (.bool (sp3 a0 a1 a2 a3)), [])
  | _, _ => none
end Go.Proofs.YtgfifnadfmaolaaGreatDoor
