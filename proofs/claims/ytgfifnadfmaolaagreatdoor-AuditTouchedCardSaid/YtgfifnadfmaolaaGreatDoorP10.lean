/- Shadows of functions (printed by pr2.py off the model's code; the kernel holds each equation to it), and what they answer. -/
import Derived.Test.YtgfifnadfmaolaaGreatDoorP9
namespace Go.Proofs.YtgfifnadfmaolaaGreatDoor
open Go.RowKit
set_option linter.unusedVariables false
set_option linter.unusedSimpArgs false
/-! ### admit.questions -/
abbrev R96 := (List Clo)
def to96 (r : R96) : Ans := ⟨.own 0, [.arr 182 .f r]⟩
inductive L96 where
  | l0 (x0 : Int) (x1 : List Clo)
  | l4 (x0 : Int) (x1 : List Clo)
  | l8 (x0 : Int) (x1 : List Clo)
def num96 : L96 → Nat
  | .l0 _ _ => 0
  | .l4 _ _ => 4
  | .l8 _ _ => 8
def H96 : Hint := ⟨fun n => [].any (Nat.beq n), hdAt [(0, ⟨fgt [1, 3, 15, 16] 50 0, []⟩), (4, ⟨fgt [1, 3, 26, 27] 50 0, []⟩), (8, ⟨fgt [1, 3, 37, 38] 50 0, []⟩)], [], G0, nodp⟩
noncomputable def st96 (c : Config) : L96 → St
  | .l0 x0 x1 => ⟨mkE [(1, .ref 0 0), (3, .own 1), (15, .v (.int .i64 c.partitions.length)), (16, .v (.int .i64 x0))] 50 0, [.rob .sConfig c, .arr 182 .f x1], GL, 0, [], nodp⟩
  | .l4 x0 x1 => ⟨mkE [(1, .ref 0 0), (3, .own 1), (26, .v (.int .i64 c.channels.length)), (27, .v (.int .i64 x0))] 50 0, [.rob .sConfig c, .arr 182 .f x1], GL, 0, [], nodp⟩
  | .l8 x0 x1 => ⟨mkE [(1, .ref 0 0), (3, .own 1), (37, .v (.int .i64 c.cores.length)), (38, .v (.int .i64 x0))] 50 0, [.rob .sConfig c, .arr 182 .f x1], GL, 0, [], nodp⟩
noncomputable def bod96 {R : Type} (ret : R96 → R) (c : Config) (j : L96 → Option R) : L96 → Option R
  | .l0 x0 x1 => cond (decide ((x0 : Int) < c.partitions.length))
    (cond (leB (((x1 : List Clo).length + ([(Clo.c137 c x0)] : List Clo).length) * 8) 140737488355328) (j (.l0 (IntKind.i64.wrap (x0 + 1)) ((x1 : List Clo) ++ [(Clo.c137 c x0)]))) none)
    (j (.l4 0 x1))
  | .l4 x0 x1 => cond (decide ((x0 : Int) < c.channels.length))
    (cond (leB (((x1 : List Clo).length + ([(Clo.c139 c x0)] : List Clo).length) * 8) 140737488355328) (j (.l4 (IntKind.i64.wrap (x0 + 1)) ((x1 : List Clo) ++ [(Clo.c139 c x0)]))) none)
    (j (.l8 0 x1))
  | .l8 x0 x1 => cond (decide ((x0 : Int) < c.cores.length))
    (cond (leB (((x1 : List Clo).length + ([(Clo.c141 c x0)] : List Clo).length) * 8) 140737488355328) (j (.l8 (IntKind.i64.wrap (x0 + 1)) ((x1 : List Clo) ++ [(Clo.c141 c x0)]))) none)
    (cond (leB (((x1 : List Clo).length + ([(Clo.c143 c)] : List Clo).length) * 8) 140737488355328) (some (ret ((x1 : List Clo) ++ [(Clo.c143 c)]))) none)
noncomputable def ent96 {R : Type} (ret : R96 → R) (c : Config) (j : L96 → Option R) : Option R :=
    j (.l0 0 [(Clo.c130 c), (Clo.c133 c), (Clo.c134 c), (Clo.c135 c), (Clo.c136 c)])
theorem head96_0 (J : Jmp) (c : Config) (x0 : Int) (x1 : List Clo) : stepAt Pr GJ H96 J 0 0 (bodyOf Tryz.f96) (fin Pr H96 Tryz.f96) (st96 c (.l0 x0 x1)) = bod96 to96 c (fun l => J (num96 l) (st96 c l)) (.l0 x0 x1) := by kernel_rfl
theorem head96_4 (J : Jmp) (c : Config) (x0 : Int) (x1 : List Clo) : stepAt Pr GJ H96 J 4 0 (bodyOf Tryz.f96) (fin Pr H96 Tryz.f96) (st96 c (.l4 x0 x1)) = bod96 to96 c (fun l => J (num96 l) (st96 c l)) (.l4 x0 x1) := by kernel_rfl
theorem head96_8 (J : Jmp) (c : Config) (x0 : Int) (x1 : List Clo) : stepAt Pr GJ H96 J 8 0 (bodyOf Tryz.f96) (fin Pr H96 Tryz.f96) (st96 c (.l8 x0 x1)) = bod96 to96 c (fun l => J (num96 l) (st96 c l)) (.l8 x0 x1) := by kernel_rfl
theorem run96 (J : Jmp) (c : Config) : runF Pr GJ H96 J GL Tryz.f96 [(aCfg c)] [] = ent96 to96 c (fun l => J (num96 l) (st96 c l)) := by kernel_rfl
theorem shad96 (c : Config) : ∀ (n : Nat) (l : L96), runL Pr GJ H96 Tryz.f96 n (num96 l) (st96 c l) = shad (bod96 to96 c) n l
  | 0, l => by cases l <;> rfl
  | n + 1, l => by
    have ih : (fun l => runL Pr GJ H96 Tryz.f96 n (num96 l) (st96 c l)) = shad (bod96 to96 c) n := funext (shad96 c n)
    cases l with
    | l0 x0 x1 => exact (step_eq ..).trans ((head96_0 ..).trans (by rw [ih]; rfl))
    | l4 x0 x1 => exact (step_eq ..).trans ((head96_4 ..).trans (by rw [ih]; rfl))
    | l8 x0 x1 => exact (step_eq ..).trans ((head96_8 ..).trans (by rw [ih]; rfl))
theorem nat96 (c : Config) (s : L96 → Option R96) (l : L96) : bod96 to96 c (fun l => (s l).map to96) l = (bod96 id c s l).map to96 := by
  cases l <;> simp only [bod96, map_cond, Option.map_some, Option.map_none, id]
theorem ct96 (c : Config) (l : L96) : CT fun j => bod96 id c j l := by
  cases l <;> (dsimp only [bod96]; repeat (first | exact CT.jump _ | exact CT.const _ | apply CT.cond))
noncomputable def spL96 (c : Config) : L96 → Option R96 := lfp (bod96 id c)
theorem spL96_eq (c : Config) (l : L96) : spL96 c l = bod96 id c (spL96 c) l := lfp_eq (ct96 c) l
noncomputable def spO96 (c : Config) : Option R96 := ent96 id c (spL96 c)
noncomputable def sp96 (c : Config) : R96 := (spO96 c).getD default
noncomputable def spc96 (c : Config) : Bool := (spO96 c).isSome
theorem oks96 (c : Config) (hc : spc96 c = true) : Okay Pr GL 96 [(aCfg c)] [] (to96 (sp96 c)) := by
  obtain ⟨n, h⟩ := auto_ok (nat96 c) (fun s => show ent96 to96 c (fun l => (s l).map to96) = (ent96 id c s).map to96 by simp only [ent96, map_cond, Option.map_some, Option.map_none, id]) (ct96 c) (show CT fun j => ent96 id c j by dsimp only [ent96]; repeat (first | exact CT.jump _ | exact CT.const _ | apply CT.cond)) (isSome_getD hc)
  exact okay_of_run (H := H96) GJok G0ok Tryz.func96 rfl (by kernel_rfl) n (by
    rw [run96]
    rw [show (fun l => runL Pr GJ H96 Tryz.f96 n (num96 l) (st96 c l)) = shad (bod96 to96 c) n from funext (shad96 c n)]
    exact h)

/-! ### law28.odd -/
abbrev R12 := Bool
def to12 (r : R12) : Ans := ⟨.v (.bool r), []⟩
def H12 : Hint := ⟨fun _ => false, fun _ => ⟨[], []⟩, [], G0, nodp⟩
noncomputable def ent12 {R : Type} (ret : R12 → R) (c : Config) : Option R :=
    cond (spc29 c) (some (ret (!(((sp29 c).1 : Int) == 0)))) none
theorem run12 (J : Jmp) (c : Config) : runF Pr GJ H12 J GL Tryz.f12 [(aCfg c)] [] = ent12 to12 c := by kernel_rfl
noncomputable def spO12 (c : Config) : Option R12 := ent12 id c
noncomputable def sp12 (c : Config) : R12 := (spO12 c).getD default
noncomputable def spc12 (c : Config) : Bool := (spO12 c).isSome
theorem oks12 (c : Config) (hc : spc12 c = true) : Okay Pr GL 12 [(aCfg c)] [] (to12 (sp12 c)) :=
  okay_of_run (H := H12) GJok G0ok Tryz.func12 rfl (by kernel_rfl) 0 ((run12 (runL Pr GJ H12 Tryz.f12 0) c).trans (auto_ok0 (show ent12 to12 c = (ent12 id c).map to12 by simp only [ent12, map_cond, Option.map_some, Option.map_none, id]) (isSome_getD hc)))

/-! ### ref28.fits -/
abbrev R21 := Bool
def to21 (r : R21) : Ans := ⟨.v (.bool r), []⟩
def H21 : Hint := ⟨fun _ => false, fun _ => ⟨[], []⟩, [], G0, nodp⟩
noncomputable def ent21 {R : Type} (ret : R21 → R) (c : Config) (m : (List Int)) : Option R :=
    cond (spc29 c) (
    cond (((sp29 c).1 : Int) == 0)
      (some (ret ((m.length : Int) == (IntKind.i64.wrap (c.frames * 16)))))
      (some (ret false))) none
theorem run21 (J : Jmp) (c : Config) (m : (List Int)) : runF Pr GJ H21 J GL Tryz.f21 [(aCfg c), .sl (.i .u32) m] [] = ent21 to21 c m := by kernel_rfl
noncomputable def spO21 (c : Config) (m : (List Int)) : Option R21 := ent21 id c m
noncomputable def sp21 (c : Config) (m : (List Int)) : R21 := (spO21 c m).getD default
noncomputable def spc21 (c : Config) (m : (List Int)) : Bool := (spO21 c m).isSome
theorem oks21 (c : Config) (m : (List Int)) (hc : spc21 c m = true) : Okay Pr GL 21 [(aCfg c), .sl (.i .u32) m] [] (to21 (sp21 c m)) :=
  okay_of_run (H := H21) GJok G0ok Tryz.func21 rfl (by kernel_rfl) 0 ((run21 (runL Pr GJ H21 Tryz.f21 0) c m).trans (auto_ok0 (show ent21 to21 c m = (ent21 id c m).map to21 by simp only [ent21, map_cond, Option.map_some, Option.map_none, id]) (isSome_getD hc)))

/-! ### ref24.Boot -/
abbrev R20 := (List Int) × Int × Int
def to20 (r : R20) : Ans := ⟨.tup [.own 0, .v (.int .i64 r.2.1), .v (.int .i64 r.2.2)], [.arr 57 (.i .u32) r.1]⟩
inductive L20 where
  | l0 (x0 : Int)
  | l4 (x0 : Int) (x1 : List Int)
  | l31 (x1 : Int) (x0 : List Int)
def num20 : L20 → Nat
  | .l0 _ => 0
  | .l4 _ _ => 4
  | .l31 _ _ => 31
def H20 : Hint := ⟨fun n => [15].any (Nat.beq n), hdAt [(0, ⟨fgt [1, 2, 9] 102 0, []⟩), (4, ⟨fgt [1, 2, 10, 12, 13] 102 0, []⟩), (31, ⟨fgt [1, 2, 10, 12, 13] 102 0, []⟩)], [(.slot 0, .own 57 (.i .u32))], G0, nodp⟩
noncomputable def st20 (c : Config) (programs : (List (List Int))) : L20 → St
  | .l0 x0 => ⟨mkE [(1, .sl (.sl (.i .u32)) programs), (2, .ref 0 0), (9, .v (.int .i64 x0))] 102 0, [.cells 26 [.v (.int .i64 c.frames), .v (.int .i64 c.major), .v (.int .i64 c.kernel), .v (.int .i64 c.room), .sl (.sl .sWindow) c.cores, .sl .sPartition c.partitions, .sl .sChannel c.channels]], GL, 0, [], nodp⟩
  | .l4 x0 x1 => ⟨mkE [(1, .sl (.sl (.i .u32)) programs), (2, .ref 0 0), (10, .ref 1 0), (12, .own 2), (13, .v (.int .i64 x0))] 102 0, [.cells 26 [.v (.int .i64 c.frames), .v (.int .i64 c.major), .v (.int .i64 c.kernel), .v (.int .i64 c.room), .sl (.sl .sWindow) c.cores, .sl .sPartition c.partitions, .sl .sChannel c.channels], .cells 82 [.v (.int .i64 ((sp30 c).1.barrier)), .sl .sPartitionPlace ((sp30 c).1.partitions), .sl .sChannelPlace ((sp30 c).1.channels), .v (.int .i64 ((sp30 c).1.end_))], .arr 57 (.i .u32) x1], GL, 0, [], nodp⟩
  | .l31 x1 x0 => ⟨mkE [(1, .sl (.sl (.i .u32)) programs), (2, .ref 0 0), (10, .ref 1 0), (12, .own 2), (13, .v (.int .i64 x1))] 102 0, [.cells 26 [.v (.int .i64 c.frames), .v (.int .i64 c.major), .v (.int .i64 c.kernel), .v (.int .i64 c.room), .sl (.sl .sWindow) c.cores, .sl .sPartition c.partitions, .sl .sChannel c.channels], .cells 82 [.v (.int .i64 ((sp30 c).1.barrier)), .sl .sPartitionPlace ((sp30 c).1.partitions), .sl .sChannelPlace ((sp30 c).1.channels), .v (.int .i64 ((sp30 c).1.end_))], .arr 57 (.i .u32) x0], GL, 0, [], nodp⟩
noncomputable def bod20 {R : Type} (ret : R20 → R) (c : Config) (programs : (List (List Int))) (j : L20 → Option R) : L20 → Option R
  | .l0 x0 => cond (decide ((x0 : Int) < programs.length))
    (cond (inR x0 c.partitions.length) (
      cond (inR x0 programs.length) (
        cond (spc43 (atPartition c.partitions x0.toNat) (atLInt programs x0.toNat)) (
          cond (!(sp43 (atPartition c.partitions x0.toNat) (atLInt programs x0.toNat)))
            (some (ret ([], 241, x0)))
            (j (.l0 (IntKind.i64.wrap (x0 + 1))))) none) none) none)
    (cond (spc30 c) (
      cond (decide (((IntKind.i64.wrap (c.frames * 16)) : Int) = (IntKind.i64.wrap (c.frames * 16))) && decide (0 ≤ (IntKind.i64.wrap (c.frames * 16))) && leB ((IntKind.i64.wrap (c.frames * 16)).toNat * 4) 140737488355328) (j (.l4 0 (List.replicate (IntKind.i64.wrap (c.frames * 16)).toNat 0))) none) none)
  | .l4 x0 x1 => cond (decide ((x0 : Int) < c.partitions.length))
    (cond (inR x0 c.partitions.length) (
      cond (inR x0 ((sp30 c).1.partitions).length) (
        cond (spc44 (atPartition c.partitions x0.toNat) (atPartitionPlace ((sp30 c).1.partitions) x0.toNat) x1) (
          cond (inR x0 ((sp30 c).1.partitions).length) (
            cond (inR (IntKind.i64.wrap ((atPartitionPlace ((sp30 c).1.partitions) x0.toNat).save + 16)) (sp44 (atPartition c.partitions x0.toNat) (atPartitionPlace ((sp30 c).1.partitions) x0.toNat) x1).length) (
              cond (decide ((x0 : Int) < programs.length))
                (cond (inR x0 programs.length) (
                  cond (spc45 (atPartition c.partitions x0.toNat) (atLInt programs x0.toNat) (List.set (sp44 (atPartition c.partitions x0.toNat) (atPartitionPlace ((sp30 c).1.partitions) x0.toNat) x1) ((IntKind.i64.wrap ((atPartitionPlace ((sp30 c).1.partitions) x0.toNat).save + 16)).toNat) (IntKind.u32.wrap ((atPartition c.partitions x0.toNat).entry)))) (
                    j (.l31 x0 (sp45 (atPartition c.partitions x0.toNat) (atLInt programs x0.toNat) (List.set (sp44 (atPartition c.partitions x0.toNat) (atPartitionPlace ((sp30 c).1.partitions) x0.toNat) x1) ((IntKind.i64.wrap ((atPartitionPlace ((sp30 c).1.partitions) x0.toNat).save + 16)).toNat) (IntKind.u32.wrap ((atPartition c.partitions x0.toNat).entry)))))) none) none)
                (j (.l31 x0 (List.set (sp44 (atPartition c.partitions x0.toNat) (atPartitionPlace ((sp30 c).1.partitions) x0.toNat) x1) ((IntKind.i64.wrap ((atPartitionPlace ((sp30 c).1.partitions) x0.toNat).save + 16)).toNat) (IntKind.u32.wrap ((atPartition c.partitions x0.toNat).entry)))))) none) none) none) none) none)
    (some (ret (x1, 0, (-1))))
  | .l31 x1 x0 => j (.l4 (IntKind.i64.wrap (x1 + 1)) x0)
noncomputable def ent20 {R : Type} (ret : R20 → R) (c : Config) (programs : (List (List Int))) (j : L20 → Option R) : Option R :=
    cond (spc29 c) (
    cond (!(((sp29 c).1 : Int) == 0))
      (some (ret ([], 240, (-1))))
      (cond (decide ((programs.length : Int) > c.partitions.length))
        (some (ret ([], 241, c.partitions.length)))
        (j (.l0 0)))) none
theorem head20_0 (J : Jmp) (c : Config) (programs : (List (List Int))) (x0 : Int) : stepAt Pr GJ H20 J 0 0 (bodyOf Tryz.f20) (fin Pr H20 Tryz.f20) (st20 c programs (.l0 x0)) = bod20 to20 c programs (fun l => J (num20 l) (st20 c programs l)) (.l0 x0) := by kernel_rfl
theorem head20_4 (J : Jmp) (c : Config) (programs : (List (List Int))) (x0 : Int) (x1 : List Int) : stepAt Pr GJ H20 J 4 0 (bodyOf Tryz.f20) (fin Pr H20 Tryz.f20) (st20 c programs (.l4 x0 x1)) = bod20 to20 c programs (fun l => J (num20 l) (st20 c programs l)) (.l4 x0 x1) := by kernel_rfl
theorem head20_31 (J : Jmp) (c : Config) (programs : (List (List Int))) (x1 : Int) (x0 : List Int) : stepAt Pr GJ H20 J 31 0 (bodyOf Tryz.f20) (fin Pr H20 Tryz.f20) (st20 c programs (.l31 x1 x0)) = bod20 to20 c programs (fun l => J (num20 l) (st20 c programs l)) (.l31 x1 x0) := by kernel_rfl
theorem run20 (J : Jmp) (c : Config) (programs : (List (List Int))) : runF Pr GJ H20 J GL Tryz.f20 [(aCfg c), .sl (.sl (.i .u32)) programs] [] = ent20 to20 c programs (fun l => J (num20 l) (st20 c programs l)) := by kernel_rfl
theorem shad20 (c : Config) (programs : (List (List Int))) : ∀ (n : Nat) (l : L20), runL Pr GJ H20 Tryz.f20 n (num20 l) (st20 c programs l) = shad (bod20 to20 c programs) n l
  | 0, l => by cases l <;> rfl
  | n + 1, l => by
    have ih : (fun l => runL Pr GJ H20 Tryz.f20 n (num20 l) (st20 c programs l)) = shad (bod20 to20 c programs) n := funext (shad20 c programs n)
    cases l with
    | l0 x0 => exact (step_eq ..).trans ((head20_0 ..).trans (by rw [ih]; rfl))
    | l4 x0 x1 => exact (step_eq ..).trans ((head20_4 ..).trans (by rw [ih]; rfl))
    | l31 x1 x0 => exact (step_eq ..).trans ((head20_31 ..).trans (by rw [ih]; rfl))
theorem nat20 (c : Config) (programs : (List (List Int))) (s : L20 → Option R20) (l : L20) : bod20 to20 c programs (fun l => (s l).map to20) l = (bod20 id c programs s l).map to20 := by
  cases l <;> simp only [bod20, map_cond, Option.map_some, Option.map_none, id]
theorem ct20 (c : Config) (programs : (List (List Int))) (l : L20) : CT fun j => bod20 id c programs j l := by
  cases l <;> (dsimp only [bod20]; repeat (first | exact CT.jump _ | exact CT.const _ | apply CT.cond))
noncomputable def spL20 (c : Config) (programs : (List (List Int))) : L20 → Option R20 := lfp (bod20 id c programs)
theorem spL20_eq (c : Config) (programs : (List (List Int))) (l : L20) : spL20 c programs l = bod20 id c programs (spL20 c programs) l := lfp_eq (ct20 c programs) l
noncomputable def spO20 (c : Config) (programs : (List (List Int))) : Option R20 := ent20 id c programs (spL20 c programs)
noncomputable def sp20 (c : Config) (programs : (List (List Int))) : R20 := (spO20 c programs).getD default
noncomputable def spc20 (c : Config) (programs : (List (List Int))) : Bool := (spO20 c programs).isSome
theorem oks20 (c : Config) (programs : (List (List Int))) (hc : spc20 c programs = true) : Okay Pr GL 20 [(aCfg c), .sl (.sl (.i .u32)) programs] [] (to20 (sp20 c programs)) := by
  obtain ⟨n, h⟩ := auto_ok (nat20 c programs) (fun s => show ent20 to20 c programs (fun l => (s l).map to20) = (ent20 id c programs s).map to20 by simp only [ent20, map_cond, Option.map_some, Option.map_none, id]) (ct20 c programs) (show CT fun j => ent20 id c programs j by dsimp only [ent20]; repeat (first | exact CT.jump _ | exact CT.const _ | apply CT.cond)) (isSome_getD hc)
  exact okay_of_run (H := H20) GJok G0ok Tryz.func20 rfl (by kernel_rfl) n (by
    rw [run20]
    rw [show (fun l => runL Pr GJ H20 Tryz.f20 n (num20 l) (st20 c programs l)) = shad (bod20 to20 c programs) n from funext (shad20 c programs n)]
    exact h)

noncomputable def g96 (args : List AV) (hp : List Blk) : Option (Bool × AV × List Blk) :=
  match hp, args with
  | [], [x0] => (rdS .sConfig x0).bind fun a0 => some ((spc96 a0), .own 0, [.arr 182 .f (sp96 a0)])
  | _, _ => none
theorem g96_ok {args : List AV} {hp : List Blk} {b : Bool} {r : AV} {hp' : List Blk} (h : g96 args hp = some (b, r, hp')) (hb : b = true) : FnOk Pr 96 ∧ Okay Pr GL 96 args hp ⟨r, hp'⟩ := by
  unfold g96 at h
  split at h
  · simp only [Option.bind_eq_some_iff] at h
    obtain ⟨a0, h0, h⟩ := h
    cases h; exact ⟨fnok Tryz.func96 (by kernel_rfl) rfl, (oks96 a0 hb).ats (.cons (rdS_V h0) .nil)⟩
  · cases h
noncomputable def g12 (args : List AV) (hp : List Blk) : Option (Bool × AV × List Blk) :=
  match hp, args with
  | [], [x0] => (rdS .sConfig x0).bind fun a0 => some ((spc12 a0), .v (.bool (sp12 a0)), [])
  | _, _ => none
theorem g12_ok {args : List AV} {hp : List Blk} {b : Bool} {r : AV} {hp' : List Blk} (h : g12 args hp = some (b, r, hp')) (hb : b = true) : FnOk Pr 12 ∧ Okay Pr GL 12 args hp ⟨r, hp'⟩ := by
  unfold g12 at h
  split at h
  · simp only [Option.bind_eq_some_iff] at h
    obtain ⟨a0, h0, h⟩ := h
    cases h; exact ⟨fnok Tryz.func12 (by kernel_rfl) rfl, (oks12 a0 hb).ats (.cons (rdS_V h0) .nil)⟩
  · cases h
noncomputable def g21 (args : List AV) (hp : List Blk) : Option (Bool × AV × List Blk) :=
  match hp, args with
  | [], [x0, x1] => (rdS .sConfig x0).bind fun a0 => (rdL (.sl (.i .u32)) x1).bind fun a1 => some ((spc21 a0 a1), .v (.bool (sp21 a0 a1)), [])
  | _, _ => none
theorem g21_ok {args : List AV} {hp : List Blk} {b : Bool} {r : AV} {hp' : List Blk} (h : g21 args hp = some (b, r, hp')) (hb : b = true) : FnOk Pr 21 ∧ Okay Pr GL 21 args hp ⟨r, hp'⟩ := by
  unfold g21 at h
  split at h
  · simp only [Option.bind_eq_some_iff] at h
    obtain ⟨a0, h0, a1, h1, h⟩ := h
    cases h; exact ⟨fnok Tryz.func21 (by kernel_rfl) rfl, (oks21 a0 a1 hb).ats (.cons (rdS_V h0) (.cons (rdL_V h1) .nil))⟩
  · cases h
noncomputable def g20 (args : List AV) (hp : List Blk) : Option (Bool × AV × List Blk) :=
  match hp, args with
  | [], [x0, x1] => (rdS .sConfig x0).bind fun a0 => (rdL (.sl (.sl (.i .u32))) x1).bind fun a1 => some ((spc20 a0 a1), .tup [.own 0, .v (.int .i64 ((sp20 a0 a1).2.1)), .v (.int .i64 ((sp20 a0 a1).2.2))], [.arr 57 (.i .u32) ((sp20 a0 a1).1)])
  | _, _ => none
theorem g20_ok {args : List AV} {hp : List Blk} {b : Bool} {r : AV} {hp' : List Blk} (h : g20 args hp = some (b, r, hp')) (hb : b = true) : FnOk Pr 20 ∧ Okay Pr GL 20 args hp ⟨r, hp'⟩ := by
  unfold g20 at h
  split at h
  · simp only [Option.bind_eq_some_iff] at h
    obtain ⟨a0, h0, a1, h1, h⟩ := h
    cases h; exact ⟨fnok Tryz.func20 (by kernel_rfl) rfl, (oks20 a0 a1 hb).ats (.cons (rdS_V h0) (.cons (rdL_V h1) .nil))⟩
  · cases h
noncomputable def GK : Gam := fun c args hp => match c with
  | .f f => pick1 96 f (g96 args hp) (pick1 12 f (g12 args hp) (pick1 21 f (g21 args hp) (pick1 20 f (g20 args hp) (GJ (.f f) args hp))))
  | .c x => GJ (.c x) args hp
theorem GKok : GOk Pr GL GK := by
  intro c args hp b r hp' h hb
  cases c with
  | f f =>
    simp only [GK] at h
    rcases pick1_ok h with ⟨rfl, h⟩ | h
    · exact g96_ok h hb
    rcases pick1_ok h with ⟨rfl, h⟩ | h
    · exact g12_ok h hb
    rcases pick1_ok h with ⟨rfl, h⟩ | h
    · exact g21_ok h hb
    rcases pick1_ok h with ⟨rfl, h⟩ | h
    · exact g20_ok h hb
    exact GJok (.f f) args hp b r hp' h hb
  | c x => exact GJok (.c x) args hp b r hp' h hb
end Go.Proofs.YtgfifnadfmaolaaGreatDoor
