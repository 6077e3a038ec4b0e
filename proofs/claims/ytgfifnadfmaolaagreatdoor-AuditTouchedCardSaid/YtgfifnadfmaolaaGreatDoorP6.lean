/- Shadows of functions (printed by pr2.py off the model's code; the kernel holds each equation to it), and what they answer. -/
import Derived.Test.YtgfifnadfmaolaaGreatDoorP5
namespace Go.Proofs.YtgfifnadfmaolaaGreatDoor
open Go.RowKit
set_option linter.unusedVariables false
set_option linter.unusedSimpArgs false
/-! ### layout.Of -/
abbrev R36 := Layout × Int
def to36 (r : R36) : Ans := ⟨.tup [.agg [.v (.int .i64 r.1.barrier), .sl .sPartitionPlace r.1.partitions, .sl .sChannelPlace r.1.channels, .v (.int .i64 r.1.end_)], .v (.int .i64 r.2)], []⟩
inductive L36 where
  | l0 (x0 : Int) (x1 : Int) (x2 : List PartitionPlace)
  | l4 (x2 : Int) (x0 : Int) (x1 : List PartitionPlace) (x3 : List ChannelPlace)
  | l8 (x6 : Int) (x7 : Int) (x4 : Int) (x0 : Int) (x1 : List PartitionPlace) (x8 : List ChannelPlace) (x9 : Int) (x10 : Int) (x11 : Int) (x2 : Int) (x3 : Int) (x12 : Int) (x13 : Int) (x5 : List DestPlace) (x14 : List LayoutEnd)
  | l12 (x2 : Int) (x0 : List PartitionPlace) (x3 : List ChannelPlace) (x1 : Int)
  | l16 (x3 : Int) (x4 : Int) (x5 : Int) (x2 : Int) (x0 : List PartitionPlace) (x6 : List ChannelPlace) (x1 : Int)
def num36 : L36 → Nat
  | .l0 _ _ _ => 0
  | .l4 _ _ _ _ => 4
  | .l8 _ _ _ _ _ _ _ _ _ _ _ _ _ _ _ => 8
  | .l12 _ _ _ _ => 12
  | .l16 _ _ _ _ _ _ _ => 16
def H36 : Hint := ⟨fun n => [].any (Nat.beq n), hdAt [(0, ⟨fgt [1, 2, 4, 5, 29, 30] 148 0, [(.box 5 1, .own 89 .sPartitionPlace)]⟩), (4, ⟨fgt [1, 2, 4, 5, 46, 47, 48] 148 0, [(.box 5 2, .own 94 .sChannelPlace)]⟩), (8, ⟨fgt [1, 2, 4, 5, 7, 10, 46, 47, 48, 74, 75, 76] 148 0, [(.box 10 4, .own 99 .sDestPlace), (.box 5 2, .own 94 .sChannelPlace)]⟩), (12, ⟨fgt [2, 5, 13, 109, 110, 111] 148 0, [(.box 5 2, .own 94 .sChannelPlace)]⟩), (16, ⟨fgt [2, 5, 13, 14, 109, 110, 111, 124, 125] 148 0, []⟩)], [(.cell 0 1, .sl .sPartitionPlace), (.cell 0 2, .sl .sChannelPlace)], G0, (fun e => match e with | 89 => [(4, 3)] | _ => [])⟩
noncomputable def st36 (c : Config) : L36 → St
  | .l0 x0 x1 x2 => ⟨mkE [(1, .ref 0 0), (2, .ref 1 0), (4, .fn (.func 115) [] [.ref 2 0]), (5, .ref 3 0), (29, .v (.int .i64 c.partitions.length)), (30, .v (.int .i64 x0))] 148 0, [.cells 26 [.v (.int .i64 c.frames), .v (.int .i64 c.major), .v (.int .i64 c.kernel), .v (.int .i64 c.room), .sl (.sl .sWindow) c.cores, .sl .sPartition c.partitions, .sl .sChannel c.channels], .cells 82 [.v (.int .i64 0), .v (.slice none 0 0), .v (.slice none 0 0), .v (.int .i64 0)], .cells 3 [.v (.int .i64 x1)], .cells 82 [.v (.int .i64 ((sp115 2 (sp69 (IntKind.i64.wrap (c.kernel * 16)))).1)), .own 4, .v (.slice none 0 0), .v (.int .i64 0)], .row 89 .sPartitionPlace [(4, 3)] none x2], GL, 0, [], (fun e => match e with | 89 => [(4, 3)] | _ => [])⟩
  | .l4 x2 x0 x1 x3 => ⟨mkE [(1, .ref 0 0), (2, .ref 1 0), (4, .fn (.func 115) [] [.ref 2 0]), (5, .ref 3 0), (46, .sl .sChannel c.channels), (47, .v (.int .i64 c.channels.length)), (48, .v (.int .i64 x2))] 148 0, [.cells 26 [.v (.int .i64 c.frames), .v (.int .i64 c.major), .v (.int .i64 c.kernel), .v (.int .i64 c.room), .sl (.sl .sWindow) c.cores, .sl .sPartition c.partitions, .sl .sChannel c.channels], .cells 82 [.v (.int .i64 0), .v (.slice none 0 0), .v (.slice none 0 0), .v (.int .i64 0)], .cells 3 [.v (.int .i64 x0)], .cells 82 [.v (.int .i64 ((sp115 2 (sp69 (IntKind.i64.wrap (c.kernel * 16)))).1)), .own 4, .own 5, .v (.int .i64 0)], .row 89 .sPartitionPlace [(4, 3)] none x1, .arr 94 .sChannelPlace x3], GL, 0, [], (fun e => match e with | 89 => [(4, 3)] | _ => [])⟩
  | .l8 x6 x7 x4 x0 x1 x8 x9 x10 x11 x2 x3 x12 x13 x5 x14 => ⟨mkE [(1, .ref 0 0), (2, .ref 1 0), (4, .fn (.func 115) [] [.ref 2 0]), (5, .ref 3 0), (7, .ref 6 0), (10, .ref 7 0), (46, .sl .sChannel c.channels), (47, .v (.int .i64 c.channels.length)), (48, .v (.int .i64 x6)), (74, .own 9), (75, .v (.int .i64 x7)), (76, .v (.int .i64 x4))] 148 0, [.cells 26 [.v (.int .i64 c.frames), .v (.int .i64 c.major), .v (.int .i64 c.kernel), .v (.int .i64 c.room), .sl (.sl .sWindow) c.cores, .sl .sPartition c.partitions, .sl .sChannel c.channels], .cells 82 [.v (.int .i64 0), .v (.slice none 0 0), .v (.slice none 0 0), .v (.int .i64 0)], .cells 3 [.v (.int .i64 x0)], .cells 82 [.v (.int .i64 ((sp115 2 (sp69 (IntKind.i64.wrap (c.kernel * 16)))).1)), .own 4, .own 5, .v (.int .i64 0)], .row 89 .sPartitionPlace [(4, 3)] none x1, .arr 94 .sChannelPlace x8, .cells 97 [.v (.int .i64 x9), .v (.int .i64 x10), .v (.int .i64 x11)], .cells 94 [.v (.int .i64 x2), .v (.int .i64 x3), .v (.int .i64 x12), .v (.int .i64 x13), .own 8], .arr 99 .sDestPlace x5, .arr 157 .sLayoutEnd x14], GL, 0, [], (fun e => match e with | 89 => [(4, 3)] | _ => [])⟩
  | .l12 x2 x0 x3 x1 => ⟨mkE [(2, .ref 0 0), (5, .ref 1 0), (13, .fn (.func 115) [] [.ref 4 0]), (109, .sl .sPartition c.partitions), (110, .v (.int .i64 c.partitions.length)), (111, .v (.int .i64 x2))] 148 0, [.cells 82 [.v (.int .i64 0), .v (.slice none 0 0), .v (.slice none 0 0), .v (.int .i64 0)], .cells 82 [.v (.int .i64 ((sp115 2 (sp69 (IntKind.i64.wrap (c.kernel * 16)))).1)), .own 2, .own 3, .v (.int .i64 0)], .row 89 .sPartitionPlace [(4, 3)] none x0, .arr 94 .sChannelPlace x3, .cells 3 [.v (.int .i64 x1)]], GL, 0, [], (fun e => match e with | 89 => [(4, 3)] | _ => [])⟩
  | .l16 x3 x4 x5 x2 x0 x6 x1 => ⟨mkE [(2, .ref 0 0), (5, .ref 1 0), (13, .fn (.func 115) [] [.ref 4 0]), (14, .v (.int .i64 x3)), (109, .sl .sPartition c.partitions), (110, .v (.int .i64 c.partitions.length)), (111, .v (.int .i64 x4)), (124, .v (.int .i64 x5)), (125, .v (.int .i64 x2))] 148 0, [.cells 82 [.v (.int .i64 0), .v (.slice none 0 0), .v (.slice none 0 0), .v (.int .i64 0)], .cells 82 [.v (.int .i64 ((sp115 2 (sp69 (IntKind.i64.wrap (c.kernel * 16)))).1)), .own 2, .own 3, .v (.int .i64 0)], .row 89 .sPartitionPlace [(4, 3)] none x0, .arr 94 .sChannelPlace x6, .cells 3 [.v (.int .i64 x1)]], GL, 0, [], (fun e => match e with | 89 => [(4, 3)] | _ => [])⟩
noncomputable def bod36 {R : Type} (ret : R36 → R) (c : Config) (j : L36 → Option R) : L36 → Option R
  | .l0 x0 x1 x2 => cond (decide ((x0 : Int) < c.partitions.length))
    (cond (leB (((x2 : List PartitionPlace).length + ([(⟨(sp115 2 x1).1, (sp115 17 ((sp115 2 x1).2)).1, (sp115 5 ((sp115 17 ((sp115 2 x1).2)).2)).1, 0, []⟩ : PartitionPlace)] : List PartitionPlace).length) * 56) 140737488355328) (
      j (.l0 (IntKind.i64.wrap (x0 + 1)) ((sp115 5 ((sp115 17 ((sp115 2 x1).2)).2)).2) ((x2 : List PartitionPlace) ++ [(⟨(sp115 2 x1).1, (sp115 17 ((sp115 2 x1).2)).1, (sp115 5 ((sp115 17 ((sp115 2 x1).2)).2)).1, 0, []⟩ : PartitionPlace)]))) none)
    (j (.l4 0 x1 x2 []))
  | .l4 x2 x0 x1 x3 => cond (decide ((x2 : Int) < c.channels.length))
    (cond (inR x2 c.channels.length) (
      cond (spc70 c x2) (
        cond (inR 0 ((sp70 c x2).1).length) (
          cond (inR 0 ((sp70 c x2).1).length) (
            j (.l8 x2 (((sp70 c x2).2).length) 0 ((sp115 (sp71 (atChannel c.channels x2.toNat)) ((sp115 2 x0).2)).2) x1 x3 ((atChannel c.channels x2.toNat).kind) ((atChannel c.channels x2.toNat).words) ((atChannel c.channels x2.toNat).depth) ((sp115 2 x0).1) ((sp115 (sp71 (atChannel c.channels x2.toNat)) ((sp115 2 x0).2)).1) ((atLayoutEnd ((sp70 c x2).1) 0).partition) ((atLayoutEnd ((sp70 c x2).1) 0).port) [] ((sp70 c x2).2))) none) none) none) none)
    (j (.l12 0 x1 x3 (sp69 (bop .quo .i64 (IntKind.i64.wrap ((IntKind.i64.wrap ((sp115 0 x0).1 + 16)) - 1)) 16))))
  | .l8 x6 x7 x4 x0 x1 x8 x9 x10 x11 x2 x3 x12 x13 x5 x14 => cond (decide ((x4 : Int) < x7))
    (cond (inR x4 x14.length) (
      cond (leB (((x5 : List DestPlace).length + ([(⟨(atLayoutEnd x14 x4.toNat).partition, (atLayoutEnd x14 x4.toNat).port, (sp115 (sp72 (⟨x9, x10, x11⟩ : Channel)) x0).1⟩ : DestPlace)] : List DestPlace).length) * 24) 140737488355328) (
        j (.l8 x6 x7 (IntKind.i64.wrap (x4 + 1)) ((sp115 (sp72 (⟨x9, x10, x11⟩ : Channel)) x0).2) x1 x8 x9 x10 x11 x2 x3 x12 x13 ((x5 : List DestPlace) ++ [(⟨(atLayoutEnd x14 x4.toNat).partition, (atLayoutEnd x14 x4.toNat).port, (sp115 (sp72 (⟨x9, x10, x11⟩ : Channel)) x0).1⟩ : DestPlace)]) x14)) none) none)
    (cond (leB (((x8 : List ChannelPlace).length + ([(⟨x2, x3, x12, x13, x5⟩ : ChannelPlace)] : List ChannelPlace).length) * 56) 140737488355328) (j (.l4 (IntKind.i64.wrap (x6 + 1)) x0 x1 ((x8 : List ChannelPlace) ++ [(⟨x2, x3, x12, x13, x5⟩ : ChannelPlace)]))) none)
  | .l12 x2 x0 x3 x1 => cond (decide ((x2 : Int) < c.partitions.length))
    (cond (inR x2 c.partitions.length) (
      cond (inR x2 x0.length) (
        cond (spc73 (atPartition c.partitions x2.toNat)) (
          j (.l16 x2 x2 (sp73 (atPartition c.partitions x2.toNat)) 0 (List.set x0 x2.toNat (⟨(atPartitionPlace x0 x2.toNat).lock, (atPartitionPlace x0 x2.toNat).save, (atPartitionPlace x0 x2.toNat).state, (sp115 1 x1).1, (atPartitionPlace x0 x2.toNat).tables⟩ : PartitionPlace)) x3 ((sp115 1 x1).2))) none) none) none)
    (some (ret ((⟨(sp115 2 (sp69 (IntKind.i64.wrap (c.kernel * 16)))).1, x0, x3, (sp115 0 x1).1⟩ : Layout), 0)))
  | .l16 x3 x4 x5 x2 x0 x6 x1 => cond (decide ((x2 : Int) < x5))
    (cond (inR x3 x0.length) (
      cond (leB ((((atPartitionPlace x0 x3.toNat).tables : List Int).length + ([(sp115 1 x1).1] : List Int).length) * 8) 140737488355328) (
        cond (inR x3 x0.length) (
          cond (Nat.beq x3.toNat x3.toNat) (
            j (.l16 x3 x4 x5 (IntKind.i64.wrap (x2 + 1)) (List.set x0 x3.toNat (⟨(atPartitionPlace x0 x3.toNat).lock, (atPartitionPlace x0 x3.toNat).save, (atPartitionPlace x0 x3.toNat).state, (atPartitionPlace x0 x3.toNat).root, (((atPartitionPlace x0 x3.toNat).tables : List Int) ++ [(sp115 1 x1).1])⟩ : PartitionPlace)) x6 ((sp115 1 x1).2))) none) none) none) none)
    (j (.l12 (IntKind.i64.wrap (x4 + 1)) x0 x6 x1))
noncomputable def ent36 {R : Type} (ret : R36 → R) (c : Config) (j : L36 → Option R) : Option R :=
    cond (spc68 c) (
    cond (!(sp68 c))
      (some (ret ((⟨0, [], [], 0⟩ : Layout), 150)))
      (j (.l0 0 ((sp115 2 (sp69 (IntKind.i64.wrap (c.kernel * 16)))).2) []))) none
theorem head36_0 (J : Jmp) (c : Config) (x0 : Int) (x1 : Int) (x2 : List PartitionPlace) : stepAt Pr GF H36 J 0 0 (bodyOf Tryz.f36) (fin Pr H36 Tryz.f36) (st36 c (.l0 x0 x1 x2)) = bod36 to36 c (fun l => J (num36 l) (st36 c l)) (.l0 x0 x1 x2) := by kernel_rfl
theorem head36_4 (J : Jmp) (c : Config) (x2 : Int) (x0 : Int) (x1 : List PartitionPlace) (x3 : List ChannelPlace) : stepAt Pr GF H36 J 4 0 (bodyOf Tryz.f36) (fin Pr H36 Tryz.f36) (st36 c (.l4 x2 x0 x1 x3)) = bod36 to36 c (fun l => J (num36 l) (st36 c l)) (.l4 x2 x0 x1 x3) := by kernel_rfl
theorem head36_8 (J : Jmp) (c : Config) (x6 : Int) (x7 : Int) (x4 : Int) (x0 : Int) (x1 : List PartitionPlace) (x8 : List ChannelPlace) (x9 : Int) (x10 : Int) (x11 : Int) (x2 : Int) (x3 : Int) (x12 : Int) (x13 : Int) (x5 : List DestPlace) (x14 : List LayoutEnd) : stepAt Pr GF H36 J 8 0 (bodyOf Tryz.f36) (fin Pr H36 Tryz.f36) (st36 c (.l8 x6 x7 x4 x0 x1 x8 x9 x10 x11 x2 x3 x12 x13 x5 x14)) = bod36 to36 c (fun l => J (num36 l) (st36 c l)) (.l8 x6 x7 x4 x0 x1 x8 x9 x10 x11 x2 x3 x12 x13 x5 x14) := by kernel_rfl
theorem head36_12 (J : Jmp) (c : Config) (x2 : Int) (x0 : List PartitionPlace) (x3 : List ChannelPlace) (x1 : Int) : stepAt Pr GF H36 J 12 0 (bodyOf Tryz.f36) (fin Pr H36 Tryz.f36) (st36 c (.l12 x2 x0 x3 x1)) = bod36 to36 c (fun l => J (num36 l) (st36 c l)) (.l12 x2 x0 x3 x1) := by kernel_rfl
theorem head36_16 (J : Jmp) (c : Config) (x3 : Int) (x4 : Int) (x5 : Int) (x2 : Int) (x0 : List PartitionPlace) (x6 : List ChannelPlace) (x1 : Int) : stepAt Pr GF H36 J 16 0 (bodyOf Tryz.f36) (fin Pr H36 Tryz.f36) (st36 c (.l16 x3 x4 x5 x2 x0 x6 x1)) = bod36 to36 c (fun l => J (num36 l) (st36 c l)) (.l16 x3 x4 x5 x2 x0 x6 x1) := by kernel_rfl
theorem run36 (J : Jmp) (c : Config) : runF Pr GF H36 J GL Tryz.f36 [(aCfg c)] [] = ent36 to36 c (fun l => J (num36 l) (st36 c l)) := by kernel_rfl
theorem shad36 (c : Config) : ∀ (n : Nat) (l : L36), runL Pr GF H36 Tryz.f36 n (num36 l) (st36 c l) = shad (bod36 to36 c) n l
  | 0, l => by cases l <;> rfl
  | n + 1, l => by
    have ih : (fun l => runL Pr GF H36 Tryz.f36 n (num36 l) (st36 c l)) = shad (bod36 to36 c) n := funext (shad36 c n)
    cases l with
    | l0 x0 x1 x2 => exact (step_eq ..).trans ((head36_0 ..).trans (by rw [ih]; rfl))
    | l4 x2 x0 x1 x3 => exact (step_eq ..).trans ((head36_4 ..).trans (by rw [ih]; rfl))
    | l8 x6 x7 x4 x0 x1 x8 x9 x10 x11 x2 x3 x12 x13 x5 x14 => exact (step_eq ..).trans ((head36_8 ..).trans (by rw [ih]; rfl))
    | l12 x2 x0 x3 x1 => exact (step_eq ..).trans ((head36_12 ..).trans (by rw [ih]; rfl))
    | l16 x3 x4 x5 x2 x0 x6 x1 => exact (step_eq ..).trans ((head36_16 ..).trans (by rw [ih]; rfl))
theorem nat36 (c : Config) (s : L36 → Option R36) (l : L36) : bod36 to36 c (fun l => (s l).map to36) l = (bod36 id c s l).map to36 := by
  cases l <;> simp only [bod36, map_cond, Option.map_some, Option.map_none, id]
theorem ct36 (c : Config) (l : L36) : CT fun j => bod36 id c j l := by
  cases l <;> (dsimp only [bod36]; repeat (first | exact CT.jump _ | exact CT.const _ | apply CT.cond))
noncomputable def spL36 (c : Config) : L36 → Option R36 := lfp (bod36 id c)
theorem spL36_eq (c : Config) (l : L36) : spL36 c l = bod36 id c (spL36 c) l := lfp_eq (ct36 c) l
noncomputable def spO36 (c : Config) : Option R36 := ent36 id c (spL36 c)
noncomputable def sp36 (c : Config) : R36 := (spO36 c).getD default
noncomputable def spc36 (c : Config) : Bool := (spO36 c).isSome
theorem oks36 (c : Config) (hc : spc36 c = true) : Okay Pr GL 36 [(aCfg c)] [] (to36 (sp36 c)) := by
  obtain ⟨n, h⟩ := auto_ok (nat36 c) (fun s => show ent36 to36 c (fun l => (s l).map to36) = (ent36 id c s).map to36 by simp only [ent36, map_cond, Option.map_some, Option.map_none, id]) (ct36 c) (show CT fun j => ent36 id c j by dsimp only [ent36]; repeat (first | exact CT.jump _ | exact CT.const _ | apply CT.cond)) (isSome_getD hc)
  exact okay_of_run (H := H36) GFok G0ok Tryz.func36 rfl (by kernel_rfl) n (by
    rw [run36]
    rw [show (fun l => runL Pr GF H36 Tryz.f36 n (num36 l) (st36 c l)) = shad (bod36 to36 c) n from funext (shad36 c n)]
    exact h)

/-! ### ref15.Of -/
abbrev R30 := Layout × Int
def to30 (r : R30) : Ans := ⟨.tup [.agg [.v (.int .i64 r.1.barrier), .sl .sPartitionPlace r.1.partitions, .sl .sChannelPlace r.1.channels, .v (.int .i64 r.1.end_)], .v (.int .i64 r.2)], []⟩
inductive L30 where
  | l0 (x0 : Int) (x1 : List ChannelPlace)
  | l4 (x0 : Int) (x1 : Int) (x2 : Int) (x3 : Int) (x4 : List PartitionPlace) (x5 : List ChannelPlace)
  | l81 (x2 : Int) (x4 : Int) (x5 : Int) (x0 : Int) (x1 : List PartitionPlace) (x3 : List ChannelPlace)
def num30 : L30 → Nat
  | .l0 _ _ => 0
  | .l4 _ _ _ _ _ _ => 4
  | .l81 _ _ _ _ _ _ => 81
def H30 : Hint := ⟨fun n => [40].any (Nat.beq n), hdAt [(0, ⟨fgt [1, 2, 4, 29, 30] 190 0, []⟩), (4, ⟨fgt [2, 4, 8, 9, 10, 58, 59] 190 0, []⟩), (81, ⟨fgt [2, 4, 8, 9, 10, 58, 59] 190 0, []⟩)], [(.cell 0 1, .sl .sPartitionPlace), (.cell 0 2, .sl .sChannelPlace)], G0, (fun e => match e with | 89 => [(4, 3)] | 94 => [(4, 99)] | _ => [])⟩
noncomputable def st30 (c : Config) : L30 → St
  | .l0 x0 x1 => ⟨mkE [(1, .ref 0 0), (2, .ref 1 0), (4, .ref 2 0), (29, .v (.int .i64 c.channels.length)), (30, .v (.int .i64 x0))] 190 0, [.cells 26 [.v (.int .i64 c.frames), .v (.int .i64 c.major), .v (.int .i64 c.kernel), .v (.int .i64 c.room), .sl (.sl .sWindow) c.cores, .sl .sPartition c.partitions, .sl .sChannel c.channels], .cells 82 [.v (.int .i64 0), .v (.slice none 0 0), .v (.slice none 0 0), .v (.int .i64 0)], .cells 82 [.v (.int .i64 0), .own 3, .own 4, .v (.int .i64 0)], .row 89 .sPartitionPlace [(4, 3)] none (List.replicate (c.partitions.length : Int).toNat (⟨0, 0, 0, 0, []⟩ : PartitionPlace)), .row 94 .sChannelPlace [(4, 99)] none x1], GL, 0, [], (fun e => match e with | 89 => [(4, 3)] | 94 => [(4, 99)] | _ => [])⟩
  | .l4 x0 x1 x2 x3 x4 x5 => ⟨mkE [(2, .ref 0 0), (4, .ref 1 0), (8, .v (.int .i64 x0)), (9, .own 4), (10, .v (.int .i64 x1)), (58, .v (.int .i64 ((sp47 c).length))), (59, .v (.int .i64 x2))] 190 0, [.cells 82 [.v (.int .i64 0), .v (.slice none 0 0), .v (.slice none 0 0), .v (.int .i64 0)], .cells 82 [.v (.int .i64 x3), .own 2, .own 3, .v (.int .i64 0)], .row 89 .sPartitionPlace [(4, 3)] none x4, .row 94 .sChannelPlace [(4, 99)] none x5, .arr 116 .sBulkheadref15Piece (sp47 c)], GL, 0, [], (fun e => match e with | 89 => [(4, 3)] | 94 => [(4, 99)] | _ => [])⟩
  | .l81 x2 x4 x5 x0 x1 x3 => ⟨mkE [(2, .ref 0 0), (4, .ref 1 0), (8, .v (.int .i64 x2)), (9, .own 4), (10, .v (.int .i64 x4)), (58, .v (.int .i64 ((sp47 c).length))), (59, .v (.int .i64 x5))] 190 0, [.cells 82 [.v (.int .i64 0), .v (.slice none 0 0), .v (.slice none 0 0), .v (.int .i64 0)], .cells 82 [.v (.int .i64 x0), .own 2, .own 3, .v (.int .i64 0)], .row 89 .sPartitionPlace [(4, 3)] none x1, .row 94 .sChannelPlace [(4, 99)] none x3, .arr 116 .sBulkheadref15Piece (sp47 c)], GL, 0, [], (fun e => match e with | 89 => [(4, 3)] | 94 => [(4, 99)] | _ => [])⟩
noncomputable def bod30 {R : Type} (ret : R30 → R) (c : Config) (j : L30 → Option R) : L30 → Option R
  | .l0 x0 x1 => cond (decide ((x0 : Int) < c.channels.length))
    (cond (spc63 c x0) (
      cond (inR x0 x1.length) (
        cond (inR x0 (List.set x1 x0.toNat (⟨(atChannelPlace x1 x0.toNat).lock, (atChannelPlace x1 x0.toNat).stage, (sp63 c x0).1, (atChannelPlace x1 x0.toNat).port, (atChannelPlace x1 x0.toNat).dests⟩ : ChannelPlace)).length) (
          j (.l0 (IntKind.i64.wrap (x0 + 1)) (List.set (List.set x1 x0.toNat (⟨(atChannelPlace x1 x0.toNat).lock, (atChannelPlace x1 x0.toNat).stage, (sp63 c x0).1, (atChannelPlace x1 x0.toNat).port, (atChannelPlace x1 x0.toNat).dests⟩ : ChannelPlace)) x0.toNat (⟨(atChannelPlace (List.set x1 x0.toNat (⟨(atChannelPlace x1 x0.toNat).lock, (atChannelPlace x1 x0.toNat).stage, (sp63 c x0).1, (atChannelPlace x1 x0.toNat).port, (atChannelPlace x1 x0.toNat).dests⟩ : ChannelPlace)) x0.toNat).lock, (atChannelPlace (List.set x1 x0.toNat (⟨(atChannelPlace x1 x0.toNat).lock, (atChannelPlace x1 x0.toNat).stage, (sp63 c x0).1, (atChannelPlace x1 x0.toNat).port, (atChannelPlace x1 x0.toNat).dests⟩ : ChannelPlace)) x0.toNat).stage, (atChannelPlace (List.set x1 x0.toNat (⟨(atChannelPlace x1 x0.toNat).lock, (atChannelPlace x1 x0.toNat).stage, (sp63 c x0).1, (atChannelPlace x1 x0.toNat).port, (atChannelPlace x1 x0.toNat).dests⟩ : ChannelPlace)) x0.toNat).partition, (sp63 c x0).2, (atChannelPlace (List.set x1 x0.toNat (⟨(atChannelPlace x1 x0.toNat).lock, (atChannelPlace x1 x0.toNat).stage, (sp63 c x0).1, (atChannelPlace x1 x0.toNat).port, (atChannelPlace x1 x0.toNat).dests⟩ : ChannelPlace)) x0.toNat).dests⟩ : ChannelPlace)))) none) none) none)
    (cond (spc47 c) (
      j (.l4 0 (IntKind.i64.wrap (16 * c.kernel)) 0 0 (List.replicate (c.partitions.length : Int).toNat (⟨0, 0, 0, 0, []⟩ : PartitionPlace)) x1)) none)
  | .l4 x0 x1 x2 x3 x4 x5 => cond (decide ((x2 : Int) < (sp47 c).length))
    (cond (inR x2 (sp47 c).length) (
      cond (((atBulkheadref15Piece (sp47 c) x2.toNat).owner.kind : Int) == 2)
        (j (.l81 x0 (IntKind.i64.wrap ((atBulkheadref15Piece (sp47 c) x2.toNat).at_ + (atBulkheadref15Piece (sp47 c) x2.toNat).size)) x2 ((atBulkheadref15Piece (sp47 c) x2.toNat).at_) x4 x5))
        (cond (((atBulkheadref15Piece (sp47 c) x2.toNat).owner.kind : Int) == 3)
          (cond (inR ((atBulkheadref15Piece (sp47 c) x2.toNat).owner.index) x4.length) (
            j (.l81 x0 (IntKind.i64.wrap ((atBulkheadref15Piece (sp47 c) x2.toNat).at_ + (atBulkheadref15Piece (sp47 c) x2.toNat).size)) x2 x3 (List.set x4 (((atBulkheadref15Piece (sp47 c) x2.toNat).owner.index).toNat) (⟨(atBulkheadref15Piece (sp47 c) x2.toNat).at_, (atPartitionPlace x4 (((atBulkheadref15Piece (sp47 c) x2.toNat).owner.index).toNat)).save, (atPartitionPlace x4 (((atBulkheadref15Piece (sp47 c) x2.toNat).owner.index).toNat)).state, (atPartitionPlace x4 (((atBulkheadref15Piece (sp47 c) x2.toNat).owner.index).toNat)).root, (atPartitionPlace x4 (((atBulkheadref15Piece (sp47 c) x2.toNat).owner.index).toNat)).tables⟩ : PartitionPlace)) x5)) none)
          (cond (((atBulkheadref15Piece (sp47 c) x2.toNat).owner.kind : Int) == 4)
            (cond (inR ((atBulkheadref15Piece (sp47 c) x2.toNat).owner.index) x4.length) (
              j (.l81 x0 (IntKind.i64.wrap ((atBulkheadref15Piece (sp47 c) x2.toNat).at_ + (atBulkheadref15Piece (sp47 c) x2.toNat).size)) x2 x3 (List.set x4 (((atBulkheadref15Piece (sp47 c) x2.toNat).owner.index).toNat) (⟨(atPartitionPlace x4 (((atBulkheadref15Piece (sp47 c) x2.toNat).owner.index).toNat)).lock, (atBulkheadref15Piece (sp47 c) x2.toNat).at_, (atPartitionPlace x4 (((atBulkheadref15Piece (sp47 c) x2.toNat).owner.index).toNat)).state, (atPartitionPlace x4 (((atBulkheadref15Piece (sp47 c) x2.toNat).owner.index).toNat)).root, (atPartitionPlace x4 (((atBulkheadref15Piece (sp47 c) x2.toNat).owner.index).toNat)).tables⟩ : PartitionPlace)) x5)) none)
            (cond (((atBulkheadref15Piece (sp47 c) x2.toNat).owner.kind : Int) == 5)
              (cond (inR ((atBulkheadref15Piece (sp47 c) x2.toNat).owner.index) x4.length) (
                j (.l81 x0 (IntKind.i64.wrap ((atBulkheadref15Piece (sp47 c) x2.toNat).at_ + (atBulkheadref15Piece (sp47 c) x2.toNat).size)) x2 x3 (List.set x4 (((atBulkheadref15Piece (sp47 c) x2.toNat).owner.index).toNat) (⟨(atPartitionPlace x4 (((atBulkheadref15Piece (sp47 c) x2.toNat).owner.index).toNat)).lock, (atPartitionPlace x4 (((atBulkheadref15Piece (sp47 c) x2.toNat).owner.index).toNat)).save, (atBulkheadref15Piece (sp47 c) x2.toNat).at_, (atPartitionPlace x4 (((atBulkheadref15Piece (sp47 c) x2.toNat).owner.index).toNat)).root, (atPartitionPlace x4 (((atBulkheadref15Piece (sp47 c) x2.toNat).owner.index).toNat)).tables⟩ : PartitionPlace)) x5)) none)
              (cond (((atBulkheadref15Piece (sp47 c) x2.toNat).owner.kind : Int) == 6)
                (cond (inR ((atBulkheadref15Piece (sp47 c) x2.toNat).owner.index) x5.length) (
                  j (.l81 ((atBulkheadref15Piece (sp47 c) x2.toNat).owner.index) (IntKind.i64.wrap ((atBulkheadref15Piece (sp47 c) x2.toNat).at_ + (atBulkheadref15Piece (sp47 c) x2.toNat).size)) x2 x3 x4 (List.set x5 (((atBulkheadref15Piece (sp47 c) x2.toNat).owner.index).toNat) (⟨(atBulkheadref15Piece (sp47 c) x2.toNat).at_, (atChannelPlace x5 (((atBulkheadref15Piece (sp47 c) x2.toNat).owner.index).toNat)).stage, (atChannelPlace x5 (((atBulkheadref15Piece (sp47 c) x2.toNat).owner.index).toNat)).partition, (atChannelPlace x5 (((atBulkheadref15Piece (sp47 c) x2.toNat).owner.index).toNat)).port, (atChannelPlace x5 (((atBulkheadref15Piece (sp47 c) x2.toNat).owner.index).toNat)).dests⟩ : ChannelPlace)))) none)
                (cond (((atBulkheadref15Piece (sp47 c) x2.toNat).owner.kind : Int) == 7)
                  (cond (inR ((atBulkheadref15Piece (sp47 c) x2.toNat).owner.index) x5.length) (
                    j (.l81 x0 (IntKind.i64.wrap ((atBulkheadref15Piece (sp47 c) x2.toNat).at_ + (atBulkheadref15Piece (sp47 c) x2.toNat).size)) x2 x3 x4 (List.set x5 (((atBulkheadref15Piece (sp47 c) x2.toNat).owner.index).toNat) (⟨(atChannelPlace x5 (((atBulkheadref15Piece (sp47 c) x2.toNat).owner.index).toNat)).lock, (atBulkheadref15Piece (sp47 c) x2.toNat).at_, (atChannelPlace x5 (((atBulkheadref15Piece (sp47 c) x2.toNat).owner.index).toNat)).partition, (atChannelPlace x5 (((atBulkheadref15Piece (sp47 c) x2.toNat).owner.index).toNat)).port, (atChannelPlace x5 (((atBulkheadref15Piece (sp47 c) x2.toNat).owner.index).toNat)).dests⟩ : ChannelPlace)))) none)
                  (cond (((atBulkheadref15Piece (sp47 c) x2.toNat).owner.kind : Int) == 8)
                    (cond (inR x0 x5.length) (
                      cond (leB ((((atChannelPlace x5 x0.toNat).dests : List DestPlace).length + ([(⟨(atBulkheadref15Piece (sp47 c) x2.toNat).owner.index, (atBulkheadref15Piece (sp47 c) x2.toNat).owner.port, (atBulkheadref15Piece (sp47 c) x2.toNat).at_⟩ : DestPlace)] : List DestPlace).length) * 24) 140737488355328) (
                        cond (inR x0 x5.length) (
                          cond (Nat.beq x0.toNat x0.toNat) (
                            j (.l81 x0 (IntKind.i64.wrap ((atBulkheadref15Piece (sp47 c) x2.toNat).at_ + (atBulkheadref15Piece (sp47 c) x2.toNat).size)) x2 x3 x4 (List.set x5 x0.toNat (⟨(atChannelPlace x5 x0.toNat).lock, (atChannelPlace x5 x0.toNat).stage, (atChannelPlace x5 x0.toNat).partition, (atChannelPlace x5 x0.toNat).port, (((atChannelPlace x5 x0.toNat).dests : List DestPlace) ++ [(⟨(atBulkheadref15Piece (sp47 c) x2.toNat).owner.index, (atBulkheadref15Piece (sp47 c) x2.toNat).owner.port, (atBulkheadref15Piece (sp47 c) x2.toNat).at_⟩ : DestPlace)])⟩ : ChannelPlace)))) none) none) none) none)
                    (cond (((atBulkheadref15Piece (sp47 c) x2.toNat).owner.kind : Int) == 9)
                      (cond (inR ((atBulkheadref15Piece (sp47 c) x2.toNat).owner.index) x4.length) (
                        cond (((atPartitionPlace x4 (((atBulkheadref15Piece (sp47 c) x2.toNat).owner.index).toNat)).root : Int) == 0)
                          (cond (inR ((atBulkheadref15Piece (sp47 c) x2.toNat).owner.index) x4.length) (
                            j (.l81 x0 (IntKind.i64.wrap ((atBulkheadref15Piece (sp47 c) x2.toNat).at_ + (atBulkheadref15Piece (sp47 c) x2.toNat).size)) x2 x3 (List.set x4 (((atBulkheadref15Piece (sp47 c) x2.toNat).owner.index).toNat) (⟨(atPartitionPlace x4 (((atBulkheadref15Piece (sp47 c) x2.toNat).owner.index).toNat)).lock, (atPartitionPlace x4 (((atBulkheadref15Piece (sp47 c) x2.toNat).owner.index).toNat)).save, (atPartitionPlace x4 (((atBulkheadref15Piece (sp47 c) x2.toNat).owner.index).toNat)).state, (bop .quo .i64 ((atBulkheadref15Piece (sp47 c) x2.toNat).at_) 16), (atPartitionPlace x4 (((atBulkheadref15Piece (sp47 c) x2.toNat).owner.index).toNat)).tables⟩ : PartitionPlace)) x5)) none)
                          (cond (inR ((atBulkheadref15Piece (sp47 c) x2.toNat).owner.index) x4.length) (
                            cond (leB ((((atPartitionPlace x4 (((atBulkheadref15Piece (sp47 c) x2.toNat).owner.index).toNat)).tables : List Int).length + ([(bop .quo .i64 ((atBulkheadref15Piece (sp47 c) x2.toNat).at_) 16)] : List Int).length) * 8) 140737488355328) (
                              cond (inR ((atBulkheadref15Piece (sp47 c) x2.toNat).owner.index) x4.length) (
                                cond (Nat.beq (((atBulkheadref15Piece (sp47 c) x2.toNat).owner.index).toNat) (((atBulkheadref15Piece (sp47 c) x2.toNat).owner.index).toNat)) (
                                  j (.l81 x0 (IntKind.i64.wrap ((atBulkheadref15Piece (sp47 c) x2.toNat).at_ + (atBulkheadref15Piece (sp47 c) x2.toNat).size)) x2 x3 (List.set x4 (((atBulkheadref15Piece (sp47 c) x2.toNat).owner.index).toNat) (⟨(atPartitionPlace x4 (((atBulkheadref15Piece (sp47 c) x2.toNat).owner.index).toNat)).lock, (atPartitionPlace x4 (((atBulkheadref15Piece (sp47 c) x2.toNat).owner.index).toNat)).save, (atPartitionPlace x4 (((atBulkheadref15Piece (sp47 c) x2.toNat).owner.index).toNat)).state, (atPartitionPlace x4 (((atBulkheadref15Piece (sp47 c) x2.toNat).owner.index).toNat)).root, (((atPartitionPlace x4 (((atBulkheadref15Piece (sp47 c) x2.toNat).owner.index).toNat)).tables : List Int) ++ [(bop .quo .i64 ((atBulkheadref15Piece (sp47 c) x2.toNat).at_) 16)])⟩ : PartitionPlace)) x5)) none) none) none) none)) none)
                      (j (.l81 x0 (IntKind.i64.wrap ((atBulkheadref15Piece (sp47 c) x2.toNat).at_ + (atBulkheadref15Piece (sp47 c) x2.toNat).size)) x2 x3 x4 x5)))))))))) none)
    (some (ret ((⟨x3, x4, x5, (bop .quo .i64 (IntKind.i64.wrap ((IntKind.i64.wrap (x1 + 16)) - 1)) 16)⟩ : Layout), 0)))
  | .l81 x2 x4 x5 x0 x1 x3 => j (.l4 x2 x4 (IntKind.i64.wrap (x5 + 1)) x0 x1 x3)
noncomputable def ent30 {R : Type} (ret : R30 → R) (c : Config) (j : L30 → Option R) : Option R :=
    cond (spc46 c) (
    cond (!(sp46 c))
      (some (ret ((⟨0, [], [], 0⟩ : Layout), 150)))
      (cond (decide ((c.partitions.length : Int) = c.partitions.length) && decide (0 ≤ c.partitions.length) && leB ((c.partitions.length : Int).toNat * 56) 140737488355328) (
        cond (decide ((c.channels.length : Int) = c.channels.length) && decide (0 ≤ c.channels.length) && leB ((c.channels.length : Int).toNat * 56) 140737488355328) (j (.l0 0 (List.replicate (c.channels.length : Int).toNat (⟨0, 0, 0, 0, []⟩ : ChannelPlace)))) none) none)) none
theorem head30_0 (J : Jmp) (c : Config) (x0 : Int) (x1 : List ChannelPlace) : stepAt Pr GF H30 J 0 0 (bodyOf Tryz.f30) (fin Pr H30 Tryz.f30) (st30 c (.l0 x0 x1)) = bod30 to30 c (fun l => J (num30 l) (st30 c l)) (.l0 x0 x1) := by kernel_rfl
theorem head30_4 (J : Jmp) (c : Config) (x0 : Int) (x1 : Int) (x2 : Int) (x3 : Int) (x4 : List PartitionPlace) (x5 : List ChannelPlace) : stepAt Pr GF H30 J 4 0 (bodyOf Tryz.f30) (fin Pr H30 Tryz.f30) (st30 c (.l4 x0 x1 x2 x3 x4 x5)) = bod30 to30 c (fun l => J (num30 l) (st30 c l)) (.l4 x0 x1 x2 x3 x4 x5) := by kernel_rfl
theorem head30_81 (J : Jmp) (c : Config) (x2 : Int) (x4 : Int) (x5 : Int) (x0 : Int) (x1 : List PartitionPlace) (x3 : List ChannelPlace) : stepAt Pr GF H30 J 81 0 (bodyOf Tryz.f30) (fin Pr H30 Tryz.f30) (st30 c (.l81 x2 x4 x5 x0 x1 x3)) = bod30 to30 c (fun l => J (num30 l) (st30 c l)) (.l81 x2 x4 x5 x0 x1 x3) := by kernel_rfl
theorem run30 (J : Jmp) (c : Config) : runF Pr GF H30 J GL Tryz.f30 [(aCfg c)] [] = ent30 to30 c (fun l => J (num30 l) (st30 c l)) := by kernel_rfl
theorem shad30 (c : Config) : ∀ (n : Nat) (l : L30), runL Pr GF H30 Tryz.f30 n (num30 l) (st30 c l) = shad (bod30 to30 c) n l
  | 0, l => by cases l <;> rfl
  | n + 1, l => by
    have ih : (fun l => runL Pr GF H30 Tryz.f30 n (num30 l) (st30 c l)) = shad (bod30 to30 c) n := funext (shad30 c n)
    cases l with
    | l0 x0 x1 => exact (step_eq ..).trans ((head30_0 ..).trans (by rw [ih]; rfl))
    | l4 x0 x1 x2 x3 x4 x5 => exact (step_eq ..).trans ((head30_4 ..).trans (by rw [ih]; rfl))
    | l81 x2 x4 x5 x0 x1 x3 => exact (step_eq ..).trans ((head30_81 ..).trans (by rw [ih]; rfl))
theorem nat30 (c : Config) (s : L30 → Option R30) (l : L30) : bod30 to30 c (fun l => (s l).map to30) l = (bod30 id c s l).map to30 := by
  cases l <;> simp only [bod30, map_cond, Option.map_some, Option.map_none, id]
theorem ct30 (c : Config) (l : L30) : CT fun j => bod30 id c j l := by
  cases l <;> (dsimp only [bod30]; repeat (first | exact CT.jump _ | exact CT.const _ | apply CT.cond))
noncomputable def spL30 (c : Config) : L30 → Option R30 := lfp (bod30 id c)
theorem spL30_eq (c : Config) (l : L30) : spL30 c l = bod30 id c (spL30 c) l := lfp_eq (ct30 c) l
noncomputable def spO30 (c : Config) : Option R30 := ent30 id c (spL30 c)
noncomputable def sp30 (c : Config) : R30 := (spO30 c).getD default
noncomputable def spc30 (c : Config) : Bool := (spO30 c).isSome
theorem oks30 (c : Config) (hc : spc30 c = true) : Okay Pr GL 30 [(aCfg c)] [] (to30 (sp30 c)) := by
  obtain ⟨n, h⟩ := auto_ok (nat30 c) (fun s => show ent30 to30 c (fun l => (s l).map to30) = (ent30 id c s).map to30 by simp only [ent30, map_cond, Option.map_some, Option.map_none, id]) (ct30 c) (show CT fun j => ent30 id c j by dsimp only [ent30]; repeat (first | exact CT.jump _ | exact CT.const _ | apply CT.cond)) (isSome_getD hc)
  exact okay_of_run (H := H30) GFok G0ok Tryz.func30 rfl (by kernel_rfl) n (by
    rw [run30]
    rw [show (fun l => runL Pr GF H30 Tryz.f30 n (num30 l) (st30 c l)) = shad (bod30 to30 c) n from funext (shad30 c n)]
    exact h)

/-! ### slices.Index[[]*mem.Memory,*mem.Memory] -/
abbrev R95 := Int
def to95 (r : R95) : Ans := ⟨.v (.int .i64 r), []⟩
inductive L95 where
  | l0 (x0 : Int)
def num95 : L95 → Nat
  | .l0 _ => 0
def H95 : Hint := ⟨fun n => [].any (Nat.beq n), hdAt [(0, ⟨fgt [0, 1, 7, 8] 19 0, []⟩)], [], G0, nodp⟩
noncomputable def st95 (ms : (List (Option MemMemory))) : L95 → St
  | .l0 x0 => ⟨mkE [(0, .sl (.p .sMemMemory) ms), (1, .v (.pointer none)), (7, .v (.int .i64 ms.length)), (8, .v (.int .i64 x0))] 19 0, [], GL, 0, [], nodp⟩
noncomputable def bod95 {R : Type} (ret : R95 → R) (ms : (List (Option MemMemory))) (j : L95 → Option R) : L95 → Option R
  | .l0 x0 => cond (decide ((x0 : Int) < ms.length))
    (cond (inR x0 ms.length) (cond ((atPMemMemory ms x0.toNat).isNone)
        (some (ret x0))
        (j (.l0 (IntKind.i64.wrap (x0 + 1))))) none)
    (some (ret (-1)))
noncomputable def ent95 {R : Type} (ret : R95 → R) (ms : (List (Option MemMemory))) (j : L95 → Option R) : Option R :=
    j (.l0 0)
theorem head95_0 (J : Jmp) (ms : (List (Option MemMemory))) (x0 : Int) : stepAt Pr GF H95 J 0 0 (bodyOf Tryz.f95) (fin Pr H95 Tryz.f95) (st95 ms (.l0 x0)) = bod95 to95 ms (fun l => J (num95 l) (st95 ms l)) (.l0 x0) := by kernel_rfl
theorem run95 (J : Jmp) (ms : (List (Option MemMemory))) : runF Pr GF H95 J GL Tryz.f95 [.sl (.p .sMemMemory) ms, .v (.pointer none)] [] = ent95 to95 ms (fun l => J (num95 l) (st95 ms l)) := by kernel_rfl
theorem shad95 (ms : (List (Option MemMemory))) : ∀ (n : Nat) (l : L95), runL Pr GF H95 Tryz.f95 n (num95 l) (st95 ms l) = shad (bod95 to95 ms) n l
  | 0, l => by cases l <;> rfl
  | n + 1, l => by
    have ih : (fun l => runL Pr GF H95 Tryz.f95 n (num95 l) (st95 ms l)) = shad (bod95 to95 ms) n := funext (shad95 ms n)
    cases l with
    | l0 x0 => exact (step_eq ..).trans ((head95_0 ..).trans (by rw [ih]; rfl))
theorem nat95 (ms : (List (Option MemMemory))) (s : L95 → Option R95) (l : L95) : bod95 to95 ms (fun l => (s l).map to95) l = (bod95 id ms s l).map to95 := by
  cases l <;> simp only [bod95, map_cond, Option.map_some, Option.map_none, id]
theorem ct95 (ms : (List (Option MemMemory))) (l : L95) : CT fun j => bod95 id ms j l := by
  cases l <;> (dsimp only [bod95]; repeat (first | exact CT.jump _ | exact CT.const _ | apply CT.cond))
noncomputable def spL95 (ms : (List (Option MemMemory))) : L95 → Option R95 := lfp (bod95 id ms)
theorem spL95_eq (ms : (List (Option MemMemory))) (l : L95) : spL95 ms l = bod95 id ms (spL95 ms) l := lfp_eq (ct95 ms) l
noncomputable def spO95 (ms : (List (Option MemMemory))) : Option R95 := ent95 id ms (spL95 ms)
noncomputable def sp95 (ms : (List (Option MemMemory))) : R95 := (spO95 ms).getD default
noncomputable def spc95 (ms : (List (Option MemMemory))) : Bool := (spO95 ms).isSome
theorem oks95 (ms : (List (Option MemMemory))) (hc : spc95 ms = true) : Okay Pr GL 95 [.sl (.p .sMemMemory) ms, .v (.pointer none)] [] (to95 (sp95 ms)) := by
  obtain ⟨n, h⟩ := auto_ok (nat95 ms) (fun s => show ent95 to95 ms (fun l => (s l).map to95) = (ent95 id ms s).map to95 by simp only [ent95, map_cond, Option.map_some, Option.map_none, id]) (ct95 ms) (show CT fun j => ent95 id ms j by dsimp only [ent95]; repeat (first | exact CT.jump _ | exact CT.const _ | apply CT.cond)) (isSome_getD hc)
  exact okay_of_run (H := H95) GFok G0ok Tryz.func95 rfl (by kernel_rfl) n (by
    rw [run95]
    rw [show (fun l => runL Pr GF H95 Tryz.f95 n (num95 l) (st95 ms l)) = shad (bod95 to95 ms) n from funext (shad95 ms n)]
    exact h)

noncomputable def g36 (args : List AV) (hp : List Blk) : Option (Bool × AV × List Blk) :=
  match hp, args with
  | [], [x0] => (rdS .sConfig x0).bind fun a0 => some ((spc36 a0), .tup [.agg [.v (.int .i64 ((sp36 a0).1.barrier)), .sl .sPartitionPlace ((sp36 a0).1.partitions), .sl .sChannelPlace ((sp36 a0).1.channels), .v (.int .i64 ((sp36 a0).1.end_))], .v (.int .i64 ((sp36 a0).2))], [])
  | _, _ => none
theorem g36_ok {args : List AV} {hp : List Blk} {b : Bool} {r : AV} {hp' : List Blk} (h : g36 args hp = some (b, r, hp')) (hb : b = true) : FnOk Pr 36 ∧ Okay Pr GL 36 args hp ⟨r, hp'⟩ := by
  unfold g36 at h
  split at h
  · simp only [Option.bind_eq_some_iff] at h
    obtain ⟨a0, h0, h⟩ := h
    cases h; exact ⟨fnok Tryz.func36 (by kernel_rfl) rfl, (oks36 a0 hb).ats (.cons (rdS_V h0) .nil)⟩
  · cases h
noncomputable def g30 (args : List AV) (hp : List Blk) : Option (Bool × AV × List Blk) :=
  match hp, args with
  | [], [x0] => (rdS .sConfig x0).bind fun a0 => some ((spc30 a0), .tup [.agg [.v (.int .i64 ((sp30 a0).1.barrier)), .sl .sPartitionPlace ((sp30 a0).1.partitions), .sl .sChannelPlace ((sp30 a0).1.channels), .v (.int .i64 ((sp30 a0).1.end_))], .v (.int .i64 ((sp30 a0).2))], [])
  | _, _ => none
theorem g30_ok {args : List AV} {hp : List Blk} {b : Bool} {r : AV} {hp' : List Blk} (h : g30 args hp = some (b, r, hp')) (hb : b = true) : FnOk Pr 30 ∧ Okay Pr GL 30 args hp ⟨r, hp'⟩ := by
  unfold g30 at h
  split at h
  · simp only [Option.bind_eq_some_iff] at h
    obtain ⟨a0, h0, h⟩ := h
    cases h; exact ⟨fnok Tryz.func30 (by kernel_rfl) rfl, (oks30 a0 hb).ats (.cons (rdS_V h0) .nil)⟩
  · cases h
noncomputable def g95 (args : List AV) (hp : List Blk) : Option (Bool × AV × List Blk) :=
  match args, hp with
  | [.sl (.p .sMemMemory) y0, .v (.pointer none)], [] => some ((spc95 y0), .v (.int .i64 (sp95 y0)), [])
  | _, _ => none
theorem g95_ok {args : List AV} {hp : List Blk} {b : Bool} {r : AV} {hp' : List Blk} (h : g95 args hp = some (b, r, hp')) (hb : b = true) : FnOk Pr 95 ∧ Okay Pr GL 95 args hp ⟨r, hp'⟩ := by
  unfold g95 at h
  split at h
  · cases h; exact ⟨fnok Tryz.func95 (by kernel_rfl) rfl, oks95 _ hb⟩
  · cases h
noncomputable def GG : Gam := fun c args hp => match c with
  | .f f => pick1 36 f (g36 args hp) (pick1 30 f (g30 args hp) (pick1 95 f (g95 args hp) (GF (.f f) args hp)))
  | .c x => GF (.c x) args hp
theorem GGok : GOk Pr GL GG := by
  intro c args hp b r hp' h hb
  cases c with
  | f f =>
    simp only [GG] at h
    rcases pick1_ok h with ⟨rfl, h⟩ | h
    · exact g36_ok h hb
    rcases pick1_ok h with ⟨rfl, h⟩ | h
    · exact g30_ok h hb
    rcases pick1_ok h with ⟨rfl, h⟩ | h
    · exact g95_ok h hb
    exact GFok (.f f) args hp b r hp' h hb
  | c x => exact GFok (.c x) args hp b r hp' h hb
end Go.Proofs.YtgfifnadfmaolaaGreatDoor
