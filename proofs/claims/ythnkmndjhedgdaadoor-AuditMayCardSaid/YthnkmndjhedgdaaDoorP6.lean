/- Shadows of functions (printed by pr2.py off the model's code; the kernel holds each equation to it), and what they answer. -/
import Derived.Test.YthnkmndjhedgdaaDoorP5
namespace Go.Proofs.YthnkmndjhedgdaaDoor
open Go.RowKit
set_option linter.unusedVariables false
set_option linter.unusedSimpArgs false
/-! ### layout.Of -/
abbrev R41 := Layout × Int
def to41 (r : R41) : Ans := ⟨.tup [.agg [.v (.int .i64 r.1.barrier), .sl .sPartitionPlace r.1.partitions, .sl .sChannelPlace r.1.channels, .v (.int .i64 r.1.end_)], .v (.int .i64 r.2)], []⟩
inductive L41 where
  | l0 (x0 : Int) (x1 : Int) (x2 : List PartitionPlace)
  | l4 (x2 : Int) (x0 : Int) (x1 : List PartitionPlace) (x3 : List ChannelPlace)
  | l8 (x6 : Int) (x7 : Int) (x4 : Int) (x0 : Int) (x1 : List PartitionPlace) (x8 : List ChannelPlace) (x9 : Int) (x10 : Int) (x11 : Int) (x2 : Int) (x3 : Int) (x12 : Int) (x13 : Int) (x5 : List DestPlace) (x14 : List LayoutEnd)
  | l12 (x2 : Int) (x0 : List PartitionPlace) (x3 : List ChannelPlace) (x1 : Int)
  | l16 (x3 : Int) (x4 : Int) (x5 : Int) (x2 : Int) (x0 : List PartitionPlace) (x6 : List ChannelPlace) (x1 : Int)
def num41 : L41 → Nat
  | .l0 _ _ _ => 0
  | .l4 _ _ _ _ => 4
  | .l8 _ _ _ _ _ _ _ _ _ _ _ _ _ _ _ => 8
  | .l12 _ _ _ _ => 12
  | .l16 _ _ _ _ _ _ _ => 16
def H41 : Hint := ⟨fun n => [].any (Nat.beq n), hdAt [(0, ⟨fgt [1, 2, 4, 5, 29, 30] 148 0, [(.box 5 1, .own 121 .sPartitionPlace)]⟩), (4, ⟨fgt [1, 2, 4, 5, 46, 47, 48] 148 0, [(.box 5 2, .own 129 .sChannelPlace)]⟩), (8, ⟨fgt [1, 2, 4, 5, 7, 10, 46, 47, 48, 74, 75, 76] 148 0, [(.box 10 4, .own 131 .sDestPlace), (.box 5 2, .own 129 .sChannelPlace)]⟩), (12, ⟨fgt [2, 5, 13, 109, 110, 111] 148 0, [(.box 5 2, .own 129 .sChannelPlace)]⟩), (16, ⟨fgt [2, 5, 13, 14, 109, 110, 111, 124, 125] 148 0, []⟩)], [(.cell 0 1, .sl .sPartitionPlace), (.cell 0 2, .sl .sChannelPlace)], G0, (fun e => match e with | 121 => [(4, 3)] | _ => [])⟩
noncomputable def st41 (c : Config) : L41 → St
  | .l0 x0 x1 x2 => ⟨mkE [(1, .ref 0 0), (2, .ref 1 0), (4, .fn (.func 89) [] [.ref 2 0]), (5, .ref 3 0), (29, .v (.int .i64 c.partitions.length)), (30, .v (.int .i64 x0))] 148 0, [.cells 26 [.v (.int .i64 c.frames), .v (.int .i64 c.major), .v (.int .i64 c.kernel), .v (.int .i64 c.room), .sl (.sl .sWindow) c.cores, .sl .sPartition c.partitions, .sl .sChannel c.channels], .cells 100 [.v (.int .i64 0), .v (.slice none 0 0), .v (.slice none 0 0), .v (.int .i64 0)], .cells 3 [.v (.int .i64 x1)], .cells 100 [.v (.int .i64 ((sp89 2 (sp69 (IntKind.i64.wrap (c.kernel * 16)))).1)), .own 4, .v (.slice none 0 0), .v (.int .i64 0)], .row 121 .sPartitionPlace [(4, 3)] none x2], GL, 0, [], (fun e => match e with | 121 => [(4, 3)] | _ => [])⟩
  | .l4 x2 x0 x1 x3 => ⟨mkE [(1, .ref 0 0), (2, .ref 1 0), (4, .fn (.func 89) [] [.ref 2 0]), (5, .ref 3 0), (46, .sl .sChannel c.channels), (47, .v (.int .i64 c.channels.length)), (48, .v (.int .i64 x2))] 148 0, [.cells 26 [.v (.int .i64 c.frames), .v (.int .i64 c.major), .v (.int .i64 c.kernel), .v (.int .i64 c.room), .sl (.sl .sWindow) c.cores, .sl .sPartition c.partitions, .sl .sChannel c.channels], .cells 100 [.v (.int .i64 0), .v (.slice none 0 0), .v (.slice none 0 0), .v (.int .i64 0)], .cells 3 [.v (.int .i64 x0)], .cells 100 [.v (.int .i64 ((sp89 2 (sp69 (IntKind.i64.wrap (c.kernel * 16)))).1)), .own 4, .own 5, .v (.int .i64 0)], .row 121 .sPartitionPlace [(4, 3)] none x1, .arr 129 .sChannelPlace x3], GL, 0, [], (fun e => match e with | 121 => [(4, 3)] | _ => [])⟩
  | .l8 x6 x7 x4 x0 x1 x8 x9 x10 x11 x2 x3 x12 x13 x5 x14 => ⟨mkE [(1, .ref 0 0), (2, .ref 1 0), (4, .fn (.func 89) [] [.ref 2 0]), (5, .ref 3 0), (7, .ref 6 0), (10, .ref 7 0), (46, .sl .sChannel c.channels), (47, .v (.int .i64 c.channels.length)), (48, .v (.int .i64 x6)), (74, .own 9), (75, .v (.int .i64 x7)), (76, .v (.int .i64 x4))] 148 0, [.cells 26 [.v (.int .i64 c.frames), .v (.int .i64 c.major), .v (.int .i64 c.kernel), .v (.int .i64 c.room), .sl (.sl .sWindow) c.cores, .sl .sPartition c.partitions, .sl .sChannel c.channels], .cells 100 [.v (.int .i64 0), .v (.slice none 0 0), .v (.slice none 0 0), .v (.int .i64 0)], .cells 3 [.v (.int .i64 x0)], .cells 100 [.v (.int .i64 ((sp89 2 (sp69 (IntKind.i64.wrap (c.kernel * 16)))).1)), .own 4, .own 5, .v (.int .i64 0)], .row 121 .sPartitionPlace [(4, 3)] none x1, .arr 129 .sChannelPlace x8, .cells 53 [.v (.int .i64 x9), .v (.int .i64 x10), .v (.int .i64 x11)], .cells 129 [.v (.int .i64 x2), .v (.int .i64 x3), .v (.int .i64 x12), .v (.int .i64 x13), .own 8], .arr 131 .sDestPlace x5, .arr 126 .sLayoutEnd x14], GL, 0, [], (fun e => match e with | 121 => [(4, 3)] | _ => [])⟩
  | .l12 x2 x0 x3 x1 => ⟨mkE [(2, .ref 0 0), (5, .ref 1 0), (13, .fn (.func 89) [] [.ref 4 0]), (109, .sl .sPartition c.partitions), (110, .v (.int .i64 c.partitions.length)), (111, .v (.int .i64 x2))] 148 0, [.cells 100 [.v (.int .i64 0), .v (.slice none 0 0), .v (.slice none 0 0), .v (.int .i64 0)], .cells 100 [.v (.int .i64 ((sp89 2 (sp69 (IntKind.i64.wrap (c.kernel * 16)))).1)), .own 2, .own 3, .v (.int .i64 0)], .row 121 .sPartitionPlace [(4, 3)] none x0, .arr 129 .sChannelPlace x3, .cells 3 [.v (.int .i64 x1)]], GL, 0, [], (fun e => match e with | 121 => [(4, 3)] | _ => [])⟩
  | .l16 x3 x4 x5 x2 x0 x6 x1 => ⟨mkE [(2, .ref 0 0), (5, .ref 1 0), (13, .fn (.func 89) [] [.ref 4 0]), (14, .v (.int .i64 x3)), (109, .sl .sPartition c.partitions), (110, .v (.int .i64 c.partitions.length)), (111, .v (.int .i64 x4)), (124, .v (.int .i64 x5)), (125, .v (.int .i64 x2))] 148 0, [.cells 100 [.v (.int .i64 0), .v (.slice none 0 0), .v (.slice none 0 0), .v (.int .i64 0)], .cells 100 [.v (.int .i64 ((sp89 2 (sp69 (IntKind.i64.wrap (c.kernel * 16)))).1)), .own 2, .own 3, .v (.int .i64 0)], .row 121 .sPartitionPlace [(4, 3)] none x0, .arr 129 .sChannelPlace x6, .cells 3 [.v (.int .i64 x1)]], GL, 0, [], (fun e => match e with | 121 => [(4, 3)] | _ => [])⟩
noncomputable def bod41 {R : Type} (ret : R41 → R) (c : Config) (j : L41 → Option R) : L41 → Option R
  | .l0 x0 x1 x2 => cond (decide ((x0 : Int) < c.partitions.length))
    (cond (leB (((x2 : List PartitionPlace).length + ([(⟨(sp89 2 x1).1, (sp89 17 ((sp89 2 x1).2)).1, (sp89 5 ((sp89 17 ((sp89 2 x1).2)).2)).1, 0, []⟩ : PartitionPlace)] : List PartitionPlace).length) * 56) 140737488355328) (
      j (.l0 (IntKind.i64.wrap (x0 + 1)) ((sp89 5 ((sp89 17 ((sp89 2 x1).2)).2)).2) ((x2 : List PartitionPlace) ++ [(⟨(sp89 2 x1).1, (sp89 17 ((sp89 2 x1).2)).1, (sp89 5 ((sp89 17 ((sp89 2 x1).2)).2)).1, 0, []⟩ : PartitionPlace)]))) none)
    (j (.l4 0 x1 x2 []))
  | .l4 x2 x0 x1 x3 => cond (decide ((x2 : Int) < c.channels.length))
    (cond (inR x2 c.channels.length) (
      cond (spc70 c x2) (
        cond (inR 0 ((sp70 c x2).1).length) (
          cond (inR 0 ((sp70 c x2).1).length) (
            j (.l8 x2 (((sp70 c x2).2).length) 0 ((sp89 (sp71 (atChannel c.channels x2.toNat)) ((sp89 2 x0).2)).2) x1 x3 ((atChannel c.channels x2.toNat).kind) ((atChannel c.channels x2.toNat).words) ((atChannel c.channels x2.toNat).depth) ((sp89 2 x0).1) ((sp89 (sp71 (atChannel c.channels x2.toNat)) ((sp89 2 x0).2)).1) ((atLayoutEnd ((sp70 c x2).1) 0).partition) ((atLayoutEnd ((sp70 c x2).1) 0).port) [] ((sp70 c x2).2))) none) none) none) none)
    (j (.l12 0 x1 x3 (sp69 (bop .quo .i64 (IntKind.i64.wrap ((IntKind.i64.wrap ((sp89 0 x0).1 + 16)) - 1)) 16))))
  | .l8 x6 x7 x4 x0 x1 x8 x9 x10 x11 x2 x3 x12 x13 x5 x14 => cond (decide ((x4 : Int) < x7))
    (cond (inR x4 x14.length) (
      cond (leB (((x5 : List DestPlace).length + ([(⟨(atLayoutEnd x14 x4.toNat).partition, (atLayoutEnd x14 x4.toNat).port, (sp89 (sp72 (⟨x9, x10, x11⟩ : Channel)) x0).1⟩ : DestPlace)] : List DestPlace).length) * 24) 140737488355328) (
        j (.l8 x6 x7 (IntKind.i64.wrap (x4 + 1)) ((sp89 (sp72 (⟨x9, x10, x11⟩ : Channel)) x0).2) x1 x8 x9 x10 x11 x2 x3 x12 x13 ((x5 : List DestPlace) ++ [(⟨(atLayoutEnd x14 x4.toNat).partition, (atLayoutEnd x14 x4.toNat).port, (sp89 (sp72 (⟨x9, x10, x11⟩ : Channel)) x0).1⟩ : DestPlace)]) x14)) none) none)
    (cond (leB (((x8 : List ChannelPlace).length + ([(⟨x2, x3, x12, x13, x5⟩ : ChannelPlace)] : List ChannelPlace).length) * 56) 140737488355328) (j (.l4 (IntKind.i64.wrap (x6 + 1)) x0 x1 ((x8 : List ChannelPlace) ++ [(⟨x2, x3, x12, x13, x5⟩ : ChannelPlace)]))) none)
  | .l12 x2 x0 x3 x1 => cond (decide ((x2 : Int) < c.partitions.length))
    (cond (inR x2 c.partitions.length) (
      cond (inR x2 x0.length) (
        cond (spc73 (atPartition c.partitions x2.toNat)) (
          j (.l16 x2 x2 (sp73 (atPartition c.partitions x2.toNat)) 0 (List.set x0 x2.toNat (⟨(atPartitionPlace x0 x2.toNat).lock, (atPartitionPlace x0 x2.toNat).save, (atPartitionPlace x0 x2.toNat).state, (sp89 1 x1).1, (atPartitionPlace x0 x2.toNat).tables⟩ : PartitionPlace)) x3 ((sp89 1 x1).2))) none) none) none)
    (some (ret ((⟨(sp89 2 (sp69 (IntKind.i64.wrap (c.kernel * 16)))).1, x0, x3, (sp89 0 x1).1⟩ : Layout), 0)))
  | .l16 x3 x4 x5 x2 x0 x6 x1 => cond (decide ((x2 : Int) < x5))
    (cond (inR x3 x0.length) (
      cond (leB ((((atPartitionPlace x0 x3.toNat).tables : List Int).length + ([(sp89 1 x1).1] : List Int).length) * 8) 140737488355328) (
        cond (inR x3 x0.length) (
          cond (Nat.beq x3.toNat x3.toNat) (
            j (.l16 x3 x4 x5 (IntKind.i64.wrap (x2 + 1)) (List.set x0 x3.toNat (⟨(atPartitionPlace x0 x3.toNat).lock, (atPartitionPlace x0 x3.toNat).save, (atPartitionPlace x0 x3.toNat).state, (atPartitionPlace x0 x3.toNat).root, (((atPartitionPlace x0 x3.toNat).tables : List Int) ++ [(sp89 1 x1).1])⟩ : PartitionPlace)) x6 ((sp89 1 x1).2))) none) none) none) none)
    (j (.l12 (IntKind.i64.wrap (x4 + 1)) x0 x6 x1))
noncomputable def ent41 {R : Type} (ret : R41 → R) (c : Config) (j : L41 → Option R) : Option R :=
    cond (spc68 c) (
    cond (!(sp68 c))
      (some (ret ((⟨0, [], [], 0⟩ : Layout), 150)))
      (j (.l0 0 ((sp89 2 (sp69 (IntKind.i64.wrap (c.kernel * 16)))).2) []))) none
theorem head41_0 (J : Jmp) (c : Config) (x0 : Int) (x1 : Int) (x2 : List PartitionPlace) : stepAt Pr GF H41 J 0 0 (bodyOf Tryd.f41) (fin Pr H41 Tryd.f41) (st41 c (.l0 x0 x1 x2)) = bod41 to41 c (fun l => J (num41 l) (st41 c l)) (.l0 x0 x1 x2) := by kernel_rfl
theorem head41_4 (J : Jmp) (c : Config) (x2 : Int) (x0 : Int) (x1 : List PartitionPlace) (x3 : List ChannelPlace) : stepAt Pr GF H41 J 4 0 (bodyOf Tryd.f41) (fin Pr H41 Tryd.f41) (st41 c (.l4 x2 x0 x1 x3)) = bod41 to41 c (fun l => J (num41 l) (st41 c l)) (.l4 x2 x0 x1 x3) := by kernel_rfl
theorem head41_8 (J : Jmp) (c : Config) (x6 : Int) (x7 : Int) (x4 : Int) (x0 : Int) (x1 : List PartitionPlace) (x8 : List ChannelPlace) (x9 : Int) (x10 : Int) (x11 : Int) (x2 : Int) (x3 : Int) (x12 : Int) (x13 : Int) (x5 : List DestPlace) (x14 : List LayoutEnd) : stepAt Pr GF H41 J 8 0 (bodyOf Tryd.f41) (fin Pr H41 Tryd.f41) (st41 c (.l8 x6 x7 x4 x0 x1 x8 x9 x10 x11 x2 x3 x12 x13 x5 x14)) = bod41 to41 c (fun l => J (num41 l) (st41 c l)) (.l8 x6 x7 x4 x0 x1 x8 x9 x10 x11 x2 x3 x12 x13 x5 x14) := by kernel_rfl
theorem head41_12 (J : Jmp) (c : Config) (x2 : Int) (x0 : List PartitionPlace) (x3 : List ChannelPlace) (x1 : Int) : stepAt Pr GF H41 J 12 0 (bodyOf Tryd.f41) (fin Pr H41 Tryd.f41) (st41 c (.l12 x2 x0 x3 x1)) = bod41 to41 c (fun l => J (num41 l) (st41 c l)) (.l12 x2 x0 x3 x1) := by kernel_rfl
theorem head41_16 (J : Jmp) (c : Config) (x3 : Int) (x4 : Int) (x5 : Int) (x2 : Int) (x0 : List PartitionPlace) (x6 : List ChannelPlace) (x1 : Int) : stepAt Pr GF H41 J 16 0 (bodyOf Tryd.f41) (fin Pr H41 Tryd.f41) (st41 c (.l16 x3 x4 x5 x2 x0 x6 x1)) = bod41 to41 c (fun l => J (num41 l) (st41 c l)) (.l16 x3 x4 x5 x2 x0 x6 x1) := by kernel_rfl
theorem run41 (J : Jmp) (c : Config) : runF Pr GF H41 J GL Tryd.f41 [.agg [.v (.int .i64 c.frames), .v (.int .i64 c.major), .v (.int .i64 c.kernel), .v (.int .i64 c.room), .sl (.sl .sWindow) c.cores, .sl .sPartition c.partitions, .sl .sChannel c.channels]] [] = ent41 to41 c (fun l => J (num41 l) (st41 c l)) := by kernel_rfl
theorem shad41 (c : Config) : ∀ (n : Nat) (l : L41), runL Pr GF H41 Tryd.f41 n (num41 l) (st41 c l) = shad (bod41 to41 c) n l
  | 0, l => by cases l <;> rfl
  | n + 1, l => by
    have ih : (fun l => runL Pr GF H41 Tryd.f41 n (num41 l) (st41 c l)) = shad (bod41 to41 c) n := funext (shad41 c n)
    cases l with
    | l0 x0 x1 x2 => exact (step_eq ..).trans ((head41_0 ..).trans (by rw [ih]; rfl))
    | l4 x2 x0 x1 x3 => exact (step_eq ..).trans ((head41_4 ..).trans (by rw [ih]; rfl))
    | l8 x6 x7 x4 x0 x1 x8 x9 x10 x11 x2 x3 x12 x13 x5 x14 => exact (step_eq ..).trans ((head41_8 ..).trans (by rw [ih]; rfl))
    | l12 x2 x0 x3 x1 => exact (step_eq ..).trans ((head41_12 ..).trans (by rw [ih]; rfl))
    | l16 x3 x4 x5 x2 x0 x6 x1 => exact (step_eq ..).trans ((head41_16 ..).trans (by rw [ih]; rfl))
theorem nat41 (c : Config) (s : L41 → Option R41) (l : L41) : bod41 to41 c (fun l => (s l).map to41) l = (bod41 id c s l).map to41 := by
  cases l <;> simp only [bod41, map_cond, Option.map_some, Option.map_none, id]
theorem ct41 (c : Config) (l : L41) : CT fun j => bod41 id c j l := by
  cases l <;> (dsimp only [bod41]; repeat (first | exact CT.jump _ | exact CT.const _ | apply CT.cond))
/-- layout.Of, from a head on. -/
noncomputable def spL41 (c : Config) : L41 → Option R41 := lfp (bod41 id c)
theorem spL41_eq (c : Config) (l : L41) : spL41 c l = bod41 id c (spL41 c) l := lfp_eq (ct41 c) l
/-- layout.Of -/
noncomputable def spO41 (c : Config) : Option R41 := ent41 id c (spL41 c)
noncomputable def sp41 (c : Config) : R41 := (spO41 c).getD default
noncomputable def spc41 (c : Config) : Bool := (spO41 c).isSome
theorem oks41 (c : Config) (hc : spc41 c = true) : Okay Pr GL 41 [.agg [.v (.int .i64 c.frames), .v (.int .i64 c.major), .v (.int .i64 c.kernel), .v (.int .i64 c.room), .sl (.sl .sWindow) c.cores, .sl .sPartition c.partitions, .sl .sChannel c.channels]] [] (to41 (sp41 c)) := by
  obtain ⟨n, h⟩ := auto_ok (nat41 c) (fun s => show ent41 to41 c (fun l => (s l).map to41) = (ent41 id c s).map to41 by simp only [ent41, map_cond, Option.map_some, Option.map_none, id]) (ct41 c) (show CT fun j => ent41 id c j by dsimp only [ent41]; repeat (first | exact CT.jump _ | exact CT.const _ | apply CT.cond)) (isSome_getD hc)
  exact okay_of_run (H := H41) GFok G0ok Tryd.func41 rfl (by kernel_rfl) n (by
    rw [run41]
    rw [show (fun l => runL Pr GF H41 Tryd.f41 n (num41 l) (st41 c l)) = shad (bod41 to41 c) n from funext (shad41 c n)]
    exact h)

/-! ### ref15.Of -/
abbrev R47 := Layout × Int
def to47 (r : R47) : Ans := ⟨.tup [.agg [.v (.int .i64 r.1.barrier), .sl .sPartitionPlace r.1.partitions, .sl .sChannelPlace r.1.channels, .v (.int .i64 r.1.end_)], .v (.int .i64 r.2)], []⟩
inductive L47 where
  | l0 (x0 : Int) (x1 : List ChannelPlace)
  | l4 (x0 : Int) (x1 : Int) (x2 : Int) (x3 : Int) (x4 : List PartitionPlace) (x5 : List ChannelPlace)
  | l81 (x2 : Int) (x4 : Int) (x5 : Int) (x0 : Int) (x1 : List PartitionPlace) (x3 : List ChannelPlace)
def num47 : L47 → Nat
  | .l0 _ _ => 0
  | .l4 _ _ _ _ _ _ => 4
  | .l81 _ _ _ _ _ _ => 81
def H47 : Hint := ⟨fun n => [40].any (Nat.beq n), hdAt [(0, ⟨fgt [1, 2, 4, 29, 30] 190 0, []⟩), (4, ⟨fgt [2, 4, 8, 9, 10, 58, 59] 190 0, []⟩), (81, ⟨fgt [2, 4, 8, 9, 10, 58, 59] 190 0, []⟩)], [(.cell 0 1, .sl .sPartitionPlace), (.cell 0 2, .sl .sChannelPlace)], G0, (fun e => match e with | 121 => [(4, 3)] | 129 => [(4, 131)] | _ => [])⟩
noncomputable def st47 (c : Config) : L47 → St
  | .l0 x0 x1 => ⟨mkE [(1, .ref 0 0), (2, .ref 1 0), (4, .ref 2 0), (29, .v (.int .i64 c.channels.length)), (30, .v (.int .i64 x0))] 190 0, [.cells 26 [.v (.int .i64 c.frames), .v (.int .i64 c.major), .v (.int .i64 c.kernel), .v (.int .i64 c.room), .sl (.sl .sWindow) c.cores, .sl .sPartition c.partitions, .sl .sChannel c.channels], .cells 100 [.v (.int .i64 0), .v (.slice none 0 0), .v (.slice none 0 0), .v (.int .i64 0)], .cells 100 [.v (.int .i64 0), .own 3, .own 4, .v (.int .i64 0)], .row 121 .sPartitionPlace [(4, 3)] none (List.replicate (c.partitions.length : Int).toNat (⟨0, 0, 0, 0, []⟩ : PartitionPlace)), .row 129 .sChannelPlace [(4, 131)] none x1], GL, 0, [], (fun e => match e with | 121 => [(4, 3)] | 129 => [(4, 131)] | _ => [])⟩
  | .l4 x0 x1 x2 x3 x4 x5 => ⟨mkE [(2, .ref 0 0), (4, .ref 1 0), (8, .v (.int .i64 x0)), (9, .own 4), (10, .v (.int .i64 x1)), (58, .v (.int .i64 ((sp38 c).length))), (59, .v (.int .i64 x2))] 190 0, [.cells 100 [.v (.int .i64 0), .v (.slice none 0 0), .v (.slice none 0 0), .v (.int .i64 0)], .cells 100 [.v (.int .i64 x3), .own 2, .own 3, .v (.int .i64 0)], .row 121 .sPartitionPlace [(4, 3)] none x4, .row 129 .sChannelPlace [(4, 131)] none x5, .arr 87 .sBulkheadref15Piece (sp38 c)], GL, 0, [], (fun e => match e with | 121 => [(4, 3)] | 129 => [(4, 131)] | _ => [])⟩
  | .l81 x2 x4 x5 x0 x1 x3 => ⟨mkE [(2, .ref 0 0), (4, .ref 1 0), (8, .v (.int .i64 x2)), (9, .own 4), (10, .v (.int .i64 x4)), (58, .v (.int .i64 ((sp38 c).length))), (59, .v (.int .i64 x5))] 190 0, [.cells 100 [.v (.int .i64 0), .v (.slice none 0 0), .v (.slice none 0 0), .v (.int .i64 0)], .cells 100 [.v (.int .i64 x0), .own 2, .own 3, .v (.int .i64 0)], .row 121 .sPartitionPlace [(4, 3)] none x1, .row 129 .sChannelPlace [(4, 131)] none x3, .arr 87 .sBulkheadref15Piece (sp38 c)], GL, 0, [], (fun e => match e with | 121 => [(4, 3)] | 129 => [(4, 131)] | _ => [])⟩
noncomputable def bod47 {R : Type} (ret : R47 → R) (c : Config) (j : L47 → Option R) : L47 → Option R
  | .l0 x0 x1 => cond (decide ((x0 : Int) < c.channels.length))
    (cond (spc76 c x0) (
      cond (inR x0 x1.length) (
        cond (inR x0 (List.set x1 x0.toNat (⟨(atChannelPlace x1 x0.toNat).lock, (atChannelPlace x1 x0.toNat).stage, (sp76 c x0).1, (atChannelPlace x1 x0.toNat).port, (atChannelPlace x1 x0.toNat).dests⟩ : ChannelPlace)).length) (
          j (.l0 (IntKind.i64.wrap (x0 + 1)) (List.set (List.set x1 x0.toNat (⟨(atChannelPlace x1 x0.toNat).lock, (atChannelPlace x1 x0.toNat).stage, (sp76 c x0).1, (atChannelPlace x1 x0.toNat).port, (atChannelPlace x1 x0.toNat).dests⟩ : ChannelPlace)) x0.toNat (⟨(atChannelPlace (List.set x1 x0.toNat (⟨(atChannelPlace x1 x0.toNat).lock, (atChannelPlace x1 x0.toNat).stage, (sp76 c x0).1, (atChannelPlace x1 x0.toNat).port, (atChannelPlace x1 x0.toNat).dests⟩ : ChannelPlace)) x0.toNat).lock, (atChannelPlace (List.set x1 x0.toNat (⟨(atChannelPlace x1 x0.toNat).lock, (atChannelPlace x1 x0.toNat).stage, (sp76 c x0).1, (atChannelPlace x1 x0.toNat).port, (atChannelPlace x1 x0.toNat).dests⟩ : ChannelPlace)) x0.toNat).stage, (atChannelPlace (List.set x1 x0.toNat (⟨(atChannelPlace x1 x0.toNat).lock, (atChannelPlace x1 x0.toNat).stage, (sp76 c x0).1, (atChannelPlace x1 x0.toNat).port, (atChannelPlace x1 x0.toNat).dests⟩ : ChannelPlace)) x0.toNat).partition, (sp76 c x0).2, (atChannelPlace (List.set x1 x0.toNat (⟨(atChannelPlace x1 x0.toNat).lock, (atChannelPlace x1 x0.toNat).stage, (sp76 c x0).1, (atChannelPlace x1 x0.toNat).port, (atChannelPlace x1 x0.toNat).dests⟩ : ChannelPlace)) x0.toNat).dests⟩ : ChannelPlace)))) none) none) none)
    (cond (spc38 c) (
      j (.l4 0 (IntKind.i64.wrap (16 * c.kernel)) 0 0 (List.replicate (c.partitions.length : Int).toNat (⟨0, 0, 0, 0, []⟩ : PartitionPlace)) x1)) none)
  | .l4 x0 x1 x2 x3 x4 x5 => cond (decide ((x2 : Int) < (sp38 c).length))
    (cond (inR x2 (sp38 c).length) (
      cond (((atBulkheadref15Piece (sp38 c) x2.toNat).owner.kind : Int) == 2)
        (j (.l81 x0 (IntKind.i64.wrap ((atBulkheadref15Piece (sp38 c) x2.toNat).at_ + (atBulkheadref15Piece (sp38 c) x2.toNat).size)) x2 ((atBulkheadref15Piece (sp38 c) x2.toNat).at_) x4 x5))
        (cond (((atBulkheadref15Piece (sp38 c) x2.toNat).owner.kind : Int) == 3)
          (cond (inR ((atBulkheadref15Piece (sp38 c) x2.toNat).owner.index) x4.length) (
            j (.l81 x0 (IntKind.i64.wrap ((atBulkheadref15Piece (sp38 c) x2.toNat).at_ + (atBulkheadref15Piece (sp38 c) x2.toNat).size)) x2 x3 (List.set x4 (((atBulkheadref15Piece (sp38 c) x2.toNat).owner.index).toNat) (⟨(atBulkheadref15Piece (sp38 c) x2.toNat).at_, (atPartitionPlace x4 (((atBulkheadref15Piece (sp38 c) x2.toNat).owner.index).toNat)).save, (atPartitionPlace x4 (((atBulkheadref15Piece (sp38 c) x2.toNat).owner.index).toNat)).state, (atPartitionPlace x4 (((atBulkheadref15Piece (sp38 c) x2.toNat).owner.index).toNat)).root, (atPartitionPlace x4 (((atBulkheadref15Piece (sp38 c) x2.toNat).owner.index).toNat)).tables⟩ : PartitionPlace)) x5)) none)
          (cond (((atBulkheadref15Piece (sp38 c) x2.toNat).owner.kind : Int) == 4)
            (cond (inR ((atBulkheadref15Piece (sp38 c) x2.toNat).owner.index) x4.length) (
              j (.l81 x0 (IntKind.i64.wrap ((atBulkheadref15Piece (sp38 c) x2.toNat).at_ + (atBulkheadref15Piece (sp38 c) x2.toNat).size)) x2 x3 (List.set x4 (((atBulkheadref15Piece (sp38 c) x2.toNat).owner.index).toNat) (⟨(atPartitionPlace x4 (((atBulkheadref15Piece (sp38 c) x2.toNat).owner.index).toNat)).lock, (atBulkheadref15Piece (sp38 c) x2.toNat).at_, (atPartitionPlace x4 (((atBulkheadref15Piece (sp38 c) x2.toNat).owner.index).toNat)).state, (atPartitionPlace x4 (((atBulkheadref15Piece (sp38 c) x2.toNat).owner.index).toNat)).root, (atPartitionPlace x4 (((atBulkheadref15Piece (sp38 c) x2.toNat).owner.index).toNat)).tables⟩ : PartitionPlace)) x5)) none)
            (cond (((atBulkheadref15Piece (sp38 c) x2.toNat).owner.kind : Int) == 5)
              (cond (inR ((atBulkheadref15Piece (sp38 c) x2.toNat).owner.index) x4.length) (
                j (.l81 x0 (IntKind.i64.wrap ((atBulkheadref15Piece (sp38 c) x2.toNat).at_ + (atBulkheadref15Piece (sp38 c) x2.toNat).size)) x2 x3 (List.set x4 (((atBulkheadref15Piece (sp38 c) x2.toNat).owner.index).toNat) (⟨(atPartitionPlace x4 (((atBulkheadref15Piece (sp38 c) x2.toNat).owner.index).toNat)).lock, (atPartitionPlace x4 (((atBulkheadref15Piece (sp38 c) x2.toNat).owner.index).toNat)).save, (atBulkheadref15Piece (sp38 c) x2.toNat).at_, (atPartitionPlace x4 (((atBulkheadref15Piece (sp38 c) x2.toNat).owner.index).toNat)).root, (atPartitionPlace x4 (((atBulkheadref15Piece (sp38 c) x2.toNat).owner.index).toNat)).tables⟩ : PartitionPlace)) x5)) none)
              (cond (((atBulkheadref15Piece (sp38 c) x2.toNat).owner.kind : Int) == 6)
                (cond (inR ((atBulkheadref15Piece (sp38 c) x2.toNat).owner.index) x5.length) (
                  j (.l81 ((atBulkheadref15Piece (sp38 c) x2.toNat).owner.index) (IntKind.i64.wrap ((atBulkheadref15Piece (sp38 c) x2.toNat).at_ + (atBulkheadref15Piece (sp38 c) x2.toNat).size)) x2 x3 x4 (List.set x5 (((atBulkheadref15Piece (sp38 c) x2.toNat).owner.index).toNat) (⟨(atBulkheadref15Piece (sp38 c) x2.toNat).at_, (atChannelPlace x5 (((atBulkheadref15Piece (sp38 c) x2.toNat).owner.index).toNat)).stage, (atChannelPlace x5 (((atBulkheadref15Piece (sp38 c) x2.toNat).owner.index).toNat)).partition, (atChannelPlace x5 (((atBulkheadref15Piece (sp38 c) x2.toNat).owner.index).toNat)).port, (atChannelPlace x5 (((atBulkheadref15Piece (sp38 c) x2.toNat).owner.index).toNat)).dests⟩ : ChannelPlace)))) none)
                (cond (((atBulkheadref15Piece (sp38 c) x2.toNat).owner.kind : Int) == 7)
                  (cond (inR ((atBulkheadref15Piece (sp38 c) x2.toNat).owner.index) x5.length) (
                    j (.l81 x0 (IntKind.i64.wrap ((atBulkheadref15Piece (sp38 c) x2.toNat).at_ + (atBulkheadref15Piece (sp38 c) x2.toNat).size)) x2 x3 x4 (List.set x5 (((atBulkheadref15Piece (sp38 c) x2.toNat).owner.index).toNat) (⟨(atChannelPlace x5 (((atBulkheadref15Piece (sp38 c) x2.toNat).owner.index).toNat)).lock, (atBulkheadref15Piece (sp38 c) x2.toNat).at_, (atChannelPlace x5 (((atBulkheadref15Piece (sp38 c) x2.toNat).owner.index).toNat)).partition, (atChannelPlace x5 (((atBulkheadref15Piece (sp38 c) x2.toNat).owner.index).toNat)).port, (atChannelPlace x5 (((atBulkheadref15Piece (sp38 c) x2.toNat).owner.index).toNat)).dests⟩ : ChannelPlace)))) none)
                  (cond (((atBulkheadref15Piece (sp38 c) x2.toNat).owner.kind : Int) == 8)
                    (cond (inR x0 x5.length) (
                      cond (leB ((((atChannelPlace x5 x0.toNat).dests : List DestPlace).length + ([(⟨(atBulkheadref15Piece (sp38 c) x2.toNat).owner.index, (atBulkheadref15Piece (sp38 c) x2.toNat).owner.port, (atBulkheadref15Piece (sp38 c) x2.toNat).at_⟩ : DestPlace)] : List DestPlace).length) * 24) 140737488355328) (
                        cond (inR x0 x5.length) (
                          cond (Nat.beq x0.toNat x0.toNat) (
                            j (.l81 x0 (IntKind.i64.wrap ((atBulkheadref15Piece (sp38 c) x2.toNat).at_ + (atBulkheadref15Piece (sp38 c) x2.toNat).size)) x2 x3 x4 (List.set x5 x0.toNat (⟨(atChannelPlace x5 x0.toNat).lock, (atChannelPlace x5 x0.toNat).stage, (atChannelPlace x5 x0.toNat).partition, (atChannelPlace x5 x0.toNat).port, (((atChannelPlace x5 x0.toNat).dests : List DestPlace) ++ [(⟨(atBulkheadref15Piece (sp38 c) x2.toNat).owner.index, (atBulkheadref15Piece (sp38 c) x2.toNat).owner.port, (atBulkheadref15Piece (sp38 c) x2.toNat).at_⟩ : DestPlace)])⟩ : ChannelPlace)))) none) none) none) none)
                    (cond (((atBulkheadref15Piece (sp38 c) x2.toNat).owner.kind : Int) == 9)
                      (cond (inR ((atBulkheadref15Piece (sp38 c) x2.toNat).owner.index) x4.length) (
                        cond (((atPartitionPlace x4 (((atBulkheadref15Piece (sp38 c) x2.toNat).owner.index).toNat)).root : Int) == 0)
                          (cond (inR ((atBulkheadref15Piece (sp38 c) x2.toNat).owner.index) x4.length) (
                            j (.l81 x0 (IntKind.i64.wrap ((atBulkheadref15Piece (sp38 c) x2.toNat).at_ + (atBulkheadref15Piece (sp38 c) x2.toNat).size)) x2 x3 (List.set x4 (((atBulkheadref15Piece (sp38 c) x2.toNat).owner.index).toNat) (⟨(atPartitionPlace x4 (((atBulkheadref15Piece (sp38 c) x2.toNat).owner.index).toNat)).lock, (atPartitionPlace x4 (((atBulkheadref15Piece (sp38 c) x2.toNat).owner.index).toNat)).save, (atPartitionPlace x4 (((atBulkheadref15Piece (sp38 c) x2.toNat).owner.index).toNat)).state, (bop .quo .i64 ((atBulkheadref15Piece (sp38 c) x2.toNat).at_) 16), (atPartitionPlace x4 (((atBulkheadref15Piece (sp38 c) x2.toNat).owner.index).toNat)).tables⟩ : PartitionPlace)) x5)) none)
                          (cond (inR ((atBulkheadref15Piece (sp38 c) x2.toNat).owner.index) x4.length) (
                            cond (leB ((((atPartitionPlace x4 (((atBulkheadref15Piece (sp38 c) x2.toNat).owner.index).toNat)).tables : List Int).length + ([(bop .quo .i64 ((atBulkheadref15Piece (sp38 c) x2.toNat).at_) 16)] : List Int).length) * 8) 140737488355328) (
                              cond (inR ((atBulkheadref15Piece (sp38 c) x2.toNat).owner.index) x4.length) (
                                cond (Nat.beq (((atBulkheadref15Piece (sp38 c) x2.toNat).owner.index).toNat) (((atBulkheadref15Piece (sp38 c) x2.toNat).owner.index).toNat)) (
                                  j (.l81 x0 (IntKind.i64.wrap ((atBulkheadref15Piece (sp38 c) x2.toNat).at_ + (atBulkheadref15Piece (sp38 c) x2.toNat).size)) x2 x3 (List.set x4 (((atBulkheadref15Piece (sp38 c) x2.toNat).owner.index).toNat) (⟨(atPartitionPlace x4 (((atBulkheadref15Piece (sp38 c) x2.toNat).owner.index).toNat)).lock, (atPartitionPlace x4 (((atBulkheadref15Piece (sp38 c) x2.toNat).owner.index).toNat)).save, (atPartitionPlace x4 (((atBulkheadref15Piece (sp38 c) x2.toNat).owner.index).toNat)).state, (atPartitionPlace x4 (((atBulkheadref15Piece (sp38 c) x2.toNat).owner.index).toNat)).root, (((atPartitionPlace x4 (((atBulkheadref15Piece (sp38 c) x2.toNat).owner.index).toNat)).tables : List Int) ++ [(bop .quo .i64 ((atBulkheadref15Piece (sp38 c) x2.toNat).at_) 16)])⟩ : PartitionPlace)) x5)) none) none) none) none)) none)
                      (j (.l81 x0 (IntKind.i64.wrap ((atBulkheadref15Piece (sp38 c) x2.toNat).at_ + (atBulkheadref15Piece (sp38 c) x2.toNat).size)) x2 x3 x4 x5)))))))))) none)
    (some (ret ((⟨x3, x4, x5, (bop .quo .i64 (IntKind.i64.wrap ((IntKind.i64.wrap (x1 + 16)) - 1)) 16)⟩ : Layout), 0)))
  | .l81 x2 x4 x5 x0 x1 x3 => j (.l4 x2 x4 (IntKind.i64.wrap (x5 + 1)) x0 x1 x3)
noncomputable def ent47 {R : Type} (ret : R47 → R) (c : Config) (j : L47 → Option R) : Option R :=
    cond (spc37 c) (
    cond (!(sp37 c))
      (some (ret ((⟨0, [], [], 0⟩ : Layout), 150)))
      (cond (decide ((c.partitions.length : Int) = c.partitions.length) && decide (0 ≤ c.partitions.length) && leB ((c.partitions.length : Int).toNat * 56) 140737488355328) (
        cond (decide ((c.channels.length : Int) = c.channels.length) && decide (0 ≤ c.channels.length) && leB ((c.channels.length : Int).toNat * 56) 140737488355328) (j (.l0 0 (List.replicate (c.channels.length : Int).toNat (⟨0, 0, 0, 0, []⟩ : ChannelPlace)))) none) none)) none
theorem head47_0 (J : Jmp) (c : Config) (x0 : Int) (x1 : List ChannelPlace) : stepAt Pr GF H47 J 0 0 (bodyOf Tryd.f47) (fin Pr H47 Tryd.f47) (st47 c (.l0 x0 x1)) = bod47 to47 c (fun l => J (num47 l) (st47 c l)) (.l0 x0 x1) := by kernel_rfl
theorem head47_4 (J : Jmp) (c : Config) (x0 : Int) (x1 : Int) (x2 : Int) (x3 : Int) (x4 : List PartitionPlace) (x5 : List ChannelPlace) : stepAt Pr GF H47 J 4 0 (bodyOf Tryd.f47) (fin Pr H47 Tryd.f47) (st47 c (.l4 x0 x1 x2 x3 x4 x5)) = bod47 to47 c (fun l => J (num47 l) (st47 c l)) (.l4 x0 x1 x2 x3 x4 x5) := by kernel_rfl
theorem head47_81 (J : Jmp) (c : Config) (x2 : Int) (x4 : Int) (x5 : Int) (x0 : Int) (x1 : List PartitionPlace) (x3 : List ChannelPlace) : stepAt Pr GF H47 J 81 0 (bodyOf Tryd.f47) (fin Pr H47 Tryd.f47) (st47 c (.l81 x2 x4 x5 x0 x1 x3)) = bod47 to47 c (fun l => J (num47 l) (st47 c l)) (.l81 x2 x4 x5 x0 x1 x3) := by kernel_rfl
theorem run47 (J : Jmp) (c : Config) : runF Pr GF H47 J GL Tryd.f47 [.agg [.v (.int .i64 c.frames), .v (.int .i64 c.major), .v (.int .i64 c.kernel), .v (.int .i64 c.room), .sl (.sl .sWindow) c.cores, .sl .sPartition c.partitions, .sl .sChannel c.channels]] [] = ent47 to47 c (fun l => J (num47 l) (st47 c l)) := by kernel_rfl
theorem shad47 (c : Config) : ∀ (n : Nat) (l : L47), runL Pr GF H47 Tryd.f47 n (num47 l) (st47 c l) = shad (bod47 to47 c) n l
  | 0, l => by cases l <;> rfl
  | n + 1, l => by
    have ih : (fun l => runL Pr GF H47 Tryd.f47 n (num47 l) (st47 c l)) = shad (bod47 to47 c) n := funext (shad47 c n)
    cases l with
    | l0 x0 x1 => exact (step_eq ..).trans ((head47_0 ..).trans (by rw [ih]; rfl))
    | l4 x0 x1 x2 x3 x4 x5 => exact (step_eq ..).trans ((head47_4 ..).trans (by rw [ih]; rfl))
    | l81 x2 x4 x5 x0 x1 x3 => exact (step_eq ..).trans ((head47_81 ..).trans (by rw [ih]; rfl))
theorem nat47 (c : Config) (s : L47 → Option R47) (l : L47) : bod47 to47 c (fun l => (s l).map to47) l = (bod47 id c s l).map to47 := by
  cases l <;> simp only [bod47, map_cond, Option.map_some, Option.map_none, id]
theorem ct47 (c : Config) (l : L47) : CT fun j => bod47 id c j l := by
  cases l <;> (dsimp only [bod47]; repeat (first | exact CT.jump _ | exact CT.const _ | apply CT.cond))
/-- ref15.Of, from a head on. -/
noncomputable def spL47 (c : Config) : L47 → Option R47 := lfp (bod47 id c)
theorem spL47_eq (c : Config) (l : L47) : spL47 c l = bod47 id c (spL47 c) l := lfp_eq (ct47 c) l
/-- ref15.Of -/
noncomputable def spO47 (c : Config) : Option R47 := ent47 id c (spL47 c)
noncomputable def sp47 (c : Config) : R47 := (spO47 c).getD default
noncomputable def spc47 (c : Config) : Bool := (spO47 c).isSome
theorem oks47 (c : Config) (hc : spc47 c = true) : Okay Pr GL 47 [.agg [.v (.int .i64 c.frames), .v (.int .i64 c.major), .v (.int .i64 c.kernel), .v (.int .i64 c.room), .sl (.sl .sWindow) c.cores, .sl .sPartition c.partitions, .sl .sChannel c.channels]] [] (to47 (sp47 c)) := by
  obtain ⟨n, h⟩ := auto_ok (nat47 c) (fun s => show ent47 to47 c (fun l => (s l).map to47) = (ent47 id c s).map to47 by simp only [ent47, map_cond, Option.map_some, Option.map_none, id]) (ct47 c) (show CT fun j => ent47 id c j by dsimp only [ent47]; repeat (first | exact CT.jump _ | exact CT.const _ | apply CT.cond)) (isSome_getD hc)
  exact okay_of_run (H := H47) GFok G0ok Tryd.func47 rfl (by kernel_rfl) n (by
    rw [run47]
    rw [show (fun l => runL Pr GF H47 Tryd.f47 n (num47 l) (st47 c l)) = shad (bod47 to47 c) n from funext (shad47 c n)]
    exact h)

/-! ### slices.Index[[]*mem.Memory,*mem.Memory] -/
abbrev R39 := Int
def to39 (r : R39) : Ans := ⟨.v (.int .i64 r), []⟩
inductive L39 where
  | l0 (x0 : Int)
def num39 : L39 → Nat
  | .l0 _ => 0
def H39 : Hint := ⟨fun n => [].any (Nat.beq n), hdAt [(0, ⟨fgt [0, 1, 7, 8] 19 0, []⟩)], [], G0, nodp⟩
noncomputable def st39 (ms : (List (Option MemMemory))) : L39 → St
  | .l0 x0 => ⟨mkE [(0, .sl (.p .sMemMemory) ms), (1, .v (.pointer none)), (7, .v (.int .i64 ms.length)), (8, .v (.int .i64 x0))] 19 0, [], GL, 0, [], nodp⟩
noncomputable def bod39 {R : Type} (ret : R39 → R) (ms : (List (Option MemMemory))) (j : L39 → Option R) : L39 → Option R
  | .l0 x0 => cond (decide ((x0 : Int) < ms.length))
    (cond (inR x0 ms.length) (cond ((atPMemMemory ms x0.toNat).isNone)
        (some (ret x0))
        (j (.l0 (IntKind.i64.wrap (x0 + 1))))) none)
    (some (ret (-1)))
noncomputable def ent39 {R : Type} (ret : R39 → R) (ms : (List (Option MemMemory))) (j : L39 → Option R) : Option R :=
    j (.l0 0)
theorem head39_0 (J : Jmp) (ms : (List (Option MemMemory))) (x0 : Int) : stepAt Pr GF H39 J 0 0 (bodyOf Tryd.f39) (fin Pr H39 Tryd.f39) (st39 ms (.l0 x0)) = bod39 to39 ms (fun l => J (num39 l) (st39 ms l)) (.l0 x0) := by kernel_rfl
theorem run39 (J : Jmp) (ms : (List (Option MemMemory))) : runF Pr GF H39 J GL Tryd.f39 [.sl (.p .sMemMemory) ms, .v (.pointer none)] [] = ent39 to39 ms (fun l => J (num39 l) (st39 ms l)) := by kernel_rfl
theorem shad39 (ms : (List (Option MemMemory))) : ∀ (n : Nat) (l : L39), runL Pr GF H39 Tryd.f39 n (num39 l) (st39 ms l) = shad (bod39 to39 ms) n l
  | 0, l => by cases l <;> rfl
  | n + 1, l => by
    have ih : (fun l => runL Pr GF H39 Tryd.f39 n (num39 l) (st39 ms l)) = shad (bod39 to39 ms) n := funext (shad39 ms n)
    cases l with
    | l0 x0 => exact (step_eq ..).trans ((head39_0 ..).trans (by rw [ih]; rfl))
theorem nat39 (ms : (List (Option MemMemory))) (s : L39 → Option R39) (l : L39) : bod39 to39 ms (fun l => (s l).map to39) l = (bod39 id ms s l).map to39 := by
  cases l <;> simp only [bod39, map_cond, Option.map_some, Option.map_none, id]
theorem ct39 (ms : (List (Option MemMemory))) (l : L39) : CT fun j => bod39 id ms j l := by
  cases l <;> (dsimp only [bod39]; repeat (first | exact CT.jump _ | exact CT.const _ | apply CT.cond))
/-- slices.Index[[]*mem.Memory,*mem.Memory], from a head on. -/
noncomputable def spL39 (ms : (List (Option MemMemory))) : L39 → Option R39 := lfp (bod39 id ms)
theorem spL39_eq (ms : (List (Option MemMemory))) (l : L39) : spL39 ms l = bod39 id ms (spL39 ms) l := lfp_eq (ct39 ms) l
/-- slices.Index[[]*mem.Memory,*mem.Memory] -/
noncomputable def spO39 (ms : (List (Option MemMemory))) : Option R39 := ent39 id ms (spL39 ms)
noncomputable def sp39 (ms : (List (Option MemMemory))) : R39 := (spO39 ms).getD default
noncomputable def spc39 (ms : (List (Option MemMemory))) : Bool := (spO39 ms).isSome
theorem oks39 (ms : (List (Option MemMemory))) (hc : spc39 ms = true) : Okay Pr GL 39 [.sl (.p .sMemMemory) ms, .v (.pointer none)] [] (to39 (sp39 ms)) := by
  obtain ⟨n, h⟩ := auto_ok (nat39 ms) (fun s => show ent39 to39 ms (fun l => (s l).map to39) = (ent39 id ms s).map to39 by simp only [ent39, map_cond, Option.map_some, Option.map_none, id]) (ct39 ms) (show CT fun j => ent39 id ms j by dsimp only [ent39]; repeat (first | exact CT.jump _ | exact CT.const _ | apply CT.cond)) (isSome_getD hc)
  exact okay_of_run (H := H39) GFok G0ok Tryd.func39 rfl (by kernel_rfl) n (by
    rw [run39]
    rw [show (fun l => runL Pr GF H39 Tryd.f39 n (num39 l) (st39 ms l)) = shad (bod39 to39 ms) n from funext (shad39 ms n)]
    exact h)

noncomputable def g41 (args : List AV) (hp : List Blk) : Option (Bool × AV × List Blk) :=
  match hp, args with
  | [], [x0] => (rdS .sConfig x0).bind fun a0 => some ((spc41 a0), .tup [.agg [.v (.int .i64 ((sp41 a0).1.barrier)), .sl .sPartitionPlace ((sp41 a0).1.partitions), .sl .sChannelPlace ((sp41 a0).1.channels), .v (.int .i64 ((sp41 a0).1.end_))], .v (.int .i64 ((sp41 a0).2))], [])
  | _, _ => none
theorem g41_ok {args : List AV} {hp : List Blk} {b : Bool} {r : AV} {hp' : List Blk} (h : g41 args hp = some (b, r, hp')) (hb : b = true) : FnOk Pr 41 ∧ Okay Pr GL 41 args hp ⟨r, hp'⟩ := by
  unfold g41 at h
  split at h
  · simp only [Option.bind_eq_some_iff] at h
    obtain ⟨a0, h0, h⟩ := h
    cases h; exact ⟨fnok Tryd.func41 (by kernel_rfl) rfl, (oks41 a0 hb).ats (.cons (rdS_V h0) .nil)⟩
  · cases h
noncomputable def g47 (args : List AV) (hp : List Blk) : Option (Bool × AV × List Blk) :=
  match hp, args with
  | [], [x0] => (rdS .sConfig x0).bind fun a0 => some ((spc47 a0), .tup [.agg [.v (.int .i64 ((sp47 a0).1.barrier)), .sl .sPartitionPlace ((sp47 a0).1.partitions), .sl .sChannelPlace ((sp47 a0).1.channels), .v (.int .i64 ((sp47 a0).1.end_))], .v (.int .i64 ((sp47 a0).2))], [])
  | _, _ => none
theorem g47_ok {args : List AV} {hp : List Blk} {b : Bool} {r : AV} {hp' : List Blk} (h : g47 args hp = some (b, r, hp')) (hb : b = true) : FnOk Pr 47 ∧ Okay Pr GL 47 args hp ⟨r, hp'⟩ := by
  unfold g47 at h
  split at h
  · simp only [Option.bind_eq_some_iff] at h
    obtain ⟨a0, h0, h⟩ := h
    cases h; exact ⟨fnok Tryd.func47 (by kernel_rfl) rfl, (oks47 a0 hb).ats (.cons (rdS_V h0) .nil)⟩
  · cases h
noncomputable def g39 (args : List AV) (hp : List Blk) : Option (Bool × AV × List Blk) :=
  match args, hp with
  | [.sl (.p .sMemMemory) y0, .v (.pointer none)], [] => some ((spc39 y0), .v (.int .i64 (sp39 y0)), [])
  | _, _ => none
theorem g39_ok {args : List AV} {hp : List Blk} {b : Bool} {r : AV} {hp' : List Blk} (h : g39 args hp = some (b, r, hp')) (hb : b = true) : FnOk Pr 39 ∧ Okay Pr GL 39 args hp ⟨r, hp'⟩ := by
  unfold g39 at h
  split at h
  · cases h; exact ⟨fnok Tryd.func39 (by kernel_rfl) rfl, oks39 _ hb⟩
  · cases h
noncomputable def GG : Gam := fun c args hp => match c with
  | .f f => pick1 41 f (g41 args hp) (pick1 47 f (g47 args hp) (pick1 39 f (g39 args hp) (GF (.f f) args hp)))
  | .c x => GF (.c x) args hp
theorem GGok : GOk Pr GL GG := by
  intro c args hp b r hp' h hb
  cases c with
  | f f =>
    simp only [GG] at h
    rcases pick1_ok h with ⟨rfl, h⟩ | h
    · exact g41_ok h hb
    rcases pick1_ok h with ⟨rfl, h⟩ | h
    · exact g47_ok h hb
    rcases pick1_ok h with ⟨rfl, h⟩ | h
    · exact g39_ok h hb
    exact GFok (.f f) args hp b r hp' h hb
  | c x => exact GFok (.c x) args hp b r hp' h hb
end Go.Proofs.YthnkmndjhedgdaaDoor
