/- Shadows of functions (printed by pr2.py off the model's code; the kernel holds each equation to it), and what they answer. -/
import Derived.Test.YthnkmndjhedgdaaDoorP6
namespace Go.Proofs.YthnkmndjhedgdaaDoor
open Go.RowKit
set_option linter.unusedVariables false
set_option linter.unusedSimpArgs false
/-! ### layout.Need -/
abbrev R87 := Int × Int
def to87 (r : R87) : Ans := ⟨.tup [.v (.int .i64 r.1), .v (.int .i64 r.2)], []⟩
def H87 : Hint := ⟨fun _ => false, fun _ => ⟨[], []⟩, [], G0, nodp⟩
noncomputable def ent87 {R : Type} (ret : R87 → R) (c : Config) : Option R :=
    cond (spc41 c) (
    cond (!(((sp41 c).2 : Int) == 0))
      (some (ret (0, (sp41 c).2)))
      (some (ret ((IntKind.i64.wrap ((sp41 c).1.end_ - c.kernel)), 0)))) none
theorem run87 (J : Jmp) (c : Config) : runF Pr GG H87 J GL Tryd.f87 [.agg [.v (.int .i64 c.frames), .v (.int .i64 c.major), .v (.int .i64 c.kernel), .v (.int .i64 c.room), .sl (.sl .sWindow) c.cores, .sl .sPartition c.partitions, .sl .sChannel c.channels]] [] = ent87 to87 c := by kernel_rfl
/-- layout.Need -/
noncomputable def spO87 (c : Config) : Option R87 := ent87 id c
noncomputable def sp87 (c : Config) : R87 := (spO87 c).getD default
noncomputable def spc87 (c : Config) : Bool := (spO87 c).isSome
theorem oks87 (c : Config) (hc : spc87 c = true) : Okay Pr GL 87 [.agg [.v (.int .i64 c.frames), .v (.int .i64 c.major), .v (.int .i64 c.kernel), .v (.int .i64 c.room), .sl (.sl .sWindow) c.cores, .sl .sPartition c.partitions, .sl .sChannel c.channels]] [] (to87 (sp87 c)) :=
  okay_of_run (H := H87) GGok G0ok Tryd.func87 rfl (by kernel_rfl) 0 ((run87 (runL Pr GG H87 Tryd.f87 0) c).trans (auto_ok0 (show ent87 to87 c = (ent87 id c).map to87 by simp only [ent87, map_cond, Option.map_some, Option.map_none, id]) (isSome_getD hc)))

/-! ### ref15.Need -/
abbrev R36 := Int × Int
def to36 (r : R36) : Ans := ⟨.tup [.v (.int .i64 r.1), .v (.int .i64 r.2)], []⟩
def H36 : Hint := ⟨fun _ => false, fun _ => ⟨[], []⟩, [], G0, nodp⟩
noncomputable def ent36 {R : Type} (ret : R36 → R) (c : Config) : Option R :=
    cond (spc47 c) (
    cond (!(((sp47 c).2 : Int) == 0))
      (some (ret (0, (sp47 c).2)))
      (some (ret ((IntKind.i64.wrap ((sp47 c).1.end_ - c.kernel)), 0)))) none
theorem run36 (J : Jmp) (c : Config) : runF Pr GG H36 J GL Tryd.f36 [.agg [.v (.int .i64 c.frames), .v (.int .i64 c.major), .v (.int .i64 c.kernel), .v (.int .i64 c.room), .sl (.sl .sWindow) c.cores, .sl .sPartition c.partitions, .sl .sChannel c.channels]] [] = ent36 to36 c := by kernel_rfl
/-- ref15.Need -/
noncomputable def spO36 (c : Config) : Option R36 := ent36 id c
noncomputable def sp36 (c : Config) : R36 := (spO36 c).getD default
noncomputable def spc36 (c : Config) : Bool := (spO36 c).isSome
theorem oks36 (c : Config) (hc : spc36 c = true) : Okay Pr GL 36 [.agg [.v (.int .i64 c.frames), .v (.int .i64 c.major), .v (.int .i64 c.kernel), .v (.int .i64 c.room), .sl (.sl .sWindow) c.cores, .sl .sPartition c.partitions, .sl .sChannel c.channels]] [] (to36 (sp36 c)) :=
  okay_of_run (H := H36) GGok G0ok Tryd.func36 rfl (by kernel_rfl) 0 ((run36 (runL Pr GG H36 Tryd.f36 0) c).trans (auto_ok0 (show ent36 to36 c = (ent36 id c).map to36 by simp only [ent36, map_cond, Option.map_some, Option.map_none, id]) (isSome_getD hc)))

/-! ### layout.pieces -/
abbrev R42 := (List LayoutPiece)
def to42 (r : R42) : Ans := ⟨.own 0, [.arr 106 .sLayoutPiece r]⟩
inductive L42 where
  | l0 (x0 : Int) (x1 : List LayoutPiece)
  | l4 (x2 : Int) (x3 : Int) (x4 : List Int) (x5 : Int) (x0 : Int) (x1 : List LayoutPiece)
  | l8 (x0 : Int) (x1 : List LayoutPiece)
  | l12 (x2 : Int) (x3 : Int) (x4 : List DestPlace) (x5 : Int) (x0 : Int) (x1 : List LayoutPiece)
def num42 : L42 → Nat
  | .l0 _ _ => 0
  | .l4 _ _ _ _ _ _ => 4
  | .l8 _ _ => 8
  | .l12 _ _ _ _ _ _ => 12
def H42 : Hint := ⟨fun n => [].any (Nat.beq n), hdAt [(0, ⟨fgt [2, 3, 5, 6, 23, 24, 25] 115 0, []⟩), (4, ⟨fgt [2, 3, 5, 6, 7, 23, 24, 25, 52, 53, 54] 115 0, []⟩), (8, ⟨fgt [5, 6, 11, 68, 69, 70] 115 0, []⟩), (12, ⟨fgt [5, 6, 11, 12, 68, 69, 70, 92, 93, 94] 115 0, []⟩)], [], G0, nodp⟩
noncomputable def st42 (c : Config) (l_1 : Layout) : L42 → St
  | .l0 x0 x1 => ⟨mkE [(2, .ref 0 0), (3, .ref 1 0), (5, .ref 2 0), (6, .fn (.func 74) [] [.ref 2 0]), (23, .sl .sPartitionPlace l_1.partitions), (24, .v (.int .i64 l_1.partitions.length)), (25, .v (.int .i64 x0))] 115 0, [.cells 26 [.v (.int .i64 c.frames), .v (.int .i64 c.major), .v (.int .i64 c.kernel), .v (.int .i64 c.room), .sl (.sl .sWindow) c.cores, .sl .sPartition c.partitions, .sl .sChannel c.channels], .cells 100 [.v (.int .i64 l_1.barrier), .sl .sPartitionPlace l_1.partitions, .sl .sChannelPlace l_1.channels, .v (.int .i64 l_1.end_)], .cells 103 [.own 3], .arr 106 .sLayoutPiece x1], GL, 0, [], nodp⟩
  | .l4 x2 x3 x4 x5 x0 x1 => ⟨mkE [(2, .ref 0 0), (3, .ref 1 0), (5, .ref 2 0), (6, .fn (.func 74) [] [.ref 2 0]), (7, .v (.int .i64 x2)), (23, .sl .sPartitionPlace l_1.partitions), (24, .v (.int .i64 l_1.partitions.length)), (25, .v (.int .i64 x3)), (52, .sl (.i .i64) x4), (53, .v (.int .i64 x5)), (54, .v (.int .i64 x0))] 115 0, [.cells 26 [.v (.int .i64 c.frames), .v (.int .i64 c.major), .v (.int .i64 c.kernel), .v (.int .i64 c.room), .sl (.sl .sWindow) c.cores, .sl .sPartition c.partitions, .sl .sChannel c.channels], .cells 100 [.v (.int .i64 l_1.barrier), .sl .sPartitionPlace l_1.partitions, .sl .sChannelPlace l_1.channels, .v (.int .i64 l_1.end_)], .cells 103 [.own 3], .arr 106 .sLayoutPiece x1], GL, 0, [], nodp⟩
  | .l8 x0 x1 => ⟨mkE [(5, .ref 0 0), (6, .fn (.func 74) [] [.ref 0 0]), (11, .own 2), (68, .sl .sChannelPlace l_1.channels), (69, .v (.int .i64 l_1.channels.length)), (70, .v (.int .i64 x0))] 115 0, [.cells 103 [.own 1], .arr 106 .sLayoutPiece x1, .arr 137 .sLayoutAsked (sp75 c)], GL, 0, [], nodp⟩
  | .l12 x2 x3 x4 x5 x0 x1 => ⟨mkE [(5, .ref 0 0), (6, .fn (.func 74) [] [.ref 0 0]), (11, .own 2), (12, .v (.int .i64 x2)), (68, .sl .sChannelPlace l_1.channels), (69, .v (.int .i64 l_1.channels.length)), (70, .v (.int .i64 x3)), (92, .sl .sDestPlace x4), (93, .v (.int .i64 x5)), (94, .v (.int .i64 x0))] 115 0, [.cells 103 [.own 1], .arr 106 .sLayoutPiece x1, .arr 137 .sLayoutAsked (sp75 c)], GL, 0, [], nodp⟩
noncomputable def bod42 {R : Type} (ret : R42 → R) (c : Config) (l_1 : Layout) (j : L42 → Option R) : L42 → Option R
  | .l0 x0 x1 => cond (decide ((x0 : Int) < l_1.partitions.length))
    (cond (inR x0 l_1.partitions.length) (
      cond (spc74 ((atPartitionPlace l_1.partitions x0.toNat).lock) 2 3 x0 0 x1) (
        cond (spc74 ((atPartitionPlace l_1.partitions x0.toNat).save) 17 4 x0 0 (sp74 ((atPartitionPlace l_1.partitions x0.toNat).lock) 2 3 x0 0 x1)) (
          cond (spc74 ((atPartitionPlace l_1.partitions x0.toNat).state) 5 5 x0 0 (sp74 ((atPartitionPlace l_1.partitions x0.toNat).save) 17 4 x0 0 (sp74 ((atPartitionPlace l_1.partitions x0.toNat).lock) 2 3 x0 0 x1))) (
            cond (spc74 (IntKind.i64.wrap ((atPartitionPlace l_1.partitions x0.toNat).root * 16)) 16 9 x0 0 (sp74 ((atPartitionPlace l_1.partitions x0.toNat).state) 5 5 x0 0 (sp74 ((atPartitionPlace l_1.partitions x0.toNat).save) 17 4 x0 0 (sp74 ((atPartitionPlace l_1.partitions x0.toNat).lock) 2 3 x0 0 x1)))) (
              j (.l4 x0 x0 ((atPartitionPlace l_1.partitions x0.toNat).tables) (((atPartitionPlace l_1.partitions x0.toNat).tables).length) 0 (sp74 (IntKind.i64.wrap ((atPartitionPlace l_1.partitions x0.toNat).root * 16)) 16 9 x0 0 (sp74 ((atPartitionPlace l_1.partitions x0.toNat).state) 5 5 x0 0 (sp74 ((atPartitionPlace l_1.partitions x0.toNat).save) 17 4 x0 0 (sp74 ((atPartitionPlace l_1.partitions x0.toNat).lock) 2 3 x0 0 x1)))))) none) none) none) none) none)
    (cond (spc75 c) (j (.l8 0 x1)) none)
  | .l4 x2 x3 x4 x5 x0 x1 => cond (decide ((x0 : Int) < x5))
    (cond (inR x0 x4.length) (
      cond (spc74 (IntKind.i64.wrap (atInt x4 x0.toNat * 16)) 16 9 x2 0 x1) (j (.l4 x2 x3 x4 x5 (IntKind.i64.wrap (x0 + 1)) (sp74 (IntKind.i64.wrap (atInt x4 x0.toNat * 16)) 16 9 x2 0 x1))) none) none)
    (j (.l0 (IntKind.i64.wrap (x3 + 1)) x1))
  | .l8 x0 x1 => cond (decide ((x0 : Int) < l_1.channels.length))
    (cond (inR x0 l_1.channels.length) (
      cond (spc74 ((atChannelPlace l_1.channels x0.toNat).lock) 2 6 x0 0 x1) (
        cond (inR x0 (sp75 c).length) (
          cond (sizedc ((atLayoutAsked (sp75 c) x0.toNat).stage)) (
            cond (spc74 ((atChannelPlace l_1.channels x0.toNat).stage) (sized ((atLayoutAsked (sp75 c) x0.toNat).stage)) 7 x0 0 (sp74 ((atChannelPlace l_1.channels x0.toNat).lock) 2 6 x0 0 x1)) (
              j (.l12 x0 x0 ((atChannelPlace l_1.channels x0.toNat).dests) (((atChannelPlace l_1.channels x0.toNat).dests).length) 0 (sp74 ((atChannelPlace l_1.channels x0.toNat).stage) (sized ((atLayoutAsked (sp75 c) x0.toNat).stage)) 7 x0 0 (sp74 ((atChannelPlace l_1.channels x0.toNat).lock) 2 6 x0 0 x1)))) none) none) none) none) none)
    (some (ret x1))
  | .l12 x2 x3 x4 x5 x0 x1 => cond (decide ((x0 : Int) < x5))
    (cond (inR x0 x4.length) (
      cond (inR x2 (sp75 c).length) (
        cond (sizedc ((atLayoutAsked (sp75 c) x2.toNat).port)) (
          cond (spc74 ((atDestPlace x4 x0.toNat).at_) (sized ((atLayoutAsked (sp75 c) x2.toNat).port)) 8 ((atDestPlace x4 x0.toNat).partition) ((atDestPlace x4 x0.toNat).port) x1) (
            j (.l12 x2 x3 x4 x5 (IntKind.i64.wrap (x0 + 1)) (sp74 ((atDestPlace x4 x0.toNat).at_) (sized ((atLayoutAsked (sp75 c) x2.toNat).port)) 8 ((atDestPlace x4 x0.toNat).partition) ((atDestPlace x4 x0.toNat).port) x1))) none) none) none) none)
    (j (.l8 (IntKind.i64.wrap (x3 + 1)) x1))
noncomputable def ent42 {R : Type} (ret : R42 → R) (c : Config) (l_1 : Layout) (j : L42 → Option R) : Option R :=
    j (.l0 0 [(⟨l_1.barrier, 2, (⟨2, 0, 0⟩ : Owner)⟩ : LayoutPiece)])
theorem head42_0 (J : Jmp) (c : Config) (l_1 : Layout) (x0 : Int) (x1 : List LayoutPiece) : stepAt Pr GG H42 J 0 0 (bodyOf Tryd.f42) (fin Pr H42 Tryd.f42) (st42 c l_1 (.l0 x0 x1)) = bod42 to42 c l_1 (fun l => J (num42 l) (st42 c l_1 l)) (.l0 x0 x1) := by kernel_rfl
theorem head42_4 (J : Jmp) (c : Config) (l_1 : Layout) (x2 : Int) (x3 : Int) (x4 : List Int) (x5 : Int) (x0 : Int) (x1 : List LayoutPiece) : stepAt Pr GG H42 J 4 0 (bodyOf Tryd.f42) (fin Pr H42 Tryd.f42) (st42 c l_1 (.l4 x2 x3 x4 x5 x0 x1)) = bod42 to42 c l_1 (fun l => J (num42 l) (st42 c l_1 l)) (.l4 x2 x3 x4 x5 x0 x1) := by kernel_rfl
theorem head42_8 (J : Jmp) (c : Config) (l_1 : Layout) (x0 : Int) (x1 : List LayoutPiece) : stepAt Pr GG H42 J 8 0 (bodyOf Tryd.f42) (fin Pr H42 Tryd.f42) (st42 c l_1 (.l8 x0 x1)) = bod42 to42 c l_1 (fun l => J (num42 l) (st42 c l_1 l)) (.l8 x0 x1) := by kernel_rfl
theorem head42_12 (J : Jmp) (c : Config) (l_1 : Layout) (x2 : Int) (x3 : Int) (x4 : List DestPlace) (x5 : Int) (x0 : Int) (x1 : List LayoutPiece) : stepAt Pr GG H42 J 12 0 (bodyOf Tryd.f42) (fin Pr H42 Tryd.f42) (st42 c l_1 (.l12 x2 x3 x4 x5 x0 x1)) = bod42 to42 c l_1 (fun l => J (num42 l) (st42 c l_1 l)) (.l12 x2 x3 x4 x5 x0 x1) := by kernel_rfl
theorem run42 (J : Jmp) (c : Config) (l_1 : Layout) : runF Pr GG H42 J GL Tryd.f42 [.agg [.v (.int .i64 c.frames), .v (.int .i64 c.major), .v (.int .i64 c.kernel), .v (.int .i64 c.room), .sl (.sl .sWindow) c.cores, .sl .sPartition c.partitions, .sl .sChannel c.channels], .agg [.v (.int .i64 l_1.barrier), .sl .sPartitionPlace l_1.partitions, .sl .sChannelPlace l_1.channels, .v (.int .i64 l_1.end_)]] [] = ent42 to42 c l_1 (fun l => J (num42 l) (st42 c l_1 l)) := by kernel_rfl
theorem shad42 (c : Config) (l_1 : Layout) : ∀ (n : Nat) (l : L42), runL Pr GG H42 Tryd.f42 n (num42 l) (st42 c l_1 l) = shad (bod42 to42 c l_1) n l
  | 0, l => by cases l <;> rfl
  | n + 1, l => by
    have ih : (fun l => runL Pr GG H42 Tryd.f42 n (num42 l) (st42 c l_1 l)) = shad (bod42 to42 c l_1) n := funext (shad42 c l_1 n)
    cases l with
    | l0 x0 x1 => exact (step_eq ..).trans ((head42_0 ..).trans (by rw [ih]; rfl))
    | l4 x2 x3 x4 x5 x0 x1 => exact (step_eq ..).trans ((head42_4 ..).trans (by rw [ih]; rfl))
    | l8 x0 x1 => exact (step_eq ..).trans ((head42_8 ..).trans (by rw [ih]; rfl))
    | l12 x2 x3 x4 x5 x0 x1 => exact (step_eq ..).trans ((head42_12 ..).trans (by rw [ih]; rfl))
theorem nat42 (c : Config) (l_1 : Layout) (s : L42 → Option R42) (l : L42) : bod42 to42 c l_1 (fun l => (s l).map to42) l = (bod42 id c l_1 s l).map to42 := by
  cases l <;> simp only [bod42, map_cond, Option.map_some, Option.map_none, id]
theorem ct42 (c : Config) (l_1 : Layout) (l : L42) : CT fun j => bod42 id c l_1 j l := by
  cases l <;> (dsimp only [bod42]; repeat (first | exact CT.jump _ | exact CT.const _ | apply CT.cond))
/-- layout.pieces, from a head on. -/
noncomputable def spL42 (c : Config) (l_1 : Layout) : L42 → Option R42 := lfp (bod42 id c l_1)
theorem spL42_eq (c : Config) (l_1 : Layout) (l : L42) : spL42 c l_1 l = bod42 id c l_1 (spL42 c l_1) l := lfp_eq (ct42 c l_1) l
/-- layout.pieces -/
noncomputable def spO42 (c : Config) (l_1 : Layout) : Option R42 := ent42 id c l_1 (spL42 c l_1)
noncomputable def sp42 (c : Config) (l_1 : Layout) : R42 := (spO42 c l_1).getD default
noncomputable def spc42 (c : Config) (l_1 : Layout) : Bool := (spO42 c l_1).isSome
theorem oks42 (c : Config) (l_1 : Layout) (hc : spc42 c l_1 = true) : Okay Pr GL 42 [.agg [.v (.int .i64 c.frames), .v (.int .i64 c.major), .v (.int .i64 c.kernel), .v (.int .i64 c.room), .sl (.sl .sWindow) c.cores, .sl .sPartition c.partitions, .sl .sChannel c.channels], .agg [.v (.int .i64 l_1.barrier), .sl .sPartitionPlace l_1.partitions, .sl .sChannelPlace l_1.channels, .v (.int .i64 l_1.end_)]] [] (to42 (sp42 c l_1)) := by
  obtain ⟨n, h⟩ := auto_ok (nat42 c l_1) (fun s => show ent42 to42 c l_1 (fun l => (s l).map to42) = (ent42 id c l_1 s).map to42 by simp only [ent42, map_cond, Option.map_some, Option.map_none, id]) (ct42 c l_1) (show CT fun j => ent42 id c l_1 j by dsimp only [ent42]; repeat (first | exact CT.jump _ | exact CT.const _ | apply CT.cond)) (isSome_getD hc)
  exact okay_of_run (H := H42) GGok G0ok Tryd.func42 rfl (by kernel_rfl) n (by
    rw [run42]
    rw [show (fun l => runL Pr GG H42 Tryd.f42 n (num42 l) (st42 c l_1 l)) = shad (bod42 to42 c l_1) n from funext (shad42 c l_1 n)]
    exact h)

/-! ### slices.Contains[[]*mem.Memory,*mem.Memory] -/
abbrev R24 := Bool
def to24 (r : R24) : Ans := ⟨.v (.bool r), []⟩
def H24 : Hint := ⟨fun _ => false, fun _ => ⟨[], []⟩, [], G0, nodp⟩
noncomputable def ent24 {R : Type} (ret : R24 → R) (ms : (List (Option MemMemory))) : Option R :=
    cond (spc39 ms) (some (ret (decide (((sp39 ms) : Int) ≥ 0)))) none
theorem run24 (J : Jmp) (ms : (List (Option MemMemory))) : runF Pr GG H24 J GL Tryd.f24 [.sl (.p .sMemMemory) ms, .v (.pointer none)] [] = ent24 to24 ms := by kernel_rfl
/-- slices.Contains[[]*mem.Memory,*mem.Memory] -/
noncomputable def spO24 (ms : (List (Option MemMemory))) : Option R24 := ent24 id ms
noncomputable def sp24 (ms : (List (Option MemMemory))) : R24 := (spO24 ms).getD default
noncomputable def spc24 (ms : (List (Option MemMemory))) : Bool := (spO24 ms).isSome
theorem oks24 (ms : (List (Option MemMemory))) (hc : spc24 ms = true) : Okay Pr GL 24 [.sl (.p .sMemMemory) ms, .v (.pointer none)] [] (to24 (sp24 ms)) :=
  okay_of_run (H := H24) GGok G0ok Tryd.func24 rfl (by kernel_rfl) 0 ((run24 (runL Pr GG H24 Tryd.f24 0) ms).trans (auto_ok0 (show ent24 to24 ms = (ent24 id ms).map to24 by simp only [ent24, map_cond, Option.map_some, Option.map_none, id]) (isSome_getD hc)))

noncomputable def g87 (args : List AV) (hp : List Blk) : Option (Bool × AV × List Blk) :=
  match hp, args with
  | [], [x0] => (rdS .sConfig x0).bind fun a0 => some ((spc87 a0), .tup [.v (.int .i64 ((sp87 a0).1)), .v (.int .i64 ((sp87 a0).2))], [])
  | _, _ => none
theorem g87_ok {args : List AV} {hp : List Blk} {b : Bool} {r : AV} {hp' : List Blk} (h : g87 args hp = some (b, r, hp')) (hb : b = true) : FnOk Pr 87 ∧ Okay Pr GL 87 args hp ⟨r, hp'⟩ := by
  unfold g87 at h
  split at h
  · simp only [Option.bind_eq_some_iff] at h
    obtain ⟨a0, h0, h⟩ := h
    cases h; exact ⟨fnok Tryd.func87 (by kernel_rfl) rfl, (oks87 a0 hb).ats (.cons (rdS_V h0) .nil)⟩
  · cases h
noncomputable def g36 (args : List AV) (hp : List Blk) : Option (Bool × AV × List Blk) :=
  match hp, args with
  | [], [x0] => (rdS .sConfig x0).bind fun a0 => some ((spc36 a0), .tup [.v (.int .i64 ((sp36 a0).1)), .v (.int .i64 ((sp36 a0).2))], [])
  | _, _ => none
theorem g36_ok {args : List AV} {hp : List Blk} {b : Bool} {r : AV} {hp' : List Blk} (h : g36 args hp = some (b, r, hp')) (hb : b = true) : FnOk Pr 36 ∧ Okay Pr GL 36 args hp ⟨r, hp'⟩ := by
  unfold g36 at h
  split at h
  · simp only [Option.bind_eq_some_iff] at h
    obtain ⟨a0, h0, h⟩ := h
    cases h; exact ⟨fnok Tryd.func36 (by kernel_rfl) rfl, (oks36 a0 hb).ats (.cons (rdS_V h0) .nil)⟩
  · cases h
noncomputable def g42 (args : List AV) (hp : List Blk) : Option (Bool × AV × List Blk) :=
  match hp, args with
  | [], [x0, x1] => (rdS .sConfig x0).bind fun a0 => (rdS .sLayout x1).bind fun a1 => some ((spc42 a0 a1), .own 0, [.arr 106 .sLayoutPiece (sp42 a0 a1)])
  | _, _ => none
theorem g42_ok {args : List AV} {hp : List Blk} {b : Bool} {r : AV} {hp' : List Blk} (h : g42 args hp = some (b, r, hp')) (hb : b = true) : FnOk Pr 42 ∧ Okay Pr GL 42 args hp ⟨r, hp'⟩ := by
  unfold g42 at h
  split at h
  · simp only [Option.bind_eq_some_iff] at h
    obtain ⟨a0, h0, a1, h1, h⟩ := h
    cases h; exact ⟨fnok Tryd.func42 (by kernel_rfl) rfl, (oks42 a0 a1 hb).ats (.cons (rdS_V h0) (.cons (rdS_V h1) .nil))⟩
  · cases h
noncomputable def g24 (args : List AV) (hp : List Blk) : Option (Bool × AV × List Blk) :=
  match args, hp with
  | [.sl (.p .sMemMemory) y0, .v (.pointer none)], [] => some ((spc24 y0), .v (.bool (sp24 y0)), [])
  | _, _ => none
theorem g24_ok {args : List AV} {hp : List Blk} {b : Bool} {r : AV} {hp' : List Blk} (h : g24 args hp = some (b, r, hp')) (hb : b = true) : FnOk Pr 24 ∧ Okay Pr GL 24 args hp ⟨r, hp'⟩ := by
  unfold g24 at h
  split at h
  · cases h; exact ⟨fnok Tryd.func24 (by kernel_rfl) rfl, oks24 _ hb⟩
  · cases h
noncomputable def GH : Gam := fun c args hp => match c with
  | .f f => pick1 87 f (g87 args hp) (pick1 36 f (g36 args hp) (pick1 42 f (g42 args hp) (pick1 24 f (g24 args hp) (GG (.f f) args hp))))
  | .c x => GG (.c x) args hp
theorem GHok : GOk Pr GL GH := by
  intro c args hp b r hp' h hb
  cases c with
  | f f =>
    simp only [GH] at h
    rcases pick1_ok h with ⟨rfl, h⟩ | h
    · exact g87_ok h hb
    rcases pick1_ok h with ⟨rfl, h⟩ | h
    · exact g36_ok h hb
    rcases pick1_ok h with ⟨rfl, h⟩ | h
    · exact g42_ok h hb
    rcases pick1_ok h with ⟨rfl, h⟩ | h
    · exact g24_ok h hb
    exact GGok (.f f) args hp b r hp' h hb
  | c x => exact GGok (.c x) args hp b r hp' h hb
end Go.Proofs.YthnkmndjhedgdaaDoor
