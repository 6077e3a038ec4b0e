/- Shadows of functions (printed by pr2.py off the model's code; the kernel holds each equation to it), and what they answer. -/
import Derived.Test.YtgfifnadfmaolaaGreatDoorP6
namespace Go.Proofs.YtgfifnadfmaolaaGreatDoor
open Go.RowKit
set_option linter.unusedVariables false
set_option linter.unusedSimpArgs false
/-! ### layout.Need -/
abbrev R168 := Int × Int
def to168 (r : R168) : Ans := ⟨.tup [.v (.int .i64 r.1), .v (.int .i64 r.2)], []⟩
def H168 : Hint := ⟨fun _ => false, fun _ => ⟨[], []⟩, [], G0, nodp⟩
noncomputable def ent168 {R : Type} (ret : R168 → R) (c : Config) : Option R :=
    cond (spc36 c) (
    cond (!(((sp36 c).2 : Int) == 0))
      (some (ret (0, (sp36 c).2)))
      (some (ret ((IntKind.i64.wrap ((sp36 c).1.end_ - c.kernel)), 0)))) none
theorem run168 (J : Jmp) (c : Config) : runF Pr GG H168 J GL Tryz.f168 [(aCfg c)] [] = ent168 to168 c := by kernel_rfl
noncomputable def spO168 (c : Config) : Option R168 := ent168 id c
noncomputable def sp168 (c : Config) : R168 := (spO168 c).getD default
noncomputable def spc168 (c : Config) : Bool := (spO168 c).isSome
theorem oks168 (c : Config) (hc : spc168 c = true) : Okay Pr GL 168 [(aCfg c)] [] (to168 (sp168 c)) :=
  okay_of_run (H := H168) GGok G0ok Tryz.func168 rfl (by kernel_rfl) 0 ((run168 (runL Pr GG H168 Tryz.f168 0) c).trans (auto_ok0 (show ent168 to168 c = (ent168 id c).map to168 by simp only [ent168, map_cond, Option.map_some, Option.map_none, id]) (isSome_getD hc)))

/-! ### ref15.Need -/
abbrev R106 := Int × Int
def to106 (r : R106) : Ans := ⟨.tup [.v (.int .i64 r.1), .v (.int .i64 r.2)], []⟩
def H106 : Hint := ⟨fun _ => false, fun _ => ⟨[], []⟩, [], G0, nodp⟩
noncomputable def ent106 {R : Type} (ret : R106 → R) (c : Config) : Option R :=
    cond (spc30 c) (
    cond (!(((sp30 c).2 : Int) == 0))
      (some (ret (0, (sp30 c).2)))
      (some (ret ((IntKind.i64.wrap ((sp30 c).1.end_ - c.kernel)), 0)))) none
theorem run106 (J : Jmp) (c : Config) : runF Pr GG H106 J GL Tryz.f106 [(aCfg c)] [] = ent106 to106 c := by kernel_rfl
noncomputable def spO106 (c : Config) : Option R106 := ent106 id c
noncomputable def sp106 (c : Config) : R106 := (spO106 c).getD default
noncomputable def spc106 (c : Config) : Bool := (spO106 c).isSome
theorem oks106 (c : Config) (hc : spc106 c = true) : Okay Pr GL 106 [(aCfg c)] [] (to106 (sp106 c)) :=
  okay_of_run (H := H106) GGok G0ok Tryz.func106 rfl (by kernel_rfl) 0 ((run106 (runL Pr GG H106 Tryz.f106 0) c).trans (auto_ok0 (show ent106 to106 c = (ent106 id c).map to106 by simp only [ent106, map_cond, Option.map_some, Option.map_none, id]) (isSome_getD hc)))

/-! ### layout.pieces -/
abbrev R53 := (List LayoutPiece)
def to53 (r : R53) : Ans := ⟨.own 0, [.arr 127 .sLayoutPiece r]⟩
inductive L53 where
  | l0 (x0 : Int) (x1 : List LayoutPiece)
  | l4 (x2 : Int) (x3 : Int) (x4 : List Int) (x5 : Int) (x0 : Int) (x1 : List LayoutPiece)
  | l8 (x0 : Int) (x1 : List LayoutPiece)
  | l12 (x2 : Int) (x3 : Int) (x4 : List DestPlace) (x5 : Int) (x0 : Int) (x1 : List LayoutPiece)
def num53 : L53 → Nat
  | .l0 _ _ => 0
  | .l4 _ _ _ _ _ _ => 4
  | .l8 _ _ => 8
  | .l12 _ _ _ _ _ _ => 12
def H53 : Hint := ⟨fun n => [].any (Nat.beq n), hdAt [(0, ⟨fgt [2, 3, 5, 6, 23, 24, 25] 115 0, []⟩), (4, ⟨fgt [2, 3, 5, 6, 7, 23, 24, 25, 52, 53, 54] 115 0, []⟩), (8, ⟨fgt [5, 6, 11, 68, 69, 70] 115 0, []⟩), (12, ⟨fgt [5, 6, 11, 12, 68, 69, 70, 92, 93, 94] 115 0, []⟩)], [], G0, nodp⟩
noncomputable def st53 (c : Config) (l_1 : Layout) : L53 → St
  | .l0 x0 x1 => ⟨mkE [(2, .ref 0 0), (3, .ref 1 0), (5, .ref 2 0), (6, .fn (.func 97) [] [.ref 2 0]), (23, .sl .sPartitionPlace l_1.partitions), (24, .v (.int .i64 l_1.partitions.length)), (25, .v (.int .i64 x0))] 115 0, [.cells 26 [.v (.int .i64 c.frames), .v (.int .i64 c.major), .v (.int .i64 c.kernel), .v (.int .i64 c.room), .sl (.sl .sWindow) c.cores, .sl .sPartition c.partitions, .sl .sChannel c.channels], .cells 82 [.v (.int .i64 l_1.barrier), .sl .sPartitionPlace l_1.partitions, .sl .sChannelPlace l_1.channels, .v (.int .i64 l_1.end_)], .cells 124 [.own 3], .arr 127 .sLayoutPiece x1], GL, 0, [], nodp⟩
  | .l4 x2 x3 x4 x5 x0 x1 => ⟨mkE [(2, .ref 0 0), (3, .ref 1 0), (5, .ref 2 0), (6, .fn (.func 97) [] [.ref 2 0]), (7, .v (.int .i64 x2)), (23, .sl .sPartitionPlace l_1.partitions), (24, .v (.int .i64 l_1.partitions.length)), (25, .v (.int .i64 x3)), (52, .sl (.i .i64) x4), (53, .v (.int .i64 x5)), (54, .v (.int .i64 x0))] 115 0, [.cells 26 [.v (.int .i64 c.frames), .v (.int .i64 c.major), .v (.int .i64 c.kernel), .v (.int .i64 c.room), .sl (.sl .sWindow) c.cores, .sl .sPartition c.partitions, .sl .sChannel c.channels], .cells 82 [.v (.int .i64 l_1.barrier), .sl .sPartitionPlace l_1.partitions, .sl .sChannelPlace l_1.channels, .v (.int .i64 l_1.end_)], .cells 124 [.own 3], .arr 127 .sLayoutPiece x1], GL, 0, [], nodp⟩
  | .l8 x0 x1 => ⟨mkE [(5, .ref 0 0), (6, .fn (.func 97) [] [.ref 0 0]), (11, .own 2), (68, .sl .sChannelPlace l_1.channels), (69, .v (.int .i64 l_1.channels.length)), (70, .v (.int .i64 x0))] 115 0, [.cells 124 [.own 1], .arr 127 .sLayoutPiece x1, .arr 189 .sLayoutAsked (sp98 c)], GL, 0, [], nodp⟩
  | .l12 x2 x3 x4 x5 x0 x1 => ⟨mkE [(5, .ref 0 0), (6, .fn (.func 97) [] [.ref 0 0]), (11, .own 2), (12, .v (.int .i64 x2)), (68, .sl .sChannelPlace l_1.channels), (69, .v (.int .i64 l_1.channels.length)), (70, .v (.int .i64 x3)), (92, .sl .sDestPlace x4), (93, .v (.int .i64 x5)), (94, .v (.int .i64 x0))] 115 0, [.cells 124 [.own 1], .arr 127 .sLayoutPiece x1, .arr 189 .sLayoutAsked (sp98 c)], GL, 0, [], nodp⟩
noncomputable def bod53 {R : Type} (ret : R53 → R) (c : Config) (l_1 : Layout) (j : L53 → Option R) : L53 → Option R
  | .l0 x0 x1 => cond (decide ((x0 : Int) < l_1.partitions.length))
    (cond (inR x0 l_1.partitions.length) (
      cond (spc97 ((atPartitionPlace l_1.partitions x0.toNat).lock) 2 3 x0 0 x1) (
        cond (spc97 ((atPartitionPlace l_1.partitions x0.toNat).save) 17 4 x0 0 (sp97 ((atPartitionPlace l_1.partitions x0.toNat).lock) 2 3 x0 0 x1)) (
          cond (spc97 ((atPartitionPlace l_1.partitions x0.toNat).state) 5 5 x0 0 (sp97 ((atPartitionPlace l_1.partitions x0.toNat).save) 17 4 x0 0 (sp97 ((atPartitionPlace l_1.partitions x0.toNat).lock) 2 3 x0 0 x1))) (
            cond (spc97 (IntKind.i64.wrap ((atPartitionPlace l_1.partitions x0.toNat).root * 16)) 16 9 x0 0 (sp97 ((atPartitionPlace l_1.partitions x0.toNat).state) 5 5 x0 0 (sp97 ((atPartitionPlace l_1.partitions x0.toNat).save) 17 4 x0 0 (sp97 ((atPartitionPlace l_1.partitions x0.toNat).lock) 2 3 x0 0 x1)))) (
              j (.l4 x0 x0 ((atPartitionPlace l_1.partitions x0.toNat).tables) (((atPartitionPlace l_1.partitions x0.toNat).tables).length) 0 (sp97 (IntKind.i64.wrap ((atPartitionPlace l_1.partitions x0.toNat).root * 16)) 16 9 x0 0 (sp97 ((atPartitionPlace l_1.partitions x0.toNat).state) 5 5 x0 0 (sp97 ((atPartitionPlace l_1.partitions x0.toNat).save) 17 4 x0 0 (sp97 ((atPartitionPlace l_1.partitions x0.toNat).lock) 2 3 x0 0 x1)))))) none) none) none) none) none)
    (cond (spc98 c) (j (.l8 0 x1)) none)
  | .l4 x2 x3 x4 x5 x0 x1 => cond (decide ((x0 : Int) < x5))
    (cond (inR x0 x4.length) (
      cond (spc97 (IntKind.i64.wrap (atInt x4 x0.toNat * 16)) 16 9 x2 0 x1) (j (.l4 x2 x3 x4 x5 (IntKind.i64.wrap (x0 + 1)) (sp97 (IntKind.i64.wrap (atInt x4 x0.toNat * 16)) 16 9 x2 0 x1))) none) none)
    (j (.l0 (IntKind.i64.wrap (x3 + 1)) x1))
  | .l8 x0 x1 => cond (decide ((x0 : Int) < l_1.channels.length))
    (cond (inR x0 l_1.channels.length) (
      cond (spc97 ((atChannelPlace l_1.channels x0.toNat).lock) 2 6 x0 0 x1) (
        cond (inR x0 (sp98 c).length) (
          cond (sizedc ((atLayoutAsked (sp98 c) x0.toNat).stage)) (
            cond (spc97 ((atChannelPlace l_1.channels x0.toNat).stage) (sized ((atLayoutAsked (sp98 c) x0.toNat).stage)) 7 x0 0 (sp97 ((atChannelPlace l_1.channels x0.toNat).lock) 2 6 x0 0 x1)) (
              j (.l12 x0 x0 ((atChannelPlace l_1.channels x0.toNat).dests) (((atChannelPlace l_1.channels x0.toNat).dests).length) 0 (sp97 ((atChannelPlace l_1.channels x0.toNat).stage) (sized ((atLayoutAsked (sp98 c) x0.toNat).stage)) 7 x0 0 (sp97 ((atChannelPlace l_1.channels x0.toNat).lock) 2 6 x0 0 x1)))) none) none) none) none) none)
    (some (ret x1))
  | .l12 x2 x3 x4 x5 x0 x1 => cond (decide ((x0 : Int) < x5))
    (cond (inR x0 x4.length) (
      cond (inR x2 (sp98 c).length) (
        cond (sizedc ((atLayoutAsked (sp98 c) x2.toNat).port)) (
          cond (spc97 ((atDestPlace x4 x0.toNat).at_) (sized ((atLayoutAsked (sp98 c) x2.toNat).port)) 8 ((atDestPlace x4 x0.toNat).partition) ((atDestPlace x4 x0.toNat).port) x1) (
            j (.l12 x2 x3 x4 x5 (IntKind.i64.wrap (x0 + 1)) (sp97 ((atDestPlace x4 x0.toNat).at_) (sized ((atLayoutAsked (sp98 c) x2.toNat).port)) 8 ((atDestPlace x4 x0.toNat).partition) ((atDestPlace x4 x0.toNat).port) x1))) none) none) none) none)
    (j (.l8 (IntKind.i64.wrap (x3 + 1)) x1))
noncomputable def ent53 {R : Type} (ret : R53 → R) (c : Config) (l_1 : Layout) (j : L53 → Option R) : Option R :=
    j (.l0 0 [(⟨l_1.barrier, 2, (⟨2, 0, 0⟩ : Owner)⟩ : LayoutPiece)])
theorem head53_0 (J : Jmp) (c : Config) (l_1 : Layout) (x0 : Int) (x1 : List LayoutPiece) : stepAt Pr GG H53 J 0 0 (bodyOf Tryz.f53) (fin Pr H53 Tryz.f53) (st53 c l_1 (.l0 x0 x1)) = bod53 to53 c l_1 (fun l => J (num53 l) (st53 c l_1 l)) (.l0 x0 x1) := by kernel_rfl
theorem head53_4 (J : Jmp) (c : Config) (l_1 : Layout) (x2 : Int) (x3 : Int) (x4 : List Int) (x5 : Int) (x0 : Int) (x1 : List LayoutPiece) : stepAt Pr GG H53 J 4 0 (bodyOf Tryz.f53) (fin Pr H53 Tryz.f53) (st53 c l_1 (.l4 x2 x3 x4 x5 x0 x1)) = bod53 to53 c l_1 (fun l => J (num53 l) (st53 c l_1 l)) (.l4 x2 x3 x4 x5 x0 x1) := by kernel_rfl
theorem head53_8 (J : Jmp) (c : Config) (l_1 : Layout) (x0 : Int) (x1 : List LayoutPiece) : stepAt Pr GG H53 J 8 0 (bodyOf Tryz.f53) (fin Pr H53 Tryz.f53) (st53 c l_1 (.l8 x0 x1)) = bod53 to53 c l_1 (fun l => J (num53 l) (st53 c l_1 l)) (.l8 x0 x1) := by kernel_rfl
theorem head53_12 (J : Jmp) (c : Config) (l_1 : Layout) (x2 : Int) (x3 : Int) (x4 : List DestPlace) (x5 : Int) (x0 : Int) (x1 : List LayoutPiece) : stepAt Pr GG H53 J 12 0 (bodyOf Tryz.f53) (fin Pr H53 Tryz.f53) (st53 c l_1 (.l12 x2 x3 x4 x5 x0 x1)) = bod53 to53 c l_1 (fun l => J (num53 l) (st53 c l_1 l)) (.l12 x2 x3 x4 x5 x0 x1) := by kernel_rfl
theorem run53 (J : Jmp) (c : Config) (l_1 : Layout) : runF Pr GG H53 J GL Tryz.f53 [(aCfg c), .agg [.v (.int .i64 l_1.barrier), .sl .sPartitionPlace l_1.partitions, .sl .sChannelPlace l_1.channels, .v (.int .i64 l_1.end_)]] [] = ent53 to53 c l_1 (fun l => J (num53 l) (st53 c l_1 l)) := by kernel_rfl
theorem shad53 (c : Config) (l_1 : Layout) : ∀ (n : Nat) (l : L53), runL Pr GG H53 Tryz.f53 n (num53 l) (st53 c l_1 l) = shad (bod53 to53 c l_1) n l
  | 0, l => by cases l <;> rfl
  | n + 1, l => by
    have ih : (fun l => runL Pr GG H53 Tryz.f53 n (num53 l) (st53 c l_1 l)) = shad (bod53 to53 c l_1) n := funext (shad53 c l_1 n)
    cases l with
    | l0 x0 x1 => exact (step_eq ..).trans ((head53_0 ..).trans (by rw [ih]; rfl))
    | l4 x2 x3 x4 x5 x0 x1 => exact (step_eq ..).trans ((head53_4 ..).trans (by rw [ih]; rfl))
    | l8 x0 x1 => exact (step_eq ..).trans ((head53_8 ..).trans (by rw [ih]; rfl))
    | l12 x2 x3 x4 x5 x0 x1 => exact (step_eq ..).trans ((head53_12 ..).trans (by rw [ih]; rfl))
theorem nat53 (c : Config) (l_1 : Layout) (s : L53 → Option R53) (l : L53) : bod53 to53 c l_1 (fun l => (s l).map to53) l = (bod53 id c l_1 s l).map to53 := by
  cases l <;> simp only [bod53, map_cond, Option.map_some, Option.map_none, id]
theorem ct53 (c : Config) (l_1 : Layout) (l : L53) : CT fun j => bod53 id c l_1 j l := by
  cases l <;> (dsimp only [bod53]; repeat (first | exact CT.jump _ | exact CT.const _ | apply CT.cond))
noncomputable def spL53 (c : Config) (l_1 : Layout) : L53 → Option R53 := lfp (bod53 id c l_1)
theorem spL53_eq (c : Config) (l_1 : Layout) (l : L53) : spL53 c l_1 l = bod53 id c l_1 (spL53 c l_1) l := lfp_eq (ct53 c l_1) l
noncomputable def spO53 (c : Config) (l_1 : Layout) : Option R53 := ent53 id c l_1 (spL53 c l_1)
noncomputable def sp53 (c : Config) (l_1 : Layout) : R53 := (spO53 c l_1).getD default
noncomputable def spc53 (c : Config) (l_1 : Layout) : Bool := (spO53 c l_1).isSome
theorem oks53 (c : Config) (l_1 : Layout) (hc : spc53 c l_1 = true) : Okay Pr GL 53 [(aCfg c), .agg [.v (.int .i64 l_1.barrier), .sl .sPartitionPlace l_1.partitions, .sl .sChannelPlace l_1.channels, .v (.int .i64 l_1.end_)]] [] (to53 (sp53 c l_1)) := by
  obtain ⟨n, h⟩ := auto_ok (nat53 c l_1) (fun s => show ent53 to53 c l_1 (fun l => (s l).map to53) = (ent53 id c l_1 s).map to53 by simp only [ent53, map_cond, Option.map_some, Option.map_none, id]) (ct53 c l_1) (show CT fun j => ent53 id c l_1 j by dsimp only [ent53]; repeat (first | exact CT.jump _ | exact CT.const _ | apply CT.cond)) (isSome_getD hc)
  exact okay_of_run (H := H53) GGok G0ok Tryz.func53 rfl (by kernel_rfl) n (by
    rw [run53]
    rw [show (fun l => runL Pr GG H53 Tryz.f53 n (num53 l) (st53 c l_1 l)) = shad (bod53 to53 c l_1) n from funext (shad53 c l_1 n)]
    exact h)

/-! ### slices.Contains[[]*mem.Memory,*mem.Memory] -/
abbrev R48 := Bool
def to48 (r : R48) : Ans := ⟨.v (.bool r), []⟩
def H48 : Hint := ⟨fun _ => false, fun _ => ⟨[], []⟩, [], G0, nodp⟩
noncomputable def ent48 {R : Type} (ret : R48 → R) (ms : (List (Option MemMemory))) : Option R :=
    cond (spc95 ms) (some (ret (decide (((sp95 ms) : Int) ≥ 0)))) none
theorem run48 (J : Jmp) (ms : (List (Option MemMemory))) : runF Pr GG H48 J GL Tryz.f48 [.sl (.p .sMemMemory) ms, .v (.pointer none)] [] = ent48 to48 ms := by kernel_rfl
noncomputable def spO48 (ms : (List (Option MemMemory))) : Option R48 := ent48 id ms
noncomputable def sp48 (ms : (List (Option MemMemory))) : R48 := (spO48 ms).getD default
noncomputable def spc48 (ms : (List (Option MemMemory))) : Bool := (spO48 ms).isSome
theorem oks48 (ms : (List (Option MemMemory))) (hc : spc48 ms = true) : Okay Pr GL 48 [.sl (.p .sMemMemory) ms, .v (.pointer none)] [] (to48 (sp48 ms)) :=
  okay_of_run (H := H48) GGok G0ok Tryz.func48 rfl (by kernel_rfl) 0 ((run48 (runL Pr GG H48 Tryz.f48 0) ms).trans (auto_ok0 (show ent48 to48 ms = (ent48 id ms).map to48 by simp only [ent48, map_cond, Option.map_some, Option.map_none, id]) (isSome_getD hc)))

noncomputable def g168 (args : List AV) (hp : List Blk) : Option (Bool × AV × List Blk) :=
  match hp, args with
  | [], [x0] => (rdS .sConfig x0).bind fun a0 => some ((spc168 a0), .tup [.v (.int .i64 ((sp168 a0).1)), .v (.int .i64 ((sp168 a0).2))], [])
  | _, _ => none
theorem g168_ok {args : List AV} {hp : List Blk} {b : Bool} {r : AV} {hp' : List Blk} (h : g168 args hp = some (b, r, hp')) (hb : b = true) : FnOk Pr 168 ∧ Okay Pr GL 168 args hp ⟨r, hp'⟩ := by
  unfold g168 at h
  split at h
  · simp only [Option.bind_eq_some_iff] at h
    obtain ⟨a0, h0, h⟩ := h
    cases h; exact ⟨fnok Tryz.func168 (by kernel_rfl) rfl, (oks168 a0 hb).ats (.cons (rdS_V h0) .nil)⟩
  · cases h
noncomputable def g106 (args : List AV) (hp : List Blk) : Option (Bool × AV × List Blk) :=
  match hp, args with
  | [], [x0] => (rdS .sConfig x0).bind fun a0 => some ((spc106 a0), .tup [.v (.int .i64 ((sp106 a0).1)), .v (.int .i64 ((sp106 a0).2))], [])
  | _, _ => none
theorem g106_ok {args : List AV} {hp : List Blk} {b : Bool} {r : AV} {hp' : List Blk} (h : g106 args hp = some (b, r, hp')) (hb : b = true) : FnOk Pr 106 ∧ Okay Pr GL 106 args hp ⟨r, hp'⟩ := by
  unfold g106 at h
  split at h
  · simp only [Option.bind_eq_some_iff] at h
    obtain ⟨a0, h0, h⟩ := h
    cases h; exact ⟨fnok Tryz.func106 (by kernel_rfl) rfl, (oks106 a0 hb).ats (.cons (rdS_V h0) .nil)⟩
  · cases h
noncomputable def g53 (args : List AV) (hp : List Blk) : Option (Bool × AV × List Blk) :=
  match hp, args with
  | [], [x0, x1] => (rdS .sConfig x0).bind fun a0 => (rdS .sLayout x1).bind fun a1 => some ((spc53 a0 a1), .own 0, [.arr 127 .sLayoutPiece (sp53 a0 a1)])
  | _, _ => none
theorem g53_ok {args : List AV} {hp : List Blk} {b : Bool} {r : AV} {hp' : List Blk} (h : g53 args hp = some (b, r, hp')) (hb : b = true) : FnOk Pr 53 ∧ Okay Pr GL 53 args hp ⟨r, hp'⟩ := by
  unfold g53 at h
  split at h
  · simp only [Option.bind_eq_some_iff] at h
    obtain ⟨a0, h0, a1, h1, h⟩ := h
    cases h; exact ⟨fnok Tryz.func53 (by kernel_rfl) rfl, (oks53 a0 a1 hb).ats (.cons (rdS_V h0) (.cons (rdS_V h1) .nil))⟩
  · cases h
noncomputable def g48 (args : List AV) (hp : List Blk) : Option (Bool × AV × List Blk) :=
  match args, hp with
  | [.sl (.p .sMemMemory) y0, .v (.pointer none)], [] => some ((spc48 y0), .v (.bool (sp48 y0)), [])
  | _, _ => none
theorem g48_ok {args : List AV} {hp : List Blk} {b : Bool} {r : AV} {hp' : List Blk} (h : g48 args hp = some (b, r, hp')) (hb : b = true) : FnOk Pr 48 ∧ Okay Pr GL 48 args hp ⟨r, hp'⟩ := by
  unfold g48 at h
  split at h
  · cases h; exact ⟨fnok Tryz.func48 (by kernel_rfl) rfl, oks48 _ hb⟩
  · cases h
noncomputable def GH : Gam := fun c args hp => match c with
  | .f f => pick1 168 f (g168 args hp) (pick1 106 f (g106 args hp) (pick1 53 f (g53 args hp) (pick1 48 f (g48 args hp) (GG (.f f) args hp))))
  | .c x => GG (.c x) args hp
theorem GHok : GOk Pr GL GH := by
  intro c args hp b r hp' h hb
  cases c with
  | f f =>
    simp only [GH] at h
    rcases pick1_ok h with ⟨rfl, h⟩ | h
    · exact g168_ok h hb
    rcases pick1_ok h with ⟨rfl, h⟩ | h
    · exact g106_ok h hb
    rcases pick1_ok h with ⟨rfl, h⟩ | h
    · exact g53_ok h hb
    rcases pick1_ok h with ⟨rfl, h⟩ | h
    · exact g48_ok h hb
    exact GGok (.f f) args hp b r hp' h hb
  | c x => exact GGok (.c x) args hp b r hp' h hb
end Go.Proofs.YtgfifnadfmaolaaGreatDoor
