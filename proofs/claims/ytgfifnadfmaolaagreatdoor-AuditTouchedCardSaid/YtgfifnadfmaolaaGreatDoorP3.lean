/- Shadows of functions (printed by pr2.py off the model's code; the kernel holds each equation to it), and what they answer. -/
import Derived.Test.YtgfifnadfmaolaaGreatDoorP2
namespace Go.Proofs.YtgfifnadfmaolaaGreatDoor
open Go.RowKit
set_option linter.unusedVariables false
set_option linter.unusedSimpArgs false
/-! ### ref16.region -/
abbrev R101 := Int
def to101 (r : R101) : Ans := ⟨.v (.int .i64 r), []⟩
inductive L101 where
  | l0 (x0 : Int)
  | l4 (x0 : Int)
  | l8 (x0 : Int) (x1 : Int)
def num101 : L101 → Nat
  | .l0 _ => 0
  | .l4 _ => 4
  | .l8 _ _ => 8
def H101 : Hint := ⟨fun n => [].any (Nat.beq n), hdAt [(0, ⟨fgt [1, 2, 3, 7, 8, 69, 70, 71] 91 0, []⟩), (4, ⟨fgt [1, 2, 3, 7, 10] 91 0, []⟩), (8, ⟨fgt [1, 2, 3, 7, 10, 11] 91 0, []⟩)], [], G0, nodp⟩
noncomputable def st101 (c : Config) (p : Int) (k : Int) : L101 → St
  | .l0 x0 => ⟨mkE [(1, .v (.int .i64 p)), (2, .v (.int .i64 k)), (3, .ref 0 0), (7, .ref 1 0), (8, .v (.int .i64 x0))] 91 0, [.cells 26 [.v (.int .i64 c.frames), .v (.int .i64 c.major), .v (.int .i64 c.kernel), .v (.int .i64 c.room), .sl (.sl .sWindow) c.cores, .sl .sPartition c.partitions, .sl .sChannel c.channels], .cells 118 [.v (.int .i64 ((atRegion ((atPartition c.partitions p.toNat).regions) k.toNat).page)), .v (.int .i64 ((atRegion ((atPartition c.partitions p.toNat).regions) k.toNat).pages)), .v (.int .i64 ((atRegion ((atPartition c.partitions p.toNat).regions) k.toNat).frame)), .v (.int .i64 ((atRegion ((atPartition c.partitions p.toNat).regions) k.toNat).rights))]], GL, 0, [], nodp⟩
  | .l4 x0 => ⟨mkE [(1, .v (.int .i64 p)), (2, .v (.int .i64 k)), (3, .ref 0 0), (7, .ref 1 0), (10, .v (.int .i64 x0))] 91 0, [.cells 26 [.v (.int .i64 c.frames), .v (.int .i64 c.major), .v (.int .i64 c.kernel), .v (.int .i64 c.room), .sl (.sl .sWindow) c.cores, .sl .sPartition c.partitions, .sl .sChannel c.channels], .cells 118 [.v (.int .i64 ((atRegion ((atPartition c.partitions p.toNat).regions) k.toNat).page)), .v (.int .i64 ((atRegion ((atPartition c.partitions p.toNat).regions) k.toNat).pages)), .v (.int .i64 ((atRegion ((atPartition c.partitions p.toNat).regions) k.toNat).frame)), .v (.int .i64 ((atRegion ((atPartition c.partitions p.toNat).regions) k.toNat).rights))]], GL, 0, [], nodp⟩
  | .l8 x0 x1 => ⟨mkE [(1, .v (.int .i64 p)), (2, .v (.int .i64 k)), (3, .ref 0 0), (7, .ref 1 0), (10, .v (.int .i64 x0)), (11, .v (.int .i64 x1))] 91 0, [.cells 26 [.v (.int .i64 c.frames), .v (.int .i64 c.major), .v (.int .i64 c.kernel), .v (.int .i64 c.room), .sl (.sl .sWindow) c.cores, .sl .sPartition c.partitions, .sl .sChannel c.channels], .cells 118 [.v (.int .i64 ((atRegion ((atPartition c.partitions p.toNat).regions) k.toNat).page)), .v (.int .i64 ((atRegion ((atPartition c.partitions p.toNat).regions) k.toNat).pages)), .v (.int .i64 ((atRegion ((atPartition c.partitions p.toNat).regions) k.toNat).frame)), .v (.int .i64 ((atRegion ((atPartition c.partitions p.toNat).regions) k.toNat).rights))]], GL, 0, [], nodp⟩
noncomputable def bod101 {R : Type} (ret : R101 → R) (c : Config) (p : Int) (k : Int) (j : L101 → Option R) : L101 → Option R
  | .l0 x0 => cond (decide ((x0 : Int) < k))
    (cond (inR p c.partitions.length) (
      cond (inR x0 ((atPartition c.partitions p.toNat).regions).length) (
        cond (sp105 ((atRegion ((atPartition c.partitions p.toNat).regions) k.toNat).page) ((atRegion ((atPartition c.partitions p.toNat).regions) k.toNat).pages) ((atRegion ((atPartition c.partitions p.toNat).regions) x0.toNat).page) ((atRegion ((atPartition c.partitions p.toNat).regions) x0.toNat).pages))
          (some (ret 410))
          (j (.l0 (IntKind.i64.wrap (x0 + 1))))) none) none)
    (j (.l4 0))
  | .l4 x0 => cond (decide ((x0 : Int) ≤ p))
    (j (.l8 x0 0))
    (some (ret 0))
  | .l8 x0 x1 => cond (inR x0 c.partitions.length) (
    cond (decide ((x1 : Int) < ((atPartition c.partitions x0.toNat).regions).length))
      (cond ((x0 : Int) == p)
        (cond (decide ((x1 : Int) ≥ k))
          (j (.l4 (IntKind.i64.wrap (x0 + 1))))
          (cond (inR x0 c.partitions.length) (
            cond (inR x1 ((atPartition c.partitions x0.toNat).regions).length) (
              cond (sp105 ((atRegion ((atPartition c.partitions p.toNat).regions) k.toNat).frame) ((atRegion ((atPartition c.partitions p.toNat).regions) k.toNat).pages) ((atRegion ((atPartition c.partitions x0.toNat).regions) x1.toNat).frame) ((atRegion ((atPartition c.partitions x0.toNat).regions) x1.toNat).pages))
                (some (ret 411))
                (j (.l8 x0 (IntKind.i64.wrap (x1 + 1))))) none) none))
        (cond (inR x0 c.partitions.length) (
          cond (inR x1 ((atPartition c.partitions x0.toNat).regions).length) (
            cond (sp105 ((atRegion ((atPartition c.partitions p.toNat).regions) k.toNat).frame) ((atRegion ((atPartition c.partitions p.toNat).regions) k.toNat).pages) ((atRegion ((atPartition c.partitions x0.toNat).regions) x1.toNat).frame) ((atRegion ((atPartition c.partitions x0.toNat).regions) x1.toNat).pages))
              (some (ret 411))
              (j (.l8 x0 (IntKind.i64.wrap (x1 + 1))))) none) none))
      (j (.l4 (IntKind.i64.wrap (x0 + 1))))) none
noncomputable def ent101 {R : Type} (ret : R101 → R) (c : Config) (p : Int) (k : Int) (j : L101 → Option R) : Option R :=
    cond (inR p c.partitions.length) (
    cond (inR k ((atPartition c.partitions p.toNat).regions).length) (
      cond (!(sp148 c (atRegion ((atPartition c.partitions p.toNat).regions) k.toNat)))
        (some (ret 409))
        (j (.l0 0))) none) none
theorem head101_0 (J : Jmp) (c : Config) (p : Int) (k : Int) (x0 : Int) : stepAt Pr GC H101 J 0 0 (bodyOf Tryz.f101) (fin Pr H101 Tryz.f101) (st101 c p k (.l0 x0)) = bod101 to101 c p k (fun l => J (num101 l) (st101 c p k l)) (.l0 x0) := by kernel_rfl
theorem head101_4 (J : Jmp) (c : Config) (p : Int) (k : Int) (x0 : Int) : stepAt Pr GC H101 J 4 0 (bodyOf Tryz.f101) (fin Pr H101 Tryz.f101) (st101 c p k (.l4 x0)) = bod101 to101 c p k (fun l => J (num101 l) (st101 c p k l)) (.l4 x0) := by kernel_rfl
theorem head101_8 (J : Jmp) (c : Config) (p : Int) (k : Int) (x0 : Int) (x1 : Int) : stepAt Pr GC H101 J 8 0 (bodyOf Tryz.f101) (fin Pr H101 Tryz.f101) (st101 c p k (.l8 x0 x1)) = bod101 to101 c p k (fun l => J (num101 l) (st101 c p k l)) (.l8 x0 x1) := by kernel_rfl
theorem run101 (J : Jmp) (c : Config) (p : Int) (k : Int) : runF Pr GC H101 J GL Tryz.f101 [(aCfg c), .v (.int .i64 p), .v (.int .i64 k)] [] = ent101 to101 c p k (fun l => J (num101 l) (st101 c p k l)) := by kernel_rfl
theorem shad101 (c : Config) (p : Int) (k : Int) : ∀ (n : Nat) (l : L101), runL Pr GC H101 Tryz.f101 n (num101 l) (st101 c p k l) = shad (bod101 to101 c p k) n l
  | 0, l => by cases l <;> rfl
  | n + 1, l => by
    have ih : (fun l => runL Pr GC H101 Tryz.f101 n (num101 l) (st101 c p k l)) = shad (bod101 to101 c p k) n := funext (shad101 c p k n)
    cases l with
    | l0 x0 => exact (step_eq ..).trans ((head101_0 ..).trans (by rw [ih]; rfl))
    | l4 x0 => exact (step_eq ..).trans ((head101_4 ..).trans (by rw [ih]; rfl))
    | l8 x0 x1 => exact (step_eq ..).trans ((head101_8 ..).trans (by rw [ih]; rfl))
theorem nat101 (c : Config) (p : Int) (k : Int) (s : L101 → Option R101) (l : L101) : bod101 to101 c p k (fun l => (s l).map to101) l = (bod101 id c p k s l).map to101 := by
  cases l <;> simp only [bod101, map_cond, Option.map_some, Option.map_none, id]
theorem ct101 (c : Config) (p : Int) (k : Int) (l : L101) : CT fun j => bod101 id c p k j l := by
  cases l <;> (dsimp only [bod101]; repeat (first | exact CT.jump _ | exact CT.const _ | apply CT.cond))
noncomputable def spL101 (c : Config) (p : Int) (k : Int) : L101 → Option R101 := lfp (bod101 id c p k)
theorem spL101_eq (c : Config) (p : Int) (k : Int) (l : L101) : spL101 c p k l = bod101 id c p k (spL101 c p k) l := lfp_eq (ct101 c p k) l
noncomputable def spO101 (c : Config) (p : Int) (k : Int) : Option R101 := ent101 id c p k (spL101 c p k)
noncomputable def sp101 (c : Config) (p : Int) (k : Int) : R101 := (spO101 c p k).getD default
noncomputable def spc101 (c : Config) (p : Int) (k : Int) : Bool := (spO101 c p k).isSome
theorem oks101 (c : Config) (p : Int) (k : Int) (hc : spc101 c p k = true) : Okay Pr GL 101 [(aCfg c), .v (.int .i64 p), .v (.int .i64 k)] [] (to101 (sp101 c p k)) := by
  obtain ⟨n, h⟩ := auto_ok (nat101 c p k) (fun s => show ent101 to101 c p k (fun l => (s l).map to101) = (ent101 id c p k s).map to101 by simp only [ent101, map_cond, Option.map_some, Option.map_none, id]) (ct101 c p k) (show CT fun j => ent101 id c p k j by dsimp only [ent101]; repeat (first | exact CT.jump _ | exact CT.const _ | apply CT.cond)) (isSome_getD hc)
  exact okay_of_run (H := H101) GCok G0ok Tryz.func101 rfl (by kernel_rfl) n (by
    rw [run101]
    rw [show (fun l => runL Pr GC H101 Tryz.f101 n (num101 l) (st101 c p k l)) = shad (bod101 to101 c p k) n from funext (shad101 c p k n)]
    exact h)

/-! ### ref15.may -/
abbrev R46 := Bool
def to46 (r : R46) : Ans := ⟨.v (.bool r), []⟩
inductive L46 where
  | l0 (x0 : Int)
  | l4 (x0 : Int)
  | l8 (x5 : Int) (x2 : Int) (x3 : Int) (x6 : Int) (x7 : Int) (x8 : Bool) (x0 : Bool) (x1 : Bool) (x4 : Int) (x9 : Int) (x10 : Int) (x11 : Int)
def num46 : L46 → Nat
  | .l0 _ => 0
  | .l4 _ => 4
  | .l8 _ _ _ _ _ _ _ _ _ _ _ _ => 8
def H46 : Hint := ⟨fun n => [].any (Nat.beq n), hdAt [(0, ⟨fgt [1, 31, 32, 61, 62, 63, 64, 65, 66, 67, 68, 98, 99, 102, 103] 106 0, []⟩), (4, ⟨fgt [1, 48, 49, 65, 66, 67] 106 0, []⟩), (8, ⟨fgt [1, 4, 6, 7, 48, 49, 61, 62, 63, 64, 68, 72, 73, 98, 99, 102, 103] 106 0, []⟩)], [], G0, nodp⟩
noncomputable def st46 (c : Config) : L46 → St
  | .l0 x0 => ⟨mkE [(1, .ref 0 0), (31, .v (.int .i64 c.partitions.length)), (32, .v (.int .i64 x0))] 106 0, [.cells 26 [.v (.int .i64 c.frames), .v (.int .i64 c.major), .v (.int .i64 c.kernel), .v (.int .i64 c.room), .sl (.sl .sWindow) c.cores, .sl .sPartition c.partitions, .sl .sChannel c.channels]], GL, 0, [], nodp⟩
  | .l4 x0 => ⟨mkE [(1, .ref 0 0), (48, .v (.int .i64 c.channels.length)), (49, .v (.int .i64 x0))] 106 0, [.cells 26 [.v (.int .i64 c.frames), .v (.int .i64 c.major), .v (.int .i64 c.kernel), .v (.int .i64 c.room), .sl (.sl .sWindow) c.cores, .sl .sPartition c.partitions, .sl .sChannel c.channels]], GL, 0, [], nodp⟩
  | .l8 x5 x2 x3 x6 x7 x8 x0 x1 x4 x9 x10 x11 => ⟨mkE [(1, .ref 0 0), (4, .v (.int .i64 x5)), (6, .v (.int .i64 x2)), (7, .v (.int .i64 x3)), (48, .v (.int .i64 c.channels.length)), (49, .v (.int .i64 x6)), (61, .ref 1 0), (62, .v (.int .i64 x7)), (63, .v (.bool x8)), (64, .v (.bool x0)), (68, .v (.bool x1)), (72, .v (.int .i64 c.partitions.length)), (73, .v (.int .i64 x4))] 106 0, [.cells 26 [.v (.int .i64 c.frames), .v (.int .i64 c.major), .v (.int .i64 c.kernel), .v (.int .i64 c.room), .sl (.sl .sWindow) c.cores, .sl .sPartition c.partitions, .sl .sChannel c.channels], .cells 97 [.v (.int .i64 x9), .v (.int .i64 x10), .v (.int .i64 x11)]], GL, 0, [], nodp⟩
noncomputable def bod46 {R : Type} (ret : R46 → R) (c : Config) (j : L46 → Option R) : L46 → Option R
  | .l0 x0 => cond (decide ((x0 : Int) < c.partitions.length))
    (cond (inR x0 c.partitions.length) (
      cond (spc90 (atPartition c.partitions x0.toNat) c.channels.length) (
        cond (!(sp90 (atPartition c.partitions x0.toNat) c.channels.length))
          (some (ret false))
          (j (.l0 (IntKind.i64.wrap (x0 + 1))))) none) none)
    (j (.l4 0))
  | .l4 x0 => cond (decide ((x0 : Int) < c.channels.length))
    (cond (inR x0 c.channels.length) (
      cond (((sp91 (atChannel c.channels x0.toNat)) : Int) == 0)
        (some (ret false))
        (cond (((atChannel c.channels x0.toNat).kind : Int) == 1)
          (cond (!(((atChannel c.channels x0.toNat).depth : Int) == 0))
            (some (ret false))
            (j (.l8 x0 0 0 x0 ((atChannel c.channels x0.toNat).kind) (((atChannel c.channels x0.toNat).kind : Int) == 1) true (!(((atChannel c.channels x0.toNat).depth : Int) == 0)) 0 ((atChannel c.channels x0.toNat).kind) ((atChannel c.channels x0.toNat).words) ((atChannel c.channels x0.toNat).depth))))
          (j (.l8 x0 0 0 x0 ((atChannel c.channels x0.toNat).kind) (((atChannel c.channels x0.toNat).kind : Int) == 1) false false 0 ((atChannel c.channels x0.toNat).kind) ((atChannel c.channels x0.toNat).words) ((atChannel c.channels x0.toNat).depth))))) none)
    (some (ret true))
  | .l8 x5 x2 x3 x6 x7 x8 x0 x1 x4 x9 x10 x11 => cond (decide ((x4 : Int) < c.partitions.length))
    (cond (inR x4 c.partitions.length) (
      cond (spc92 (atPartition c.partitions x4.toNat) x5 true) (
        cond (inR x4 c.partitions.length) (
          cond (spc92 (atPartition c.partitions x4.toNat) x5 false) (
            j (.l8 x5 (IntKind.i64.wrap (x2 + (sp92 (atPartition c.partitions x4.toNat) x5 true))) (IntKind.i64.wrap (x3 + (sp92 (atPartition c.partitions x4.toNat) x5 false))) x6 x7 x8 x0 x1 (IntKind.i64.wrap (x4 + 1)) x9 x10 x11)) none) none) none) none)
    (cond (!((x2 : Int) == 1))
      (some (ret false))
      (cond (decide ((x3 : Int) < 1))
        (some (ret false))
        (cond (decide ((x3 : Int) > 4))
          (some (ret false))
          (j (.l4 (IntKind.i64.wrap (x6 + 1)))))))
noncomputable def ent46 {R : Type} (ret : R46 → R) (c : Config) (j : L46 → Option R) : Option R :=
    cond (decide ((c.kernel : Int) < 0))
    (some (ret false))
    (cond (decide ((c.kernel : Int) ≥ 1024))
      (some (ret false))
      (cond (decide ((c.partitions.length : Int) > 8))
        (some (ret false))
        (cond (decide ((c.channels.length : Int) > 16))
          (some (ret false))
          (j (.l0 0)))))
theorem head46_0 (J : Jmp) (c : Config) (x0 : Int) : stepAt Pr GC H46 J 0 0 (bodyOf Tryz.f46) (fin Pr H46 Tryz.f46) (st46 c (.l0 x0)) = bod46 to46 c (fun l => J (num46 l) (st46 c l)) (.l0 x0) := by kernel_rfl
theorem head46_4 (J : Jmp) (c : Config) (x0 : Int) : stepAt Pr GC H46 J 4 0 (bodyOf Tryz.f46) (fin Pr H46 Tryz.f46) (st46 c (.l4 x0)) = bod46 to46 c (fun l => J (num46 l) (st46 c l)) (.l4 x0) := by kernel_rfl
theorem head46_8 (J : Jmp) (c : Config) (x5 : Int) (x2 : Int) (x3 : Int) (x6 : Int) (x7 : Int) (x8 : Bool) (x0 : Bool) (x1 : Bool) (x4 : Int) (x9 : Int) (x10 : Int) (x11 : Int) : stepAt Pr GC H46 J 8 0 (bodyOf Tryz.f46) (fin Pr H46 Tryz.f46) (st46 c (.l8 x5 x2 x3 x6 x7 x8 x0 x1 x4 x9 x10 x11)) = bod46 to46 c (fun l => J (num46 l) (st46 c l)) (.l8 x5 x2 x3 x6 x7 x8 x0 x1 x4 x9 x10 x11) := by kernel_rfl
theorem run46 (J : Jmp) (c : Config) : runF Pr GC H46 J GL Tryz.f46 [(aCfg c)] [] = ent46 to46 c (fun l => J (num46 l) (st46 c l)) := by kernel_rfl
theorem shad46 (c : Config) : ∀ (n : Nat) (l : L46), runL Pr GC H46 Tryz.f46 n (num46 l) (st46 c l) = shad (bod46 to46 c) n l
  | 0, l => by cases l <;> rfl
  | n + 1, l => by
    have ih : (fun l => runL Pr GC H46 Tryz.f46 n (num46 l) (st46 c l)) = shad (bod46 to46 c) n := funext (shad46 c n)
    cases l with
    | l0 x0 => exact (step_eq ..).trans ((head46_0 ..).trans (by rw [ih]; rfl))
    | l4 x0 => exact (step_eq ..).trans ((head46_4 ..).trans (by rw [ih]; rfl))
    | l8 x5 x2 x3 x6 x7 x8 x0 x1 x4 x9 x10 x11 => exact (step_eq ..).trans ((head46_8 ..).trans (by rw [ih]; rfl))
theorem nat46 (c : Config) (s : L46 → Option R46) (l : L46) : bod46 to46 c (fun l => (s l).map to46) l = (bod46 id c s l).map to46 := by
  cases l <;> simp only [bod46, map_cond, Option.map_some, Option.map_none, id]
theorem ct46 (c : Config) (l : L46) : CT fun j => bod46 id c j l := by
  cases l <;> (dsimp only [bod46]; repeat (first | exact CT.jump _ | exact CT.const _ | apply CT.cond))
noncomputable def spL46 (c : Config) : L46 → Option R46 := lfp (bod46 id c)
theorem spL46_eq (c : Config) (l : L46) : spL46 c l = bod46 id c (spL46 c) l := lfp_eq (ct46 c) l
noncomputable def spO46 (c : Config) : Option R46 := ent46 id c (spL46 c)
noncomputable def sp46 (c : Config) : R46 := (spO46 c).getD default
noncomputable def spc46 (c : Config) : Bool := (spO46 c).isSome
theorem oks46 (c : Config) (hc : spc46 c = true) : Okay Pr GL 46 [(aCfg c)] [] (to46 (sp46 c)) := by
  obtain ⟨n, h⟩ := auto_ok (nat46 c) (fun s => show ent46 to46 c (fun l => (s l).map to46) = (ent46 id c s).map to46 by simp only [ent46, map_cond, Option.map_some, Option.map_none, id]) (ct46 c) (show CT fun j => ent46 id c j by dsimp only [ent46]; repeat (first | exact CT.jump _ | exact CT.const _ | apply CT.cond)) (isSome_getD hc)
  exact okay_of_run (H := H46) GCok G0ok Tryz.func46 rfl (by kernel_rfl) n (by
    rw [run46]
    rw [show (fun l => runL Pr GC H46 Tryz.f46 n (num46 l) (st46 c l)) = shad (bod46 to46 c) n from funext (shad46 c n)]
    exact h)

/-! ### ref15.pieces -/
abbrev R47 := (List Bulkheadref15Piece)
def to47 (r : R47) : Ans := ⟨.own 0, [.arr 116 .sBulkheadref15Piece r]⟩
inductive L47 where
  | l0 (x0 : Int) (x1 : Int) (x2 : List Bulkheadref15Piece)
  | l4 (x0 : Int) (x1 : Int) (x2 : List Bulkheadref15Piece)
  | l8 (x0 : Int) (x1 : Int) (x2 : Int) (x7 : Int) (x3 : List Bulkheadref15Piece) (x4 : Int) (x5 : Int) (x6 : Int)
  | l16 (x0 : Int) (x1 : List Bulkheadref15Piece)
  | l12 (x0 : Int) (x1 : Int) (x8 : Int) (x2 : Int) (x9 : Int) (x10 : Int) (x7 : Int) (x3 : List Bulkheadref15Piece) (x4 : Int) (x5 : Int) (x6 : Int)
  | l20 (x0 : Int) (x2 : Int) (x1 : List Bulkheadref15Piece)
  | l61 (x0 : Int) (x1 : Int) (x7 : Int) (x2 : Int) (x8 : Int) (x9 : Int) (x10 : Int) (x3 : List Bulkheadref15Piece) (x4 : Int) (x5 : Int) (x6 : Int)
  | l24 (x0 : Int) (x4 : Int) (x2 : Int) (x5 : Int) (x3 : Int) (x1 : List Bulkheadref15Piece)
  | l89 (x0 : Int) (x3 : Int) (x2 : Int) (x4 : Int) (x5 : Int) (x1 : List Bulkheadref15Piece)
  | l28 (x0 : Int) (x3 : Int) (x4 : Int) (x5 : Int) (x2 : Int) (x1 : List Bulkheadref15Piece)
def num47 : L47 → Nat
  | .l0 _ _ _ => 0
  | .l4 _ _ _ => 4
  | .l8 _ _ _ _ _ _ _ _ => 8
  | .l16 _ _ => 16
  | .l12 _ _ _ _ _ _ _ _ _ _ _ => 12
  | .l20 _ _ _ => 20
  | .l61 _ _ _ _ _ _ _ _ _ _ _ => 61
  | .l24 _ _ _ _ _ _ => 24
  | .l89 _ _ _ _ _ _ => 89
  | .l28 _ _ _ _ _ _ => 28
def H47 : Hint := ⟨fun n => [30, 44].any (Nat.beq n), hdAt [(0, ⟨fgt [1, 3, 4, 27, 28, 121, 122, 123] 181 0, []⟩), (4, ⟨fgt [1, 3, 4, 60, 61, 121, 122, 123] 181 0, []⟩), (8, ⟨fgt [1, 3, 4, 6, 7, 60, 61, 93, 94, 121, 122, 123] 181 0, []⟩), (16, ⟨fgt [1, 3, 4] 181 0, []⟩), (12, ⟨fgt [1, 3, 4, 6, 7, 8, 60, 61, 93, 94, 103, 104, 121, 122, 123] 181 0, []⟩), (20, ⟨fgt [1, 3, 4, 149, 150] 181 0, []⟩), (61, ⟨fgt [1, 3, 4, 6, 7, 8, 60, 61, 93, 94, 103, 104] 181 0, []⟩), (24, ⟨fgt [1, 3, 4, 11, 12, 149, 150, 153] 181 0, []⟩), (89, ⟨fgt [1, 3, 4, 11, 12, 149, 150, 153] 181 0, []⟩), (28, ⟨fgt [1, 3, 4, 11, 149, 150, 166, 167] 181 0, []⟩)], [], G0, nodp⟩
noncomputable def st47 (c : Config) : L47 → St
  | .l0 x0 x1 x2 => ⟨mkE [(1, .ref 0 0), (3, .own 1), (4, .v (.int .i64 x0)), (27, .v (.int .i64 c.partitions.length)), (28, .v (.int .i64 x1))] 181 0, [.cells 26 [.v (.int .i64 c.frames), .v (.int .i64 c.major), .v (.int .i64 c.kernel), .v (.int .i64 c.room), .sl (.sl .sWindow) c.cores, .sl .sPartition c.partitions, .sl .sChannel c.channels], .arr 116 .sBulkheadref15Piece x2], GL, 0, [], nodp⟩
  | .l4 x0 x1 x2 => ⟨mkE [(1, .ref 0 0), (3, .own 1), (4, .v (.int .i64 x0)), (60, .v (.int .i64 c.channels.length)), (61, .v (.int .i64 x1))] 181 0, [.cells 26 [.v (.int .i64 c.frames), .v (.int .i64 c.major), .v (.int .i64 c.kernel), .v (.int .i64 c.room), .sl (.sl .sWindow) c.cores, .sl .sPartition c.partitions, .sl .sChannel c.channels], .arr 116 .sBulkheadref15Piece x2], GL, 0, [], nodp⟩
  | .l8 x0 x1 x2 x7 x3 x4 x5 x6 => ⟨mkE [(1, .ref 0 0), (3, .own 1), (4, .v (.int .i64 x0)), (6, .v (.int .i64 x1)), (7, .ref 2 0), (60, .v (.int .i64 c.channels.length)), (61, .v (.int .i64 x2)), (93, .v (.int .i64 c.partitions.length)), (94, .v (.int .i64 x7))] 181 0, [.cells 26 [.v (.int .i64 c.frames), .v (.int .i64 c.major), .v (.int .i64 c.kernel), .v (.int .i64 c.room), .sl (.sl .sWindow) c.cores, .sl .sPartition c.partitions, .sl .sChannel c.channels], .arr 116 .sBulkheadref15Piece x3, .cells 97 [.v (.int .i64 x4), .v (.int .i64 x5), .v (.int .i64 x6)]], GL, 0, [], nodp⟩
  | .l16 x0 x1 => ⟨mkE [(1, .ref 0 0), (3, .own 1), (4, .v (.int .i64 x0))] 181 0, [.cells 26 [.v (.int .i64 c.frames), .v (.int .i64 c.major), .v (.int .i64 c.kernel), .v (.int .i64 c.room), .sl (.sl .sWindow) c.cores, .sl .sPartition c.partitions, .sl .sChannel c.channels], .arr 116 .sBulkheadref15Piece x1], GL, 0, [], nodp⟩
  | .l12 x0 x1 x8 x2 x9 x10 x7 x3 x4 x5 x6 => ⟨mkE [(1, .ref 0 0), (3, .own 1), (4, .v (.int .i64 x0)), (6, .v (.int .i64 x1)), (7, .ref 2 0), (8, .v (.int .i64 x8)), (60, .v (.int .i64 c.channels.length)), (61, .v (.int .i64 x2)), (93, .v (.int .i64 c.partitions.length)), (94, .v (.int .i64 x9)), (103, .v (.int .i64 x10)), (104, .v (.int .i64 x7))] 181 0, [.cells 26 [.v (.int .i64 c.frames), .v (.int .i64 c.major), .v (.int .i64 c.kernel), .v (.int .i64 c.room), .sl (.sl .sWindow) c.cores, .sl .sPartition c.partitions, .sl .sChannel c.channels], .arr 116 .sBulkheadref15Piece x3, .cells 97 [.v (.int .i64 x4), .v (.int .i64 x5), .v (.int .i64 x6)]], GL, 0, [], nodp⟩
  | .l20 x0 x2 x1 => ⟨mkE [(1, .ref 0 0), (3, .own 1), (4, .v (.int .i64 x0)), (149, .v (.int .i64 c.partitions.length)), (150, .v (.int .i64 x2))] 181 0, [.cells 26 [.v (.int .i64 c.frames), .v (.int .i64 c.major), .v (.int .i64 c.kernel), .v (.int .i64 c.room), .sl (.sl .sWindow) c.cores, .sl .sPartition c.partitions, .sl .sChannel c.channels], .arr 116 .sBulkheadref15Piece x1], GL, 0, [], nodp⟩
  | .l61 x0 x1 x7 x2 x8 x9 x10 x3 x4 x5 x6 => ⟨mkE [(1, .ref 0 0), (3, .own 1), (4, .v (.int .i64 x0)), (6, .v (.int .i64 x1)), (7, .ref 2 0), (8, .v (.int .i64 x7)), (60, .v (.int .i64 c.channels.length)), (61, .v (.int .i64 x2)), (93, .v (.int .i64 c.partitions.length)), (94, .v (.int .i64 x8)), (103, .v (.int .i64 x9)), (104, .v (.int .i64 x10))] 181 0, [.cells 26 [.v (.int .i64 c.frames), .v (.int .i64 c.major), .v (.int .i64 c.kernel), .v (.int .i64 c.room), .sl (.sl .sWindow) c.cores, .sl .sPartition c.partitions, .sl .sChannel c.channels], .arr 116 .sBulkheadref15Piece x3, .cells 97 [.v (.int .i64 x4), .v (.int .i64 x5), .v (.int .i64 x6)]], GL, 0, [], nodp⟩
  | .l24 x0 x4 x2 x5 x3 x1 => ⟨mkE [(1, .ref 0 0), (3, .own 1), (4, .v (.int .i64 x0)), (11, .v (.int .i64 x4)), (12, .v (.int .i64 x2)), (149, .v (.int .i64 c.partitions.length)), (150, .v (.int .i64 x5)), (153, .v (.int .i64 x3))] 181 0, [.cells 26 [.v (.int .i64 c.frames), .v (.int .i64 c.major), .v (.int .i64 c.kernel), .v (.int .i64 c.room), .sl (.sl .sWindow) c.cores, .sl .sPartition c.partitions, .sl .sChannel c.channels], .arr 116 .sBulkheadref15Piece x1], GL, 0, [], nodp⟩
  | .l89 x0 x3 x2 x4 x5 x1 => ⟨mkE [(1, .ref 0 0), (3, .own 1), (4, .v (.int .i64 x0)), (11, .v (.int .i64 x3)), (12, .v (.int .i64 x2)), (149, .v (.int .i64 c.partitions.length)), (150, .v (.int .i64 x4)), (153, .v (.int .i64 x5))] 181 0, [.cells 26 [.v (.int .i64 c.frames), .v (.int .i64 c.major), .v (.int .i64 c.kernel), .v (.int .i64 c.room), .sl (.sl .sWindow) c.cores, .sl .sPartition c.partitions, .sl .sChannel c.channels], .arr 116 .sBulkheadref15Piece x1], GL, 0, [], nodp⟩
  | .l28 x0 x3 x4 x5 x2 x1 => ⟨mkE [(1, .ref 0 0), (3, .own 1), (4, .v (.int .i64 x0)), (11, .v (.int .i64 x3)), (149, .v (.int .i64 c.partitions.length)), (150, .v (.int .i64 x4)), (166, .v (.int .i64 x5)), (167, .v (.int .i64 x2))] 181 0, [.cells 26 [.v (.int .i64 c.frames), .v (.int .i64 c.major), .v (.int .i64 c.kernel), .v (.int .i64 c.room), .sl (.sl .sWindow) c.cores, .sl .sPartition c.partitions, .sl .sChannel c.channels], .arr 116 .sBulkheadref15Piece x1], GL, 0, [], nodp⟩
noncomputable def bod47 {R : Type} (ret : R47 → R) (c : Config) (j : L47 → Option R) : L47 → Option R
  | .l0 x0 x1 x2 => cond (decide ((x1 : Int) < c.partitions.length))
    (cond (leB (((x2 : List Bulkheadref15Piece).length + ([(⟨x0, 2, (⟨3, x1, 0⟩ : Owner)⟩ : Bulkheadref15Piece)] : List Bulkheadref15Piece).length) * 40) 140737488355328) (
      cond (leB (((((x2 : List Bulkheadref15Piece) ++ [(⟨x0, 2, (⟨3, x1, 0⟩ : Owner)⟩ : Bulkheadref15Piece)]) : List Bulkheadref15Piece).length + ([(⟨(IntKind.i64.wrap (x0 + 2)), 17, (⟨4, x1, 0⟩ : Owner)⟩ : Bulkheadref15Piece)] : List Bulkheadref15Piece).length) * 40) 140737488355328) (
        cond (leB (((((((x2 : List Bulkheadref15Piece) ++ [(⟨x0, 2, (⟨3, x1, 0⟩ : Owner)⟩ : Bulkheadref15Piece)]) : List Bulkheadref15Piece) ++ [(⟨(IntKind.i64.wrap (x0 + 2)), 17, (⟨4, x1, 0⟩ : Owner)⟩ : Bulkheadref15Piece)]) : List Bulkheadref15Piece).length + ([(⟨(IntKind.i64.wrap ((IntKind.i64.wrap (x0 + 2)) + 17)), 5, (⟨5, x1, 0⟩ : Owner)⟩ : Bulkheadref15Piece)] : List Bulkheadref15Piece).length) * 40) 140737488355328) (
          j (.l0 (IntKind.i64.wrap (x0 + 24)) (IntKind.i64.wrap (x1 + 1)) ((((((x2 : List Bulkheadref15Piece) ++ [(⟨x0, 2, (⟨3, x1, 0⟩ : Owner)⟩ : Bulkheadref15Piece)]) : List Bulkheadref15Piece) ++ [(⟨(IntKind.i64.wrap (x0 + 2)), 17, (⟨4, x1, 0⟩ : Owner)⟩ : Bulkheadref15Piece)]) : List Bulkheadref15Piece) ++ [(⟨(IntKind.i64.wrap ((IntKind.i64.wrap (x0 + 2)) + 17)), 5, (⟨5, x1, 0⟩ : Owner)⟩ : Bulkheadref15Piece)]))) none) none) none)
    (j (.l4 x0 0 x2))
  | .l4 x0 x1 x2 => cond (decide ((x1 : Int) < c.channels.length))
    (cond (inR x1 c.channels.length) (
      cond (leB (((x2 : List Bulkheadref15Piece).length + ([(⟨x0, 2, (⟨6, x1, 0⟩ : Owner)⟩ : Bulkheadref15Piece)] : List Bulkheadref15Piece).length) * 40) 140737488355328) (
        cond (leB (((((x2 : List Bulkheadref15Piece) ++ [(⟨x0, 2, (⟨6, x1, 0⟩ : Owner)⟩ : Bulkheadref15Piece)]) : List Bulkheadref15Piece).length + ([(⟨(IntKind.i64.wrap (x0 + 2)), (sp93 (atChannel c.channels x1.toNat)), (⟨7, x1, 0⟩ : Owner)⟩ : Bulkheadref15Piece)] : List Bulkheadref15Piece).length) * 40) 140737488355328) (
          j (.l8 (IntKind.i64.wrap (x0 + (IntKind.i64.wrap (2 + (sp93 (atChannel c.channels x1.toNat)))))) x1 x1 0 ((((x2 : List Bulkheadref15Piece) ++ [(⟨x0, 2, (⟨6, x1, 0⟩ : Owner)⟩ : Bulkheadref15Piece)]) : List Bulkheadref15Piece) ++ [(⟨(IntKind.i64.wrap (x0 + 2)), (sp93 (atChannel c.channels x1.toNat)), (⟨7, x1, 0⟩ : Owner)⟩ : Bulkheadref15Piece)]) ((atChannel c.channels x1.toNat).kind) ((atChannel c.channels x1.toNat).words) ((atChannel c.channels x1.toNat).depth))) none) none) none)
    (j (.l16 x0 x2))
  | .l8 x0 x1 x2 x7 x3 x4 x5 x6 => cond (decide ((x7 : Int) < c.partitions.length))
    (cond (inR x7 c.partitions.length) (j (.l12 x0 x1 x7 x2 x7 (((atPartition c.partitions x7.toNat).ports).length) 0 x3 x4 x5 x6)) none)
    (j (.l4 x0 (IntKind.i64.wrap (x2 + 1)) x3))
  | .l16 x0 x1 => cond (!(((bop .rem .i64 x0 16) : Int) == 0))
    (j (.l16 (IntKind.i64.wrap (x0 + 1)) x1))
    (j (.l20 x0 0 x1))
  | .l12 x0 x1 x8 x2 x9 x10 x7 x3 x4 x5 x6 => cond (decide ((x7 : Int) < x10))
    (cond (inR x8 c.partitions.length) (
      cond (inR x7 ((atPartition c.partitions x8.toNat).ports).length) (
        cond (((atPort ((atPartition c.partitions x8.toNat).ports) x7.toNat).channel : Int) == x1)
          (cond (!((atPort ((atPartition c.partitions x8.toNat).ports) x7.toNat).source))
            (cond (leB (((x3 : List Bulkheadref15Piece).length + ([(⟨x0, (sp91 (⟨x4, x5, x6⟩ : Channel)), (⟨8, x8, x7⟩ : Owner)⟩ : Bulkheadref15Piece)] : List Bulkheadref15Piece).length) * 40) 140737488355328) (
              j (.l61 (IntKind.i64.wrap (x0 + (sp91 (⟨x4, x5, x6⟩ : Channel)))) x1 x8 x2 x9 x10 x7 ((x3 : List Bulkheadref15Piece) ++ [(⟨x0, (sp91 (⟨x4, x5, x6⟩ : Channel)), (⟨8, x8, x7⟩ : Owner)⟩ : Bulkheadref15Piece)]) x4 x5 x6)) none)
            (j (.l61 x0 x1 x8 x2 x9 x10 x7 x3 x4 x5 x6)))
          (j (.l61 x0 x1 x8 x2 x9 x10 x7 x3 x4 x5 x6))) none) none)
    (j (.l8 x0 x1 x2 (IntKind.i64.wrap (x9 + 1)) x3 x4 x5 x6))
  | .l20 x0 x2 x1 => cond (decide ((x2 : Int) < c.partitions.length))
    (j (.l24 x0 x2 1 x2 0 x1))
    (some (ret x1))
  | .l61 x0 x1 x7 x2 x8 x9 x10 x3 x4 x5 x6 => j (.l12 x0 x1 x7 x2 x8 x9 (IntKind.i64.wrap (x10 + 1)) x3 x4 x5 x6)
  | .l24 x0 x4 x2 x5 x3 x1 => cond (decide ((x3 : Int) < 16))
    (cond (inR x4 c.partitions.length) (
      cond (spc94 (atPartition c.partitions x4.toNat) x3) (
        cond (sp94 (atPartition c.partitions x4.toNat) x3)
          (j (.l89 x0 x4 (IntKind.i64.wrap (x2 + 1)) x5 x3 x1))
          (j (.l89 x0 x4 x2 x5 x3 x1))) none) none)
    (j (.l28 x0 x4 x5 x2 0 x1))
  | .l89 x0 x3 x2 x4 x5 x1 => j (.l24 x0 x3 x2 x4 (IntKind.i64.wrap (x5 + 1)) x1)
  | .l28 x0 x3 x4 x5 x2 x1 => cond (decide ((x2 : Int) < x5))
    (cond (leB (((x1 : List Bulkheadref15Piece).length + ([(⟨x0, 16, (⟨9, x3, 0⟩ : Owner)⟩ : Bulkheadref15Piece)] : List Bulkheadref15Piece).length) * 40) 140737488355328) (
      j (.l28 (IntKind.i64.wrap (x0 + 16)) x3 x4 x5 (IntKind.i64.wrap (x2 + 1)) ((x1 : List Bulkheadref15Piece) ++ [(⟨x0, 16, (⟨9, x3, 0⟩ : Owner)⟩ : Bulkheadref15Piece)]))) none)
    (j (.l20 x0 (IntKind.i64.wrap (x4 + 1)) x1))
noncomputable def ent47 {R : Type} (ret : R47 → R) (c : Config) (j : L47 → Option R) : Option R :=
    cond (leB ((([] : List Bulkheadref15Piece).length + ([(⟨(IntKind.i64.wrap (16 * c.kernel)), 2, (⟨2, 0, 0⟩ : Owner)⟩ : Bulkheadref15Piece)] : List Bulkheadref15Piece).length) * 40) 140737488355328) (
    j (.l0 (IntKind.i64.wrap ((IntKind.i64.wrap (16 * c.kernel)) + 2)) 0 (([] : List Bulkheadref15Piece) ++ [(⟨(IntKind.i64.wrap (16 * c.kernel)), 2, (⟨2, 0, 0⟩ : Owner)⟩ : Bulkheadref15Piece)]))) none
theorem head47_0 (J : Jmp) (c : Config) (x0 : Int) (x1 : Int) (x2 : List Bulkheadref15Piece) : stepAt Pr GC H47 J 0 0 (bodyOf Tryz.f47) (fin Pr H47 Tryz.f47) (st47 c (.l0 x0 x1 x2)) = bod47 to47 c (fun l => J (num47 l) (st47 c l)) (.l0 x0 x1 x2) := by kernel_rfl
theorem head47_4 (J : Jmp) (c : Config) (x0 : Int) (x1 : Int) (x2 : List Bulkheadref15Piece) : stepAt Pr GC H47 J 4 0 (bodyOf Tryz.f47) (fin Pr H47 Tryz.f47) (st47 c (.l4 x0 x1 x2)) = bod47 to47 c (fun l => J (num47 l) (st47 c l)) (.l4 x0 x1 x2) := by kernel_rfl
theorem head47_8 (J : Jmp) (c : Config) (x0 : Int) (x1 : Int) (x2 : Int) (x7 : Int) (x3 : List Bulkheadref15Piece) (x4 : Int) (x5 : Int) (x6 : Int) : stepAt Pr GC H47 J 8 0 (bodyOf Tryz.f47) (fin Pr H47 Tryz.f47) (st47 c (.l8 x0 x1 x2 x7 x3 x4 x5 x6)) = bod47 to47 c (fun l => J (num47 l) (st47 c l)) (.l8 x0 x1 x2 x7 x3 x4 x5 x6) := by kernel_rfl
theorem head47_16 (J : Jmp) (c : Config) (x0 : Int) (x1 : List Bulkheadref15Piece) : stepAt Pr GC H47 J 16 0 (bodyOf Tryz.f47) (fin Pr H47 Tryz.f47) (st47 c (.l16 x0 x1)) = bod47 to47 c (fun l => J (num47 l) (st47 c l)) (.l16 x0 x1) := by kernel_rfl
theorem head47_12 (J : Jmp) (c : Config) (x0 : Int) (x1 : Int) (x8 : Int) (x2 : Int) (x9 : Int) (x10 : Int) (x7 : Int) (x3 : List Bulkheadref15Piece) (x4 : Int) (x5 : Int) (x6 : Int) : stepAt Pr GC H47 J 12 0 (bodyOf Tryz.f47) (fin Pr H47 Tryz.f47) (st47 c (.l12 x0 x1 x8 x2 x9 x10 x7 x3 x4 x5 x6)) = bod47 to47 c (fun l => J (num47 l) (st47 c l)) (.l12 x0 x1 x8 x2 x9 x10 x7 x3 x4 x5 x6) := by kernel_rfl
theorem head47_20 (J : Jmp) (c : Config) (x0 : Int) (x2 : Int) (x1 : List Bulkheadref15Piece) : stepAt Pr GC H47 J 20 0 (bodyOf Tryz.f47) (fin Pr H47 Tryz.f47) (st47 c (.l20 x0 x2 x1)) = bod47 to47 c (fun l => J (num47 l) (st47 c l)) (.l20 x0 x2 x1) := by kernel_rfl
theorem head47_61 (J : Jmp) (c : Config) (x0 : Int) (x1 : Int) (x7 : Int) (x2 : Int) (x8 : Int) (x9 : Int) (x10 : Int) (x3 : List Bulkheadref15Piece) (x4 : Int) (x5 : Int) (x6 : Int) : stepAt Pr GC H47 J 61 0 (bodyOf Tryz.f47) (fin Pr H47 Tryz.f47) (st47 c (.l61 x0 x1 x7 x2 x8 x9 x10 x3 x4 x5 x6)) = bod47 to47 c (fun l => J (num47 l) (st47 c l)) (.l61 x0 x1 x7 x2 x8 x9 x10 x3 x4 x5 x6) := by kernel_rfl
theorem head47_24 (J : Jmp) (c : Config) (x0 : Int) (x4 : Int) (x2 : Int) (x5 : Int) (x3 : Int) (x1 : List Bulkheadref15Piece) : stepAt Pr GC H47 J 24 0 (bodyOf Tryz.f47) (fin Pr H47 Tryz.f47) (st47 c (.l24 x0 x4 x2 x5 x3 x1)) = bod47 to47 c (fun l => J (num47 l) (st47 c l)) (.l24 x0 x4 x2 x5 x3 x1) := by kernel_rfl
theorem head47_89 (J : Jmp) (c : Config) (x0 : Int) (x3 : Int) (x2 : Int) (x4 : Int) (x5 : Int) (x1 : List Bulkheadref15Piece) : stepAt Pr GC H47 J 89 0 (bodyOf Tryz.f47) (fin Pr H47 Tryz.f47) (st47 c (.l89 x0 x3 x2 x4 x5 x1)) = bod47 to47 c (fun l => J (num47 l) (st47 c l)) (.l89 x0 x3 x2 x4 x5 x1) := by kernel_rfl
theorem head47_28 (J : Jmp) (c : Config) (x0 : Int) (x3 : Int) (x4 : Int) (x5 : Int) (x2 : Int) (x1 : List Bulkheadref15Piece) : stepAt Pr GC H47 J 28 0 (bodyOf Tryz.f47) (fin Pr H47 Tryz.f47) (st47 c (.l28 x0 x3 x4 x5 x2 x1)) = bod47 to47 c (fun l => J (num47 l) (st47 c l)) (.l28 x0 x3 x4 x5 x2 x1) := by kernel_rfl
theorem run47 (J : Jmp) (c : Config) : runF Pr GC H47 J GL Tryz.f47 [(aCfg c)] [] = ent47 to47 c (fun l => J (num47 l) (st47 c l)) := by kernel_rfl
theorem shad47 (c : Config) : ∀ (n : Nat) (l : L47), runL Pr GC H47 Tryz.f47 n (num47 l) (st47 c l) = shad (bod47 to47 c) n l
  | 0, l => by cases l <;> rfl
  | n + 1, l => by
    have ih : (fun l => runL Pr GC H47 Tryz.f47 n (num47 l) (st47 c l)) = shad (bod47 to47 c) n := funext (shad47 c n)
    cases l with
    | l0 x0 x1 x2 => exact (step_eq ..).trans ((head47_0 ..).trans (by rw [ih]; rfl))
    | l4 x0 x1 x2 => exact (step_eq ..).trans ((head47_4 ..).trans (by rw [ih]; rfl))
    | l8 x0 x1 x2 x7 x3 x4 x5 x6 => exact (step_eq ..).trans ((head47_8 ..).trans (by rw [ih]; rfl))
    | l16 x0 x1 => exact (step_eq ..).trans ((head47_16 ..).trans (by rw [ih]; rfl))
    | l12 x0 x1 x8 x2 x9 x10 x7 x3 x4 x5 x6 => exact (step_eq ..).trans ((head47_12 ..).trans (by rw [ih]; rfl))
    | l20 x0 x2 x1 => exact (step_eq ..).trans ((head47_20 ..).trans (by rw [ih]; rfl))
    | l61 x0 x1 x7 x2 x8 x9 x10 x3 x4 x5 x6 => exact (step_eq ..).trans ((head47_61 ..).trans (by rw [ih]; rfl))
    | l24 x0 x4 x2 x5 x3 x1 => exact (step_eq ..).trans ((head47_24 ..).trans (by rw [ih]; rfl))
    | l89 x0 x3 x2 x4 x5 x1 => exact (step_eq ..).trans ((head47_89 ..).trans (by rw [ih]; rfl))
    | l28 x0 x3 x4 x5 x2 x1 => exact (step_eq ..).trans ((head47_28 ..).trans (by rw [ih]; rfl))
theorem nat47 (c : Config) (s : L47 → Option R47) (l : L47) : bod47 to47 c (fun l => (s l).map to47) l = (bod47 id c s l).map to47 := by
  cases l <;> simp only [bod47, map_cond, Option.map_some, Option.map_none, id]
theorem ct47 (c : Config) (l : L47) : CT fun j => bod47 id c j l := by
  cases l <;> (dsimp only [bod47]; repeat (first | exact CT.jump _ | exact CT.const _ | apply CT.cond))
noncomputable def spL47 (c : Config) : L47 → Option R47 := lfp (bod47 id c)
theorem spL47_eq (c : Config) (l : L47) : spL47 c l = bod47 id c (spL47 c) l := lfp_eq (ct47 c) l
noncomputable def spO47 (c : Config) : Option R47 := ent47 id c (spL47 c)
noncomputable def sp47 (c : Config) : R47 := (spO47 c).getD default
noncomputable def spc47 (c : Config) : Bool := (spO47 c).isSome
theorem oks47 (c : Config) (hc : spc47 c = true) : Okay Pr GL 47 [(aCfg c)] [] (to47 (sp47 c)) := by
  obtain ⟨n, h⟩ := auto_ok (nat47 c) (fun s => show ent47 to47 c (fun l => (s l).map to47) = (ent47 id c s).map to47 by simp only [ent47, map_cond, Option.map_some, Option.map_none, id]) (ct47 c) (show CT fun j => ent47 id c j by dsimp only [ent47]; repeat (first | exact CT.jump _ | exact CT.const _ | apply CT.cond)) (isSome_getD hc)
  exact okay_of_run (H := H47) GCok G0ok Tryz.func47 rfl (by kernel_rfl) n (by
    rw [run47]
    rw [show (fun l => runL Pr GC H47 Tryz.f47 n (num47 l) (st47 c l)) = shad (bod47 to47 c) n from funext (shad47 c n)]
    exact h)

/-! ### admit.partition -/
abbrev R138 := AdmitFound
def to138 (r : R138) : Ans := ⟨.agg [.v (.int .i64 r.e), .v (.int .i64 r.where_.first), .v (.int .i64 r.where_.second)], []⟩
inductive L138 where
  | l0 (x3 : Int) (x0 : Int) (x1 : Int) (x2 : Int)
  | l4 (x3 : Int) (x0 : Int) (x1 : Int) (x2 : Int)
def num138 : L138 → Nat
  | .l0 _ _ _ _ => 0
  | .l4 _ _ _ _ => 4
def H138 : Hint := ⟨fun n => [].any (Nat.beq n), hdAt [(0, ⟨fgt [1, 2, 4, 5, 6, 7, 75, 76, 96, 97, 98] 118 0, []⟩), (4, ⟨fgt [1, 2, 4, 5, 6, 8] 118 0, []⟩)], [], G0, nodp⟩
noncomputable def st138 (c : Config) (p : Int) : L138 → St
  | .l0 x3 x0 x1 x2 => ⟨mkE [(1, .v (.int .i64 p)), (2, .ref 0 0), (4, .ref 1 0), (5, .ref 2 0), (6, .ref 3 0), (7, .v (.int .i64 x3))] 118 0, [.cells 26 [.v (.int .i64 c.frames), .v (.int .i64 c.major), .v (.int .i64 c.kernel), .v (.int .i64 c.room), .sl (.sl .sWindow) c.cores, .sl .sPartition c.partitions, .sl .sChannel c.channels], .cells 184 [.v (.int .i64 0), .v (.int .i64 0), .v (.int .i64 0)], .cells 70 [.v (.string ((atPartition c.partitions p.toNat).name)), .v (.int .i64 ((atPartition c.partitions p.toNat).entry)), .v (.int .i64 ((atPartition c.partitions p.toNat).action)), .v (.int .i64 ((atPartition c.partitions p.toNat).restarts)), .v (.int .i64 ((atPartition c.partitions p.toNat).inputs)), .v (.int .i64 ((atPartition c.partitions p.toNat).outputs)), .sl .sRegion ((atPartition c.partitions p.toNat).regions), .sl .sPort ((atPartition c.partitions p.toNat).ports)], .cells 184 [.v (.int .i64 x0), .v (.int .i64 x1), .v (.int .i64 x2)]], GL, 0, [], nodp⟩
  | .l4 x3 x0 x1 x2 => ⟨mkE [(1, .v (.int .i64 p)), (2, .ref 0 0), (4, .ref 1 0), (5, .ref 2 0), (6, .ref 3 0), (8, .v (.int .i64 x3))] 118 0, [.cells 26 [.v (.int .i64 c.frames), .v (.int .i64 c.major), .v (.int .i64 c.kernel), .v (.int .i64 c.room), .sl (.sl .sWindow) c.cores, .sl .sPartition c.partitions, .sl .sChannel c.channels], .cells 184 [.v (.int .i64 0), .v (.int .i64 0), .v (.int .i64 0)], .cells 70 [.v (.string ((atPartition c.partitions p.toNat).name)), .v (.int .i64 ((atPartition c.partitions p.toNat).entry)), .v (.int .i64 ((atPartition c.partitions p.toNat).action)), .v (.int .i64 ((atPartition c.partitions p.toNat).restarts)), .v (.int .i64 ((atPartition c.partitions p.toNat).inputs)), .v (.int .i64 ((atPartition c.partitions p.toNat).outputs)), .sl .sRegion ((atPartition c.partitions p.toNat).regions), .sl .sPort ((atPartition c.partitions p.toNat).ports)], .cells 184 [.v (.int .i64 x0), .v (.int .i64 x1), .v (.int .i64 x2)]], GL, 0, [], nodp⟩
noncomputable def bod138 {R : Type} (ret : R138 → R) (c : Config) (p : Int) (j : L138 → Option R) : L138 → Option R
  | .l0 x3 x0 x1 x2 => cond (decide ((x3 : Int) < ((atPartition c.partitions p.toNat).regions).length))
    (cond (((x0 : Int) == fine.e) && ((((x1 : Int) == fine.where_.first) && (((x2 : Int) == fine.where_.second) && true)) && true))
      (cond (spc162 c p x3) (j (.l0 (IntKind.i64.wrap (x3 + 1)) ((sp162 c p x3).e) ((sp162 c p x3).where_.first) ((sp162 c p x3).where_.second))) none)
      (cond (!(((x0 : Int) == fine.e) && ((((x1 : Int) == fine.where_.first) && (((x2 : Int) == fine.where_.second) && true)) && true)))
        (some (ret (⟨x0, (⟨x1, x2⟩ : Where)⟩ : AdmitFound)))
        (cond (sp132 ((atPartition c.partitions p.toNat).entry) 0 4095)
          (cond (spc163 (atPartition c.partitions p.toNat)) (
            cond (spc159 [(sp131 (sp163 (atPartition c.partitions p.toNat)) 412 (sp161 p)), (sp131 (decide ((((atPartition c.partitions p.toNat).ports).length : Int) ≤ 8)) 413 (sp161 p))]) (
              j (.l4 0 ((sp159 [(sp131 (sp163 (atPartition c.partitions p.toNat)) 412 (sp161 p)), (sp131 (decide ((((atPartition c.partitions p.toNat).ports).length : Int) ≤ 8)) 413 (sp161 p))]).e) ((sp159 [(sp131 (sp163 (atPartition c.partitions p.toNat)) 412 (sp161 p)), (sp131 (decide ((((atPartition c.partitions p.toNat).ports).length : Int) ≤ 8)) 413 (sp161 p))]).where_.first) ((sp159 [(sp131 (sp163 (atPartition c.partitions p.toNat)) 412 (sp161 p)), (sp131 (decide ((((atPartition c.partitions p.toNat).ports).length : Int) ≤ 8)) 413 (sp161 p))]).where_.second))) none) none)
          (cond (spc159 [(sp131 false 412 (sp161 p)), (sp131 (decide ((((atPartition c.partitions p.toNat).ports).length : Int) ≤ 8)) 413 (sp161 p))]) (
            j (.l4 0 ((sp159 [(sp131 false 412 (sp161 p)), (sp131 (decide ((((atPartition c.partitions p.toNat).ports).length : Int) ≤ 8)) 413 (sp161 p))]).e) ((sp159 [(sp131 false 412 (sp161 p)), (sp131 (decide ((((atPartition c.partitions p.toNat).ports).length : Int) ≤ 8)) 413 (sp161 p))]).where_.first) ((sp159 [(sp131 false 412 (sp161 p)), (sp131 (decide ((((atPartition c.partitions p.toNat).ports).length : Int) ≤ 8)) 413 (sp161 p))]).where_.second))) none))))
    (cond (!(((x0 : Int) == fine.e) && ((((x1 : Int) == fine.where_.first) && (((x2 : Int) == fine.where_.second) && true)) && true)))
      (some (ret (⟨x0, (⟨x1, x2⟩ : Where)⟩ : AdmitFound)))
      (cond (sp132 ((atPartition c.partitions p.toNat).entry) 0 4095)
        (cond (spc163 (atPartition c.partitions p.toNat)) (
          cond (spc159 [(sp131 (sp163 (atPartition c.partitions p.toNat)) 412 (sp161 p)), (sp131 (decide ((((atPartition c.partitions p.toNat).ports).length : Int) ≤ 8)) 413 (sp161 p))]) (
            j (.l4 0 ((sp159 [(sp131 (sp163 (atPartition c.partitions p.toNat)) 412 (sp161 p)), (sp131 (decide ((((atPartition c.partitions p.toNat).ports).length : Int) ≤ 8)) 413 (sp161 p))]).e) ((sp159 [(sp131 (sp163 (atPartition c.partitions p.toNat)) 412 (sp161 p)), (sp131 (decide ((((atPartition c.partitions p.toNat).ports).length : Int) ≤ 8)) 413 (sp161 p))]).where_.first) ((sp159 [(sp131 (sp163 (atPartition c.partitions p.toNat)) 412 (sp161 p)), (sp131 (decide ((((atPartition c.partitions p.toNat).ports).length : Int) ≤ 8)) 413 (sp161 p))]).where_.second))) none) none)
        (cond (spc159 [(sp131 false 412 (sp161 p)), (sp131 (decide ((((atPartition c.partitions p.toNat).ports).length : Int) ≤ 8)) 413 (sp161 p))]) (
          j (.l4 0 ((sp159 [(sp131 false 412 (sp161 p)), (sp131 (decide ((((atPartition c.partitions p.toNat).ports).length : Int) ≤ 8)) 413 (sp161 p))]).e) ((sp159 [(sp131 false 412 (sp161 p)), (sp131 (decide ((((atPartition c.partitions p.toNat).ports).length : Int) ≤ 8)) 413 (sp161 p))]).where_.first) ((sp159 [(sp131 false 412 (sp161 p)), (sp131 (decide ((((atPartition c.partitions p.toNat).ports).length : Int) ≤ 8)) 413 (sp161 p))]).where_.second))) none)))
  | .l4 x3 x0 x1 x2 => cond (decide ((x3 : Int) < ((atPartition c.partitions p.toNat).ports).length))
    (cond (((x0 : Int) == fine.e) && ((((x1 : Int) == fine.where_.first) && (((x2 : Int) == fine.where_.second) && true)) && true))
      (cond (inR x3 ((atPartition c.partitions p.toNat).ports).length) (
        j (.l4 (IntKind.i64.wrap (x3 + 1)) ((sp131 (sp132 ((atPort ((atPartition c.partitions p.toNat).ports) x3.toNat).channel) 0 (IntKind.i64.wrap (c.channels.length - 1))) 414 (sp164 p x3)).e) ((sp131 (sp132 ((atPort ((atPartition c.partitions p.toNat).ports) x3.toNat).channel) 0 (IntKind.i64.wrap (c.channels.length - 1))) 414 (sp164 p x3)).where_.first) ((sp131 (sp132 ((atPort ((atPartition c.partitions p.toNat).ports) x3.toNat).channel) 0 (IntKind.i64.wrap (c.channels.length - 1))) 414 (sp164 p x3)).where_.second))) none)
      (some (ret (⟨x0, (⟨x1, x2⟩ : Where)⟩ : AdmitFound))))
    (some (ret (⟨x0, (⟨x1, x2⟩ : Where)⟩ : AdmitFound)))
noncomputable def ent138 {R : Type} (ret : R138 → R) (c : Config) (p : Int) (j : L138 → Option R) : Option R :=
    cond (inR p c.partitions.length) (
    cond (spc160 c p) (
      cond (sp132 ((atPartition c.partitions p.toNat).action) 0 2)
        (cond (sp132 ((atPartition c.partitions p.toNat).inputs) 0 16)
          (cond (spc159 [(sp131 (sp160 c p) 405 (sp161 p)), (sp131 (sp132 ((atPartition c.partitions p.toNat).restarts) 0 15) 406 (sp161 p)), (sp131 (sp132 ((atPartition c.partitions p.toNat).outputs) 0 16) 407 (sp161 p)), (sp131 (sp132 (((atPartition c.partitions p.toNat).regions).length) 1 8) 408 (sp161 p))]) (
            j (.l0 0 ((sp159 [(sp131 (sp160 c p) 405 (sp161 p)), (sp131 (sp132 ((atPartition c.partitions p.toNat).restarts) 0 15) 406 (sp161 p)), (sp131 (sp132 ((atPartition c.partitions p.toNat).outputs) 0 16) 407 (sp161 p)), (sp131 (sp132 (((atPartition c.partitions p.toNat).regions).length) 1 8) 408 (sp161 p))]).e) ((sp159 [(sp131 (sp160 c p) 405 (sp161 p)), (sp131 (sp132 ((atPartition c.partitions p.toNat).restarts) 0 15) 406 (sp161 p)), (sp131 (sp132 ((atPartition c.partitions p.toNat).outputs) 0 16) 407 (sp161 p)), (sp131 (sp132 (((atPartition c.partitions p.toNat).regions).length) 1 8) 408 (sp161 p))]).where_.first) ((sp159 [(sp131 (sp160 c p) 405 (sp161 p)), (sp131 (sp132 ((atPartition c.partitions p.toNat).restarts) 0 15) 406 (sp161 p)), (sp131 (sp132 ((atPartition c.partitions p.toNat).outputs) 0 16) 407 (sp161 p)), (sp131 (sp132 (((atPartition c.partitions p.toNat).regions).length) 1 8) 408 (sp161 p))]).where_.second))) none)
          (cond (spc159 [(sp131 (sp160 c p) 405 (sp161 p)), (sp131 (sp132 ((atPartition c.partitions p.toNat).restarts) 0 15) 406 (sp161 p)), (sp131 false 407 (sp161 p)), (sp131 (sp132 (((atPartition c.partitions p.toNat).regions).length) 1 8) 408 (sp161 p))]) (
            j (.l0 0 ((sp159 [(sp131 (sp160 c p) 405 (sp161 p)), (sp131 (sp132 ((atPartition c.partitions p.toNat).restarts) 0 15) 406 (sp161 p)), (sp131 false 407 (sp161 p)), (sp131 (sp132 (((atPartition c.partitions p.toNat).regions).length) 1 8) 408 (sp161 p))]).e) ((sp159 [(sp131 (sp160 c p) 405 (sp161 p)), (sp131 (sp132 ((atPartition c.partitions p.toNat).restarts) 0 15) 406 (sp161 p)), (sp131 false 407 (sp161 p)), (sp131 (sp132 (((atPartition c.partitions p.toNat).regions).length) 1 8) 408 (sp161 p))]).where_.first) ((sp159 [(sp131 (sp160 c p) 405 (sp161 p)), (sp131 (sp132 ((atPartition c.partitions p.toNat).restarts) 0 15) 406 (sp161 p)), (sp131 false 407 (sp161 p)), (sp131 (sp132 (((atPartition c.partitions p.toNat).regions).length) 1 8) 408 (sp161 p))]).where_.second))) none))
        (cond (sp132 ((atPartition c.partitions p.toNat).inputs) 0 16)
          (cond (spc159 [(sp131 (sp160 c p) 405 (sp161 p)), (sp131 false 406 (sp161 p)), (sp131 (sp132 ((atPartition c.partitions p.toNat).outputs) 0 16) 407 (sp161 p)), (sp131 (sp132 (((atPartition c.partitions p.toNat).regions).length) 1 8) 408 (sp161 p))]) (
            j (.l0 0 ((sp159 [(sp131 (sp160 c p) 405 (sp161 p)), (sp131 false 406 (sp161 p)), (sp131 (sp132 ((atPartition c.partitions p.toNat).outputs) 0 16) 407 (sp161 p)), (sp131 (sp132 (((atPartition c.partitions p.toNat).regions).length) 1 8) 408 (sp161 p))]).e) ((sp159 [(sp131 (sp160 c p) 405 (sp161 p)), (sp131 false 406 (sp161 p)), (sp131 (sp132 ((atPartition c.partitions p.toNat).outputs) 0 16) 407 (sp161 p)), (sp131 (sp132 (((atPartition c.partitions p.toNat).regions).length) 1 8) 408 (sp161 p))]).where_.first) ((sp159 [(sp131 (sp160 c p) 405 (sp161 p)), (sp131 false 406 (sp161 p)), (sp131 (sp132 ((atPartition c.partitions p.toNat).outputs) 0 16) 407 (sp161 p)), (sp131 (sp132 (((atPartition c.partitions p.toNat).regions).length) 1 8) 408 (sp161 p))]).where_.second))) none)
          (cond (spc159 [(sp131 (sp160 c p) 405 (sp161 p)), (sp131 false 406 (sp161 p)), (sp131 false 407 (sp161 p)), (sp131 (sp132 (((atPartition c.partitions p.toNat).regions).length) 1 8) 408 (sp161 p))]) (
            j (.l0 0 ((sp159 [(sp131 (sp160 c p) 405 (sp161 p)), (sp131 false 406 (sp161 p)), (sp131 false 407 (sp161 p)), (sp131 (sp132 (((atPartition c.partitions p.toNat).regions).length) 1 8) 408 (sp161 p))]).e) ((sp159 [(sp131 (sp160 c p) 405 (sp161 p)), (sp131 false 406 (sp161 p)), (sp131 false 407 (sp161 p)), (sp131 (sp132 (((atPartition c.partitions p.toNat).regions).length) 1 8) 408 (sp161 p))]).where_.first) ((sp159 [(sp131 (sp160 c p) 405 (sp161 p)), (sp131 false 406 (sp161 p)), (sp131 false 407 (sp161 p)), (sp131 (sp132 (((atPartition c.partitions p.toNat).regions).length) 1 8) 408 (sp161 p))]).where_.second))) none))) none) none
theorem head138_0 (J : Jmp) (c : Config) (p : Int) (x3 : Int) (x0 : Int) (x1 : Int) (x2 : Int) : stepAt Pr GC H138 J 0 0 (bodyOf Tryz.f138) (fin Pr H138 Tryz.f138) (st138 c p (.l0 x3 x0 x1 x2)) = bod138 to138 c p (fun l => J (num138 l) (st138 c p l)) (.l0 x3 x0 x1 x2) := by kernel_rfl
theorem head138_4 (J : Jmp) (c : Config) (p : Int) (x3 : Int) (x0 : Int) (x1 : Int) (x2 : Int) : stepAt Pr GC H138 J 4 0 (bodyOf Tryz.f138) (fin Pr H138 Tryz.f138) (st138 c p (.l4 x3 x0 x1 x2)) = bod138 to138 c p (fun l => J (num138 l) (st138 c p l)) (.l4 x3 x0 x1 x2) := by kernel_rfl
theorem run138 (J : Jmp) (c : Config) (p : Int) : runF Pr GC H138 J GL Tryz.f138 [(aCfg c), .v (.int .i64 p)] [] = ent138 to138 c p (fun l => J (num138 l) (st138 c p l)) := by kernel_rfl
theorem shad138 (c : Config) (p : Int) : ∀ (n : Nat) (l : L138), runL Pr GC H138 Tryz.f138 n (num138 l) (st138 c p l) = shad (bod138 to138 c p) n l
  | 0, l => by cases l <;> rfl
  | n + 1, l => by
    have ih : (fun l => runL Pr GC H138 Tryz.f138 n (num138 l) (st138 c p l)) = shad (bod138 to138 c p) n := funext (shad138 c p n)
    cases l with
    | l0 x3 x0 x1 x2 => exact (step_eq ..).trans ((head138_0 ..).trans (by rw [ih]; rfl))
    | l4 x3 x0 x1 x2 => exact (step_eq ..).trans ((head138_4 ..).trans (by rw [ih]; rfl))
theorem nat138 (c : Config) (p : Int) (s : L138 → Option R138) (l : L138) : bod138 to138 c p (fun l => (s l).map to138) l = (bod138 id c p s l).map to138 := by
  cases l <;> simp only [bod138, map_cond, Option.map_some, Option.map_none, id]
theorem ct138 (c : Config) (p : Int) (l : L138) : CT fun j => bod138 id c p j l := by
  cases l <;> (dsimp only [bod138]; repeat (first | exact CT.jump _ | exact CT.const _ | apply CT.cond))
noncomputable def spL138 (c : Config) (p : Int) : L138 → Option R138 := lfp (bod138 id c p)
theorem spL138_eq (c : Config) (p : Int) (l : L138) : spL138 c p l = bod138 id c p (spL138 c p) l := lfp_eq (ct138 c p) l
noncomputable def spO138 (c : Config) (p : Int) : Option R138 := ent138 id c p (spL138 c p)
noncomputable def sp138 (c : Config) (p : Int) : R138 := (spO138 c p).getD default
noncomputable def spc138 (c : Config) (p : Int) : Bool := (spO138 c p).isSome
theorem oks138 (c : Config) (p : Int) (hc : spc138 c p = true) : Okay Pr GL 138 [(aCfg c), .v (.int .i64 p)] [] (to138 (sp138 c p)) := by
  obtain ⟨n, h⟩ := auto_ok (nat138 c p) (fun s => show ent138 to138 c p (fun l => (s l).map to138) = (ent138 id c p s).map to138 by simp only [ent138, map_cond, Option.map_some, Option.map_none, id]) (ct138 c p) (show CT fun j => ent138 id c p j by dsimp only [ent138]; repeat (first | exact CT.jump _ | exact CT.const _ | apply CT.cond)) (isSome_getD hc)
  exact okay_of_run (H := H138) GCok G0ok Tryz.func138 rfl (by kernel_rfl) n (by
    rw [run138]
    rw [show (fun l => runL Pr GC H138 Tryz.f138 n (num138 l) (st138 c p l)) = shad (bod138 to138 c p) n from funext (shad138 c p n)]
    exact h)

/-! ### admit.questions$7 -/
abbrev R139 := AdmitFound
def to139 (r : R139) : Ans := ⟨.agg [.v (.int .i64 r.e), .v (.int .i64 r.where_.first), .v (.int .i64 r.where_.second)], []⟩
def H139 : Hint := ⟨fun _ => false, fun _ => ⟨[], []⟩, [], G0, nodp⟩
noncomputable def ent139 {R : Type} (ret : R139 → R) (a : Config) (a_1 : Int) : Option R :=
    cond (spc140 a a_1) (some (ret (sp140 a a_1))) none
theorem run139 (J : Jmp) (a : Config) (a_1 : Int) : runF Pr GC H139 J GL Tryz.f139 [.op .sConfig (some a), .op (.i .i64) (some a_1)] [] = ent139 to139 a a_1 := by kernel_rfl
noncomputable def spO139 (a : Config) (a_1 : Int) : Option R139 := ent139 id a a_1
noncomputable def sp139 (a : Config) (a_1 : Int) : R139 := (spO139 a a_1).getD default
noncomputable def spc139 (a : Config) (a_1 : Int) : Bool := (spO139 a a_1).isSome
theorem oks139 (a : Config) (a_1 : Int) (hc : spc139 a a_1 = true) : Okay Pr GL 139 [.op .sConfig (some a), .op (.i .i64) (some a_1)] [] (to139 (sp139 a a_1)) :=
  okay_of_run (H := H139) GCok G0ok Tryz.func139 rfl (by kernel_rfl) 0 ((run139 (runL Pr GC H139 Tryz.f139 0) a a_1).trans (auto_ok0 (show ent139 to139 a a_1 = (ent139 id a a_1).map to139 by simp only [ent139, map_cond, Option.map_some, Option.map_none, id]) (isSome_getD hc)))

/-! ### admit.questions$8 -/
abbrev R141 := AdmitFound
def to141 (r : R141) : Ans := ⟨.agg [.v (.int .i64 r.e), .v (.int .i64 r.where_.first), .v (.int .i64 r.where_.second)], []⟩
def H141 : Hint := ⟨fun _ => false, fun _ => ⟨[], []⟩, [], G0, nodp⟩
noncomputable def ent141 {R : Type} (ret : R141 → R) (a : Config) (a_1 : Int) : Option R :=
    cond (spc142 a a_1) (some (ret (sp142 a a_1))) none
theorem run141 (J : Jmp) (a : Config) (a_1 : Int) : runF Pr GC H141 J GL Tryz.f141 [.op .sConfig (some a), .op (.i .i64) (some a_1)] [] = ent141 to141 a a_1 := by kernel_rfl
noncomputable def spO141 (a : Config) (a_1 : Int) : Option R141 := ent141 id a a_1
noncomputable def sp141 (a : Config) (a_1 : Int) : R141 := (spO141 a a_1).getD default
noncomputable def spc141 (a : Config) (a_1 : Int) : Bool := (spO141 a a_1).isSome
theorem oks141 (a : Config) (a_1 : Int) (hc : spc141 a a_1 = true) : Okay Pr GL 141 [.op .sConfig (some a), .op (.i .i64) (some a_1)] [] (to141 (sp141 a a_1)) :=
  okay_of_run (H := H141) GCok G0ok Tryz.func141 rfl (by kernel_rfl) 0 ((run141 (runL Pr GC H141 Tryz.f141 0) a a_1).trans (auto_ok0 (show ent141 to141 a a_1 = (ent141 id a a_1).map to141 by simp only [ent141, map_cond, Option.map_some, Option.map_none, id]) (isSome_getD hc)))

/-! ### (layout.size).ofPort -/
abbrev R146 := Int
def to146 (r : R146) : Ans := ⟨.v (.int .i64 r), []⟩
def H146 : Hint := ⟨fun _ => false, fun _ => ⟨[], []⟩, [], G0, nodp⟩
noncomputable def ent146 {R : Type} (ret : R146 → R) (s_0 : LayoutSize) : Option R :=
    some (ret (sp72 s_0.channel))
theorem run146 (J : Jmp) (s_0 : LayoutSize) : runF Pr GC H146 J GL Tryz.f146 [.agg [.v (.int .i64 s_0.channel.kind), .v (.int .i64 s_0.channel.words), .v (.int .i64 s_0.channel.depth)]] [] = ent146 to146 s_0 := by kernel_rfl
noncomputable def spO146 (s_0 : LayoutSize) : Option R146 := ent146 id s_0
noncomputable def sp146 (s_0 : LayoutSize) : R146 := (spO146 s_0).getD default
theorem some146 (s_0 : LayoutSize) : spO146 s_0 = some (sp146 s_0) := isSome_getD (show (spO146 s_0).isSome = true by simp only [spO146, ent146, isSome_cond, Option.isSome_some, cond_self])
theorem oks146 (s_0 : LayoutSize) : Okay Pr GL 146 [.agg [.v (.int .i64 s_0.channel.kind), .v (.int .i64 s_0.channel.words), .v (.int .i64 s_0.channel.depth)]] [] (to146 (sp146 s_0)) :=
  okay_of_run (H := H146) GCok G0ok Tryz.func146 rfl (by kernel_rfl) 0 ((run146 (runL Pr GC H146 Tryz.f146 0) s_0).trans (auto_ok0 (show ent146 to146 s_0 = (ent146 id s_0).map to146 by simp only [ent146, map_cond, Option.map_some, Option.map_none, id]) (some146 s_0)))

noncomputable def g101 (args : List AV) (hp : List Blk) : Option (Bool × AV × List Blk) :=
  match hp, args with
  | [], [x0, x1, x2] => (rdS .sConfig x0).bind fun a0 => (rdL (.i .i64) x1).bind fun a1 => (rdL (.i .i64) x2).bind fun a2 => some ((spc101 a0 a1 a2), .v (.int .i64 (sp101 a0 a1 a2)), [])
  | _, _ => none
theorem g101_ok {args : List AV} {hp : List Blk} {b : Bool} {r : AV} {hp' : List Blk} (h : g101 args hp = some (b, r, hp')) (hb : b = true) : FnOk Pr 101 ∧ Okay Pr GL 101 args hp ⟨r, hp'⟩ := by
  unfold g101 at h
  split at h
  · simp only [Option.bind_eq_some_iff] at h
    obtain ⟨a0, h0, a1, h1, a2, h2, h⟩ := h
    cases h; exact ⟨fnok Tryz.func101 (by kernel_rfl) rfl, (oks101 a0 a1 a2 hb).ats (.cons (rdS_V h0) (.cons (rdL_V h1) (.cons (rdL_V h2) .nil)))⟩
  · cases h
noncomputable def g46 (args : List AV) (hp : List Blk) : Option (Bool × AV × List Blk) :=
  match hp, args with
  | [], [x0] => (rdS .sConfig x0).bind fun a0 => some ((spc46 a0), .v (.bool (sp46 a0)), [])
  | _, _ => none
theorem g46_ok {args : List AV} {hp : List Blk} {b : Bool} {r : AV} {hp' : List Blk} (h : g46 args hp = some (b, r, hp')) (hb : b = true) : FnOk Pr 46 ∧ Okay Pr GL 46 args hp ⟨r, hp'⟩ := by
  unfold g46 at h
  split at h
  · simp only [Option.bind_eq_some_iff] at h
    obtain ⟨a0, h0, h⟩ := h
    cases h; exact ⟨fnok Tryz.func46 (by kernel_rfl) rfl, (oks46 a0 hb).ats (.cons (rdS_V h0) .nil)⟩
  · cases h
noncomputable def g47 (args : List AV) (hp : List Blk) : Option (Bool × AV × List Blk) :=
  match hp, args with
  | [], [x0] => (rdS .sConfig x0).bind fun a0 => some ((spc47 a0), .own 0, [.arr 116 .sBulkheadref15Piece (sp47 a0)])
  | _, _ => none
theorem g47_ok {args : List AV} {hp : List Blk} {b : Bool} {r : AV} {hp' : List Blk} (h : g47 args hp = some (b, r, hp')) (hb : b = true) : FnOk Pr 47 ∧ Okay Pr GL 47 args hp ⟨r, hp'⟩ := by
  unfold g47 at h
  split at h
  · simp only [Option.bind_eq_some_iff] at h
    obtain ⟨a0, h0, h⟩ := h
    cases h; exact ⟨fnok Tryz.func47 (by kernel_rfl) rfl, (oks47 a0 hb).ats (.cons (rdS_V h0) .nil)⟩
  · cases h
noncomputable def g138 (args : List AV) (hp : List Blk) : Option (Bool × AV × List Blk) :=
  match hp, args with
  | [], [x0, x1] => (rdS .sConfig x0).bind fun a0 => (rdL (.i .i64) x1).bind fun a1 => some ((spc138 a0 a1), .agg [.v (.int .i64 ((sp138 a0 a1).e)), .v (.int .i64 ((sp138 a0 a1).where_.first)), .v (.int .i64 ((sp138 a0 a1).where_.second))], [])
  | _, _ => none
theorem g138_ok {args : List AV} {hp : List Blk} {b : Bool} {r : AV} {hp' : List Blk} (h : g138 args hp = some (b, r, hp')) (hb : b = true) : FnOk Pr 138 ∧ Okay Pr GL 138 args hp ⟨r, hp'⟩ := by
  unfold g138 at h
  split at h
  · simp only [Option.bind_eq_some_iff] at h
    obtain ⟨a0, h0, a1, h1, h⟩ := h
    cases h; exact ⟨fnok Tryz.func138 (by kernel_rfl) rfl, (oks138 a0 a1 hb).ats (.cons (rdS_V h0) (.cons (rdL_V h1) .nil))⟩
  · cases h
noncomputable def g139 (args : List AV) (hp : List Blk) : Option (Bool × AV × List Blk) :=
  match hp, args with
  | [], [x0, x1] => (rdP .sConfig x0).bind fun a0 => (rdP (.i .i64) x1).bind fun a1 => some ((spc139 a0 a1), .agg [.v (.int .i64 ((sp139 a0 a1).e)), .v (.int .i64 ((sp139 a0 a1).where_.first)), .v (.int .i64 ((sp139 a0 a1).where_.second))], [])
  | _, _ => none
theorem g139_ok {args : List AV} {hp : List Blk} {b : Bool} {r : AV} {hp' : List Blk} (h : g139 args hp = some (b, r, hp')) (hb : b = true) : FnOk Pr 139 ∧ Okay Pr GL 139 args hp ⟨r, hp'⟩ := by
  unfold g139 at h
  split at h
  · simp only [Option.bind_eq_some_iff] at h
    obtain ⟨a0, h0, a1, h1, h⟩ := h
    cases h; exact ⟨fnok Tryz.func139 (by kernel_rfl) rfl, (oks139 a0 a1 hb).ats (.cons (rdP_V h0) (.cons (rdP_V h1) .nil))⟩
  · cases h
noncomputable def g141 (args : List AV) (hp : List Blk) : Option (Bool × AV × List Blk) :=
  match hp, args with
  | [], [x0, x1] => (rdP .sConfig x0).bind fun a0 => (rdP (.i .i64) x1).bind fun a1 => some ((spc141 a0 a1), .agg [.v (.int .i64 ((sp141 a0 a1).e)), .v (.int .i64 ((sp141 a0 a1).where_.first)), .v (.int .i64 ((sp141 a0 a1).where_.second))], [])
  | _, _ => none
theorem g141_ok {args : List AV} {hp : List Blk} {b : Bool} {r : AV} {hp' : List Blk} (h : g141 args hp = some (b, r, hp')) (hb : b = true) : FnOk Pr 141 ∧ Okay Pr GL 141 args hp ⟨r, hp'⟩ := by
  unfold g141 at h
  split at h
  · simp only [Option.bind_eq_some_iff] at h
    obtain ⟨a0, h0, a1, h1, h⟩ := h
    cases h; exact ⟨fnok Tryz.func141 (by kernel_rfl) rfl, (oks141 a0 a1 hb).ats (.cons (rdP_V h0) (.cons (rdP_V h1) .nil))⟩
  · cases h
noncomputable def g146 (args : List AV) (hp : List Blk) : Option (Bool × AV × List Blk) :=
  match hp, args with
  | [], [x0] => (rdS .sLayoutSize x0).bind fun a0 => some (true, .v (.int .i64 (sp146 a0)), [])
  | _, _ => none
theorem g146_ok {args : List AV} {hp : List Blk} {b : Bool} {r : AV} {hp' : List Blk} (h : g146 args hp = some (b, r, hp')) (hb : b = true) : FnOk Pr 146 ∧ Okay Pr GL 146 args hp ⟨r, hp'⟩ := by
  unfold g146 at h
  split at h
  · simp only [Option.bind_eq_some_iff] at h
    obtain ⟨a0, h0, h⟩ := h
    cases h; exact ⟨fnok Tryz.func146 (by kernel_rfl) rfl, (oks146 a0).ats (.cons (rdS_V h0) .nil)⟩
  · cases h
noncomputable def GD : Gam := fun c args hp => match c with
  | .f f => pick1 101 f (g101 args hp) (pick1 46 f (g46 args hp) (pick1 47 f (g47 args hp) (pick1 138 f (g138 args hp) (pick1 139 f (g139 args hp) (pick1 141 f (g141 args hp) (pick1 146 f (g146 args hp) (GC (.f f) args hp)))))))
  | .c x => GC (.c x) args hp
theorem GDok : GOk Pr GL GD := by
  intro c args hp b r hp' h hb
  cases c with
  | f f =>
    simp only [GD] at h
    rcases pick1_ok h with ⟨rfl, h⟩ | h
    · exact g101_ok h hb
    rcases pick1_ok h with ⟨rfl, h⟩ | h
    · exact g46_ok h hb
    rcases pick1_ok h with ⟨rfl, h⟩ | h
    · exact g47_ok h hb
    rcases pick1_ok h with ⟨rfl, h⟩ | h
    · exact g138_ok h hb
    rcases pick1_ok h with ⟨rfl, h⟩ | h
    · exact g139_ok h hb
    rcases pick1_ok h with ⟨rfl, h⟩ | h
    · exact g141_ok h hb
    rcases pick1_ok h with ⟨rfl, h⟩ | h
    · exact g146_ok h hb
    exact GCok (.f f) args hp b r hp' h hb
  | c x => exact GCok (.c x) args hp b r hp' h hb
end Go.Proofs.YtgfifnadfmaolaaGreatDoor
