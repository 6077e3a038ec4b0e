/- Shadows of functions (printed by pr2.py off the model's code; the kernel holds each equation to it), and what they answer. -/
import Derived.Test.YthnkmndjhedgdaaDoorP2
namespace Go.Proofs.YthnkmndjhedgdaaDoor
open Go.RowKit
set_option linter.unusedVariables false
set_option linter.unusedSimpArgs false
/-! ### audit.isEnd -/
abbrev R14 := Bool
def to14 (r : R14) : Ans := ⟨.v (.bool r), []⟩
def H14 : Hint := ⟨fun _ => false, fun _ => ⟨[], []⟩, [], G0, nodp⟩
noncomputable def ent14 {R : Type} (ret : R14 → R) (c : Config) (p : Int) (channel : Int) (source : Bool) : Option R :=
    cond (decide ((p : Int) ≥ 0))
    (cond (inR p c.partitions.length) (
      cond (spc28 ((atPartition c.partitions p.toNat).ports) (⟨channel, source⟩ : Port)) (some (ret (sp28 ((atPartition c.partitions p.toNat).ports) (⟨channel, source⟩ : Port)))) none) none)
    (some (ret false))
theorem run14 (J : Jmp) (c : Config) (p : Int) (channel : Int) (source : Bool) : runF Pr GC H14 J GL Tryd.f14 [.agg [.v (.int .i64 c.frames), .v (.int .i64 c.major), .v (.int .i64 c.kernel), .v (.int .i64 c.room), .sl (.sl .sWindow) c.cores, .sl .sPartition c.partitions, .sl .sChannel c.channels], .v (.int .i64 p), .v (.int .i64 channel), .v (.bool source)] [] = ent14 to14 c p channel source := by kernel_rfl
/-- audit.isEnd -/
noncomputable def spO14 (c : Config) (p : Int) (channel : Int) (source : Bool) : Option R14 := ent14 id c p channel source
noncomputable def sp14 (c : Config) (p : Int) (channel : Int) (source : Bool) : R14 := (spO14 c p channel source).getD default
noncomputable def spc14 (c : Config) (p : Int) (channel : Int) (source : Bool) : Bool := (spO14 c p channel source).isSome
theorem oks14 (c : Config) (p : Int) (channel : Int) (source : Bool) (hc : spc14 c p channel source = true) : Okay Pr GL 14 [.agg [.v (.int .i64 c.frames), .v (.int .i64 c.major), .v (.int .i64 c.kernel), .v (.int .i64 c.room), .sl (.sl .sWindow) c.cores, .sl .sPartition c.partitions, .sl .sChannel c.channels], .v (.int .i64 p), .v (.int .i64 channel), .v (.bool source)] [] (to14 (sp14 c p channel source)) :=
  okay_of_run (H := H14) GCok G0ok Tryd.func14 rfl (by kernel_rfl) 0 ((run14 (runL Pr GC H14 Tryd.f14 0) c p channel source).trans (auto_ok0 (show ent14 to14 c p channel source = (ent14 id c p channel source).map to14 by simp only [ent14, map_cond, Option.map_some, Option.map_none, id]) (isSome_getD hc)))

/-! ### ref16.region -/
abbrev R31 := Int
def to31 (r : R31) : Ans := ⟨.v (.int .i64 r), []⟩
inductive L31 where
  | l0 (x0 : Int)
  | l4 (x0 : Int)
  | l8 (x0 : Int) (x1 : Int)
def num31 : L31 → Nat
  | .l0 _ => 0
  | .l4 _ => 4
  | .l8 _ _ => 8
def H31 : Hint := ⟨fun n => [].any (Nat.beq n), hdAt [(0, ⟨fgt [1, 2, 3, 7, 8, 69, 70, 71] 91 0, []⟩), (4, ⟨fgt [1, 2, 3, 7, 10] 91 0, []⟩), (8, ⟨fgt [1, 2, 3, 7, 10, 11] 91 0, []⟩)], [], G0, nodp⟩
noncomputable def st31 (c : Config) (p : Int) (k : Int) : L31 → St
  | .l0 x0 => ⟨mkE [(1, .v (.int .i64 p)), (2, .v (.int .i64 k)), (3, .ref 0 0), (7, .ref 1 0), (8, .v (.int .i64 x0))] 91 0, [.cells 26 [.v (.int .i64 c.frames), .v (.int .i64 c.major), .v (.int .i64 c.kernel), .v (.int .i64 c.room), .sl (.sl .sWindow) c.cores, .sl .sPartition c.partitions, .sl .sChannel c.channels], .cells 73 [.v (.int .i64 ((atRegion ((atPartition c.partitions p.toNat).regions) k.toNat).page)), .v (.int .i64 ((atRegion ((atPartition c.partitions p.toNat).regions) k.toNat).pages)), .v (.int .i64 ((atRegion ((atPartition c.partitions p.toNat).regions) k.toNat).frame)), .v (.int .i64 ((atRegion ((atPartition c.partitions p.toNat).regions) k.toNat).rights))]], GL, 0, [], nodp⟩
  | .l4 x0 => ⟨mkE [(1, .v (.int .i64 p)), (2, .v (.int .i64 k)), (3, .ref 0 0), (7, .ref 1 0), (10, .v (.int .i64 x0))] 91 0, [.cells 26 [.v (.int .i64 c.frames), .v (.int .i64 c.major), .v (.int .i64 c.kernel), .v (.int .i64 c.room), .sl (.sl .sWindow) c.cores, .sl .sPartition c.partitions, .sl .sChannel c.channels], .cells 73 [.v (.int .i64 ((atRegion ((atPartition c.partitions p.toNat).regions) k.toNat).page)), .v (.int .i64 ((atRegion ((atPartition c.partitions p.toNat).regions) k.toNat).pages)), .v (.int .i64 ((atRegion ((atPartition c.partitions p.toNat).regions) k.toNat).frame)), .v (.int .i64 ((atRegion ((atPartition c.partitions p.toNat).regions) k.toNat).rights))]], GL, 0, [], nodp⟩
  | .l8 x0 x1 => ⟨mkE [(1, .v (.int .i64 p)), (2, .v (.int .i64 k)), (3, .ref 0 0), (7, .ref 1 0), (10, .v (.int .i64 x0)), (11, .v (.int .i64 x1))] 91 0, [.cells 26 [.v (.int .i64 c.frames), .v (.int .i64 c.major), .v (.int .i64 c.kernel), .v (.int .i64 c.room), .sl (.sl .sWindow) c.cores, .sl .sPartition c.partitions, .sl .sChannel c.channels], .cells 73 [.v (.int .i64 ((atRegion ((atPartition c.partitions p.toNat).regions) k.toNat).page)), .v (.int .i64 ((atRegion ((atPartition c.partitions p.toNat).regions) k.toNat).pages)), .v (.int .i64 ((atRegion ((atPartition c.partitions p.toNat).regions) k.toNat).frame)), .v (.int .i64 ((atRegion ((atPartition c.partitions p.toNat).regions) k.toNat).rights))]], GL, 0, [], nodp⟩
noncomputable def bod31 {R : Type} (ret : R31 → R) (c : Config) (p : Int) (k : Int) (j : L31 → Option R) : L31 → Option R
  | .l0 x0 => cond (decide ((x0 : Int) < k))
    (cond (inR p c.partitions.length) (
      cond (inR x0 ((atPartition c.partitions p.toNat).regions).length) (
        cond (sp35 ((atRegion ((atPartition c.partitions p.toNat).regions) k.toNat).page) ((atRegion ((atPartition c.partitions p.toNat).regions) k.toNat).pages) ((atRegion ((atPartition c.partitions p.toNat).regions) x0.toNat).page) ((atRegion ((atPartition c.partitions p.toNat).regions) x0.toNat).pages))
          (some (ret 410))
          (j (.l0 (IntKind.i64.wrap (x0 + 1))))) none) none)
    (j (.l4 0))
  | .l4 x0 => cond (decide ((x0 : Int) ≤ p))
    (j (.l8 x0 0))
    (some (ret 0))
  | .l8 x0 x1 => cond (inR x0 c.partitions.length) (
    cond (decide ((x1 : Int) < ((atPartition c.partitions x0.toNat).regions).length))
      (cond ((x0 : Int) == p)
        (cond (decide ((x1 : Int) ≥ k))
          (j (.l4 (IntKind.i64.wrap (x0 + 1))))
          (cond (inR x0 c.partitions.length) (
            cond (inR x1 ((atPartition c.partitions x0.toNat).regions).length) (
              cond (sp35 ((atRegion ((atPartition c.partitions p.toNat).regions) k.toNat).frame) ((atRegion ((atPartition c.partitions p.toNat).regions) k.toNat).pages) ((atRegion ((atPartition c.partitions x0.toNat).regions) x1.toNat).frame) ((atRegion ((atPartition c.partitions x0.toNat).regions) x1.toNat).pages))
                (some (ret 411))
                (j (.l8 x0 (IntKind.i64.wrap (x1 + 1))))) none) none))
        (cond (inR x0 c.partitions.length) (
          cond (inR x1 ((atPartition c.partitions x0.toNat).regions).length) (
            cond (sp35 ((atRegion ((atPartition c.partitions p.toNat).regions) k.toNat).frame) ((atRegion ((atPartition c.partitions p.toNat).regions) k.toNat).pages) ((atRegion ((atPartition c.partitions x0.toNat).regions) x1.toNat).frame) ((atRegion ((atPartition c.partitions x0.toNat).regions) x1.toNat).pages))
              (some (ret 411))
              (j (.l8 x0 (IntKind.i64.wrap (x1 + 1))))) none) none))
      (j (.l4 (IntKind.i64.wrap (x0 + 1))))) none
noncomputable def ent31 {R : Type} (ret : R31 → R) (c : Config) (p : Int) (k : Int) (j : L31 → Option R) : Option R :=
    cond (inR p c.partitions.length) (
    cond (inR k ((atPartition c.partitions p.toNat).regions).length) (
      cond (!(sp46 c (atRegion ((atPartition c.partitions p.toNat).regions) k.toNat)))
        (some (ret 409))
        (j (.l0 0))) none) none
theorem head31_0 (J : Jmp) (c : Config) (p : Int) (k : Int) (x0 : Int) : stepAt Pr GC H31 J 0 0 (bodyOf Tryd.f31) (fin Pr H31 Tryd.f31) (st31 c p k (.l0 x0)) = bod31 to31 c p k (fun l => J (num31 l) (st31 c p k l)) (.l0 x0) := by kernel_rfl
theorem head31_4 (J : Jmp) (c : Config) (p : Int) (k : Int) (x0 : Int) : stepAt Pr GC H31 J 4 0 (bodyOf Tryd.f31) (fin Pr H31 Tryd.f31) (st31 c p k (.l4 x0)) = bod31 to31 c p k (fun l => J (num31 l) (st31 c p k l)) (.l4 x0) := by kernel_rfl
theorem head31_8 (J : Jmp) (c : Config) (p : Int) (k : Int) (x0 : Int) (x1 : Int) : stepAt Pr GC H31 J 8 0 (bodyOf Tryd.f31) (fin Pr H31 Tryd.f31) (st31 c p k (.l8 x0 x1)) = bod31 to31 c p k (fun l => J (num31 l) (st31 c p k l)) (.l8 x0 x1) := by kernel_rfl
theorem run31 (J : Jmp) (c : Config) (p : Int) (k : Int) : runF Pr GC H31 J GL Tryd.f31 [.agg [.v (.int .i64 c.frames), .v (.int .i64 c.major), .v (.int .i64 c.kernel), .v (.int .i64 c.room), .sl (.sl .sWindow) c.cores, .sl .sPartition c.partitions, .sl .sChannel c.channels], .v (.int .i64 p), .v (.int .i64 k)] [] = ent31 to31 c p k (fun l => J (num31 l) (st31 c p k l)) := by kernel_rfl
theorem shad31 (c : Config) (p : Int) (k : Int) : ∀ (n : Nat) (l : L31), runL Pr GC H31 Tryd.f31 n (num31 l) (st31 c p k l) = shad (bod31 to31 c p k) n l
  | 0, l => by cases l <;> rfl
  | n + 1, l => by
    have ih : (fun l => runL Pr GC H31 Tryd.f31 n (num31 l) (st31 c p k l)) = shad (bod31 to31 c p k) n := funext (shad31 c p k n)
    cases l with
    | l0 x0 => exact (step_eq ..).trans ((head31_0 ..).trans (by rw [ih]; rfl))
    | l4 x0 => exact (step_eq ..).trans ((head31_4 ..).trans (by rw [ih]; rfl))
    | l8 x0 x1 => exact (step_eq ..).trans ((head31_8 ..).trans (by rw [ih]; rfl))
theorem nat31 (c : Config) (p : Int) (k : Int) (s : L31 → Option R31) (l : L31) : bod31 to31 c p k (fun l => (s l).map to31) l = (bod31 id c p k s l).map to31 := by
  cases l <;> simp only [bod31, map_cond, Option.map_some, Option.map_none, id]
theorem ct31 (c : Config) (p : Int) (k : Int) (l : L31) : CT fun j => bod31 id c p k j l := by
  cases l <;> (dsimp only [bod31]; repeat (first | exact CT.jump _ | exact CT.const _ | apply CT.cond))
/-- ref16.region, from a head on. -/
noncomputable def spL31 (c : Config) (p : Int) (k : Int) : L31 → Option R31 := lfp (bod31 id c p k)
theorem spL31_eq (c : Config) (p : Int) (k : Int) (l : L31) : spL31 c p k l = bod31 id c p k (spL31 c p k) l := lfp_eq (ct31 c p k) l
/-- ref16.region -/
noncomputable def spO31 (c : Config) (p : Int) (k : Int) : Option R31 := ent31 id c p k (spL31 c p k)
noncomputable def sp31 (c : Config) (p : Int) (k : Int) : R31 := (spO31 c p k).getD default
noncomputable def spc31 (c : Config) (p : Int) (k : Int) : Bool := (spO31 c p k).isSome
theorem oks31 (c : Config) (p : Int) (k : Int) (hc : spc31 c p k = true) : Okay Pr GL 31 [.agg [.v (.int .i64 c.frames), .v (.int .i64 c.major), .v (.int .i64 c.kernel), .v (.int .i64 c.room), .sl (.sl .sWindow) c.cores, .sl .sPartition c.partitions, .sl .sChannel c.channels], .v (.int .i64 p), .v (.int .i64 k)] [] (to31 (sp31 c p k)) := by
  obtain ⟨n, h⟩ := auto_ok (nat31 c p k) (fun s => show ent31 to31 c p k (fun l => (s l).map to31) = (ent31 id c p k s).map to31 by simp only [ent31, map_cond, Option.map_some, Option.map_none, id]) (ct31 c p k) (show CT fun j => ent31 id c p k j by dsimp only [ent31]; repeat (first | exact CT.jump _ | exact CT.const _ | apply CT.cond)) (isSome_getD hc)
  exact okay_of_run (H := H31) GCok G0ok Tryd.func31 rfl (by kernel_rfl) n (by
    rw [run31]
    rw [show (fun l => runL Pr GC H31 Tryd.f31 n (num31 l) (st31 c p k l)) = shad (bod31 to31 c p k) n from funext (shad31 c p k n)]
    exact h)

/-! ### ref15.may -/
abbrev R37 := Bool
def to37 (r : R37) : Ans := ⟨.v (.bool r), []⟩
inductive L37 where
  | l0 (x0 : Int)
  | l4 (x0 : Int)
  | l8 (x5 : Int) (x2 : Int) (x3 : Int) (x6 : Int) (x7 : Int) (x8 : Bool) (x0 : Bool) (x1 : Bool) (x4 : Int) (x9 : Int) (x10 : Int) (x11 : Int)
def num37 : L37 → Nat
  | .l0 _ => 0
  | .l4 _ => 4
  | .l8 _ _ _ _ _ _ _ _ _ _ _ _ => 8
def H37 : Hint := ⟨fun n => [].any (Nat.beq n), hdAt [(0, ⟨fgt [1, 31, 32, 61, 62, 63, 64, 65, 66, 67, 68, 98, 99, 102, 103] 106 0, []⟩), (4, ⟨fgt [1, 48, 49, 65, 66, 67] 106 0, []⟩), (8, ⟨fgt [1, 4, 6, 7, 48, 49, 61, 62, 63, 64, 68, 72, 73, 98, 99, 102, 103] 106 0, []⟩)], [], G0, nodp⟩
noncomputable def st37 (c : Config) : L37 → St
  | .l0 x0 => ⟨mkE [(1, .ref 0 0), (31, .v (.int .i64 c.partitions.length)), (32, .v (.int .i64 x0))] 106 0, [.cells 26 [.v (.int .i64 c.frames), .v (.int .i64 c.major), .v (.int .i64 c.kernel), .v (.int .i64 c.room), .sl (.sl .sWindow) c.cores, .sl .sPartition c.partitions, .sl .sChannel c.channels]], GL, 0, [], nodp⟩
  | .l4 x0 => ⟨mkE [(1, .ref 0 0), (48, .v (.int .i64 c.channels.length)), (49, .v (.int .i64 x0))] 106 0, [.cells 26 [.v (.int .i64 c.frames), .v (.int .i64 c.major), .v (.int .i64 c.kernel), .v (.int .i64 c.room), .sl (.sl .sWindow) c.cores, .sl .sPartition c.partitions, .sl .sChannel c.channels]], GL, 0, [], nodp⟩
  | .l8 x5 x2 x3 x6 x7 x8 x0 x1 x4 x9 x10 x11 => ⟨mkE [(1, .ref 0 0), (4, .v (.int .i64 x5)), (6, .v (.int .i64 x2)), (7, .v (.int .i64 x3)), (48, .v (.int .i64 c.channels.length)), (49, .v (.int .i64 x6)), (61, .ref 1 0), (62, .v (.int .i64 x7)), (63, .v (.bool x8)), (64, .v (.bool x0)), (68, .v (.bool x1)), (72, .v (.int .i64 c.partitions.length)), (73, .v (.int .i64 x4))] 106 0, [.cells 26 [.v (.int .i64 c.frames), .v (.int .i64 c.major), .v (.int .i64 c.kernel), .v (.int .i64 c.room), .sl (.sl .sWindow) c.cores, .sl .sPartition c.partitions, .sl .sChannel c.channels], .cells 53 [.v (.int .i64 x9), .v (.int .i64 x10), .v (.int .i64 x11)]], GL, 0, [], nodp⟩
noncomputable def bod37 {R : Type} (ret : R37 → R) (c : Config) (j : L37 → Option R) : L37 → Option R
  | .l0 x0 => cond (decide ((x0 : Int) < c.partitions.length))
    (cond (inR x0 c.partitions.length) (
      cond (spc48 (atPartition c.partitions x0.toNat) c.channels.length) (
        cond (!(sp48 (atPartition c.partitions x0.toNat) c.channels.length))
          (some (ret false))
          (j (.l0 (IntKind.i64.wrap (x0 + 1))))) none) none)
    (j (.l4 0))
  | .l4 x0 => cond (decide ((x0 : Int) < c.channels.length))
    (cond (inR x0 c.channels.length) (
      cond (((sp49 (atChannel c.channels x0.toNat)) : Int) == 0)
        (some (ret false))
        (cond (((atChannel c.channels x0.toNat).kind : Int) == 1)
          (cond (!(((atChannel c.channels x0.toNat).depth : Int) == 0))
            (some (ret false))
            (j (.l8 x0 0 0 x0 ((atChannel c.channels x0.toNat).kind) (((atChannel c.channels x0.toNat).kind : Int) == 1) true (!(((atChannel c.channels x0.toNat).depth : Int) == 0)) 0 ((atChannel c.channels x0.toNat).kind) ((atChannel c.channels x0.toNat).words) ((atChannel c.channels x0.toNat).depth))))
          (j (.l8 x0 0 0 x0 ((atChannel c.channels x0.toNat).kind) (((atChannel c.channels x0.toNat).kind : Int) == 1) false false 0 ((atChannel c.channels x0.toNat).kind) ((atChannel c.channels x0.toNat).words) ((atChannel c.channels x0.toNat).depth))))) none)
    (some (ret true))
  | .l8 x5 x2 x3 x6 x7 x8 x0 x1 x4 x9 x10 x11 => cond (decide ((x4 : Int) < c.partitions.length))
    (cond (inR x4 c.partitions.length) (
      cond (spc50 (atPartition c.partitions x4.toNat) x5 true) (
        cond (inR x4 c.partitions.length) (
          cond (spc50 (atPartition c.partitions x4.toNat) x5 false) (
            j (.l8 x5 (IntKind.i64.wrap (x2 + (sp50 (atPartition c.partitions x4.toNat) x5 true))) (IntKind.i64.wrap (x3 + (sp50 (atPartition c.partitions x4.toNat) x5 false))) x6 x7 x8 x0 x1 (IntKind.i64.wrap (x4 + 1)) x9 x10 x11)) none) none) none) none)
    (cond (!((x2 : Int) == 1))
      (some (ret false))
      (cond (decide ((x3 : Int) < 1))
        (some (ret false))
        (cond (decide ((x3 : Int) > 4))
          (some (ret false))
          (j (.l4 (IntKind.i64.wrap (x6 + 1)))))))
noncomputable def ent37 {R : Type} (ret : R37 → R) (c : Config) (j : L37 → Option R) : Option R :=
    cond (decide ((c.kernel : Int) < 0))
    (some (ret false))
    (cond (decide ((c.kernel : Int) ≥ 1024))
      (some (ret false))
      (cond (decide ((c.partitions.length : Int) > 8))
        (some (ret false))
        (cond (decide ((c.channels.length : Int) > 16))
          (some (ret false))
          (j (.l0 0)))))
theorem head37_0 (J : Jmp) (c : Config) (x0 : Int) : stepAt Pr GC H37 J 0 0 (bodyOf Tryd.f37) (fin Pr H37 Tryd.f37) (st37 c (.l0 x0)) = bod37 to37 c (fun l => J (num37 l) (st37 c l)) (.l0 x0) := by kernel_rfl
theorem head37_4 (J : Jmp) (c : Config) (x0 : Int) : stepAt Pr GC H37 J 4 0 (bodyOf Tryd.f37) (fin Pr H37 Tryd.f37) (st37 c (.l4 x0)) = bod37 to37 c (fun l => J (num37 l) (st37 c l)) (.l4 x0) := by kernel_rfl
theorem head37_8 (J : Jmp) (c : Config) (x5 : Int) (x2 : Int) (x3 : Int) (x6 : Int) (x7 : Int) (x8 : Bool) (x0 : Bool) (x1 : Bool) (x4 : Int) (x9 : Int) (x10 : Int) (x11 : Int) : stepAt Pr GC H37 J 8 0 (bodyOf Tryd.f37) (fin Pr H37 Tryd.f37) (st37 c (.l8 x5 x2 x3 x6 x7 x8 x0 x1 x4 x9 x10 x11)) = bod37 to37 c (fun l => J (num37 l) (st37 c l)) (.l8 x5 x2 x3 x6 x7 x8 x0 x1 x4 x9 x10 x11) := by kernel_rfl
theorem run37 (J : Jmp) (c : Config) : runF Pr GC H37 J GL Tryd.f37 [.agg [.v (.int .i64 c.frames), .v (.int .i64 c.major), .v (.int .i64 c.kernel), .v (.int .i64 c.room), .sl (.sl .sWindow) c.cores, .sl .sPartition c.partitions, .sl .sChannel c.channels]] [] = ent37 to37 c (fun l => J (num37 l) (st37 c l)) := by kernel_rfl
theorem shad37 (c : Config) : ∀ (n : Nat) (l : L37), runL Pr GC H37 Tryd.f37 n (num37 l) (st37 c l) = shad (bod37 to37 c) n l
  | 0, l => by cases l <;> rfl
  | n + 1, l => by
    have ih : (fun l => runL Pr GC H37 Tryd.f37 n (num37 l) (st37 c l)) = shad (bod37 to37 c) n := funext (shad37 c n)
    cases l with
    | l0 x0 => exact (step_eq ..).trans ((head37_0 ..).trans (by rw [ih]; rfl))
    | l4 x0 => exact (step_eq ..).trans ((head37_4 ..).trans (by rw [ih]; rfl))
    | l8 x5 x2 x3 x6 x7 x8 x0 x1 x4 x9 x10 x11 => exact (step_eq ..).trans ((head37_8 ..).trans (by rw [ih]; rfl))
theorem nat37 (c : Config) (s : L37 → Option R37) (l : L37) : bod37 to37 c (fun l => (s l).map to37) l = (bod37 id c s l).map to37 := by
  cases l <;> simp only [bod37, map_cond, Option.map_some, Option.map_none, id]
theorem ct37 (c : Config) (l : L37) : CT fun j => bod37 id c j l := by
  cases l <;> (dsimp only [bod37]; repeat (first | exact CT.jump _ | exact CT.const _ | apply CT.cond))
/-- ref15.may, from a head on. -/
noncomputable def spL37 (c : Config) : L37 → Option R37 := lfp (bod37 id c)
theorem spL37_eq (c : Config) (l : L37) : spL37 c l = bod37 id c (spL37 c) l := lfp_eq (ct37 c) l
/-- ref15.may -/
noncomputable def spO37 (c : Config) : Option R37 := ent37 id c (spL37 c)
noncomputable def sp37 (c : Config) : R37 := (spO37 c).getD default
noncomputable def spc37 (c : Config) : Bool := (spO37 c).isSome
theorem oks37 (c : Config) (hc : spc37 c = true) : Okay Pr GL 37 [.agg [.v (.int .i64 c.frames), .v (.int .i64 c.major), .v (.int .i64 c.kernel), .v (.int .i64 c.room), .sl (.sl .sWindow) c.cores, .sl .sPartition c.partitions, .sl .sChannel c.channels]] [] (to37 (sp37 c)) := by
  obtain ⟨n, h⟩ := auto_ok (nat37 c) (fun s => show ent37 to37 c (fun l => (s l).map to37) = (ent37 id c s).map to37 by simp only [ent37, map_cond, Option.map_some, Option.map_none, id]) (ct37 c) (show CT fun j => ent37 id c j by dsimp only [ent37]; repeat (first | exact CT.jump _ | exact CT.const _ | apply CT.cond)) (isSome_getD hc)
  exact okay_of_run (H := H37) GCok G0ok Tryd.func37 rfl (by kernel_rfl) n (by
    rw [run37]
    rw [show (fun l => runL Pr GC H37 Tryd.f37 n (num37 l) (st37 c l)) = shad (bod37 to37 c) n from funext (shad37 c n)]
    exact h)

/-! ### ref15.pieces -/
abbrev R38 := (List Bulkheadref15Piece)
def to38 (r : R38) : Ans := ⟨.own 0, [.arr 87 .sBulkheadref15Piece r]⟩
inductive L38 where
  | l0 (x0 : Int) (x1 : Int) (x2 : List Bulkheadref15Piece)
  | l4 (x0 : Int) (x1 : Int) (x2 : List Bulkheadref15Piece)
  | l8 (x0 : Int) (x1 : Int) (x2 : Int) (x7 : Int) (x3 : List Bulkheadref15Piece) (x4 : Int) (x5 : Int) (x6 : Int)
  | l16 (x0 : Int) (x1 : List Bulkheadref15Piece)
  | l12 (x0 : Int) (x1 : Int) (x8 : Int) (x2 : Int) (x9 : Int) (x10 : Int) (x7 : Int) (x3 : List Bulkheadref15Piece) (x4 : Int) (x5 : Int) (x6 : Int)
  | l20 (x0 : Int) (x2 : Int) (x1 : List Bulkheadref15Piece)
  | l61 (x0 : Int) (x1 : Int) (x7 : Int) (x2 : Int) (x8 : Int) (x9 : Int) (x10 : Int) (x3 : List Bulkheadref15Piece) (x4 : Int) (x5 : Int) (x6 : Int)
  | l24 (x0 : Int) (x4 : Int) (x2 : Int) (x5 : Int) (x3 : Int) (x1 : List Bulkheadref15Piece)
  | l89 (x0 : Int) (x3 : Int) (x2 : Int) (x4 : Int) (x5 : Int) (x1 : List Bulkheadref15Piece)
  | l28 (x0 : Int) (x3 : Int) (x4 : Int) (x5 : Int) (x2 : Int) (x1 : List Bulkheadref15Piece)
def num38 : L38 → Nat
  | .l0 _ _ _ => 0
  | .l4 _ _ _ => 4
  | .l8 _ _ _ _ _ _ _ _ => 8
  | .l16 _ _ => 16
  | .l12 _ _ _ _ _ _ _ _ _ _ _ => 12
  | .l20 _ _ _ => 20
  | .l61 _ _ _ _ _ _ _ _ _ _ _ => 61
  | .l24 _ _ _ _ _ _ => 24
  | .l89 _ _ _ _ _ _ => 89
  | .l28 _ _ _ _ _ _ => 28
def H38 : Hint := ⟨fun n => [30, 44].any (Nat.beq n), hdAt [(0, ⟨fgt [1, 3, 4, 27, 28, 121, 122, 123] 181 0, []⟩), (4, ⟨fgt [1, 3, 4, 60, 61, 121, 122, 123] 181 0, []⟩), (8, ⟨fgt [1, 3, 4, 6, 7, 60, 61, 93, 94, 121, 122, 123] 181 0, []⟩), (16, ⟨fgt [1, 3, 4] 181 0, []⟩), (12, ⟨fgt [1, 3, 4, 6, 7, 8, 60, 61, 93, 94, 103, 104, 121, 122, 123] 181 0, []⟩), (20, ⟨fgt [1, 3, 4, 149, 150] 181 0, []⟩), (61, ⟨fgt [1, 3, 4, 6, 7, 8, 60, 61, 93, 94, 103, 104] 181 0, []⟩), (24, ⟨fgt [1, 3, 4, 11, 12, 149, 150, 153] 181 0, []⟩), (89, ⟨fgt [1, 3, 4, 11, 12, 149, 150, 153] 181 0, []⟩), (28, ⟨fgt [1, 3, 4, 11, 149, 150, 166, 167] 181 0, []⟩)], [], G0, nodp⟩
noncomputable def st38 (c : Config) : L38 → St
  | .l0 x0 x1 x2 => ⟨mkE [(1, .ref 0 0), (3, .own 1), (4, .v (.int .i64 x0)), (27, .v (.int .i64 c.partitions.length)), (28, .v (.int .i64 x1))] 181 0, [.cells 26 [.v (.int .i64 c.frames), .v (.int .i64 c.major), .v (.int .i64 c.kernel), .v (.int .i64 c.room), .sl (.sl .sWindow) c.cores, .sl .sPartition c.partitions, .sl .sChannel c.channels], .arr 87 .sBulkheadref15Piece x2], GL, 0, [], nodp⟩
  | .l4 x0 x1 x2 => ⟨mkE [(1, .ref 0 0), (3, .own 1), (4, .v (.int .i64 x0)), (60, .v (.int .i64 c.channels.length)), (61, .v (.int .i64 x1))] 181 0, [.cells 26 [.v (.int .i64 c.frames), .v (.int .i64 c.major), .v (.int .i64 c.kernel), .v (.int .i64 c.room), .sl (.sl .sWindow) c.cores, .sl .sPartition c.partitions, .sl .sChannel c.channels], .arr 87 .sBulkheadref15Piece x2], GL, 0, [], nodp⟩
  | .l8 x0 x1 x2 x7 x3 x4 x5 x6 => ⟨mkE [(1, .ref 0 0), (3, .own 1), (4, .v (.int .i64 x0)), (6, .v (.int .i64 x1)), (7, .ref 2 0), (60, .v (.int .i64 c.channels.length)), (61, .v (.int .i64 x2)), (93, .v (.int .i64 c.partitions.length)), (94, .v (.int .i64 x7))] 181 0, [.cells 26 [.v (.int .i64 c.frames), .v (.int .i64 c.major), .v (.int .i64 c.kernel), .v (.int .i64 c.room), .sl (.sl .sWindow) c.cores, .sl .sPartition c.partitions, .sl .sChannel c.channels], .arr 87 .sBulkheadref15Piece x3, .cells 53 [.v (.int .i64 x4), .v (.int .i64 x5), .v (.int .i64 x6)]], GL, 0, [], nodp⟩
  | .l16 x0 x1 => ⟨mkE [(1, .ref 0 0), (3, .own 1), (4, .v (.int .i64 x0))] 181 0, [.cells 26 [.v (.int .i64 c.frames), .v (.int .i64 c.major), .v (.int .i64 c.kernel), .v (.int .i64 c.room), .sl (.sl .sWindow) c.cores, .sl .sPartition c.partitions, .sl .sChannel c.channels], .arr 87 .sBulkheadref15Piece x1], GL, 0, [], nodp⟩
  | .l12 x0 x1 x8 x2 x9 x10 x7 x3 x4 x5 x6 => ⟨mkE [(1, .ref 0 0), (3, .own 1), (4, .v (.int .i64 x0)), (6, .v (.int .i64 x1)), (7, .ref 2 0), (8, .v (.int .i64 x8)), (60, .v (.int .i64 c.channels.length)), (61, .v (.int .i64 x2)), (93, .v (.int .i64 c.partitions.length)), (94, .v (.int .i64 x9)), (103, .v (.int .i64 x10)), (104, .v (.int .i64 x7))] 181 0, [.cells 26 [.v (.int .i64 c.frames), .v (.int .i64 c.major), .v (.int .i64 c.kernel), .v (.int .i64 c.room), .sl (.sl .sWindow) c.cores, .sl .sPartition c.partitions, .sl .sChannel c.channels], .arr 87 .sBulkheadref15Piece x3, .cells 53 [.v (.int .i64 x4), .v (.int .i64 x5), .v (.int .i64 x6)]], GL, 0, [], nodp⟩
  | .l20 x0 x2 x1 => ⟨mkE [(1, .ref 0 0), (3, .own 1), (4, .v (.int .i64 x0)), (149, .v (.int .i64 c.partitions.length)), (150, .v (.int .i64 x2))] 181 0, [.cells 26 [.v (.int .i64 c.frames), .v (.int .i64 c.major), .v (.int .i64 c.kernel), .v (.int .i64 c.room), .sl (.sl .sWindow) c.cores, .sl .sPartition c.partitions, .sl .sChannel c.channels], .arr 87 .sBulkheadref15Piece x1], GL, 0, [], nodp⟩
  | .l61 x0 x1 x7 x2 x8 x9 x10 x3 x4 x5 x6 => ⟨mkE [(1, .ref 0 0), (3, .own 1), (4, .v (.int .i64 x0)), (6, .v (.int .i64 x1)), (7, .ref 2 0), (8, .v (.int .i64 x7)), (60, .v (.int .i64 c.channels.length)), (61, .v (.int .i64 x2)), (93, .v (.int .i64 c.partitions.length)), (94, .v (.int .i64 x8)), (103, .v (.int .i64 x9)), (104, .v (.int .i64 x10))] 181 0, [.cells 26 [.v (.int .i64 c.frames), .v (.int .i64 c.major), .v (.int .i64 c.kernel), .v (.int .i64 c.room), .sl (.sl .sWindow) c.cores, .sl .sPartition c.partitions, .sl .sChannel c.channels], .arr 87 .sBulkheadref15Piece x3, .cells 53 [.v (.int .i64 x4), .v (.int .i64 x5), .v (.int .i64 x6)]], GL, 0, [], nodp⟩
  | .l24 x0 x4 x2 x5 x3 x1 => ⟨mkE [(1, .ref 0 0), (3, .own 1), (4, .v (.int .i64 x0)), (11, .v (.int .i64 x4)), (12, .v (.int .i64 x2)), (149, .v (.int .i64 c.partitions.length)), (150, .v (.int .i64 x5)), (153, .v (.int .i64 x3))] 181 0, [.cells 26 [.v (.int .i64 c.frames), .v (.int .i64 c.major), .v (.int .i64 c.kernel), .v (.int .i64 c.room), .sl (.sl .sWindow) c.cores, .sl .sPartition c.partitions, .sl .sChannel c.channels], .arr 87 .sBulkheadref15Piece x1], GL, 0, [], nodp⟩
  | .l89 x0 x3 x2 x4 x5 x1 => ⟨mkE [(1, .ref 0 0), (3, .own 1), (4, .v (.int .i64 x0)), (11, .v (.int .i64 x3)), (12, .v (.int .i64 x2)), (149, .v (.int .i64 c.partitions.length)), (150, .v (.int .i64 x4)), (153, .v (.int .i64 x5))] 181 0, [.cells 26 [.v (.int .i64 c.frames), .v (.int .i64 c.major), .v (.int .i64 c.kernel), .v (.int .i64 c.room), .sl (.sl .sWindow) c.cores, .sl .sPartition c.partitions, .sl .sChannel c.channels], .arr 87 .sBulkheadref15Piece x1], GL, 0, [], nodp⟩
  | .l28 x0 x3 x4 x5 x2 x1 => ⟨mkE [(1, .ref 0 0), (3, .own 1), (4, .v (.int .i64 x0)), (11, .v (.int .i64 x3)), (149, .v (.int .i64 c.partitions.length)), (150, .v (.int .i64 x4)), (166, .v (.int .i64 x5)), (167, .v (.int .i64 x2))] 181 0, [.cells 26 [.v (.int .i64 c.frames), .v (.int .i64 c.major), .v (.int .i64 c.kernel), .v (.int .i64 c.room), .sl (.sl .sWindow) c.cores, .sl .sPartition c.partitions, .sl .sChannel c.channels], .arr 87 .sBulkheadref15Piece x1], GL, 0, [], nodp⟩
noncomputable def bod38 {R : Type} (ret : R38 → R) (c : Config) (j : L38 → Option R) : L38 → Option R
  | .l0 x0 x1 x2 => cond (decide ((x1 : Int) < c.partitions.length))
    (cond (leB (((x2 : List Bulkheadref15Piece).length + ([(⟨x0, 2, (⟨3, x1, 0⟩ : Owner)⟩ : Bulkheadref15Piece)] : List Bulkheadref15Piece).length) * 40) 140737488355328) (
      cond (leB (((((x2 : List Bulkheadref15Piece) ++ [(⟨x0, 2, (⟨3, x1, 0⟩ : Owner)⟩ : Bulkheadref15Piece)]) : List Bulkheadref15Piece).length + ([(⟨(IntKind.i64.wrap (x0 + 2)), 17, (⟨4, x1, 0⟩ : Owner)⟩ : Bulkheadref15Piece)] : List Bulkheadref15Piece).length) * 40) 140737488355328) (
        cond (leB (((((((x2 : List Bulkheadref15Piece) ++ [(⟨x0, 2, (⟨3, x1, 0⟩ : Owner)⟩ : Bulkheadref15Piece)]) : List Bulkheadref15Piece) ++ [(⟨(IntKind.i64.wrap (x0 + 2)), 17, (⟨4, x1, 0⟩ : Owner)⟩ : Bulkheadref15Piece)]) : List Bulkheadref15Piece).length + ([(⟨(IntKind.i64.wrap ((IntKind.i64.wrap (x0 + 2)) + 17)), 5, (⟨5, x1, 0⟩ : Owner)⟩ : Bulkheadref15Piece)] : List Bulkheadref15Piece).length) * 40) 140737488355328) (
          j (.l0 (IntKind.i64.wrap (x0 + 24)) (IntKind.i64.wrap (x1 + 1)) ((((((x2 : List Bulkheadref15Piece) ++ [(⟨x0, 2, (⟨3, x1, 0⟩ : Owner)⟩ : Bulkheadref15Piece)]) : List Bulkheadref15Piece) ++ [(⟨(IntKind.i64.wrap (x0 + 2)), 17, (⟨4, x1, 0⟩ : Owner)⟩ : Bulkheadref15Piece)]) : List Bulkheadref15Piece) ++ [(⟨(IntKind.i64.wrap ((IntKind.i64.wrap (x0 + 2)) + 17)), 5, (⟨5, x1, 0⟩ : Owner)⟩ : Bulkheadref15Piece)]))) none) none) none)
    (j (.l4 x0 0 x2))
  | .l4 x0 x1 x2 => cond (decide ((x1 : Int) < c.channels.length))
    (cond (inR x1 c.channels.length) (
      cond (leB (((x2 : List Bulkheadref15Piece).length + ([(⟨x0, 2, (⟨6, x1, 0⟩ : Owner)⟩ : Bulkheadref15Piece)] : List Bulkheadref15Piece).length) * 40) 140737488355328) (
        cond (leB (((((x2 : List Bulkheadref15Piece) ++ [(⟨x0, 2, (⟨6, x1, 0⟩ : Owner)⟩ : Bulkheadref15Piece)]) : List Bulkheadref15Piece).length + ([(⟨(IntKind.i64.wrap (x0 + 2)), (sp51 (atChannel c.channels x1.toNat)), (⟨7, x1, 0⟩ : Owner)⟩ : Bulkheadref15Piece)] : List Bulkheadref15Piece).length) * 40) 140737488355328) (
          j (.l8 (IntKind.i64.wrap (x0 + (IntKind.i64.wrap (2 + (sp51 (atChannel c.channels x1.toNat)))))) x1 x1 0 ((((x2 : List Bulkheadref15Piece) ++ [(⟨x0, 2, (⟨6, x1, 0⟩ : Owner)⟩ : Bulkheadref15Piece)]) : List Bulkheadref15Piece) ++ [(⟨(IntKind.i64.wrap (x0 + 2)), (sp51 (atChannel c.channels x1.toNat)), (⟨7, x1, 0⟩ : Owner)⟩ : Bulkheadref15Piece)]) ((atChannel c.channels x1.toNat).kind) ((atChannel c.channels x1.toNat).words) ((atChannel c.channels x1.toNat).depth))) none) none) none)
    (j (.l16 x0 x2))
  | .l8 x0 x1 x2 x7 x3 x4 x5 x6 => cond (decide ((x7 : Int) < c.partitions.length))
    (cond (inR x7 c.partitions.length) (j (.l12 x0 x1 x7 x2 x7 (((atPartition c.partitions x7.toNat).ports).length) 0 x3 x4 x5 x6)) none)
    (j (.l4 x0 (IntKind.i64.wrap (x2 + 1)) x3))
  | .l16 x0 x1 => cond (!(((bop .rem .i64 x0 16) : Int) == 0))
    (j (.l16 (IntKind.i64.wrap (x0 + 1)) x1))
    (j (.l20 x0 0 x1))
  | .l12 x0 x1 x8 x2 x9 x10 x7 x3 x4 x5 x6 => cond (decide ((x7 : Int) < x10))
    (cond (inR x8 c.partitions.length) (
      cond (inR x7 ((atPartition c.partitions x8.toNat).ports).length) (
        cond (((atPort ((atPartition c.partitions x8.toNat).ports) x7.toNat).channel : Int) == x1)
          (cond (!((atPort ((atPartition c.partitions x8.toNat).ports) x7.toNat).source))
            (cond (leB (((x3 : List Bulkheadref15Piece).length + ([(⟨x0, (sp49 (⟨x4, x5, x6⟩ : Channel)), (⟨8, x8, x7⟩ : Owner)⟩ : Bulkheadref15Piece)] : List Bulkheadref15Piece).length) * 40) 140737488355328) (
              j (.l61 (IntKind.i64.wrap (x0 + (sp49 (⟨x4, x5, x6⟩ : Channel)))) x1 x8 x2 x9 x10 x7 ((x3 : List Bulkheadref15Piece) ++ [(⟨x0, (sp49 (⟨x4, x5, x6⟩ : Channel)), (⟨8, x8, x7⟩ : Owner)⟩ : Bulkheadref15Piece)]) x4 x5 x6)) none)
            (j (.l61 x0 x1 x8 x2 x9 x10 x7 x3 x4 x5 x6)))
          (j (.l61 x0 x1 x8 x2 x9 x10 x7 x3 x4 x5 x6))) none) none)
    (j (.l8 x0 x1 x2 (IntKind.i64.wrap (x9 + 1)) x3 x4 x5 x6))
  | .l20 x0 x2 x1 => cond (decide ((x2 : Int) < c.partitions.length))
    (j (.l24 x0 x2 1 x2 0 x1))
    (some (ret x1))
  | .l61 x0 x1 x7 x2 x8 x9 x10 x3 x4 x5 x6 => j (.l12 x0 x1 x7 x2 x8 x9 (IntKind.i64.wrap (x10 + 1)) x3 x4 x5 x6)
  | .l24 x0 x4 x2 x5 x3 x1 => cond (decide ((x3 : Int) < 16))
    (cond (inR x4 c.partitions.length) (
      cond (spc52 (atPartition c.partitions x4.toNat) x3) (
        cond (sp52 (atPartition c.partitions x4.toNat) x3)
          (j (.l89 x0 x4 (IntKind.i64.wrap (x2 + 1)) x5 x3 x1))
          (j (.l89 x0 x4 x2 x5 x3 x1))) none) none)
    (j (.l28 x0 x4 x5 x2 0 x1))
  | .l89 x0 x3 x2 x4 x5 x1 => j (.l24 x0 x3 x2 x4 (IntKind.i64.wrap (x5 + 1)) x1)
  | .l28 x0 x3 x4 x5 x2 x1 => cond (decide ((x2 : Int) < x5))
    (cond (leB (((x1 : List Bulkheadref15Piece).length + ([(⟨x0, 16, (⟨9, x3, 0⟩ : Owner)⟩ : Bulkheadref15Piece)] : List Bulkheadref15Piece).length) * 40) 140737488355328) (
      j (.l28 (IntKind.i64.wrap (x0 + 16)) x3 x4 x5 (IntKind.i64.wrap (x2 + 1)) ((x1 : List Bulkheadref15Piece) ++ [(⟨x0, 16, (⟨9, x3, 0⟩ : Owner)⟩ : Bulkheadref15Piece)]))) none)
    (j (.l20 x0 (IntKind.i64.wrap (x4 + 1)) x1))
noncomputable def ent38 {R : Type} (ret : R38 → R) (c : Config) (j : L38 → Option R) : Option R :=
    cond (leB ((([] : List Bulkheadref15Piece).length + ([(⟨(IntKind.i64.wrap (16 * c.kernel)), 2, (⟨2, 0, 0⟩ : Owner)⟩ : Bulkheadref15Piece)] : List Bulkheadref15Piece).length) * 40) 140737488355328) (
    j (.l0 (IntKind.i64.wrap ((IntKind.i64.wrap (16 * c.kernel)) + 2)) 0 (([] : List Bulkheadref15Piece) ++ [(⟨(IntKind.i64.wrap (16 * c.kernel)), 2, (⟨2, 0, 0⟩ : Owner)⟩ : Bulkheadref15Piece)]))) none
theorem head38_0 (J : Jmp) (c : Config) (x0 : Int) (x1 : Int) (x2 : List Bulkheadref15Piece) : stepAt Pr GC H38 J 0 0 (bodyOf Tryd.f38) (fin Pr H38 Tryd.f38) (st38 c (.l0 x0 x1 x2)) = bod38 to38 c (fun l => J (num38 l) (st38 c l)) (.l0 x0 x1 x2) := by kernel_rfl
theorem head38_4 (J : Jmp) (c : Config) (x0 : Int) (x1 : Int) (x2 : List Bulkheadref15Piece) : stepAt Pr GC H38 J 4 0 (bodyOf Tryd.f38) (fin Pr H38 Tryd.f38) (st38 c (.l4 x0 x1 x2)) = bod38 to38 c (fun l => J (num38 l) (st38 c l)) (.l4 x0 x1 x2) := by kernel_rfl
theorem head38_8 (J : Jmp) (c : Config) (x0 : Int) (x1 : Int) (x2 : Int) (x7 : Int) (x3 : List Bulkheadref15Piece) (x4 : Int) (x5 : Int) (x6 : Int) : stepAt Pr GC H38 J 8 0 (bodyOf Tryd.f38) (fin Pr H38 Tryd.f38) (st38 c (.l8 x0 x1 x2 x7 x3 x4 x5 x6)) = bod38 to38 c (fun l => J (num38 l) (st38 c l)) (.l8 x0 x1 x2 x7 x3 x4 x5 x6) := by kernel_rfl
theorem head38_16 (J : Jmp) (c : Config) (x0 : Int) (x1 : List Bulkheadref15Piece) : stepAt Pr GC H38 J 16 0 (bodyOf Tryd.f38) (fin Pr H38 Tryd.f38) (st38 c (.l16 x0 x1)) = bod38 to38 c (fun l => J (num38 l) (st38 c l)) (.l16 x0 x1) := by kernel_rfl
theorem head38_12 (J : Jmp) (c : Config) (x0 : Int) (x1 : Int) (x8 : Int) (x2 : Int) (x9 : Int) (x10 : Int) (x7 : Int) (x3 : List Bulkheadref15Piece) (x4 : Int) (x5 : Int) (x6 : Int) : stepAt Pr GC H38 J 12 0 (bodyOf Tryd.f38) (fin Pr H38 Tryd.f38) (st38 c (.l12 x0 x1 x8 x2 x9 x10 x7 x3 x4 x5 x6)) = bod38 to38 c (fun l => J (num38 l) (st38 c l)) (.l12 x0 x1 x8 x2 x9 x10 x7 x3 x4 x5 x6) := by kernel_rfl
theorem head38_20 (J : Jmp) (c : Config) (x0 : Int) (x2 : Int) (x1 : List Bulkheadref15Piece) : stepAt Pr GC H38 J 20 0 (bodyOf Tryd.f38) (fin Pr H38 Tryd.f38) (st38 c (.l20 x0 x2 x1)) = bod38 to38 c (fun l => J (num38 l) (st38 c l)) (.l20 x0 x2 x1) := by kernel_rfl
theorem head38_61 (J : Jmp) (c : Config) (x0 : Int) (x1 : Int) (x7 : Int) (x2 : Int) (x8 : Int) (x9 : Int) (x10 : Int) (x3 : List Bulkheadref15Piece) (x4 : Int) (x5 : Int) (x6 : Int) : stepAt Pr GC H38 J 61 0 (bodyOf Tryd.f38) (fin Pr H38 Tryd.f38) (st38 c (.l61 x0 x1 x7 x2 x8 x9 x10 x3 x4 x5 x6)) = bod38 to38 c (fun l => J (num38 l) (st38 c l)) (.l61 x0 x1 x7 x2 x8 x9 x10 x3 x4 x5 x6) := by kernel_rfl
theorem head38_24 (J : Jmp) (c : Config) (x0 : Int) (x4 : Int) (x2 : Int) (x5 : Int) (x3 : Int) (x1 : List Bulkheadref15Piece) : stepAt Pr GC H38 J 24 0 (bodyOf Tryd.f38) (fin Pr H38 Tryd.f38) (st38 c (.l24 x0 x4 x2 x5 x3 x1)) = bod38 to38 c (fun l => J (num38 l) (st38 c l)) (.l24 x0 x4 x2 x5 x3 x1) := by kernel_rfl
theorem head38_89 (J : Jmp) (c : Config) (x0 : Int) (x3 : Int) (x2 : Int) (x4 : Int) (x5 : Int) (x1 : List Bulkheadref15Piece) : stepAt Pr GC H38 J 89 0 (bodyOf Tryd.f38) (fin Pr H38 Tryd.f38) (st38 c (.l89 x0 x3 x2 x4 x5 x1)) = bod38 to38 c (fun l => J (num38 l) (st38 c l)) (.l89 x0 x3 x2 x4 x5 x1) := by kernel_rfl
theorem head38_28 (J : Jmp) (c : Config) (x0 : Int) (x3 : Int) (x4 : Int) (x5 : Int) (x2 : Int) (x1 : List Bulkheadref15Piece) : stepAt Pr GC H38 J 28 0 (bodyOf Tryd.f38) (fin Pr H38 Tryd.f38) (st38 c (.l28 x0 x3 x4 x5 x2 x1)) = bod38 to38 c (fun l => J (num38 l) (st38 c l)) (.l28 x0 x3 x4 x5 x2 x1) := by kernel_rfl
theorem run38 (J : Jmp) (c : Config) : runF Pr GC H38 J GL Tryd.f38 [.agg [.v (.int .i64 c.frames), .v (.int .i64 c.major), .v (.int .i64 c.kernel), .v (.int .i64 c.room), .sl (.sl .sWindow) c.cores, .sl .sPartition c.partitions, .sl .sChannel c.channels]] [] = ent38 to38 c (fun l => J (num38 l) (st38 c l)) := by kernel_rfl
theorem shad38 (c : Config) : ∀ (n : Nat) (l : L38), runL Pr GC H38 Tryd.f38 n (num38 l) (st38 c l) = shad (bod38 to38 c) n l
  | 0, l => by cases l <;> rfl
  | n + 1, l => by
    have ih : (fun l => runL Pr GC H38 Tryd.f38 n (num38 l) (st38 c l)) = shad (bod38 to38 c) n := funext (shad38 c n)
    cases l with
    | l0 x0 x1 x2 => exact (step_eq ..).trans ((head38_0 ..).trans (by rw [ih]; rfl))
    | l4 x0 x1 x2 => exact (step_eq ..).trans ((head38_4 ..).trans (by rw [ih]; rfl))
    | l8 x0 x1 x2 x7 x3 x4 x5 x6 => exact (step_eq ..).trans ((head38_8 ..).trans (by rw [ih]; rfl))
    | l16 x0 x1 => exact (step_eq ..).trans ((head38_16 ..).trans (by rw [ih]; rfl))
    | l12 x0 x1 x8 x2 x9 x10 x7 x3 x4 x5 x6 => exact (step_eq ..).trans ((head38_12 ..).trans (by rw [ih]; rfl))
    | l20 x0 x2 x1 => exact (step_eq ..).trans ((head38_20 ..).trans (by rw [ih]; rfl))
    | l61 x0 x1 x7 x2 x8 x9 x10 x3 x4 x5 x6 => exact (step_eq ..).trans ((head38_61 ..).trans (by rw [ih]; rfl))
    | l24 x0 x4 x2 x5 x3 x1 => exact (step_eq ..).trans ((head38_24 ..).trans (by rw [ih]; rfl))
    | l89 x0 x3 x2 x4 x5 x1 => exact (step_eq ..).trans ((head38_89 ..).trans (by rw [ih]; rfl))
    | l28 x0 x3 x4 x5 x2 x1 => exact (step_eq ..).trans ((head38_28 ..).trans (by rw [ih]; rfl))
theorem nat38 (c : Config) (s : L38 → Option R38) (l : L38) : bod38 to38 c (fun l => (s l).map to38) l = (bod38 id c s l).map to38 := by
  cases l <;> simp only [bod38, map_cond, Option.map_some, Option.map_none, id]
theorem ct38 (c : Config) (l : L38) : CT fun j => bod38 id c j l := by
  cases l <;> (dsimp only [bod38]; repeat (first | exact CT.jump _ | exact CT.const _ | apply CT.cond))
/-- ref15.pieces, from a head on. -/
noncomputable def spL38 (c : Config) : L38 → Option R38 := lfp (bod38 id c)
theorem spL38_eq (c : Config) (l : L38) : spL38 c l = bod38 id c (spL38 c) l := lfp_eq (ct38 c) l
/-- ref15.pieces -/
noncomputable def spO38 (c : Config) : Option R38 := ent38 id c (spL38 c)
noncomputable def sp38 (c : Config) : R38 := (spO38 c).getD default
noncomputable def spc38 (c : Config) : Bool := (spO38 c).isSome
theorem oks38 (c : Config) (hc : spc38 c = true) : Okay Pr GL 38 [.agg [.v (.int .i64 c.frames), .v (.int .i64 c.major), .v (.int .i64 c.kernel), .v (.int .i64 c.room), .sl (.sl .sWindow) c.cores, .sl .sPartition c.partitions, .sl .sChannel c.channels]] [] (to38 (sp38 c)) := by
  obtain ⟨n, h⟩ := auto_ok (nat38 c) (fun s => show ent38 to38 c (fun l => (s l).map to38) = (ent38 id c s).map to38 by simp only [ent38, map_cond, Option.map_some, Option.map_none, id]) (ct38 c) (show CT fun j => ent38 id c j by dsimp only [ent38]; repeat (first | exact CT.jump _ | exact CT.const _ | apply CT.cond)) (isSome_getD hc)
  exact okay_of_run (H := H38) GCok G0ok Tryd.func38 rfl (by kernel_rfl) n (by
    rw [run38]
    rw [show (fun l => runL Pr GC H38 Tryd.f38 n (num38 l) (st38 c l)) = shad (bod38 to38 c) n from funext (shad38 c n)]
    exact h)

/-! ### admit.partition -/
abbrev R61 := AdmitFound
def to61 (r : R61) : Ans := ⟨.agg [.v (.int .i64 r.e), .v (.int .i64 r.where_.first), .v (.int .i64 r.where_.second)], []⟩
inductive L61 where
  | l0 (x3 : Int) (x0 : Int) (x1 : Int) (x2 : Int)
  | l4 (x3 : Int) (x0 : Int) (x1 : Int) (x2 : Int)
def num61 : L61 → Nat
  | .l0 _ _ _ _ => 0
  | .l4 _ _ _ _ => 4
def H61 : Hint := ⟨fun n => [].any (Nat.beq n), hdAt [(0, ⟨fgt [1, 2, 4, 5, 6, 7, 75, 76, 96, 97, 98] 118 0, []⟩), (4, ⟨fgt [1, 2, 4, 5, 6, 8] 118 0, []⟩)], [], G0, nodp⟩
noncomputable def st61 (c : Config) (p : Int) : L61 → St
  | .l0 x3 x0 x1 x2 => ⟨mkE [(1, .v (.int .i64 p)), (2, .ref 0 0), (4, .ref 1 0), (5, .ref 2 0), (6, .ref 3 0), (7, .v (.int .i64 x3))] 118 0, [.cells 26 [.v (.int .i64 c.frames), .v (.int .i64 c.major), .v (.int .i64 c.kernel), .v (.int .i64 c.room), .sl (.sl .sWindow) c.cores, .sl .sPartition c.partitions, .sl .sChannel c.channels], .cells 93 [.v (.int .i64 0), .v (.int .i64 0), .v (.int .i64 0)], .cells 48 [.v (.string ((atPartition c.partitions p.toNat).name)), .v (.int .i64 ((atPartition c.partitions p.toNat).entry)), .v (.int .i64 ((atPartition c.partitions p.toNat).action)), .v (.int .i64 ((atPartition c.partitions p.toNat).restarts)), .v (.int .i64 ((atPartition c.partitions p.toNat).inputs)), .v (.int .i64 ((atPartition c.partitions p.toNat).outputs)), .sl .sRegion ((atPartition c.partitions p.toNat).regions), .sl .sPort ((atPartition c.partitions p.toNat).ports)], .cells 93 [.v (.int .i64 x0), .v (.int .i64 x1), .v (.int .i64 x2)]], GL, 0, [], nodp⟩
  | .l4 x3 x0 x1 x2 => ⟨mkE [(1, .v (.int .i64 p)), (2, .ref 0 0), (4, .ref 1 0), (5, .ref 2 0), (6, .ref 3 0), (8, .v (.int .i64 x3))] 118 0, [.cells 26 [.v (.int .i64 c.frames), .v (.int .i64 c.major), .v (.int .i64 c.kernel), .v (.int .i64 c.room), .sl (.sl .sWindow) c.cores, .sl .sPartition c.partitions, .sl .sChannel c.channels], .cells 93 [.v (.int .i64 0), .v (.int .i64 0), .v (.int .i64 0)], .cells 48 [.v (.string ((atPartition c.partitions p.toNat).name)), .v (.int .i64 ((atPartition c.partitions p.toNat).entry)), .v (.int .i64 ((atPartition c.partitions p.toNat).action)), .v (.int .i64 ((atPartition c.partitions p.toNat).restarts)), .v (.int .i64 ((atPartition c.partitions p.toNat).inputs)), .v (.int .i64 ((atPartition c.partitions p.toNat).outputs)), .sl .sRegion ((atPartition c.partitions p.toNat).regions), .sl .sPort ((atPartition c.partitions p.toNat).ports)], .cells 93 [.v (.int .i64 x0), .v (.int .i64 x1), .v (.int .i64 x2)]], GL, 0, [], nodp⟩
noncomputable def bod61 {R : Type} (ret : R61 → R) (c : Config) (p : Int) (j : L61 → Option R) : L61 → Option R
  | .l0 x3 x0 x1 x2 => cond (decide ((x3 : Int) < ((atPartition c.partitions p.toNat).regions).length))
    (cond (((x0 : Int) == fine.e) && ((((x1 : Int) == fine.where_.first) && (((x2 : Int) == fine.where_.second) && true)) && true))
      (cond (spc81 c p x3) (j (.l0 (IntKind.i64.wrap (x3 + 1)) ((sp81 c p x3).e) ((sp81 c p x3).where_.first) ((sp81 c p x3).where_.second))) none)
      (cond (!(((x0 : Int) == fine.e) && ((((x1 : Int) == fine.where_.first) && (((x2 : Int) == fine.where_.second) && true)) && true)))
        (some (ret (⟨x0, (⟨x1, x2⟩ : Where)⟩ : AdmitFound)))
        (cond (sp55 ((atPartition c.partitions p.toNat).entry) 0 4095)
          (cond (spc82 (atPartition c.partitions p.toNat)) (
            cond (spc78 [(sp54 (sp82 (atPartition c.partitions p.toNat)) 412 (sp80 p)), (sp54 (decide ((((atPartition c.partitions p.toNat).ports).length : Int) ≤ 8)) 413 (sp80 p))]) (
              j (.l4 0 ((sp78 [(sp54 (sp82 (atPartition c.partitions p.toNat)) 412 (sp80 p)), (sp54 (decide ((((atPartition c.partitions p.toNat).ports).length : Int) ≤ 8)) 413 (sp80 p))]).e) ((sp78 [(sp54 (sp82 (atPartition c.partitions p.toNat)) 412 (sp80 p)), (sp54 (decide ((((atPartition c.partitions p.toNat).ports).length : Int) ≤ 8)) 413 (sp80 p))]).where_.first) ((sp78 [(sp54 (sp82 (atPartition c.partitions p.toNat)) 412 (sp80 p)), (sp54 (decide ((((atPartition c.partitions p.toNat).ports).length : Int) ≤ 8)) 413 (sp80 p))]).where_.second))) none) none)
          (cond (spc78 [(sp54 false 412 (sp80 p)), (sp54 (decide ((((atPartition c.partitions p.toNat).ports).length : Int) ≤ 8)) 413 (sp80 p))]) (
            j (.l4 0 ((sp78 [(sp54 false 412 (sp80 p)), (sp54 (decide ((((atPartition c.partitions p.toNat).ports).length : Int) ≤ 8)) 413 (sp80 p))]).e) ((sp78 [(sp54 false 412 (sp80 p)), (sp54 (decide ((((atPartition c.partitions p.toNat).ports).length : Int) ≤ 8)) 413 (sp80 p))]).where_.first) ((sp78 [(sp54 false 412 (sp80 p)), (sp54 (decide ((((atPartition c.partitions p.toNat).ports).length : Int) ≤ 8)) 413 (sp80 p))]).where_.second))) none))))
    (cond (!(((x0 : Int) == fine.e) && ((((x1 : Int) == fine.where_.first) && (((x2 : Int) == fine.where_.second) && true)) && true)))
      (some (ret (⟨x0, (⟨x1, x2⟩ : Where)⟩ : AdmitFound)))
      (cond (sp55 ((atPartition c.partitions p.toNat).entry) 0 4095)
        (cond (spc82 (atPartition c.partitions p.toNat)) (
          cond (spc78 [(sp54 (sp82 (atPartition c.partitions p.toNat)) 412 (sp80 p)), (sp54 (decide ((((atPartition c.partitions p.toNat).ports).length : Int) ≤ 8)) 413 (sp80 p))]) (
            j (.l4 0 ((sp78 [(sp54 (sp82 (atPartition c.partitions p.toNat)) 412 (sp80 p)), (sp54 (decide ((((atPartition c.partitions p.toNat).ports).length : Int) ≤ 8)) 413 (sp80 p))]).e) ((sp78 [(sp54 (sp82 (atPartition c.partitions p.toNat)) 412 (sp80 p)), (sp54 (decide ((((atPartition c.partitions p.toNat).ports).length : Int) ≤ 8)) 413 (sp80 p))]).where_.first) ((sp78 [(sp54 (sp82 (atPartition c.partitions p.toNat)) 412 (sp80 p)), (sp54 (decide ((((atPartition c.partitions p.toNat).ports).length : Int) ≤ 8)) 413 (sp80 p))]).where_.second))) none) none)
        (cond (spc78 [(sp54 false 412 (sp80 p)), (sp54 (decide ((((atPartition c.partitions p.toNat).ports).length : Int) ≤ 8)) 413 (sp80 p))]) (
          j (.l4 0 ((sp78 [(sp54 false 412 (sp80 p)), (sp54 (decide ((((atPartition c.partitions p.toNat).ports).length : Int) ≤ 8)) 413 (sp80 p))]).e) ((sp78 [(sp54 false 412 (sp80 p)), (sp54 (decide ((((atPartition c.partitions p.toNat).ports).length : Int) ≤ 8)) 413 (sp80 p))]).where_.first) ((sp78 [(sp54 false 412 (sp80 p)), (sp54 (decide ((((atPartition c.partitions p.toNat).ports).length : Int) ≤ 8)) 413 (sp80 p))]).where_.second))) none)))
  | .l4 x3 x0 x1 x2 => cond (decide ((x3 : Int) < ((atPartition c.partitions p.toNat).ports).length))
    (cond (((x0 : Int) == fine.e) && ((((x1 : Int) == fine.where_.first) && (((x2 : Int) == fine.where_.second) && true)) && true))
      (cond (inR x3 ((atPartition c.partitions p.toNat).ports).length) (
        j (.l4 (IntKind.i64.wrap (x3 + 1)) ((sp54 (sp55 ((atPort ((atPartition c.partitions p.toNat).ports) x3.toNat).channel) 0 (IntKind.i64.wrap (c.channels.length - 1))) 414 (sp83 p x3)).e) ((sp54 (sp55 ((atPort ((atPartition c.partitions p.toNat).ports) x3.toNat).channel) 0 (IntKind.i64.wrap (c.channels.length - 1))) 414 (sp83 p x3)).where_.first) ((sp54 (sp55 ((atPort ((atPartition c.partitions p.toNat).ports) x3.toNat).channel) 0 (IntKind.i64.wrap (c.channels.length - 1))) 414 (sp83 p x3)).where_.second))) none)
      (some (ret (⟨x0, (⟨x1, x2⟩ : Where)⟩ : AdmitFound))))
    (some (ret (⟨x0, (⟨x1, x2⟩ : Where)⟩ : AdmitFound)))
noncomputable def ent61 {R : Type} (ret : R61 → R) (c : Config) (p : Int) (j : L61 → Option R) : Option R :=
    cond (inR p c.partitions.length) (
    cond (spc79 c p) (
      cond (sp55 ((atPartition c.partitions p.toNat).action) 0 2)
        (cond (sp55 ((atPartition c.partitions p.toNat).inputs) 0 16)
          (cond (spc78 [(sp54 (sp79 c p) 405 (sp80 p)), (sp54 (sp55 ((atPartition c.partitions p.toNat).restarts) 0 15) 406 (sp80 p)), (sp54 (sp55 ((atPartition c.partitions p.toNat).outputs) 0 16) 407 (sp80 p)), (sp54 (sp55 (((atPartition c.partitions p.toNat).regions).length) 1 8) 408 (sp80 p))]) (
            j (.l0 0 ((sp78 [(sp54 (sp79 c p) 405 (sp80 p)), (sp54 (sp55 ((atPartition c.partitions p.toNat).restarts) 0 15) 406 (sp80 p)), (sp54 (sp55 ((atPartition c.partitions p.toNat).outputs) 0 16) 407 (sp80 p)), (sp54 (sp55 (((atPartition c.partitions p.toNat).regions).length) 1 8) 408 (sp80 p))]).e) ((sp78 [(sp54 (sp79 c p) 405 (sp80 p)), (sp54 (sp55 ((atPartition c.partitions p.toNat).restarts) 0 15) 406 (sp80 p)), (sp54 (sp55 ((atPartition c.partitions p.toNat).outputs) 0 16) 407 (sp80 p)), (sp54 (sp55 (((atPartition c.partitions p.toNat).regions).length) 1 8) 408 (sp80 p))]).where_.first) ((sp78 [(sp54 (sp79 c p) 405 (sp80 p)), (sp54 (sp55 ((atPartition c.partitions p.toNat).restarts) 0 15) 406 (sp80 p)), (sp54 (sp55 ((atPartition c.partitions p.toNat).outputs) 0 16) 407 (sp80 p)), (sp54 (sp55 (((atPartition c.partitions p.toNat).regions).length) 1 8) 408 (sp80 p))]).where_.second))) none)
          (cond (spc78 [(sp54 (sp79 c p) 405 (sp80 p)), (sp54 (sp55 ((atPartition c.partitions p.toNat).restarts) 0 15) 406 (sp80 p)), (sp54 false 407 (sp80 p)), (sp54 (sp55 (((atPartition c.partitions p.toNat).regions).length) 1 8) 408 (sp80 p))]) (
            j (.l0 0 ((sp78 [(sp54 (sp79 c p) 405 (sp80 p)), (sp54 (sp55 ((atPartition c.partitions p.toNat).restarts) 0 15) 406 (sp80 p)), (sp54 false 407 (sp80 p)), (sp54 (sp55 (((atPartition c.partitions p.toNat).regions).length) 1 8) 408 (sp80 p))]).e) ((sp78 [(sp54 (sp79 c p) 405 (sp80 p)), (sp54 (sp55 ((atPartition c.partitions p.toNat).restarts) 0 15) 406 (sp80 p)), (sp54 false 407 (sp80 p)), (sp54 (sp55 (((atPartition c.partitions p.toNat).regions).length) 1 8) 408 (sp80 p))]).where_.first) ((sp78 [(sp54 (sp79 c p) 405 (sp80 p)), (sp54 (sp55 ((atPartition c.partitions p.toNat).restarts) 0 15) 406 (sp80 p)), (sp54 false 407 (sp80 p)), (sp54 (sp55 (((atPartition c.partitions p.toNat).regions).length) 1 8) 408 (sp80 p))]).where_.second))) none))
        (cond (sp55 ((atPartition c.partitions p.toNat).inputs) 0 16)
          (cond (spc78 [(sp54 (sp79 c p) 405 (sp80 p)), (sp54 false 406 (sp80 p)), (sp54 (sp55 ((atPartition c.partitions p.toNat).outputs) 0 16) 407 (sp80 p)), (sp54 (sp55 (((atPartition c.partitions p.toNat).regions).length) 1 8) 408 (sp80 p))]) (
            j (.l0 0 ((sp78 [(sp54 (sp79 c p) 405 (sp80 p)), (sp54 false 406 (sp80 p)), (sp54 (sp55 ((atPartition c.partitions p.toNat).outputs) 0 16) 407 (sp80 p)), (sp54 (sp55 (((atPartition c.partitions p.toNat).regions).length) 1 8) 408 (sp80 p))]).e) ((sp78 [(sp54 (sp79 c p) 405 (sp80 p)), (sp54 false 406 (sp80 p)), (sp54 (sp55 ((atPartition c.partitions p.toNat).outputs) 0 16) 407 (sp80 p)), (sp54 (sp55 (((atPartition c.partitions p.toNat).regions).length) 1 8) 408 (sp80 p))]).where_.first) ((sp78 [(sp54 (sp79 c p) 405 (sp80 p)), (sp54 false 406 (sp80 p)), (sp54 (sp55 ((atPartition c.partitions p.toNat).outputs) 0 16) 407 (sp80 p)), (sp54 (sp55 (((atPartition c.partitions p.toNat).regions).length) 1 8) 408 (sp80 p))]).where_.second))) none)
          (cond (spc78 [(sp54 (sp79 c p) 405 (sp80 p)), (sp54 false 406 (sp80 p)), (sp54 false 407 (sp80 p)), (sp54 (sp55 (((atPartition c.partitions p.toNat).regions).length) 1 8) 408 (sp80 p))]) (
            j (.l0 0 ((sp78 [(sp54 (sp79 c p) 405 (sp80 p)), (sp54 false 406 (sp80 p)), (sp54 false 407 (sp80 p)), (sp54 (sp55 (((atPartition c.partitions p.toNat).regions).length) 1 8) 408 (sp80 p))]).e) ((sp78 [(sp54 (sp79 c p) 405 (sp80 p)), (sp54 false 406 (sp80 p)), (sp54 false 407 (sp80 p)), (sp54 (sp55 (((atPartition c.partitions p.toNat).regions).length) 1 8) 408 (sp80 p))]).where_.first) ((sp78 [(sp54 (sp79 c p) 405 (sp80 p)), (sp54 false 406 (sp80 p)), (sp54 false 407 (sp80 p)), (sp54 (sp55 (((atPartition c.partitions p.toNat).regions).length) 1 8) 408 (sp80 p))]).where_.second))) none))) none) none
theorem head61_0 (J : Jmp) (c : Config) (p : Int) (x3 : Int) (x0 : Int) (x1 : Int) (x2 : Int) : stepAt Pr GC H61 J 0 0 (bodyOf Tryd.f61) (fin Pr H61 Tryd.f61) (st61 c p (.l0 x3 x0 x1 x2)) = bod61 to61 c p (fun l => J (num61 l) (st61 c p l)) (.l0 x3 x0 x1 x2) := by kernel_rfl
theorem head61_4 (J : Jmp) (c : Config) (p : Int) (x3 : Int) (x0 : Int) (x1 : Int) (x2 : Int) : stepAt Pr GC H61 J 4 0 (bodyOf Tryd.f61) (fin Pr H61 Tryd.f61) (st61 c p (.l4 x3 x0 x1 x2)) = bod61 to61 c p (fun l => J (num61 l) (st61 c p l)) (.l4 x3 x0 x1 x2) := by kernel_rfl
theorem run61 (J : Jmp) (c : Config) (p : Int) : runF Pr GC H61 J GL Tryd.f61 [.agg [.v (.int .i64 c.frames), .v (.int .i64 c.major), .v (.int .i64 c.kernel), .v (.int .i64 c.room), .sl (.sl .sWindow) c.cores, .sl .sPartition c.partitions, .sl .sChannel c.channels], .v (.int .i64 p)] [] = ent61 to61 c p (fun l => J (num61 l) (st61 c p l)) := by kernel_rfl
theorem shad61 (c : Config) (p : Int) : ∀ (n : Nat) (l : L61), runL Pr GC H61 Tryd.f61 n (num61 l) (st61 c p l) = shad (bod61 to61 c p) n l
  | 0, l => by cases l <;> rfl
  | n + 1, l => by
    have ih : (fun l => runL Pr GC H61 Tryd.f61 n (num61 l) (st61 c p l)) = shad (bod61 to61 c p) n := funext (shad61 c p n)
    cases l with
    | l0 x3 x0 x1 x2 => exact (step_eq ..).trans ((head61_0 ..).trans (by rw [ih]; rfl))
    | l4 x3 x0 x1 x2 => exact (step_eq ..).trans ((head61_4 ..).trans (by rw [ih]; rfl))
theorem nat61 (c : Config) (p : Int) (s : L61 → Option R61) (l : L61) : bod61 to61 c p (fun l => (s l).map to61) l = (bod61 id c p s l).map to61 := by
  cases l <;> simp only [bod61, map_cond, Option.map_some, Option.map_none, id]
theorem ct61 (c : Config) (p : Int) (l : L61) : CT fun j => bod61 id c p j l := by
  cases l <;> (dsimp only [bod61]; repeat (first | exact CT.jump _ | exact CT.const _ | apply CT.cond))
/-- admit.partition, from a head on. -/
noncomputable def spL61 (c : Config) (p : Int) : L61 → Option R61 := lfp (bod61 id c p)
theorem spL61_eq (c : Config) (p : Int) (l : L61) : spL61 c p l = bod61 id c p (spL61 c p) l := lfp_eq (ct61 c p) l
/-- admit.partition -/
noncomputable def spO61 (c : Config) (p : Int) : Option R61 := ent61 id c p (spL61 c p)
noncomputable def sp61 (c : Config) (p : Int) : R61 := (spO61 c p).getD default
noncomputable def spc61 (c : Config) (p : Int) : Bool := (spO61 c p).isSome
theorem oks61 (c : Config) (p : Int) (hc : spc61 c p = true) : Okay Pr GL 61 [.agg [.v (.int .i64 c.frames), .v (.int .i64 c.major), .v (.int .i64 c.kernel), .v (.int .i64 c.room), .sl (.sl .sWindow) c.cores, .sl .sPartition c.partitions, .sl .sChannel c.channels], .v (.int .i64 p)] [] (to61 (sp61 c p)) := by
  obtain ⟨n, h⟩ := auto_ok (nat61 c p) (fun s => show ent61 to61 c p (fun l => (s l).map to61) = (ent61 id c p s).map to61 by simp only [ent61, map_cond, Option.map_some, Option.map_none, id]) (ct61 c p) (show CT fun j => ent61 id c p j by dsimp only [ent61]; repeat (first | exact CT.jump _ | exact CT.const _ | apply CT.cond)) (isSome_getD hc)
  exact okay_of_run (H := H61) GCok G0ok Tryd.func61 rfl (by kernel_rfl) n (by
    rw [run61]
    rw [show (fun l => runL Pr GC H61 Tryd.f61 n (num61 l) (st61 c p l)) = shad (bod61 to61 c p) n from funext (shad61 c p n)]
    exact h)

/-! ### admit.questions$7 -/
abbrev R62 := AdmitFound
def to62 (r : R62) : Ans := ⟨.agg [.v (.int .i64 r.e), .v (.int .i64 r.where_.first), .v (.int .i64 r.where_.second)], []⟩
def H62 : Hint := ⟨fun _ => false, fun _ => ⟨[], []⟩, [], G0, nodp⟩
noncomputable def ent62 {R : Type} (ret : R62 → R) (a : Config) (a_1 : Int) : Option R :=
    cond (spc63 a a_1) (some (ret (sp63 a a_1))) none
theorem run62 (J : Jmp) (a : Config) (a_1 : Int) : runF Pr GC H62 J GL Tryd.f62 [.op .sConfig (some a), .op (.i .i64) (some a_1)] [] = ent62 to62 a a_1 := by kernel_rfl
/-- admit.questions$7 -/
noncomputable def spO62 (a : Config) (a_1 : Int) : Option R62 := ent62 id a a_1
noncomputable def sp62 (a : Config) (a_1 : Int) : R62 := (spO62 a a_1).getD default
noncomputable def spc62 (a : Config) (a_1 : Int) : Bool := (spO62 a a_1).isSome
theorem oks62 (a : Config) (a_1 : Int) (hc : spc62 a a_1 = true) : Okay Pr GL 62 [.op .sConfig (some a), .op (.i .i64) (some a_1)] [] (to62 (sp62 a a_1)) :=
  okay_of_run (H := H62) GCok G0ok Tryd.func62 rfl (by kernel_rfl) 0 ((run62 (runL Pr GC H62 Tryd.f62 0) a a_1).trans (auto_ok0 (show ent62 to62 a a_1 = (ent62 id a a_1).map to62 by simp only [ent62, map_cond, Option.map_some, Option.map_none, id]) (isSome_getD hc)))

/-! ### admit.questions$8 -/
abbrev R64 := AdmitFound
def to64 (r : R64) : Ans := ⟨.agg [.v (.int .i64 r.e), .v (.int .i64 r.where_.first), .v (.int .i64 r.where_.second)], []⟩
def H64 : Hint := ⟨fun _ => false, fun _ => ⟨[], []⟩, [], G0, nodp⟩
noncomputable def ent64 {R : Type} (ret : R64 → R) (a : Config) (a_1 : Int) : Option R :=
    cond (spc65 a a_1) (some (ret (sp65 a a_1))) none
theorem run64 (J : Jmp) (a : Config) (a_1 : Int) : runF Pr GC H64 J GL Tryd.f64 [.op .sConfig (some a), .op (.i .i64) (some a_1)] [] = ent64 to64 a a_1 := by kernel_rfl
/-- admit.questions$8 -/
noncomputable def spO64 (a : Config) (a_1 : Int) : Option R64 := ent64 id a a_1
noncomputable def sp64 (a : Config) (a_1 : Int) : R64 := (spO64 a a_1).getD default
noncomputable def spc64 (a : Config) (a_1 : Int) : Bool := (spO64 a a_1).isSome
theorem oks64 (a : Config) (a_1 : Int) (hc : spc64 a a_1 = true) : Okay Pr GL 64 [.op .sConfig (some a), .op (.i .i64) (some a_1)] [] (to64 (sp64 a a_1)) :=
  okay_of_run (H := H64) GCok G0ok Tryd.func64 rfl (by kernel_rfl) 0 ((run64 (runL Pr GC H64 Tryd.f64 0) a a_1).trans (auto_ok0 (show ent64 to64 a a_1 = (ent64 id a a_1).map to64 by simp only [ent64, map_cond, Option.map_some, Option.map_none, id]) (isSome_getD hc)))

/-! ### (layout.size).ofPort -/
abbrev R91 := Int
def to91 (r : R91) : Ans := ⟨.v (.int .i64 r), []⟩
def H91 : Hint := ⟨fun _ => false, fun _ => ⟨[], []⟩, [], G0, nodp⟩
noncomputable def ent91 {R : Type} (ret : R91 → R) (s_0 : LayoutSize) : Option R :=
    some (ret (sp72 s_0.channel))
theorem run91 (J : Jmp) (s_0 : LayoutSize) : runF Pr GC H91 J GL Tryd.f91 [.agg [.v (.int .i64 s_0.channel.kind), .v (.int .i64 s_0.channel.words), .v (.int .i64 s_0.channel.depth)]] [] = ent91 to91 s_0 := by kernel_rfl
/-- (layout.size).ofPort -/
noncomputable def spO91 (s_0 : LayoutSize) : Option R91 := ent91 id s_0
noncomputable def sp91 (s_0 : LayoutSize) : R91 := (spO91 s_0).getD default
theorem some91 (s_0 : LayoutSize) : spO91 s_0 = some (sp91 s_0) := isSome_getD (show (spO91 s_0).isSome = true by simp only [spO91, ent91, isSome_cond, Option.isSome_some, cond_self])
theorem oks91 (s_0 : LayoutSize) : Okay Pr GL 91 [.agg [.v (.int .i64 s_0.channel.kind), .v (.int .i64 s_0.channel.words), .v (.int .i64 s_0.channel.depth)]] [] (to91 (sp91 s_0)) :=
  okay_of_run (H := H91) GCok G0ok Tryd.func91 rfl (by kernel_rfl) 0 ((run91 (runL Pr GC H91 Tryd.f91 0) s_0).trans (auto_ok0 (show ent91 to91 s_0 = (ent91 id s_0).map to91 by simp only [ent91, map_cond, Option.map_some, Option.map_none, id]) (some91 s_0)))

noncomputable def g14 (args : List AV) (hp : List Blk) : Option (Bool × AV × List Blk) :=
  match hp, args with
  | [], [x0, x1, x2, x3] => (rdS .sConfig x0).bind fun a0 => (rdL (.i .i64) x1).bind fun a1 => (rdL (.i .i64) x2).bind fun a2 => (rdL .b x3).bind fun a3 => some ((spc14 a0 a1 a2 a3), .v (.bool (sp14 a0 a1 a2 a3)), [])
  | _, _ => none
theorem g14_ok {args : List AV} {hp : List Blk} {b : Bool} {r : AV} {hp' : List Blk} (h : g14 args hp = some (b, r, hp')) (hb : b = true) : FnOk Pr 14 ∧ Okay Pr GL 14 args hp ⟨r, hp'⟩ := by
  unfold g14 at h
  split at h
  · simp only [Option.bind_eq_some_iff] at h
    obtain ⟨a0, h0, a1, h1, a2, h2, a3, h3, h⟩ := h
    cases h; exact ⟨fnok Tryd.func14 (by kernel_rfl) rfl, (oks14 a0 a1 a2 a3 hb).ats (.cons (rdS_V h0) (.cons (rdL_V h1) (.cons (rdL_V h2) (.cons (rdL_V h3) .nil))))⟩
  · cases h
noncomputable def g31 (args : List AV) (hp : List Blk) : Option (Bool × AV × List Blk) :=
  match hp, args with
  | [], [x0, x1, x2] => (rdS .sConfig x0).bind fun a0 => (rdL (.i .i64) x1).bind fun a1 => (rdL (.i .i64) x2).bind fun a2 => some ((spc31 a0 a1 a2), .v (.int .i64 (sp31 a0 a1 a2)), [])
  | _, _ => none
theorem g31_ok {args : List AV} {hp : List Blk} {b : Bool} {r : AV} {hp' : List Blk} (h : g31 args hp = some (b, r, hp')) (hb : b = true) : FnOk Pr 31 ∧ Okay Pr GL 31 args hp ⟨r, hp'⟩ := by
  unfold g31 at h
  split at h
  · simp only [Option.bind_eq_some_iff] at h
    obtain ⟨a0, h0, a1, h1, a2, h2, h⟩ := h
    cases h; exact ⟨fnok Tryd.func31 (by kernel_rfl) rfl, (oks31 a0 a1 a2 hb).ats (.cons (rdS_V h0) (.cons (rdL_V h1) (.cons (rdL_V h2) .nil)))⟩
  · cases h
noncomputable def g37 (args : List AV) (hp : List Blk) : Option (Bool × AV × List Blk) :=
  match hp, args with
  | [], [x0] => (rdS .sConfig x0).bind fun a0 => some ((spc37 a0), .v (.bool (sp37 a0)), [])
  | _, _ => none
theorem g37_ok {args : List AV} {hp : List Blk} {b : Bool} {r : AV} {hp' : List Blk} (h : g37 args hp = some (b, r, hp')) (hb : b = true) : FnOk Pr 37 ∧ Okay Pr GL 37 args hp ⟨r, hp'⟩ := by
  unfold g37 at h
  split at h
  · simp only [Option.bind_eq_some_iff] at h
    obtain ⟨a0, h0, h⟩ := h
    cases h; exact ⟨fnok Tryd.func37 (by kernel_rfl) rfl, (oks37 a0 hb).ats (.cons (rdS_V h0) .nil)⟩
  · cases h
noncomputable def g38 (args : List AV) (hp : List Blk) : Option (Bool × AV × List Blk) :=
  match hp, args with
  | [], [x0] => (rdS .sConfig x0).bind fun a0 => some ((spc38 a0), .own 0, [.arr 87 .sBulkheadref15Piece (sp38 a0)])
  | _, _ => none
theorem g38_ok {args : List AV} {hp : List Blk} {b : Bool} {r : AV} {hp' : List Blk} (h : g38 args hp = some (b, r, hp')) (hb : b = true) : FnOk Pr 38 ∧ Okay Pr GL 38 args hp ⟨r, hp'⟩ := by
  unfold g38 at h
  split at h
  · simp only [Option.bind_eq_some_iff] at h
    obtain ⟨a0, h0, h⟩ := h
    cases h; exact ⟨fnok Tryd.func38 (by kernel_rfl) rfl, (oks38 a0 hb).ats (.cons (rdS_V h0) .nil)⟩
  · cases h
noncomputable def g61 (args : List AV) (hp : List Blk) : Option (Bool × AV × List Blk) :=
  match hp, args with
  | [], [x0, x1] => (rdS .sConfig x0).bind fun a0 => (rdL (.i .i64) x1).bind fun a1 => some ((spc61 a0 a1), .agg [.v (.int .i64 ((sp61 a0 a1).e)), .v (.int .i64 ((sp61 a0 a1).where_.first)), .v (.int .i64 ((sp61 a0 a1).where_.second))], [])
  | _, _ => none
theorem g61_ok {args : List AV} {hp : List Blk} {b : Bool} {r : AV} {hp' : List Blk} (h : g61 args hp = some (b, r, hp')) (hb : b = true) : FnOk Pr 61 ∧ Okay Pr GL 61 args hp ⟨r, hp'⟩ := by
  unfold g61 at h
  split at h
  · simp only [Option.bind_eq_some_iff] at h
    obtain ⟨a0, h0, a1, h1, h⟩ := h
    cases h; exact ⟨fnok Tryd.func61 (by kernel_rfl) rfl, (oks61 a0 a1 hb).ats (.cons (rdS_V h0) (.cons (rdL_V h1) .nil))⟩
  · cases h
noncomputable def g62 (args : List AV) (hp : List Blk) : Option (Bool × AV × List Blk) :=
  match hp, args with
  | [], [x0, x1] => (rdP .sConfig x0).bind fun a0 => (rdP (.i .i64) x1).bind fun a1 => some ((spc62 a0 a1), .agg [.v (.int .i64 ((sp62 a0 a1).e)), .v (.int .i64 ((sp62 a0 a1).where_.first)), .v (.int .i64 ((sp62 a0 a1).where_.second))], [])
  | _, _ => none
theorem g62_ok {args : List AV} {hp : List Blk} {b : Bool} {r : AV} {hp' : List Blk} (h : g62 args hp = some (b, r, hp')) (hb : b = true) : FnOk Pr 62 ∧ Okay Pr GL 62 args hp ⟨r, hp'⟩ := by
  unfold g62 at h
  split at h
  · simp only [Option.bind_eq_some_iff] at h
    obtain ⟨a0, h0, a1, h1, h⟩ := h
    cases h; exact ⟨fnok Tryd.func62 (by kernel_rfl) rfl, (oks62 a0 a1 hb).ats (.cons (rdP_V h0) (.cons (rdP_V h1) .nil))⟩
  · cases h
noncomputable def g64 (args : List AV) (hp : List Blk) : Option (Bool × AV × List Blk) :=
  match hp, args with
  | [], [x0, x1] => (rdP .sConfig x0).bind fun a0 => (rdP (.i .i64) x1).bind fun a1 => some ((spc64 a0 a1), .agg [.v (.int .i64 ((sp64 a0 a1).e)), .v (.int .i64 ((sp64 a0 a1).where_.first)), .v (.int .i64 ((sp64 a0 a1).where_.second))], [])
  | _, _ => none
theorem g64_ok {args : List AV} {hp : List Blk} {b : Bool} {r : AV} {hp' : List Blk} (h : g64 args hp = some (b, r, hp')) (hb : b = true) : FnOk Pr 64 ∧ Okay Pr GL 64 args hp ⟨r, hp'⟩ := by
  unfold g64 at h
  split at h
  · simp only [Option.bind_eq_some_iff] at h
    obtain ⟨a0, h0, a1, h1, h⟩ := h
    cases h; exact ⟨fnok Tryd.func64 (by kernel_rfl) rfl, (oks64 a0 a1 hb).ats (.cons (rdP_V h0) (.cons (rdP_V h1) .nil))⟩
  · cases h
noncomputable def g91 (args : List AV) (hp : List Blk) : Option (Bool × AV × List Blk) :=
  match hp, args with
  | [], [x0] => (rdS .sLayoutSize x0).bind fun a0 => some (true, .v (.int .i64 (sp91 a0)), [])
  | _, _ => none
theorem g91_ok {args : List AV} {hp : List Blk} {b : Bool} {r : AV} {hp' : List Blk} (h : g91 args hp = some (b, r, hp')) (hb : b = true) : FnOk Pr 91 ∧ Okay Pr GL 91 args hp ⟨r, hp'⟩ := by
  unfold g91 at h
  split at h
  · simp only [Option.bind_eq_some_iff] at h
    obtain ⟨a0, h0, h⟩ := h
    cases h; exact ⟨fnok Tryd.func91 (by kernel_rfl) rfl, (oks91 a0).ats (.cons (rdS_V h0) .nil)⟩
  · cases h
noncomputable def GD : Gam := fun c args hp => match c with
  | .f f => pick1 14 f (g14 args hp) (pick1 31 f (g31 args hp) (pick1 37 f (g37 args hp) (pick1 38 f (g38 args hp) (pick1 61 f (g61 args hp) (pick1 62 f (g62 args hp) (pick1 64 f (g64 args hp) (pick1 91 f (g91 args hp) (GC (.f f) args hp))))))))
  | .c x => GC (.c x) args hp
theorem GDok : GOk Pr GL GD := by
  intro c args hp b r hp' h hb
  cases c with
  | f f =>
    simp only [GD] at h
    rcases pick1_ok h with ⟨rfl, h⟩ | h
    · exact g14_ok h hb
    rcases pick1_ok h with ⟨rfl, h⟩ | h
    · exact g31_ok h hb
    rcases pick1_ok h with ⟨rfl, h⟩ | h
    · exact g37_ok h hb
    rcases pick1_ok h with ⟨rfl, h⟩ | h
    · exact g38_ok h hb
    rcases pick1_ok h with ⟨rfl, h⟩ | h
    · exact g61_ok h hb
    rcases pick1_ok h with ⟨rfl, h⟩ | h
    · exact g62_ok h hb
    rcases pick1_ok h with ⟨rfl, h⟩ | h
    · exact g64_ok h hb
    rcases pick1_ok h with ⟨rfl, h⟩ | h
    · exact g91_ok h hb
    exact GCok (.f f) args hp b r hp' h hb
  | c x => exact GCok (.c x) args hp b r hp' h hb
end Go.Proofs.YthnkmndjhedgdaaDoor
