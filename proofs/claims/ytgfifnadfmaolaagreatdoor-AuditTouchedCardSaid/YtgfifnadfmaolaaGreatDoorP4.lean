/- Shadows of functions (printed by pr2.py off the model's code; the kernel holds each equation to it), and what they answer. -/
import Derived.Test.YtgfifnadfmaolaaGreatDoorP3
namespace Go.Proofs.YtgfifnadfmaolaaGreatDoor
open Go.RowKit
set_option linter.unusedVariables false
set_option linter.unusedSimpArgs false
/-! ### ref16.partition -/
abbrev R58 := Int × Where
def to58 (r : R58) : Ans := ⟨.tup [.v (.int .i64 r.1), .agg [.v (.int .i64 r.2.first), .v (.int .i64 r.2.second)]], []⟩
inductive L58 where
  | l2 (x0 : Int)
  | l6 (x0 : Int)
def num58 : L58 → Nat
  | .l2 _ => 2
  | .l6 _ => 6
def H58 : Hint := ⟨fun n => [].any (Nat.beq n), hdAt [(2, ⟨fgt [1, 2, 5, 6, 7] 107 0, []⟩), (6, ⟨fgt [1, 2, 5, 6, 9] 107 0, []⟩)], [], G0, nodp⟩
noncomputable def st58 (c : Config) (p : Int) : L58 → St
  | .l2 x0 => ⟨mkE [(1, .v (.int .i64 p)), (2, .ref 0 0), (5, .ref 1 0), (6, .ref 2 0), (7, .v (.int .i64 x0))] 107 0, [.cells 26 [.v (.int .i64 c.frames), .v (.int .i64 c.major), .v (.int .i64 c.kernel), .v (.int .i64 c.room), .sl (.sl .sWindow) c.cores, .sl .sPartition c.partitions, .sl .sChannel c.channels], .cells 76 [.v (.int .i64 0), .v (.int .i64 0)], .cells 70 [.v (.string ((atPartition c.partitions p.toNat).name)), .v (.int .i64 ((atPartition c.partitions p.toNat).entry)), .v (.int .i64 ((atPartition c.partitions p.toNat).action)), .v (.int .i64 ((atPartition c.partitions p.toNat).restarts)), .v (.int .i64 ((atPartition c.partitions p.toNat).inputs)), .v (.int .i64 ((atPartition c.partitions p.toNat).outputs)), .sl .sRegion ((atPartition c.partitions p.toNat).regions), .sl .sPort ((atPartition c.partitions p.toNat).ports)]], GL, 0, [], nodp⟩
  | .l6 x0 => ⟨mkE [(1, .v (.int .i64 p)), (2, .ref 0 0), (5, .ref 1 0), (6, .ref 2 0), (9, .v (.int .i64 x0))] 107 0, [.cells 26 [.v (.int .i64 c.frames), .v (.int .i64 c.major), .v (.int .i64 c.kernel), .v (.int .i64 c.room), .sl (.sl .sWindow) c.cores, .sl .sPartition c.partitions, .sl .sChannel c.channels], .cells 76 [.v (.int .i64 0), .v (.int .i64 0)], .cells 70 [.v (.string ((atPartition c.partitions p.toNat).name)), .v (.int .i64 ((atPartition c.partitions p.toNat).entry)), .v (.int .i64 ((atPartition c.partitions p.toNat).action)), .v (.int .i64 ((atPartition c.partitions p.toNat).restarts)), .v (.int .i64 ((atPartition c.partitions p.toNat).inputs)), .v (.int .i64 ((atPartition c.partitions p.toNat).outputs)), .sl .sRegion ((atPartition c.partitions p.toNat).regions), .sl .sPort ((atPartition c.partitions p.toNat).ports)]], GL, 0, [], nodp⟩
noncomputable def bod58 {R : Type} (ret : R58 → R) (c : Config) (p : Int) (j : L58 → Option R) : L58 → Option R
  | .l2 x0 => cond (decide ((x0 : Int) < ((atPartition c.partitions p.toNat).regions).length))
    (cond (spc101 c p x0) (
      cond (!(((sp101 c p x0) : Int) == 0))
        (some (ret ((sp101 c p x0), (⟨p, x0⟩ : Where))))
        (j (.l2 (IntKind.i64.wrap (x0 + 1))))) none)
    (cond (spc102 (atPartition c.partitions p.toNat)) (
      cond (!(sp102 (atPartition c.partitions p.toNat)))
        (some (ret (412, (sp60 p))))
        (cond (decide ((((atPartition c.partitions p.toNat).ports).length : Int) > 8))
          (some (ret (413, (sp60 p))))
          (j (.l6 0)))) none)
  | .l6 x0 => cond (decide ((x0 : Int) < ((atPartition c.partitions p.toNat).ports).length))
    (cond (inR x0 ((atPartition c.partitions p.toNat).ports).length) (
      cond (!(sp99 ((atPort ((atPartition c.partitions p.toNat).ports) x0.toNat).channel) 0 (IntKind.i64.wrap (c.channels.length - 1))))
        (some (ret (414, (⟨p, x0⟩ : Where))))
        (j (.l6 (IntKind.i64.wrap (x0 + 1))))) none)
    (some (ret (0, (⟨0, 0⟩ : Where))))
noncomputable def ent58 {R : Type} (ret : R58 → R) (c : Config) (p : Int) (j : L58 → Option R) : Option R :=
    cond (inR p c.partitions.length) (
    cond (spc100 c p) (
      cond (!(sp100 c p))
        (some (ret (405, (sp60 p))))
        (cond (!(sp99 ((atPartition c.partitions p.toNat).action) 0 2))
          (some (ret (406, (sp60 p))))
          (cond (!(sp99 ((atPartition c.partitions p.toNat).restarts) 0 15))
            (some (ret (406, (sp60 p))))
            (cond (!(sp99 ((atPartition c.partitions p.toNat).inputs) 0 16))
              (some (ret (407, (sp60 p))))
              (cond (!(sp99 ((atPartition c.partitions p.toNat).outputs) 0 16))
                (some (ret (407, (sp60 p))))
                (cond (!(sp99 (((atPartition c.partitions p.toNat).regions).length) 1 8))
                  (some (ret (408, (sp60 p))))
                  (j (.l2 0)))))))) none) none
theorem head58_2 (J : Jmp) (c : Config) (p : Int) (x0 : Int) : stepAt Pr GD H58 J 2 0 (bodyOf Tryz.f58) (fin Pr H58 Tryz.f58) (st58 c p (.l2 x0)) = bod58 to58 c p (fun l => J (num58 l) (st58 c p l)) (.l2 x0) := by kernel_rfl
theorem head58_6 (J : Jmp) (c : Config) (p : Int) (x0 : Int) : stepAt Pr GD H58 J 6 0 (bodyOf Tryz.f58) (fin Pr H58 Tryz.f58) (st58 c p (.l6 x0)) = bod58 to58 c p (fun l => J (num58 l) (st58 c p l)) (.l6 x0) := by kernel_rfl
theorem run58 (J : Jmp) (c : Config) (p : Int) : runF Pr GD H58 J GL Tryz.f58 [(aCfg c), .v (.int .i64 p)] [] = ent58 to58 c p (fun l => J (num58 l) (st58 c p l)) := by kernel_rfl
theorem shad58 (c : Config) (p : Int) : ∀ (n : Nat) (l : L58), runL Pr GD H58 Tryz.f58 n (num58 l) (st58 c p l) = shad (bod58 to58 c p) n l
  | 0, l => by cases l <;> rfl
  | n + 1, l => by
    have ih : (fun l => runL Pr GD H58 Tryz.f58 n (num58 l) (st58 c p l)) = shad (bod58 to58 c p) n := funext (shad58 c p n)
    cases l with
    | l2 x0 => exact (step_eq ..).trans ((head58_2 ..).trans (by rw [ih]; rfl))
    | l6 x0 => exact (step_eq ..).trans ((head58_6 ..).trans (by rw [ih]; rfl))
theorem nat58 (c : Config) (p : Int) (s : L58 → Option R58) (l : L58) : bod58 to58 c p (fun l => (s l).map to58) l = (bod58 id c p s l).map to58 := by
  cases l <;> simp only [bod58, map_cond, Option.map_some, Option.map_none, id]
theorem ct58 (c : Config) (p : Int) (l : L58) : CT fun j => bod58 id c p j l := by
  cases l <;> (dsimp only [bod58]; repeat (first | exact CT.jump _ | exact CT.const _ | apply CT.cond))
noncomputable def spL58 (c : Config) (p : Int) : L58 → Option R58 := lfp (bod58 id c p)
theorem spL58_eq (c : Config) (p : Int) (l : L58) : spL58 c p l = bod58 id c p (spL58 c p) l := lfp_eq (ct58 c p) l
noncomputable def spO58 (c : Config) (p : Int) : Option R58 := ent58 id c p (spL58 c p)
noncomputable def sp58 (c : Config) (p : Int) : R58 := (spO58 c p).getD default
noncomputable def spc58 (c : Config) (p : Int) : Bool := (spO58 c p).isSome
theorem oks58 (c : Config) (p : Int) (hc : spc58 c p = true) : Okay Pr GL 58 [(aCfg c), .v (.int .i64 p)] [] (to58 (sp58 c p)) := by
  obtain ⟨n, h⟩ := auto_ok (nat58 c p) (fun s => show ent58 to58 c p (fun l => (s l).map to58) = (ent58 id c p s).map to58 by simp only [ent58, map_cond, Option.map_some, Option.map_none, id]) (ct58 c p) (show CT fun j => ent58 id c p j by dsimp only [ent58]; repeat (first | exact CT.jump _ | exact CT.const _ | apply CT.cond)) (isSome_getD hc)
  exact okay_of_run (H := H58) GDok G0ok Tryz.func58 rfl (by kernel_rfl) n (by
    rw [run58]
    rw [show (fun l => runL Pr GD H58 Tryz.f58 n (num58 l) (st58 c p l)) = shad (bod58 to58 c p) n from funext (shad58 c p n)]
    exact h)

/-! ### ref15.Owner -/
abbrev R22 := Owner × Int
def to22 (r : R22) : Ans := ⟨.tup [.agg [.v (.int .i64 r.1.kind), .v (.int .i64 r.1.index), .v (.int .i64 r.1.port)], .v (.int .i64 r.2)], []⟩
inductive L22 where
  | l0 (x0 : Int)
  | l4 (x0 : Int)
  | l8 (x1 : Int) (x2 : Int) (x3 : Int) (x0 : Int)
def num22 : L22 → Nat
  | .l0 _ => 0
  | .l4 _ => 4
  | .l8 _ _ _ _ => 8
def H22 : Hint := ⟨fun n => [].any (Nat.beq n), hdAt [(0, ⟨fgt [1, 2, 4, 6, 33, 34, 94, 95, 96, 99, 100, 101, 102, 103, 106, 107, 108, 109, 110, 111, 112, 113] 120 0, []⟩), (4, ⟨fgt [1, 2, 4, 67, 68, 94, 95, 96, 99, 100, 101, 102, 103, 106, 107, 108, 109, 110, 111, 112, 113] 120 0, []⟩), (8, ⟨fgt [1, 2, 4, 8, 67, 68, 77, 78] 120 0, []⟩)], [], G0, nodp⟩
noncomputable def st22 (c : Config) (at_1 : Int) : L22 → St
  | .l0 x0 => ⟨mkE [(1, .v (.int .i64 at_1)), (2, .ref 0 0), (4, .ref 1 0), (6, .own 2), (33, .v (.int .i64 ((sp47 c).length))), (34, .v (.int .i64 x0))] 120 0, [.cells 26 [.v (.int .i64 c.frames), .v (.int .i64 c.major), .v (.int .i64 c.kernel), .v (.int .i64 c.room), .sl (.sl .sWindow) c.cores, .sl .sPartition c.partitions, .sl .sChannel c.channels], .cells 42 [.v (.int .i64 0), .v (.int .i64 0), .v (.int .i64 0)], .arr 116 .sBulkheadref15Piece (sp47 c)], GL, 0, [], nodp⟩
  | .l4 x0 => ⟨mkE [(1, .v (.int .i64 at_1)), (2, .ref 0 0), (4, .ref 1 0), (67, .v (.int .i64 c.partitions.length)), (68, .v (.int .i64 x0))] 120 0, [.cells 26 [.v (.int .i64 c.frames), .v (.int .i64 c.major), .v (.int .i64 c.kernel), .v (.int .i64 c.room), .sl (.sl .sWindow) c.cores, .sl .sPartition c.partitions, .sl .sChannel c.channels], .cells 42 [.v (.int .i64 0), .v (.int .i64 0), .v (.int .i64 0)]], GL, 0, [], nodp⟩
  | .l8 x1 x2 x3 x0 => ⟨mkE [(1, .v (.int .i64 at_1)), (2, .ref 0 0), (4, .ref 1 0), (8, .v (.int .i64 x1)), (67, .v (.int .i64 c.partitions.length)), (68, .v (.int .i64 x2)), (77, .v (.int .i64 x3)), (78, .v (.int .i64 x0))] 120 0, [.cells 26 [.v (.int .i64 c.frames), .v (.int .i64 c.major), .v (.int .i64 c.kernel), .v (.int .i64 c.room), .sl (.sl .sWindow) c.cores, .sl .sPartition c.partitions, .sl .sChannel c.channels], .cells 42 [.v (.int .i64 0), .v (.int .i64 0), .v (.int .i64 0)]], GL, 0, [], nodp⟩
noncomputable def bod22 {R : Type} (ret : R22 → R) (c : Config) (at_1 : Int) (j : L22 → Option R) : L22 → Option R
  | .l0 x0 => cond (decide ((x0 : Int) < (sp47 c).length))
    (cond (inR x0 (sp47 c).length) (
      cond (decide (((atBulkheadref15Piece (sp47 c) x0.toNat).at_ : Int) ≤ at_1))
        (cond (inR x0 (sp47 c).length) (
          cond (inR x0 (sp47 c).length) (
            cond (decide ((at_1 : Int) < (IntKind.i64.wrap ((atBulkheadref15Piece (sp47 c) x0.toNat).at_ + (atBulkheadref15Piece (sp47 c) x0.toNat).size))))
              (cond (inR x0 (sp47 c).length) (some (ret ((atBulkheadref15Piece (sp47 c) x0.toNat).owner, 0))) none)
              (j (.l0 (IntKind.i64.wrap (x0 + 1))))) none) none)
        (j (.l0 (IntKind.i64.wrap (x0 + 1))))) none)
    (j (.l4 0))
  | .l4 x0 => cond (decide ((x0 : Int) < c.partitions.length))
    (cond (inR x0 c.partitions.length) (j (.l8 x0 x0 (((atPartition c.partitions x0.toNat).regions).length) 0)) none)
    (some (ret ((⟨0, 0, 0⟩ : Owner), 0)))
  | .l8 x1 x2 x3 x0 => cond (decide ((x0 : Int) < x3))
    (cond (inR x1 c.partitions.length) (
      cond (inR x0 ((atPartition c.partitions x1.toNat).regions).length) (
        cond (decide (((atRegion ((atPartition c.partitions x1.toNat).regions) x0.toNat).frame : Int) ≥ 0))
          (cond (decide (((atRegion ((atPartition c.partitions x1.toNat).regions) x0.toNat).frame : Int) ≤ 1024))
            (cond (decide (((atRegion ((atPartition c.partitions x1.toNat).regions) x0.toNat).frame : Int) ≤ (bop .quo .i64 at_1 16)))
              (cond (decide (((bop .quo .i64 at_1 16) : Int) < (IntKind.i64.wrap ((atRegion ((atPartition c.partitions x1.toNat).regions) x0.toNat).frame + (atRegion ((atPartition c.partitions x1.toNat).regions) x0.toNat).pages))))
                (some (ret ((⟨1, x1, 0⟩ : Owner), 0)))
                (j (.l8 x1 x2 x3 (IntKind.i64.wrap (x0 + 1)))))
              (j (.l8 x1 x2 x3 (IntKind.i64.wrap (x0 + 1)))))
            (j (.l8 x1 x2 x3 (IntKind.i64.wrap (x0 + 1)))))
          (j (.l8 x1 x2 x3 (IntKind.i64.wrap (x0 + 1))))) none) none)
    (j (.l4 (IntKind.i64.wrap (x2 + 1))))
noncomputable def ent22 {R : Type} (ret : R22 → R) (c : Config) (at_1 : Int) (j : L22 → Option R) : Option R :=
    cond (spc46 c) (
    cond (!(sp46 c))
      (some (ret ((⟨0, 0, 0⟩ : Owner), 150)))
      (cond (decide ((at_1 : Int) < 0))
        (some (ret ((⟨0, 0, 0⟩ : Owner), 151)))
        (cond (decide (((bop .quo .i64 at_1 16) : Int) ≥ c.frames))
          (some (ret ((⟨0, 0, 0⟩ : Owner), 151)))
          (cond (decide (((bop .quo .i64 at_1 16) : Int) ≥ 1024))
            (some (ret ((⟨0, 0, 0⟩ : Owner), 151)))
            (cond (spc47 c) (j (.l0 0)) none))))) none
theorem head22_0 (J : Jmp) (c : Config) (at_1 : Int) (x0 : Int) : stepAt Pr GD H22 J 0 0 (bodyOf Tryz.f22) (fin Pr H22 Tryz.f22) (st22 c at_1 (.l0 x0)) = bod22 to22 c at_1 (fun l => J (num22 l) (st22 c at_1 l)) (.l0 x0) := by kernel_rfl
theorem head22_4 (J : Jmp) (c : Config) (at_1 : Int) (x0 : Int) : stepAt Pr GD H22 J 4 0 (bodyOf Tryz.f22) (fin Pr H22 Tryz.f22) (st22 c at_1 (.l4 x0)) = bod22 to22 c at_1 (fun l => J (num22 l) (st22 c at_1 l)) (.l4 x0) := by kernel_rfl
theorem head22_8 (J : Jmp) (c : Config) (at_1 : Int) (x1 : Int) (x2 : Int) (x3 : Int) (x0 : Int) : stepAt Pr GD H22 J 8 0 (bodyOf Tryz.f22) (fin Pr H22 Tryz.f22) (st22 c at_1 (.l8 x1 x2 x3 x0)) = bod22 to22 c at_1 (fun l => J (num22 l) (st22 c at_1 l)) (.l8 x1 x2 x3 x0) := by kernel_rfl
theorem run22 (J : Jmp) (c : Config) (at_1 : Int) : runF Pr GD H22 J GL Tryz.f22 [(aCfg c), .v (.int .i64 at_1)] [] = ent22 to22 c at_1 (fun l => J (num22 l) (st22 c at_1 l)) := by kernel_rfl
theorem shad22 (c : Config) (at_1 : Int) : ∀ (n : Nat) (l : L22), runL Pr GD H22 Tryz.f22 n (num22 l) (st22 c at_1 l) = shad (bod22 to22 c at_1) n l
  | 0, l => by cases l <;> rfl
  | n + 1, l => by
    have ih : (fun l => runL Pr GD H22 Tryz.f22 n (num22 l) (st22 c at_1 l)) = shad (bod22 to22 c at_1) n := funext (shad22 c at_1 n)
    cases l with
    | l0 x0 => exact (step_eq ..).trans ((head22_0 ..).trans (by rw [ih]; rfl))
    | l4 x0 => exact (step_eq ..).trans ((head22_4 ..).trans (by rw [ih]; rfl))
    | l8 x1 x2 x3 x0 => exact (step_eq ..).trans ((head22_8 ..).trans (by rw [ih]; rfl))
theorem nat22 (c : Config) (at_1 : Int) (s : L22 → Option R22) (l : L22) : bod22 to22 c at_1 (fun l => (s l).map to22) l = (bod22 id c at_1 s l).map to22 := by
  cases l <;> simp only [bod22, map_cond, Option.map_some, Option.map_none, id]
theorem ct22 (c : Config) (at_1 : Int) (l : L22) : CT fun j => bod22 id c at_1 j l := by
  cases l <;> (dsimp only [bod22]; repeat (first | exact CT.jump _ | exact CT.const _ | apply CT.cond))
noncomputable def spL22 (c : Config) (at_1 : Int) : L22 → Option R22 := lfp (bod22 id c at_1)
theorem spL22_eq (c : Config) (at_1 : Int) (l : L22) : spL22 c at_1 l = bod22 id c at_1 (spL22 c at_1) l := lfp_eq (ct22 c at_1) l
noncomputable def spO22 (c : Config) (at_1 : Int) : Option R22 := ent22 id c at_1 (spL22 c at_1)
noncomputable def sp22 (c : Config) (at_1 : Int) : R22 := (spO22 c at_1).getD default
noncomputable def spc22 (c : Config) (at_1 : Int) : Bool := (spO22 c at_1).isSome
theorem oks22 (c : Config) (at_1 : Int) (hc : spc22 c at_1 = true) : Okay Pr GL 22 [(aCfg c), .v (.int .i64 at_1)] [] (to22 (sp22 c at_1)) := by
  obtain ⟨n, h⟩ := auto_ok (nat22 c at_1) (fun s => show ent22 to22 c at_1 (fun l => (s l).map to22) = (ent22 id c at_1 s).map to22 by simp only [ent22, map_cond, Option.map_some, Option.map_none, id]) (ct22 c at_1) (show CT fun j => ent22 id c at_1 j by dsimp only [ent22]; repeat (first | exact CT.jump _ | exact CT.const _ | apply CT.cond)) (isSome_getD hc)
  exact okay_of_run (H := H22) GDok G0ok Tryz.func22 rfl (by kernel_rfl) n (by
    rw [run22]
    rw [show (fun l => runL Pr GD H22 Tryz.f22 n (num22 l) (st22 c at_1 l)) = shad (bod22 to22 c at_1) n from funext (shad22 c at_1 n)]
    exact h)

/-! ### admit.questions$6 -/
abbrev R137 := AdmitFound
def to137 (r : R137) : Ans := ⟨.agg [.v (.int .i64 r.e), .v (.int .i64 r.where_.first), .v (.int .i64 r.where_.second)], []⟩
def H137 : Hint := ⟨fun _ => false, fun _ => ⟨[], []⟩, [], G0, nodp⟩
noncomputable def ent137 {R : Type} (ret : R137 → R) (a : Config) (a_1 : Int) : Option R :=
    cond (spc138 a a_1) (some (ret (sp138 a a_1))) none
theorem run137 (J : Jmp) (a : Config) (a_1 : Int) : runF Pr GD H137 J GL Tryz.f137 [.op .sConfig (some a), .op (.i .i64) (some a_1)] [] = ent137 to137 a a_1 := by kernel_rfl
noncomputable def spO137 (a : Config) (a_1 : Int) : Option R137 := ent137 id a a_1
noncomputable def sp137 (a : Config) (a_1 : Int) : R137 := (spO137 a a_1).getD default
noncomputable def spc137 (a : Config) (a_1 : Int) : Bool := (spO137 a a_1).isSome
theorem oks137 (a : Config) (a_1 : Int) (hc : spc137 a a_1 = true) : Okay Pr GL 137 [.op .sConfig (some a), .op (.i .i64) (some a_1)] [] (to137 (sp137 a a_1)) :=
  okay_of_run (H := H137) GDok G0ok Tryz.func137 rfl (by kernel_rfl) 0 ((run137 (runL Pr GD H137 Tryz.f137 0) a a_1).trans (auto_ok0 (show ent137 to137 a a_1 = (ent137 id a a_1).map to137 by simp only [ent137, map_cond, Option.map_some, Option.map_none, id]) (isSome_getD hc)))

/-! ### layout.portSizes -/
abbrev R98 := (List LayoutAsked)
def to98 (r : R98) : Ans := ⟨.own 0, [.arr 189 .sLayoutAsked r]⟩
inductive L98 where
  | l0 (x0 : Int) (x1 : List LayoutAsked)
def num98 : L98 → Nat
  | .l0 _ _ => 0
def H98 : Hint := ⟨fun n => [].any (Nat.beq n), hdAt [(0, ⟨fgt [3, 8, 9, 10] 26 0, [(.slot 3, .own 189 .sLayoutAsked)]⟩)], [], G0, nodp⟩
noncomputable def st98 (c : Config) : L98 → St
  | .l0 x0 x1 => ⟨mkE [(3, .own 0), (8, .sl .sChannel c.channels), (9, .v (.int .i64 c.channels.length)), (10, .v (.int .i64 x0))] 26 0, [.arr 189 .sLayoutAsked x1], GL, 0, [], nodp⟩
noncomputable def bod98 {R : Type} (ret : R98 → R) (c : Config) (j : L98 → Option R) : L98 → Option R
  | .l0 x0 x1 => cond (decide ((x0 : Int) < c.channels.length))
    (cond (inR x0 c.channels.length) (
      cond (leB (((x1 : List LayoutAsked).length + ([(⟨(Clo.c145 (⟨(⟨(atChannel c.channels x0.toNat).kind, (atChannel c.channels x0.toNat).words, (atChannel c.channels x0.toNat).depth⟩ : Channel)⟩ : LayoutSize)), (Clo.c146 (⟨(⟨(atChannel c.channels x0.toNat).kind, (atChannel c.channels x0.toNat).words, (atChannel c.channels x0.toNat).depth⟩ : Channel)⟩ : LayoutSize))⟩ : LayoutAsked)] : List LayoutAsked).length) * 16) 140737488355328) (
        j (.l0 (IntKind.i64.wrap (x0 + 1)) ((x1 : List LayoutAsked) ++ [(⟨(Clo.c145 (⟨(⟨(atChannel c.channels x0.toNat).kind, (atChannel c.channels x0.toNat).words, (atChannel c.channels x0.toNat).depth⟩ : Channel)⟩ : LayoutSize)), (Clo.c146 (⟨(⟨(atChannel c.channels x0.toNat).kind, (atChannel c.channels x0.toNat).words, (atChannel c.channels x0.toNat).depth⟩ : Channel)⟩ : LayoutSize))⟩ : LayoutAsked)]))) none) none)
    (some (ret x1))
noncomputable def ent98 {R : Type} (ret : R98 → R) (c : Config) (j : L98 → Option R) : Option R :=
    j (.l0 0 [])
theorem head98_0 (J : Jmp) (c : Config) (x0 : Int) (x1 : List LayoutAsked) : stepAt Pr GD H98 J 0 0 (bodyOf Tryz.f98) (fin Pr H98 Tryz.f98) (st98 c (.l0 x0 x1)) = bod98 to98 c (fun l => J (num98 l) (st98 c l)) (.l0 x0 x1) := by kernel_rfl
theorem run98 (J : Jmp) (c : Config) : runF Pr GD H98 J GL Tryz.f98 [(aCfg c)] [] = ent98 to98 c (fun l => J (num98 l) (st98 c l)) := by kernel_rfl
theorem shad98 (c : Config) : ∀ (n : Nat) (l : L98), runL Pr GD H98 Tryz.f98 n (num98 l) (st98 c l) = shad (bod98 to98 c) n l
  | 0, l => by cases l <;> rfl
  | n + 1, l => by
    have ih : (fun l => runL Pr GD H98 Tryz.f98 n (num98 l) (st98 c l)) = shad (bod98 to98 c) n := funext (shad98 c n)
    cases l with
    | l0 x0 x1 => exact (step_eq ..).trans ((head98_0 ..).trans (by rw [ih]; rfl))
theorem nat98 (c : Config) (s : L98 → Option R98) (l : L98) : bod98 to98 c (fun l => (s l).map to98) l = (bod98 id c s l).map to98 := by
  cases l <;> simp only [bod98, map_cond, Option.map_some, Option.map_none, id]
theorem ct98 (c : Config) (l : L98) : CT fun j => bod98 id c j l := by
  cases l <;> (dsimp only [bod98]; repeat (first | exact CT.jump _ | exact CT.const _ | apply CT.cond))
noncomputable def spL98 (c : Config) : L98 → Option R98 := lfp (bod98 id c)
theorem spL98_eq (c : Config) (l : L98) : spL98 c l = bod98 id c (spL98 c) l := lfp_eq (ct98 c) l
noncomputable def spO98 (c : Config) : Option R98 := ent98 id c (spL98 c)
noncomputable def sp98 (c : Config) : R98 := (spO98 c).getD default
noncomputable def spc98 (c : Config) : Bool := (spO98 c).isSome
theorem oks98 (c : Config) (hc : spc98 c = true) : Okay Pr GL 98 [(aCfg c)] [] (to98 (sp98 c)) := by
  obtain ⟨n, h⟩ := auto_ok (nat98 c) (fun s => show ent98 to98 c (fun l => (s l).map to98) = (ent98 id c s).map to98 by simp only [ent98, map_cond, Option.map_some, Option.map_none, id]) (ct98 c) (show CT fun j => ent98 id c j by dsimp only [ent98]; repeat (first | exact CT.jump _ | exact CT.const _ | apply CT.cond)) (isSome_getD hc)
  exact okay_of_run (H := H98) GDok G0ok Tryz.func98 rfl (by kernel_rfl) n (by
    rw [run98]
    rw [show (fun l => runL Pr GD H98 Tryz.f98 n (num98 l) (st98 c l)) = shad (bod98 to98 c) n from funext (shad98 c n)]
    exact h)

noncomputable def g58 (args : List AV) (hp : List Blk) : Option (Bool × AV × List Blk) :=
  match hp, args with
  | [], [x0, x1] => (rdS .sConfig x0).bind fun a0 => (rdL (.i .i64) x1).bind fun a1 => some ((spc58 a0 a1), .tup [.v (.int .i64 ((sp58 a0 a1).1)), .agg [.v (.int .i64 ((sp58 a0 a1).2.first)), .v (.int .i64 ((sp58 a0 a1).2.second))]], [])
  | _, _ => none
theorem g58_ok {args : List AV} {hp : List Blk} {b : Bool} {r : AV} {hp' : List Blk} (h : g58 args hp = some (b, r, hp')) (hb : b = true) : FnOk Pr 58 ∧ Okay Pr GL 58 args hp ⟨r, hp'⟩ := by
  unfold g58 at h
  split at h
  · simp only [Option.bind_eq_some_iff] at h
    obtain ⟨a0, h0, a1, h1, h⟩ := h
    cases h; exact ⟨fnok Tryz.func58 (by kernel_rfl) rfl, (oks58 a0 a1 hb).ats (.cons (rdS_V h0) (.cons (rdL_V h1) .nil))⟩
  · cases h
noncomputable def g22 (args : List AV) (hp : List Blk) : Option (Bool × AV × List Blk) :=
  match hp, args with
  | [], [x0, x1] => (rdS .sConfig x0).bind fun a0 => (rdL (.i .i64) x1).bind fun a1 => some ((spc22 a0 a1), .tup [.agg [.v (.int .i64 ((sp22 a0 a1).1.kind)), .v (.int .i64 ((sp22 a0 a1).1.index)), .v (.int .i64 ((sp22 a0 a1).1.port))], .v (.int .i64 ((sp22 a0 a1).2))], [])
  | _, _ => none
theorem g22_ok {args : List AV} {hp : List Blk} {b : Bool} {r : AV} {hp' : List Blk} (h : g22 args hp = some (b, r, hp')) (hb : b = true) : FnOk Pr 22 ∧ Okay Pr GL 22 args hp ⟨r, hp'⟩ := by
  unfold g22 at h
  split at h
  · simp only [Option.bind_eq_some_iff] at h
    obtain ⟨a0, h0, a1, h1, h⟩ := h
    cases h; exact ⟨fnok Tryz.func22 (by kernel_rfl) rfl, (oks22 a0 a1 hb).ats (.cons (rdS_V h0) (.cons (rdL_V h1) .nil))⟩
  · cases h
noncomputable def g137 (args : List AV) (hp : List Blk) : Option (Bool × AV × List Blk) :=
  match hp, args with
  | [], [x0, x1] => (rdP .sConfig x0).bind fun a0 => (rdP (.i .i64) x1).bind fun a1 => some ((spc137 a0 a1), .agg [.v (.int .i64 ((sp137 a0 a1).e)), .v (.int .i64 ((sp137 a0 a1).where_.first)), .v (.int .i64 ((sp137 a0 a1).where_.second))], [])
  | _, _ => none
theorem g137_ok {args : List AV} {hp : List Blk} {b : Bool} {r : AV} {hp' : List Blk} (h : g137 args hp = some (b, r, hp')) (hb : b = true) : FnOk Pr 137 ∧ Okay Pr GL 137 args hp ⟨r, hp'⟩ := by
  unfold g137 at h
  split at h
  · simp only [Option.bind_eq_some_iff] at h
    obtain ⟨a0, h0, a1, h1, h⟩ := h
    cases h; exact ⟨fnok Tryz.func137 (by kernel_rfl) rfl, (oks137 a0 a1 hb).ats (.cons (rdP_V h0) (.cons (rdP_V h1) .nil))⟩
  · cases h
noncomputable def g98 (args : List AV) (hp : List Blk) : Option (Bool × AV × List Blk) :=
  match hp, args with
  | [], [x0] => (rdS .sConfig x0).bind fun a0 => some ((spc98 a0), .own 0, [.arr 189 .sLayoutAsked (sp98 a0)])
  | _, _ => none
theorem g98_ok {args : List AV} {hp : List Blk} {b : Bool} {r : AV} {hp' : List Blk} (h : g98 args hp = some (b, r, hp')) (hb : b = true) : FnOk Pr 98 ∧ Okay Pr GL 98 args hp ⟨r, hp'⟩ := by
  unfold g98 at h
  split at h
  · simp only [Option.bind_eq_some_iff] at h
    obtain ⟨a0, h0, h⟩ := h
    cases h; exact ⟨fnok Tryz.func98 (by kernel_rfl) rfl, (oks98 a0 hb).ats (.cons (rdS_V h0) .nil)⟩
  · cases h
noncomputable def GE : Gam := fun c args hp => match c with
  | .f f => pick1 58 f (g58 args hp) (pick1 22 f (g22 args hp) (pick1 137 f (g137 args hp) (pick1 98 f (g98 args hp) (GD (.f f) args hp))))
  | .c x => GD (.c x) args hp
theorem GEok : GOk Pr GL GE := by
  intro c args hp b r hp' h hb
  cases c with
  | f f =>
    simp only [GE] at h
    rcases pick1_ok h with ⟨rfl, h⟩ | h
    · exact g58_ok h hb
    rcases pick1_ok h with ⟨rfl, h⟩ | h
    · exact g22_ok h hb
    rcases pick1_ok h with ⟨rfl, h⟩ | h
    · exact g137_ok h hb
    rcases pick1_ok h with ⟨rfl, h⟩ | h
    · exact g98_ok h hb
    exact GDok (.f f) args hp b r hp' h hb
  | c x => exact GDok (.c x) args hp b r hp' h hb
end Go.Proofs.YtgfifnadfmaolaaGreatDoor
