/- Shadows of functions (printed by pr2.py off the model's code; the kernel holds each equation to it), and what they answer. -/
import Derived.Test.YthnkmndjhedgdaaDoorP7
namespace Go.Proofs.YthnkmndjhedgdaaDoor
open Go.RowKit
set_option linter.unusedVariables false
set_option linter.unusedSimpArgs false
/-! ### ref16.area -/
abbrev R22 := Bool
def to22 (r : R22) : Ans := ⟨.v (.bool r), []⟩
inductive L22 where
  | l0 (x0 : Int)
  | l4 (x1 : Int) (x0 : Int)
def num22 : L22 → Nat
  | .l0 _ => 0
  | .l4 _ _ => 4
def H22 : Hint := ⟨fun n => [].any (Nat.beq n), hdAt [(0, ⟨fgt [1, 3, 70, 71, 72, 73] 75 0, []⟩), (4, ⟨fgt [1, 3, 4, 70, 71, 72, 73] 75 0, []⟩)], [], G0, nodp⟩
noncomputable def st22 (c : Config) : L22 → St
  | .l0 x0 => ⟨mkE [(1, .ref 0 0), (3, .v (.int .i64 x0))] 75 0, [.cells 26 [.v (.int .i64 c.frames), .v (.int .i64 c.major), .v (.int .i64 c.kernel), .v (.int .i64 c.room), .sl (.sl .sWindow) c.cores, .sl .sPartition c.partitions, .sl .sChannel c.channels]], GL, 0, [], nodp⟩
  | .l4 x1 x0 => ⟨mkE [(1, .ref 0 0), (3, .v (.int .i64 x1)), (4, .v (.int .i64 x0))] 75 0, [.cells 26 [.v (.int .i64 c.frames), .v (.int .i64 c.major), .v (.int .i64 c.kernel), .v (.int .i64 c.room), .sl (.sl .sWindow) c.cores, .sl .sPartition c.partitions, .sl .sChannel c.channels]], GL, 0, [], nodp⟩
noncomputable def bod22 {R : Type} (ret : R22 → R) (c : Config) (j : L22 → Option R) : L22 → Option R
  | .l0 x0 => cond (decide ((x0 : Int) < c.partitions.length))
    (j (.l4 x0 0))
    (cond (spc36 c) (cond (((sp36 c).2 : Int) == 0)
        (some (ret (decide (((sp36 c).1 : Int) ≤ c.room))))
        (some (ret false))) none)
  | .l4 x1 x0 => cond (inR x1 c.partitions.length) (
    cond (decide ((x0 : Int) < ((atPartition c.partitions x1.toNat).regions).length))
      (cond (inR x1 c.partitions.length) (
        cond (inR x0 ((atPartition c.partitions x1.toNat).regions).length) (
          cond (sp35 ((atRegion ((atPartition c.partitions x1.toNat).regions) x0.toNat).frame) ((atRegion ((atPartition c.partitions x1.toNat).regions) x0.toNat).pages) c.kernel c.room)
            (some (ret false))
            (j (.l4 x1 (IntKind.i64.wrap (x0 + 1))))) none) none)
      (j (.l0 (IntKind.i64.wrap (x1 + 1))))) none
noncomputable def ent22 {R : Type} (ret : R22 → R) (c : Config) (j : L22 → Option R) : Option R :=
    cond (!(sp29 c.kernel 0 (IntKind.i64.wrap (c.frames - 1))))
    (some (ret false))
    (cond (!(sp29 c.room 1 (IntKind.i64.wrap (c.frames - c.kernel))))
      (some (ret false))
      (j (.l0 0)))
theorem head22_0 (J : Jmp) (c : Config) (x0 : Int) : stepAt Pr GH H22 J 0 0 (bodyOf Tryd.f22) (fin Pr H22 Tryd.f22) (st22 c (.l0 x0)) = bod22 to22 c (fun l => J (num22 l) (st22 c l)) (.l0 x0) := by kernel_rfl
theorem head22_4 (J : Jmp) (c : Config) (x1 : Int) (x0 : Int) : stepAt Pr GH H22 J 4 0 (bodyOf Tryd.f22) (fin Pr H22 Tryd.f22) (st22 c (.l4 x1 x0)) = bod22 to22 c (fun l => J (num22 l) (st22 c l)) (.l4 x1 x0) := by kernel_rfl
theorem run22 (J : Jmp) (c : Config) : runF Pr GH H22 J GL Tryd.f22 [.agg [.v (.int .i64 c.frames), .v (.int .i64 c.major), .v (.int .i64 c.kernel), .v (.int .i64 c.room), .sl (.sl .sWindow) c.cores, .sl .sPartition c.partitions, .sl .sChannel c.channels]] [] = ent22 to22 c (fun l => J (num22 l) (st22 c l)) := by kernel_rfl
theorem shad22 (c : Config) : ∀ (n : Nat) (l : L22), runL Pr GH H22 Tryd.f22 n (num22 l) (st22 c l) = shad (bod22 to22 c) n l
  | 0, l => by cases l <;> rfl
  | n + 1, l => by
    have ih : (fun l => runL Pr GH H22 Tryd.f22 n (num22 l) (st22 c l)) = shad (bod22 to22 c) n := funext (shad22 c n)
    cases l with
    | l0 x0 => exact (step_eq ..).trans ((head22_0 ..).trans (by rw [ih]; rfl))
    | l4 x1 x0 => exact (step_eq ..).trans ((head22_4 ..).trans (by rw [ih]; rfl))
theorem nat22 (c : Config) (s : L22 → Option R22) (l : L22) : bod22 to22 c (fun l => (s l).map to22) l = (bod22 id c s l).map to22 := by
  cases l <;> simp only [bod22, map_cond, Option.map_some, Option.map_none, id]
theorem ct22 (c : Config) (l : L22) : CT fun j => bod22 id c j l := by
  cases l <;> (dsimp only [bod22]; repeat (first | exact CT.jump _ | exact CT.const _ | apply CT.cond))
/-- ref16.area, from a head on. -/
noncomputable def spL22 (c : Config) : L22 → Option R22 := lfp (bod22 id c)
theorem spL22_eq (c : Config) (l : L22) : spL22 c l = bod22 id c (spL22 c) l := lfp_eq (ct22 c) l
/-- ref16.area -/
noncomputable def spO22 (c : Config) : Option R22 := ent22 id c (spL22 c)
noncomputable def sp22 (c : Config) : R22 := (spO22 c).getD default
noncomputable def spc22 (c : Config) : Bool := (spO22 c).isSome
theorem oks22 (c : Config) (hc : spc22 c = true) : Okay Pr GL 22 [.agg [.v (.int .i64 c.frames), .v (.int .i64 c.major), .v (.int .i64 c.kernel), .v (.int .i64 c.room), .sl (.sl .sWindow) c.cores, .sl .sPartition c.partitions, .sl .sChannel c.channels]] [] (to22 (sp22 c)) := by
  obtain ⟨n, h⟩ := auto_ok (nat22 c) (fun s => show ent22 to22 c (fun l => (s l).map to22) = (ent22 id c s).map to22 by simp only [ent22, map_cond, Option.map_some, Option.map_none, id]) (ct22 c) (show CT fun j => ent22 id c j by dsimp only [ent22]; repeat (first | exact CT.jump _ | exact CT.const _ | apply CT.cond)) (isSome_getD hc)
  exact okay_of_run (H := H22) GHok G0ok Tryd.func22 rfl (by kernel_rfl) n (by
    rw [run22]
    rw [show (fun l => runL Pr GH H22 Tryd.f22 n (num22 l) (st22 c l)) = shad (bod22 to22 c) n from funext (shad22 c n)]
    exact h)

/-! ### layout.Owner -/
abbrev R27 := Owner × Int
def to27 (r : R27) : Ans := ⟨.tup [.agg [.v (.int .i64 r.1.kind), .v (.int .i64 r.1.index), .v (.int .i64 r.1.port)], .v (.int .i64 r.2)], []⟩
inductive L27 where
  | l0 (x0 : Int)
def num27 : L27 → Nat
  | .l0 _ => 0
def H27 : Hint := ⟨fun n => [].any (Nat.beq n), hdAt [(0, ⟨fgt [1, 2, 4, 35, 36, 37] 68 0, []⟩)], [], G0, nodp⟩
noncomputable def st27 (c : Config) (at_1 : Int) : L27 → St
  | .l0 x0 => ⟨mkE [(1, .v (.int .i64 at_1)), (2, .ref 0 0), (4, .ref 1 0), (35, .own 2), (36, .v (.int .i64 ((sp42 c ((sp41 c).1)).length))), (37, .v (.int .i64 x0))] 68 0, [.cells 26 [.v (.int .i64 c.frames), .v (.int .i64 c.major), .v (.int .i64 c.kernel), .v (.int .i64 c.room), .sl (.sl .sWindow) c.cores, .sl .sPartition c.partitions, .sl .sChannel c.channels], .cells 28 [.v (.int .i64 0), .v (.int .i64 0), .v (.int .i64 0)], .arr 106 .sLayoutPiece (sp42 c ((sp41 c).1))], GL, 0, [], nodp⟩
noncomputable def bod27 {R : Type} (ret : R27 → R) (c : Config) (at_1 : Int) (j : L27 → Option R) : L27 → Option R
  | .l0 x0 => cond (decide ((x0 : Int) < (sp42 c ((sp41 c).1)).length))
    (cond (inR x0 (sp42 c ((sp41 c).1)).length) (
      cond (decide ((at_1 : Int) ≥ (atLayoutPiece (sp42 c ((sp41 c).1)) x0.toNat).at_))
        (cond (decide ((at_1 : Int) < (IntKind.i64.wrap ((atLayoutPiece (sp42 c ((sp41 c).1)) x0.toNat).at_ + (atLayoutPiece (sp42 c ((sp41 c).1)) x0.toNat).many))))
          (some (ret ((atLayoutPiece (sp42 c ((sp41 c).1)) x0.toNat).owner, 0)))
          (j (.l0 (IntKind.i64.wrap (x0 + 1)))))
        (j (.l0 (IntKind.i64.wrap (x0 + 1))))) none)
    (cond (spc43 c (bop .quo .i64 at_1 16)) (
      cond ((sp43 c (bop .quo .i64 at_1 16)).2)
        (some (ret ((⟨1, (sp43 c (bop .quo .i64 at_1 16)).1, 0⟩ : Owner), 0)))
        (some (ret ((⟨0, 0, 0⟩ : Owner), 0)))) none)
noncomputable def ent27 {R : Type} (ret : R27 → R) (c : Config) (at_1 : Int) (j : L27 → Option R) : Option R :=
    cond (spc41 c) (
    cond (!(((sp41 c).2 : Int) == 0))
      (some (ret ((⟨0, 0, 0⟩ : Owner), (sp41 c).2)))
      (cond (decide ((at_1 : Int) < 0))
        (some (ret ((⟨0, 0, 0⟩ : Owner), 151)))
        (cond (decide ((at_1 : Int) ≥ (IntKind.i64.wrap (16 * (mn (mx c.frames 0) 1024)))))
          (some (ret ((⟨0, 0, 0⟩ : Owner), 151)))
          (cond (spc42 c ((sp41 c).1)) (j (.l0 0)) none)))) none
theorem head27_0 (J : Jmp) (c : Config) (at_1 : Int) (x0 : Int) : stepAt Pr GH H27 J 0 0 (bodyOf Tryd.f27) (fin Pr H27 Tryd.f27) (st27 c at_1 (.l0 x0)) = bod27 to27 c at_1 (fun l => J (num27 l) (st27 c at_1 l)) (.l0 x0) := by kernel_rfl
theorem run27 (J : Jmp) (c : Config) (at_1 : Int) : runF Pr GH H27 J GL Tryd.f27 [.agg [.v (.int .i64 c.frames), .v (.int .i64 c.major), .v (.int .i64 c.kernel), .v (.int .i64 c.room), .sl (.sl .sWindow) c.cores, .sl .sPartition c.partitions, .sl .sChannel c.channels], .v (.int .i64 at_1)] [] = ent27 to27 c at_1 (fun l => J (num27 l) (st27 c at_1 l)) := by kernel_rfl
theorem shad27 (c : Config) (at_1 : Int) : ∀ (n : Nat) (l : L27), runL Pr GH H27 Tryd.f27 n (num27 l) (st27 c at_1 l) = shad (bod27 to27 c at_1) n l
  | 0, l => by cases l <;> rfl
  | n + 1, l => by
    have ih : (fun l => runL Pr GH H27 Tryd.f27 n (num27 l) (st27 c at_1 l)) = shad (bod27 to27 c at_1) n := funext (shad27 c at_1 n)
    cases l with
    | l0 x0 => exact (step_eq ..).trans ((head27_0 ..).trans (by rw [ih]; rfl))
theorem nat27 (c : Config) (at_1 : Int) (s : L27 → Option R27) (l : L27) : bod27 to27 c at_1 (fun l => (s l).map to27) l = (bod27 id c at_1 s l).map to27 := by
  cases l <;> simp only [bod27, map_cond, Option.map_some, Option.map_none, id]
theorem ct27 (c : Config) (at_1 : Int) (l : L27) : CT fun j => bod27 id c at_1 j l := by
  cases l <;> (dsimp only [bod27]; repeat (first | exact CT.jump _ | exact CT.const _ | apply CT.cond))
/-- layout.Owner, from a head on. -/
noncomputable def spL27 (c : Config) (at_1 : Int) : L27 → Option R27 := lfp (bod27 id c at_1)
theorem spL27_eq (c : Config) (at_1 : Int) (l : L27) : spL27 c at_1 l = bod27 id c at_1 (spL27 c at_1) l := lfp_eq (ct27 c at_1) l
/-- layout.Owner -/
noncomputable def spO27 (c : Config) (at_1 : Int) : Option R27 := ent27 id c at_1 (spL27 c at_1)
noncomputable def sp27 (c : Config) (at_1 : Int) : R27 := (spO27 c at_1).getD default
noncomputable def spc27 (c : Config) (at_1 : Int) : Bool := (spO27 c at_1).isSome
theorem oks27 (c : Config) (at_1 : Int) (hc : spc27 c at_1 = true) : Okay Pr GL 27 [.agg [.v (.int .i64 c.frames), .v (.int .i64 c.major), .v (.int .i64 c.kernel), .v (.int .i64 c.room), .sl (.sl .sWindow) c.cores, .sl .sPartition c.partitions, .sl .sChannel c.channels], .v (.int .i64 at_1)] [] (to27 (sp27 c at_1)) := by
  obtain ⟨n, h⟩ := auto_ok (nat27 c at_1) (fun s => show ent27 to27 c at_1 (fun l => (s l).map to27) = (ent27 id c at_1 s).map to27 by simp only [ent27, map_cond, Option.map_some, Option.map_none, id]) (ct27 c at_1) (show CT fun j => ent27 id c at_1 j by dsimp only [ent27]; repeat (first | exact CT.jump _ | exact CT.const _ | apply CT.cond)) (isSome_getD hc)
  exact okay_of_run (H := H27) GHok G0ok Tryd.func27 rfl (by kernel_rfl) n (by
    rw [run27]
    rw [show (fun l => runL Pr GH H27 Tryd.f27 n (num27 l) (st27 c at_1 l)) = shad (bod27 to27 c at_1) n from funext (shad27 c at_1 n)]
    exact h)

/-! ### ref28.Owners -/
abbrev R9 := (List Owner)
def to9 (r : R9) : Ans := ⟨.own 0, [.arr 28 .sOwner r]⟩
inductive L9 where
  | l0 (x0 : Int) (x1 : List Owner) (x2 : Int) (x3 : Int) (x4 : Int)
  | l19 (x1 : Int) (x0 : List Owner) (x2 : Int) (x3 : Int) (x4 : Int) (x5 : Int) (x6 : Int) (x7 : Int)
def num9 : L9 → Nat
  | .l0 _ _ _ _ _ => 0
  | .l19 _ _ _ _ _ _ _ _ => 19
def H9 : Hint := ⟨fun n => [9].any (Nat.beq n), hdAt [(0, ⟨fgt [1, 3, 4, 5, 26, 27, 28, 29] 37 0, [(.slot 3, .own 28 .sOwner)]⟩), (19, ⟨fgt [1, 3, 4, 5, 6] 37 0, [(.slot 3, .own 28 .sOwner)]⟩)], [], G0, nodp⟩
noncomputable def st9 (c : Config) : L9 → St
  | .l0 x0 x1 x2 x3 x4 => ⟨mkE [(1, .ref 0 0), (3, .own 1), (4, .ref 2 0), (5, .v (.int .i64 x0))] 37 0, [.cells 26 [.v (.int .i64 c.frames), .v (.int .i64 c.major), .v (.int .i64 c.kernel), .v (.int .i64 c.room), .sl (.sl .sWindow) c.cores, .sl .sPartition c.partitions, .sl .sChannel c.channels], .arr 28 .sOwner x1, .cells 28 [.v (.int .i64 x2), .v (.int .i64 x3), .v (.int .i64 x4)]], GL, 0, [], nodp⟩
  | .l19 x1 x0 x2 x3 x4 x5 x6 x7 => ⟨mkE [(1, .ref 0 0), (3, .own 1), (4, .ref 2 0), (5, .v (.int .i64 x1)), (6, .ref 3 0)] 37 0, [.cells 26 [.v (.int .i64 c.frames), .v (.int .i64 c.major), .v (.int .i64 c.kernel), .v (.int .i64 c.room), .sl (.sl .sWindow) c.cores, .sl .sPartition c.partitions, .sl .sChannel c.channels], .arr 28 .sOwner x0, .cells 28 [.v (.int .i64 x2), .v (.int .i64 x3), .v (.int .i64 x4)], .cells 28 [.v (.int .i64 x5), .v (.int .i64 x6), .v (.int .i64 x7)]], GL, 0, [], nodp⟩
noncomputable def bod9 {R : Type} (ret : R9 → R) (c : Config) (j : L9 → Option R) : L9 → Option R
  | .l0 x0 x1 x2 x3 x4 => cond (decide ((x0 : Int) < (IntKind.i64.wrap (c.frames * 16))))
    (cond (spc23 c x0) (
      cond (!((((sp23 c x0).1.kind : Int) == x2) && ((((sp23 c x0).1.index : Int) == x3) && ((((sp23 c x0).1.port : Int) == x4) && true))))
        (cond (spc10 x1 ((sp23 c x0).1)) (
          cond (!(sp10 x1 ((sp23 c x0).1)))
            (cond (leB (((x1 : List Owner).length + ([(sp23 c x0).1] : List Owner).length) * 24) 140737488355328) (
              j (.l19 x0 ((x1 : List Owner) ++ [(sp23 c x0).1]) x2 x3 x4 ((sp23 c x0).1.kind) ((sp23 c x0).1.index) ((sp23 c x0).1.port))) none)
            (j (.l19 x0 x1 x2 x3 x4 ((sp23 c x0).1.kind) ((sp23 c x0).1.index) ((sp23 c x0).1.port)))) none)
        (j (.l19 x0 x1 x2 x3 x4 ((sp23 c x0).1.kind) ((sp23 c x0).1.index) ((sp23 c x0).1.port)))) none)
    (some (ret x1))
  | .l19 x1 x0 x2 x3 x4 x5 x6 x7 => j (.l0 (IntKind.i64.wrap (x1 + 1)) x0 x5 x6 x7)
noncomputable def ent9 {R : Type} (ret : R9 → R) (c : Config) (j : L9 → Option R) : Option R :=
    j (.l0 0 [] (-1) 0 0)
theorem head9_0 (J : Jmp) (c : Config) (x0 : Int) (x1 : List Owner) (x2 : Int) (x3 : Int) (x4 : Int) : stepAt Pr GH H9 J 0 0 (bodyOf Tryd.f9) (fin Pr H9 Tryd.f9) (st9 c (.l0 x0 x1 x2 x3 x4)) = bod9 to9 c (fun l => J (num9 l) (st9 c l)) (.l0 x0 x1 x2 x3 x4) := by kernel_rfl
theorem head9_19 (J : Jmp) (c : Config) (x1 : Int) (x0 : List Owner) (x2 : Int) (x3 : Int) (x4 : Int) (x5 : Int) (x6 : Int) (x7 : Int) : stepAt Pr GH H9 J 19 0 (bodyOf Tryd.f9) (fin Pr H9 Tryd.f9) (st9 c (.l19 x1 x0 x2 x3 x4 x5 x6 x7)) = bod9 to9 c (fun l => J (num9 l) (st9 c l)) (.l19 x1 x0 x2 x3 x4 x5 x6 x7) := by kernel_rfl
theorem run9 (J : Jmp) (c : Config) : runF Pr GH H9 J GL Tryd.f9 [.agg [.v (.int .i64 c.frames), .v (.int .i64 c.major), .v (.int .i64 c.kernel), .v (.int .i64 c.room), .sl (.sl .sWindow) c.cores, .sl .sPartition c.partitions, .sl .sChannel c.channels]] [] = ent9 to9 c (fun l => J (num9 l) (st9 c l)) := by kernel_rfl
theorem shad9 (c : Config) : ∀ (n : Nat) (l : L9), runL Pr GH H9 Tryd.f9 n (num9 l) (st9 c l) = shad (bod9 to9 c) n l
  | 0, l => by cases l <;> rfl
  | n + 1, l => by
    have ih : (fun l => runL Pr GH H9 Tryd.f9 n (num9 l) (st9 c l)) = shad (bod9 to9 c) n := funext (shad9 c n)
    cases l with
    | l0 x0 x1 x2 x3 x4 => exact (step_eq ..).trans ((head9_0 ..).trans (by rw [ih]; rfl))
    | l19 x1 x0 x2 x3 x4 x5 x6 x7 => exact (step_eq ..).trans ((head9_19 ..).trans (by rw [ih]; rfl))
theorem nat9 (c : Config) (s : L9 → Option R9) (l : L9) : bod9 to9 c (fun l => (s l).map to9) l = (bod9 id c s l).map to9 := by
  cases l <;> simp only [bod9, map_cond, Option.map_some, Option.map_none, id]
theorem ct9 (c : Config) (l : L9) : CT fun j => bod9 id c j l := by
  cases l <;> (dsimp only [bod9]; repeat (first | exact CT.jump _ | exact CT.const _ | apply CT.cond))
/-- ref28.Owners, from a head on. -/
noncomputable def spL9 (c : Config) : L9 → Option R9 := lfp (bod9 id c)
theorem spL9_eq (c : Config) (l : L9) : spL9 c l = bod9 id c (spL9 c) l := lfp_eq (ct9 c) l
/-- ref28.Owners -/
noncomputable def spO9 (c : Config) : Option R9 := ent9 id c (spL9 c)
noncomputable def sp9 (c : Config) : R9 := (spO9 c).getD default
noncomputable def spc9 (c : Config) : Bool := (spO9 c).isSome
theorem oks9 (c : Config) (hc : spc9 c = true) : Okay Pr GL 9 [.agg [.v (.int .i64 c.frames), .v (.int .i64 c.major), .v (.int .i64 c.kernel), .v (.int .i64 c.room), .sl (.sl .sWindow) c.cores, .sl .sPartition c.partitions, .sl .sChannel c.channels]] [] (to9 (sp9 c)) := by
  obtain ⟨n, h⟩ := auto_ok (nat9 c) (fun s => show ent9 to9 c (fun l => (s l).map to9) = (ent9 id c s).map to9 by simp only [ent9, map_cond, Option.map_some, Option.map_none, id]) (ct9 c) (show CT fun j => ent9 id c j by dsimp only [ent9]; repeat (first | exact CT.jump _ | exact CT.const _ | apply CT.cond)) (isSome_getD hc)
  exact okay_of_run (H := H9) GHok G0ok Tryd.func9 rfl (by kernel_rfl) n (by
    rw [run9]
    rw [show (fun l => runL Pr GH H9 Tryd.f9 n (num9 l) (st9 c l)) = shad (bod9 to9 c) n from funext (shad9 c n)]
    exact h)

/-! ### admit.kernel -/
abbrev R67 := Bool
def to67 (r : R67) : Ans := ⟨.v (.bool r), []⟩
inductive L67 where
  | l0 (x0 : Int)
  | l4 (x1 : Int) (x2 : List Region) (x3 : Int) (x0 : Int)
def num67 : L67 → Nat
  | .l0 _ => 0
  | .l4 _ _ _ _ => 4
def H67 : Hint := ⟨fun n => [].any (Nat.beq n), hdAt [(0, ⟨fgt [1, 28, 29, 30, 60, 61, 62, 63] 65 0, []⟩), (4, ⟨fgt [1, 28, 29, 30, 35, 36, 37, 60, 61, 62, 63] 65 0, []⟩)], [], G0, nodp⟩
noncomputable def st67 (c : Config) : L67 → St
  | .l0 x0 => ⟨mkE [(1, .ref 0 0), (28, .sl .sPartition c.partitions), (29, .v (.int .i64 c.partitions.length)), (30, .v (.int .i64 x0))] 65 0, [.cells 26 [.v (.int .i64 c.frames), .v (.int .i64 c.major), .v (.int .i64 c.kernel), .v (.int .i64 c.room), .sl (.sl .sWindow) c.cores, .sl .sPartition c.partitions, .sl .sChannel c.channels]], GL, 0, [], nodp⟩
  | .l4 x1 x2 x3 x0 => ⟨mkE [(1, .ref 0 0), (28, .sl .sPartition c.partitions), (29, .v (.int .i64 c.partitions.length)), (30, .v (.int .i64 x1)), (35, .sl .sRegion x2), (36, .v (.int .i64 x3)), (37, .v (.int .i64 x0))] 65 0, [.cells 26 [.v (.int .i64 c.frames), .v (.int .i64 c.major), .v (.int .i64 c.kernel), .v (.int .i64 c.room), .sl (.sl .sWindow) c.cores, .sl .sPartition c.partitions, .sl .sChannel c.channels]], GL, 0, [], nodp⟩
noncomputable def bod67 {R : Type} (ret : R67 → R) (c : Config) (j : L67 → Option R) : L67 → Option R
  | .l0 x0 => cond (decide ((x0 : Int) < c.partitions.length))
    (cond (inR x0 c.partitions.length) (j (.l4 x0 ((atPartition c.partitions x0.toNat).regions) (((atPartition c.partitions x0.toNat).regions).length) 0)) none)
    (cond (spc87 c) (cond (((sp87 c).2 : Int) == 0)
        (some (ret (decide (((sp87 c).1 : Int) ≤ c.room))))
        (some (ret false))) none)
  | .l4 x1 x2 x3 x0 => cond (decide ((x0 : Int) < x3))
    (cond (inR x0 x2.length) (
      cond (sp86 ((atRegion x2 x0.toNat).frame) ((atRegion x2 x0.toNat).pages) c.kernel c.room)
        (some (ret false))
        (j (.l4 x1 x2 x3 (IntKind.i64.wrap (x0 + 1))))) none)
    (j (.l0 (IntKind.i64.wrap (x1 + 1))))
noncomputable def ent67 {R : Type} (ret : R67 → R) (c : Config) (j : L67 → Option R) : Option R :=
    cond (!(sp55 c.kernel 0 (IntKind.i64.wrap (c.frames - 1))))
    (some (ret false))
    (cond (!(sp55 c.room 1 (IntKind.i64.wrap (c.frames - c.kernel))))
      (some (ret false))
      (j (.l0 0)))
theorem head67_0 (J : Jmp) (c : Config) (x0 : Int) : stepAt Pr GH H67 J 0 0 (bodyOf Tryd.f67) (fin Pr H67 Tryd.f67) (st67 c (.l0 x0)) = bod67 to67 c (fun l => J (num67 l) (st67 c l)) (.l0 x0) := by kernel_rfl
theorem head67_4 (J : Jmp) (c : Config) (x1 : Int) (x2 : List Region) (x3 : Int) (x0 : Int) : stepAt Pr GH H67 J 4 0 (bodyOf Tryd.f67) (fin Pr H67 Tryd.f67) (st67 c (.l4 x1 x2 x3 x0)) = bod67 to67 c (fun l => J (num67 l) (st67 c l)) (.l4 x1 x2 x3 x0) := by kernel_rfl
theorem run67 (J : Jmp) (c : Config) : runF Pr GH H67 J GL Tryd.f67 [.agg [.v (.int .i64 c.frames), .v (.int .i64 c.major), .v (.int .i64 c.kernel), .v (.int .i64 c.room), .sl (.sl .sWindow) c.cores, .sl .sPartition c.partitions, .sl .sChannel c.channels]] [] = ent67 to67 c (fun l => J (num67 l) (st67 c l)) := by kernel_rfl
theorem shad67 (c : Config) : ∀ (n : Nat) (l : L67), runL Pr GH H67 Tryd.f67 n (num67 l) (st67 c l) = shad (bod67 to67 c) n l
  | 0, l => by cases l <;> rfl
  | n + 1, l => by
    have ih : (fun l => runL Pr GH H67 Tryd.f67 n (num67 l) (st67 c l)) = shad (bod67 to67 c) n := funext (shad67 c n)
    cases l with
    | l0 x0 => exact (step_eq ..).trans ((head67_0 ..).trans (by rw [ih]; rfl))
    | l4 x1 x2 x3 x0 => exact (step_eq ..).trans ((head67_4 ..).trans (by rw [ih]; rfl))
theorem nat67 (c : Config) (s : L67 → Option R67) (l : L67) : bod67 to67 c (fun l => (s l).map to67) l = (bod67 id c s l).map to67 := by
  cases l <;> simp only [bod67, map_cond, Option.map_some, Option.map_none, id]
theorem ct67 (c : Config) (l : L67) : CT fun j => bod67 id c j l := by
  cases l <;> (dsimp only [bod67]; repeat (first | exact CT.jump _ | exact CT.const _ | apply CT.cond))
/-- admit.kernel, from a head on. -/
noncomputable def spL67 (c : Config) : L67 → Option R67 := lfp (bod67 id c)
theorem spL67_eq (c : Config) (l : L67) : spL67 c l = bod67 id c (spL67 c) l := lfp_eq (ct67 c) l
/-- admit.kernel -/
noncomputable def spO67 (c : Config) : Option R67 := ent67 id c (spL67 c)
noncomputable def sp67 (c : Config) : R67 := (spO67 c).getD default
noncomputable def spc67 (c : Config) : Bool := (spO67 c).isSome
theorem oks67 (c : Config) (hc : spc67 c = true) : Okay Pr GL 67 [.agg [.v (.int .i64 c.frames), .v (.int .i64 c.major), .v (.int .i64 c.kernel), .v (.int .i64 c.room), .sl (.sl .sWindow) c.cores, .sl .sPartition c.partitions, .sl .sChannel c.channels]] [] (to67 (sp67 c)) := by
  obtain ⟨n, h⟩ := auto_ok (nat67 c) (fun s => show ent67 to67 c (fun l => (s l).map to67) = (ent67 id c s).map to67 by simp only [ent67, map_cond, Option.map_some, Option.map_none, id]) (ct67 c) (show CT fun j => ent67 id c j by dsimp only [ent67]; repeat (first | exact CT.jump _ | exact CT.const _ | apply CT.cond)) (isSome_getD hc)
  exact okay_of_run (H := H67) GHok G0ok Tryd.func67 rfl (by kernel_rfl) n (by
    rw [run67]
    rw [show (fun l => runL Pr GH H67 Tryd.f67 n (num67 l) (st67 c l)) = shad (bod67 to67 c) n from funext (shad67 c n)]
    exact h)

noncomputable def g22 (args : List AV) (hp : List Blk) : Option (Bool × AV × List Blk) :=
  match hp, args with
  | [], [x0] => (rdS .sConfig x0).bind fun a0 => some ((spc22 a0), .v (.bool (sp22 a0)), [])
  | _, _ => none
theorem g22_ok {args : List AV} {hp : List Blk} {b : Bool} {r : AV} {hp' : List Blk} (h : g22 args hp = some (b, r, hp')) (hb : b = true) : FnOk Pr 22 ∧ Okay Pr GL 22 args hp ⟨r, hp'⟩ := by
  unfold g22 at h
  split at h
  · simp only [Option.bind_eq_some_iff] at h
    obtain ⟨a0, h0, h⟩ := h
    cases h; exact ⟨fnok Tryd.func22 (by kernel_rfl) rfl, (oks22 a0 hb).ats (.cons (rdS_V h0) .nil)⟩
  · cases h
noncomputable def g27 (args : List AV) (hp : List Blk) : Option (Bool × AV × List Blk) :=
  match hp, args with
  | [], [x0, x1] => (rdS .sConfig x0).bind fun a0 => (rdL (.i .i64) x1).bind fun a1 => some ((spc27 a0 a1), .tup [.agg [.v (.int .i64 ((sp27 a0 a1).1.kind)), .v (.int .i64 ((sp27 a0 a1).1.index)), .v (.int .i64 ((sp27 a0 a1).1.port))], .v (.int .i64 ((sp27 a0 a1).2))], [])
  | _, _ => none
theorem g27_ok {args : List AV} {hp : List Blk} {b : Bool} {r : AV} {hp' : List Blk} (h : g27 args hp = some (b, r, hp')) (hb : b = true) : FnOk Pr 27 ∧ Okay Pr GL 27 args hp ⟨r, hp'⟩ := by
  unfold g27 at h
  split at h
  · simp only [Option.bind_eq_some_iff] at h
    obtain ⟨a0, h0, a1, h1, h⟩ := h
    cases h; exact ⟨fnok Tryd.func27 (by kernel_rfl) rfl, (oks27 a0 a1 hb).ats (.cons (rdS_V h0) (.cons (rdL_V h1) .nil))⟩
  · cases h
noncomputable def g9 (args : List AV) (hp : List Blk) : Option (Bool × AV × List Blk) :=
  match hp, args with
  | [], [x0] => (rdS .sConfig x0).bind fun a0 => some ((spc9 a0), .own 0, [.arr 28 .sOwner (sp9 a0)])
  | _, _ => none
theorem g9_ok {args : List AV} {hp : List Blk} {b : Bool} {r : AV} {hp' : List Blk} (h : g9 args hp = some (b, r, hp')) (hb : b = true) : FnOk Pr 9 ∧ Okay Pr GL 9 args hp ⟨r, hp'⟩ := by
  unfold g9 at h
  split at h
  · simp only [Option.bind_eq_some_iff] at h
    obtain ⟨a0, h0, h⟩ := h
    cases h; exact ⟨fnok Tryd.func9 (by kernel_rfl) rfl, (oks9 a0 hb).ats (.cons (rdS_V h0) .nil)⟩
  · cases h
noncomputable def g67 (args : List AV) (hp : List Blk) : Option (Bool × AV × List Blk) :=
  match hp, args with
  | [], [x0] => (rdS .sConfig x0).bind fun a0 => some ((spc67 a0), .v (.bool (sp67 a0)), [])
  | _, _ => none
theorem g67_ok {args : List AV} {hp : List Blk} {b : Bool} {r : AV} {hp' : List Blk} (h : g67 args hp = some (b, r, hp')) (hb : b = true) : FnOk Pr 67 ∧ Okay Pr GL 67 args hp ⟨r, hp'⟩ := by
  unfold g67 at h
  split at h
  · simp only [Option.bind_eq_some_iff] at h
    obtain ⟨a0, h0, h⟩ := h
    cases h; exact ⟨fnok Tryd.func67 (by kernel_rfl) rfl, (oks67 a0 hb).ats (.cons (rdS_V h0) .nil)⟩
  · cases h
noncomputable def GI : Gam := fun c args hp => match c with
  | .f f => pick1 22 f (g22 args hp) (pick1 27 f (g27 args hp) (pick1 9 f (g9 args hp) (pick1 67 f (g67 args hp) (GH (.f f) args hp))))
  | .c x => GH (.c x) args hp
theorem GIok : GOk Pr GL GI := by
  intro c args hp b r hp' h hb
  cases c with
  | f f =>
    simp only [GI] at h
    rcases pick1_ok h with ⟨rfl, h⟩ | h
    · exact g22_ok h hb
    rcases pick1_ok h with ⟨rfl, h⟩ | h
    · exact g27_ok h hb
    rcases pick1_ok h with ⟨rfl, h⟩ | h
    · exact g9_ok h hb
    rcases pick1_ok h with ⟨rfl, h⟩ | h
    · exact g67_ok h hb
    exact GHok (.f f) args hp b r hp' h hb
  | c x => exact GHok (.c x) args hp b r hp' h hb
end Go.Proofs.YthnkmndjhedgdaaDoor
