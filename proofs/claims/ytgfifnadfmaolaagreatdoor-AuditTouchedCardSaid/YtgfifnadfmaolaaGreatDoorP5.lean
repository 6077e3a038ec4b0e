/- Shadows of functions (printed by pr2.py off the model's code; the kernel holds each equation to it), and what they answer. -/
import Derived.Test.YtgfifnadfmaolaaGreatDoorP4
namespace Go.Proofs.YtgfifnadfmaolaaGreatDoor
open Go.RowKit
set_option linter.unusedVariables false
set_option linter.unusedSimpArgs false
/-! ### layout.tables -/
abbrev R73 := Int
def to73 (r : R73) : Ans := ⟨.v (.int .i64 r), []⟩
inductive L73 where
  | l0 (x0 : Int) (x1 : Bool) (x2 : Bool) (x3 : Bool) (x4 : Bool) (x5 : Bool) (x6 : Bool) (x7 : Bool) (x8 : Bool) (x9 : Bool) (x10 : Bool) (x11 : Bool) (x12 : Bool) (x13 : Bool) (x14 : Bool) (x15 : Bool) (x16 : Bool)
  | l4 (x17 : Int) (x18 : Int) (x0 : Int) (x1 : Bool) (x2 : Bool) (x3 : Bool) (x4 : Bool) (x5 : Bool) (x6 : Bool) (x7 : Bool) (x8 : Bool) (x9 : Bool) (x10 : Bool) (x11 : Bool) (x12 : Bool) (x13 : Bool) (x14 : Bool) (x15 : Bool) (x16 : Bool) (x19 : Int) (x20 : Int) (x21 : Int) (x22 : Int)
  | l8 (x0 : Int) (x2 : Bool) (x3 : Bool) (x4 : Bool) (x5 : Bool) (x6 : Bool) (x7 : Bool) (x8 : Bool) (x9 : Bool) (x10 : Bool) (x11 : Bool) (x12 : Bool) (x13 : Bool) (x14 : Bool) (x15 : Bool) (x16 : Bool) (x17 : Bool) (x1 : Int)
  | l35 (x0 : Int) (x2 : Bool) (x3 : Bool) (x4 : Bool) (x5 : Bool) (x6 : Bool) (x7 : Bool) (x8 : Bool) (x9 : Bool) (x10 : Bool) (x11 : Bool) (x12 : Bool) (x13 : Bool) (x14 : Bool) (x15 : Bool) (x16 : Bool) (x17 : Bool) (x1 : Int)
def num73 : L73 → Nat
  | .l0 _ _ _ _ _ _ _ _ _ _ _ _ _ _ _ _ _ => 0
  | .l4 _ _ _ _ _ _ _ _ _ _ _ _ _ _ _ _ _ _ _ _ _ _ _ => 4
  | .l8 _ _ _ _ _ _ _ _ _ _ _ _ _ _ _ _ _ _ => 8
  | .l35 _ _ _ _ _ _ _ _ _ _ _ _ _ _ _ _ _ _ => 35
def H73 : Hint := ⟨fun n => [17].any (Nat.beq n), hdAt [(0, ⟨fgt [3, 11, 12, 13] 39 0, []⟩), (4, ⟨fgt [3, 5, 11, 12, 13, 18, 19] 39 0, []⟩), (8, ⟨fgt [7, 30, 31] 39 0, []⟩), (35, ⟨fgt [7, 30, 31] 39 0, []⟩)], [], G0, nodp⟩
noncomputable def st73 (x : Partition) : L73 → St
  | .l0 x0 x1 x2 x3 x4 x5 x6 x7 x8 x9 x10 x11 x12 x13 x14 x15 x16 => ⟨mkE [(3, .ref 0 0), (11, .sl .sRegion x.regions), (12, .v (.int .i64 x.regions.length)), (13, .v (.int .i64 x0))] 39 0, [.cells 209 [.v (.bool x1), .v (.bool x2), .v (.bool x3), .v (.bool x4), .v (.bool x5), .v (.bool x6), .v (.bool x7), .v (.bool x8), .v (.bool x9), .v (.bool x10), .v (.bool x11), .v (.bool x12), .v (.bool x13), .v (.bool x14), .v (.bool x15), .v (.bool x16)]], GL, 0, [], nodp⟩
  | .l4 x17 x18 x0 x1 x2 x3 x4 x5 x6 x7 x8 x9 x10 x11 x12 x13 x14 x15 x16 x19 x20 x21 x22 => ⟨mkE [(3, .ref 0 0), (5, .ref 1 0), (11, .sl .sRegion x.regions), (12, .v (.int .i64 x.regions.length)), (13, .v (.int .i64 x17)), (18, .v (.int .i64 x18)), (19, .v (.int .i64 x0))] 39 0, [.cells 209 [.v (.bool x1), .v (.bool x2), .v (.bool x3), .v (.bool x4), .v (.bool x5), .v (.bool x6), .v (.bool x7), .v (.bool x8), .v (.bool x9), .v (.bool x10), .v (.bool x11), .v (.bool x12), .v (.bool x13), .v (.bool x14), .v (.bool x15), .v (.bool x16)], .cells 118 [.v (.int .i64 x19), .v (.int .i64 x20), .v (.int .i64 x21), .v (.int .i64 x22)]], GL, 0, [], nodp⟩
  | .l8 x0 x2 x3 x4 x5 x6 x7 x8 x9 x10 x11 x12 x13 x14 x15 x16 x17 x1 => ⟨mkE [(7, .v (.int .i64 x0)), (30, .agg [.v (.bool x2), .v (.bool x3), .v (.bool x4), .v (.bool x5), .v (.bool x6), .v (.bool x7), .v (.bool x8), .v (.bool x9), .v (.bool x10), .v (.bool x11), .v (.bool x12), .v (.bool x13), .v (.bool x14), .v (.bool x15), .v (.bool x16), .v (.bool x17)]), (31, .v (.int .i64 x1))] 39 0, [], GL, 0, [], nodp⟩
  | .l35 x0 x2 x3 x4 x5 x6 x7 x8 x9 x10 x11 x12 x13 x14 x15 x16 x17 x1 => ⟨mkE [(7, .v (.int .i64 x0)), (30, .agg [.v (.bool x2), .v (.bool x3), .v (.bool x4), .v (.bool x5), .v (.bool x6), .v (.bool x7), .v (.bool x8), .v (.bool x9), .v (.bool x10), .v (.bool x11), .v (.bool x12), .v (.bool x13), .v (.bool x14), .v (.bool x15), .v (.bool x16), .v (.bool x17)]), (31, .v (.int .i64 x1))] 39 0, [], GL, 0, [], nodp⟩
noncomputable def bod73 {R : Type} (ret : R73 → R) (x : Partition) (j : L73 → Option R) : L73 → Option R
  | .l0 x0 x1 x2 x3 x4 x5 x6 x7 x8 x9 x10 x11 x12 x13 x14 x15 x16 => cond (decide ((x0 : Int) < x.regions.length))
    (cond (inR x0 x.regions.length) (
      j (.l4 x0 ((atRegion x.regions x0.toNat).pages) 0 x1 x2 x3 x4 x5 x6 x7 x8 x9 x10 x11 x12 x13 x14 x15 x16 ((atRegion x.regions x0.toNat).page) ((atRegion x.regions x0.toNat).pages) ((atRegion x.regions x0.toNat).frame) ((atRegion x.regions x0.toNat).rights))) none)
    (j (.l8 0 x1 x2 x3 x4 x5 x6 x7 x8 x9 x10 x11 x12 x13 x14 x15 x16 0))
  | .l4 x17 x18 x0 x1 x2 x3 x4 x5 x6 x7 x8 x9 x10 x11 x12 x13 x14 x15 x16 x19 x20 x21 x22 => cond (decide ((x0 : Int) < x18))
    (cond (inR (bop .quo .i64 (IntKind.i64.wrap (x19 + x0)) 16) 16) (
      j (.l4 x17 x18 (IntKind.i64.wrap (x0 + 1)) (atBool (List.set ([x1, x2, x3, x4, x5, x6, x7, x8, x9, x10, x11, x12, x13, x14, x15, x16] : List Bool) ((bop .quo .i64 (IntKind.i64.wrap (x19 + x0)) 16).toNat) true) 0) (atBool (List.set ([x1, x2, x3, x4, x5, x6, x7, x8, x9, x10, x11, x12, x13, x14, x15, x16] : List Bool) ((bop .quo .i64 (IntKind.i64.wrap (x19 + x0)) 16).toNat) true) 1) (atBool (List.set ([x1, x2, x3, x4, x5, x6, x7, x8, x9, x10, x11, x12, x13, x14, x15, x16] : List Bool) ((bop .quo .i64 (IntKind.i64.wrap (x19 + x0)) 16).toNat) true) 2) (atBool (List.set ([x1, x2, x3, x4, x5, x6, x7, x8, x9, x10, x11, x12, x13, x14, x15, x16] : List Bool) ((bop .quo .i64 (IntKind.i64.wrap (x19 + x0)) 16).toNat) true) 3) (atBool (List.set ([x1, x2, x3, x4, x5, x6, x7, x8, x9, x10, x11, x12, x13, x14, x15, x16] : List Bool) ((bop .quo .i64 (IntKind.i64.wrap (x19 + x0)) 16).toNat) true) 4) (atBool (List.set ([x1, x2, x3, x4, x5, x6, x7, x8, x9, x10, x11, x12, x13, x14, x15, x16] : List Bool) ((bop .quo .i64 (IntKind.i64.wrap (x19 + x0)) 16).toNat) true) 5) (atBool (List.set ([x1, x2, x3, x4, x5, x6, x7, x8, x9, x10, x11, x12, x13, x14, x15, x16] : List Bool) ((bop .quo .i64 (IntKind.i64.wrap (x19 + x0)) 16).toNat) true) 6) (atBool (List.set ([x1, x2, x3, x4, x5, x6, x7, x8, x9, x10, x11, x12, x13, x14, x15, x16] : List Bool) ((bop .quo .i64 (IntKind.i64.wrap (x19 + x0)) 16).toNat) true) 7) (atBool (List.set ([x1, x2, x3, x4, x5, x6, x7, x8, x9, x10, x11, x12, x13, x14, x15, x16] : List Bool) ((bop .quo .i64 (IntKind.i64.wrap (x19 + x0)) 16).toNat) true) 8) (atBool (List.set ([x1, x2, x3, x4, x5, x6, x7, x8, x9, x10, x11, x12, x13, x14, x15, x16] : List Bool) ((bop .quo .i64 (IntKind.i64.wrap (x19 + x0)) 16).toNat) true) 9) (atBool (List.set ([x1, x2, x3, x4, x5, x6, x7, x8, x9, x10, x11, x12, x13, x14, x15, x16] : List Bool) ((bop .quo .i64 (IntKind.i64.wrap (x19 + x0)) 16).toNat) true) 10) (atBool (List.set ([x1, x2, x3, x4, x5, x6, x7, x8, x9, x10, x11, x12, x13, x14, x15, x16] : List Bool) ((bop .quo .i64 (IntKind.i64.wrap (x19 + x0)) 16).toNat) true) 11) (atBool (List.set ([x1, x2, x3, x4, x5, x6, x7, x8, x9, x10, x11, x12, x13, x14, x15, x16] : List Bool) ((bop .quo .i64 (IntKind.i64.wrap (x19 + x0)) 16).toNat) true) 12) (atBool (List.set ([x1, x2, x3, x4, x5, x6, x7, x8, x9, x10, x11, x12, x13, x14, x15, x16] : List Bool) ((bop .quo .i64 (IntKind.i64.wrap (x19 + x0)) 16).toNat) true) 13) (atBool (List.set ([x1, x2, x3, x4, x5, x6, x7, x8, x9, x10, x11, x12, x13, x14, x15, x16] : List Bool) ((bop .quo .i64 (IntKind.i64.wrap (x19 + x0)) 16).toNat) true) 14) (atBool (List.set ([x1, x2, x3, x4, x5, x6, x7, x8, x9, x10, x11, x12, x13, x14, x15, x16] : List Bool) ((bop .quo .i64 (IntKind.i64.wrap (x19 + x0)) 16).toNat) true) 15) x19 x20 x21 x22)) none)
    (j (.l0 (IntKind.i64.wrap (x17 + 1)) x1 x2 x3 x4 x5 x6 x7 x8 x9 x10 x11 x12 x13 x14 x15 x16))
  | .l8 x0 x2 x3 x4 x5 x6 x7 x8 x9 x10 x11 x12 x13 x14 x15 x16 x17 x1 => cond (decide ((x1 : Int) < 16))
    (cond (inR x1 16) (
      cond (atBool ([x2, x3, x4, x5, x6, x7, x8, x9, x10, x11, x12, x13, x14, x15, x16, x17] : List Bool) x1.toNat)
        (j (.l35 (IntKind.i64.wrap (x0 + 1)) x2 x3 x4 x5 x6 x7 x8 x9 x10 x11 x12 x13 x14 x15 x16 x17 x1))
        (j (.l35 x0 x2 x3 x4 x5 x6 x7 x8 x9 x10 x11 x12 x13 x14 x15 x16 x17 x1))) none)
    (some (ret x0))
  | .l35 x0 x2 x3 x4 x5 x6 x7 x8 x9 x10 x11 x12 x13 x14 x15 x16 x17 x1 => j (.l8 x0 x2 x3 x4 x5 x6 x7 x8 x9 x10 x11 x12 x13 x14 x15 x16 x17 (IntKind.i64.wrap (x1 + 1)))
noncomputable def ent73 {R : Type} (ret : R73 → R) (x : Partition) (j : L73 → Option R) : Option R :=
    j (.l0 0 false false false false false false false false false false false false false false false false)
theorem head73_0 (J : Jmp) (x : Partition) (x0 : Int) (x1 : Bool) (x2 : Bool) (x3 : Bool) (x4 : Bool) (x5 : Bool) (x6 : Bool) (x7 : Bool) (x8 : Bool) (x9 : Bool) (x10 : Bool) (x11 : Bool) (x12 : Bool) (x13 : Bool) (x14 : Bool) (x15 : Bool) (x16 : Bool) : stepAt Pr GE H73 J 0 0 (bodyOf Tryz.f73) (fin Pr H73 Tryz.f73) (st73 x (.l0 x0 x1 x2 x3 x4 x5 x6 x7 x8 x9 x10 x11 x12 x13 x14 x15 x16)) = bod73 to73 x (fun l => J (num73 l) (st73 x l)) (.l0 x0 x1 x2 x3 x4 x5 x6 x7 x8 x9 x10 x11 x12 x13 x14 x15 x16) := by kernel_rfl
theorem head73_4 (J : Jmp) (x : Partition) (x17 : Int) (x18 : Int) (x0 : Int) (x1 : Bool) (x2 : Bool) (x3 : Bool) (x4 : Bool) (x5 : Bool) (x6 : Bool) (x7 : Bool) (x8 : Bool) (x9 : Bool) (x10 : Bool) (x11 : Bool) (x12 : Bool) (x13 : Bool) (x14 : Bool) (x15 : Bool) (x16 : Bool) (x19 : Int) (x20 : Int) (x21 : Int) (x22 : Int) : stepAt Pr GE H73 J 4 0 (bodyOf Tryz.f73) (fin Pr H73 Tryz.f73) (st73 x (.l4 x17 x18 x0 x1 x2 x3 x4 x5 x6 x7 x8 x9 x10 x11 x12 x13 x14 x15 x16 x19 x20 x21 x22)) = bod73 to73 x (fun l => J (num73 l) (st73 x l)) (.l4 x17 x18 x0 x1 x2 x3 x4 x5 x6 x7 x8 x9 x10 x11 x12 x13 x14 x15 x16 x19 x20 x21 x22) := by kernel_rfl
theorem head73_8 (J : Jmp) (x : Partition) (x0 : Int) (x2 : Bool) (x3 : Bool) (x4 : Bool) (x5 : Bool) (x6 : Bool) (x7 : Bool) (x8 : Bool) (x9 : Bool) (x10 : Bool) (x11 : Bool) (x12 : Bool) (x13 : Bool) (x14 : Bool) (x15 : Bool) (x16 : Bool) (x17 : Bool) (x1 : Int) : stepAt Pr GE H73 J 8 0 (bodyOf Tryz.f73) (fin Pr H73 Tryz.f73) (st73 x (.l8 x0 x2 x3 x4 x5 x6 x7 x8 x9 x10 x11 x12 x13 x14 x15 x16 x17 x1)) = bod73 to73 x (fun l => J (num73 l) (st73 x l)) (.l8 x0 x2 x3 x4 x5 x6 x7 x8 x9 x10 x11 x12 x13 x14 x15 x16 x17 x1) := by kernel_rfl
theorem head73_35 (J : Jmp) (x : Partition) (x0 : Int) (x2 : Bool) (x3 : Bool) (x4 : Bool) (x5 : Bool) (x6 : Bool) (x7 : Bool) (x8 : Bool) (x9 : Bool) (x10 : Bool) (x11 : Bool) (x12 : Bool) (x13 : Bool) (x14 : Bool) (x15 : Bool) (x16 : Bool) (x17 : Bool) (x1 : Int) : stepAt Pr GE H73 J 35 0 (bodyOf Tryz.f73) (fin Pr H73 Tryz.f73) (st73 x (.l35 x0 x2 x3 x4 x5 x6 x7 x8 x9 x10 x11 x12 x13 x14 x15 x16 x17 x1)) = bod73 to73 x (fun l => J (num73 l) (st73 x l)) (.l35 x0 x2 x3 x4 x5 x6 x7 x8 x9 x10 x11 x12 x13 x14 x15 x16 x17 x1) := by kernel_rfl
theorem run73 (J : Jmp) (x : Partition) : runF Pr GE H73 J GL Tryz.f73 [.agg [.v (.string x.name), .v (.int .i64 x.entry), .v (.int .i64 x.action), .v (.int .i64 x.restarts), .v (.int .i64 x.inputs), .v (.int .i64 x.outputs), .sl .sRegion x.regions, .sl .sPort x.ports]] [] = ent73 to73 x (fun l => J (num73 l) (st73 x l)) := by kernel_rfl
theorem shad73 (x : Partition) : ∀ (n : Nat) (l : L73), runL Pr GE H73 Tryz.f73 n (num73 l) (st73 x l) = shad (bod73 to73 x) n l
  | 0, l => by cases l <;> rfl
  | n + 1, l => by
    have ih : (fun l => runL Pr GE H73 Tryz.f73 n (num73 l) (st73 x l)) = shad (bod73 to73 x) n := funext (shad73 x n)
    cases l with
    | l0 x0 x1 x2 x3 x4 x5 x6 x7 x8 x9 x10 x11 x12 x13 x14 x15 x16 => exact (step_eq ..).trans ((head73_0 ..).trans (by rw [ih]; rfl))
    | l4 x17 x18 x0 x1 x2 x3 x4 x5 x6 x7 x8 x9 x10 x11 x12 x13 x14 x15 x16 x19 x20 x21 x22 => exact (step_eq ..).trans ((head73_4 ..).trans (by rw [ih]; rfl))
    | l8 x0 x2 x3 x4 x5 x6 x7 x8 x9 x10 x11 x12 x13 x14 x15 x16 x17 x1 => exact (step_eq ..).trans ((head73_8 ..).trans (by rw [ih]; rfl))
    | l35 x0 x2 x3 x4 x5 x6 x7 x8 x9 x10 x11 x12 x13 x14 x15 x16 x17 x1 => exact (step_eq ..).trans ((head73_35 ..).trans (by rw [ih]; rfl))
theorem nat73 (x : Partition) (s : L73 → Option R73) (l : L73) : bod73 to73 x (fun l => (s l).map to73) l = (bod73 id x s l).map to73 := by
  cases l <;> simp only [bod73, map_cond, Option.map_some, Option.map_none, id]
theorem ct73 (x : Partition) (l : L73) : CT fun j => bod73 id x j l := by
  cases l <;> (dsimp only [bod73]; repeat (first | exact CT.jump _ | exact CT.const _ | apply CT.cond))
noncomputable def spL73 (x : Partition) : L73 → Option R73 := lfp (bod73 id x)
theorem spL73_eq (x : Partition) (l : L73) : spL73 x l = bod73 id x (spL73 x) l := lfp_eq (ct73 x) l
noncomputable def spO73 (x : Partition) : Option R73 := ent73 id x (spL73 x)
noncomputable def sp73 (x : Partition) : R73 := (spO73 x).getD default
noncomputable def spc73 (x : Partition) : Bool := (spO73 x).isSome
theorem oks73 (x : Partition) (hc : spc73 x = true) : Okay Pr GL 73 [.agg [.v (.string x.name), .v (.int .i64 x.entry), .v (.int .i64 x.action), .v (.int .i64 x.restarts), .v (.int .i64 x.inputs), .v (.int .i64 x.outputs), .sl .sRegion x.regions, .sl .sPort x.ports]] [] (to73 (sp73 x)) := by
  obtain ⟨n, h⟩ := auto_ok (nat73 x) (fun s => show ent73 to73 x (fun l => (s l).map to73) = (ent73 id x s).map to73 by simp only [ent73, map_cond, Option.map_some, Option.map_none, id]) (ct73 x) (show CT fun j => ent73 id x j by dsimp only [ent73]; repeat (first | exact CT.jump _ | exact CT.const _ | apply CT.cond)) (isSome_getD hc)
  exact okay_of_run (H := H73) GEok G0ok Tryz.func73 rfl (by kernel_rfl) n (by
    rw [run73]
    rw [show (fun l => runL Pr GE H73 Tryz.f73 n (num73 l) (st73 x l)) = shad (bod73 to73 x) n from funext (shad73 x n)]
    exact h)

/-! ### layout.counter -/
abbrev R69 := Int
def to69 (r : R69) : Ans := ⟨.fn (.func 115) [] [.ref 0 0], [.cells 3 [.v (.int .i64 r)]]⟩
def H69 : Hint := ⟨fun _ => false, fun _ => ⟨[], []⟩, [], G0, nodp⟩
noncomputable def ent69 {R : Type} (ret : R69 → R) (at_0 : Int) : Option R :=
    some (ret at_0)
theorem run69 (J : Jmp) (at_0 : Int) : runF Pr GE H69 J GL Tryz.f69 [.v (.int .i64 at_0)] [] = ent69 to69 at_0 := by kernel_rfl
noncomputable def spO69 (at_0 : Int) : Option R69 := ent69 id at_0
noncomputable def sp69 (at_0 : Int) : R69 := (spO69 at_0).getD default
theorem some69 (at_0 : Int) : spO69 at_0 = some (sp69 at_0) := isSome_getD (show (spO69 at_0).isSome = true by simp only [spO69, ent69, isSome_cond, Option.isSome_some, cond_self])
theorem oks69 (at_0 : Int) : Okay Pr GL 69 [.v (.int .i64 at_0)] [] (to69 (sp69 at_0)) :=
  okay_of_run (H := H69) GEok G0ok Tryz.func69 rfl (by kernel_rfl) 0 ((run69 (runL Pr GE H69 Tryz.f69 0) at_0).trans (auto_ok0 (show ent69 to69 at_0 = (ent69 id at_0).map to69 by simp only [ent69, map_cond, Option.map_some, Option.map_none, id]) (some69 at_0)))

/-! ### (*mem.Memory).Frames -/
abbrev R50 := Int
def to50 (r : R50) : Ans := ⟨.v (.int .i64 r), []⟩
def H50 : Hint := ⟨fun _ => false, fun _ => ⟨[], []⟩, [], G0, nodp⟩
noncomputable def ent50 {R : Type} (ret : R50 → R) (m : (Option MemMemory)) : Option R :=
    cond m.isNone
    (some (ret 0))
    (cond m.isSome (some (ret (bop .quo .i64 (((m.getD default).words).length) 16))) none)
theorem run50 (J : Jmp) (m : (Option MemMemory)) : runF Pr GE H50 J GL Tryz.f50 [.op .sMemMemory m] [] = ent50 to50 m := by kernel_rfl
noncomputable def spO50 (m : (Option MemMemory)) : Option R50 := ent50 id m
noncomputable def sp50 (m : (Option MemMemory)) : R50 := (spO50 m).getD default
noncomputable def spc50 (m : (Option MemMemory)) : Bool := (spO50 m).isSome
theorem oks50 (m : (Option MemMemory)) (hc : spc50 m = true) : Okay Pr GL 50 [.op .sMemMemory m] [] (to50 (sp50 m)) :=
  okay_of_run (H := H50) GEok G0ok Tryz.func50 rfl (by kernel_rfl) 0 ((run50 (runL Pr GE H50 Tryz.f50 0) m).trans (auto_ok0 (show ent50 to50 m = (ent50 id m).map to50 by simp only [ent50, map_cond, Option.map_some, Option.map_none, id]) (isSome_getD hc)))

noncomputable def g73 (args : List AV) (hp : List Blk) : Option (Bool × AV × List Blk) :=
  match hp, args with
  | [], [x0] => (rdS .sPartition x0).bind fun a0 => some ((spc73 a0), .v (.int .i64 (sp73 a0)), [])
  | _, _ => none
theorem g73_ok {args : List AV} {hp : List Blk} {b : Bool} {r : AV} {hp' : List Blk} (h : g73 args hp = some (b, r, hp')) (hb : b = true) : FnOk Pr 73 ∧ Okay Pr GL 73 args hp ⟨r, hp'⟩ := by
  unfold g73 at h
  split at h
  · simp only [Option.bind_eq_some_iff] at h
    obtain ⟨a0, h0, h⟩ := h
    cases h; exact ⟨fnok Tryz.func73 (by kernel_rfl) rfl, (oks73 a0 hb).ats (.cons (rdS_V h0) .nil)⟩
  · cases h
noncomputable def g69 (args : List AV) (hp : List Blk) : Option (Bool × AV × List Blk) :=
  match hp, args with
  | [], [x0] => (rdL (.i .i64) x0).bind fun a0 => some (true, .fn (.func 115) [] [.ref 0 0], [.cells 3 [.v (.int .i64 (sp69 a0))]])
  | _, _ => none
theorem g69_ok {args : List AV} {hp : List Blk} {b : Bool} {r : AV} {hp' : List Blk} (h : g69 args hp = some (b, r, hp')) (hb : b = true) : FnOk Pr 69 ∧ Okay Pr GL 69 args hp ⟨r, hp'⟩ := by
  unfold g69 at h
  split at h
  · simp only [Option.bind_eq_some_iff] at h
    obtain ⟨a0, h0, h⟩ := h
    cases h; exact ⟨fnok Tryz.func69 (by kernel_rfl) rfl, (oks69 a0).ats (.cons (rdL_V h0) .nil)⟩
  · cases h
noncomputable def g50 (args : List AV) (hp : List Blk) : Option (Bool × AV × List Blk) :=
  match hp, args with
  | [], [x0] => (rdL (.p .sMemMemory) x0).bind fun a0 => some ((spc50 a0), .v (.int .i64 (sp50 a0)), [])
  | _, _ => none
theorem g50_ok {args : List AV} {hp : List Blk} {b : Bool} {r : AV} {hp' : List Blk} (h : g50 args hp = some (b, r, hp')) (hb : b = true) : FnOk Pr 50 ∧ Okay Pr GL 50 args hp ⟨r, hp'⟩ := by
  unfold g50 at h
  split at h
  · simp only [Option.bind_eq_some_iff] at h
    obtain ⟨a0, h0, h⟩ := h
    cases h; exact ⟨fnok Tryz.func50 (by kernel_rfl) rfl, (oks50 a0 hb).ats (.cons (rdL_V h0) .nil)⟩
  · cases h
noncomputable def sized (x : Clo) : Int := match x with
  | .c145 c0 => sp145 c0
  | .c146 c0 => sp146 c0
  | _ => default
noncomputable def sizedc (x : Clo) : Bool := match x with
  | .c145 c0 => true
  | .c146 c0 => true
  | _ => false
noncomputable def gsized (x : Clo) (args : List AV) (hp : List Blk) : Option (Bool × AV × List Blk) :=
  match hp, args with
  | [], [] => some (sizedc x, .v (.int .i64 (sized x)), [])
  | _, _ => none
theorem gsized_ok {x : Clo} {args : List AV} {hp : List Blk} {b : Bool} {r : AV} {hp' : List Blk} (h : gsized x args hp = some (b, r, hp')) (hb : b = true) : OkC Pr GL (.c x) args hp ⟨r, hp'⟩ := by
  unfold gsized at h
  split at h
  · cases h
    cases x with
    | none => cases hb
    | c130 c0 => cases hb
    | c133 c0 => cases hb
    | c134 c0 => cases hb
    | c135 c0 => cases hb
    | c136 c0 => cases hb
    | c137 c0 c1 => cases hb
    | c139 c0 c1 => cases hb
    | c141 c0 c1 => cases hb
    | c143 c0 => cases hb
    | c145 c0 => exact ⟨145, _, by kernel_rfl, fnok Tryz.func145 (by kernel_rfl) rfl, oks145 c0⟩
    | c146 c0 => exact ⟨146, _, by kernel_rfl, fnok Tryz.func146 (by kernel_rfl) rfl, oks146 c0⟩
  · cases h
noncomputable def gclosized (x : Clo) (args : List AV) (hp : List Blk) : Option (Bool × AV × List Blk) :=
  match args with
  | [] => gsized x [] hp
  | _ => none
theorem gclosized_ok {x : Clo} {args : List AV} {hp : List Blk} {b : Bool} {r : AV} {hp' : List Blk} (h : gclosized x args hp = some (b, r, hp')) (hb : b = true) : OkC Pr GL (.c x) args hp ⟨r, hp'⟩ := by
  unfold gclosized at h
  split at h
  · exact gsized_ok h hb
  · cases h
noncomputable def GF : Gam := fun c args hp => match c with
  | .f f => pick1 73 f (g73 args hp) (pick1 69 f (g69 args hp) (pick1 50 f (g50 args hp) (GE (.f f) args hp)))
  | .c x => gclosized x args hp
theorem GFok : GOk Pr GL GF := by
  intro c args hp b r hp' h hb
  cases c with
  | f f =>
    simp only [GF] at h
    rcases pick1_ok h with ⟨rfl, h⟩ | h
    · exact g73_ok h hb
    rcases pick1_ok h with ⟨rfl, h⟩ | h
    · exact g69_ok h hb
    rcases pick1_ok h with ⟨rfl, h⟩ | h
    · exact g50_ok h hb
    exact GEok (.f f) args hp b r hp' h hb
  | c x => exact gclosized_ok h hb
end Go.Proofs.YtgfifnadfmaolaaGreatDoor
