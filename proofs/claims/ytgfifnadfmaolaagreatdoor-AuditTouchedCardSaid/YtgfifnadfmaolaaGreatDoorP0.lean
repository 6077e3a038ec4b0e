/- Shadows of functions (printed by pr2.py off the model's code; the kernel holds each equation to it), and what they answer. -/
import Derived.Test.YtgfifnadfmaolaaGreatDoorG
namespace Go.Proofs.YtgfifnadfmaolaaGreatDoor
open Go.RowKit
set_option linter.unusedVariables false
set_option linter.unusedSimpArgs false
/-! ### ref28.among -/
abbrev R23 := Bool
def to23 (r : R23) : Ans := ⟨.v (.bool r), []⟩
inductive L23 where
  | l0 (x0 : Int)
def num23 : L23 → Nat
  | .l0 _ => 0
def H23 : Hint := ⟨fun n => [].any (Nat.beq n), hdAt [(0, ⟨fgt [0, 3, 5] 18 0, []⟩)], [], G0, nodp⟩
noncomputable def st23 (l_0 : (List Owner)) (o : Owner) : L23 → St
  | .l0 x0 => ⟨mkE [(0, .sl .sOwner l_0), (3, .ref 0 0), (5, .v (.int .i64 x0))] 18 0, [.cells 42 [.v (.int .i64 o.kind), .v (.int .i64 o.index), .v (.int .i64 o.port)]], GL, 0, [], nodp⟩
noncomputable def bod23 {R : Type} (ret : R23 → R) (l_0 : (List Owner)) (o : Owner) (j : L23 → Option R) : L23 → Option R
  | .l0 x0 => cond (decide ((x0 : Int) < l_0.length))
    (cond (inR x0 l_0.length) (
      cond ((((atOwner l_0 x0.toNat).kind : Int) == o.kind) && ((((atOwner l_0 x0.toNat).index : Int) == o.index) && ((((atOwner l_0 x0.toNat).port : Int) == o.port) && true)))
        (some (ret true))
        (j (.l0 (IntKind.i64.wrap (x0 + 1))))) none)
    (some (ret false))
noncomputable def ent23 {R : Type} (ret : R23 → R) (l_0 : (List Owner)) (o : Owner) (j : L23 → Option R) : Option R :=
    j (.l0 0)
theorem head23_0 (J : Jmp) (l_0 : (List Owner)) (o : Owner) (x0 : Int) : stepAt Pr G0 H23 J 0 0 (bodyOf Tryz.f23) (fin Pr H23 Tryz.f23) (st23 l_0 o (.l0 x0)) = bod23 to23 l_0 o (fun l => J (num23 l) (st23 l_0 o l)) (.l0 x0) := by kernel_rfl
theorem run23 (J : Jmp) (l_0 : (List Owner)) (o : Owner) : runF Pr G0 H23 J GL Tryz.f23 [.sl .sOwner l_0, .agg [.v (.int .i64 o.kind), .v (.int .i64 o.index), .v (.int .i64 o.port)]] [] = ent23 to23 l_0 o (fun l => J (num23 l) (st23 l_0 o l)) := by kernel_rfl
theorem shad23 (l_0 : (List Owner)) (o : Owner) : ∀ (n : Nat) (l : L23), runL Pr G0 H23 Tryz.f23 n (num23 l) (st23 l_0 o l) = shad (bod23 to23 l_0 o) n l
  | 0, l => by cases l <;> rfl
  | n + 1, l => by
    have ih : (fun l => runL Pr G0 H23 Tryz.f23 n (num23 l) (st23 l_0 o l)) = shad (bod23 to23 l_0 o) n := funext (shad23 l_0 o n)
    cases l with
    | l0 x0 => exact (step_eq ..).trans ((head23_0 ..).trans (by rw [ih]; rfl))
theorem nat23 (l_0 : (List Owner)) (o : Owner) (s : L23 → Option R23) (l : L23) : bod23 to23 l_0 o (fun l => (s l).map to23) l = (bod23 id l_0 o s l).map to23 := by
  cases l <;> simp only [bod23, map_cond, Option.map_some, Option.map_none, id]
theorem ct23 (l_0 : (List Owner)) (o : Owner) (l : L23) : CT fun j => bod23 id l_0 o j l := by
  cases l <;> (dsimp only [bod23]; repeat (first | exact CT.jump _ | exact CT.const _ | apply CT.cond))
noncomputable def spL23 (l_0 : (List Owner)) (o : Owner) : L23 → Option R23 := lfp (bod23 id l_0 o)
theorem spL23_eq (l_0 : (List Owner)) (o : Owner) (l : L23) : spL23 l_0 o l = bod23 id l_0 o (spL23 l_0 o) l := lfp_eq (ct23 l_0 o) l
noncomputable def spO23 (l_0 : (List Owner)) (o : Owner) : Option R23 := ent23 id l_0 o (spL23 l_0 o)
noncomputable def sp23 (l_0 : (List Owner)) (o : Owner) : R23 := (spO23 l_0 o).getD default
noncomputable def spc23 (l_0 : (List Owner)) (o : Owner) : Bool := (spO23 l_0 o).isSome
theorem oks23 (l_0 : (List Owner)) (o : Owner) (hc : spc23 l_0 o = true) : Okay Pr GL 23 [.sl .sOwner l_0, .agg [.v (.int .i64 o.kind), .v (.int .i64 o.index), .v (.int .i64 o.port)]] [] (to23 (sp23 l_0 o)) := by
  obtain ⟨n, h⟩ := auto_ok (nat23 l_0 o) (fun s => show ent23 to23 l_0 o (fun l => (s l).map to23) = (ent23 id l_0 o s).map to23 by simp only [ent23, map_cond, Option.map_some, Option.map_none, id]) (ct23 l_0 o) (show CT fun j => ent23 id l_0 o j by dsimp only [ent23]; repeat (first | exact CT.jump _ | exact CT.const _ | apply CT.cond)) (isSome_getD hc)
  exact okay_of_run (H := H23) G0ok G0ok Tryz.func23 rfl (by kernel_rfl) n (by
    rw [run23]
    rw [show (fun l => runL Pr G0 H23 Tryz.f23 n (num23 l) (st23 l_0 o l)) = shad (bod23 to23 l_0 o) n from funext (shad23 l_0 o n)]
    exact h)

/-! ### ref12.samePartition -/
abbrev R42 := Bool
def to42 (r : R42) : Ans := ⟨.v (.bool r), []⟩
inductive L42 where
  | l0 (x0 : Int)
  | l4 (x0 : Int)
def num42 : L42 → Nat
  | .l0 _ => 0
  | .l4 _ => 4
def H42 : Hint := ⟨fun n => [].any (Nat.beq n), hdAt [(0, ⟨fgt [2, 3, 5] 99 0, []⟩), (4, ⟨fgt [2, 3, 6] 99 0, []⟩)], [], G0, nodp⟩
noncomputable def st42 (a : Partition) (b : Partition) : L42 → St
  | .l0 x0 => ⟨mkE [(2, .ref 0 0), (3, .ref 1 0), (5, .v (.int .i64 x0))] 99 0, [.cells 70 [.v (.string a.name), .v (.int .i64 a.entry), .v (.int .i64 a.action), .v (.int .i64 a.restarts), .v (.int .i64 a.inputs), .v (.int .i64 a.outputs), .sl .sRegion a.regions, .sl .sPort a.ports], .cells 70 [.v (.string b.name), .v (.int .i64 b.entry), .v (.int .i64 b.action), .v (.int .i64 b.restarts), .v (.int .i64 b.inputs), .v (.int .i64 b.outputs), .sl .sRegion b.regions, .sl .sPort b.ports]], GL, 0, [], nodp⟩
  | .l4 x0 => ⟨mkE [(2, .ref 0 0), (3, .ref 1 0), (6, .v (.int .i64 x0))] 99 0, [.cells 70 [.v (.string a.name), .v (.int .i64 a.entry), .v (.int .i64 a.action), .v (.int .i64 a.restarts), .v (.int .i64 a.inputs), .v (.int .i64 a.outputs), .sl .sRegion a.regions, .sl .sPort a.ports], .cells 70 [.v (.string b.name), .v (.int .i64 b.entry), .v (.int .i64 b.action), .v (.int .i64 b.restarts), .v (.int .i64 b.inputs), .v (.int .i64 b.outputs), .sl .sRegion b.regions, .sl .sPort b.ports]], GL, 0, [], nodp⟩
noncomputable def bod42 {R : Type} (ret : R42 → R) (a : Partition) (b : Partition) (j : L42 → Option R) : L42 → Option R
  | .l0 x0 => cond (decide ((x0 : Int) < a.regions.length))
    (cond (inR x0 a.regions.length) (
      cond (inR x0 b.regions.length) (
        cond (!((((atRegion a.regions x0.toNat).page : Int) == ((atRegion b.regions x0.toNat).page)) && ((((atRegion a.regions x0.toNat).pages : Int) == ((atRegion b.regions x0.toNat).pages)) && ((((atRegion a.regions x0.toNat).frame : Int) == ((atRegion b.regions x0.toNat).frame)) && ((((atRegion a.regions x0.toNat).rights : Int) == ((atRegion b.regions x0.toNat).rights)) && true)))))
          (some (ret false))
          (j (.l0 (IntKind.i64.wrap (x0 + 1))))) none) none)
    (j (.l4 0))
  | .l4 x0 => cond (decide ((x0 : Int) < a.ports.length))
    (cond (inR x0 a.ports.length) (
      cond (inR x0 b.ports.length) (
        cond (!((((atPort a.ports x0.toNat).channel : Int) == ((atPort b.ports x0.toNat).channel)) && ((((atPort a.ports x0.toNat).source) == ((atPort b.ports x0.toNat).source)) && true)))
          (some (ret false))
          (j (.l4 (IntKind.i64.wrap (x0 + 1))))) none) none)
    (some (ret true))
noncomputable def ent42 {R : Type} (ret : R42 → R) (a : Partition) (b : Partition) (j : L42 → Option R) : Option R :=
    cond (!(a.name.toList == b.name.toList))
    (some (ret false))
    (cond (!((a.entry : Int) == b.entry))
      (some (ret false))
      (cond (!((a.action : Int) == b.action))
        (some (ret false))
        (cond (!((a.restarts : Int) == b.restarts))
          (some (ret false))
          (cond (!((a.inputs : Int) == b.inputs))
            (some (ret false))
            (cond (!((a.outputs : Int) == b.outputs))
              (some (ret false))
              (cond (!((a.regions.length : Int) == b.regions.length))
                (some (ret false))
                (cond (!((a.ports.length : Int) == b.ports.length))
                  (some (ret false))
                  (j (.l0 0)))))))))
theorem head42_0 (J : Jmp) (a : Partition) (b : Partition) (x0 : Int) : stepAt Pr G0 H42 J 0 0 (bodyOf Tryz.f42) (fin Pr H42 Tryz.f42) (st42 a b (.l0 x0)) = bod42 to42 a b (fun l => J (num42 l) (st42 a b l)) (.l0 x0) := by kernel_rfl
theorem head42_4 (J : Jmp) (a : Partition) (b : Partition) (x0 : Int) : stepAt Pr G0 H42 J 4 0 (bodyOf Tryz.f42) (fin Pr H42 Tryz.f42) (st42 a b (.l4 x0)) = bod42 to42 a b (fun l => J (num42 l) (st42 a b l)) (.l4 x0) := by kernel_rfl
theorem run42 (J : Jmp) (a : Partition) (b : Partition) : runF Pr G0 H42 J GL Tryz.f42 [.agg [.v (.string a.name), .v (.int .i64 a.entry), .v (.int .i64 a.action), .v (.int .i64 a.restarts), .v (.int .i64 a.inputs), .v (.int .i64 a.outputs), .sl .sRegion a.regions, .sl .sPort a.ports], .agg [.v (.string b.name), .v (.int .i64 b.entry), .v (.int .i64 b.action), .v (.int .i64 b.restarts), .v (.int .i64 b.inputs), .v (.int .i64 b.outputs), .sl .sRegion b.regions, .sl .sPort b.ports]] [] = ent42 to42 a b (fun l => J (num42 l) (st42 a b l)) := by kernel_rfl
theorem shad42 (a : Partition) (b : Partition) : ∀ (n : Nat) (l : L42), runL Pr G0 H42 Tryz.f42 n (num42 l) (st42 a b l) = shad (bod42 to42 a b) n l
  | 0, l => by cases l <;> rfl
  | n + 1, l => by
    have ih : (fun l => runL Pr G0 H42 Tryz.f42 n (num42 l) (st42 a b l)) = shad (bod42 to42 a b) n := funext (shad42 a b n)
    cases l with
    | l0 x0 => exact (step_eq ..).trans ((head42_0 ..).trans (by rw [ih]; rfl))
    | l4 x0 => exact (step_eq ..).trans ((head42_4 ..).trans (by rw [ih]; rfl))
theorem nat42 (a : Partition) (b : Partition) (s : L42 → Option R42) (l : L42) : bod42 to42 a b (fun l => (s l).map to42) l = (bod42 id a b s l).map to42 := by
  cases l <;> simp only [bod42, map_cond, Option.map_some, Option.map_none, id]
theorem ct42 (a : Partition) (b : Partition) (l : L42) : CT fun j => bod42 id a b j l := by
  cases l <;> (dsimp only [bod42]; repeat (first | exact CT.jump _ | exact CT.const _ | apply CT.cond))
noncomputable def spL42 (a : Partition) (b : Partition) : L42 → Option R42 := lfp (bod42 id a b)
noncomputable def spO42 (a : Partition) (b : Partition) : Option R42 := ent42 id a b (spL42 a b)
noncomputable def sp42 (a : Partition) (b : Partition) : R42 := (spO42 a b).getD default
noncomputable def spc42 (a : Partition) (b : Partition) : Bool := (spO42 a b).isSome
theorem oks42 (a : Partition) (b : Partition) (hc : spc42 a b = true) : Okay Pr GL 42 [.agg [.v (.string a.name), .v (.int .i64 a.entry), .v (.int .i64 a.action), .v (.int .i64 a.restarts), .v (.int .i64 a.inputs), .v (.int .i64 a.outputs), .sl .sRegion a.regions, .sl .sPort a.ports], .agg [.v (.string b.name), .v (.int .i64 b.entry), .v (.int .i64 b.action), .v (.int .i64 b.restarts), .v (.int .i64 b.inputs), .v (.int .i64 b.outputs), .sl .sRegion b.regions, .sl .sPort b.ports]] [] (to42 (sp42 a b)) := by
  obtain ⟨n, h⟩ := auto_ok (nat42 a b) (fun s => show ent42 to42 a b (fun l => (s l).map to42) = (ent42 id a b s).map to42 by simp only [ent42, map_cond, Option.map_some, Option.map_none, id]) (ct42 a b) (show CT fun j => ent42 id a b j by dsimp only [ent42]; repeat (first | exact CT.jump _ | exact CT.const _ | apply CT.cond)) (isSome_getD hc)
  exact okay_of_run (H := H42) G0ok G0ok Tryz.func42 rfl (by kernel_rfl) n (by
    rw [run42]
    rw [show (fun l => runL Pr G0 H42 Tryz.f42 n (num42 l) (st42 a b l)) = shad (bod42 to42 a b) n from funext (shad42 a b n)]
    exact h)

/-! ### ref16.none -/
abbrev R57 := Where
def to57 (r : R57) : Ans := ⟨.agg [.v (.int .i64 r.first), .v (.int .i64 r.second)], []⟩
def H57 : Hint := ⟨fun _ => false, fun _ => ⟨[], []⟩, [], G0, nodp⟩
noncomputable def ent57 {R : Type} (ret : R57 → R) : Option R :=
    some (ret (⟨(-1), (-1)⟩ : Where))
theorem run57 (J : Jmp) : runF Pr G0 H57 J GL Tryz.f57 [] [] = ent57 to57 := by kernel_rfl
noncomputable def spO57 : Option R57 := ent57 id
noncomputable def sp57 : R57 := (spO57).getD default
theorem some57 : spO57 = some (sp57) := isSome_getD (show (spO57).isSome = true by simp only [spO57, ent57, isSome_cond, Option.isSome_some, cond_self])
theorem oks57 : Okay Pr GL 57 [] [] (to57 (sp57)) :=
  okay_of_run (H := H57) G0ok G0ok Tryz.func57 rfl (by kernel_rfl) 0 ((run57 (runL Pr G0 H57 Tryz.f57 0)).trans (auto_ok0 (show ent57 to57 = (ent57 id).map to57 by simp only [ent57, map_cond, Option.map_some, Option.map_none, id]) (some57)))

/-! ### ref16.of -/
abbrev R60 := Where
def to60 (r : R60) : Ans := ⟨.agg [.v (.int .i64 r.first), .v (.int .i64 r.second)], []⟩
def H60 : Hint := ⟨fun _ => false, fun _ => ⟨[], []⟩, [], G0, nodp⟩
noncomputable def ent60 {R : Type} (ret : R60 → R) (first : Int) : Option R :=
    some (ret (⟨first, (-1)⟩ : Where))
theorem run60 (J : Jmp) (first : Int) : runF Pr G0 H60 J GL Tryz.f60 [.v (.int .i64 first)] [] = ent60 to60 first := by kernel_rfl
noncomputable def spO60 (first : Int) : Option R60 := ent60 id first
noncomputable def sp60 (first : Int) : R60 := (spO60 first).getD default
theorem some60 (first : Int) : spO60 first = some (sp60 first) := isSome_getD (show (spO60 first).isSome = true by simp only [spO60, ent60, isSome_cond, Option.isSome_some, cond_self])
theorem oks60 (first : Int) : Okay Pr GL 60 [.v (.int .i64 first)] [] (to60 (sp60 first)) :=
  okay_of_run (H := H60) G0ok G0ok Tryz.func60 rfl (by kernel_rfl) 0 ((run60 (runL Pr G0 H60 Tryz.f60 0) first).trans (auto_ok0 (show ent60 to60 first = (ent60 id first).map to60 by simp only [ent60, map_cond, Option.map_some, Option.map_none, id]) (some60 first)))

/-! ### ref16.in -/
abbrev R99 := Bool
def to99 (r : R99) : Ans := ⟨.v (.bool r), []⟩
def H99 : Hint := ⟨fun _ => false, fun _ => ⟨[], []⟩, [], G0, nodp⟩
noncomputable def ent99 {R : Type} (ret : R99 → R) (n_0 : Int) (least : Int) (most : Int) : Option R :=
    cond (decide ((n_0 : Int) ≥ least))
    (some (ret (decide ((n_0 : Int) ≤ most))))
    (some (ret false))
theorem run99 (J : Jmp) (n_0 : Int) (least : Int) (most : Int) : runF Pr G0 H99 J GL Tryz.f99 [.v (.int .i64 n_0), .v (.int .i64 least), .v (.int .i64 most)] [] = ent99 to99 n_0 least most := by kernel_rfl
noncomputable def spO99 (n_0 : Int) (least : Int) (most : Int) : Option R99 := ent99 id n_0 least most
noncomputable def sp99 (n_0 : Int) (least : Int) (most : Int) : R99 := (spO99 n_0 least most).getD default
theorem some99 (n_0 : Int) (least : Int) (most : Int) : spO99 n_0 least most = some (sp99 n_0 least most) := isSome_getD (show (spO99 n_0 least most).isSome = true by simp only [spO99, ent99, isSome_cond, Option.isSome_some, cond_self])
theorem oks99 (n_0 : Int) (least : Int) (most : Int) : Okay Pr GL 99 [.v (.int .i64 n_0), .v (.int .i64 least), .v (.int .i64 most)] [] (to99 (sp99 n_0 least most)) :=
  okay_of_run (H := H99) G0ok G0ok Tryz.func99 rfl (by kernel_rfl) 0 ((run99 (runL Pr G0 H99 Tryz.f99 0) n_0 least most).trans (auto_ok0 (show ent99 to99 n_0 least most = (ent99 id n_0 least most).map to99 by simp only [ent99, map_cond, Option.map_some, Option.map_none, id]) (some99 n_0 least most)))

/-! ### ref16.ends -/
abbrev R103 := Int × Int
def to103 (r : R103) : Ans := ⟨.tup [.v (.int .i64 r.1), .v (.int .i64 r.2)], []⟩
inductive L103 where
  | l0 (x1 : Int) (x2 : Int) (x0 : Int)
  | l4 (x1 : Int) (x2 : Int) (x0 : Int) (x3 : Int)
  | l25 (x0 : Int) (x4 : Int) (x1 : Int) (x5 : Int) (x2 : Int) (x3 : Bool)
  | l17 (x0 : Int) (x2 : Int) (x1 : Int) (x3 : Int)
def num103 : L103 → Nat
  | .l0 _ _ _ => 0
  | .l4 _ _ _ _ => 4
  | .l25 _ _ _ _ _ _ => 25
  | .l17 _ _ _ _ => 17
def H103 : Hint := ⟨fun n => [8, 12].any (Nat.beq n), hdAt [(0, ⟨fgt [1, 2, 6, 7, 8, 43, 44, 53, 54, 55] 61 0, []⟩), (4, ⟨fgt [1, 2, 6, 7, 8, 9, 43, 44, 53, 54, 55] 61 0, []⟩), (25, ⟨fgt [1, 2, 6, 7, 8, 9, 10, 53, 54, 55] 61 0, []⟩), (17, ⟨fgt [1, 2, 6, 7, 8, 9, 43, 44] 61 0, []⟩)], [], G0, nodp⟩
noncomputable def st103 (c : Config) (h_1 : Int) : L103 → St
  | .l0 x1 x2 x0 => ⟨mkE [(1, .v (.int .i64 h_1)), (2, .ref 0 0), (6, .v (.int .i64 x1)), (7, .v (.int .i64 x2)), (8, .v (.int .i64 x0))] 61 0, [.cells 26 [.v (.int .i64 c.frames), .v (.int .i64 c.major), .v (.int .i64 c.kernel), .v (.int .i64 c.room), .sl (.sl .sWindow) c.cores, .sl .sPartition c.partitions, .sl .sChannel c.channels]], GL, 0, [], nodp⟩
  | .l4 x1 x2 x0 x3 => ⟨mkE [(1, .v (.int .i64 h_1)), (2, .ref 0 0), (6, .v (.int .i64 x1)), (7, .v (.int .i64 x2)), (8, .v (.int .i64 x0)), (9, .v (.int .i64 x3))] 61 0, [.cells 26 [.v (.int .i64 c.frames), .v (.int .i64 c.major), .v (.int .i64 c.kernel), .v (.int .i64 c.room), .sl (.sl .sWindow) c.cores, .sl .sPartition c.partitions, .sl .sChannel c.channels]], GL, 0, [], nodp⟩
  | .l25 x0 x4 x1 x5 x2 x3 => ⟨mkE [(1, .v (.int .i64 h_1)), (2, .ref 0 0), (6, .v (.int .i64 x0)), (7, .v (.int .i64 x4)), (8, .v (.int .i64 x1)), (9, .v (.int .i64 x5)), (10, .ref 1 0)] 61 0, [.cells 26 [.v (.int .i64 c.frames), .v (.int .i64 c.major), .v (.int .i64 c.kernel), .v (.int .i64 c.room), .sl (.sl .sWindow) c.cores, .sl .sPartition c.partitions, .sl .sChannel c.channels], .cells 174 [.v (.int .i64 x2), .v (.bool x3)]], GL, 0, [], nodp⟩
  | .l17 x0 x2 x1 x3 => ⟨mkE [(1, .v (.int .i64 h_1)), (2, .ref 0 0), (6, .v (.int .i64 x0)), (7, .v (.int .i64 x2)), (8, .v (.int .i64 x1)), (9, .v (.int .i64 x3))] 61 0, [.cells 26 [.v (.int .i64 c.frames), .v (.int .i64 c.major), .v (.int .i64 c.kernel), .v (.int .i64 c.room), .sl (.sl .sWindow) c.cores, .sl .sPartition c.partitions, .sl .sChannel c.channels]], GL, 0, [], nodp⟩
noncomputable def bod103 {R : Type} (ret : R103 → R) (c : Config) (h_1 : Int) (j : L103 → Option R) : L103 → Option R
  | .l0 x1 x2 x0 => cond (decide ((x0 : Int) < c.partitions.length))
    (j (.l4 x1 x2 x0 0))
    (some (ret (x1, x2)))
  | .l4 x1 x2 x0 x3 => cond (inR x0 c.partitions.length) (
    cond (decide ((x3 : Int) < ((atPartition c.partitions x0.toNat).ports).length))
      (cond (inR x0 c.partitions.length) (
        cond (inR x3 ((atPartition c.partitions x0.toNat).ports).length) (
          cond (((atPort ((atPartition c.partitions x0.toNat).ports) x3.toNat).channel : Int) == h_1)
            (cond ((atPort ((atPartition c.partitions x0.toNat).ports) x3.toNat).source)
              (j (.l25 (IntKind.i64.wrap (x1 + 1)) x2 x0 x3 ((atPort ((atPartition c.partitions x0.toNat).ports) x3.toNat).channel) ((atPort ((atPartition c.partitions x0.toNat).ports) x3.toNat).source)))
              (j (.l25 x1 x2 x0 x3 ((atPort ((atPartition c.partitions x0.toNat).ports) x3.toNat).channel) ((atPort ((atPartition c.partitions x0.toNat).ports) x3.toNat).source))))
            (j (.l25 x1 x2 x0 x3 ((atPort ((atPartition c.partitions x0.toNat).ports) x3.toNat).channel) ((atPort ((atPartition c.partitions x0.toNat).ports) x3.toNat).source)))) none) none)
      (j (.l0 x1 x2 (IntKind.i64.wrap (x0 + 1))))) none
  | .l25 x0 x4 x1 x5 x2 x3 => cond ((x2 : Int) == h_1)
    (cond (!x3)
      (j (.l17 x0 (IntKind.i64.wrap (x4 + 1)) x1 x5))
      (j (.l17 x0 x4 x1 x5)))
    (j (.l17 x0 x4 x1 x5))
  | .l17 x0 x2 x1 x3 => j (.l4 x0 x2 x1 (IntKind.i64.wrap (x3 + 1)))
noncomputable def ent103 {R : Type} (ret : R103 → R) (c : Config) (h_1 : Int) (j : L103 → Option R) : Option R :=
    j (.l0 0 0 0)
theorem head103_0 (J : Jmp) (c : Config) (h_1 : Int) (x1 : Int) (x2 : Int) (x0 : Int) : stepAt Pr G0 H103 J 0 0 (bodyOf Tryz.f103) (fin Pr H103 Tryz.f103) (st103 c h_1 (.l0 x1 x2 x0)) = bod103 to103 c h_1 (fun l => J (num103 l) (st103 c h_1 l)) (.l0 x1 x2 x0) := by kernel_rfl
theorem head103_4 (J : Jmp) (c : Config) (h_1 : Int) (x1 : Int) (x2 : Int) (x0 : Int) (x3 : Int) : stepAt Pr G0 H103 J 4 0 (bodyOf Tryz.f103) (fin Pr H103 Tryz.f103) (st103 c h_1 (.l4 x1 x2 x0 x3)) = bod103 to103 c h_1 (fun l => J (num103 l) (st103 c h_1 l)) (.l4 x1 x2 x0 x3) := by kernel_rfl
theorem head103_25 (J : Jmp) (c : Config) (h_1 : Int) (x0 : Int) (x4 : Int) (x1 : Int) (x5 : Int) (x2 : Int) (x3 : Bool) : stepAt Pr G0 H103 J 25 0 (bodyOf Tryz.f103) (fin Pr H103 Tryz.f103) (st103 c h_1 (.l25 x0 x4 x1 x5 x2 x3)) = bod103 to103 c h_1 (fun l => J (num103 l) (st103 c h_1 l)) (.l25 x0 x4 x1 x5 x2 x3) := by kernel_rfl
theorem head103_17 (J : Jmp) (c : Config) (h_1 : Int) (x0 : Int) (x2 : Int) (x1 : Int) (x3 : Int) : stepAt Pr G0 H103 J 17 0 (bodyOf Tryz.f103) (fin Pr H103 Tryz.f103) (st103 c h_1 (.l17 x0 x2 x1 x3)) = bod103 to103 c h_1 (fun l => J (num103 l) (st103 c h_1 l)) (.l17 x0 x2 x1 x3) := by kernel_rfl
theorem run103 (J : Jmp) (c : Config) (h_1 : Int) : runF Pr G0 H103 J GL Tryz.f103 [(aCfg c), .v (.int .i64 h_1)] [] = ent103 to103 c h_1 (fun l => J (num103 l) (st103 c h_1 l)) := by kernel_rfl
theorem shad103 (c : Config) (h_1 : Int) : ∀ (n : Nat) (l : L103), runL Pr G0 H103 Tryz.f103 n (num103 l) (st103 c h_1 l) = shad (bod103 to103 c h_1) n l
  | 0, l => by cases l <;> rfl
  | n + 1, l => by
    have ih : (fun l => runL Pr G0 H103 Tryz.f103 n (num103 l) (st103 c h_1 l)) = shad (bod103 to103 c h_1) n := funext (shad103 c h_1 n)
    cases l with
    | l0 x1 x2 x0 => exact (step_eq ..).trans ((head103_0 ..).trans (by rw [ih]; rfl))
    | l4 x1 x2 x0 x3 => exact (step_eq ..).trans ((head103_4 ..).trans (by rw [ih]; rfl))
    | l25 x0 x4 x1 x5 x2 x3 => exact (step_eq ..).trans ((head103_25 ..).trans (by rw [ih]; rfl))
    | l17 x0 x2 x1 x3 => exact (step_eq ..).trans ((head103_17 ..).trans (by rw [ih]; rfl))
theorem nat103 (c : Config) (h_1 : Int) (s : L103 → Option R103) (l : L103) : bod103 to103 c h_1 (fun l => (s l).map to103) l = (bod103 id c h_1 s l).map to103 := by
  cases l <;> simp only [bod103, map_cond, Option.map_some, Option.map_none, id]
theorem ct103 (c : Config) (h_1 : Int) (l : L103) : CT fun j => bod103 id c h_1 j l := by
  cases l <;> (dsimp only [bod103]; repeat (first | exact CT.jump _ | exact CT.const _ | apply CT.cond))
noncomputable def spL103 (c : Config) (h_1 : Int) : L103 → Option R103 := lfp (bod103 id c h_1)
theorem spL103_eq (c : Config) (h_1 : Int) (l : L103) : spL103 c h_1 l = bod103 id c h_1 (spL103 c h_1) l := lfp_eq (ct103 c h_1) l
noncomputable def spO103 (c : Config) (h_1 : Int) : Option R103 := ent103 id c h_1 (spL103 c h_1)
noncomputable def sp103 (c : Config) (h_1 : Int) : R103 := (spO103 c h_1).getD default
noncomputable def spc103 (c : Config) (h_1 : Int) : Bool := (spO103 c h_1).isSome
theorem oks103 (c : Config) (h_1 : Int) (hc : spc103 c h_1 = true) : Okay Pr GL 103 [(aCfg c), .v (.int .i64 h_1)] [] (to103 (sp103 c h_1)) := by
  obtain ⟨n, h⟩ := auto_ok (nat103 c h_1) (fun s => show ent103 to103 c h_1 (fun l => (s l).map to103) = (ent103 id c h_1 s).map to103 by simp only [ent103, map_cond, Option.map_some, Option.map_none, id]) (ct103 c h_1) (show CT fun j => ent103 id c h_1 j by dsimp only [ent103]; repeat (first | exact CT.jump _ | exact CT.const _ | apply CT.cond)) (isSome_getD hc)
  exact okay_of_run (H := H103) G0ok G0ok Tryz.func103 rfl (by kernel_rfl) n (by
    rw [run103]
    rw [show (fun l => runL Pr G0 H103 Tryz.f103 n (num103 l) (st103 c h_1 l)) = shad (bod103 to103 c h_1) n from funext (shad103 c h_1 n)]
    exact h)

/-! ### ref16.split -/
abbrev R104 := Bool
def to104 (r : R104) : Ans := ⟨.v (.bool r), []⟩
inductive L104 where
  | l0 (x0 : Int)
  | l4 (x1 : Int) (x0 : Int)
def num104 : L104 → Nat
  | .l0 _ => 0
  | .l4 _ _ => 4
def H104 : Hint := ⟨fun n => [].any (Nat.beq n), hdAt [(0, ⟨fgt [1, 2, 3, 7, 27, 28, 29, 30, 31, 32, 33, 34, 35, 36, 37] 39 0, []⟩), (4, ⟨fgt [1, 2, 3, 7, 8] 39 0, []⟩)], [], G0, nodp⟩
noncomputable def st104 (c : Config) (core : Int) (p : Int) : L104 → St
  | .l0 x0 => ⟨mkE [(1, .v (.int .i64 core)), (2, .v (.int .i64 p)), (3, .ref 0 0), (7, .v (.int .i64 x0))] 39 0, [.cells 26 [.v (.int .i64 c.frames), .v (.int .i64 c.major), .v (.int .i64 c.kernel), .v (.int .i64 c.room), .sl (.sl .sWindow) c.cores, .sl .sPartition c.partitions, .sl .sChannel c.channels]], GL, 0, [], nodp⟩
  | .l4 x1 x0 => ⟨mkE [(1, .v (.int .i64 core)), (2, .v (.int .i64 p)), (3, .ref 0 0), (7, .v (.int .i64 x1)), (8, .v (.int .i64 x0))] 39 0, [.cells 26 [.v (.int .i64 c.frames), .v (.int .i64 c.major), .v (.int .i64 c.kernel), .v (.int .i64 c.room), .sl (.sl .sWindow) c.cores, .sl .sPartition c.partitions, .sl .sChannel c.channels]], GL, 0, [], nodp⟩
noncomputable def bod104 {R : Type} (ret : R104 → R) (c : Config) (core : Int) (p : Int) (j : L104 → Option R) : L104 → Option R
  | .l0 x0 => cond (decide ((x0 : Int) < core))
    (j (.l4 x0 0))
    (some (ret false))
  | .l4 x1 x0 => cond (inR x1 c.cores.length) (
    cond (decide ((x0 : Int) < (atLWindow c.cores x1.toNat).length))
      (cond (!((p : Int) == (-1)))
        (cond (inR x1 c.cores.length) (
          cond (inR x0 (atLWindow c.cores x1.toNat).length) (
            cond (((atWindow (atLWindow c.cores x1.toNat) x0.toNat).partition : Int) == p)
              (some (ret true))
              (j (.l4 x1 (IntKind.i64.wrap (x0 + 1))))) none) none)
        (j (.l4 x1 (IntKind.i64.wrap (x0 + 1)))))
      (j (.l0 (IntKind.i64.wrap (x1 + 1))))) none
noncomputable def ent104 {R : Type} (ret : R104 → R) (c : Config) (core : Int) (p : Int) (j : L104 → Option R) : Option R :=
    j (.l0 0)
theorem head104_0 (J : Jmp) (c : Config) (core : Int) (p : Int) (x0 : Int) : stepAt Pr G0 H104 J 0 0 (bodyOf Tryz.f104) (fin Pr H104 Tryz.f104) (st104 c core p (.l0 x0)) = bod104 to104 c core p (fun l => J (num104 l) (st104 c core p l)) (.l0 x0) := by kernel_rfl
theorem head104_4 (J : Jmp) (c : Config) (core : Int) (p : Int) (x1 : Int) (x0 : Int) : stepAt Pr G0 H104 J 4 0 (bodyOf Tryz.f104) (fin Pr H104 Tryz.f104) (st104 c core p (.l4 x1 x0)) = bod104 to104 c core p (fun l => J (num104 l) (st104 c core p l)) (.l4 x1 x0) := by kernel_rfl
theorem run104 (J : Jmp) (c : Config) (core : Int) (p : Int) : runF Pr G0 H104 J GL Tryz.f104 [(aCfg c), .v (.int .i64 core), .v (.int .i64 p)] [] = ent104 to104 c core p (fun l => J (num104 l) (st104 c core p l)) := by kernel_rfl
theorem shad104 (c : Config) (core : Int) (p : Int) : ∀ (n : Nat) (l : L104), runL Pr G0 H104 Tryz.f104 n (num104 l) (st104 c core p l) = shad (bod104 to104 c core p) n l
  | 0, l => by cases l <;> rfl
  | n + 1, l => by
    have ih : (fun l => runL Pr G0 H104 Tryz.f104 n (num104 l) (st104 c core p l)) = shad (bod104 to104 c core p) n := funext (shad104 c core p n)
    cases l with
    | l0 x0 => exact (step_eq ..).trans ((head104_0 ..).trans (by rw [ih]; rfl))
    | l4 x1 x0 => exact (step_eq ..).trans ((head104_4 ..).trans (by rw [ih]; rfl))
theorem nat104 (c : Config) (core : Int) (p : Int) (s : L104 → Option R104) (l : L104) : bod104 to104 c core p (fun l => (s l).map to104) l = (bod104 id c core p s l).map to104 := by
  cases l <;> simp only [bod104, map_cond, Option.map_some, Option.map_none, id]
theorem ct104 (c : Config) (core : Int) (p : Int) (l : L104) : CT fun j => bod104 id c core p j l := by
  cases l <;> (dsimp only [bod104]; repeat (first | exact CT.jump _ | exact CT.const _ | apply CT.cond))
noncomputable def spL104 (c : Config) (core : Int) (p : Int) : L104 → Option R104 := lfp (bod104 id c core p)
theorem spL104_eq (c : Config) (core : Int) (p : Int) (l : L104) : spL104 c core p l = bod104 id c core p (spL104 c core p) l := lfp_eq (ct104 c core p) l
noncomputable def spO104 (c : Config) (core : Int) (p : Int) : Option R104 := ent104 id c core p (spL104 c core p)
noncomputable def sp104 (c : Config) (core : Int) (p : Int) : R104 := (spO104 c core p).getD default
noncomputable def spc104 (c : Config) (core : Int) (p : Int) : Bool := (spO104 c core p).isSome
theorem oks104 (c : Config) (core : Int) (p : Int) (hc : spc104 c core p = true) : Okay Pr GL 104 [(aCfg c), .v (.int .i64 core), .v (.int .i64 p)] [] (to104 (sp104 c core p)) := by
  obtain ⟨n, h⟩ := auto_ok (nat104 c core p) (fun s => show ent104 to104 c core p (fun l => (s l).map to104) = (ent104 id c core p s).map to104 by simp only [ent104, map_cond, Option.map_some, Option.map_none, id]) (ct104 c core p) (show CT fun j => ent104 id c core p j by dsimp only [ent104]; repeat (first | exact CT.jump _ | exact CT.const _ | apply CT.cond)) (isSome_getD hc)
  exact okay_of_run (H := H104) G0ok G0ok Tryz.func104 rfl (by kernel_rfl) n (by
    rw [run104]
    rw [show (fun l => runL Pr G0 H104 Tryz.f104 n (num104 l) (st104 c core p l)) = shad (bod104 to104 c core p) n from funext (shad104 c core p n)]
    exact h)

/-! ### ref16.meet -/
abbrev R105 := Bool
def to105 (r : R105) : Ans := ⟨.v (.bool r), []⟩
def H105 : Hint := ⟨fun _ => false, fun _ => ⟨[], []⟩, [], G0, nodp⟩
noncomputable def ent105 {R : Type} (ret : R105 → R) (a : Int) (many : Int) (b : Int) (others : Int) : Option R :=
    cond (decide ((a : Int) < (IntKind.i64.wrap (b + others))))
    (some (ret (decide ((b : Int) < (IntKind.i64.wrap (a + many))))))
    (some (ret false))
theorem run105 (J : Jmp) (a : Int) (many : Int) (b : Int) (others : Int) : runF Pr G0 H105 J GL Tryz.f105 [.v (.int .i64 a), .v (.int .i64 many), .v (.int .i64 b), .v (.int .i64 others)] [] = ent105 to105 a many b others := by kernel_rfl
noncomputable def spO105 (a : Int) (many : Int) (b : Int) (others : Int) : Option R105 := ent105 id a many b others
noncomputable def sp105 (a : Int) (many : Int) (b : Int) (others : Int) : R105 := (spO105 a many b others).getD default
theorem some105 (a : Int) (many : Int) (b : Int) (others : Int) : spO105 a many b others = some (sp105 a many b others) := isSome_getD (show (spO105 a many b others).isSome = true by simp only [spO105, ent105, isSome_cond, Option.isSome_some, cond_self])
theorem oks105 (a : Int) (many : Int) (b : Int) (others : Int) : Okay Pr GL 105 [.v (.int .i64 a), .v (.int .i64 many), .v (.int .i64 b), .v (.int .i64 others)] [] (to105 (sp105 a many b others)) :=
  okay_of_run (H := H105) G0ok G0ok Tryz.func105 rfl (by kernel_rfl) 0 ((run105 (runL Pr G0 H105 Tryz.f105 0) a many b others).trans (auto_ok0 (show ent105 to105 a many b others = (ent105 id a many b others).map to105 by simp only [ent105, map_cond, Option.map_some, Option.map_none, id]) (some105 a many b others)))

/-! ### admit.unless -/
abbrev R131 := AdmitFound
def to131 (r : R131) : Ans := ⟨.agg [.v (.int .i64 r.e), .v (.int .i64 r.where_.first), .v (.int .i64 r.where_.second)], []⟩
def H131 : Hint := ⟨fun _ => false, fun _ => ⟨[], []⟩, [], G0, nodp⟩
noncomputable def ent131 {R : Type} (ret : R131 → R) (holds : Bool) (e : Int) (w : Where) : Option R :=
    cond holds
    (some (ret fine))
    (some (ret (⟨e, (⟨w.first, w.second⟩ : Where)⟩ : AdmitFound)))
theorem run131 (J : Jmp) (holds : Bool) (e : Int) (w : Where) : runF Pr G0 H131 J GL Tryz.f131 [.v (.bool holds), .v (.int .i64 e), .agg [.v (.int .i64 w.first), .v (.int .i64 w.second)]] [] = ent131 to131 holds e w := by kernel_rfl
noncomputable def spO131 (holds : Bool) (e : Int) (w : Where) : Option R131 := ent131 id holds e w
noncomputable def sp131 (holds : Bool) (e : Int) (w : Where) : R131 := (spO131 holds e w).getD default
theorem some131 (holds : Bool) (e : Int) (w : Where) : spO131 holds e w = some (sp131 holds e w) := isSome_getD (show (spO131 holds e w).isSome = true by simp only [spO131, ent131, isSome_cond, Option.isSome_some, cond_self])
theorem oks131 (holds : Bool) (e : Int) (w : Where) : Okay Pr GL 131 [.v (.bool holds), .v (.int .i64 e), .agg [.v (.int .i64 w.first), .v (.int .i64 w.second)]] [] (to131 (sp131 holds e w)) :=
  okay_of_run (H := H131) G0ok G0ok Tryz.func131 rfl (by kernel_rfl) 0 ((run131 (runL Pr G0 H131 Tryz.f131 0) holds e w).trans (auto_ok0 (show ent131 to131 holds e w = (ent131 id holds e w).map to131 by simp only [ent131, map_cond, Option.map_some, Option.map_none, id]) (some131 holds e w)))

/-! ### admit.within -/
abbrev R132 := Bool
def to132 (r : R132) : Ans := ⟨.v (.bool r), []⟩
def H132 : Hint := ⟨fun _ => false, fun _ => ⟨[], []⟩, [], G0, nodp⟩
noncomputable def ent132 {R : Type} (ret : R132 → R) (n_0 : Int) (least : Int) (most : Int) : Option R :=
    cond (decide ((n_0 : Int) ≥ least))
    (some (ret (decide ((n_0 : Int) ≤ most))))
    (some (ret false))
theorem run132 (J : Jmp) (n_0 : Int) (least : Int) (most : Int) : runF Pr G0 H132 J GL Tryz.f132 [.v (.int .i64 n_0), .v (.int .i64 least), .v (.int .i64 most)] [] = ent132 to132 n_0 least most := by kernel_rfl
noncomputable def spO132 (n_0 : Int) (least : Int) (most : Int) : Option R132 := ent132 id n_0 least most
noncomputable def sp132 (n_0 : Int) (least : Int) (most : Int) : R132 := (spO132 n_0 least most).getD default
theorem some132 (n_0 : Int) (least : Int) (most : Int) : spO132 n_0 least most = some (sp132 n_0 least most) := isSome_getD (show (spO132 n_0 least most).isSome = true by simp only [spO132, ent132, isSome_cond, Option.isSome_some, cond_self])
theorem oks132 (n_0 : Int) (least : Int) (most : Int) : Okay Pr GL 132 [.v (.int .i64 n_0), .v (.int .i64 least), .v (.int .i64 most)] [] (to132 (sp132 n_0 least most)) :=
  okay_of_run (H := H132) G0ok G0ok Tryz.func132 rfl (by kernel_rfl) 0 ((run132 (runL Pr G0 H132 Tryz.f132 0) n_0 least most).trans (auto_ok0 (show ent132 to132 n_0 least most = (ent132 id n_0 least most).map to132 by simp only [ent132, map_cond, Option.map_some, Option.map_none, id]) (some132 n_0 least most)))

/-! ### admit.at -/
abbrev R161 := Where
def to161 (r : R161) : Ans := ⟨.agg [.v (.int .i64 r.first), .v (.int .i64 r.second)], []⟩
def H161 : Hint := ⟨fun _ => false, fun _ => ⟨[], []⟩, [], G0, nodp⟩
noncomputable def ent161 {R : Type} (ret : R161 → R) (first : Int) : Option R :=
    some (ret (⟨first, (-1)⟩ : Where))
theorem run161 (J : Jmp) (first : Int) : runF Pr G0 H161 J GL Tryz.f161 [.v (.int .i64 first)] [] = ent161 to161 first := by kernel_rfl
noncomputable def spO161 (first : Int) : Option R161 := ent161 id first
noncomputable def sp161 (first : Int) : R161 := (spO161 first).getD default
theorem some161 (first : Int) : spO161 first = some (sp161 first) := isSome_getD (show (spO161 first).isSome = true by simp only [spO161, ent161, isSome_cond, Option.isSome_some, cond_self])
theorem oks161 (first : Int) : Okay Pr GL 161 [.v (.int .i64 first)] [] (to161 (sp161 first)) :=
  okay_of_run (H := H161) G0ok G0ok Tryz.func161 rfl (by kernel_rfl) 0 ((run161 (runL Pr G0 H161 Tryz.f161 0) first).trans (auto_ok0 (show ent161 to161 first = (ent161 id first).map to161 by simp only [ent161, map_cond, Option.map_some, Option.map_none, id]) (some161 first)))

/-! ### admit.both -/
abbrev R164 := Where
def to164 (r : R164) : Ans := ⟨.agg [.v (.int .i64 r.first), .v (.int .i64 r.second)], []⟩
def H164 : Hint := ⟨fun _ => false, fun _ => ⟨[], []⟩, [], G0, nodp⟩
noncomputable def ent164 {R : Type} (ret : R164 → R) (first : Int) (second : Int) : Option R :=
    some (ret (⟨first, second⟩ : Where))
theorem run164 (J : Jmp) (first : Int) (second : Int) : runF Pr G0 H164 J GL Tryz.f164 [.v (.int .i64 first), .v (.int .i64 second)] [] = ent164 to164 first second := by kernel_rfl
noncomputable def spO164 (first : Int) (second : Int) : Option R164 := ent164 id first second
noncomputable def sp164 (first : Int) (second : Int) : R164 := (spO164 first second).getD default
theorem some164 (first : Int) (second : Int) : spO164 first second = some (sp164 first second) := isSome_getD (show (spO164 first second).isSome = true by simp only [spO164, ent164, isSome_cond, Option.isSome_some, cond_self])
theorem oks164 (first : Int) (second : Int) : Okay Pr GL 164 [.v (.int .i64 first), .v (.int .i64 second)] [] (to164 (sp164 first second)) :=
  okay_of_run (H := H164) G0ok G0ok Tryz.func164 rfl (by kernel_rfl) 0 ((run164 (runL Pr G0 H164 Tryz.f164 0) first second).trans (auto_ok0 (show ent164 to164 first second = (ent164 id first second).map to164 by simp only [ent164, map_cond, Option.map_some, Option.map_none, id]) (some164 first second)))

/-! ### admit.meet -/
abbrev R167 := Bool
def to167 (r : R167) : Ans := ⟨.v (.bool r), []⟩
def H167 : Hint := ⟨fun _ => false, fun _ => ⟨[], []⟩, [], G0, nodp⟩
noncomputable def ent167 {R : Type} (ret : R167 → R) (a : Int) (many : Int) (b : Int) (others : Int) : Option R :=
    cond (decide ((a : Int) < (IntKind.i64.wrap (b + others))))
    (some (ret (decide ((b : Int) < (IntKind.i64.wrap (a + many))))))
    (some (ret false))
theorem run167 (J : Jmp) (a : Int) (many : Int) (b : Int) (others : Int) : runF Pr G0 H167 J GL Tryz.f167 [.v (.int .i64 a), .v (.int .i64 many), .v (.int .i64 b), .v (.int .i64 others)] [] = ent167 to167 a many b others := by kernel_rfl
noncomputable def spO167 (a : Int) (many : Int) (b : Int) (others : Int) : Option R167 := ent167 id a many b others
noncomputable def sp167 (a : Int) (many : Int) (b : Int) (others : Int) : R167 := (spO167 a many b others).getD default
theorem some167 (a : Int) (many : Int) (b : Int) (others : Int) : spO167 a many b others = some (sp167 a many b others) := isSome_getD (show (spO167 a many b others).isSome = true by simp only [spO167, ent167, isSome_cond, Option.isSome_some, cond_self])
theorem oks167 (a : Int) (many : Int) (b : Int) (others : Int) : Okay Pr GL 167 [.v (.int .i64 a), .v (.int .i64 many), .v (.int .i64 b), .v (.int .i64 others)] [] (to167 (sp167 a many b others)) :=
  okay_of_run (H := H167) G0ok G0ok Tryz.func167 rfl (by kernel_rfl) 0 ((run167 (runL Pr G0 H167 Tryz.f167 0) a many b others).trans (auto_ok0 (show ent167 to167 a many b others = (ent167 id a many b others).map to167 by simp only [ent167, map_cond, Option.map_some, Option.map_none, id]) (some167 a many b others)))

/-! ### layout.Stage -/
abbrev R71 := Int
def to71 (r : R71) : Ans := ⟨.v (.int .i64 r), []⟩
def H71 : Hint := ⟨fun _ => false, fun _ => ⟨[], []⟩, [], G0, nodp⟩
noncomputable def ent71 {R : Type} (ret : R71 → R) (h_0 : Channel) : Option R :=
    cond (decide ((h_0.words : Int) < 1))
    (some (ret 0))
    (cond (decide ((h_0.words : Int) > 16))
      (some (ret 0))
      (cond ((h_0.kind : Int) == 1)
        (some (ret (IntKind.i64.wrap (2 + h_0.words))))
        (cond ((h_0.kind : Int) == 2)
          (cond (decide ((h_0.depth : Int) ≥ 1))
            (cond (decide ((h_0.depth : Int) ≤ 8))
              (some (ret (IntKind.i64.wrap (1 + (IntKind.i64.wrap (h_0.depth * (IntKind.i64.wrap (1 + h_0.words))))))))
              (some (ret 0)))
            (some (ret 0)))
          (some (ret 0)))))
theorem run71 (J : Jmp) (h_0 : Channel) : runF Pr G0 H71 J GL Tryz.f71 [.agg [.v (.int .i64 h_0.kind), .v (.int .i64 h_0.words), .v (.int .i64 h_0.depth)]] [] = ent71 to71 h_0 := by kernel_rfl
noncomputable def spO71 (h_0 : Channel) : Option R71 := ent71 id h_0
noncomputable def sp71 (h_0 : Channel) : R71 := (spO71 h_0).getD default
theorem some71 (h_0 : Channel) : spO71 h_0 = some (sp71 h_0) := isSome_getD (show (spO71 h_0).isSome = true by simp only [spO71, ent71, isSome_cond, Option.isSome_some, cond_self])
theorem oks71 (h_0 : Channel) : Okay Pr GL 71 [.agg [.v (.int .i64 h_0.kind), .v (.int .i64 h_0.words), .v (.int .i64 h_0.depth)]] [] (to71 (sp71 h_0)) :=
  okay_of_run (H := H71) G0ok G0ok Tryz.func71 rfl (by kernel_rfl) 0 ((run71 (runL Pr G0 H71 Tryz.f71 0) h_0).trans (auto_ok0 (show ent71 to71 h_0 = (ent71 id h_0).map to71 by simp only [ent71, map_cond, Option.map_some, Option.map_none, id]) (some71 h_0)))

/-! ### layout.counter$1 -/
abbrev R115 := Int × Int
def to115 (r : R115) : Ans := ⟨.v (.int .i64 r.1), [.cells 3 [.v (.int .i64 r.2)]]⟩
def H115 : Hint := ⟨fun _ => false, fun _ => ⟨[], []⟩, [], G0, nodp⟩
noncomputable def ent115 {R : Type} (ret : R115 → R) (n : Int) (here : Int) : Option R :=
    some (ret (here, (IntKind.i64.wrap (here + n))))
theorem run115 (J : Jmp) (n : Int) (here : Int) : runF Pr G0 H115 J GL Tryz.f115 [.v (.int .i64 n), .ref 0 0] [.cells 3 [.v (.int .i64 here)]] = ent115 to115 n here := by kernel_rfl
noncomputable def spO115 (n : Int) (here : Int) : Option R115 := ent115 id n here
noncomputable def sp115 (n : Int) (here : Int) : R115 := (spO115 n here).getD default
theorem some115 (n : Int) (here : Int) : spO115 n here = some (sp115 n here) := isSome_getD (show (spO115 n here).isSome = true by simp only [spO115, ent115, isSome_cond, Option.isSome_some, cond_self])
theorem oks115 (n : Int) (here : Int) : Okay Pr GL 115 [.v (.int .i64 n), .ref 0 0] [.cells 3 [.v (.int .i64 here)]] (to115 (sp115 n here)) :=
  okay_of_run (H := H115) G0ok G0ok Tryz.func115 rfl (by kernel_rfl) 0 ((run115 (runL Pr G0 H115 Tryz.f115 0) n here).trans (auto_ok0 (show ent115 to115 n here = (ent115 id n here).map to115 by simp only [ent115, map_cond, Option.map_some, Option.map_none, id]) (some115 n here)))

/-! ### ref15.body -/
abbrev R129 := Int
def to129 (r : R129) : Ans := ⟨.v (.int .i64 r), []⟩
def H129 : Hint := ⟨fun _ => false, fun _ => ⟨[], []⟩, [], G0, nodp⟩
noncomputable def ent129 {R : Type} (ret : R129 → R) (h_0 : Channel) : Option R :=
    cond (decide ((h_0.words : Int) < 1))
    (some (ret 0))
    (cond (decide ((h_0.words : Int) > 16))
      (some (ret 0))
      (cond ((h_0.kind : Int) == 1)
        (some (ret h_0.words))
        (cond ((h_0.kind : Int) == 2)
          (cond (decide ((h_0.depth : Int) ≥ 1))
            (cond (decide ((h_0.depth : Int) ≤ 8))
              (some (ret (IntKind.i64.wrap (h_0.depth * (IntKind.i64.wrap (1 + h_0.words))))))
              (some (ret 0)))
            (some (ret 0)))
          (some (ret 0)))))
theorem run129 (J : Jmp) (h_0 : Channel) : runF Pr G0 H129 J GL Tryz.f129 [.agg [.v (.int .i64 h_0.kind), .v (.int .i64 h_0.words), .v (.int .i64 h_0.depth)]] [] = ent129 to129 h_0 := by kernel_rfl
noncomputable def spO129 (h_0 : Channel) : Option R129 := ent129 id h_0
noncomputable def sp129 (h_0 : Channel) : R129 := (spO129 h_0).getD default
theorem some129 (h_0 : Channel) : spO129 h_0 = some (sp129 h_0) := isSome_getD (show (spO129 h_0).isSome = true by simp only [spO129, ent129, isSome_cond, Option.isSome_some, cond_self])
theorem oks129 (h_0 : Channel) : Okay Pr GL 129 [.agg [.v (.int .i64 h_0.kind), .v (.int .i64 h_0.words), .v (.int .i64 h_0.depth)]] [] (to129 (sp129 h_0)) :=
  okay_of_run (H := H129) G0ok G0ok Tryz.func129 rfl (by kernel_rfl) 0 ((run129 (runL Pr G0 H129 Tryz.f129 0) h_0).trans (auto_ok0 (show ent129 to129 h_0 = (ent129 id h_0).map to129 by simp only [ent129, map_cond, Option.map_some, Option.map_none, id]) (some129 h_0)))

/-! ### keep.CopyWords -/
abbrev R8 := (List Int)
def to8 (r : R8) : Ans := ⟨.own 0, [.arr 57 (.i .u32) r]⟩
inductive L8 where
  | l0 (x0 : Int) (x1 : List Int)
def num8 : L8 → Nat
  | .l0 _ _ => 0
def H8 : Hint := ⟨fun n => [].any (Nat.beq n), hdAt [(0, ⟨fgt [0, 3, 4] 22 0, []⟩)], [], G0, nodp⟩
noncomputable def st8 (l_0 : (List Int)) : L8 → St
  | .l0 x0 x1 => ⟨mkE [(0, .sl (.i .u32) l_0), (3, .own 0), (4, .v (.int .i64 x0))] 22 0, [.arr 57 (.i .u32) x1], GL, 0, [], nodp⟩
noncomputable def bod8 {R : Type} (ret : R8 → R) (l_0 : (List Int)) (j : L8 → Option R) : L8 → Option R
  | .l0 x0 x1 => cond (decide ((x0 : Int) < l_0.length))
    (cond (inR x0 l_0.length) (cond (inR x0 x1.length) (j (.l0 (IntKind.i64.wrap (x0 + 1)) (List.set x1 x0.toNat (atInt l_0 x0.toNat)))) none) none)
    (some (ret x1))
noncomputable def ent8 {R : Type} (ret : R8 → R) (l_0 : (List Int)) (j : L8 → Option R) : Option R :=
    cond (decide ((l_0.length : Int) = l_0.length) && decide (0 ≤ l_0.length) && leB ((l_0.length : Int).toNat * 4) 140737488355328) (j (.l0 0 (List.replicate (l_0.length : Int).toNat 0))) none
theorem head8_0 (J : Jmp) (l_0 : (List Int)) (x0 : Int) (x1 : List Int) : stepAt Pr G0 H8 J 0 0 (bodyOf Tryz.f8) (fin Pr H8 Tryz.f8) (st8 l_0 (.l0 x0 x1)) = bod8 to8 l_0 (fun l => J (num8 l) (st8 l_0 l)) (.l0 x0 x1) := by kernel_rfl
theorem run8 (J : Jmp) (l_0 : (List Int)) : runF Pr G0 H8 J GL Tryz.f8 [.sl (.i .u32) l_0] [] = ent8 to8 l_0 (fun l => J (num8 l) (st8 l_0 l)) := by kernel_rfl
theorem shad8 (l_0 : (List Int)) : ∀ (n : Nat) (l : L8), runL Pr G0 H8 Tryz.f8 n (num8 l) (st8 l_0 l) = shad (bod8 to8 l_0) n l
  | 0, l => by cases l <;> rfl
  | n + 1, l => by
    have ih : (fun l => runL Pr G0 H8 Tryz.f8 n (num8 l) (st8 l_0 l)) = shad (bod8 to8 l_0) n := funext (shad8 l_0 n)
    cases l with
    | l0 x0 x1 => exact (step_eq ..).trans ((head8_0 ..).trans (by rw [ih]; rfl))
theorem nat8 (l_0 : (List Int)) (s : L8 → Option R8) (l : L8) : bod8 to8 l_0 (fun l => (s l).map to8) l = (bod8 id l_0 s l).map to8 := by
  cases l <;> simp only [bod8, map_cond, Option.map_some, Option.map_none, id]
theorem ct8 (l_0 : (List Int)) (l : L8) : CT fun j => bod8 id l_0 j l := by
  cases l <;> (dsimp only [bod8]; repeat (first | exact CT.jump _ | exact CT.const _ | apply CT.cond))
noncomputable def spL8 (l_0 : (List Int)) : L8 → Option R8 := lfp (bod8 id l_0)
theorem spL8_eq (l_0 : (List Int)) (l : L8) : spL8 l_0 l = bod8 id l_0 (spL8 l_0) l := lfp_eq (ct8 l_0) l
noncomputable def spO8 (l_0 : (List Int)) : Option R8 := ent8 id l_0 (spL8 l_0)
noncomputable def sp8 (l_0 : (List Int)) : R8 := (spO8 l_0).getD default
noncomputable def spc8 (l_0 : (List Int)) : Bool := (spO8 l_0).isSome
theorem oks8 (l_0 : (List Int)) (hc : spc8 l_0 = true) : Okay Pr GL 8 [.sl (.i .u32) l_0] [] (to8 (sp8 l_0)) := by
  obtain ⟨n, h⟩ := auto_ok (nat8 l_0) (fun s => show ent8 to8 l_0 (fun l => (s l).map to8) = (ent8 id l_0 s).map to8 by simp only [ent8, map_cond, Option.map_some, Option.map_none, id]) (ct8 l_0) (show CT fun j => ent8 id l_0 j by dsimp only [ent8]; repeat (first | exact CT.jump _ | exact CT.const _ | apply CT.cond)) (isSome_getD hc)
  exact okay_of_run (H := H8) G0ok G0ok Tryz.func8 rfl (by kernel_rfl) n (by
    rw [run8]
    rw [show (fun l => runL Pr G0 H8 Tryz.f8 n (num8 l) (st8 l_0 l)) = shad (bod8 to8 l_0) n from funext (shad8 l_0 n)]
    exact h)

/-! ### law28.sameOwners -/
abbrev R11 := Bool
def to11 (r : R11) : Ans := ⟨.v (.bool r), []⟩
inductive L11 where
  | l0 (x0 : Int)
def num11 : L11 → Nat
  | .l0 _ => 0
def H11 : Hint := ⟨fun n => [].any (Nat.beq n), hdAt [(0, ⟨fgt [0, 1, 5] 26 0, []⟩)], [], G0, nodp⟩
noncomputable def st11 (a : (List Owner)) (b : (List Owner)) : L11 → St
  | .l0 x0 => ⟨mkE [(0, .sl .sOwner a), (1, .sl .sOwner b), (5, .v (.int .i64 x0))] 26 0, [], GL, 0, [], nodp⟩
noncomputable def bod11 {R : Type} (ret : R11 → R) (a : (List Owner)) (b : (List Owner)) (j : L11 → Option R) : L11 → Option R
  | .l0 x0 => cond (decide ((x0 : Int) < a.length))
    (cond (inR x0 a.length) (
      cond (inR x0 b.length) (
        cond (!((((atOwner a x0.toNat).kind : Int) == ((atOwner b x0.toNat).kind)) && ((((atOwner a x0.toNat).index : Int) == ((atOwner b x0.toNat).index)) && ((((atOwner a x0.toNat).port : Int) == ((atOwner b x0.toNat).port)) && true))))
          (some (ret false))
          (j (.l0 (IntKind.i64.wrap (x0 + 1))))) none) none)
    (some (ret true))
noncomputable def ent11 {R : Type} (ret : R11 → R) (a : (List Owner)) (b : (List Owner)) (j : L11 → Option R) : Option R :=
    cond (!((a.length : Int) == b.length))
    (some (ret false))
    (j (.l0 0))
theorem head11_0 (J : Jmp) (a : (List Owner)) (b : (List Owner)) (x0 : Int) : stepAt Pr G0 H11 J 0 0 (bodyOf Tryz.f11) (fin Pr H11 Tryz.f11) (st11 a b (.l0 x0)) = bod11 to11 a b (fun l => J (num11 l) (st11 a b l)) (.l0 x0) := by kernel_rfl
theorem run11 (J : Jmp) (a : (List Owner)) (b : (List Owner)) : runF Pr G0 H11 J GL Tryz.f11 [.sl .sOwner a, .sl .sOwner b] [] = ent11 to11 a b (fun l => J (num11 l) (st11 a b l)) := by kernel_rfl
theorem shad11 (a : (List Owner)) (b : (List Owner)) : ∀ (n : Nat) (l : L11), runL Pr G0 H11 Tryz.f11 n (num11 l) (st11 a b l) = shad (bod11 to11 a b) n l
  | 0, l => by cases l <;> rfl
  | n + 1, l => by
    have ih : (fun l => runL Pr G0 H11 Tryz.f11 n (num11 l) (st11 a b l)) = shad (bod11 to11 a b) n := funext (shad11 a b n)
    cases l with
    | l0 x0 => exact (step_eq ..).trans ((head11_0 ..).trans (by rw [ih]; rfl))
theorem nat11 (a : (List Owner)) (b : (List Owner)) (s : L11 → Option R11) (l : L11) : bod11 to11 a b (fun l => (s l).map to11) l = (bod11 id a b s l).map to11 := by
  cases l <;> simp only [bod11, map_cond, Option.map_some, Option.map_none, id]
theorem ct11 (a : (List Owner)) (b : (List Owner)) (l : L11) : CT fun j => bod11 id a b j l := by
  cases l <;> (dsimp only [bod11]; repeat (first | exact CT.jump _ | exact CT.const _ | apply CT.cond))
noncomputable def spL11 (a : (List Owner)) (b : (List Owner)) : L11 → Option R11 := lfp (bod11 id a b)
theorem spL11_eq (a : (List Owner)) (b : (List Owner)) (l : L11) : spL11 a b l = bod11 id a b (spL11 a b) l := lfp_eq (ct11 a b) l
noncomputable def spO11 (a : (List Owner)) (b : (List Owner)) : Option R11 := ent11 id a b (spL11 a b)
noncomputable def sp11 (a : (List Owner)) (b : (List Owner)) : R11 := (spO11 a b).getD default
noncomputable def spc11 (a : (List Owner)) (b : (List Owner)) : Bool := (spO11 a b).isSome
theorem oks11 (a : (List Owner)) (b : (List Owner)) (hc : spc11 a b = true) : Okay Pr GL 11 [.sl .sOwner a, .sl .sOwner b] [] (to11 (sp11 a b)) := by
  obtain ⟨n, h⟩ := auto_ok (nat11 a b) (fun s => show ent11 to11 a b (fun l => (s l).map to11) = (ent11 id a b s).map to11 by simp only [ent11, map_cond, Option.map_some, Option.map_none, id]) (ct11 a b) (show CT fun j => ent11 id a b j by dsimp only [ent11]; repeat (first | exact CT.jump _ | exact CT.const _ | apply CT.cond)) (isSome_getD hc)
  exact okay_of_run (H := H11) G0ok G0ok Tryz.func11 rfl (by kernel_rfl) n (by
    rw [run11]
    rw [show (fun l => runL Pr G0 H11 Tryz.f11 n (num11 l) (st11 a b l)) = shad (bod11 to11 a b) n from funext (shad11 a b n)]
    exact h)

/-! ### slices.Clone[[]uint32,uint32] -/
abbrev R24 := (List Int)
def to24 (r : R24) : Ans := ⟨.own 0, [.arr 57 (.i .u32) r]⟩
def H24 : Hint := ⟨fun _ => false, fun _ => ⟨[], []⟩, [], G0, nodp⟩
noncomputable def ent24 {R : Type} (ret : R24 → R) (s_0 : (List Int)) : Option R :=
    cond (Nat.beq s_0.length 0)
    (none)
    (cond (leB ((([] : List Int).length + (s_0 : List Int).length) * 4) 140737488355328) (some (ret (([] : List Int) ++ s_0))) none)
theorem run24 (J : Jmp) (s_0 : (List Int)) : runF Pr G0 H24 J GL Tryz.f24 [.sl (.i .u32) s_0] [] = ent24 to24 s_0 := by kernel_rfl
noncomputable def spO24 (s_0 : (List Int)) : Option R24 := ent24 id s_0
noncomputable def sp24 (s_0 : (List Int)) : R24 := (spO24 s_0).getD default
noncomputable def spc24 (s_0 : (List Int)) : Bool := (spO24 s_0).isSome
theorem oks24 (s_0 : (List Int)) (hc : spc24 s_0 = true) : Okay Pr GL 24 [.sl (.i .u32) s_0] [] (to24 (sp24 s_0)) :=
  okay_of_run (H := H24) G0ok G0ok Tryz.func24 rfl (by kernel_rfl) 0 ((run24 (runL Pr G0 H24 Tryz.f24 0) s_0).trans (auto_ok0 (show ent24 to24 s_0 = (ent24 id s_0).map to24 by simp only [ent24, map_cond, Option.map_some, Option.map_none, id]) (isSome_getD hc)))

/-! ### ref24.Place -/
abbrev R87 := Int
def to87 (r : R87) : Ans := ⟨.v (.int .i64 r), []⟩
inductive L87 where
  | l0 (x0 : Int)
def num87 : L87 → Nat
  | .l0 _ => 0
def H87 : Hint := ⟨fun n => [].any (Nat.beq n), hdAt [(0, ⟨fgt [1, 2, 5, 6] 46 0, []⟩)], [], G0, nodp⟩
noncomputable def st87 (p : Partition) (at_1 : Int) : L87 → St
  | .l0 x0 => ⟨mkE [(1, .v (.int .i64 at_1)), (2, .ref 0 0), (5, .v (.int .i64 (bop .quo .i64 at_1 16))), (6, .v (.int .i64 x0))] 46 0, [.cells 70 [.v (.string p.name), .v (.int .i64 p.entry), .v (.int .i64 p.action), .v (.int .i64 p.restarts), .v (.int .i64 p.inputs), .v (.int .i64 p.outputs), .sl .sRegion p.regions, .sl .sPort p.ports]], GL, 0, [], nodp⟩
noncomputable def bod87 {R : Type} (ret : R87 → R) (p : Partition) (at_1 : Int) (j : L87 → Option R) : L87 → Option R
  | .l0 x0 => cond (decide ((x0 : Int) < p.regions.length))
    (cond (inR x0 p.regions.length) (
      cond (decide (((bop .quo .i64 at_1 16) : Int) ≥ (atRegion p.regions x0.toNat).page))
        (cond (decide (((bop .quo .i64 at_1 16) : Int) < (IntKind.i64.wrap ((atRegion p.regions x0.toNat).page + (atRegion p.regions x0.toNat).pages))))
          (some (ret (IntKind.i64.wrap ((IntKind.i64.wrap ((IntKind.i64.wrap ((IntKind.i64.wrap ((atRegion p.regions x0.toNat).frame + (bop .quo .i64 at_1 16))) - (atRegion p.regions x0.toNat).page)) * 16)) + (bop .rem .i64 at_1 16)))))
          (j (.l0 (IntKind.i64.wrap (x0 + 1)))))
        (j (.l0 (IntKind.i64.wrap (x0 + 1))))) none)
    (some (ret (-1)))
noncomputable def ent87 {R : Type} (ret : R87 → R) (p : Partition) (at_1 : Int) (j : L87 → Option R) : Option R :=
    j (.l0 0)
theorem head87_0 (J : Jmp) (p : Partition) (at_1 : Int) (x0 : Int) : stepAt Pr G0 H87 J 0 0 (bodyOf Tryz.f87) (fin Pr H87 Tryz.f87) (st87 p at_1 (.l0 x0)) = bod87 to87 p at_1 (fun l => J (num87 l) (st87 p at_1 l)) (.l0 x0) := by kernel_rfl
theorem run87 (J : Jmp) (p : Partition) (at_1 : Int) : runF Pr G0 H87 J GL Tryz.f87 [.agg [.v (.string p.name), .v (.int .i64 p.entry), .v (.int .i64 p.action), .v (.int .i64 p.restarts), .v (.int .i64 p.inputs), .v (.int .i64 p.outputs), .sl .sRegion p.regions, .sl .sPort p.ports], .v (.int .i64 at_1)] [] = ent87 to87 p at_1 (fun l => J (num87 l) (st87 p at_1 l)) := by kernel_rfl
theorem shad87 (p : Partition) (at_1 : Int) : ∀ (n : Nat) (l : L87), runL Pr G0 H87 Tryz.f87 n (num87 l) (st87 p at_1 l) = shad (bod87 to87 p at_1) n l
  | 0, l => by cases l <;> rfl
  | n + 1, l => by
    have ih : (fun l => runL Pr G0 H87 Tryz.f87 n (num87 l) (st87 p at_1 l)) = shad (bod87 to87 p at_1) n := funext (shad87 p at_1 n)
    cases l with
    | l0 x0 => exact (step_eq ..).trans ((head87_0 ..).trans (by rw [ih]; rfl))
theorem nat87 (p : Partition) (at_1 : Int) (s : L87 → Option R87) (l : L87) : bod87 to87 p at_1 (fun l => (s l).map to87) l = (bod87 id p at_1 s l).map to87 := by
  cases l <;> simp only [bod87, map_cond, Option.map_some, Option.map_none, id]
theorem ct87 (p : Partition) (at_1 : Int) (l : L87) : CT fun j => bod87 id p at_1 j l := by
  cases l <;> (dsimp only [bod87]; repeat (first | exact CT.jump _ | exact CT.const _ | apply CT.cond))
noncomputable def spL87 (p : Partition) (at_1 : Int) : L87 → Option R87 := lfp (bod87 id p at_1)
theorem spL87_eq (p : Partition) (at_1 : Int) (l : L87) : spL87 p at_1 l = bod87 id p at_1 (spL87 p at_1) l := lfp_eq (ct87 p at_1) l
noncomputable def spO87 (p : Partition) (at_1 : Int) : Option R87 := ent87 id p at_1 (spL87 p at_1)
noncomputable def sp87 (p : Partition) (at_1 : Int) : R87 := (spO87 p at_1).getD default
noncomputable def spc87 (p : Partition) (at_1 : Int) : Bool := (spO87 p at_1).isSome
theorem oks87 (p : Partition) (at_1 : Int) (hc : spc87 p at_1 = true) : Okay Pr GL 87 [.agg [.v (.string p.name), .v (.int .i64 p.entry), .v (.int .i64 p.action), .v (.int .i64 p.restarts), .v (.int .i64 p.inputs), .v (.int .i64 p.outputs), .sl .sRegion p.regions, .sl .sPort p.ports], .v (.int .i64 at_1)] [] (to87 (sp87 p at_1)) := by
  obtain ⟨n, h⟩ := auto_ok (nat87 p at_1) (fun s => show ent87 to87 p at_1 (fun l => (s l).map to87) = (ent87 id p at_1 s).map to87 by simp only [ent87, map_cond, Option.map_some, Option.map_none, id]) (ct87 p at_1) (show CT fun j => ent87 id p at_1 j by dsimp only [ent87]; repeat (first | exact CT.jump _ | exact CT.const _ | apply CT.cond)) (isSome_getD hc)
  exact okay_of_run (H := H87) G0ok G0ok Tryz.func87 rfl (by kernel_rfl) n (by
    rw [run87]
    rw [show (fun l => runL Pr G0 H87 Tryz.f87 n (num87 l) (st87 p at_1 l)) = shad (bod87 to87 p at_1) n from funext (shad87 p at_1 n)]
    exact h)

/-! ### ref24.entry -/
abbrev R88 := Int
def to88 (r : R88) : Ans := ⟨.v (.int .u32 r), []⟩
def H88 : Hint := ⟨fun _ => false, fun _ => ⟨[], []⟩, [], G0, nodp⟩
noncomputable def ent88 {R : Type} (ret : R88 → R) (frame : Int) (rights : Int) : Option R :=
    some (ret (bop .or .u32 (bop .or .u32 2147483648 (bop .shl .u32 (IntKind.u32.wrap frame) 3)) (IntKind.u32.wrap rights)))
theorem run88 (J : Jmp) (frame : Int) (rights : Int) : runF Pr G0 H88 J GL Tryz.f88 [.v (.int .i64 frame), .v (.int .i64 rights)] [] = ent88 to88 frame rights := by kernel_rfl
noncomputable def spO88 (frame : Int) (rights : Int) : Option R88 := ent88 id frame rights
noncomputable def sp88 (frame : Int) (rights : Int) : R88 := (spO88 frame rights).getD default
theorem some88 (frame : Int) (rights : Int) : spO88 frame rights = some (sp88 frame rights) := isSome_getD (show (spO88 frame rights).isSome = true by simp only [spO88, ent88, isSome_cond, Option.isSome_some, cond_self])
theorem oks88 (frame : Int) (rights : Int) : Okay Pr GL 88 [.v (.int .i64 frame), .v (.int .i64 rights)] [] (to88 (sp88 frame rights)) :=
  okay_of_run (H := H88) G0ok G0ok Tryz.func88 rfl (by kernel_rfl) 0 ((run88 (runL Pr G0 H88 Tryz.f88 0) frame rights).trans (auto_ok0 (show ent88 to88 frame rights = (ent88 id frame rights).map to88 by simp only [ent88, map_cond, Option.map_some, Option.map_none, id]) (some88 frame rights)))

/-! ### ref24.rights -/
abbrev R89 := Int
def to89 (r : R89) : Ans := ⟨.v (.int .i64 r), []⟩
inductive L89 where
  | l0 (x0 : Int)
def num89 : L89 → Nat
  | .l0 _ => 0
def H89 : Hint := ⟨fun n => [].any (Nat.beq n), hdAt [(0, ⟨fgt [1, 2, 5] 44 0, []⟩)], [], G0, nodp⟩
noncomputable def st89 (p : Partition) (page : Int) : L89 → St
  | .l0 x0 => ⟨mkE [(1, .v (.int .i64 page)), (2, .ref 0 0), (5, .v (.int .i64 x0))] 44 0, [.cells 70 [.v (.string p.name), .v (.int .i64 p.entry), .v (.int .i64 p.action), .v (.int .i64 p.restarts), .v (.int .i64 p.inputs), .v (.int .i64 p.outputs), .sl .sRegion p.regions, .sl .sPort p.ports]], GL, 0, [], nodp⟩
noncomputable def bod89 {R : Type} (ret : R89 → R) (p : Partition) (page : Int) (j : L89 → Option R) : L89 → Option R
  | .l0 x0 => cond (decide ((x0 : Int) < p.regions.length))
    (cond (inR x0 p.regions.length) (
      cond (decide ((page : Int) ≥ (atRegion p.regions x0.toNat).page))
        (cond (inR x0 p.regions.length) (
          cond (inR x0 p.regions.length) (
            cond (decide ((page : Int) < (IntKind.i64.wrap ((atRegion p.regions x0.toNat).page + (atRegion p.regions x0.toNat).pages))))
              (cond (inR x0 p.regions.length) (some (ret ((atRegion p.regions x0.toNat).rights))) none)
              (j (.l0 (IntKind.i64.wrap (x0 + 1))))) none) none)
        (j (.l0 (IntKind.i64.wrap (x0 + 1))))) none)
    (some (ret 0))
noncomputable def ent89 {R : Type} (ret : R89 → R) (p : Partition) (page : Int) (j : L89 → Option R) : Option R :=
    j (.l0 0)
theorem head89_0 (J : Jmp) (p : Partition) (page : Int) (x0 : Int) : stepAt Pr G0 H89 J 0 0 (bodyOf Tryz.f89) (fin Pr H89 Tryz.f89) (st89 p page (.l0 x0)) = bod89 to89 p page (fun l => J (num89 l) (st89 p page l)) (.l0 x0) := by kernel_rfl
theorem run89 (J : Jmp) (p : Partition) (page : Int) : runF Pr G0 H89 J GL Tryz.f89 [.agg [.v (.string p.name), .v (.int .i64 p.entry), .v (.int .i64 p.action), .v (.int .i64 p.restarts), .v (.int .i64 p.inputs), .v (.int .i64 p.outputs), .sl .sRegion p.regions, .sl .sPort p.ports], .v (.int .i64 page)] [] = ent89 to89 p page (fun l => J (num89 l) (st89 p page l)) := by kernel_rfl
theorem shad89 (p : Partition) (page : Int) : ∀ (n : Nat) (l : L89), runL Pr G0 H89 Tryz.f89 n (num89 l) (st89 p page l) = shad (bod89 to89 p page) n l
  | 0, l => by cases l <;> rfl
  | n + 1, l => by
    have ih : (fun l => runL Pr G0 H89 Tryz.f89 n (num89 l) (st89 p page l)) = shad (bod89 to89 p page) n := funext (shad89 p page n)
    cases l with
    | l0 x0 => exact (step_eq ..).trans ((head89_0 ..).trans (by rw [ih]; rfl))
theorem nat89 (p : Partition) (page : Int) (s : L89 → Option R89) (l : L89) : bod89 to89 p page (fun l => (s l).map to89) l = (bod89 id p page s l).map to89 := by
  cases l <;> simp only [bod89, map_cond, Option.map_some, Option.map_none, id]
theorem ct89 (p : Partition) (page : Int) (l : L89) : CT fun j => bod89 id p page j l := by
  cases l <;> (dsimp only [bod89]; repeat (first | exact CT.jump _ | exact CT.const _ | apply CT.cond))
noncomputable def spL89 (p : Partition) (page : Int) : L89 → Option R89 := lfp (bod89 id p page)
theorem spL89_eq (p : Partition) (page : Int) (l : L89) : spL89 p page l = bod89 id p page (spL89 p page) l := lfp_eq (ct89 p page) l
noncomputable def spO89 (p : Partition) (page : Int) : Option R89 := ent89 id p page (spL89 p page)
noncomputable def sp89 (p : Partition) (page : Int) : R89 := (spO89 p page).getD default
noncomputable def spc89 (p : Partition) (page : Int) : Bool := (spO89 p page).isSome
theorem oks89 (p : Partition) (page : Int) (hc : spc89 p page = true) : Okay Pr GL 89 [.agg [.v (.string p.name), .v (.int .i64 p.entry), .v (.int .i64 p.action), .v (.int .i64 p.restarts), .v (.int .i64 p.inputs), .v (.int .i64 p.outputs), .sl .sRegion p.regions, .sl .sPort p.ports], .v (.int .i64 page)] [] (to89 (sp89 p page)) := by
  obtain ⟨n, h⟩ := auto_ok (nat89 p page) (fun s => show ent89 to89 p page (fun l => (s l).map to89) = (ent89 id p page s).map to89 by simp only [ent89, map_cond, Option.map_some, Option.map_none, id]) (ct89 p page) (show CT fun j => ent89 id p page j by dsimp only [ent89]; repeat (first | exact CT.jump _ | exact CT.const _ | apply CT.cond)) (isSome_getD hc)
  exact okay_of_run (H := H89) G0ok G0ok Tryz.func89 rfl (by kernel_rfl) n (by
    rw [run89]
    rw [show (fun l => runL Pr G0 H89 Tryz.f89 n (num89 l) (st89 p page l)) = shad (bod89 to89 p page) n from funext (shad89 p page n)]
    exact h)

/-! ### slices.Index[[]api.Owner,api.Owner] -/
abbrev R55 := Int
def to55 (r : R55) : Ans := ⟨.v (.int .i64 r), []⟩
inductive L55 where
  | l0 (x0 : Int)
def num55 : L55 → Nat
  | .l0 _ => 0
def H55 : Hint := ⟨fun n => [].any (Nat.beq n), hdAt [(0, ⟨fgt [0, 3, 7, 8] 19 0, []⟩)], [], G0, nodp⟩
noncomputable def st55 (s_0 : (List Owner)) (v : Owner) : L55 → St
  | .l0 x0 => ⟨mkE [(0, .sl .sOwner s_0), (3, .ref 0 0), (7, .v (.int .i64 s_0.length)), (8, .v (.int .i64 x0))] 19 0, [.cells 42 [.v (.int .i64 v.kind), .v (.int .i64 v.index), .v (.int .i64 v.port)]], GL, 0, [], nodp⟩
noncomputable def bod55 {R : Type} (ret : R55 → R) (s_0 : (List Owner)) (v : Owner) (j : L55 → Option R) : L55 → Option R
  | .l0 x0 => cond (decide ((x0 : Int) < s_0.length))
    (cond (inR x0 s_0.length) (
      cond (((v.kind : Int) == ((atOwner s_0 x0.toNat).kind)) && (((v.index : Int) == ((atOwner s_0 x0.toNat).index)) && (((v.port : Int) == ((atOwner s_0 x0.toNat).port)) && true)))
        (some (ret x0))
        (j (.l0 (IntKind.i64.wrap (x0 + 1))))) none)
    (some (ret (-1)))
noncomputable def ent55 {R : Type} (ret : R55 → R) (s_0 : (List Owner)) (v : Owner) (j : L55 → Option R) : Option R :=
    j (.l0 0)
theorem head55_0 (J : Jmp) (s_0 : (List Owner)) (v : Owner) (x0 : Int) : stepAt Pr G0 H55 J 0 0 (bodyOf Tryz.f55) (fin Pr H55 Tryz.f55) (st55 s_0 v (.l0 x0)) = bod55 to55 s_0 v (fun l => J (num55 l) (st55 s_0 v l)) (.l0 x0) := by kernel_rfl
theorem run55 (J : Jmp) (s_0 : (List Owner)) (v : Owner) : runF Pr G0 H55 J GL Tryz.f55 [.sl .sOwner s_0, .agg [.v (.int .i64 v.kind), .v (.int .i64 v.index), .v (.int .i64 v.port)]] [] = ent55 to55 s_0 v (fun l => J (num55 l) (st55 s_0 v l)) := by kernel_rfl
theorem shad55 (s_0 : (List Owner)) (v : Owner) : ∀ (n : Nat) (l : L55), runL Pr G0 H55 Tryz.f55 n (num55 l) (st55 s_0 v l) = shad (bod55 to55 s_0 v) n l
  | 0, l => by cases l <;> rfl
  | n + 1, l => by
    have ih : (fun l => runL Pr G0 H55 Tryz.f55 n (num55 l) (st55 s_0 v l)) = shad (bod55 to55 s_0 v) n := funext (shad55 s_0 v n)
    cases l with
    | l0 x0 => exact (step_eq ..).trans ((head55_0 ..).trans (by rw [ih]; rfl))
theorem nat55 (s_0 : (List Owner)) (v : Owner) (s : L55 → Option R55) (l : L55) : bod55 to55 s_0 v (fun l => (s l).map to55) l = (bod55 id s_0 v s l).map to55 := by
  cases l <;> simp only [bod55, map_cond, Option.map_some, Option.map_none, id]
theorem ct55 (s_0 : (List Owner)) (v : Owner) (l : L55) : CT fun j => bod55 id s_0 v j l := by
  cases l <;> (dsimp only [bod55]; repeat (first | exact CT.jump _ | exact CT.const _ | apply CT.cond))
noncomputable def spL55 (s_0 : (List Owner)) (v : Owner) : L55 → Option R55 := lfp (bod55 id s_0 v)
theorem spL55_eq (s_0 : (List Owner)) (v : Owner) (l : L55) : spL55 s_0 v l = bod55 id s_0 v (spL55 s_0 v) l := lfp_eq (ct55 s_0 v) l
noncomputable def spO55 (s_0 : (List Owner)) (v : Owner) : Option R55 := ent55 id s_0 v (spL55 s_0 v)
noncomputable def sp55 (s_0 : (List Owner)) (v : Owner) : R55 := (spO55 s_0 v).getD default
noncomputable def spc55 (s_0 : (List Owner)) (v : Owner) : Bool := (spO55 s_0 v).isSome
theorem oks55 (s_0 : (List Owner)) (v : Owner) (hc : spc55 s_0 v = true) : Okay Pr GL 55 [.sl .sOwner s_0, .agg [.v (.int .i64 v.kind), .v (.int .i64 v.index), .v (.int .i64 v.port)]] [] (to55 (sp55 s_0 v)) := by
  obtain ⟨n, h⟩ := auto_ok (nat55 s_0 v) (fun s => show ent55 to55 s_0 v (fun l => (s l).map to55) = (ent55 id s_0 v s).map to55 by simp only [ent55, map_cond, Option.map_some, Option.map_none, id]) (ct55 s_0 v) (show CT fun j => ent55 id s_0 v j by dsimp only [ent55]; repeat (first | exact CT.jump _ | exact CT.const _ | apply CT.cond)) (isSome_getD hc)
  exact okay_of_run (H := H55) G0ok G0ok Tryz.func55 rfl (by kernel_rfl) n (by
    rw [run55]
    rw [show (fun l => runL Pr G0 H55 Tryz.f55 n (num55 l) (st55 s_0 v l)) = shad (bod55 to55 s_0 v) n from funext (shad55 s_0 v n)]
    exact h)

/-! ### (*mem.Memory).there -/
abbrev R128 := Int
def to128 (r : R128) : Ans := ⟨.v (.int .i64 r), []⟩
def H128 : Hint := ⟨fun _ => false, fun _ => ⟨[], []⟩, [], G0, nodp⟩
noncomputable def ent128 {R : Type} (ret : R128 → R) (m : (Option MemMemory)) (at_1 : Int) (n_2 : Int) : Option R :=
    cond m.isNone
    (some (ret 3))
    (cond (decide ((at_1 : Int) < 0))
      (some (ret 51))
      (cond (decide ((n_2 : Int) < 0))
        (some (ret 51))
        (cond m.isSome (
          cond (decide ((at_1 : Int) > ((m.getD default).words).length))
            (some (ret 51))
            (cond m.isSome (
              cond (decide ((n_2 : Int) > (IntKind.i64.wrap (((m.getD default).words).length - at_1))))
                (some (ret 51))
                (some (ret 0))) none)) none)))
theorem run128 (J : Jmp) (m : (Option MemMemory)) (at_1 : Int) (n_2 : Int) : runF Pr G0 H128 J GL Tryz.f128 [.op .sMemMemory m, .v (.int .i64 at_1), .v (.int .i64 n_2)] [] = ent128 to128 m at_1 n_2 := by kernel_rfl
noncomputable def spO128 (m : (Option MemMemory)) (at_1 : Int) (n_2 : Int) : Option R128 := ent128 id m at_1 n_2
noncomputable def sp128 (m : (Option MemMemory)) (at_1 : Int) (n_2 : Int) : R128 := (spO128 m at_1 n_2).getD default
noncomputable def spc128 (m : (Option MemMemory)) (at_1 : Int) (n_2 : Int) : Bool := (spO128 m at_1 n_2).isSome
theorem oks128 (m : (Option MemMemory)) (at_1 : Int) (n_2 : Int) (hc : spc128 m at_1 n_2 = true) : Okay Pr GL 128 [.op .sMemMemory m, .v (.int .i64 at_1), .v (.int .i64 n_2)] [] (to128 (sp128 m at_1 n_2)) :=
  okay_of_run (H := H128) G0ok G0ok Tryz.func128 rfl (by kernel_rfl) 0 ((run128 (runL Pr G0 H128 Tryz.f128 0) m at_1 n_2).trans (auto_ok0 (show ent128 to128 m at_1 n_2 = (ent128 id m at_1 n_2).map to128 by simp only [ent128, map_cond, Option.map_some, Option.map_none, id]) (isSome_getD hc)))

noncomputable def g23 (args : List AV) (hp : List Blk) : Option (Bool × AV × List Blk) :=
  match hp, args with
  | [], [x0, x1] => (rdL (.sl .sOwner) x0).bind fun a0 => (rdS .sOwner x1).bind fun a1 => some ((spc23 a0 a1), .v (.bool (sp23 a0 a1)), [])
  | _, _ => none
theorem g23_ok {args : List AV} {hp : List Blk} {b : Bool} {r : AV} {hp' : List Blk} (h : g23 args hp = some (b, r, hp')) (hb : b = true) : FnOk Pr 23 ∧ Okay Pr GL 23 args hp ⟨r, hp'⟩ := by
  unfold g23 at h
  split at h
  · simp only [Option.bind_eq_some_iff] at h
    obtain ⟨a0, h0, a1, h1, h⟩ := h
    cases h; exact ⟨fnok Tryz.func23 (by kernel_rfl) rfl, (oks23 a0 a1 hb).ats (.cons (rdL_V h0) (.cons (rdS_V h1) .nil))⟩
  · cases h
noncomputable def g42 (args : List AV) (hp : List Blk) : Option (Bool × AV × List Blk) :=
  match hp, args with
  | [], [x0, x1] => (rdS .sPartition x0).bind fun a0 => (rdS .sPartition x1).bind fun a1 => some ((spc42 a0 a1), .v (.bool (sp42 a0 a1)), [])
  | _, _ => none
theorem g42_ok {args : List AV} {hp : List Blk} {b : Bool} {r : AV} {hp' : List Blk} (h : g42 args hp = some (b, r, hp')) (hb : b = true) : FnOk Pr 42 ∧ Okay Pr GL 42 args hp ⟨r, hp'⟩ := by
  unfold g42 at h
  split at h
  · simp only [Option.bind_eq_some_iff] at h
    obtain ⟨a0, h0, a1, h1, h⟩ := h
    cases h; exact ⟨fnok Tryz.func42 (by kernel_rfl) rfl, (oks42 a0 a1 hb).ats (.cons (rdS_V h0) (.cons (rdS_V h1) .nil))⟩
  · cases h
noncomputable def g57 (args : List AV) (hp : List Blk) : Option (Bool × AV × List Blk) :=
  match hp, args with
  | [], [] => some (true, .agg [.v (.int .i64 sp57.first), .v (.int .i64 sp57.second)], [])
  | _, _ => none
theorem g57_ok {args : List AV} {hp : List Blk} {b : Bool} {r : AV} {hp' : List Blk} (h : g57 args hp = some (b, r, hp')) (hb : b = true) : FnOk Pr 57 ∧ Okay Pr GL 57 args hp ⟨r, hp'⟩ := by
  unfold g57 at h
  split at h
  · cases h; exact ⟨fnok Tryz.func57 (by kernel_rfl) rfl, (oks57 ).ats .nil⟩
  · cases h
noncomputable def g60 (args : List AV) (hp : List Blk) : Option (Bool × AV × List Blk) :=
  match hp, args with
  | [], [x0] => (rdL (.i .i64) x0).bind fun a0 => some (true, .agg [.v (.int .i64 ((sp60 a0).first)), .v (.int .i64 ((sp60 a0).second))], [])
  | _, _ => none
theorem g60_ok {args : List AV} {hp : List Blk} {b : Bool} {r : AV} {hp' : List Blk} (h : g60 args hp = some (b, r, hp')) (hb : b = true) : FnOk Pr 60 ∧ Okay Pr GL 60 args hp ⟨r, hp'⟩ := by
  unfold g60 at h
  split at h
  · simp only [Option.bind_eq_some_iff] at h
    obtain ⟨a0, h0, h⟩ := h
    cases h; exact ⟨fnok Tryz.func60 (by kernel_rfl) rfl, (oks60 a0).ats (.cons (rdL_V h0) .nil)⟩
  · cases h
noncomputable def g99 (args : List AV) (hp : List Blk) : Option (Bool × AV × List Blk) :=
  match hp, args with
  | [], [x0, x1, x2] => (rdL (.i .i64) x0).bind fun a0 => (rdL (.i .i64) x1).bind fun a1 => (rdL (.i .i64) x2).bind fun a2 => some (true, .v (.bool (sp99 a0 a1 a2)), [])
  | _, _ => none
theorem g99_ok {args : List AV} {hp : List Blk} {b : Bool} {r : AV} {hp' : List Blk} (h : g99 args hp = some (b, r, hp')) (hb : b = true) : FnOk Pr 99 ∧ Okay Pr GL 99 args hp ⟨r, hp'⟩ := by
  unfold g99 at h
  split at h
  · simp only [Option.bind_eq_some_iff] at h
    obtain ⟨a0, h0, a1, h1, a2, h2, h⟩ := h
    cases h; exact ⟨fnok Tryz.func99 (by kernel_rfl) rfl, (oks99 a0 a1 a2).ats (.cons (rdL_V h0) (.cons (rdL_V h1) (.cons (rdL_V h2) .nil)))⟩
  · cases h
noncomputable def g103 (args : List AV) (hp : List Blk) : Option (Bool × AV × List Blk) :=
  match hp, args with
  | [], [x0, x1] => (rdS .sConfig x0).bind fun a0 => (rdL (.i .i64) x1).bind fun a1 => some ((spc103 a0 a1), .tup [.v (.int .i64 ((sp103 a0 a1).1)), .v (.int .i64 ((sp103 a0 a1).2))], [])
  | _, _ => none
theorem g103_ok {args : List AV} {hp : List Blk} {b : Bool} {r : AV} {hp' : List Blk} (h : g103 args hp = some (b, r, hp')) (hb : b = true) : FnOk Pr 103 ∧ Okay Pr GL 103 args hp ⟨r, hp'⟩ := by
  unfold g103 at h
  split at h
  · simp only [Option.bind_eq_some_iff] at h
    obtain ⟨a0, h0, a1, h1, h⟩ := h
    cases h; exact ⟨fnok Tryz.func103 (by kernel_rfl) rfl, (oks103 a0 a1 hb).ats (.cons (rdS_V h0) (.cons (rdL_V h1) .nil))⟩
  · cases h
noncomputable def g104 (args : List AV) (hp : List Blk) : Option (Bool × AV × List Blk) :=
  match hp, args with
  | [], [x0, x1, x2] => (rdS .sConfig x0).bind fun a0 => (rdL (.i .i64) x1).bind fun a1 => (rdL (.i .i64) x2).bind fun a2 => some ((spc104 a0 a1 a2), .v (.bool (sp104 a0 a1 a2)), [])
  | _, _ => none
theorem g104_ok {args : List AV} {hp : List Blk} {b : Bool} {r : AV} {hp' : List Blk} (h : g104 args hp = some (b, r, hp')) (hb : b = true) : FnOk Pr 104 ∧ Okay Pr GL 104 args hp ⟨r, hp'⟩ := by
  unfold g104 at h
  split at h
  · simp only [Option.bind_eq_some_iff] at h
    obtain ⟨a0, h0, a1, h1, a2, h2, h⟩ := h
    cases h; exact ⟨fnok Tryz.func104 (by kernel_rfl) rfl, (oks104 a0 a1 a2 hb).ats (.cons (rdS_V h0) (.cons (rdL_V h1) (.cons (rdL_V h2) .nil)))⟩
  · cases h
noncomputable def g105 (args : List AV) (hp : List Blk) : Option (Bool × AV × List Blk) :=
  match hp, args with
  | [], [x0, x1, x2, x3] => (rdL (.i .i64) x0).bind fun a0 => (rdL (.i .i64) x1).bind fun a1 => (rdL (.i .i64) x2).bind fun a2 => (rdL (.i .i64) x3).bind fun a3 => some (true, .v (.bool (sp105 a0 a1 a2 a3)), [])
  | _, _ => none
theorem g105_ok {args : List AV} {hp : List Blk} {b : Bool} {r : AV} {hp' : List Blk} (h : g105 args hp = some (b, r, hp')) (hb : b = true) : FnOk Pr 105 ∧ Okay Pr GL 105 args hp ⟨r, hp'⟩ := by
  unfold g105 at h
  split at h
  · simp only [Option.bind_eq_some_iff] at h
    obtain ⟨a0, h0, a1, h1, a2, h2, a3, h3, h⟩ := h
    cases h; exact ⟨fnok Tryz.func105 (by kernel_rfl) rfl, (oks105 a0 a1 a2 a3).ats (.cons (rdL_V h0) (.cons (rdL_V h1) (.cons (rdL_V h2) (.cons (rdL_V h3) .nil))))⟩
  · cases h
noncomputable def g131 (args : List AV) (hp : List Blk) : Option (Bool × AV × List Blk) :=
  match hp, args with
  | [], [x0, x1, x2] => (rdL .b x0).bind fun a0 => (rdL (.i .i64) x1).bind fun a1 => (rdS .sWhere x2).bind fun a2 => some (true, .agg [.v (.int .i64 ((sp131 a0 a1 a2).e)), .v (.int .i64 ((sp131 a0 a1 a2).where_.first)), .v (.int .i64 ((sp131 a0 a1 a2).where_.second))], [])
  | _, _ => none
theorem g131_ok {args : List AV} {hp : List Blk} {b : Bool} {r : AV} {hp' : List Blk} (h : g131 args hp = some (b, r, hp')) (hb : b = true) : FnOk Pr 131 ∧ Okay Pr GL 131 args hp ⟨r, hp'⟩ := by
  unfold g131 at h
  split at h
  · simp only [Option.bind_eq_some_iff] at h
    obtain ⟨a0, h0, a1, h1, a2, h2, h⟩ := h
    cases h; exact ⟨fnok Tryz.func131 (by kernel_rfl) rfl, (oks131 a0 a1 a2).ats (.cons (rdL_V h0) (.cons (rdL_V h1) (.cons (rdS_V h2) .nil)))⟩
  · cases h
noncomputable def g132 (args : List AV) (hp : List Blk) : Option (Bool × AV × List Blk) :=
  match hp, args with
  | [], [x0, x1, x2] => (rdL (.i .i64) x0).bind fun a0 => (rdL (.i .i64) x1).bind fun a1 => (rdL (.i .i64) x2).bind fun a2 => some (true, .v (.bool (sp132 a0 a1 a2)), [])
  | _, _ => none
theorem g132_ok {args : List AV} {hp : List Blk} {b : Bool} {r : AV} {hp' : List Blk} (h : g132 args hp = some (b, r, hp')) (hb : b = true) : FnOk Pr 132 ∧ Okay Pr GL 132 args hp ⟨r, hp'⟩ := by
  unfold g132 at h
  split at h
  · simp only [Option.bind_eq_some_iff] at h
    obtain ⟨a0, h0, a1, h1, a2, h2, h⟩ := h
    cases h; exact ⟨fnok Tryz.func132 (by kernel_rfl) rfl, (oks132 a0 a1 a2).ats (.cons (rdL_V h0) (.cons (rdL_V h1) (.cons (rdL_V h2) .nil)))⟩
  · cases h
noncomputable def g161 (args : List AV) (hp : List Blk) : Option (Bool × AV × List Blk) :=
  match hp, args with
  | [], [x0] => (rdL (.i .i64) x0).bind fun a0 => some (true, .agg [.v (.int .i64 ((sp161 a0).first)), .v (.int .i64 ((sp161 a0).second))], [])
  | _, _ => none
theorem g161_ok {args : List AV} {hp : List Blk} {b : Bool} {r : AV} {hp' : List Blk} (h : g161 args hp = some (b, r, hp')) (hb : b = true) : FnOk Pr 161 ∧ Okay Pr GL 161 args hp ⟨r, hp'⟩ := by
  unfold g161 at h
  split at h
  · simp only [Option.bind_eq_some_iff] at h
    obtain ⟨a0, h0, h⟩ := h
    cases h; exact ⟨fnok Tryz.func161 (by kernel_rfl) rfl, (oks161 a0).ats (.cons (rdL_V h0) .nil)⟩
  · cases h
noncomputable def g164 (args : List AV) (hp : List Blk) : Option (Bool × AV × List Blk) :=
  match hp, args with
  | [], [x0, x1] => (rdL (.i .i64) x0).bind fun a0 => (rdL (.i .i64) x1).bind fun a1 => some (true, .agg [.v (.int .i64 ((sp164 a0 a1).first)), .v (.int .i64 ((sp164 a0 a1).second))], [])
  | _, _ => none
theorem g164_ok {args : List AV} {hp : List Blk} {b : Bool} {r : AV} {hp' : List Blk} (h : g164 args hp = some (b, r, hp')) (hb : b = true) : FnOk Pr 164 ∧ Okay Pr GL 164 args hp ⟨r, hp'⟩ := by
  unfold g164 at h
  split at h
  · simp only [Option.bind_eq_some_iff] at h
    obtain ⟨a0, h0, a1, h1, h⟩ := h
    cases h; exact ⟨fnok Tryz.func164 (by kernel_rfl) rfl, (oks164 a0 a1).ats (.cons (rdL_V h0) (.cons (rdL_V h1) .nil))⟩
  · cases h
noncomputable def g167 (args : List AV) (hp : List Blk) : Option (Bool × AV × List Blk) :=
  match hp, args with
  | [], [x0, x1, x2, x3] => (rdL (.i .i64) x0).bind fun a0 => (rdL (.i .i64) x1).bind fun a1 => (rdL (.i .i64) x2).bind fun a2 => (rdL (.i .i64) x3).bind fun a3 => some (true, .v (.bool (sp167 a0 a1 a2 a3)), [])
  | _, _ => none
theorem g167_ok {args : List AV} {hp : List Blk} {b : Bool} {r : AV} {hp' : List Blk} (h : g167 args hp = some (b, r, hp')) (hb : b = true) : FnOk Pr 167 ∧ Okay Pr GL 167 args hp ⟨r, hp'⟩ := by
  unfold g167 at h
  split at h
  · simp only [Option.bind_eq_some_iff] at h
    obtain ⟨a0, h0, a1, h1, a2, h2, a3, h3, h⟩ := h
    cases h; exact ⟨fnok Tryz.func167 (by kernel_rfl) rfl, (oks167 a0 a1 a2 a3).ats (.cons (rdL_V h0) (.cons (rdL_V h1) (.cons (rdL_V h2) (.cons (rdL_V h3) .nil))))⟩
  · cases h
noncomputable def g71 (args : List AV) (hp : List Blk) : Option (Bool × AV × List Blk) :=
  match hp, args with
  | [], [x0] => (rdS .sChannel x0).bind fun a0 => some (true, .v (.int .i64 (sp71 a0)), [])
  | _, _ => none
theorem g71_ok {args : List AV} {hp : List Blk} {b : Bool} {r : AV} {hp' : List Blk} (h : g71 args hp = some (b, r, hp')) (hb : b = true) : FnOk Pr 71 ∧ Okay Pr GL 71 args hp ⟨r, hp'⟩ := by
  unfold g71 at h
  split at h
  · simp only [Option.bind_eq_some_iff] at h
    obtain ⟨a0, h0, h⟩ := h
    cases h; exact ⟨fnok Tryz.func71 (by kernel_rfl) rfl, (oks71 a0).ats (.cons (rdS_V h0) .nil)⟩
  · cases h
noncomputable def g115 (args : List AV) (hp : List Blk) : Option (Bool × AV × List Blk) :=
  match args, hp with
  | [.v (.int .i64 y0), .ref 0 0], [.cells 3 [.v (.int .i64 y1)]] => some (true, .v (.int .i64 ((sp115 y0 y1).1)), [.cells 3 [.v (.int .i64 ((sp115 y0 y1).2))]])
  | _, _ => none
theorem g115_ok {args : List AV} {hp : List Blk} {b : Bool} {r : AV} {hp' : List Blk} (h : g115 args hp = some (b, r, hp')) (hb : b = true) : FnOk Pr 115 ∧ Okay Pr GL 115 args hp ⟨r, hp'⟩ := by
  unfold g115 at h
  split at h
  · cases h; exact ⟨fnok Tryz.func115 (by kernel_rfl) rfl, oks115 _ _⟩
  · cases h
noncomputable def g129 (args : List AV) (hp : List Blk) : Option (Bool × AV × List Blk) :=
  match hp, args with
  | [], [x0] => (rdS .sChannel x0).bind fun a0 => some (true, .v (.int .i64 (sp129 a0)), [])
  | _, _ => none
theorem g129_ok {args : List AV} {hp : List Blk} {b : Bool} {r : AV} {hp' : List Blk} (h : g129 args hp = some (b, r, hp')) (hb : b = true) : FnOk Pr 129 ∧ Okay Pr GL 129 args hp ⟨r, hp'⟩ := by
  unfold g129 at h
  split at h
  · simp only [Option.bind_eq_some_iff] at h
    obtain ⟨a0, h0, h⟩ := h
    cases h; exact ⟨fnok Tryz.func129 (by kernel_rfl) rfl, (oks129 a0).ats (.cons (rdS_V h0) .nil)⟩
  · cases h
noncomputable def g8 (args : List AV) (hp : List Blk) : Option (Bool × AV × List Blk) :=
  match hp, args with
  | [], [x0] => (rdL (.sl (.i .u32)) x0).bind fun a0 => some ((spc8 a0), .own 0, [.arr 57 (.i .u32) (sp8 a0)])
  | _, _ => none
theorem g8_ok {args : List AV} {hp : List Blk} {b : Bool} {r : AV} {hp' : List Blk} (h : g8 args hp = some (b, r, hp')) (hb : b = true) : FnOk Pr 8 ∧ Okay Pr GL 8 args hp ⟨r, hp'⟩ := by
  unfold g8 at h
  split at h
  · simp only [Option.bind_eq_some_iff] at h
    obtain ⟨a0, h0, h⟩ := h
    cases h; exact ⟨fnok Tryz.func8 (by kernel_rfl) rfl, (oks8 a0 hb).ats (.cons (rdL_V h0) .nil)⟩
  · cases h
noncomputable def g11 (args : List AV) (hp : List Blk) : Option (Bool × AV × List Blk) :=
  match hp, args with
  | [], [x0, x1] => (rdL (.sl .sOwner) x0).bind fun a0 => (rdL (.sl .sOwner) x1).bind fun a1 => some ((spc11 a0 a1), .v (.bool (sp11 a0 a1)), [])
  | _, _ => none
theorem g11_ok {args : List AV} {hp : List Blk} {b : Bool} {r : AV} {hp' : List Blk} (h : g11 args hp = some (b, r, hp')) (hb : b = true) : FnOk Pr 11 ∧ Okay Pr GL 11 args hp ⟨r, hp'⟩ := by
  unfold g11 at h
  split at h
  · simp only [Option.bind_eq_some_iff] at h
    obtain ⟨a0, h0, a1, h1, h⟩ := h
    cases h; exact ⟨fnok Tryz.func11 (by kernel_rfl) rfl, (oks11 a0 a1 hb).ats (.cons (rdL_V h0) (.cons (rdL_V h1) .nil))⟩
  · cases h
noncomputable def g24 (args : List AV) (hp : List Blk) : Option (Bool × AV × List Blk) :=
  match hp, args with
  | [], [x0] => (rdL (.sl (.i .u32)) x0).bind fun a0 => some ((spc24 a0), .own 0, [.arr 57 (.i .u32) (sp24 a0)])
  | _, _ => none
theorem g24_ok {args : List AV} {hp : List Blk} {b : Bool} {r : AV} {hp' : List Blk} (h : g24 args hp = some (b, r, hp')) (hb : b = true) : FnOk Pr 24 ∧ Okay Pr GL 24 args hp ⟨r, hp'⟩ := by
  unfold g24 at h
  split at h
  · simp only [Option.bind_eq_some_iff] at h
    obtain ⟨a0, h0, h⟩ := h
    cases h; exact ⟨fnok Tryz.func24 (by kernel_rfl) rfl, (oks24 a0 hb).ats (.cons (rdL_V h0) .nil)⟩
  · cases h
noncomputable def g87 (args : List AV) (hp : List Blk) : Option (Bool × AV × List Blk) :=
  match hp, args with
  | [], [x0, x1] => (rdS .sPartition x0).bind fun a0 => (rdL (.i .i64) x1).bind fun a1 => some ((spc87 a0 a1), .v (.int .i64 (sp87 a0 a1)), [])
  | _, _ => none
theorem g87_ok {args : List AV} {hp : List Blk} {b : Bool} {r : AV} {hp' : List Blk} (h : g87 args hp = some (b, r, hp')) (hb : b = true) : FnOk Pr 87 ∧ Okay Pr GL 87 args hp ⟨r, hp'⟩ := by
  unfold g87 at h
  split at h
  · simp only [Option.bind_eq_some_iff] at h
    obtain ⟨a0, h0, a1, h1, h⟩ := h
    cases h; exact ⟨fnok Tryz.func87 (by kernel_rfl) rfl, (oks87 a0 a1 hb).ats (.cons (rdS_V h0) (.cons (rdL_V h1) .nil))⟩
  · cases h
noncomputable def g88 (args : List AV) (hp : List Blk) : Option (Bool × AV × List Blk) :=
  match hp, args with
  | [], [x0, x1] => (rdL (.i .i64) x0).bind fun a0 => (rdL (.i .i64) x1).bind fun a1 => some (true, .v (.int .u32 (sp88 a0 a1)), [])
  | _, _ => none
theorem g88_ok {args : List AV} {hp : List Blk} {b : Bool} {r : AV} {hp' : List Blk} (h : g88 args hp = some (b, r, hp')) (hb : b = true) : FnOk Pr 88 ∧ Okay Pr GL 88 args hp ⟨r, hp'⟩ := by
  unfold g88 at h
  split at h
  · simp only [Option.bind_eq_some_iff] at h
    obtain ⟨a0, h0, a1, h1, h⟩ := h
    cases h; exact ⟨fnok Tryz.func88 (by kernel_rfl) rfl, (oks88 a0 a1).ats (.cons (rdL_V h0) (.cons (rdL_V h1) .nil))⟩
  · cases h
noncomputable def g89 (args : List AV) (hp : List Blk) : Option (Bool × AV × List Blk) :=
  match hp, args with
  | [], [x0, x1] => (rdS .sPartition x0).bind fun a0 => (rdL (.i .i64) x1).bind fun a1 => some ((spc89 a0 a1), .v (.int .i64 (sp89 a0 a1)), [])
  | _, _ => none
theorem g89_ok {args : List AV} {hp : List Blk} {b : Bool} {r : AV} {hp' : List Blk} (h : g89 args hp = some (b, r, hp')) (hb : b = true) : FnOk Pr 89 ∧ Okay Pr GL 89 args hp ⟨r, hp'⟩ := by
  unfold g89 at h
  split at h
  · simp only [Option.bind_eq_some_iff] at h
    obtain ⟨a0, h0, a1, h1, h⟩ := h
    cases h; exact ⟨fnok Tryz.func89 (by kernel_rfl) rfl, (oks89 a0 a1 hb).ats (.cons (rdS_V h0) (.cons (rdL_V h1) .nil))⟩
  · cases h
noncomputable def g55 (args : List AV) (hp : List Blk) : Option (Bool × AV × List Blk) :=
  match hp, args with
  | [], [x0, x1] => (rdL (.sl .sOwner) x0).bind fun a0 => (rdS .sOwner x1).bind fun a1 => some ((spc55 a0 a1), .v (.int .i64 (sp55 a0 a1)), [])
  | _, _ => none
theorem g55_ok {args : List AV} {hp : List Blk} {b : Bool} {r : AV} {hp' : List Blk} (h : g55 args hp = some (b, r, hp')) (hb : b = true) : FnOk Pr 55 ∧ Okay Pr GL 55 args hp ⟨r, hp'⟩ := by
  unfold g55 at h
  split at h
  · simp only [Option.bind_eq_some_iff] at h
    obtain ⟨a0, h0, a1, h1, h⟩ := h
    cases h; exact ⟨fnok Tryz.func55 (by kernel_rfl) rfl, (oks55 a0 a1 hb).ats (.cons (rdL_V h0) (.cons (rdS_V h1) .nil))⟩
  · cases h
noncomputable def g128 (args : List AV) (hp : List Blk) : Option (Bool × AV × List Blk) :=
  match hp, args with
  | [], [x0, x1, x2] => (rdL (.p .sMemMemory) x0).bind fun a0 => (rdL (.i .i64) x1).bind fun a1 => (rdL (.i .i64) x2).bind fun a2 => some ((spc128 a0 a1 a2), .v (.int .i64 (sp128 a0 a1 a2)), [])
  | _, _ => none
theorem g128_ok {args : List AV} {hp : List Blk} {b : Bool} {r : AV} {hp' : List Blk} (h : g128 args hp = some (b, r, hp')) (hb : b = true) : FnOk Pr 128 ∧ Okay Pr GL 128 args hp ⟨r, hp'⟩ := by
  unfold g128 at h
  split at h
  · simp only [Option.bind_eq_some_iff] at h
    obtain ⟨a0, h0, a1, h1, a2, h2, h⟩ := h
    cases h; exact ⟨fnok Tryz.func128 (by kernel_rfl) rfl, (oks128 a0 a1 a2 hb).ats (.cons (rdL_V h0) (.cons (rdL_V h1) (.cons (rdL_V h2) .nil)))⟩
  · cases h
noncomputable def GA : Gam := fun c args hp => match c with
  | .f f => pick1 23 f (g23 args hp) (pick1 42 f (g42 args hp) (pick1 57 f (g57 args hp) (pick1 60 f (g60 args hp) (pick1 99 f (g99 args hp) (pick1 103 f (g103 args hp) (pick1 104 f (g104 args hp) (pick1 105 f (g105 args hp) (pick1 131 f (g131 args hp) (pick1 132 f (g132 args hp) (pick1 161 f (g161 args hp) (pick1 164 f (g164 args hp) (pick1 167 f (g167 args hp) (pick1 71 f (g71 args hp) (pick1 115 f (g115 args hp) (pick1 129 f (g129 args hp) (pick1 8 f (g8 args hp) (pick1 11 f (g11 args hp) (pick1 24 f (g24 args hp) (pick1 87 f (g87 args hp) (pick1 88 f (g88 args hp) (pick1 89 f (g89 args hp) (pick1 55 f (g55 args hp) (pick1 128 f (g128 args hp) (none))))))))))))))))))))))))
  | .c x => none
theorem GAok : GOk Pr GL GA := by
  intro c args hp b r hp' h hb
  cases c with
  | f f =>
    simp only [GA] at h
    rcases pick1_ok h with ⟨rfl, h⟩ | h
    · exact g23_ok h hb
    rcases pick1_ok h with ⟨rfl, h⟩ | h
    · exact g42_ok h hb
    rcases pick1_ok h with ⟨rfl, h⟩ | h
    · exact g57_ok h hb
    rcases pick1_ok h with ⟨rfl, h⟩ | h
    · exact g60_ok h hb
    rcases pick1_ok h with ⟨rfl, h⟩ | h
    · exact g99_ok h hb
    rcases pick1_ok h with ⟨rfl, h⟩ | h
    · exact g103_ok h hb
    rcases pick1_ok h with ⟨rfl, h⟩ | h
    · exact g104_ok h hb
    rcases pick1_ok h with ⟨rfl, h⟩ | h
    · exact g105_ok h hb
    rcases pick1_ok h with ⟨rfl, h⟩ | h
    · exact g131_ok h hb
    rcases pick1_ok h with ⟨rfl, h⟩ | h
    · exact g132_ok h hb
    rcases pick1_ok h with ⟨rfl, h⟩ | h
    · exact g161_ok h hb
    rcases pick1_ok h with ⟨rfl, h⟩ | h
    · exact g164_ok h hb
    rcases pick1_ok h with ⟨rfl, h⟩ | h
    · exact g167_ok h hb
    rcases pick1_ok h with ⟨rfl, h⟩ | h
    · exact g71_ok h hb
    rcases pick1_ok h with ⟨rfl, h⟩ | h
    · exact g115_ok h hb
    rcases pick1_ok h with ⟨rfl, h⟩ | h
    · exact g129_ok h hb
    rcases pick1_ok h with ⟨rfl, h⟩ | h
    · exact g8_ok h hb
    rcases pick1_ok h with ⟨rfl, h⟩ | h
    · exact g11_ok h hb
    rcases pick1_ok h with ⟨rfl, h⟩ | h
    · exact g24_ok h hb
    rcases pick1_ok h with ⟨rfl, h⟩ | h
    · exact g87_ok h hb
    rcases pick1_ok h with ⟨rfl, h⟩ | h
    · exact g88_ok h hb
    rcases pick1_ok h with ⟨rfl, h⟩ | h
    · exact g89_ok h hb
    rcases pick1_ok h with ⟨rfl, h⟩ | h
    · exact g55_ok h hb
    rcases pick1_ok h with ⟨rfl, h⟩ | h
    · exact g128_ok h hb
    cases h
  | c x => cases h
end Go.Proofs.YtgfifnadfmaolaaGreatDoor
