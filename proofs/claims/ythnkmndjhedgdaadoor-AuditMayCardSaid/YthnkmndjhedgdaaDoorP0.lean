/- Shadows of functions (printed by pr2.py off the model's code; the kernel holds each equation to it), and what they answer. -/
import Derived.Test.YthnkmndjhedgdaaDoorG
namespace Go.Proofs.YthnkmndjhedgdaaDoor
open Go.RowKit
set_option linter.unusedVariables false
set_option linter.unusedSimpArgs false
/-! ### ref28.among -/
abbrev R10 := Bool
def to10 (r : R10) : Ans := ⟨.v (.bool r), []⟩
inductive L10 where
  | l0 (x0 : Int)
def num10 : L10 → Nat
  | .l0 _ => 0
def H10 : Hint := ⟨fun n => [].any (Nat.beq n), hdAt [(0, ⟨fgt [0, 3, 5] 18 0, []⟩)], [], G0, nodp⟩
noncomputable def st10 (l_0 : (List Owner)) (o : Owner) : L10 → St
  | .l0 x0 => ⟨mkE [(0, .sl .sOwner l_0), (3, .ref 0 0), (5, .v (.int .i64 x0))] 18 0, [.cells 28 [.v (.int .i64 o.kind), .v (.int .i64 o.index), .v (.int .i64 o.port)]], GL, 0, [], nodp⟩
noncomputable def bod10 {R : Type} (ret : R10 → R) (l_0 : (List Owner)) (o : Owner) (j : L10 → Option R) : L10 → Option R
  | .l0 x0 => cond (decide ((x0 : Int) < l_0.length))
    (cond (inR x0 l_0.length) (
      cond ((((atOwner l_0 x0.toNat).kind : Int) == o.kind) && ((((atOwner l_0 x0.toNat).index : Int) == o.index) && ((((atOwner l_0 x0.toNat).port : Int) == o.port) && true)))
        (some (ret true))
        (j (.l0 (IntKind.i64.wrap (x0 + 1))))) none)
    (some (ret false))
noncomputable def ent10 {R : Type} (ret : R10 → R) (l_0 : (List Owner)) (o : Owner) (j : L10 → Option R) : Option R :=
    j (.l0 0)
theorem head10_0 (J : Jmp) (l_0 : (List Owner)) (o : Owner) (x0 : Int) : stepAt Pr G0 H10 J 0 0 (bodyOf Tryd.f10) (fin Pr H10 Tryd.f10) (st10 l_0 o (.l0 x0)) = bod10 to10 l_0 o (fun l => J (num10 l) (st10 l_0 o l)) (.l0 x0) := by kernel_rfl
theorem run10 (J : Jmp) (l_0 : (List Owner)) (o : Owner) : runF Pr G0 H10 J GL Tryd.f10 [.sl .sOwner l_0, .agg [.v (.int .i64 o.kind), .v (.int .i64 o.index), .v (.int .i64 o.port)]] [] = ent10 to10 l_0 o (fun l => J (num10 l) (st10 l_0 o l)) := by kernel_rfl
theorem shad10 (l_0 : (List Owner)) (o : Owner) : ∀ (n : Nat) (l : L10), runL Pr G0 H10 Tryd.f10 n (num10 l) (st10 l_0 o l) = shad (bod10 to10 l_0 o) n l
  | 0, l => by cases l <;> rfl
  | n + 1, l => by
    have ih : (fun l => runL Pr G0 H10 Tryd.f10 n (num10 l) (st10 l_0 o l)) = shad (bod10 to10 l_0 o) n := funext (shad10 l_0 o n)
    cases l with
    | l0 x0 => exact (step_eq ..).trans ((head10_0 ..).trans (by rw [ih]; rfl))
theorem nat10 (l_0 : (List Owner)) (o : Owner) (s : L10 → Option R10) (l : L10) : bod10 to10 l_0 o (fun l => (s l).map to10) l = (bod10 id l_0 o s l).map to10 := by
  cases l <;> simp only [bod10, map_cond, Option.map_some, Option.map_none, id]
theorem ct10 (l_0 : (List Owner)) (o : Owner) (l : L10) : CT fun j => bod10 id l_0 o j l := by
  cases l <;> (dsimp only [bod10]; repeat (first | exact CT.jump _ | exact CT.const _ | apply CT.cond))
/-- ref28.among, from a head on. -/
noncomputable def spL10 (l_0 : (List Owner)) (o : Owner) : L10 → Option R10 := lfp (bod10 id l_0 o)
theorem spL10_eq (l_0 : (List Owner)) (o : Owner) (l : L10) : spL10 l_0 o l = bod10 id l_0 o (spL10 l_0 o) l := lfp_eq (ct10 l_0 o) l
/-- ref28.among -/
noncomputable def spO10 (l_0 : (List Owner)) (o : Owner) : Option R10 := ent10 id l_0 o (spL10 l_0 o)
noncomputable def sp10 (l_0 : (List Owner)) (o : Owner) : R10 := (spO10 l_0 o).getD default
noncomputable def spc10 (l_0 : (List Owner)) (o : Owner) : Bool := (spO10 l_0 o).isSome
theorem oks10 (l_0 : (List Owner)) (o : Owner) (hc : spc10 l_0 o = true) : Okay Pr GL 10 [.sl .sOwner l_0, .agg [.v (.int .i64 o.kind), .v (.int .i64 o.index), .v (.int .i64 o.port)]] [] (to10 (sp10 l_0 o)) := by
  obtain ⟨n, h⟩ := auto_ok (nat10 l_0 o) (fun s => show ent10 to10 l_0 o (fun l => (s l).map to10) = (ent10 id l_0 o s).map to10 by simp only [ent10, map_cond, Option.map_some, Option.map_none, id]) (ct10 l_0 o) (show CT fun j => ent10 id l_0 o j by dsimp only [ent10]; repeat (first | exact CT.jump _ | exact CT.const _ | apply CT.cond)) (isSome_getD hc)
  exact okay_of_run (H := H10) G0ok G0ok Tryd.func10 rfl (by kernel_rfl) n (by
    rw [run10]
    rw [show (fun l => runL Pr G0 H10 Tryd.f10 n (num10 l) (st10 l_0 o l)) = shad (bod10 to10 l_0 o) n from funext (shad10 l_0 o n)]
    exact h)

/-! ### ref28.ends -/
abbrev R11 := Bool × Bool
def to11 (r : R11) : Ans := ⟨.tup [.v (.bool r.1), .v (.bool r.2)], []⟩
inductive L11 where
  | l0 (x0 : Bool) (x1 : Bool) (x2 : Int)
  | l11 (x0 : Bool) (x1 : Bool) (x2 : Int)
def num11 : L11 → Nat
  | .l0 _ _ _ => 0
  | .l11 _ _ _ => 11
def H11 : Hint := ⟨fun n => [5].any (Nat.beq n), hdAt [(0, ⟨fgt [1, 2, 3, 8, 9, 10, 38, 39] 43 0, []⟩), (11, ⟨fgt [1, 2, 3, 8, 9, 10] 43 0, []⟩)], [], G0, nodp⟩
noncomputable def st11 (c : Config) (p : Int) (h_2 : Int) : L11 → St
  | .l0 x0 x1 x2 => ⟨mkE [(1, .v (.int .i64 p)), (2, .v (.int .i64 h_2)), (3, .ref 0 0), (8, .v (.bool x0)), (9, .v (.bool x1)), (10, .v (.int .i64 x2))] 43 0, [.cells 26 [.v (.int .i64 c.frames), .v (.int .i64 c.major), .v (.int .i64 c.kernel), .v (.int .i64 c.room), .sl (.sl .sWindow) c.cores, .sl .sPartition c.partitions, .sl .sChannel c.channels]], GL, 0, [], nodp⟩
  | .l11 x0 x1 x2 => ⟨mkE [(1, .v (.int .i64 p)), (2, .v (.int .i64 h_2)), (3, .ref 0 0), (8, .v (.bool x0)), (9, .v (.bool x1)), (10, .v (.int .i64 x2))] 43 0, [.cells 26 [.v (.int .i64 c.frames), .v (.int .i64 c.major), .v (.int .i64 c.kernel), .v (.int .i64 c.room), .sl (.sl .sWindow) c.cores, .sl .sPartition c.partitions, .sl .sChannel c.channels]], GL, 0, [], nodp⟩
noncomputable def bod11 {R : Type} (ret : R11 → R) (c : Config) (p : Int) (h_2 : Int) (j : L11 → Option R) : L11 → Option R
  | .l0 x0 x1 x2 => cond (inR p c.partitions.length) (
    cond (decide ((x2 : Int) < ((atPartition c.partitions p.toNat).ports).length))
      (cond (inR p c.partitions.length) (
        cond (inR x2 ((atPartition c.partitions p.toNat).ports).length) (
          cond (((atPort ((atPartition c.partitions p.toNat).ports) x2.toNat).channel : Int) == h_2)
            (cond x1
              (j (.l11 true true x2))
              (j (.l11 true ((atPort ((atPartition c.partitions p.toNat).ports) x2.toNat).source) x2)))
            (j (.l11 x0 x1 x2))) none) none)
      (some (ret (x0, x1)))) none
  | .l11 x0 x1 x2 => j (.l0 x0 x1 (IntKind.i64.wrap (x2 + 1)))
noncomputable def ent11 {R : Type} (ret : R11 → R) (c : Config) (p : Int) (h_2 : Int) (j : L11 → Option R) : Option R :=
    j (.l0 false false 0)
theorem head11_0 (J : Jmp) (c : Config) (p : Int) (h_2 : Int) (x0 : Bool) (x1 : Bool) (x2 : Int) : stepAt Pr G0 H11 J 0 0 (bodyOf Tryd.f11) (fin Pr H11 Tryd.f11) (st11 c p h_2 (.l0 x0 x1 x2)) = bod11 to11 c p h_2 (fun l => J (num11 l) (st11 c p h_2 l)) (.l0 x0 x1 x2) := by kernel_rfl
theorem head11_11 (J : Jmp) (c : Config) (p : Int) (h_2 : Int) (x0 : Bool) (x1 : Bool) (x2 : Int) : stepAt Pr G0 H11 J 11 0 (bodyOf Tryd.f11) (fin Pr H11 Tryd.f11) (st11 c p h_2 (.l11 x0 x1 x2)) = bod11 to11 c p h_2 (fun l => J (num11 l) (st11 c p h_2 l)) (.l11 x0 x1 x2) := by kernel_rfl
theorem run11 (J : Jmp) (c : Config) (p : Int) (h_2 : Int) : runF Pr G0 H11 J GL Tryd.f11 [.agg [.v (.int .i64 c.frames), .v (.int .i64 c.major), .v (.int .i64 c.kernel), .v (.int .i64 c.room), .sl (.sl .sWindow) c.cores, .sl .sPartition c.partitions, .sl .sChannel c.channels], .v (.int .i64 p), .v (.int .i64 h_2)] [] = ent11 to11 c p h_2 (fun l => J (num11 l) (st11 c p h_2 l)) := by kernel_rfl
theorem shad11 (c : Config) (p : Int) (h_2 : Int) : ∀ (n : Nat) (l : L11), runL Pr G0 H11 Tryd.f11 n (num11 l) (st11 c p h_2 l) = shad (bod11 to11 c p h_2) n l
  | 0, l => by cases l <;> rfl
  | n + 1, l => by
    have ih : (fun l => runL Pr G0 H11 Tryd.f11 n (num11 l) (st11 c p h_2 l)) = shad (bod11 to11 c p h_2) n := funext (shad11 c p h_2 n)
    cases l with
    | l0 x0 x1 x2 => exact (step_eq ..).trans ((head11_0 ..).trans (by rw [ih]; rfl))
    | l11 x0 x1 x2 => exact (step_eq ..).trans ((head11_11 ..).trans (by rw [ih]; rfl))
theorem nat11 (c : Config) (p : Int) (h_2 : Int) (s : L11 → Option R11) (l : L11) : bod11 to11 c p h_2 (fun l => (s l).map to11) l = (bod11 id c p h_2 s l).map to11 := by
  cases l <;> simp only [bod11, map_cond, Option.map_some, Option.map_none, id]
theorem ct11 (c : Config) (p : Int) (h_2 : Int) (l : L11) : CT fun j => bod11 id c p h_2 j l := by
  cases l <;> (dsimp only [bod11]; repeat (first | exact CT.jump _ | exact CT.const _ | apply CT.cond))
/-- ref28.ends, from a head on. -/
noncomputable def spL11 (c : Config) (p : Int) (h_2 : Int) : L11 → Option R11 := lfp (bod11 id c p h_2)
theorem spL11_eq (c : Config) (p : Int) (h_2 : Int) (l : L11) : spL11 c p h_2 l = bod11 id c p h_2 (spL11 c p h_2) l := lfp_eq (ct11 c p h_2) l
/-- ref28.ends -/
noncomputable def spO11 (c : Config) (p : Int) (h_2 : Int) : Option R11 := ent11 id c p h_2 (spL11 c p h_2)
noncomputable def sp11 (c : Config) (p : Int) (h_2 : Int) : R11 := (spO11 c p h_2).getD default
noncomputable def spc11 (c : Config) (p : Int) (h_2 : Int) : Bool := (spO11 c p h_2).isSome
theorem oks11 (c : Config) (p : Int) (h_2 : Int) (hc : spc11 c p h_2 = true) : Okay Pr GL 11 [.agg [.v (.int .i64 c.frames), .v (.int .i64 c.major), .v (.int .i64 c.kernel), .v (.int .i64 c.room), .sl (.sl .sWindow) c.cores, .sl .sPartition c.partitions, .sl .sChannel c.channels], .v (.int .i64 p), .v (.int .i64 h_2)] [] (to11 (sp11 c p h_2)) := by
  obtain ⟨n, h⟩ := auto_ok (nat11 c p h_2) (fun s => show ent11 to11 c p h_2 (fun l => (s l).map to11) = (ent11 id c p h_2 s).map to11 by simp only [ent11, map_cond, Option.map_some, Option.map_none, id]) (ct11 c p h_2) (show CT fun j => ent11 id c p h_2 j by dsimp only [ent11]; repeat (first | exact CT.jump _ | exact CT.const _ | apply CT.cond)) (isSome_getD hc)
  exact okay_of_run (H := H11) G0ok G0ok Tryd.func11 rfl (by kernel_rfl) n (by
    rw [run11]
    rw [show (fun l => runL Pr G0 H11 Tryd.f11 n (num11 l) (st11 c p h_2 l)) = shad (bod11 to11 c p h_2) n from funext (shad11 c p h_2 n)]
    exact h)

/-! ### ref12.samePartition -/
abbrev R15 := Bool
def to15 (r : R15) : Ans := ⟨.v (.bool r), []⟩
inductive L15 where
  | l0 (x0 : Int)
  | l4 (x0 : Int)
def num15 : L15 → Nat
  | .l0 _ => 0
  | .l4 _ => 4
def H15 : Hint := ⟨fun n => [].any (Nat.beq n), hdAt [(0, ⟨fgt [2, 3, 5] 99 0, []⟩), (4, ⟨fgt [2, 3, 6] 99 0, []⟩)], [], G0, nodp⟩
noncomputable def st15 (a : Partition) (b : Partition) : L15 → St
  | .l0 x0 => ⟨mkE [(2, .ref 0 0), (3, .ref 1 0), (5, .v (.int .i64 x0))] 99 0, [.cells 48 [.v (.string a.name), .v (.int .i64 a.entry), .v (.int .i64 a.action), .v (.int .i64 a.restarts), .v (.int .i64 a.inputs), .v (.int .i64 a.outputs), .sl .sRegion a.regions, .sl .sPort a.ports], .cells 48 [.v (.string b.name), .v (.int .i64 b.entry), .v (.int .i64 b.action), .v (.int .i64 b.restarts), .v (.int .i64 b.inputs), .v (.int .i64 b.outputs), .sl .sRegion b.regions, .sl .sPort b.ports]], GL, 0, [], nodp⟩
  | .l4 x0 => ⟨mkE [(2, .ref 0 0), (3, .ref 1 0), (6, .v (.int .i64 x0))] 99 0, [.cells 48 [.v (.string a.name), .v (.int .i64 a.entry), .v (.int .i64 a.action), .v (.int .i64 a.restarts), .v (.int .i64 a.inputs), .v (.int .i64 a.outputs), .sl .sRegion a.regions, .sl .sPort a.ports], .cells 48 [.v (.string b.name), .v (.int .i64 b.entry), .v (.int .i64 b.action), .v (.int .i64 b.restarts), .v (.int .i64 b.inputs), .v (.int .i64 b.outputs), .sl .sRegion b.regions, .sl .sPort b.ports]], GL, 0, [], nodp⟩
noncomputable def bod15 {R : Type} (ret : R15 → R) (a : Partition) (b : Partition) (j : L15 → Option R) : L15 → Option R
  | .l0 x0 => cond (decide ((x0 : Int) < a.regions.length))
    (cond (inR x0 a.regions.length) (
      cond (inR x0 b.regions.length) (
        cond (!((((atRegion a.regions x0.toNat).page : Int) == ((atRegion b.regions x0.toNat).page)) && ((((atRegion a.regions x0.toNat).pages : Int) == ((atRegion b.regions x0.toNat).pages)) && ((((atRegion a.regions x0.toNat).frame : Int) == ((atRegion b.regions x0.toNat).frame)) && ((((atRegion a.regions x0.toNat).rights : Int) == ((atRegion b.regions x0.toNat).rights)) && true)))))
          (some (ret false))
          (j (.l0 (IntKind.i64.wrap (x0 + 1))))) none) none)
    (j (.l4 0))
  | .l4 x0 => cond (decide ((x0 : Int) < a.ports.length))
    (cond (inR x0 a.ports.length) (
      cond (inR x0 b.ports.length) (
        cond (!((((atPort a.ports x0.toNat).channel : Int) == ((atPort b.ports x0.toNat).channel)) && ((((atPort a.ports x0.toNat).source) == ((atPort b.ports x0.toNat).source)) && true)))
          (some (ret false))
          (j (.l4 (IntKind.i64.wrap (x0 + 1))))) none) none)
    (some (ret true))
noncomputable def ent15 {R : Type} (ret : R15 → R) (a : Partition) (b : Partition) (j : L15 → Option R) : Option R :=
    cond (!(a.name.toList == b.name.toList))
    (some (ret false))
    (cond (!((a.entry : Int) == b.entry))
      (some (ret false))
      (cond (!((a.action : Int) == b.action))
        (some (ret false))
        (cond (!((a.restarts : Int) == b.restarts))
          (some (ret false))
          (cond (!((a.inputs : Int) == b.inputs))
            (some (ret false))
            (cond (!((a.outputs : Int) == b.outputs))
              (some (ret false))
              (cond (!((a.regions.length : Int) == b.regions.length))
                (some (ret false))
                (cond (!((a.ports.length : Int) == b.ports.length))
                  (some (ret false))
                  (j (.l0 0)))))))))
theorem head15_0 (J : Jmp) (a : Partition) (b : Partition) (x0 : Int) : stepAt Pr G0 H15 J 0 0 (bodyOf Tryd.f15) (fin Pr H15 Tryd.f15) (st15 a b (.l0 x0)) = bod15 to15 a b (fun l => J (num15 l) (st15 a b l)) (.l0 x0) := by kernel_rfl
theorem head15_4 (J : Jmp) (a : Partition) (b : Partition) (x0 : Int) : stepAt Pr G0 H15 J 4 0 (bodyOf Tryd.f15) (fin Pr H15 Tryd.f15) (st15 a b (.l4 x0)) = bod15 to15 a b (fun l => J (num15 l) (st15 a b l)) (.l4 x0) := by kernel_rfl
theorem run15 (J : Jmp) (a : Partition) (b : Partition) : runF Pr G0 H15 J GL Tryd.f15 [.agg [.v (.string a.name), .v (.int .i64 a.entry), .v (.int .i64 a.action), .v (.int .i64 a.restarts), .v (.int .i64 a.inputs), .v (.int .i64 a.outputs), .sl .sRegion a.regions, .sl .sPort a.ports], .agg [.v (.string b.name), .v (.int .i64 b.entry), .v (.int .i64 b.action), .v (.int .i64 b.restarts), .v (.int .i64 b.inputs), .v (.int .i64 b.outputs), .sl .sRegion b.regions, .sl .sPort b.ports]] [] = ent15 to15 a b (fun l => J (num15 l) (st15 a b l)) := by kernel_rfl
theorem shad15 (a : Partition) (b : Partition) : ∀ (n : Nat) (l : L15), runL Pr G0 H15 Tryd.f15 n (num15 l) (st15 a b l) = shad (bod15 to15 a b) n l
  | 0, l => by cases l <;> rfl
  | n + 1, l => by
    have ih : (fun l => runL Pr G0 H15 Tryd.f15 n (num15 l) (st15 a b l)) = shad (bod15 to15 a b) n := funext (shad15 a b n)
    cases l with
    | l0 x0 => exact (step_eq ..).trans ((head15_0 ..).trans (by rw [ih]; rfl))
    | l4 x0 => exact (step_eq ..).trans ((head15_4 ..).trans (by rw [ih]; rfl))
theorem nat15 (a : Partition) (b : Partition) (s : L15 → Option R15) (l : L15) : bod15 to15 a b (fun l => (s l).map to15) l = (bod15 id a b s l).map to15 := by
  cases l <;> simp only [bod15, map_cond, Option.map_some, Option.map_none, id]
theorem ct15 (a : Partition) (b : Partition) (l : L15) : CT fun j => bod15 id a b j l := by
  cases l <;> (dsimp only [bod15]; repeat (first | exact CT.jump _ | exact CT.const _ | apply CT.cond))
/-- ref12.samePartition, from a head on. -/
noncomputable def spL15 (a : Partition) (b : Partition) : L15 → Option R15 := lfp (bod15 id a b)
theorem spL15_eq (a : Partition) (b : Partition) (l : L15) : spL15 a b l = bod15 id a b (spL15 a b) l := lfp_eq (ct15 a b) l
/-- ref12.samePartition -/
noncomputable def spO15 (a : Partition) (b : Partition) : Option R15 := ent15 id a b (spL15 a b)
noncomputable def sp15 (a : Partition) (b : Partition) : R15 := (spO15 a b).getD default
noncomputable def spc15 (a : Partition) (b : Partition) : Bool := (spO15 a b).isSome
theorem oks15 (a : Partition) (b : Partition) (hc : spc15 a b = true) : Okay Pr GL 15 [.agg [.v (.string a.name), .v (.int .i64 a.entry), .v (.int .i64 a.action), .v (.int .i64 a.restarts), .v (.int .i64 a.inputs), .v (.int .i64 a.outputs), .sl .sRegion a.regions, .sl .sPort a.ports], .agg [.v (.string b.name), .v (.int .i64 b.entry), .v (.int .i64 b.action), .v (.int .i64 b.restarts), .v (.int .i64 b.inputs), .v (.int .i64 b.outputs), .sl .sRegion b.regions, .sl .sPort b.ports]] [] (to15 (sp15 a b)) := by
  obtain ⟨n, h⟩ := auto_ok (nat15 a b) (fun s => show ent15 to15 a b (fun l => (s l).map to15) = (ent15 id a b s).map to15 by simp only [ent15, map_cond, Option.map_some, Option.map_none, id]) (ct15 a b) (show CT fun j => ent15 id a b j by dsimp only [ent15]; repeat (first | exact CT.jump _ | exact CT.const _ | apply CT.cond)) (isSome_getD hc)
  exact okay_of_run (H := H15) G0ok G0ok Tryd.func15 rfl (by kernel_rfl) n (by
    rw [run15]
    rw [show (fun l => runL Pr G0 H15 Tryd.f15 n (num15 l) (st15 a b l)) = shad (bod15 to15 a b) n from funext (shad15 a b n)]
    exact h)

/-! ### ref16.none -/
abbrev R17 := Where
def to17 (r : R17) : Ans := ⟨.agg [.v (.int .i64 r.first), .v (.int .i64 r.second)], []⟩
def H17 : Hint := ⟨fun _ => false, fun _ => ⟨[], []⟩, [], G0, nodp⟩
noncomputable def ent17 {R : Type} (ret : R17 → R) : Option R :=
    some (ret (⟨(-1), (-1)⟩ : Where))
theorem run17 (J : Jmp) : runF Pr G0 H17 J GL Tryd.f17 [] [] = ent17 to17 := by kernel_rfl
/-- ref16.none -/
noncomputable def spO17 : Option R17 := ent17 id
noncomputable def sp17 : R17 := (spO17).getD default
theorem some17 : spO17 = some (sp17) := isSome_getD (show (spO17).isSome = true by simp only [spO17, ent17, isSome_cond, Option.isSome_some, cond_self])
theorem oks17 : Okay Pr GL 17 [] [] (to17 (sp17)) :=
  okay_of_run (H := H17) G0ok G0ok Tryd.func17 rfl (by kernel_rfl) 0 ((run17 (runL Pr G0 H17 Tryd.f17 0)).trans (auto_ok0 (show ent17 to17 = (ent17 id).map to17 by simp only [ent17, map_cond, Option.map_some, Option.map_none, id]) (some17)))

/-! ### ref16.of -/
abbrev R20 := Where
def to20 (r : R20) : Ans := ⟨.agg [.v (.int .i64 r.first), .v (.int .i64 r.second)], []⟩
def H20 : Hint := ⟨fun _ => false, fun _ => ⟨[], []⟩, [], G0, nodp⟩
noncomputable def ent20 {R : Type} (ret : R20 → R) (first : Int) : Option R :=
    some (ret (⟨first, (-1)⟩ : Where))
theorem run20 (J : Jmp) (first : Int) : runF Pr G0 H20 J GL Tryd.f20 [.v (.int .i64 first)] [] = ent20 to20 first := by kernel_rfl
/-- ref16.of -/
noncomputable def spO20 (first : Int) : Option R20 := ent20 id first
noncomputable def sp20 (first : Int) : R20 := (spO20 first).getD default
theorem some20 (first : Int) : spO20 first = some (sp20 first) := isSome_getD (show (spO20 first).isSome = true by simp only [spO20, ent20, isSome_cond, Option.isSome_some, cond_self])
theorem oks20 (first : Int) : Okay Pr GL 20 [.v (.int .i64 first)] [] (to20 (sp20 first)) :=
  okay_of_run (H := H20) G0ok G0ok Tryd.func20 rfl (by kernel_rfl) 0 ((run20 (runL Pr G0 H20 Tryd.f20 0) first).trans (auto_ok0 (show ent20 to20 first = (ent20 id first).map to20 by simp only [ent20, map_cond, Option.map_some, Option.map_none, id]) (some20 first)))

/-! ### ref16.in -/
abbrev R29 := Bool
def to29 (r : R29) : Ans := ⟨.v (.bool r), []⟩
def H29 : Hint := ⟨fun _ => false, fun _ => ⟨[], []⟩, [], G0, nodp⟩
noncomputable def ent29 {R : Type} (ret : R29 → R) (n_0 : Int) (least : Int) (most : Int) : Option R :=
    cond (decide ((n_0 : Int) ≥ least))
    (some (ret (decide ((n_0 : Int) ≤ most))))
    (some (ret false))
theorem run29 (J : Jmp) (n_0 : Int) (least : Int) (most : Int) : runF Pr G0 H29 J GL Tryd.f29 [.v (.int .i64 n_0), .v (.int .i64 least), .v (.int .i64 most)] [] = ent29 to29 n_0 least most := by kernel_rfl
/-- ref16.in -/
noncomputable def spO29 (n_0 : Int) (least : Int) (most : Int) : Option R29 := ent29 id n_0 least most
noncomputable def sp29 (n_0 : Int) (least : Int) (most : Int) : R29 := (spO29 n_0 least most).getD default
theorem some29 (n_0 : Int) (least : Int) (most : Int) : spO29 n_0 least most = some (sp29 n_0 least most) := isSome_getD (show (spO29 n_0 least most).isSome = true by simp only [spO29, ent29, isSome_cond, Option.isSome_some, cond_self])
theorem oks29 (n_0 : Int) (least : Int) (most : Int) : Okay Pr GL 29 [.v (.int .i64 n_0), .v (.int .i64 least), .v (.int .i64 most)] [] (to29 (sp29 n_0 least most)) :=
  okay_of_run (H := H29) G0ok G0ok Tryd.func29 rfl (by kernel_rfl) 0 ((run29 (runL Pr G0 H29 Tryd.f29 0) n_0 least most).trans (auto_ok0 (show ent29 to29 n_0 least most = (ent29 id n_0 least most).map to29 by simp only [ent29, map_cond, Option.map_some, Option.map_none, id]) (some29 n_0 least most)))

/-! ### ref16.ends -/
abbrev R33 := Int × Int
def to33 (r : R33) : Ans := ⟨.tup [.v (.int .i64 r.1), .v (.int .i64 r.2)], []⟩
inductive L33 where
  | l0 (x1 : Int) (x2 : Int) (x0 : Int)
  | l4 (x1 : Int) (x2 : Int) (x0 : Int) (x3 : Int)
  | l25 (x0 : Int) (x4 : Int) (x1 : Int) (x5 : Int) (x2 : Int) (x3 : Bool)
  | l17 (x0 : Int) (x2 : Int) (x1 : Int) (x3 : Int)
def num33 : L33 → Nat
  | .l0 _ _ _ => 0
  | .l4 _ _ _ _ => 4
  | .l25 _ _ _ _ _ _ => 25
  | .l17 _ _ _ _ => 17
def H33 : Hint := ⟨fun n => [8, 12].any (Nat.beq n), hdAt [(0, ⟨fgt [1, 2, 6, 7, 8, 43, 44, 53, 54, 55] 61 0, []⟩), (4, ⟨fgt [1, 2, 6, 7, 8, 9, 43, 44, 53, 54, 55] 61 0, []⟩), (25, ⟨fgt [1, 2, 6, 7, 8, 9, 10, 53, 54, 55] 61 0, []⟩), (17, ⟨fgt [1, 2, 6, 7, 8, 9, 43, 44] 61 0, []⟩)], [], G0, nodp⟩
noncomputable def st33 (c : Config) (h_1 : Int) : L33 → St
  | .l0 x1 x2 x0 => ⟨mkE [(1, .v (.int .i64 h_1)), (2, .ref 0 0), (6, .v (.int .i64 x1)), (7, .v (.int .i64 x2)), (8, .v (.int .i64 x0))] 61 0, [.cells 26 [.v (.int .i64 c.frames), .v (.int .i64 c.major), .v (.int .i64 c.kernel), .v (.int .i64 c.room), .sl (.sl .sWindow) c.cores, .sl .sPartition c.partitions, .sl .sChannel c.channels]], GL, 0, [], nodp⟩
  | .l4 x1 x2 x0 x3 => ⟨mkE [(1, .v (.int .i64 h_1)), (2, .ref 0 0), (6, .v (.int .i64 x1)), (7, .v (.int .i64 x2)), (8, .v (.int .i64 x0)), (9, .v (.int .i64 x3))] 61 0, [.cells 26 [.v (.int .i64 c.frames), .v (.int .i64 c.major), .v (.int .i64 c.kernel), .v (.int .i64 c.room), .sl (.sl .sWindow) c.cores, .sl .sPartition c.partitions, .sl .sChannel c.channels]], GL, 0, [], nodp⟩
  | .l25 x0 x4 x1 x5 x2 x3 => ⟨mkE [(1, .v (.int .i64 h_1)), (2, .ref 0 0), (6, .v (.int .i64 x0)), (7, .v (.int .i64 x4)), (8, .v (.int .i64 x1)), (9, .v (.int .i64 x5)), (10, .ref 1 0)] 61 0, [.cells 26 [.v (.int .i64 c.frames), .v (.int .i64 c.major), .v (.int .i64 c.kernel), .v (.int .i64 c.room), .sl (.sl .sWindow) c.cores, .sl .sPartition c.partitions, .sl .sChannel c.channels], .cells 66 [.v (.int .i64 x2), .v (.bool x3)]], GL, 0, [], nodp⟩
  | .l17 x0 x2 x1 x3 => ⟨mkE [(1, .v (.int .i64 h_1)), (2, .ref 0 0), (6, .v (.int .i64 x0)), (7, .v (.int .i64 x2)), (8, .v (.int .i64 x1)), (9, .v (.int .i64 x3))] 61 0, [.cells 26 [.v (.int .i64 c.frames), .v (.int .i64 c.major), .v (.int .i64 c.kernel), .v (.int .i64 c.room), .sl (.sl .sWindow) c.cores, .sl .sPartition c.partitions, .sl .sChannel c.channels]], GL, 0, [], nodp⟩
noncomputable def bod33 {R : Type} (ret : R33 → R) (c : Config) (h_1 : Int) (j : L33 → Option R) : L33 → Option R
  | .l0 x1 x2 x0 => cond (decide ((x0 : Int) < c.partitions.length))
    (j (.l4 x1 x2 x0 0))
    (some (ret (x1, x2)))
  | .l4 x1 x2 x0 x3 => cond (inR x0 c.partitions.length) (
    cond (decide ((x3 : Int) < ((atPartition c.partitions x0.toNat).ports).length))
      (cond (inR x0 c.partitions.length) (
        cond (inR x3 ((atPartition c.partitions x0.toNat).ports).length) (
          cond (((atPort ((atPartition c.partitions x0.toNat).ports) x3.toNat).channel : Int) == h_1)
            (cond ((atPort ((atPartition c.partitions x0.toNat).ports) x3.toNat).source)
              (j (.l25 (IntKind.i64.wrap (x1 + 1)) x2 x0 x3 ((atPort ((atPartition c.partitions x0.toNat).ports) x3.toNat).channel) ((atPort ((atPartition c.partitions x0.toNat).ports) x3.toNat).source)))
              (j (.l25 x1 x2 x0 x3 ((atPort ((atPartition c.partitions x0.toNat).ports) x3.toNat).channel) ((atPort ((atPartition c.partitions x0.toNat).ports) x3.toNat).source))))
            (j (.l25 x1 x2 x0 x3 ((atPort ((atPartition c.partitions x0.toNat).ports) x3.toNat).channel) ((atPort ((atPartition c.partitions x0.toNat).ports) x3.toNat).source)))) none) none)
      (j (.l0 x1 x2 (IntKind.i64.wrap (x0 + 1))))) none
  | .l25 x0 x4 x1 x5 x2 x3 => cond ((x2 : Int) == h_1)
    (cond (!x3)
      (j (.l17 x0 (IntKind.i64.wrap (x4 + 1)) x1 x5))
      (j (.l17 x0 x4 x1 x5)))
    (j (.l17 x0 x4 x1 x5))
  | .l17 x0 x2 x1 x3 => j (.l4 x0 x2 x1 (IntKind.i64.wrap (x3 + 1)))
noncomputable def ent33 {R : Type} (ret : R33 → R) (c : Config) (h_1 : Int) (j : L33 → Option R) : Option R :=
    j (.l0 0 0 0)
theorem head33_0 (J : Jmp) (c : Config) (h_1 : Int) (x1 : Int) (x2 : Int) (x0 : Int) : stepAt Pr G0 H33 J 0 0 (bodyOf Tryd.f33) (fin Pr H33 Tryd.f33) (st33 c h_1 (.l0 x1 x2 x0)) = bod33 to33 c h_1 (fun l => J (num33 l) (st33 c h_1 l)) (.l0 x1 x2 x0) := by kernel_rfl
theorem head33_4 (J : Jmp) (c : Config) (h_1 : Int) (x1 : Int) (x2 : Int) (x0 : Int) (x3 : Int) : stepAt Pr G0 H33 J 4 0 (bodyOf Tryd.f33) (fin Pr H33 Tryd.f33) (st33 c h_1 (.l4 x1 x2 x0 x3)) = bod33 to33 c h_1 (fun l => J (num33 l) (st33 c h_1 l)) (.l4 x1 x2 x0 x3) := by kernel_rfl
theorem head33_25 (J : Jmp) (c : Config) (h_1 : Int) (x0 : Int) (x4 : Int) (x1 : Int) (x5 : Int) (x2 : Int) (x3 : Bool) : stepAt Pr G0 H33 J 25 0 (bodyOf Tryd.f33) (fin Pr H33 Tryd.f33) (st33 c h_1 (.l25 x0 x4 x1 x5 x2 x3)) = bod33 to33 c h_1 (fun l => J (num33 l) (st33 c h_1 l)) (.l25 x0 x4 x1 x5 x2 x3) := by kernel_rfl
theorem head33_17 (J : Jmp) (c : Config) (h_1 : Int) (x0 : Int) (x2 : Int) (x1 : Int) (x3 : Int) : stepAt Pr G0 H33 J 17 0 (bodyOf Tryd.f33) (fin Pr H33 Tryd.f33) (st33 c h_1 (.l17 x0 x2 x1 x3)) = bod33 to33 c h_1 (fun l => J (num33 l) (st33 c h_1 l)) (.l17 x0 x2 x1 x3) := by kernel_rfl
theorem run33 (J : Jmp) (c : Config) (h_1 : Int) : runF Pr G0 H33 J GL Tryd.f33 [.agg [.v (.int .i64 c.frames), .v (.int .i64 c.major), .v (.int .i64 c.kernel), .v (.int .i64 c.room), .sl (.sl .sWindow) c.cores, .sl .sPartition c.partitions, .sl .sChannel c.channels], .v (.int .i64 h_1)] [] = ent33 to33 c h_1 (fun l => J (num33 l) (st33 c h_1 l)) := by kernel_rfl
theorem shad33 (c : Config) (h_1 : Int) : ∀ (n : Nat) (l : L33), runL Pr G0 H33 Tryd.f33 n (num33 l) (st33 c h_1 l) = shad (bod33 to33 c h_1) n l
  | 0, l => by cases l <;> rfl
  | n + 1, l => by
    have ih : (fun l => runL Pr G0 H33 Tryd.f33 n (num33 l) (st33 c h_1 l)) = shad (bod33 to33 c h_1) n := funext (shad33 c h_1 n)
    cases l with
    | l0 x1 x2 x0 => exact (step_eq ..).trans ((head33_0 ..).trans (by rw [ih]; rfl))
    | l4 x1 x2 x0 x3 => exact (step_eq ..).trans ((head33_4 ..).trans (by rw [ih]; rfl))
    | l25 x0 x4 x1 x5 x2 x3 => exact (step_eq ..).trans ((head33_25 ..).trans (by rw [ih]; rfl))
    | l17 x0 x2 x1 x3 => exact (step_eq ..).trans ((head33_17 ..).trans (by rw [ih]; rfl))
theorem nat33 (c : Config) (h_1 : Int) (s : L33 → Option R33) (l : L33) : bod33 to33 c h_1 (fun l => (s l).map to33) l = (bod33 id c h_1 s l).map to33 := by
  cases l <;> simp only [bod33, map_cond, Option.map_some, Option.map_none, id]
theorem ct33 (c : Config) (h_1 : Int) (l : L33) : CT fun j => bod33 id c h_1 j l := by
  cases l <;> (dsimp only [bod33]; repeat (first | exact CT.jump _ | exact CT.const _ | apply CT.cond))
/-- ref16.ends, from a head on. -/
noncomputable def spL33 (c : Config) (h_1 : Int) : L33 → Option R33 := lfp (bod33 id c h_1)
theorem spL33_eq (c : Config) (h_1 : Int) (l : L33) : spL33 c h_1 l = bod33 id c h_1 (spL33 c h_1) l := lfp_eq (ct33 c h_1) l
/-- ref16.ends -/
noncomputable def spO33 (c : Config) (h_1 : Int) : Option R33 := ent33 id c h_1 (spL33 c h_1)
noncomputable def sp33 (c : Config) (h_1 : Int) : R33 := (spO33 c h_1).getD default
noncomputable def spc33 (c : Config) (h_1 : Int) : Bool := (spO33 c h_1).isSome
theorem oks33 (c : Config) (h_1 : Int) (hc : spc33 c h_1 = true) : Okay Pr GL 33 [.agg [.v (.int .i64 c.frames), .v (.int .i64 c.major), .v (.int .i64 c.kernel), .v (.int .i64 c.room), .sl (.sl .sWindow) c.cores, .sl .sPartition c.partitions, .sl .sChannel c.channels], .v (.int .i64 h_1)] [] (to33 (sp33 c h_1)) := by
  obtain ⟨n, h⟩ := auto_ok (nat33 c h_1) (fun s => show ent33 to33 c h_1 (fun l => (s l).map to33) = (ent33 id c h_1 s).map to33 by simp only [ent33, map_cond, Option.map_some, Option.map_none, id]) (ct33 c h_1) (show CT fun j => ent33 id c h_1 j by dsimp only [ent33]; repeat (first | exact CT.jump _ | exact CT.const _ | apply CT.cond)) (isSome_getD hc)
  exact okay_of_run (H := H33) G0ok G0ok Tryd.func33 rfl (by kernel_rfl) n (by
    rw [run33]
    rw [show (fun l => runL Pr G0 H33 Tryd.f33 n (num33 l) (st33 c h_1 l)) = shad (bod33 to33 c h_1) n from funext (shad33 c h_1 n)]
    exact h)

/-! ### ref16.split -/
abbrev R34 := Bool
def to34 (r : R34) : Ans := ⟨.v (.bool r), []⟩
inductive L34 where
  | l0 (x0 : Int)
  | l4 (x1 : Int) (x0 : Int)
def num34 : L34 → Nat
  | .l0 _ => 0
  | .l4 _ _ => 4
def H34 : Hint := ⟨fun n => [].any (Nat.beq n), hdAt [(0, ⟨fgt [1, 2, 3, 7, 27, 28, 29, 30, 31, 32, 33, 34, 35, 36, 37] 39 0, []⟩), (4, ⟨fgt [1, 2, 3, 7, 8] 39 0, []⟩)], [], G0, nodp⟩
noncomputable def st34 (c : Config) (core : Int) (p : Int) : L34 → St
  | .l0 x0 => ⟨mkE [(1, .v (.int .i64 core)), (2, .v (.int .i64 p)), (3, .ref 0 0), (7, .v (.int .i64 x0))] 39 0, [.cells 26 [.v (.int .i64 c.frames), .v (.int .i64 c.major), .v (.int .i64 c.kernel), .v (.int .i64 c.room), .sl (.sl .sWindow) c.cores, .sl .sPartition c.partitions, .sl .sChannel c.channels]], GL, 0, [], nodp⟩
  | .l4 x1 x0 => ⟨mkE [(1, .v (.int .i64 core)), (2, .v (.int .i64 p)), (3, .ref 0 0), (7, .v (.int .i64 x1)), (8, .v (.int .i64 x0))] 39 0, [.cells 26 [.v (.int .i64 c.frames), .v (.int .i64 c.major), .v (.int .i64 c.kernel), .v (.int .i64 c.room), .sl (.sl .sWindow) c.cores, .sl .sPartition c.partitions, .sl .sChannel c.channels]], GL, 0, [], nodp⟩
noncomputable def bod34 {R : Type} (ret : R34 → R) (c : Config) (core : Int) (p : Int) (j : L34 → Option R) : L34 → Option R
  | .l0 x0 => cond (decide ((x0 : Int) < core))
    (j (.l4 x0 0))
    (some (ret false))
  | .l4 x1 x0 => cond (inR x1 c.cores.length) (
    cond (decide ((x0 : Int) < (atLWindow c.cores x1.toNat).length))
      (cond (!((p : Int) == (-1)))
        (cond (inR x1 c.cores.length) (
          cond (inR x0 (atLWindow c.cores x1.toNat).length) (
            cond (((atWindow (atLWindow c.cores x1.toNat) x0.toNat).partition : Int) == p)
              (some (ret true))
              (j (.l4 x1 (IntKind.i64.wrap (x0 + 1))))) none) none)
        (j (.l4 x1 (IntKind.i64.wrap (x0 + 1)))))
      (j (.l0 (IntKind.i64.wrap (x1 + 1))))) none
noncomputable def ent34 {R : Type} (ret : R34 → R) (c : Config) (core : Int) (p : Int) (j : L34 → Option R) : Option R :=
    j (.l0 0)
theorem head34_0 (J : Jmp) (c : Config) (core : Int) (p : Int) (x0 : Int) : stepAt Pr G0 H34 J 0 0 (bodyOf Tryd.f34) (fin Pr H34 Tryd.f34) (st34 c core p (.l0 x0)) = bod34 to34 c core p (fun l => J (num34 l) (st34 c core p l)) (.l0 x0) := by kernel_rfl
theorem head34_4 (J : Jmp) (c : Config) (core : Int) (p : Int) (x1 : Int) (x0 : Int) : stepAt Pr G0 H34 J 4 0 (bodyOf Tryd.f34) (fin Pr H34 Tryd.f34) (st34 c core p (.l4 x1 x0)) = bod34 to34 c core p (fun l => J (num34 l) (st34 c core p l)) (.l4 x1 x0) := by kernel_rfl
theorem run34 (J : Jmp) (c : Config) (core : Int) (p : Int) : runF Pr G0 H34 J GL Tryd.f34 [.agg [.v (.int .i64 c.frames), .v (.int .i64 c.major), .v (.int .i64 c.kernel), .v (.int .i64 c.room), .sl (.sl .sWindow) c.cores, .sl .sPartition c.partitions, .sl .sChannel c.channels], .v (.int .i64 core), .v (.int .i64 p)] [] = ent34 to34 c core p (fun l => J (num34 l) (st34 c core p l)) := by kernel_rfl
theorem shad34 (c : Config) (core : Int) (p : Int) : ∀ (n : Nat) (l : L34), runL Pr G0 H34 Tryd.f34 n (num34 l) (st34 c core p l) = shad (bod34 to34 c core p) n l
  | 0, l => by cases l <;> rfl
  | n + 1, l => by
    have ih : (fun l => runL Pr G0 H34 Tryd.f34 n (num34 l) (st34 c core p l)) = shad (bod34 to34 c core p) n := funext (shad34 c core p n)
    cases l with
    | l0 x0 => exact (step_eq ..).trans ((head34_0 ..).trans (by rw [ih]; rfl))
    | l4 x1 x0 => exact (step_eq ..).trans ((head34_4 ..).trans (by rw [ih]; rfl))
theorem nat34 (c : Config) (core : Int) (p : Int) (s : L34 → Option R34) (l : L34) : bod34 to34 c core p (fun l => (s l).map to34) l = (bod34 id c core p s l).map to34 := by
  cases l <;> simp only [bod34, map_cond, Option.map_some, Option.map_none, id]
theorem ct34 (c : Config) (core : Int) (p : Int) (l : L34) : CT fun j => bod34 id c core p j l := by
  cases l <;> (dsimp only [bod34]; repeat (first | exact CT.jump _ | exact CT.const _ | apply CT.cond))
/-- ref16.split, from a head on. -/
noncomputable def spL34 (c : Config) (core : Int) (p : Int) : L34 → Option R34 := lfp (bod34 id c core p)
theorem spL34_eq (c : Config) (core : Int) (p : Int) (l : L34) : spL34 c core p l = bod34 id c core p (spL34 c core p) l := lfp_eq (ct34 c core p) l
/-- ref16.split -/
noncomputable def spO34 (c : Config) (core : Int) (p : Int) : Option R34 := ent34 id c core p (spL34 c core p)
noncomputable def sp34 (c : Config) (core : Int) (p : Int) : R34 := (spO34 c core p).getD default
noncomputable def spc34 (c : Config) (core : Int) (p : Int) : Bool := (spO34 c core p).isSome
theorem oks34 (c : Config) (core : Int) (p : Int) (hc : spc34 c core p = true) : Okay Pr GL 34 [.agg [.v (.int .i64 c.frames), .v (.int .i64 c.major), .v (.int .i64 c.kernel), .v (.int .i64 c.room), .sl (.sl .sWindow) c.cores, .sl .sPartition c.partitions, .sl .sChannel c.channels], .v (.int .i64 core), .v (.int .i64 p)] [] (to34 (sp34 c core p)) := by
  obtain ⟨n, h⟩ := auto_ok (nat34 c core p) (fun s => show ent34 to34 c core p (fun l => (s l).map to34) = (ent34 id c core p s).map to34 by simp only [ent34, map_cond, Option.map_some, Option.map_none, id]) (ct34 c core p) (show CT fun j => ent34 id c core p j by dsimp only [ent34]; repeat (first | exact CT.jump _ | exact CT.const _ | apply CT.cond)) (isSome_getD hc)
  exact okay_of_run (H := H34) G0ok G0ok Tryd.func34 rfl (by kernel_rfl) n (by
    rw [run34]
    rw [show (fun l => runL Pr G0 H34 Tryd.f34 n (num34 l) (st34 c core p l)) = shad (bod34 to34 c core p) n from funext (shad34 c core p n)]
    exact h)

/-! ### ref16.meet -/
abbrev R35 := Bool
def to35 (r : R35) : Ans := ⟨.v (.bool r), []⟩
def H35 : Hint := ⟨fun _ => false, fun _ => ⟨[], []⟩, [], G0, nodp⟩
noncomputable def ent35 {R : Type} (ret : R35 → R) (a : Int) (many : Int) (b : Int) (others : Int) : Option R :=
    cond (decide ((a : Int) < (IntKind.i64.wrap (b + others))))
    (some (ret (decide ((b : Int) < (IntKind.i64.wrap (a + many))))))
    (some (ret false))
theorem run35 (J : Jmp) (a : Int) (many : Int) (b : Int) (others : Int) : runF Pr G0 H35 J GL Tryd.f35 [.v (.int .i64 a), .v (.int .i64 many), .v (.int .i64 b), .v (.int .i64 others)] [] = ent35 to35 a many b others := by kernel_rfl
/-- ref16.meet -/
noncomputable def spO35 (a : Int) (many : Int) (b : Int) (others : Int) : Option R35 := ent35 id a many b others
noncomputable def sp35 (a : Int) (many : Int) (b : Int) (others : Int) : R35 := (spO35 a many b others).getD default
theorem some35 (a : Int) (many : Int) (b : Int) (others : Int) : spO35 a many b others = some (sp35 a many b others) := isSome_getD (show (spO35 a many b others).isSome = true by simp only [spO35, ent35, isSome_cond, Option.isSome_some, cond_self])
theorem oks35 (a : Int) (many : Int) (b : Int) (others : Int) : Okay Pr GL 35 [.v (.int .i64 a), .v (.int .i64 many), .v (.int .i64 b), .v (.int .i64 others)] [] (to35 (sp35 a many b others)) :=
  okay_of_run (H := H35) G0ok G0ok Tryd.func35 rfl (by kernel_rfl) 0 ((run35 (runL Pr G0 H35 Tryd.f35 0) a many b others).trans (auto_ok0 (show ent35 to35 a many b others = (ent35 id a many b others).map to35 by simp only [ent35, map_cond, Option.map_some, Option.map_none, id]) (some35 a many b others)))

/-! ### admit.unless -/
abbrev R54 := AdmitFound
def to54 (r : R54) : Ans := ⟨.agg [.v (.int .i64 r.e), .v (.int .i64 r.where_.first), .v (.int .i64 r.where_.second)], []⟩
def H54 : Hint := ⟨fun _ => false, fun _ => ⟨[], []⟩, [], G0, nodp⟩
noncomputable def ent54 {R : Type} (ret : R54 → R) (holds : Bool) (e : Int) (w : Where) : Option R :=
    cond holds
    (some (ret fine))
    (some (ret (⟨e, (⟨w.first, w.second⟩ : Where)⟩ : AdmitFound)))
theorem run54 (J : Jmp) (holds : Bool) (e : Int) (w : Where) : runF Pr G0 H54 J GL Tryd.f54 [.v (.bool holds), .v (.int .i64 e), .agg [.v (.int .i64 w.first), .v (.int .i64 w.second)]] [] = ent54 to54 holds e w := by kernel_rfl
/-- admit.unless -/
noncomputable def spO54 (holds : Bool) (e : Int) (w : Where) : Option R54 := ent54 id holds e w
noncomputable def sp54 (holds : Bool) (e : Int) (w : Where) : R54 := (spO54 holds e w).getD default
theorem some54 (holds : Bool) (e : Int) (w : Where) : spO54 holds e w = some (sp54 holds e w) := isSome_getD (show (spO54 holds e w).isSome = true by simp only [spO54, ent54, isSome_cond, Option.isSome_some, cond_self])
theorem oks54 (holds : Bool) (e : Int) (w : Where) : Okay Pr GL 54 [.v (.bool holds), .v (.int .i64 e), .agg [.v (.int .i64 w.first), .v (.int .i64 w.second)]] [] (to54 (sp54 holds e w)) :=
  okay_of_run (H := H54) G0ok G0ok Tryd.func54 rfl (by kernel_rfl) 0 ((run54 (runL Pr G0 H54 Tryd.f54 0) holds e w).trans (auto_ok0 (show ent54 to54 holds e w = (ent54 id holds e w).map to54 by simp only [ent54, map_cond, Option.map_some, Option.map_none, id]) (some54 holds e w)))

/-! ### admit.within -/
abbrev R55 := Bool
def to55 (r : R55) : Ans := ⟨.v (.bool r), []⟩
def H55 : Hint := ⟨fun _ => false, fun _ => ⟨[], []⟩, [], G0, nodp⟩
noncomputable def ent55 {R : Type} (ret : R55 → R) (n_0 : Int) (least : Int) (most : Int) : Option R :=
    cond (decide ((n_0 : Int) ≥ least))
    (some (ret (decide ((n_0 : Int) ≤ most))))
    (some (ret false))
theorem run55 (J : Jmp) (n_0 : Int) (least : Int) (most : Int) : runF Pr G0 H55 J GL Tryd.f55 [.v (.int .i64 n_0), .v (.int .i64 least), .v (.int .i64 most)] [] = ent55 to55 n_0 least most := by kernel_rfl
/-- admit.within -/
noncomputable def spO55 (n_0 : Int) (least : Int) (most : Int) : Option R55 := ent55 id n_0 least most
noncomputable def sp55 (n_0 : Int) (least : Int) (most : Int) : R55 := (spO55 n_0 least most).getD default
theorem some55 (n_0 : Int) (least : Int) (most : Int) : spO55 n_0 least most = some (sp55 n_0 least most) := isSome_getD (show (spO55 n_0 least most).isSome = true by simp only [spO55, ent55, isSome_cond, Option.isSome_some, cond_self])
theorem oks55 (n_0 : Int) (least : Int) (most : Int) : Okay Pr GL 55 [.v (.int .i64 n_0), .v (.int .i64 least), .v (.int .i64 most)] [] (to55 (sp55 n_0 least most)) :=
  okay_of_run (H := H55) G0ok G0ok Tryd.func55 rfl (by kernel_rfl) 0 ((run55 (runL Pr G0 H55 Tryd.f55 0) n_0 least most).trans (auto_ok0 (show ent55 to55 n_0 least most = (ent55 id n_0 least most).map to55 by simp only [ent55, map_cond, Option.map_some, Option.map_none, id]) (some55 n_0 least most)))

/-! ### admit.at -/
abbrev R80 := Where
def to80 (r : R80) : Ans := ⟨.agg [.v (.int .i64 r.first), .v (.int .i64 r.second)], []⟩
def H80 : Hint := ⟨fun _ => false, fun _ => ⟨[], []⟩, [], G0, nodp⟩
noncomputable def ent80 {R : Type} (ret : R80 → R) (first : Int) : Option R :=
    some (ret (⟨first, (-1)⟩ : Where))
theorem run80 (J : Jmp) (first : Int) : runF Pr G0 H80 J GL Tryd.f80 [.v (.int .i64 first)] [] = ent80 to80 first := by kernel_rfl
/-- admit.at -/
noncomputable def spO80 (first : Int) : Option R80 := ent80 id first
noncomputable def sp80 (first : Int) : R80 := (spO80 first).getD default
theorem some80 (first : Int) : spO80 first = some (sp80 first) := isSome_getD (show (spO80 first).isSome = true by simp only [spO80, ent80, isSome_cond, Option.isSome_some, cond_self])
theorem oks80 (first : Int) : Okay Pr GL 80 [.v (.int .i64 first)] [] (to80 (sp80 first)) :=
  okay_of_run (H := H80) G0ok G0ok Tryd.func80 rfl (by kernel_rfl) 0 ((run80 (runL Pr G0 H80 Tryd.f80 0) first).trans (auto_ok0 (show ent80 to80 first = (ent80 id first).map to80 by simp only [ent80, map_cond, Option.map_some, Option.map_none, id]) (some80 first)))

/-! ### admit.both -/
abbrev R83 := Where
def to83 (r : R83) : Ans := ⟨.agg [.v (.int .i64 r.first), .v (.int .i64 r.second)], []⟩
def H83 : Hint := ⟨fun _ => false, fun _ => ⟨[], []⟩, [], G0, nodp⟩
noncomputable def ent83 {R : Type} (ret : R83 → R) (first : Int) (second : Int) : Option R :=
    some (ret (⟨first, second⟩ : Where))
theorem run83 (J : Jmp) (first : Int) (second : Int) : runF Pr G0 H83 J GL Tryd.f83 [.v (.int .i64 first), .v (.int .i64 second)] [] = ent83 to83 first second := by kernel_rfl
/-- admit.both -/
noncomputable def spO83 (first : Int) (second : Int) : Option R83 := ent83 id first second
noncomputable def sp83 (first : Int) (second : Int) : R83 := (spO83 first second).getD default
theorem some83 (first : Int) (second : Int) : spO83 first second = some (sp83 first second) := isSome_getD (show (spO83 first second).isSome = true by simp only [spO83, ent83, isSome_cond, Option.isSome_some, cond_self])
theorem oks83 (first : Int) (second : Int) : Okay Pr GL 83 [.v (.int .i64 first), .v (.int .i64 second)] [] (to83 (sp83 first second)) :=
  okay_of_run (H := H83) G0ok G0ok Tryd.func83 rfl (by kernel_rfl) 0 ((run83 (runL Pr G0 H83 Tryd.f83 0) first second).trans (auto_ok0 (show ent83 to83 first second = (ent83 id first second).map to83 by simp only [ent83, map_cond, Option.map_some, Option.map_none, id]) (some83 first second)))

/-! ### admit.meet -/
abbrev R86 := Bool
def to86 (r : R86) : Ans := ⟨.v (.bool r), []⟩
def H86 : Hint := ⟨fun _ => false, fun _ => ⟨[], []⟩, [], G0, nodp⟩
noncomputable def ent86 {R : Type} (ret : R86 → R) (a : Int) (many : Int) (b : Int) (others : Int) : Option R :=
    cond (decide ((a : Int) < (IntKind.i64.wrap (b + others))))
    (some (ret (decide ((b : Int) < (IntKind.i64.wrap (a + many))))))
    (some (ret false))
theorem run86 (J : Jmp) (a : Int) (many : Int) (b : Int) (others : Int) : runF Pr G0 H86 J GL Tryd.f86 [.v (.int .i64 a), .v (.int .i64 many), .v (.int .i64 b), .v (.int .i64 others)] [] = ent86 to86 a many b others := by kernel_rfl
/-- admit.meet -/
noncomputable def spO86 (a : Int) (many : Int) (b : Int) (others : Int) : Option R86 := ent86 id a many b others
noncomputable def sp86 (a : Int) (many : Int) (b : Int) (others : Int) : R86 := (spO86 a many b others).getD default
theorem some86 (a : Int) (many : Int) (b : Int) (others : Int) : spO86 a many b others = some (sp86 a many b others) := isSome_getD (show (spO86 a many b others).isSome = true by simp only [spO86, ent86, isSome_cond, Option.isSome_some, cond_self])
theorem oks86 (a : Int) (many : Int) (b : Int) (others : Int) : Okay Pr GL 86 [.v (.int .i64 a), .v (.int .i64 many), .v (.int .i64 b), .v (.int .i64 others)] [] (to86 (sp86 a many b others)) :=
  okay_of_run (H := H86) G0ok G0ok Tryd.func86 rfl (by kernel_rfl) 0 ((run86 (runL Pr G0 H86 Tryd.f86 0) a many b others).trans (auto_ok0 (show ent86 to86 a many b others = (ent86 id a many b others).map to86 by simp only [ent86, map_cond, Option.map_some, Option.map_none, id]) (some86 a many b others)))

/-! ### layout.Stage -/
abbrev R71 := Int
def to71 (r : R71) : Ans := ⟨.v (.int .i64 r), []⟩
def H71 : Hint := ⟨fun _ => false, fun _ => ⟨[], []⟩, [], G0, nodp⟩
noncomputable def ent71 {R : Type} (ret : R71 → R) (h_0 : Channel) : Option R :=
    cond (decide ((h_0.words : Int) < 1))
    (some (ret 0))
    (cond (decide ((h_0.words : Int) > 16))
      (some (ret 0))
      (cond ((h_0.kind : Int) == 1)
        (some (ret (IntKind.i64.wrap (2 + h_0.words))))
        (cond ((h_0.kind : Int) == 2)
          (cond (decide ((h_0.depth : Int) ≥ 1))
            (cond (decide ((h_0.depth : Int) ≤ 8))
              (some (ret (IntKind.i64.wrap (1 + (IntKind.i64.wrap (h_0.depth * (IntKind.i64.wrap (1 + h_0.words))))))))
              (some (ret 0)))
            (some (ret 0)))
          (some (ret 0)))))
theorem run71 (J : Jmp) (h_0 : Channel) : runF Pr G0 H71 J GL Tryd.f71 [.agg [.v (.int .i64 h_0.kind), .v (.int .i64 h_0.words), .v (.int .i64 h_0.depth)]] [] = ent71 to71 h_0 := by kernel_rfl
/-- layout.Stage -/
noncomputable def spO71 (h_0 : Channel) : Option R71 := ent71 id h_0
noncomputable def sp71 (h_0 : Channel) : R71 := (spO71 h_0).getD default
theorem some71 (h_0 : Channel) : spO71 h_0 = some (sp71 h_0) := isSome_getD (show (spO71 h_0).isSome = true by simp only [spO71, ent71, isSome_cond, Option.isSome_some, cond_self])
theorem oks71 (h_0 : Channel) : Okay Pr GL 71 [.agg [.v (.int .i64 h_0.kind), .v (.int .i64 h_0.words), .v (.int .i64 h_0.depth)]] [] (to71 (sp71 h_0)) :=
  okay_of_run (H := H71) G0ok G0ok Tryd.func71 rfl (by kernel_rfl) 0 ((run71 (runL Pr G0 H71 Tryd.f71 0) h_0).trans (auto_ok0 (show ent71 to71 h_0 = (ent71 id h_0).map to71 by simp only [ent71, map_cond, Option.map_some, Option.map_none, id]) (some71 h_0)))

/-! ### layout.counter$1 -/
abbrev R89 := Int × Int
def to89 (r : R89) : Ans := ⟨.v (.int .i64 r.1), [.cells 3 [.v (.int .i64 r.2)]]⟩
def H89 : Hint := ⟨fun _ => false, fun _ => ⟨[], []⟩, [], G0, nodp⟩
noncomputable def ent89 {R : Type} (ret : R89 → R) (n : Int) (here : Int) : Option R :=
    some (ret (here, (IntKind.i64.wrap (here + n))))
theorem run89 (J : Jmp) (n : Int) (here : Int) : runF Pr G0 H89 J GL Tryd.f89 [.v (.int .i64 n), .ref 0 0] [.cells 3 [.v (.int .i64 here)]] = ent89 to89 n here := by kernel_rfl
/-- layout.counter$1 -/
noncomputable def spO89 (n : Int) (here : Int) : Option R89 := ent89 id n here
noncomputable def sp89 (n : Int) (here : Int) : R89 := (spO89 n here).getD default
theorem some89 (n : Int) (here : Int) : spO89 n here = some (sp89 n here) := isSome_getD (show (spO89 n here).isSome = true by simp only [spO89, ent89, isSome_cond, Option.isSome_some, cond_self])
theorem oks89 (n : Int) (here : Int) : Okay Pr GL 89 [.v (.int .i64 n), .ref 0 0] [.cells 3 [.v (.int .i64 here)]] (to89 (sp89 n here)) :=
  okay_of_run (H := H89) G0ok G0ok Tryd.func89 rfl (by kernel_rfl) 0 ((run89 (runL Pr G0 H89 Tryd.f89 0) n here).trans (auto_ok0 (show ent89 to89 n here = (ent89 id n here).map to89 by simp only [ent89, map_cond, Option.map_some, Option.map_none, id]) (some89 n here)))

/-! ### ref15.body -/
abbrev R77 := Int
def to77 (r : R77) : Ans := ⟨.v (.int .i64 r), []⟩
def H77 : Hint := ⟨fun _ => false, fun _ => ⟨[], []⟩, [], G0, nodp⟩
noncomputable def ent77 {R : Type} (ret : R77 → R) (h_0 : Channel) : Option R :=
    cond (decide ((h_0.words : Int) < 1))
    (some (ret 0))
    (cond (decide ((h_0.words : Int) > 16))
      (some (ret 0))
      (cond ((h_0.kind : Int) == 1)
        (some (ret h_0.words))
        (cond ((h_0.kind : Int) == 2)
          (cond (decide ((h_0.depth : Int) ≥ 1))
            (cond (decide ((h_0.depth : Int) ≤ 8))
              (some (ret (IntKind.i64.wrap (h_0.depth * (IntKind.i64.wrap (1 + h_0.words))))))
              (some (ret 0)))
            (some (ret 0)))
          (some (ret 0)))))
theorem run77 (J : Jmp) (h_0 : Channel) : runF Pr G0 H77 J GL Tryd.f77 [.agg [.v (.int .i64 h_0.kind), .v (.int .i64 h_0.words), .v (.int .i64 h_0.depth)]] [] = ent77 to77 h_0 := by kernel_rfl
/-- ref15.body -/
noncomputable def spO77 (h_0 : Channel) : Option R77 := ent77 id h_0
noncomputable def sp77 (h_0 : Channel) : R77 := (spO77 h_0).getD default
theorem some77 (h_0 : Channel) : spO77 h_0 = some (sp77 h_0) := isSome_getD (show (spO77 h_0).isSome = true by simp only [spO77, ent77, isSome_cond, Option.isSome_some, cond_self])
theorem oks77 (h_0 : Channel) : Okay Pr GL 77 [.agg [.v (.int .i64 h_0.kind), .v (.int .i64 h_0.words), .v (.int .i64 h_0.depth)]] [] (to77 (sp77 h_0)) :=
  okay_of_run (H := H77) G0ok G0ok Tryd.func77 rfl (by kernel_rfl) 0 ((run77 (runL Pr G0 H77 Tryd.f77 0) h_0).trans (auto_ok0 (show ent77 to77 h_0 = (ent77 id h_0).map to77 by simp only [ent77, map_cond, Option.map_some, Option.map_none, id]) (some77 h_0)))

noncomputable def g10 (args : List AV) (hp : List Blk) : Option (Bool × AV × List Blk) :=
  match hp, args with
  | [], [x0, x1] => (rdL (.sl .sOwner) x0).bind fun a0 => (rdS .sOwner x1).bind fun a1 => some ((spc10 a0 a1), .v (.bool (sp10 a0 a1)), [])
  | _, _ => none
theorem g10_ok {args : List AV} {hp : List Blk} {b : Bool} {r : AV} {hp' : List Blk} (h : g10 args hp = some (b, r, hp')) (hb : b = true) : FnOk Pr 10 ∧ Okay Pr GL 10 args hp ⟨r, hp'⟩ := by
  unfold g10 at h
  split at h
  · simp only [Option.bind_eq_some_iff] at h
    obtain ⟨a0, h0, a1, h1, h⟩ := h
    cases h; exact ⟨fnok Tryd.func10 (by kernel_rfl) rfl, (oks10 a0 a1 hb).ats (.cons (rdL_V h0) (.cons (rdS_V h1) .nil))⟩
  · cases h
noncomputable def g11 (args : List AV) (hp : List Blk) : Option (Bool × AV × List Blk) :=
  match hp, args with
  | [], [x0, x1, x2] => (rdS .sConfig x0).bind fun a0 => (rdL (.i .i64) x1).bind fun a1 => (rdL (.i .i64) x2).bind fun a2 => some ((spc11 a0 a1 a2), .tup [.v (.bool ((sp11 a0 a1 a2).1)), .v (.bool ((sp11 a0 a1 a2).2))], [])
  | _, _ => none
theorem g11_ok {args : List AV} {hp : List Blk} {b : Bool} {r : AV} {hp' : List Blk} (h : g11 args hp = some (b, r, hp')) (hb : b = true) : FnOk Pr 11 ∧ Okay Pr GL 11 args hp ⟨r, hp'⟩ := by
  unfold g11 at h
  split at h
  · simp only [Option.bind_eq_some_iff] at h
    obtain ⟨a0, h0, a1, h1, a2, h2, h⟩ := h
    cases h; exact ⟨fnok Tryd.func11 (by kernel_rfl) rfl, (oks11 a0 a1 a2 hb).ats (.cons (rdS_V h0) (.cons (rdL_V h1) (.cons (rdL_V h2) .nil)))⟩
  · cases h
noncomputable def g15 (args : List AV) (hp : List Blk) : Option (Bool × AV × List Blk) :=
  match hp, args with
  | [], [x0, x1] => (rdS .sPartition x0).bind fun a0 => (rdS .sPartition x1).bind fun a1 => some ((spc15 a0 a1), .v (.bool (sp15 a0 a1)), [])
  | _, _ => none
theorem g15_ok {args : List AV} {hp : List Blk} {b : Bool} {r : AV} {hp' : List Blk} (h : g15 args hp = some (b, r, hp')) (hb : b = true) : FnOk Pr 15 ∧ Okay Pr GL 15 args hp ⟨r, hp'⟩ := by
  unfold g15 at h
  split at h
  · simp only [Option.bind_eq_some_iff] at h
    obtain ⟨a0, h0, a1, h1, h⟩ := h
    cases h; exact ⟨fnok Tryd.func15 (by kernel_rfl) rfl, (oks15 a0 a1 hb).ats (.cons (rdS_V h0) (.cons (rdS_V h1) .nil))⟩
  · cases h
noncomputable def g17 (args : List AV) (hp : List Blk) : Option (Bool × AV × List Blk) :=
  match hp, args with
  | [], [] => some (true, .agg [.v (.int .i64 sp17.first), .v (.int .i64 sp17.second)], [])
  | _, _ => none
theorem g17_ok {args : List AV} {hp : List Blk} {b : Bool} {r : AV} {hp' : List Blk} (h : g17 args hp = some (b, r, hp')) (hb : b = true) : FnOk Pr 17 ∧ Okay Pr GL 17 args hp ⟨r, hp'⟩ := by
  unfold g17 at h
  split at h
  · cases h; exact ⟨fnok Tryd.func17 (by kernel_rfl) rfl, (oks17 ).ats .nil⟩
  · cases h
noncomputable def g20 (args : List AV) (hp : List Blk) : Option (Bool × AV × List Blk) :=
  match hp, args with
  | [], [x0] => (rdL (.i .i64) x0).bind fun a0 => some (true, .agg [.v (.int .i64 ((sp20 a0).first)), .v (.int .i64 ((sp20 a0).second))], [])
  | _, _ => none
theorem g20_ok {args : List AV} {hp : List Blk} {b : Bool} {r : AV} {hp' : List Blk} (h : g20 args hp = some (b, r, hp')) (hb : b = true) : FnOk Pr 20 ∧ Okay Pr GL 20 args hp ⟨r, hp'⟩ := by
  unfold g20 at h
  split at h
  · simp only [Option.bind_eq_some_iff] at h
    obtain ⟨a0, h0, h⟩ := h
    cases h; exact ⟨fnok Tryd.func20 (by kernel_rfl) rfl, (oks20 a0).ats (.cons (rdL_V h0) .nil)⟩
  · cases h
noncomputable def g29 (args : List AV) (hp : List Blk) : Option (Bool × AV × List Blk) :=
  match hp, args with
  | [], [x0, x1, x2] => (rdL (.i .i64) x0).bind fun a0 => (rdL (.i .i64) x1).bind fun a1 => (rdL (.i .i64) x2).bind fun a2 => some (true, .v (.bool (sp29 a0 a1 a2)), [])
  | _, _ => none
theorem g29_ok {args : List AV} {hp : List Blk} {b : Bool} {r : AV} {hp' : List Blk} (h : g29 args hp = some (b, r, hp')) (hb : b = true) : FnOk Pr 29 ∧ Okay Pr GL 29 args hp ⟨r, hp'⟩ := by
  unfold g29 at h
  split at h
  · simp only [Option.bind_eq_some_iff] at h
    obtain ⟨a0, h0, a1, h1, a2, h2, h⟩ := h
    cases h; exact ⟨fnok Tryd.func29 (by kernel_rfl) rfl, (oks29 a0 a1 a2).ats (.cons (rdL_V h0) (.cons (rdL_V h1) (.cons (rdL_V h2) .nil)))⟩
  · cases h
noncomputable def g33 (args : List AV) (hp : List Blk) : Option (Bool × AV × List Blk) :=
  match hp, args with
  | [], [x0, x1] => (rdS .sConfig x0).bind fun a0 => (rdL (.i .i64) x1).bind fun a1 => some ((spc33 a0 a1), .tup [.v (.int .i64 ((sp33 a0 a1).1)), .v (.int .i64 ((sp33 a0 a1).2))], [])
  | _, _ => none
theorem g33_ok {args : List AV} {hp : List Blk} {b : Bool} {r : AV} {hp' : List Blk} (h : g33 args hp = some (b, r, hp')) (hb : b = true) : FnOk Pr 33 ∧ Okay Pr GL 33 args hp ⟨r, hp'⟩ := by
  unfold g33 at h
  split at h
  · simp only [Option.bind_eq_some_iff] at h
    obtain ⟨a0, h0, a1, h1, h⟩ := h
    cases h; exact ⟨fnok Tryd.func33 (by kernel_rfl) rfl, (oks33 a0 a1 hb).ats (.cons (rdS_V h0) (.cons (rdL_V h1) .nil))⟩
  · cases h
noncomputable def g34 (args : List AV) (hp : List Blk) : Option (Bool × AV × List Blk) :=
  match hp, args with
  | [], [x0, x1, x2] => (rdS .sConfig x0).bind fun a0 => (rdL (.i .i64) x1).bind fun a1 => (rdL (.i .i64) x2).bind fun a2 => some ((spc34 a0 a1 a2), .v (.bool (sp34 a0 a1 a2)), [])
  | _, _ => none
theorem g34_ok {args : List AV} {hp : List Blk} {b : Bool} {r : AV} {hp' : List Blk} (h : g34 args hp = some (b, r, hp')) (hb : b = true) : FnOk Pr 34 ∧ Okay Pr GL 34 args hp ⟨r, hp'⟩ := by
  unfold g34 at h
  split at h
  · simp only [Option.bind_eq_some_iff] at h
    obtain ⟨a0, h0, a1, h1, a2, h2, h⟩ := h
    cases h; exact ⟨fnok Tryd.func34 (by kernel_rfl) rfl, (oks34 a0 a1 a2 hb).ats (.cons (rdS_V h0) (.cons (rdL_V h1) (.cons (rdL_V h2) .nil)))⟩
  · cases h
noncomputable def g35 (args : List AV) (hp : List Blk) : Option (Bool × AV × List Blk) :=
  match hp, args with
  | [], [x0, x1, x2, x3] => (rdL (.i .i64) x0).bind fun a0 => (rdL (.i .i64) x1).bind fun a1 => (rdL (.i .i64) x2).bind fun a2 => (rdL (.i .i64) x3).bind fun a3 => some (true, .v (.bool (sp35 a0 a1 a2 a3)), [])
  | _, _ => none
theorem g35_ok {args : List AV} {hp : List Blk} {b : Bool} {r : AV} {hp' : List Blk} (h : g35 args hp = some (b, r, hp')) (hb : b = true) : FnOk Pr 35 ∧ Okay Pr GL 35 args hp ⟨r, hp'⟩ := by
  unfold g35 at h
  split at h
  · simp only [Option.bind_eq_some_iff] at h
    obtain ⟨a0, h0, a1, h1, a2, h2, a3, h3, h⟩ := h
    cases h; exact ⟨fnok Tryd.func35 (by kernel_rfl) rfl, (oks35 a0 a1 a2 a3).ats (.cons (rdL_V h0) (.cons (rdL_V h1) (.cons (rdL_V h2) (.cons (rdL_V h3) .nil))))⟩
  · cases h
noncomputable def g54 (args : List AV) (hp : List Blk) : Option (Bool × AV × List Blk) :=
  match hp, args with
  | [], [x0, x1, x2] => (rdL .b x0).bind fun a0 => (rdL (.i .i64) x1).bind fun a1 => (rdS .sWhere x2).bind fun a2 => some (true, .agg [.v (.int .i64 ((sp54 a0 a1 a2).e)), .v (.int .i64 ((sp54 a0 a1 a2).where_.first)), .v (.int .i64 ((sp54 a0 a1 a2).where_.second))], [])
  | _, _ => none
theorem g54_ok {args : List AV} {hp : List Blk} {b : Bool} {r : AV} {hp' : List Blk} (h : g54 args hp = some (b, r, hp')) (hb : b = true) : FnOk Pr 54 ∧ Okay Pr GL 54 args hp ⟨r, hp'⟩ := by
  unfold g54 at h
  split at h
  · simp only [Option.bind_eq_some_iff] at h
    obtain ⟨a0, h0, a1, h1, a2, h2, h⟩ := h
    cases h; exact ⟨fnok Tryd.func54 (by kernel_rfl) rfl, (oks54 a0 a1 a2).ats (.cons (rdL_V h0) (.cons (rdL_V h1) (.cons (rdS_V h2) .nil)))⟩
  · cases h
noncomputable def g55 (args : List AV) (hp : List Blk) : Option (Bool × AV × List Blk) :=
  match hp, args with
  | [], [x0, x1, x2] => (rdL (.i .i64) x0).bind fun a0 => (rdL (.i .i64) x1).bind fun a1 => (rdL (.i .i64) x2).bind fun a2 => some (true, .v (.bool (sp55 a0 a1 a2)), [])
  | _, _ => none
theorem g55_ok {args : List AV} {hp : List Blk} {b : Bool} {r : AV} {hp' : List Blk} (h : g55 args hp = some (b, r, hp')) (hb : b = true) : FnOk Pr 55 ∧ Okay Pr GL 55 args hp ⟨r, hp'⟩ := by
  unfold g55 at h
  split at h
  · simp only [Option.bind_eq_some_iff] at h
    obtain ⟨a0, h0, a1, h1, a2, h2, h⟩ := h
    cases h; exact ⟨fnok Tryd.func55 (by kernel_rfl) rfl, (oks55 a0 a1 a2).ats (.cons (rdL_V h0) (.cons (rdL_V h1) (.cons (rdL_V h2) .nil)))⟩
  · cases h
noncomputable def g80 (args : List AV) (hp : List Blk) : Option (Bool × AV × List Blk) :=
  match hp, args with
  | [], [x0] => (rdL (.i .i64) x0).bind fun a0 => some (true, .agg [.v (.int .i64 ((sp80 a0).first)), .v (.int .i64 ((sp80 a0).second))], [])
  | _, _ => none
theorem g80_ok {args : List AV} {hp : List Blk} {b : Bool} {r : AV} {hp' : List Blk} (h : g80 args hp = some (b, r, hp')) (hb : b = true) : FnOk Pr 80 ∧ Okay Pr GL 80 args hp ⟨r, hp'⟩ := by
  unfold g80 at h
  split at h
  · simp only [Option.bind_eq_some_iff] at h
    obtain ⟨a0, h0, h⟩ := h
    cases h; exact ⟨fnok Tryd.func80 (by kernel_rfl) rfl, (oks80 a0).ats (.cons (rdL_V h0) .nil)⟩
  · cases h
noncomputable def g83 (args : List AV) (hp : List Blk) : Option (Bool × AV × List Blk) :=
  match hp, args with
  | [], [x0, x1] => (rdL (.i .i64) x0).bind fun a0 => (rdL (.i .i64) x1).bind fun a1 => some (true, .agg [.v (.int .i64 ((sp83 a0 a1).first)), .v (.int .i64 ((sp83 a0 a1).second))], [])
  | _, _ => none
theorem g83_ok {args : List AV} {hp : List Blk} {b : Bool} {r : AV} {hp' : List Blk} (h : g83 args hp = some (b, r, hp')) (hb : b = true) : FnOk Pr 83 ∧ Okay Pr GL 83 args hp ⟨r, hp'⟩ := by
  unfold g83 at h
  split at h
  · simp only [Option.bind_eq_some_iff] at h
    obtain ⟨a0, h0, a1, h1, h⟩ := h
    cases h; exact ⟨fnok Tryd.func83 (by kernel_rfl) rfl, (oks83 a0 a1).ats (.cons (rdL_V h0) (.cons (rdL_V h1) .nil))⟩
  · cases h
noncomputable def g86 (args : List AV) (hp : List Blk) : Option (Bool × AV × List Blk) :=
  match hp, args with
  | [], [x0, x1, x2, x3] => (rdL (.i .i64) x0).bind fun a0 => (rdL (.i .i64) x1).bind fun a1 => (rdL (.i .i64) x2).bind fun a2 => (rdL (.i .i64) x3).bind fun a3 => some (true, .v (.bool (sp86 a0 a1 a2 a3)), [])
  | _, _ => none
theorem g86_ok {args : List AV} {hp : List Blk} {b : Bool} {r : AV} {hp' : List Blk} (h : g86 args hp = some (b, r, hp')) (hb : b = true) : FnOk Pr 86 ∧ Okay Pr GL 86 args hp ⟨r, hp'⟩ := by
  unfold g86 at h
  split at h
  · simp only [Option.bind_eq_some_iff] at h
    obtain ⟨a0, h0, a1, h1, a2, h2, a3, h3, h⟩ := h
    cases h; exact ⟨fnok Tryd.func86 (by kernel_rfl) rfl, (oks86 a0 a1 a2 a3).ats (.cons (rdL_V h0) (.cons (rdL_V h1) (.cons (rdL_V h2) (.cons (rdL_V h3) .nil))))⟩
  · cases h
noncomputable def g71 (args : List AV) (hp : List Blk) : Option (Bool × AV × List Blk) :=
  match hp, args with
  | [], [x0] => (rdS .sChannel x0).bind fun a0 => some (true, .v (.int .i64 (sp71 a0)), [])
  | _, _ => none
theorem g71_ok {args : List AV} {hp : List Blk} {b : Bool} {r : AV} {hp' : List Blk} (h : g71 args hp = some (b, r, hp')) (hb : b = true) : FnOk Pr 71 ∧ Okay Pr GL 71 args hp ⟨r, hp'⟩ := by
  unfold g71 at h
  split at h
  · simp only [Option.bind_eq_some_iff] at h
    obtain ⟨a0, h0, h⟩ := h
    cases h; exact ⟨fnok Tryd.func71 (by kernel_rfl) rfl, (oks71 a0).ats (.cons (rdS_V h0) .nil)⟩
  · cases h
noncomputable def g89 (args : List AV) (hp : List Blk) : Option (Bool × AV × List Blk) :=
  match args, hp with
  | [.v (.int .i64 y0), .ref 0 0], [.cells 3 [.v (.int .i64 y1)]] => some (true, .v (.int .i64 ((sp89 y0 y1).1)), [.cells 3 [.v (.int .i64 ((sp89 y0 y1).2))]])
  | _, _ => none
theorem g89_ok {args : List AV} {hp : List Blk} {b : Bool} {r : AV} {hp' : List Blk} (h : g89 args hp = some (b, r, hp')) (hb : b = true) : FnOk Pr 89 ∧ Okay Pr GL 89 args hp ⟨r, hp'⟩ := by
  unfold g89 at h
  split at h
  · cases h; exact ⟨fnok Tryd.func89 (by kernel_rfl) rfl, oks89 _ _⟩
  · cases h
noncomputable def g77 (args : List AV) (hp : List Blk) : Option (Bool × AV × List Blk) :=
  match hp, args with
  | [], [x0] => (rdS .sChannel x0).bind fun a0 => some (true, .v (.int .i64 (sp77 a0)), [])
  | _, _ => none
theorem g77_ok {args : List AV} {hp : List Blk} {b : Bool} {r : AV} {hp' : List Blk} (h : g77 args hp = some (b, r, hp')) (hb : b = true) : FnOk Pr 77 ∧ Okay Pr GL 77 args hp ⟨r, hp'⟩ := by
  unfold g77 at h
  split at h
  · simp only [Option.bind_eq_some_iff] at h
    obtain ⟨a0, h0, h⟩ := h
    cases h; exact ⟨fnok Tryd.func77 (by kernel_rfl) rfl, (oks77 a0).ats (.cons (rdS_V h0) .nil)⟩
  · cases h
noncomputable def GA : Gam := fun c args hp => match c with
  | .f f => pick1 10 f (g10 args hp) (pick1 11 f (g11 args hp) (pick1 15 f (g15 args hp) (pick1 17 f (g17 args hp) (pick1 20 f (g20 args hp) (pick1 29 f (g29 args hp) (pick1 33 f (g33 args hp) (pick1 34 f (g34 args hp) (pick1 35 f (g35 args hp) (pick1 54 f (g54 args hp) (pick1 55 f (g55 args hp) (pick1 80 f (g80 args hp) (pick1 83 f (g83 args hp) (pick1 86 f (g86 args hp) (pick1 71 f (g71 args hp) (pick1 89 f (g89 args hp) (pick1 77 f (g77 args hp) (none)))))))))))))))))
  | .c x => none
theorem GAok : GOk Pr GL GA := by
  intro c args hp b r hp' h hb
  cases c with
  | f f =>
    simp only [GA] at h
    rcases pick1_ok h with ⟨rfl, h⟩ | h
    · exact g10_ok h hb
    rcases pick1_ok h with ⟨rfl, h⟩ | h
    · exact g11_ok h hb
    rcases pick1_ok h with ⟨rfl, h⟩ | h
    · exact g15_ok h hb
    rcases pick1_ok h with ⟨rfl, h⟩ | h
    · exact g17_ok h hb
    rcases pick1_ok h with ⟨rfl, h⟩ | h
    · exact g20_ok h hb
    rcases pick1_ok h with ⟨rfl, h⟩ | h
    · exact g29_ok h hb
    rcases pick1_ok h with ⟨rfl, h⟩ | h
    · exact g33_ok h hb
    rcases pick1_ok h with ⟨rfl, h⟩ | h
    · exact g34_ok h hb
    rcases pick1_ok h with ⟨rfl, h⟩ | h
    · exact g35_ok h hb
    rcases pick1_ok h with ⟨rfl, h⟩ | h
    · exact g54_ok h hb
    rcases pick1_ok h with ⟨rfl, h⟩ | h
    · exact g55_ok h hb
    rcases pick1_ok h with ⟨rfl, h⟩ | h
    · exact g80_ok h hb
    rcases pick1_ok h with ⟨rfl, h⟩ | h
    · exact g83_ok h hb
    rcases pick1_ok h with ⟨rfl, h⟩ | h
    · exact g86_ok h hb
    rcases pick1_ok h with ⟨rfl, h⟩ | h
    · exact g71_ok h hb
    rcases pick1_ok h with ⟨rfl, h⟩ | h
    · exact g89_ok h hb
    rcases pick1_ok h with ⟨rfl, h⟩ | h
    · exact g77_ok h hb
    cases h
  | c x => cases h
end Go.Proofs.YthnkmndjhedgdaaDoor
