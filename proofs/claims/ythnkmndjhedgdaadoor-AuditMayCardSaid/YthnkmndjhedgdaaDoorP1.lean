/- Shadows of functions (printed by pr2.py off the model's code; the kernel holds each equation to it), and what they answer. -/
import Derived.Test.YthnkmndjhedgdaaDoorP0
namespace Go.Proofs.YthnkmndjhedgdaaDoor
open Go.RowKit
set_option linter.unusedVariables false
set_option linter.unusedSimpArgs false
/-! ### law12.Copied -/
abbrev R5 := Config
def to5 (r : R5) : Ans := ⟨.agg [.v (.int .i64 r.frames), .v (.int .i64 r.major), .v (.int .i64 r.kernel), .v (.int .i64 r.room), .own 0, .own 1, .own 2], [.arr 44 (.sl .sWindow) r.cores, .arr 48 .sPartition r.partitions, .arr 53 .sChannel r.channels]⟩
inductive L5 where
  | l0 (x0 : Int) (x1 : List (List Window))
  | l4 (x0 : Int) (x2 : List (List Window)) (x1 : List Partition)
def num5 : L5 → Nat
  | .l0 _ _ => 0
  | .l4 _ _ _ => 4
def H5 : Hint := ⟨fun n => [].any (Nat.beq n), hdAt [(0, ⟨fgt [1, 2, 3, 4] 77 0, []⟩), (4, ⟨fgt [1, 2, 3, 6] 77 0, []⟩)], [], G0, nodp⟩
noncomputable def st5 (c : Config) : L5 → St
  | .l0 x0 x1 => ⟨mkE [(1, .ref 0 0), (2, .ref 1 0), (3, .ref 2 0), (4, .v (.int .i64 x0))] 77 0, [.cells 26 [.v (.int .i64 c.frames), .v (.int .i64 c.major), .v (.int .i64 c.kernel), .v (.int .i64 c.room), .sl (.sl .sWindow) c.cores, .sl .sPartition c.partitions, .sl .sChannel c.channels], .cells 26 [.v (.int .i64 0), .v (.int .i64 0), .v (.int .i64 0), .v (.int .i64 0), .v (.slice none 0 0), .v (.slice none 0 0), .v (.slice none 0 0)], .cells 26 [.v (.int .i64 c.frames), .v (.int .i64 c.major), .v (.int .i64 c.kernel), .v (.int .i64 c.room), .own 3, .sl .sPartition c.partitions, .sl .sChannel c.channels], .arr 44 (.sl .sWindow) x1], GL, 0, [], nodp⟩
  | .l4 x0 x2 x1 => ⟨mkE [(1, .ref 0 0), (2, .ref 1 0), (3, .ref 2 0), (6, .v (.int .i64 x0))] 77 0, [.cells 26 [.v (.int .i64 c.frames), .v (.int .i64 c.major), .v (.int .i64 c.kernel), .v (.int .i64 c.room), .sl (.sl .sWindow) c.cores, .sl .sPartition c.partitions, .sl .sChannel c.channels], .cells 26 [.v (.int .i64 0), .v (.int .i64 0), .v (.int .i64 0), .v (.int .i64 0), .v (.slice none 0 0), .v (.slice none 0 0), .v (.slice none 0 0)], .cells 26 [.v (.int .i64 c.frames), .v (.int .i64 c.major), .v (.int .i64 c.kernel), .v (.int .i64 c.room), .own 3, .own 4, .sl .sChannel c.channels], .arr 44 (.sl .sWindow) x2, .arr 48 .sPartition x1], GL, 0, [], nodp⟩
noncomputable def bod5 {R : Type} (ret : R5 → R) (c : Config) (j : L5 → Option R) : L5 → Option R
  | .l0 x0 x1 => cond (decide ((x0 : Int) < c.cores.length))
    (cond (inR x0 c.cores.length) (
      cond (leB ((([] : List Window).length + (atLWindow c.cores x0.toNat : List Window).length) * 24) 140737488355328) (
        cond (inR x0 x1.length) (j (.l0 (IntKind.i64.wrap (x0 + 1)) (List.set x1 x0.toNat (([] : List Window) ++ atLWindow c.cores x0.toNat)))) none) none) none)
    (cond (decide ((c.partitions.length : Int) = c.partitions.length) && decide (0 ≤ c.partitions.length) && leB ((c.partitions.length : Int).toNat * 104) 140737488355328) (
      j (.l4 0 x1 (List.replicate (c.partitions.length : Int).toNat (⟨(ByteArray.mk #[]), 0, 0, 0, 0, 0, [], []⟩ : Partition)))) none)
  | .l4 x0 x2 x1 => cond (decide ((x0 : Int) < c.partitions.length))
    (cond (inR x0 c.partitions.length) (
      cond (leB ((([] : List Region).length + ((atPartition c.partitions x0.toNat).regions : List Region).length) * 32) 140737488355328) (
        cond (leB ((([] : List Port).length + ((atPartition c.partitions x0.toNat).ports : List Port).length) * 16) 140737488355328) (
          cond (inR x0 x1.length) (
            j (.l4 (IntKind.i64.wrap (x0 + 1)) x2 (List.set x1 x0.toNat (⟨(atPartition c.partitions x0.toNat).name, (atPartition c.partitions x0.toNat).entry, (atPartition c.partitions x0.toNat).action, (atPartition c.partitions x0.toNat).restarts, (atPartition c.partitions x0.toNat).inputs, (atPartition c.partitions x0.toNat).outputs, (([] : List Region) ++ (atPartition c.partitions x0.toNat).regions), (([] : List Port) ++ (atPartition c.partitions x0.toNat).ports)⟩ : Partition)))) none) none) none) none)
    (cond (leB ((([] : List Channel).length + (c.channels : List Channel).length) * 24) 140737488355328) (some (ret (⟨c.frames, c.major, c.kernel, c.room, x2, x1, (([] : List Channel) ++ c.channels)⟩ : Config))) none)
noncomputable def ent5 {R : Type} (ret : R5 → R) (c : Config) (j : L5 → Option R) : Option R :=
    cond (decide ((c.cores.length : Int) = c.cores.length) && decide (0 ≤ c.cores.length) && leB ((c.cores.length : Int).toNat * 24) 140737488355328) (j (.l0 0 (List.replicate (c.cores.length : Int).toNat []))) none
theorem head5_0 (J : Jmp) (c : Config) (x0 : Int) (x1 : List (List Window)) : stepAt Pr GA H5 J 0 0 (bodyOf Tryd.f5) (fin Pr H5 Tryd.f5) (st5 c (.l0 x0 x1)) = bod5 to5 c (fun l => J (num5 l) (st5 c l)) (.l0 x0 x1) := by kernel_rfl
theorem head5_4 (J : Jmp) (c : Config) (x0 : Int) (x2 : List (List Window)) (x1 : List Partition) : stepAt Pr GA H5 J 4 0 (bodyOf Tryd.f5) (fin Pr H5 Tryd.f5) (st5 c (.l4 x0 x2 x1)) = bod5 to5 c (fun l => J (num5 l) (st5 c l)) (.l4 x0 x2 x1) := by kernel_rfl
theorem run5 (J : Jmp) (c : Config) : runF Pr GA H5 J GL Tryd.f5 [.agg [.v (.int .i64 c.frames), .v (.int .i64 c.major), .v (.int .i64 c.kernel), .v (.int .i64 c.room), .sl (.sl .sWindow) c.cores, .sl .sPartition c.partitions, .sl .sChannel c.channels]] [] = ent5 to5 c (fun l => J (num5 l) (st5 c l)) := by kernel_rfl
theorem shad5 (c : Config) : ∀ (n : Nat) (l : L5), runL Pr GA H5 Tryd.f5 n (num5 l) (st5 c l) = shad (bod5 to5 c) n l
  | 0, l => by cases l <;> rfl
  | n + 1, l => by
    have ih : (fun l => runL Pr GA H5 Tryd.f5 n (num5 l) (st5 c l)) = shad (bod5 to5 c) n := funext (shad5 c n)
    cases l with
    | l0 x0 x1 => exact (step_eq ..).trans ((head5_0 ..).trans (by rw [ih]; rfl))
    | l4 x0 x2 x1 => exact (step_eq ..).trans ((head5_4 ..).trans (by rw [ih]; rfl))
theorem nat5 (c : Config) (s : L5 → Option R5) (l : L5) : bod5 to5 c (fun l => (s l).map to5) l = (bod5 id c s l).map to5 := by
  cases l <;> simp only [bod5, map_cond, Option.map_some, Option.map_none, id]
theorem ct5 (c : Config) (l : L5) : CT fun j => bod5 id c j l := by
  cases l <;> (dsimp only [bod5]; repeat (first | exact CT.jump _ | exact CT.const _ | apply CT.cond))
/-- law12.Copied, from a head on. -/
noncomputable def spL5 (c : Config) : L5 → Option R5 := lfp (bod5 id c)
theorem spL5_eq (c : Config) (l : L5) : spL5 c l = bod5 id c (spL5 c) l := lfp_eq (ct5 c) l
/-- law12.Copied -/
noncomputable def spO5 (c : Config) : Option R5 := ent5 id c (spL5 c)
noncomputable def sp5 (c : Config) : R5 := (spO5 c).getD default
noncomputable def spc5 (c : Config) : Bool := (spO5 c).isSome
theorem oks5 (c : Config) (hc : spc5 c = true) : Okay Pr GL 5 [.agg [.v (.int .i64 c.frames), .v (.int .i64 c.major), .v (.int .i64 c.kernel), .v (.int .i64 c.room), .sl (.sl .sWindow) c.cores, .sl .sPartition c.partitions, .sl .sChannel c.channels]] [] (to5 (sp5 c)) := by
  obtain ⟨n, h⟩ := auto_ok (nat5 c) (fun s => show ent5 to5 c (fun l => (s l).map to5) = (ent5 id c s).map to5 by simp only [ent5, map_cond, Option.map_some, Option.map_none, id]) (ct5 c) (show CT fun j => ent5 id c j by dsimp only [ent5]; repeat (first | exact CT.jump _ | exact CT.const _ | apply CT.cond)) (isSome_getD hc)
  exact okay_of_run (H := H5) GAok G0ok Tryd.func5 rfl (by kernel_rfl) n (by
    rw [run5]
    rw [show (fun l => runL Pr GA H5 Tryd.f5 n (num5 l) (st5 c l)) = shad (bod5 to5 c) n from funext (shad5 c n)]
    exact h)

/-! ### layout.region -/
abbrev R43 := Int × Bool
def to43 (r : R43) : Ans := ⟨.tup [.v (.int .i64 r.1), .v (.bool r.2)], []⟩
inductive L43 where
  | l0 (x0 : Int)
  | l4 (x1 : Int) (x2 : Int) (x3 : List Region) (x4 : Int) (x0 : Int)
def num43 : L43 → Nat
  | .l0 _ => 0
  | .l4 _ _ _ _ _ => 4
def H43 : Hint := ⟨fun n => [].any (Nat.beq n), hdAt [(0, ⟨fgt [1, 11, 12, 13, 29, 30, 31, 34, 35, 36, 37, 40, 41, 42, 43, 44, 45, 46] 51 0, []⟩), (4, ⟨fgt [1, 6, 11, 12, 13, 19, 20, 21] 51 0, []⟩)], [], G0, nodp⟩
noncomputable def st43 (c : Config) (frame : Int) : L43 → St
  | .l0 x0 => ⟨mkE [(1, .v (.int .i64 frame)), (11, .sl .sPartition c.partitions), (12, .v (.int .i64 c.partitions.length)), (13, .v (.int .i64 x0))] 51 0, [], GL, 0, [], nodp⟩
  | .l4 x1 x2 x3 x4 x0 => ⟨mkE [(1, .v (.int .i64 frame)), (6, .v (.int .i64 x1)), (11, .sl .sPartition c.partitions), (12, .v (.int .i64 c.partitions.length)), (13, .v (.int .i64 x2)), (19, .sl .sRegion x3), (20, .v (.int .i64 x4)), (21, .v (.int .i64 x0))] 51 0, [], GL, 0, [], nodp⟩
noncomputable def bod43 {R : Type} (ret : R43 → R) (c : Config) (frame : Int) (j : L43 → Option R) : L43 → Option R
  | .l0 x0 => cond (decide ((x0 : Int) < c.partitions.length))
    (cond (inR x0 c.partitions.length) (j (.l4 x0 x0 ((atPartition c.partitions x0.toNat).regions) (((atPartition c.partitions x0.toNat).regions).length) 0)) none)
    (some (ret (0, false)))
  | .l4 x1 x2 x3 x4 x0 => cond (decide ((x0 : Int) < x4))
    (cond (inR x0 x3.length) (
      cond (decide (((atRegion x3 x0.toNat).frame : Int) ≥ 0))
        (cond (decide (((atRegion x3 x0.toNat).frame : Int) ≤ 1024))
          (cond (decide ((frame : Int) ≥ (atRegion x3 x0.toNat).frame))
            (cond (decide ((frame : Int) < (IntKind.i64.wrap ((atRegion x3 x0.toNat).frame + (atRegion x3 x0.toNat).pages))))
              (some (ret (x1, true)))
              (j (.l4 x1 x2 x3 x4 (IntKind.i64.wrap (x0 + 1)))))
            (j (.l4 x1 x2 x3 x4 (IntKind.i64.wrap (x0 + 1)))))
          (j (.l4 x1 x2 x3 x4 (IntKind.i64.wrap (x0 + 1)))))
        (j (.l4 x1 x2 x3 x4 (IntKind.i64.wrap (x0 + 1))))) none)
    (j (.l0 (IntKind.i64.wrap (x2 + 1))))
noncomputable def ent43 {R : Type} (ret : R43 → R) (c : Config) (frame : Int) (j : L43 → Option R) : Option R :=
    j (.l0 0)
theorem head43_0 (J : Jmp) (c : Config) (frame : Int) (x0 : Int) : stepAt Pr GA H43 J 0 0 (bodyOf Tryd.f43) (fin Pr H43 Tryd.f43) (st43 c frame (.l0 x0)) = bod43 to43 c frame (fun l => J (num43 l) (st43 c frame l)) (.l0 x0) := by kernel_rfl
theorem head43_4 (J : Jmp) (c : Config) (frame : Int) (x1 : Int) (x2 : Int) (x3 : List Region) (x4 : Int) (x0 : Int) : stepAt Pr GA H43 J 4 0 (bodyOf Tryd.f43) (fin Pr H43 Tryd.f43) (st43 c frame (.l4 x1 x2 x3 x4 x0)) = bod43 to43 c frame (fun l => J (num43 l) (st43 c frame l)) (.l4 x1 x2 x3 x4 x0) := by kernel_rfl
theorem run43 (J : Jmp) (c : Config) (frame : Int) : runF Pr GA H43 J GL Tryd.f43 [.agg [.v (.int .i64 c.frames), .v (.int .i64 c.major), .v (.int .i64 c.kernel), .v (.int .i64 c.room), .sl (.sl .sWindow) c.cores, .sl .sPartition c.partitions, .sl .sChannel c.channels], .v (.int .i64 frame)] [] = ent43 to43 c frame (fun l => J (num43 l) (st43 c frame l)) := by kernel_rfl
theorem shad43 (c : Config) (frame : Int) : ∀ (n : Nat) (l : L43), runL Pr GA H43 Tryd.f43 n (num43 l) (st43 c frame l) = shad (bod43 to43 c frame) n l
  | 0, l => by cases l <;> rfl
  | n + 1, l => by
    have ih : (fun l => runL Pr GA H43 Tryd.f43 n (num43 l) (st43 c frame l)) = shad (bod43 to43 c frame) n := funext (shad43 c frame n)
    cases l with
    | l0 x0 => exact (step_eq ..).trans ((head43_0 ..).trans (by rw [ih]; rfl))
    | l4 x1 x2 x3 x4 x0 => exact (step_eq ..).trans ((head43_4 ..).trans (by rw [ih]; rfl))
theorem nat43 (c : Config) (frame : Int) (s : L43 → Option R43) (l : L43) : bod43 to43 c frame (fun l => (s l).map to43) l = (bod43 id c frame s l).map to43 := by
  cases l <;> simp only [bod43, map_cond, Option.map_some, Option.map_none, id]
theorem ct43 (c : Config) (frame : Int) (l : L43) : CT fun j => bod43 id c frame j l := by
  cases l <;> (dsimp only [bod43]; repeat (first | exact CT.jump _ | exact CT.const _ | apply CT.cond))
/-- layout.region, from a head on. -/
noncomputable def spL43 (c : Config) (frame : Int) : L43 → Option R43 := lfp (bod43 id c frame)
theorem spL43_eq (c : Config) (frame : Int) (l : L43) : spL43 c frame l = bod43 id c frame (spL43 c frame) l := lfp_eq (ct43 c frame) l
/-- layout.region -/
noncomputable def spO43 (c : Config) (frame : Int) : Option R43 := ent43 id c frame (spL43 c frame)
noncomputable def sp43 (c : Config) (frame : Int) : R43 := (spO43 c frame).getD default
noncomputable def spc43 (c : Config) (frame : Int) : Bool := (spO43 c frame).isSome
theorem oks43 (c : Config) (frame : Int) (hc : spc43 c frame = true) : Okay Pr GL 43 [.agg [.v (.int .i64 c.frames), .v (.int .i64 c.major), .v (.int .i64 c.kernel), .v (.int .i64 c.room), .sl (.sl .sWindow) c.cores, .sl .sPartition c.partitions, .sl .sChannel c.channels], .v (.int .i64 frame)] [] (to43 (sp43 c frame)) := by
  obtain ⟨n, h⟩ := auto_ok (nat43 c frame) (fun s => show ent43 to43 c frame (fun l => (s l).map to43) = (ent43 id c frame s).map to43 by simp only [ent43, map_cond, Option.map_some, Option.map_none, id]) (ct43 c frame) (show CT fun j => ent43 id c frame j by dsimp only [ent43]; repeat (first | exact CT.jump _ | exact CT.const _ | apply CT.cond)) (isSome_getD hc)
  exact okay_of_run (H := H43) GAok G0ok Tryd.func43 rfl (by kernel_rfl) n (by
    rw [run43]
    rw [show (fun l => runL Pr GA H43 Tryd.f43 n (num43 l) (st43 c frame l)) = shad (bod43 to43 c frame) n from funext (shad43 c frame n)]
    exact h)

/-! ### slices.Index[[]api.Port,api.Port] -/
abbrev R44 := Int
def to44 (r : R44) : Ans := ⟨.v (.int .i64 r), []⟩
inductive L44 where
  | l0 (x0 : Int)
def num44 : L44 → Nat
  | .l0 _ => 0
def H44 : Hint := ⟨fun n => [].any (Nat.beq n), hdAt [(0, ⟨fgt [0, 3, 7, 8] 19 0, []⟩)], [], G0, nodp⟩
noncomputable def st44 (s_0 : (List Port)) (v : Port) : L44 → St
  | .l0 x0 => ⟨mkE [(0, .sl .sPort s_0), (3, .ref 0 0), (7, .v (.int .i64 s_0.length)), (8, .v (.int .i64 x0))] 19 0, [.cells 66 [.v (.int .i64 v.channel), .v (.bool v.source)]], GL, 0, [], nodp⟩
noncomputable def bod44 {R : Type} (ret : R44 → R) (s_0 : (List Port)) (v : Port) (j : L44 → Option R) : L44 → Option R
  | .l0 x0 => cond (decide ((x0 : Int) < s_0.length))
    (cond (inR x0 s_0.length) (
      cond (((v.channel : Int) == ((atPort s_0 x0.toNat).channel)) && ((v.source == ((atPort s_0 x0.toNat).source)) && true))
        (some (ret x0))
        (j (.l0 (IntKind.i64.wrap (x0 + 1))))) none)
    (some (ret (-1)))
noncomputable def ent44 {R : Type} (ret : R44 → R) (s_0 : (List Port)) (v : Port) (j : L44 → Option R) : Option R :=
    j (.l0 0)
theorem head44_0 (J : Jmp) (s_0 : (List Port)) (v : Port) (x0 : Int) : stepAt Pr GA H44 J 0 0 (bodyOf Tryd.f44) (fin Pr H44 Tryd.f44) (st44 s_0 v (.l0 x0)) = bod44 to44 s_0 v (fun l => J (num44 l) (st44 s_0 v l)) (.l0 x0) := by kernel_rfl
theorem run44 (J : Jmp) (s_0 : (List Port)) (v : Port) : runF Pr GA H44 J GL Tryd.f44 [.sl .sPort s_0, .agg [.v (.int .i64 v.channel), .v (.bool v.source)]] [] = ent44 to44 s_0 v (fun l => J (num44 l) (st44 s_0 v l)) := by kernel_rfl
theorem shad44 (s_0 : (List Port)) (v : Port) : ∀ (n : Nat) (l : L44), runL Pr GA H44 Tryd.f44 n (num44 l) (st44 s_0 v l) = shad (bod44 to44 s_0 v) n l
  | 0, l => by cases l <;> rfl
  | n + 1, l => by
    have ih : (fun l => runL Pr GA H44 Tryd.f44 n (num44 l) (st44 s_0 v l)) = shad (bod44 to44 s_0 v) n := funext (shad44 s_0 v n)
    cases l with
    | l0 x0 => exact (step_eq ..).trans ((head44_0 ..).trans (by rw [ih]; rfl))
theorem nat44 (s_0 : (List Port)) (v : Port) (s : L44 → Option R44) (l : L44) : bod44 to44 s_0 v (fun l => (s l).map to44) l = (bod44 id s_0 v s l).map to44 := by
  cases l <;> simp only [bod44, map_cond, Option.map_some, Option.map_none, id]
theorem ct44 (s_0 : (List Port)) (v : Port) (l : L44) : CT fun j => bod44 id s_0 v j l := by
  cases l <;> (dsimp only [bod44]; repeat (first | exact CT.jump _ | exact CT.const _ | apply CT.cond))
/-- slices.Index[[]api.Port,api.Port], from a head on. -/
noncomputable def spL44 (s_0 : (List Port)) (v : Port) : L44 → Option R44 := lfp (bod44 id s_0 v)
theorem spL44_eq (s_0 : (List Port)) (v : Port) (l : L44) : spL44 s_0 v l = bod44 id s_0 v (spL44 s_0 v) l := lfp_eq (ct44 s_0 v) l
/-- slices.Index[[]api.Port,api.Port] -/
noncomputable def spO44 (s_0 : (List Port)) (v : Port) : Option R44 := ent44 id s_0 v (spL44 s_0 v)
noncomputable def sp44 (s_0 : (List Port)) (v : Port) : R44 := (spO44 s_0 v).getD default
noncomputable def spc44 (s_0 : (List Port)) (v : Port) : Bool := (spO44 s_0 v).isSome
theorem oks44 (s_0 : (List Port)) (v : Port) (hc : spc44 s_0 v = true) : Okay Pr GL 44 [.sl .sPort s_0, .agg [.v (.int .i64 v.channel), .v (.bool v.source)]] [] (to44 (sp44 s_0 v)) := by
  obtain ⟨n, h⟩ := auto_ok (nat44 s_0 v) (fun s => show ent44 to44 s_0 v (fun l => (s l).map to44) = (ent44 id s_0 v s).map to44 by simp only [ent44, map_cond, Option.map_some, Option.map_none, id]) (ct44 s_0 v) (show CT fun j => ent44 id s_0 v j by dsimp only [ent44]; repeat (first | exact CT.jump _ | exact CT.const _ | apply CT.cond)) (isSome_getD hc)
  exact okay_of_run (H := H44) GAok G0ok Tryd.func44 rfl (by kernel_rfl) n (by
    rw [run44]
    rw [show (fun l => runL Pr GA H44 Tryd.f44 n (num44 l) (st44 s_0 v l)) = shad (bod44 to44 s_0 v) n from funext (shad44 s_0 v n)]
    exact h)

/-! ### ref12.IsName -/
abbrev R45 := Bool
def to45 (r : R45) : Ans := ⟨.v (.bool r), []⟩
inductive L45 where
  | l0 (x0 : Int)
def num45 : L45 → Nat
  | .l0 _ => 0
def H45 : Hint := ⟨fun n => [].any (Nat.beq n), hdAt [(0, ⟨fgt [0, 3] 49 0, []⟩)], [], G0, nodp⟩
noncomputable def st45 (s_0 : ByteArray) : L45 → St
  | .l0 x0 => ⟨mkE [(0, .v (.string s_0)), (3, .v (.int .i64 x0))] 49 0, [], GL, 0, [], nodp⟩
noncomputable def bod45 {R : Type} (ret : R45 → R) (s_0 : ByteArray) (j : L45 → Option R) : L45 → Option R
  | .l0 x0 => cond (decide ((x0 : Int) < s_0.size))
    (cond (inR x0 s_0.size) (
      cond (decide (((byteAt s_0 x0.toNat) : Int) < 97))
        (cond (decide (((byteAt s_0 x0.toNat) : Int) < 48))
          (cond (!(((byteAt s_0 x0.toNat) : Int) == 45))
            (some (ret false))
            (j (.l0 (IntKind.i64.wrap (x0 + 1)))))
          (cond (decide (((byteAt s_0 x0.toNat) : Int) > 57))
            (cond (!(((byteAt s_0 x0.toNat) : Int) == 45))
              (some (ret false))
              (j (.l0 (IntKind.i64.wrap (x0 + 1)))))
            (j (.l0 (IntKind.i64.wrap (x0 + 1))))))
        (cond (decide (((byteAt s_0 x0.toNat) : Int) > 122))
          (cond (decide (((byteAt s_0 x0.toNat) : Int) < 48))
            (cond (!(((byteAt s_0 x0.toNat) : Int) == 45))
              (some (ret false))
              (j (.l0 (IntKind.i64.wrap (x0 + 1)))))
            (cond (decide (((byteAt s_0 x0.toNat) : Int) > 57))
              (cond (!(((byteAt s_0 x0.toNat) : Int) == 45))
                (some (ret false))
                (j (.l0 (IntKind.i64.wrap (x0 + 1)))))
              (j (.l0 (IntKind.i64.wrap (x0 + 1))))))
          (j (.l0 (IntKind.i64.wrap (x0 + 1)))))) none)
    (some (ret true))
noncomputable def ent45 {R : Type} (ret : R45 → R) (s_0 : ByteArray) (j : L45 → Option R) : Option R :=
    cond (s_0.toList == (ByteArray.mk #[]).toList)
    (some (ret false))
    (cond (decide ((s_0.size : Int) > 16))
      (some (ret false))
      (cond (inR 0 s_0.size) (
        cond (decide (((byteAt s_0 0) : Int) < 97))
          (some (ret false))
          (cond (inR 0 s_0.size) (cond (decide (((byteAt s_0 0) : Int) > 122))
              (some (ret false))
              (j (.l0 0))) none)) none))
theorem head45_0 (J : Jmp) (s_0 : ByteArray) (x0 : Int) : stepAt Pr GA H45 J 0 0 (bodyOf Tryd.f45) (fin Pr H45 Tryd.f45) (st45 s_0 (.l0 x0)) = bod45 to45 s_0 (fun l => J (num45 l) (st45 s_0 l)) (.l0 x0) := by kernel_rfl
theorem run45 (J : Jmp) (s_0 : ByteArray) : runF Pr GA H45 J GL Tryd.f45 [.v (.string s_0)] [] = ent45 to45 s_0 (fun l => J (num45 l) (st45 s_0 l)) := by kernel_rfl
theorem shad45 (s_0 : ByteArray) : ∀ (n : Nat) (l : L45), runL Pr GA H45 Tryd.f45 n (num45 l) (st45 s_0 l) = shad (bod45 to45 s_0) n l
  | 0, l => by cases l <;> rfl
  | n + 1, l => by
    have ih : (fun l => runL Pr GA H45 Tryd.f45 n (num45 l) (st45 s_0 l)) = shad (bod45 to45 s_0) n := funext (shad45 s_0 n)
    cases l with
    | l0 x0 => exact (step_eq ..).trans ((head45_0 ..).trans (by rw [ih]; rfl))
theorem nat45 (s_0 : ByteArray) (s : L45 → Option R45) (l : L45) : bod45 to45 s_0 (fun l => (s l).map to45) l = (bod45 id s_0 s l).map to45 := by
  cases l <;> simp only [bod45, map_cond, Option.map_some, Option.map_none, id]
theorem ct45 (s_0 : ByteArray) (l : L45) : CT fun j => bod45 id s_0 j l := by
  cases l <;> (dsimp only [bod45]; repeat (first | exact CT.jump _ | exact CT.const _ | apply CT.cond))
/-- ref12.IsName, from a head on. -/
noncomputable def spL45 (s_0 : ByteArray) : L45 → Option R45 := lfp (bod45 id s_0)
theorem spL45_eq (s_0 : ByteArray) (l : L45) : spL45 s_0 l = bod45 id s_0 (spL45 s_0) l := lfp_eq (ct45 s_0) l
/-- ref12.IsName -/
noncomputable def spO45 (s_0 : ByteArray) : Option R45 := ent45 id s_0 (spL45 s_0)
noncomputable def sp45 (s_0 : ByteArray) : R45 := (spO45 s_0).getD default
noncomputable def spc45 (s_0 : ByteArray) : Bool := (spO45 s_0).isSome
theorem oks45 (s_0 : ByteArray) (hc : spc45 s_0 = true) : Okay Pr GL 45 [.v (.string s_0)] [] (to45 (sp45 s_0)) := by
  obtain ⟨n, h⟩ := auto_ok (nat45 s_0) (fun s => show ent45 to45 s_0 (fun l => (s l).map to45) = (ent45 id s_0 s).map to45 by simp only [ent45, map_cond, Option.map_some, Option.map_none, id]) (ct45 s_0) (show CT fun j => ent45 id s_0 j by dsimp only [ent45]; repeat (first | exact CT.jump _ | exact CT.const _ | apply CT.cond)) (isSome_getD hc)
  exact okay_of_run (H := H45) GAok G0ok Tryd.func45 rfl (by kernel_rfl) n (by
    rw [run45]
    rw [show (fun l => runL Pr GA H45 Tryd.f45 n (num45 l) (st45 s_0 l)) = shad (bod45 to45 s_0) n from funext (shad45 s_0 n)]
    exact h)

/-! ### ref15.mayPartition -/
abbrev R48 := Bool
def to48 (r : R48) : Ans := ⟨.v (.bool r), []⟩
inductive L48 where
  | l0 (x0 : Int)
  | l4 (x0 : Int)
def num48 : L48 → Nat
  | .l0 _ => 0
  | .l4 _ => 4
def H48 : Hint := ⟨fun n => [].any (Nat.beq n), hdAt [(0, ⟨fgt [1, 2, 20, 21, 65, 66, 67, 68, 69, 70, 71, 72] 75 0, []⟩), (4, ⟨fgt [1, 2, 53, 54] 75 0, []⟩)], [], G0, nodp⟩
noncomputable def st48 (p : Partition) (channels : Int) : L48 → St
  | .l0 x0 => ⟨mkE [(1, .v (.int .i64 channels)), (2, .ref 0 0), (20, .v (.int .i64 p.regions.length)), (21, .v (.int .i64 x0))] 75 0, [.cells 48 [.v (.string p.name), .v (.int .i64 p.entry), .v (.int .i64 p.action), .v (.int .i64 p.restarts), .v (.int .i64 p.inputs), .v (.int .i64 p.outputs), .sl .sRegion p.regions, .sl .sPort p.ports]], GL, 0, [], nodp⟩
  | .l4 x0 => ⟨mkE [(1, .v (.int .i64 channels)), (2, .ref 0 0), (53, .v (.int .i64 p.ports.length)), (54, .v (.int .i64 x0))] 75 0, [.cells 48 [.v (.string p.name), .v (.int .i64 p.entry), .v (.int .i64 p.action), .v (.int .i64 p.restarts), .v (.int .i64 p.inputs), .v (.int .i64 p.outputs), .sl .sRegion p.regions, .sl .sPort p.ports]], GL, 0, [], nodp⟩
noncomputable def bod48 {R : Type} (ret : R48 → R) (p : Partition) (channels : Int) (j : L48 → Option R) : L48 → Option R
  | .l0 x0 => cond (decide ((x0 : Int) < p.regions.length))
    (cond (inR x0 p.regions.length) (
      cond (decide (((atRegion p.regions x0.toNat).page : Int) < 0))
        (some (ret false))
        (cond (decide (((atRegion p.regions x0.toNat).page : Int) > 256))
          (some (ret false))
          (cond (decide (((atRegion p.regions x0.toNat).pages : Int) < 1))
            (some (ret false))
            (cond (decide (((atRegion p.regions x0.toNat).pages : Int) > (IntKind.i64.wrap (256 - (atRegion p.regions x0.toNat).page))))
              (some (ret false))
              (j (.l0 (IntKind.i64.wrap (x0 + 1)))))))) none)
    (j (.l4 0))
  | .l4 x0 => cond (decide ((x0 : Int) < p.ports.length))
    (cond (inR x0 p.ports.length) (
      cond (decide (((atPort p.ports x0.toNat).channel : Int) < 0))
        (some (ret false))
        (cond (inR x0 p.ports.length) (
          cond (decide (((atPort p.ports x0.toNat).channel : Int) ≥ channels))
            (some (ret false))
            (j (.l4 (IntKind.i64.wrap (x0 + 1))))) none)) none)
    (some (ret true))
noncomputable def ent48 {R : Type} (ret : R48 → R) (p : Partition) (channels : Int) (j : L48 → Option R) : Option R :=
    cond (decide ((p.regions.length : Int) > 8))
    (some (ret false))
    (cond (decide ((p.ports.length : Int) > 8))
      (some (ret false))
      (j (.l0 0)))
theorem head48_0 (J : Jmp) (p : Partition) (channels : Int) (x0 : Int) : stepAt Pr GA H48 J 0 0 (bodyOf Tryd.f48) (fin Pr H48 Tryd.f48) (st48 p channels (.l0 x0)) = bod48 to48 p channels (fun l => J (num48 l) (st48 p channels l)) (.l0 x0) := by kernel_rfl
theorem head48_4 (J : Jmp) (p : Partition) (channels : Int) (x0 : Int) : stepAt Pr GA H48 J 4 0 (bodyOf Tryd.f48) (fin Pr H48 Tryd.f48) (st48 p channels (.l4 x0)) = bod48 to48 p channels (fun l => J (num48 l) (st48 p channels l)) (.l4 x0) := by kernel_rfl
theorem run48 (J : Jmp) (p : Partition) (channels : Int) : runF Pr GA H48 J GL Tryd.f48 [.agg [.v (.string p.name), .v (.int .i64 p.entry), .v (.int .i64 p.action), .v (.int .i64 p.restarts), .v (.int .i64 p.inputs), .v (.int .i64 p.outputs), .sl .sRegion p.regions, .sl .sPort p.ports], .v (.int .i64 channels)] [] = ent48 to48 p channels (fun l => J (num48 l) (st48 p channels l)) := by kernel_rfl
theorem shad48 (p : Partition) (channels : Int) : ∀ (n : Nat) (l : L48), runL Pr GA H48 Tryd.f48 n (num48 l) (st48 p channels l) = shad (bod48 to48 p channels) n l
  | 0, l => by cases l <;> rfl
  | n + 1, l => by
    have ih : (fun l => runL Pr GA H48 Tryd.f48 n (num48 l) (st48 p channels l)) = shad (bod48 to48 p channels) n := funext (shad48 p channels n)
    cases l with
    | l0 x0 => exact (step_eq ..).trans ((head48_0 ..).trans (by rw [ih]; rfl))
    | l4 x0 => exact (step_eq ..).trans ((head48_4 ..).trans (by rw [ih]; rfl))
theorem nat48 (p : Partition) (channels : Int) (s : L48 → Option R48) (l : L48) : bod48 to48 p channels (fun l => (s l).map to48) l = (bod48 id p channels s l).map to48 := by
  cases l <;> simp only [bod48, map_cond, Option.map_some, Option.map_none, id]
theorem ct48 (p : Partition) (channels : Int) (l : L48) : CT fun j => bod48 id p channels j l := by
  cases l <;> (dsimp only [bod48]; repeat (first | exact CT.jump _ | exact CT.const _ | apply CT.cond))
/-- ref15.mayPartition, from a head on. -/
noncomputable def spL48 (p : Partition) (channels : Int) : L48 → Option R48 := lfp (bod48 id p channels)
theorem spL48_eq (p : Partition) (channels : Int) (l : L48) : spL48 p channels l = bod48 id p channels (spL48 p channels) l := lfp_eq (ct48 p channels) l
/-- ref15.mayPartition -/
noncomputable def spO48 (p : Partition) (channels : Int) : Option R48 := ent48 id p channels (spL48 p channels)
noncomputable def sp48 (p : Partition) (channels : Int) : R48 := (spO48 p channels).getD default
noncomputable def spc48 (p : Partition) (channels : Int) : Bool := (spO48 p channels).isSome
theorem oks48 (p : Partition) (channels : Int) (hc : spc48 p channels = true) : Okay Pr GL 48 [.agg [.v (.string p.name), .v (.int .i64 p.entry), .v (.int .i64 p.action), .v (.int .i64 p.restarts), .v (.int .i64 p.inputs), .v (.int .i64 p.outputs), .sl .sRegion p.regions, .sl .sPort p.ports], .v (.int .i64 channels)] [] (to48 (sp48 p channels)) := by
  obtain ⟨n, h⟩ := auto_ok (nat48 p channels) (fun s => show ent48 to48 p channels (fun l => (s l).map to48) = (ent48 id p channels s).map to48 by simp only [ent48, map_cond, Option.map_some, Option.map_none, id]) (ct48 p channels) (show CT fun j => ent48 id p channels j by dsimp only [ent48]; repeat (first | exact CT.jump _ | exact CT.const _ | apply CT.cond)) (isSome_getD hc)
  exact okay_of_run (H := H48) GAok G0ok Tryd.func48 rfl (by kernel_rfl) n (by
    rw [run48]
    rw [show (fun l => runL Pr GA H48 Tryd.f48 n (num48 l) (st48 p channels l)) = shad (bod48 to48 p channels) n from funext (shad48 p channels n)]
    exact h)

/-! ### ref15.ends -/
abbrev R50 := Int
def to50 (r : R50) : Ans := ⟨.v (.int .i64 r), []⟩
inductive L50 where
  | l0 (x0 : Int) (x1 : Int)
  | l15 (x0 : Int) (x1 : Int)
def num50 : L50 → Nat
  | .l0 _ _ => 0
  | .l15 _ _ => 15
def H50 : Hint := ⟨fun n => [7].any (Nat.beq n), hdAt [(0, ⟨fgt [1, 2, 3, 7, 11, 12, 24, 25, 26, 27, 28, 29, 30, 31] 37 0, []⟩), (15, ⟨fgt [1, 2, 3, 7, 11, 12] 37 0, []⟩)], [], G0, nodp⟩
noncomputable def st50 (p : Partition) (channel : Int) (source : Bool) : L50 → St
  | .l0 x0 x1 => ⟨mkE [(1, .v (.int .i64 channel)), (2, .v (.bool source)), (3, .ref 0 0), (7, .v (.int .i64 x0)), (11, .v (.int .i64 p.ports.length)), (12, .v (.int .i64 x1))] 37 0, [.cells 48 [.v (.string p.name), .v (.int .i64 p.entry), .v (.int .i64 p.action), .v (.int .i64 p.restarts), .v (.int .i64 p.inputs), .v (.int .i64 p.outputs), .sl .sRegion p.regions, .sl .sPort p.ports]], GL, 0, [], nodp⟩
  | .l15 x0 x1 => ⟨mkE [(1, .v (.int .i64 channel)), (2, .v (.bool source)), (3, .ref 0 0), (7, .v (.int .i64 x0)), (11, .v (.int .i64 p.ports.length)), (12, .v (.int .i64 x1))] 37 0, [.cells 48 [.v (.string p.name), .v (.int .i64 p.entry), .v (.int .i64 p.action), .v (.int .i64 p.restarts), .v (.int .i64 p.inputs), .v (.int .i64 p.outputs), .sl .sRegion p.regions, .sl .sPort p.ports]], GL, 0, [], nodp⟩
noncomputable def bod50 {R : Type} (ret : R50 → R) (p : Partition) (channel : Int) (source : Bool) (j : L50 → Option R) : L50 → Option R
  | .l0 x0 x1 => cond (decide ((x1 : Int) < p.ports.length))
    (cond (inR x1 p.ports.length) (
      cond (((atPort p.ports x1.toNat).channel : Int) == channel)
        (cond (inR x1 p.ports.length) (
          cond (((atPort p.ports x1.toNat).source) == source)
            (j (.l15 (IntKind.i64.wrap (x0 + 1)) x1))
            (j (.l15 x0 x1))) none)
        (j (.l15 x0 x1))) none)
    (some (ret x0))
  | .l15 x0 x1 => j (.l0 x0 (IntKind.i64.wrap (x1 + 1)))
noncomputable def ent50 {R : Type} (ret : R50 → R) (p : Partition) (channel : Int) (source : Bool) (j : L50 → Option R) : Option R :=
    j (.l0 0 0)
theorem head50_0 (J : Jmp) (p : Partition) (channel : Int) (source : Bool) (x0 : Int) (x1 : Int) : stepAt Pr GA H50 J 0 0 (bodyOf Tryd.f50) (fin Pr H50 Tryd.f50) (st50 p channel source (.l0 x0 x1)) = bod50 to50 p channel source (fun l => J (num50 l) (st50 p channel source l)) (.l0 x0 x1) := by kernel_rfl
theorem head50_15 (J : Jmp) (p : Partition) (channel : Int) (source : Bool) (x0 : Int) (x1 : Int) : stepAt Pr GA H50 J 15 0 (bodyOf Tryd.f50) (fin Pr H50 Tryd.f50) (st50 p channel source (.l15 x0 x1)) = bod50 to50 p channel source (fun l => J (num50 l) (st50 p channel source l)) (.l15 x0 x1) := by kernel_rfl
theorem run50 (J : Jmp) (p : Partition) (channel : Int) (source : Bool) : runF Pr GA H50 J GL Tryd.f50 [.agg [.v (.string p.name), .v (.int .i64 p.entry), .v (.int .i64 p.action), .v (.int .i64 p.restarts), .v (.int .i64 p.inputs), .v (.int .i64 p.outputs), .sl .sRegion p.regions, .sl .sPort p.ports], .v (.int .i64 channel), .v (.bool source)] [] = ent50 to50 p channel source (fun l => J (num50 l) (st50 p channel source l)) := by kernel_rfl
theorem shad50 (p : Partition) (channel : Int) (source : Bool) : ∀ (n : Nat) (l : L50), runL Pr GA H50 Tryd.f50 n (num50 l) (st50 p channel source l) = shad (bod50 to50 p channel source) n l
  | 0, l => by cases l <;> rfl
  | n + 1, l => by
    have ih : (fun l => runL Pr GA H50 Tryd.f50 n (num50 l) (st50 p channel source l)) = shad (bod50 to50 p channel source) n := funext (shad50 p channel source n)
    cases l with
    | l0 x0 x1 => exact (step_eq ..).trans ((head50_0 ..).trans (by rw [ih]; rfl))
    | l15 x0 x1 => exact (step_eq ..).trans ((head50_15 ..).trans (by rw [ih]; rfl))
theorem nat50 (p : Partition) (channel : Int) (source : Bool) (s : L50 → Option R50) (l : L50) : bod50 to50 p channel source (fun l => (s l).map to50) l = (bod50 id p channel source s l).map to50 := by
  cases l <;> simp only [bod50, map_cond, Option.map_some, Option.map_none, id]
theorem ct50 (p : Partition) (channel : Int) (source : Bool) (l : L50) : CT fun j => bod50 id p channel source j l := by
  cases l <;> (dsimp only [bod50]; repeat (first | exact CT.jump _ | exact CT.const _ | apply CT.cond))
/-- ref15.ends, from a head on. -/
noncomputable def spL50 (p : Partition) (channel : Int) (source : Bool) : L50 → Option R50 := lfp (bod50 id p channel source)
theorem spL50_eq (p : Partition) (channel : Int) (source : Bool) (l : L50) : spL50 p channel source l = bod50 id p channel source (spL50 p channel source) l := lfp_eq (ct50 p channel source) l
/-- ref15.ends -/
noncomputable def spO50 (p : Partition) (channel : Int) (source : Bool) : Option R50 := ent50 id p channel source (spL50 p channel source)
noncomputable def sp50 (p : Partition) (channel : Int) (source : Bool) : R50 := (spO50 p channel source).getD default
noncomputable def spc50 (p : Partition) (channel : Int) (source : Bool) : Bool := (spO50 p channel source).isSome
theorem oks50 (p : Partition) (channel : Int) (source : Bool) (hc : spc50 p channel source = true) : Okay Pr GL 50 [.agg [.v (.string p.name), .v (.int .i64 p.entry), .v (.int .i64 p.action), .v (.int .i64 p.restarts), .v (.int .i64 p.inputs), .v (.int .i64 p.outputs), .sl .sRegion p.regions, .sl .sPort p.ports], .v (.int .i64 channel), .v (.bool source)] [] (to50 (sp50 p channel source)) := by
  obtain ⟨n, h⟩ := auto_ok (nat50 p channel source) (fun s => show ent50 to50 p channel source (fun l => (s l).map to50) = (ent50 id p channel source s).map to50 by simp only [ent50, map_cond, Option.map_some, Option.map_none, id]) (ct50 p channel source) (show CT fun j => ent50 id p channel source j by dsimp only [ent50]; repeat (first | exact CT.jump _ | exact CT.const _ | apply CT.cond)) (isSome_getD hc)
  exact okay_of_run (H := H50) GAok G0ok Tryd.func50 rfl (by kernel_rfl) n (by
    rw [run50]
    rw [show (fun l => runL Pr GA H50 Tryd.f50 n (num50 l) (st50 p channel source l)) = shad (bod50 to50 p channel source) n from funext (shad50 p channel source n)]
    exact h)

/-! ### ref15.touches -/
abbrev R52 := Bool
def to52 (r : R52) : Ans := ⟨.v (.bool r), []⟩
inductive L52 where
  | l0 (x0 : Int)
def num52 : L52 → Nat
  | .l0 _ => 0
def H52 : Hint := ⟨fun n => [].any (Nat.beq n), hdAt [(0, ⟨fgt [1, 2, 10, 11] 40 0, []⟩)], [], G0, nodp⟩
noncomputable def st52 (p : Partition) (t : Int) : L52 → St
  | .l0 x0 => ⟨mkE [(1, .v (.int .i64 t)), (2, .ref 0 0), (10, .v (.int .i64 p.regions.length)), (11, .v (.int .i64 x0))] 40 0, [.cells 48 [.v (.string p.name), .v (.int .i64 p.entry), .v (.int .i64 p.action), .v (.int .i64 p.restarts), .v (.int .i64 p.inputs), .v (.int .i64 p.outputs), .sl .sRegion p.regions, .sl .sPort p.ports]], GL, 0, [], nodp⟩
noncomputable def bod52 {R : Type} (ret : R52 → R) (p : Partition) (t : Int) (j : L52 → Option R) : L52 → Option R
  | .l0 x0 => cond (decide ((x0 : Int) < p.regions.length))
    (cond (inR x0 p.regions.length) (
      cond (inR x0 p.regions.length) (
        cond (decide (((bop .quo .i64 ((atRegion p.regions x0.toNat).page) 16) : Int) ≤ t))
          (cond (decide ((t : Int) ≤ (bop .quo .i64 (IntKind.i64.wrap ((IntKind.i64.wrap ((atRegion p.regions x0.toNat).page + (atRegion p.regions x0.toNat).pages)) - 1)) 16)))
            (some (ret true))
            (j (.l0 (IntKind.i64.wrap (x0 + 1)))))
          (j (.l0 (IntKind.i64.wrap (x0 + 1))))) none) none)
    (some (ret false))
noncomputable def ent52 {R : Type} (ret : R52 → R) (p : Partition) (t : Int) (j : L52 → Option R) : Option R :=
    j (.l0 0)
theorem head52_0 (J : Jmp) (p : Partition) (t : Int) (x0 : Int) : stepAt Pr GA H52 J 0 0 (bodyOf Tryd.f52) (fin Pr H52 Tryd.f52) (st52 p t (.l0 x0)) = bod52 to52 p t (fun l => J (num52 l) (st52 p t l)) (.l0 x0) := by kernel_rfl
theorem run52 (J : Jmp) (p : Partition) (t : Int) : runF Pr GA H52 J GL Tryd.f52 [.agg [.v (.string p.name), .v (.int .i64 p.entry), .v (.int .i64 p.action), .v (.int .i64 p.restarts), .v (.int .i64 p.inputs), .v (.int .i64 p.outputs), .sl .sRegion p.regions, .sl .sPort p.ports], .v (.int .i64 t)] [] = ent52 to52 p t (fun l => J (num52 l) (st52 p t l)) := by kernel_rfl
theorem shad52 (p : Partition) (t : Int) : ∀ (n : Nat) (l : L52), runL Pr GA H52 Tryd.f52 n (num52 l) (st52 p t l) = shad (bod52 to52 p t) n l
  | 0, l => by cases l <;> rfl
  | n + 1, l => by
    have ih : (fun l => runL Pr GA H52 Tryd.f52 n (num52 l) (st52 p t l)) = shad (bod52 to52 p t) n := funext (shad52 p t n)
    cases l with
    | l0 x0 => exact (step_eq ..).trans ((head52_0 ..).trans (by rw [ih]; rfl))
theorem nat52 (p : Partition) (t : Int) (s : L52 → Option R52) (l : L52) : bod52 to52 p t (fun l => (s l).map to52) l = (bod52 id p t s l).map to52 := by
  cases l <;> simp only [bod52, map_cond, Option.map_some, Option.map_none, id]
theorem ct52 (p : Partition) (t : Int) (l : L52) : CT fun j => bod52 id p t j l := by
  cases l <;> (dsimp only [bod52]; repeat (first | exact CT.jump _ | exact CT.const _ | apply CT.cond))
/-- ref15.touches, from a head on. -/
noncomputable def spL52 (p : Partition) (t : Int) : L52 → Option R52 := lfp (bod52 id p t)
theorem spL52_eq (p : Partition) (t : Int) (l : L52) : spL52 p t l = bod52 id p t (spL52 p t) l := lfp_eq (ct52 p t) l
/-- ref15.touches -/
noncomputable def spO52 (p : Partition) (t : Int) : Option R52 := ent52 id p t (spL52 p t)
noncomputable def sp52 (p : Partition) (t : Int) : R52 := (spO52 p t).getD default
noncomputable def spc52 (p : Partition) (t : Int) : Bool := (spO52 p t).isSome
theorem oks52 (p : Partition) (t : Int) (hc : spc52 p t = true) : Okay Pr GL 52 [.agg [.v (.string p.name), .v (.int .i64 p.entry), .v (.int .i64 p.action), .v (.int .i64 p.restarts), .v (.int .i64 p.inputs), .v (.int .i64 p.outputs), .sl .sRegion p.regions, .sl .sPort p.ports], .v (.int .i64 t)] [] (to52 (sp52 p t)) := by
  obtain ⟨n, h⟩ := auto_ok (nat52 p t) (fun s => show ent52 to52 p t (fun l => (s l).map to52) = (ent52 id p t s).map to52 by simp only [ent52, map_cond, Option.map_some, Option.map_none, id]) (ct52 p t) (show CT fun j => ent52 id p t j by dsimp only [ent52]; repeat (first | exact CT.jump _ | exact CT.const _ | apply CT.cond)) (isSome_getD hc)
  exact okay_of_run (H := H52) GAok G0ok Tryd.func52 rfl (by kernel_rfl) n (by
    rw [run52]
    rw [show (fun l => runL Pr GA H52 Tryd.f52 n (num52 l) (st52 p t l)) = shad (bod52 to52 p t) n from funext (shad52 p t n)]
    exact h)

/-! ### layout.ends -/
abbrev R70 := (List LayoutEnd) × (List LayoutEnd)
def to70 (r : R70) : Ans := ⟨.tup [.own 0, .own 1], [.arr 126 .sLayoutEnd r.1, .arr 126 .sLayoutEnd r.2]⟩
inductive L70 where
  | l0 (x0 : Int) (x1 : List LayoutEnd) (x2 : List LayoutEnd)
  | l4 (x0 : Int) (x1 : Int) (x2 : List Port) (x3 : Int) (x4 : Int) (x5 : List LayoutEnd) (x6 : List LayoutEnd)
  | l23 (x2 : Int) (x3 : Int) (x4 : List Port) (x5 : Int) (x6 : Int) (x0 : List LayoutEnd) (x1 : List LayoutEnd)
def num70 : L70 → Nat
  | .l0 _ _ _ => 0
  | .l4 _ _ _ _ _ _ _ => 4
  | .l23 _ _ _ _ _ _ _ => 23
def H70 : Hint := ⟨fun n => [11].any (Nat.beq n), hdAt [(0, ⟨fgt [1, 4, 5, 11, 12, 13] 50 0, [(.slot 4, .own 126 .sLayoutEnd), (.slot 5, .own 126 .sLayoutEnd)]⟩), (4, ⟨fgt [1, 4, 5, 6, 11, 12, 13, 19, 20, 21] 50 0, [(.slot 4, .own 126 .sLayoutEnd), (.slot 5, .own 126 .sLayoutEnd)]⟩), (23, ⟨fgt [1, 4, 5, 6, 11, 12, 13, 19, 20, 21] 50 0, [(.slot 4, .own 126 .sLayoutEnd), (.slot 5, .own 126 .sLayoutEnd)]⟩)], [], G0, nodp⟩
noncomputable def st70 (c : Config) (channel : Int) : L70 → St
  | .l0 x0 x1 x2 => ⟨mkE [(1, .v (.int .i64 channel)), (4, .own 0), (5, .own 1), (11, .sl .sPartition c.partitions), (12, .v (.int .i64 c.partitions.length)), (13, .v (.int .i64 x0))] 50 0, [.arr 126 .sLayoutEnd x1, .arr 126 .sLayoutEnd x2], GL, 0, [], nodp⟩
  | .l4 x0 x1 x2 x3 x4 x5 x6 => ⟨mkE [(1, .v (.int .i64 channel)), (4, .own 0), (5, .own 1), (6, .v (.int .i64 x0)), (11, .sl .sPartition c.partitions), (12, .v (.int .i64 c.partitions.length)), (13, .v (.int .i64 x1)), (19, .sl .sPort x2), (20, .v (.int .i64 x3)), (21, .v (.int .i64 x4))] 50 0, [.arr 126 .sLayoutEnd x5, .arr 126 .sLayoutEnd x6], GL, 0, [], nodp⟩
  | .l23 x2 x3 x4 x5 x6 x0 x1 => ⟨mkE [(1, .v (.int .i64 channel)), (4, .own 0), (5, .own 1), (6, .v (.int .i64 x2)), (11, .sl .sPartition c.partitions), (12, .v (.int .i64 c.partitions.length)), (13, .v (.int .i64 x3)), (19, .sl .sPort x4), (20, .v (.int .i64 x5)), (21, .v (.int .i64 x6))] 50 0, [.arr 126 .sLayoutEnd x0, .arr 126 .sLayoutEnd x1], GL, 0, [], nodp⟩
noncomputable def bod70 {R : Type} (ret : R70 → R) (c : Config) (channel : Int) (j : L70 → Option R) : L70 → Option R
  | .l0 x0 x1 x2 => cond (decide ((x0 : Int) < c.partitions.length))
    (cond (inR x0 c.partitions.length) (j (.l4 x0 x0 ((atPartition c.partitions x0.toNat).ports) (((atPartition c.partitions x0.toNat).ports).length) 0 x1 x2)) none)
    (some (ret (x1, x2)))
  | .l4 x0 x1 x2 x3 x4 x5 x6 => cond (decide ((x4 : Int) < x3))
    (cond (inR x4 x2.length) (
      cond (!(((atPort x2 x4.toNat).channel : Int) == channel))
        (j (.l23 x0 x1 x2 x3 x4 x5 x6))
        (cond ((atPort x2 x4.toNat).source)
          (cond (leB (((x5 : List LayoutEnd).length + ([(⟨x0, x4⟩ : LayoutEnd)] : List LayoutEnd).length) * 16) 140737488355328) (j (.l23 x0 x1 x2 x3 x4 ((x5 : List LayoutEnd) ++ [(⟨x0, x4⟩ : LayoutEnd)]) x6)) none)
          (cond (leB (((x6 : List LayoutEnd).length + ([(⟨x0, x4⟩ : LayoutEnd)] : List LayoutEnd).length) * 16) 140737488355328) (j (.l23 x0 x1 x2 x3 x4 x5 ((x6 : List LayoutEnd) ++ [(⟨x0, x4⟩ : LayoutEnd)]))) none))) none)
    (j (.l0 (IntKind.i64.wrap (x1 + 1)) x5 x6))
  | .l23 x2 x3 x4 x5 x6 x0 x1 => j (.l4 x2 x3 x4 x5 (IntKind.i64.wrap (x6 + 1)) x0 x1)
noncomputable def ent70 {R : Type} (ret : R70 → R) (c : Config) (channel : Int) (j : L70 → Option R) : Option R :=
    j (.l0 0 [] [])
theorem head70_0 (J : Jmp) (c : Config) (channel : Int) (x0 : Int) (x1 : List LayoutEnd) (x2 : List LayoutEnd) : stepAt Pr GA H70 J 0 0 (bodyOf Tryd.f70) (fin Pr H70 Tryd.f70) (st70 c channel (.l0 x0 x1 x2)) = bod70 to70 c channel (fun l => J (num70 l) (st70 c channel l)) (.l0 x0 x1 x2) := by kernel_rfl
theorem head70_4 (J : Jmp) (c : Config) (channel : Int) (x0 : Int) (x1 : Int) (x2 : List Port) (x3 : Int) (x4 : Int) (x5 : List LayoutEnd) (x6 : List LayoutEnd) : stepAt Pr GA H70 J 4 0 (bodyOf Tryd.f70) (fin Pr H70 Tryd.f70) (st70 c channel (.l4 x0 x1 x2 x3 x4 x5 x6)) = bod70 to70 c channel (fun l => J (num70 l) (st70 c channel l)) (.l4 x0 x1 x2 x3 x4 x5 x6) := by kernel_rfl
theorem head70_23 (J : Jmp) (c : Config) (channel : Int) (x2 : Int) (x3 : Int) (x4 : List Port) (x5 : Int) (x6 : Int) (x0 : List LayoutEnd) (x1 : List LayoutEnd) : stepAt Pr GA H70 J 23 0 (bodyOf Tryd.f70) (fin Pr H70 Tryd.f70) (st70 c channel (.l23 x2 x3 x4 x5 x6 x0 x1)) = bod70 to70 c channel (fun l => J (num70 l) (st70 c channel l)) (.l23 x2 x3 x4 x5 x6 x0 x1) := by kernel_rfl
theorem run70 (J : Jmp) (c : Config) (channel : Int) : runF Pr GA H70 J GL Tryd.f70 [.agg [.v (.int .i64 c.frames), .v (.int .i64 c.major), .v (.int .i64 c.kernel), .v (.int .i64 c.room), .sl (.sl .sWindow) c.cores, .sl .sPartition c.partitions, .sl .sChannel c.channels], .v (.int .i64 channel)] [] = ent70 to70 c channel (fun l => J (num70 l) (st70 c channel l)) := by kernel_rfl
theorem shad70 (c : Config) (channel : Int) : ∀ (n : Nat) (l : L70), runL Pr GA H70 Tryd.f70 n (num70 l) (st70 c channel l) = shad (bod70 to70 c channel) n l
  | 0, l => by cases l <;> rfl
  | n + 1, l => by
    have ih : (fun l => runL Pr GA H70 Tryd.f70 n (num70 l) (st70 c channel l)) = shad (bod70 to70 c channel) n := funext (shad70 c channel n)
    cases l with
    | l0 x0 x1 x2 => exact (step_eq ..).trans ((head70_0 ..).trans (by rw [ih]; rfl))
    | l4 x0 x1 x2 x3 x4 x5 x6 => exact (step_eq ..).trans ((head70_4 ..).trans (by rw [ih]; rfl))
    | l23 x2 x3 x4 x5 x6 x0 x1 => exact (step_eq ..).trans ((head70_23 ..).trans (by rw [ih]; rfl))
theorem nat70 (c : Config) (channel : Int) (s : L70 → Option R70) (l : L70) : bod70 to70 c channel (fun l => (s l).map to70) l = (bod70 id c channel s l).map to70 := by
  cases l <;> simp only [bod70, map_cond, Option.map_some, Option.map_none, id]
theorem ct70 (c : Config) (channel : Int) (l : L70) : CT fun j => bod70 id c channel j l := by
  cases l <;> (dsimp only [bod70]; repeat (first | exact CT.jump _ | exact CT.const _ | apply CT.cond))
/-- layout.ends, from a head on. -/
noncomputable def spL70 (c : Config) (channel : Int) : L70 → Option R70 := lfp (bod70 id c channel)
theorem spL70_eq (c : Config) (channel : Int) (l : L70) : spL70 c channel l = bod70 id c channel (spL70 c channel) l := lfp_eq (ct70 c channel) l
/-- layout.ends -/
noncomputable def spO70 (c : Config) (channel : Int) : Option R70 := ent70 id c channel (spL70 c channel)
noncomputable def sp70 (c : Config) (channel : Int) : R70 := (spO70 c channel).getD default
noncomputable def spc70 (c : Config) (channel : Int) : Bool := (spO70 c channel).isSome
theorem oks70 (c : Config) (channel : Int) (hc : spc70 c channel = true) : Okay Pr GL 70 [.agg [.v (.int .i64 c.frames), .v (.int .i64 c.major), .v (.int .i64 c.kernel), .v (.int .i64 c.room), .sl (.sl .sWindow) c.cores, .sl .sPartition c.partitions, .sl .sChannel c.channels], .v (.int .i64 channel)] [] (to70 (sp70 c channel)) := by
  obtain ⟨n, h⟩ := auto_ok (nat70 c channel) (fun s => show ent70 to70 c channel (fun l => (s l).map to70) = (ent70 id c channel s).map to70 by simp only [ent70, map_cond, Option.map_some, Option.map_none, id]) (ct70 c channel) (show CT fun j => ent70 id c channel j by dsimp only [ent70]; repeat (first | exact CT.jump _ | exact CT.const _ | apply CT.cond)) (isSome_getD hc)
  exact okay_of_run (H := H70) GAok G0ok Tryd.func70 rfl (by kernel_rfl) n (by
    rw [run70]
    rw [show (fun l => runL Pr GA H70 Tryd.f70 n (num70 l) (st70 c channel l)) = shad (bod70 to70 c channel) n from funext (shad70 c channel n)]
    exact h)

/-! ### ref15.source -/
abbrev R76 := Int × Int
def to76 (r : R76) : Ans := ⟨.tup [.v (.int .i64 r.1), .v (.int .i64 r.2)], []⟩
inductive L76 where
  | l0 (x0 : Int)
  | l4 (x1 : Int) (x2 : Int) (x3 : Int) (x0 : Int)
def num76 : L76 → Nat
  | .l0 _ => 0
  | .l4 _ _ _ _ => 4
def H76 : Hint := ⟨fun n => [].any (Nat.beq n), hdAt [(0, ⟨fgt [1, 2, 10, 11, 37, 38, 39, 40, 41, 42, 43, 44, 45, 46] 52 0, []⟩), (4, ⟨fgt [1, 2, 6, 10, 11, 20, 21] 52 0, []⟩)], [], G0, nodp⟩
noncomputable def st76 (c : Config) (channel : Int) : L76 → St
  | .l0 x0 => ⟨mkE [(1, .v (.int .i64 channel)), (2, .ref 0 0), (10, .v (.int .i64 c.partitions.length)), (11, .v (.int .i64 x0))] 52 0, [.cells 26 [.v (.int .i64 c.frames), .v (.int .i64 c.major), .v (.int .i64 c.kernel), .v (.int .i64 c.room), .sl (.sl .sWindow) c.cores, .sl .sPartition c.partitions, .sl .sChannel c.channels]], GL, 0, [], nodp⟩
  | .l4 x1 x2 x3 x0 => ⟨mkE [(1, .v (.int .i64 channel)), (2, .ref 0 0), (6, .v (.int .i64 x1)), (10, .v (.int .i64 c.partitions.length)), (11, .v (.int .i64 x2)), (20, .v (.int .i64 x3)), (21, .v (.int .i64 x0))] 52 0, [.cells 26 [.v (.int .i64 c.frames), .v (.int .i64 c.major), .v (.int .i64 c.kernel), .v (.int .i64 c.room), .sl (.sl .sWindow) c.cores, .sl .sPartition c.partitions, .sl .sChannel c.channels]], GL, 0, [], nodp⟩
noncomputable def bod76 {R : Type} (ret : R76 → R) (c : Config) (channel : Int) (j : L76 → Option R) : L76 → Option R
  | .l0 x0 => cond (decide ((x0 : Int) < c.partitions.length))
    (cond (inR x0 c.partitions.length) (j (.l4 x0 x0 (((atPartition c.partitions x0.toNat).ports).length) 0)) none)
    (some (ret (0, 0)))
  | .l4 x1 x2 x3 x0 => cond (decide ((x0 : Int) < x3))
    (cond (inR x1 c.partitions.length) (
      cond (inR x0 ((atPartition c.partitions x1.toNat).ports).length) (
        cond (((atPort ((atPartition c.partitions x1.toNat).ports) x0.toNat).channel : Int) == channel)
          (cond (inR x1 c.partitions.length) (
            cond (inR x0 ((atPartition c.partitions x1.toNat).ports).length) (
              cond ((atPort ((atPartition c.partitions x1.toNat).ports) x0.toNat).source)
                (some (ret (x1, x0)))
                (j (.l4 x1 x2 x3 (IntKind.i64.wrap (x0 + 1))))) none) none)
          (j (.l4 x1 x2 x3 (IntKind.i64.wrap (x0 + 1))))) none) none)
    (j (.l0 (IntKind.i64.wrap (x2 + 1))))
noncomputable def ent76 {R : Type} (ret : R76 → R) (c : Config) (channel : Int) (j : L76 → Option R) : Option R :=
    j (.l0 0)
theorem head76_0 (J : Jmp) (c : Config) (channel : Int) (x0 : Int) : stepAt Pr GA H76 J 0 0 (bodyOf Tryd.f76) (fin Pr H76 Tryd.f76) (st76 c channel (.l0 x0)) = bod76 to76 c channel (fun l => J (num76 l) (st76 c channel l)) (.l0 x0) := by kernel_rfl
theorem head76_4 (J : Jmp) (c : Config) (channel : Int) (x1 : Int) (x2 : Int) (x3 : Int) (x0 : Int) : stepAt Pr GA H76 J 4 0 (bodyOf Tryd.f76) (fin Pr H76 Tryd.f76) (st76 c channel (.l4 x1 x2 x3 x0)) = bod76 to76 c channel (fun l => J (num76 l) (st76 c channel l)) (.l4 x1 x2 x3 x0) := by kernel_rfl
theorem run76 (J : Jmp) (c : Config) (channel : Int) : runF Pr GA H76 J GL Tryd.f76 [.agg [.v (.int .i64 c.frames), .v (.int .i64 c.major), .v (.int .i64 c.kernel), .v (.int .i64 c.room), .sl (.sl .sWindow) c.cores, .sl .sPartition c.partitions, .sl .sChannel c.channels], .v (.int .i64 channel)] [] = ent76 to76 c channel (fun l => J (num76 l) (st76 c channel l)) := by kernel_rfl
theorem shad76 (c : Config) (channel : Int) : ∀ (n : Nat) (l : L76), runL Pr GA H76 Tryd.f76 n (num76 l) (st76 c channel l) = shad (bod76 to76 c channel) n l
  | 0, l => by cases l <;> rfl
  | n + 1, l => by
    have ih : (fun l => runL Pr GA H76 Tryd.f76 n (num76 l) (st76 c channel l)) = shad (bod76 to76 c channel) n := funext (shad76 c channel n)
    cases l with
    | l0 x0 => exact (step_eq ..).trans ((head76_0 ..).trans (by rw [ih]; rfl))
    | l4 x1 x2 x3 x0 => exact (step_eq ..).trans ((head76_4 ..).trans (by rw [ih]; rfl))
theorem nat76 (c : Config) (channel : Int) (s : L76 → Option R76) (l : L76) : bod76 to76 c channel (fun l => (s l).map to76) l = (bod76 id c channel s l).map to76 := by
  cases l <;> simp only [bod76, map_cond, Option.map_some, Option.map_none, id]
theorem ct76 (c : Config) (channel : Int) (l : L76) : CT fun j => bod76 id c channel j l := by
  cases l <;> (dsimp only [bod76]; repeat (first | exact CT.jump _ | exact CT.const _ | apply CT.cond))
/-- ref15.source, from a head on. -/
noncomputable def spL76 (c : Config) (channel : Int) : L76 → Option R76 := lfp (bod76 id c channel)
theorem spL76_eq (c : Config) (channel : Int) (l : L76) : spL76 c channel l = bod76 id c channel (spL76 c channel) l := lfp_eq (ct76 c channel) l
/-- ref15.source -/
noncomputable def spO76 (c : Config) (channel : Int) : Option R76 := ent76 id c channel (spL76 c channel)
noncomputable def sp76 (c : Config) (channel : Int) : R76 := (spO76 c channel).getD default
noncomputable def spc76 (c : Config) (channel : Int) : Bool := (spO76 c channel).isSome
theorem oks76 (c : Config) (channel : Int) (hc : spc76 c channel = true) : Okay Pr GL 76 [.agg [.v (.int .i64 c.frames), .v (.int .i64 c.major), .v (.int .i64 c.kernel), .v (.int .i64 c.room), .sl (.sl .sWindow) c.cores, .sl .sPartition c.partitions, .sl .sChannel c.channels], .v (.int .i64 channel)] [] (to76 (sp76 c channel)) := by
  obtain ⟨n, h⟩ := auto_ok (nat76 c channel) (fun s => show ent76 to76 c channel (fun l => (s l).map to76) = (ent76 id c channel s).map to76 by simp only [ent76, map_cond, Option.map_some, Option.map_none, id]) (ct76 c channel) (show CT fun j => ent76 id c channel j by dsimp only [ent76]; repeat (first | exact CT.jump _ | exact CT.const _ | apply CT.cond)) (isSome_getD hc)
  exact okay_of_run (H := H76) GAok G0ok Tryd.func76 rfl (by kernel_rfl) n (by
    rw [run76]
    rw [show (fun l => runL Pr GA H76 Tryd.f76 n (num76 l) (st76 c channel l)) = shad (bod76 to76 c channel) n from funext (shad76 c channel n)]
    exact h)

/-! ### admit.first -/
abbrev R78 := AdmitFound
def to78 (r : R78) : Ans := ⟨.agg [.v (.int .i64 r.e), .v (.int .i64 r.where_.first), .v (.int .i64 r.where_.second)], []⟩
inductive L78 where
  | l0 (x0 : Int)
def num78 : L78 → Nat
  | .l0 _ => 0
def H78 : Hint := ⟨fun n => [].any (Nat.beq n), hdAt [(0, ⟨fgt [2, 5, 6, 7] 17 0, []⟩)], [], G0, nodp⟩
noncomputable def st78 (l_0 : (List AdmitFound)) : L78 → St
  | .l0 x0 => ⟨mkE [(2, .ref 0 0), (5, .sl .sAdmitFound l_0), (6, .v (.int .i64 l_0.length)), (7, .v (.int .i64 x0))] 17 0, [.cells 93 [.v (.int .i64 0), .v (.int .i64 0), .v (.int .i64 0)]], GL, 0, [], nodp⟩
noncomputable def bod78 {R : Type} (ret : R78 → R) (l_0 : (List AdmitFound)) (j : L78 → Option R) : L78 → Option R
  | .l0 x0 => cond (decide ((x0 : Int) < l_0.length))
    (cond (inR x0 l_0.length) (
      cond (!((((atAdmitFound l_0 x0.toNat).e : Int) == fine.e) && (((((atAdmitFound l_0 x0.toNat).where_.first : Int) == fine.where_.first) && ((((atAdmitFound l_0 x0.toNat).where_.second : Int) == fine.where_.second) && true)) && true)))
        (some (ret (atAdmitFound l_0 x0.toNat)))
        (j (.l0 (IntKind.i64.wrap (x0 + 1))))) none)
    (some (ret fine))
noncomputable def ent78 {R : Type} (ret : R78 → R) (l_0 : (List AdmitFound)) (j : L78 → Option R) : Option R :=
    j (.l0 0)
theorem head78_0 (J : Jmp) (l_0 : (List AdmitFound)) (x0 : Int) : stepAt Pr GA H78 J 0 0 (bodyOf Tryd.f78) (fin Pr H78 Tryd.f78) (st78 l_0 (.l0 x0)) = bod78 to78 l_0 (fun l => J (num78 l) (st78 l_0 l)) (.l0 x0) := by kernel_rfl
theorem run78 (J : Jmp) (l_0 : (List AdmitFound)) : runF Pr GA H78 J GL Tryd.f78 [.sl .sAdmitFound l_0] [] = ent78 to78 l_0 (fun l => J (num78 l) (st78 l_0 l)) := by kernel_rfl
theorem shad78 (l_0 : (List AdmitFound)) : ∀ (n : Nat) (l : L78), runL Pr GA H78 Tryd.f78 n (num78 l) (st78 l_0 l) = shad (bod78 to78 l_0) n l
  | 0, l => by cases l <;> rfl
  | n + 1, l => by
    have ih : (fun l => runL Pr GA H78 Tryd.f78 n (num78 l) (st78 l_0 l)) = shad (bod78 to78 l_0) n := funext (shad78 l_0 n)
    cases l with
    | l0 x0 => exact (step_eq ..).trans ((head78_0 ..).trans (by rw [ih]; rfl))
theorem nat78 (l_0 : (List AdmitFound)) (s : L78 → Option R78) (l : L78) : bod78 to78 l_0 (fun l => (s l).map to78) l = (bod78 id l_0 s l).map to78 := by
  cases l <;> simp only [bod78, map_cond, Option.map_some, Option.map_none, id]
theorem ct78 (l_0 : (List AdmitFound)) (l : L78) : CT fun j => bod78 id l_0 j l := by
  cases l <;> (dsimp only [bod78]; repeat (first | exact CT.jump _ | exact CT.const _ | apply CT.cond))
/-- admit.first, from a head on. -/
noncomputable def spL78 (l_0 : (List AdmitFound)) : L78 → Option R78 := lfp (bod78 id l_0)
theorem spL78_eq (l_0 : (List AdmitFound)) (l : L78) : spL78 l_0 l = bod78 id l_0 (spL78 l_0) l := lfp_eq (ct78 l_0) l
/-- admit.first -/
noncomputable def spO78 (l_0 : (List AdmitFound)) : Option R78 := ent78 id l_0 (spL78 l_0)
noncomputable def sp78 (l_0 : (List AdmitFound)) : R78 := (spO78 l_0).getD default
noncomputable def spc78 (l_0 : (List AdmitFound)) : Bool := (spO78 l_0).isSome
theorem oks78 (l_0 : (List AdmitFound)) (hc : spc78 l_0 = true) : Okay Pr GL 78 [.sl .sAdmitFound l_0] [] (to78 (sp78 l_0)) := by
  obtain ⟨n, h⟩ := auto_ok (nat78 l_0) (fun s => show ent78 to78 l_0 (fun l => (s l).map to78) = (ent78 id l_0 s).map to78 by simp only [ent78, map_cond, Option.map_some, Option.map_none, id]) (ct78 l_0) (show CT fun j => ent78 id l_0 j by dsimp only [ent78]; repeat (first | exact CT.jump _ | exact CT.const _ | apply CT.cond)) (isSome_getD hc)
  exact okay_of_run (H := H78) GAok G0ok Tryd.func78 rfl (by kernel_rfl) n (by
    rw [run78]
    rw [show (fun l => runL Pr GA H78 Tryd.f78 n (num78 l) (st78 l_0 l)) = shad (bod78 to78 l_0) n from funext (shad78 l_0 n)]
    exact h)

/-! ### admit.ends -/
abbrev R84 := Int × Int
def to84 (r : R84) : Ans := ⟨.tup [.v (.int .i64 r.1), .v (.int .i64 r.2)], []⟩
inductive L84 where
  | l0 (x1 : Int) (x2 : Int) (x0 : Int)
  | l4 (x0 : Int) (x1 : Int) (x3 : Int) (x4 : List Port) (x5 : Int) (x2 : Int)
  | l23 (x0 : Int) (x1 : Int) (x2 : Int) (x3 : List Port) (x4 : Int) (x5 : Int)
def num84 : L84 → Nat
  | .l0 _ _ _ => 0
  | .l4 _ _ _ _ _ _ => 4
  | .l23 _ _ _ _ _ _ => 23
def H84 : Hint := ⟨fun n => [11].any (Nat.beq n), hdAt [(0, ⟨fgt [1, 4, 5, 11, 12, 13] 40 0, []⟩), (4, ⟨fgt [1, 4, 5, 11, 12, 13, 18, 19, 20] 40 0, []⟩), (23, ⟨fgt [1, 4, 5, 11, 12, 13, 18, 19, 20] 40 0, []⟩)], [], G0, nodp⟩
noncomputable def st84 (c : Config) (h_1 : Int) : L84 → St
  | .l0 x1 x2 x0 => ⟨mkE [(1, .v (.int .i64 h_1)), (4, .v (.int .i64 x1)), (5, .v (.int .i64 x2)), (11, .sl .sPartition c.partitions), (12, .v (.int .i64 c.partitions.length)), (13, .v (.int .i64 x0))] 40 0, [], GL, 0, [], nodp⟩
  | .l4 x0 x1 x3 x4 x5 x2 => ⟨mkE [(1, .v (.int .i64 h_1)), (4, .v (.int .i64 x0)), (5, .v (.int .i64 x1)), (11, .sl .sPartition c.partitions), (12, .v (.int .i64 c.partitions.length)), (13, .v (.int .i64 x3)), (18, .sl .sPort x4), (19, .v (.int .i64 x5)), (20, .v (.int .i64 x2))] 40 0, [], GL, 0, [], nodp⟩
  | .l23 x0 x1 x2 x3 x4 x5 => ⟨mkE [(1, .v (.int .i64 h_1)), (4, .v (.int .i64 x0)), (5, .v (.int .i64 x1)), (11, .sl .sPartition c.partitions), (12, .v (.int .i64 c.partitions.length)), (13, .v (.int .i64 x2)), (18, .sl .sPort x3), (19, .v (.int .i64 x4)), (20, .v (.int .i64 x5))] 40 0, [], GL, 0, [], nodp⟩
noncomputable def bod84 {R : Type} (ret : R84 → R) (c : Config) (h_1 : Int) (j : L84 → Option R) : L84 → Option R
  | .l0 x1 x2 x0 => cond (decide ((x0 : Int) < c.partitions.length))
    (cond (inR x0 c.partitions.length) (j (.l4 x1 x2 x0 ((atPartition c.partitions x0.toNat).ports) (((atPartition c.partitions x0.toNat).ports).length) 0)) none)
    (some (ret (x1, x2)))
  | .l4 x0 x1 x3 x4 x5 x2 => cond (decide ((x2 : Int) < x5))
    (cond (inR x2 x4.length) (
      cond (!(((atPort x4 x2.toNat).channel : Int) == h_1))
        (j (.l23 x0 x1 x3 x4 x5 x2))
        (cond ((atPort x4 x2.toNat).source)
          (j (.l23 (IntKind.i64.wrap (x0 + 1)) x1 x3 x4 x5 x2))
          (j (.l23 x0 (IntKind.i64.wrap (x1 + 1)) x3 x4 x5 x2)))) none)
    (j (.l0 x0 x1 (IntKind.i64.wrap (x3 + 1))))
  | .l23 x0 x1 x2 x3 x4 x5 => j (.l4 x0 x1 x2 x3 x4 (IntKind.i64.wrap (x5 + 1)))
noncomputable def ent84 {R : Type} (ret : R84 → R) (c : Config) (h_1 : Int) (j : L84 → Option R) : Option R :=
    j (.l0 0 0 0)
theorem head84_0 (J : Jmp) (c : Config) (h_1 : Int) (x1 : Int) (x2 : Int) (x0 : Int) : stepAt Pr GA H84 J 0 0 (bodyOf Tryd.f84) (fin Pr H84 Tryd.f84) (st84 c h_1 (.l0 x1 x2 x0)) = bod84 to84 c h_1 (fun l => J (num84 l) (st84 c h_1 l)) (.l0 x1 x2 x0) := by kernel_rfl
theorem head84_4 (J : Jmp) (c : Config) (h_1 : Int) (x0 : Int) (x1 : Int) (x3 : Int) (x4 : List Port) (x5 : Int) (x2 : Int) : stepAt Pr GA H84 J 4 0 (bodyOf Tryd.f84) (fin Pr H84 Tryd.f84) (st84 c h_1 (.l4 x0 x1 x3 x4 x5 x2)) = bod84 to84 c h_1 (fun l => J (num84 l) (st84 c h_1 l)) (.l4 x0 x1 x3 x4 x5 x2) := by kernel_rfl
theorem head84_23 (J : Jmp) (c : Config) (h_1 : Int) (x0 : Int) (x1 : Int) (x2 : Int) (x3 : List Port) (x4 : Int) (x5 : Int) : stepAt Pr GA H84 J 23 0 (bodyOf Tryd.f84) (fin Pr H84 Tryd.f84) (st84 c h_1 (.l23 x0 x1 x2 x3 x4 x5)) = bod84 to84 c h_1 (fun l => J (num84 l) (st84 c h_1 l)) (.l23 x0 x1 x2 x3 x4 x5) := by kernel_rfl
theorem run84 (J : Jmp) (c : Config) (h_1 : Int) : runF Pr GA H84 J GL Tryd.f84 [.agg [.v (.int .i64 c.frames), .v (.int .i64 c.major), .v (.int .i64 c.kernel), .v (.int .i64 c.room), .sl (.sl .sWindow) c.cores, .sl .sPartition c.partitions, .sl .sChannel c.channels], .v (.int .i64 h_1)] [] = ent84 to84 c h_1 (fun l => J (num84 l) (st84 c h_1 l)) := by kernel_rfl
theorem shad84 (c : Config) (h_1 : Int) : ∀ (n : Nat) (l : L84), runL Pr GA H84 Tryd.f84 n (num84 l) (st84 c h_1 l) = shad (bod84 to84 c h_1) n l
  | 0, l => by cases l <;> rfl
  | n + 1, l => by
    have ih : (fun l => runL Pr GA H84 Tryd.f84 n (num84 l) (st84 c h_1 l)) = shad (bod84 to84 c h_1) n := funext (shad84 c h_1 n)
    cases l with
    | l0 x1 x2 x0 => exact (step_eq ..).trans ((head84_0 ..).trans (by rw [ih]; rfl))
    | l4 x0 x1 x3 x4 x5 x2 => exact (step_eq ..).trans ((head84_4 ..).trans (by rw [ih]; rfl))
    | l23 x0 x1 x2 x3 x4 x5 => exact (step_eq ..).trans ((head84_23 ..).trans (by rw [ih]; rfl))
theorem nat84 (c : Config) (h_1 : Int) (s : L84 → Option R84) (l : L84) : bod84 to84 c h_1 (fun l => (s l).map to84) l = (bod84 id c h_1 s l).map to84 := by
  cases l <;> simp only [bod84, map_cond, Option.map_some, Option.map_none, id]
theorem ct84 (c : Config) (h_1 : Int) (l : L84) : CT fun j => bod84 id c h_1 j l := by
  cases l <;> (dsimp only [bod84]; repeat (first | exact CT.jump _ | exact CT.const _ | apply CT.cond))
/-- admit.ends, from a head on. -/
noncomputable def spL84 (c : Config) (h_1 : Int) : L84 → Option R84 := lfp (bod84 id c h_1)
theorem spL84_eq (c : Config) (h_1 : Int) (l : L84) : spL84 c h_1 l = bod84 id c h_1 (spL84 c h_1) l := lfp_eq (ct84 c h_1) l
/-- admit.ends -/
noncomputable def spO84 (c : Config) (h_1 : Int) : Option R84 := ent84 id c h_1 (spL84 c h_1)
noncomputable def sp84 (c : Config) (h_1 : Int) : R84 := (spO84 c h_1).getD default
noncomputable def spc84 (c : Config) (h_1 : Int) : Bool := (spO84 c h_1).isSome
theorem oks84 (c : Config) (h_1 : Int) (hc : spc84 c h_1 = true) : Okay Pr GL 84 [.agg [.v (.int .i64 c.frames), .v (.int .i64 c.major), .v (.int .i64 c.kernel), .v (.int .i64 c.room), .sl (.sl .sWindow) c.cores, .sl .sPartition c.partitions, .sl .sChannel c.channels], .v (.int .i64 h_1)] [] (to84 (sp84 c h_1)) := by
  obtain ⟨n, h⟩ := auto_ok (nat84 c h_1) (fun s => show ent84 to84 c h_1 (fun l => (s l).map to84) = (ent84 id c h_1 s).map to84 by simp only [ent84, map_cond, Option.map_some, Option.map_none, id]) (ct84 c h_1) (show CT fun j => ent84 id c h_1 j by dsimp only [ent84]; repeat (first | exact CT.jump _ | exact CT.const _ | apply CT.cond)) (isSome_getD hc)
  exact okay_of_run (H := H84) GAok G0ok Tryd.func84 rfl (by kernel_rfl) n (by
    rw [run84]
    rw [show (fun l => runL Pr GA H84 Tryd.f84 n (num84 l) (st84 c h_1 l)) = shad (bod84 to84 c h_1) n from funext (shad84 c h_1 n)]
    exact h)

/-! ### admit.split -/
abbrev R85 := Bool
def to85 (r : R85) : Ans := ⟨.v (.bool r), []⟩
inductive L85 where
  | l0 (x0 : Int)
  | l4 (x1 : Int) (x2 : List Window) (x3 : Int) (x0 : Int)
def num85 : L85 → Nat
  | .l0 _ => 0
  | .l4 _ _ _ _ => 4
def H85 : Hint := ⟨fun n => [].any (Nat.beq n), hdAt [(0, ⟨fgt [2, 14, 15, 16, 29, 30, 31, 32] 36 0, []⟩), (4, ⟨fgt [2, 14, 15, 16, 20, 21, 22] 36 0, []⟩)], [], G0, nodp⟩
noncomputable def st85 (c : Config) (k : Int) (p : Int) : L85 → St
  | .l0 x0 => ⟨mkE [(2, .v (.int .i64 p)), (14, .sl (.sl .sWindow) ((c.cores.take k.toNat).drop 0)), (15, .v (.int .i64 (((c.cores.take k.toNat).drop 0).length))), (16, .v (.int .i64 x0))] 36 0, [], GL, 0, [], nodp⟩
  | .l4 x1 x2 x3 x0 => ⟨mkE [(2, .v (.int .i64 p)), (14, .sl (.sl .sWindow) ((c.cores.take k.toNat).drop 0)), (15, .v (.int .i64 (((c.cores.take k.toNat).drop 0).length))), (16, .v (.int .i64 x1)), (20, .sl .sWindow x2), (21, .v (.int .i64 x3)), (22, .v (.int .i64 x0))] 36 0, [], GL, 0, [], nodp⟩
noncomputable def bod85 {R : Type} (ret : R85 → R) (c : Config) (k : Int) (p : Int) (j : L85 → Option R) : L85 → Option R
  | .l0 x0 => cond (decide ((x0 : Int) < ((c.cores.take k.toNat).drop 0).length))
    (cond (inR x0 ((c.cores.take k.toNat).drop 0).length) (
      j (.l4 x0 (atLWindow ((c.cores.take k.toNat).drop 0) x0.toNat) ((atLWindow ((c.cores.take k.toNat).drop 0) x0.toNat).length) 0)) none)
    (some (ret false))
  | .l4 x1 x2 x3 x0 => cond (decide ((x0 : Int) < x3))
    (cond (inR x0 x2.length) (
      cond (decide ((p : Int) ≥ 0))
        (cond (((atWindow x2 x0.toNat).partition : Int) == p)
          (some (ret true))
          (j (.l4 x1 x2 x3 (IntKind.i64.wrap (x0 + 1)))))
        (j (.l4 x1 x2 x3 (IntKind.i64.wrap (x0 + 1))))) none)
    (j (.l0 (IntKind.i64.wrap (x1 + 1))))
noncomputable def ent85 {R : Type} (ret : R85 → R) (c : Config) (k : Int) (p : Int) (j : L85 → Option R) : Option R :=
    cond (inS 0 k c.cores.length) (j (.l0 0)) none
theorem head85_0 (J : Jmp) (c : Config) (k : Int) (p : Int) (x0 : Int) : stepAt Pr GA H85 J 0 0 (bodyOf Tryd.f85) (fin Pr H85 Tryd.f85) (st85 c k p (.l0 x0)) = bod85 to85 c k p (fun l => J (num85 l) (st85 c k p l)) (.l0 x0) := by kernel_rfl
theorem head85_4 (J : Jmp) (c : Config) (k : Int) (p : Int) (x1 : Int) (x2 : List Window) (x3 : Int) (x0 : Int) : stepAt Pr GA H85 J 4 0 (bodyOf Tryd.f85) (fin Pr H85 Tryd.f85) (st85 c k p (.l4 x1 x2 x3 x0)) = bod85 to85 c k p (fun l => J (num85 l) (st85 c k p l)) (.l4 x1 x2 x3 x0) := by kernel_rfl
theorem run85 (J : Jmp) (c : Config) (k : Int) (p : Int) : runF Pr GA H85 J GL Tryd.f85 [.agg [.v (.int .i64 c.frames), .v (.int .i64 c.major), .v (.int .i64 c.kernel), .v (.int .i64 c.room), .sl (.sl .sWindow) c.cores, .sl .sPartition c.partitions, .sl .sChannel c.channels], .v (.int .i64 k), .v (.int .i64 p)] [] = ent85 to85 c k p (fun l => J (num85 l) (st85 c k p l)) := by kernel_rfl
theorem shad85 (c : Config) (k : Int) (p : Int) : ∀ (n : Nat) (l : L85), runL Pr GA H85 Tryd.f85 n (num85 l) (st85 c k p l) = shad (bod85 to85 c k p) n l
  | 0, l => by cases l <;> rfl
  | n + 1, l => by
    have ih : (fun l => runL Pr GA H85 Tryd.f85 n (num85 l) (st85 c k p l)) = shad (bod85 to85 c k p) n := funext (shad85 c k p n)
    cases l with
    | l0 x0 => exact (step_eq ..).trans ((head85_0 ..).trans (by rw [ih]; rfl))
    | l4 x1 x2 x3 x0 => exact (step_eq ..).trans ((head85_4 ..).trans (by rw [ih]; rfl))
theorem nat85 (c : Config) (k : Int) (p : Int) (s : L85 → Option R85) (l : L85) : bod85 to85 c k p (fun l => (s l).map to85) l = (bod85 id c k p s l).map to85 := by
  cases l <;> simp only [bod85, map_cond, Option.map_some, Option.map_none, id]
theorem ct85 (c : Config) (k : Int) (p : Int) (l : L85) : CT fun j => bod85 id c k p j l := by
  cases l <;> (dsimp only [bod85]; repeat (first | exact CT.jump _ | exact CT.const _ | apply CT.cond))
/-- admit.split, from a head on. -/
noncomputable def spL85 (c : Config) (k : Int) (p : Int) : L85 → Option R85 := lfp (bod85 id c k p)
theorem spL85_eq (c : Config) (k : Int) (p : Int) (l : L85) : spL85 c k p l = bod85 id c k p (spL85 c k p) l := lfp_eq (ct85 c k p) l
/-- admit.split -/
noncomputable def spO85 (c : Config) (k : Int) (p : Int) : Option R85 := ent85 id c k p (spL85 c k p)
noncomputable def sp85 (c : Config) (k : Int) (p : Int) : R85 := (spO85 c k p).getD default
noncomputable def spc85 (c : Config) (k : Int) (p : Int) : Bool := (spO85 c k p).isSome
theorem oks85 (c : Config) (k : Int) (p : Int) (hc : spc85 c k p = true) : Okay Pr GL 85 [.agg [.v (.int .i64 c.frames), .v (.int .i64 c.major), .v (.int .i64 c.kernel), .v (.int .i64 c.room), .sl (.sl .sWindow) c.cores, .sl .sPartition c.partitions, .sl .sChannel c.channels], .v (.int .i64 k), .v (.int .i64 p)] [] (to85 (sp85 c k p)) := by
  obtain ⟨n, h⟩ := auto_ok (nat85 c k p) (fun s => show ent85 to85 c k p (fun l => (s l).map to85) = (ent85 id c k p s).map to85 by simp only [ent85, map_cond, Option.map_some, Option.map_none, id]) (ct85 c k p) (show CT fun j => ent85 id c k p j by dsimp only [ent85]; repeat (first | exact CT.jump _ | exact CT.const _ | apply CT.cond)) (isSome_getD hc)
  exact okay_of_run (H := H85) GAok G0ok Tryd.func85 rfl (by kernel_rfl) n (by
    rw [run85]
    rw [show (fun l => runL Pr GA H85 Tryd.f85 n (num85 l) (st85 c k p l)) = shad (bod85 to85 c k p) n from funext (shad85 c k p n)]
    exact h)

/-! ### layout.partition -/
abbrev R88 := Bool
def to88 (r : R88) : Ans := ⟨.v (.bool r), []⟩
inductive L88 where
  | l0 (x0 : Int)
  | l4 (x0 : Int)
def num88 : L88 → Nat
  | .l0 _ => 0
  | .l4 _ => 4
def H88 : Hint := ⟨fun n => [].any (Nat.beq n), hdAt [(0, ⟨fgt [2, 3, 20, 21, 22, 59, 60, 61, 62, 63, 64] 67 0, []⟩), (4, ⟨fgt [2, 49, 50, 51] 67 0, []⟩)], [], G0, nodp⟩
noncomputable def st88 (c : Config) (x : Partition) : L88 → St
  | .l0 x0 => ⟨mkE [(2, .ref 0 0), (3, .ref 1 0), (20, .sl .sRegion x.regions), (21, .v (.int .i64 x.regions.length)), (22, .v (.int .i64 x0))] 67 0, [.cells 26 [.v (.int .i64 c.frames), .v (.int .i64 c.major), .v (.int .i64 c.kernel), .v (.int .i64 c.room), .sl (.sl .sWindow) c.cores, .sl .sPartition c.partitions, .sl .sChannel c.channels], .cells 48 [.v (.string x.name), .v (.int .i64 x.entry), .v (.int .i64 x.action), .v (.int .i64 x.restarts), .v (.int .i64 x.inputs), .v (.int .i64 x.outputs), .sl .sRegion x.regions, .sl .sPort x.ports]], GL, 0, [], nodp⟩
  | .l4 x0 => ⟨mkE [(2, .ref 0 0), (49, .sl .sPort x.ports), (50, .v (.int .i64 x.ports.length)), (51, .v (.int .i64 x0))] 67 0, [.cells 26 [.v (.int .i64 c.frames), .v (.int .i64 c.major), .v (.int .i64 c.kernel), .v (.int .i64 c.room), .sl (.sl .sWindow) c.cores, .sl .sPartition c.partitions, .sl .sChannel c.channels]], GL, 0, [], nodp⟩
noncomputable def bod88 {R : Type} (ret : R88 → R) (c : Config) (x : Partition) (j : L88 → Option R) : L88 → Option R
  | .l0 x0 => cond (decide ((x0 : Int) < x.regions.length))
    (cond (inR x0 x.regions.length) (
      cond (decide (((atRegion x.regions x0.toNat).page : Int) < 0))
        (some (ret false))
        (cond (decide (((atRegion x.regions x0.toNat).page : Int) > 256))
          (some (ret false))
          (cond (decide (((atRegion x.regions x0.toNat).pages : Int) < 1))
            (some (ret false))
            (cond (decide (((atRegion x.regions x0.toNat).pages : Int) > (IntKind.i64.wrap (256 - (atRegion x.regions x0.toNat).page))))
              (some (ret false))
              (j (.l0 (IntKind.i64.wrap (x0 + 1)))))))) none)
    (j (.l4 0))
  | .l4 x0 => cond (decide ((x0 : Int) < x.ports.length))
    (cond (inR x0 x.ports.length) (
      cond (decide (((atPort x.ports x0.toNat).channel : Int) < 0))
        (some (ret false))
        (cond (decide (((atPort x.ports x0.toNat).channel : Int) ≥ c.channels.length))
          (some (ret false))
          (j (.l4 (IntKind.i64.wrap (x0 + 1)))))) none)
    (some (ret true))
noncomputable def ent88 {R : Type} (ret : R88 → R) (c : Config) (x : Partition) (j : L88 → Option R) : Option R :=
    cond (decide ((x.regions.length : Int) > 8))
    (some (ret false))
    (cond (decide ((x.ports.length : Int) > 8))
      (some (ret false))
      (j (.l0 0)))
theorem head88_0 (J : Jmp) (c : Config) (x : Partition) (x0 : Int) : stepAt Pr GA H88 J 0 0 (bodyOf Tryd.f88) (fin Pr H88 Tryd.f88) (st88 c x (.l0 x0)) = bod88 to88 c x (fun l => J (num88 l) (st88 c x l)) (.l0 x0) := by kernel_rfl
theorem head88_4 (J : Jmp) (c : Config) (x : Partition) (x0 : Int) : stepAt Pr GA H88 J 4 0 (bodyOf Tryd.f88) (fin Pr H88 Tryd.f88) (st88 c x (.l4 x0)) = bod88 to88 c x (fun l => J (num88 l) (st88 c x l)) (.l4 x0) := by kernel_rfl
theorem run88 (J : Jmp) (c : Config) (x : Partition) : runF Pr GA H88 J GL Tryd.f88 [.agg [.v (.int .i64 c.frames), .v (.int .i64 c.major), .v (.int .i64 c.kernel), .v (.int .i64 c.room), .sl (.sl .sWindow) c.cores, .sl .sPartition c.partitions, .sl .sChannel c.channels], .agg [.v (.string x.name), .v (.int .i64 x.entry), .v (.int .i64 x.action), .v (.int .i64 x.restarts), .v (.int .i64 x.inputs), .v (.int .i64 x.outputs), .sl .sRegion x.regions, .sl .sPort x.ports]] [] = ent88 to88 c x (fun l => J (num88 l) (st88 c x l)) := by kernel_rfl
theorem shad88 (c : Config) (x : Partition) : ∀ (n : Nat) (l : L88), runL Pr GA H88 Tryd.f88 n (num88 l) (st88 c x l) = shad (bod88 to88 c x) n l
  | 0, l => by cases l <;> rfl
  | n + 1, l => by
    have ih : (fun l => runL Pr GA H88 Tryd.f88 n (num88 l) (st88 c x l)) = shad (bod88 to88 c x) n := funext (shad88 c x n)
    cases l with
    | l0 x0 => exact (step_eq ..).trans ((head88_0 ..).trans (by rw [ih]; rfl))
    | l4 x0 => exact (step_eq ..).trans ((head88_4 ..).trans (by rw [ih]; rfl))
theorem nat88 (c : Config) (x : Partition) (s : L88 → Option R88) (l : L88) : bod88 to88 c x (fun l => (s l).map to88) l = (bod88 id c x s l).map to88 := by
  cases l <;> simp only [bod88, map_cond, Option.map_some, Option.map_none, id]
theorem ct88 (c : Config) (x : Partition) (l : L88) : CT fun j => bod88 id c x j l := by
  cases l <;> (dsimp only [bod88]; repeat (first | exact CT.jump _ | exact CT.const _ | apply CT.cond))
/-- layout.partition, from a head on. -/
noncomputable def spL88 (c : Config) (x : Partition) : L88 → Option R88 := lfp (bod88 id c x)
theorem spL88_eq (c : Config) (x : Partition) (l : L88) : spL88 c x l = bod88 id c x (spL88 c x) l := lfp_eq (ct88 c x) l
/-- layout.partition -/
noncomputable def spO88 (c : Config) (x : Partition) : Option R88 := ent88 id c x (spL88 c x)
noncomputable def sp88 (c : Config) (x : Partition) : R88 := (spO88 c x).getD default
noncomputable def spc88 (c : Config) (x : Partition) : Bool := (spO88 c x).isSome
theorem oks88 (c : Config) (x : Partition) (hc : spc88 c x = true) : Okay Pr GL 88 [.agg [.v (.int .i64 c.frames), .v (.int .i64 c.major), .v (.int .i64 c.kernel), .v (.int .i64 c.room), .sl (.sl .sWindow) c.cores, .sl .sPartition c.partitions, .sl .sChannel c.channels], .agg [.v (.string x.name), .v (.int .i64 x.entry), .v (.int .i64 x.action), .v (.int .i64 x.restarts), .v (.int .i64 x.inputs), .v (.int .i64 x.outputs), .sl .sRegion x.regions, .sl .sPort x.ports]] [] (to88 (sp88 c x)) := by
  obtain ⟨n, h⟩ := auto_ok (nat88 c x) (fun s => show ent88 to88 c x (fun l => (s l).map to88) = (ent88 id c x s).map to88 by simp only [ent88, map_cond, Option.map_some, Option.map_none, id]) (ct88 c x) (show CT fun j => ent88 id c x j by dsimp only [ent88]; repeat (first | exact CT.jump _ | exact CT.const _ | apply CT.cond)) (isSome_getD hc)
  exact okay_of_run (H := H88) GAok G0ok Tryd.func88 rfl (by kernel_rfl) n (by
    rw [run88]
    rw [show (fun l => runL Pr GA H88 Tryd.f88 n (num88 l) (st88 c x l)) = shad (bod88 to88 c x) n from funext (shad88 c x n)]
    exact h)

/-! ### admit.isName -/
abbrev R92 := Bool
def to92 (r : R92) : Ans := ⟨.v (.bool r), []⟩
inductive L92 where
  | l0 (x0 : Int)
def num92 : L92 → Nat
  | .l0 _ => 0
def H92 : Hint := ⟨fun n => [].any (Nat.beq n), hdAt [(0, ⟨fgt [0, 24, 25] 50 0, []⟩)], [], G0, nodp⟩
noncomputable def st92 (s_0 : ByteArray) : L92 → St
  | .l0 x0 => ⟨mkE [(0, .v (.string s_0)), (24, .v (.int .i64 s_0.size)), (25, .v (.int .i64 x0))] 50 0, [], GL, 0, [], nodp⟩
noncomputable def bod92 {R : Type} (ret : R92 → R) (s_0 : ByteArray) (j : L92 → Option R) : L92 → Option R
  | .l0 x0 => cond (decide ((x0 : Int) < s_0.size))
    (cond (inR x0 s_0.size) (
      cond (decide (((byteAt s_0 x0.toNat) : Int) < 97))
        (cond (decide (((byteAt s_0 x0.toNat) : Int) < 48))
          (cond (!(((byteAt s_0 x0.toNat) : Int) == 45))
            (some (ret false))
            (j (.l0 (IntKind.i64.wrap (x0 + 1)))))
          (cond (decide (((byteAt s_0 x0.toNat) : Int) > 57))
            (cond (!(((byteAt s_0 x0.toNat) : Int) == 45))
              (some (ret false))
              (j (.l0 (IntKind.i64.wrap (x0 + 1)))))
            (j (.l0 (IntKind.i64.wrap (x0 + 1))))))
        (cond (decide (((byteAt s_0 x0.toNat) : Int) > 122))
          (cond (decide (((byteAt s_0 x0.toNat) : Int) < 48))
            (cond (!(((byteAt s_0 x0.toNat) : Int) == 45))
              (some (ret false))
              (j (.l0 (IntKind.i64.wrap (x0 + 1)))))
            (cond (decide (((byteAt s_0 x0.toNat) : Int) > 57))
              (cond (!(((byteAt s_0 x0.toNat) : Int) == 45))
                (some (ret false))
                (j (.l0 (IntKind.i64.wrap (x0 + 1)))))
              (j (.l0 (IntKind.i64.wrap (x0 + 1))))))
          (j (.l0 (IntKind.i64.wrap (x0 + 1)))))) none)
    (some (ret true))
noncomputable def ent92 {R : Type} (ret : R92 → R) (s_0 : ByteArray) (j : L92 → Option R) : Option R :=
    cond (decide ((s_0.size : Int) < 1))
    (some (ret false))
    (cond (decide ((s_0.size : Int) > 16))
      (some (ret false))
      (cond (inR 0 s_0.size) (
        cond (decide (((byteAt s_0 0) : Int) < 97))
          (some (ret false))
          (cond (inR 0 s_0.size) (cond (decide (((byteAt s_0 0) : Int) > 122))
              (some (ret false))
              (j (.l0 0))) none)) none))
theorem head92_0 (J : Jmp) (s_0 : ByteArray) (x0 : Int) : stepAt Pr GA H92 J 0 0 (bodyOf Tryd.f92) (fin Pr H92 Tryd.f92) (st92 s_0 (.l0 x0)) = bod92 to92 s_0 (fun l => J (num92 l) (st92 s_0 l)) (.l0 x0) := by kernel_rfl
theorem run92 (J : Jmp) (s_0 : ByteArray) : runF Pr GA H92 J GL Tryd.f92 [.v (.string s_0)] [] = ent92 to92 s_0 (fun l => J (num92 l) (st92 s_0 l)) := by kernel_rfl
theorem shad92 (s_0 : ByteArray) : ∀ (n : Nat) (l : L92), runL Pr GA H92 Tryd.f92 n (num92 l) (st92 s_0 l) = shad (bod92 to92 s_0) n l
  | 0, l => by cases l <;> rfl
  | n + 1, l => by
    have ih : (fun l => runL Pr GA H92 Tryd.f92 n (num92 l) (st92 s_0 l)) = shad (bod92 to92 s_0) n := funext (shad92 s_0 n)
    cases l with
    | l0 x0 => exact (step_eq ..).trans ((head92_0 ..).trans (by rw [ih]; rfl))
theorem nat92 (s_0 : ByteArray) (s : L92 → Option R92) (l : L92) : bod92 to92 s_0 (fun l => (s l).map to92) l = (bod92 id s_0 s l).map to92 := by
  cases l <;> simp only [bod92, map_cond, Option.map_some, Option.map_none, id]
theorem ct92 (s_0 : ByteArray) (l : L92) : CT fun j => bod92 id s_0 j l := by
  cases l <;> (dsimp only [bod92]; repeat (first | exact CT.jump _ | exact CT.const _ | apply CT.cond))
/-- admit.isName, from a head on. -/
noncomputable def spL92 (s_0 : ByteArray) : L92 → Option R92 := lfp (bod92 id s_0)
theorem spL92_eq (s_0 : ByteArray) (l : L92) : spL92 s_0 l = bod92 id s_0 (spL92 s_0) l := lfp_eq (ct92 s_0) l
/-- admit.isName -/
noncomputable def spO92 (s_0 : ByteArray) : Option R92 := ent92 id s_0 (spL92 s_0)
noncomputable def sp92 (s_0 : ByteArray) : R92 := (spO92 s_0).getD default
noncomputable def spc92 (s_0 : ByteArray) : Bool := (spO92 s_0).isSome
theorem oks92 (s_0 : ByteArray) (hc : spc92 s_0 = true) : Okay Pr GL 92 [.v (.string s_0)] [] (to92 (sp92 s_0)) := by
  obtain ⟨n, h⟩ := auto_ok (nat92 s_0) (fun s => show ent92 to92 s_0 (fun l => (s l).map to92) = (ent92 id s_0 s).map to92 by simp only [ent92, map_cond, Option.map_some, Option.map_none, id]) (ct92 s_0) (show CT fun j => ent92 id s_0 j by dsimp only [ent92]; repeat (first | exact CT.jump _ | exact CT.const _ | apply CT.cond)) (isSome_getD hc)
  exact okay_of_run (H := H92) GAok G0ok Tryd.func92 rfl (by kernel_rfl) n (by
    rw [run92]
    rw [show (fun l => runL Pr GA H92 Tryd.f92 n (num92 l) (st92 s_0 l)) = shad (bod92 to92 s_0) n from funext (shad92 s_0 n)]
    exact h)

/-! ### layout.pieces$1 -/
abbrev R74 := (List LayoutPiece)
def to74 (r : R74) : Ans := ⟨.tup [], [.cells 103 [.own 2], .dead, .arr 106 .sLayoutPiece r]⟩
def H74 : Hint := ⟨fun _ => false, fun _ => ⟨[], []⟩, [], G0, nodp⟩
noncomputable def ent74 {R : Type} (ret : R74 → R) (a1 : Int) (a2 : Int) (a3 : Int) (a4 : Int) (a5 : Int) (xs : List LayoutPiece) : Option R :=
    cond (leB (((xs : List LayoutPiece).length + ([(⟨a1, a2, (⟨a3, a4, a5⟩ : Owner)⟩ : LayoutPiece)] : List LayoutPiece).length) * 40) 140737488355328) (some (ret ((xs : List LayoutPiece) ++ [(⟨a1, a2, (⟨a3, a4, a5⟩ : Owner)⟩ : LayoutPiece)]))) none
theorem run74 (J : Jmp) (a1 : Int) (a2 : Int) (a3 : Int) (a4 : Int) (a5 : Int) (xs : List LayoutPiece) : runF Pr GA H74 J GL Tryd.f74 [.v (.int .i64 a1), .v (.int .i64 a2), .v (.int .i64 a3), .v (.int .i64 a4), .v (.int .i64 a5), .ref 0 0] [.cells 103 [.own 1], .arr 106 .sLayoutPiece xs] = ent74 to74 a1 a2 a3 a4 a5 xs := by kernel_rfl
/-- layout.pieces$1 -/
noncomputable def spO74 (a1 : Int) (a2 : Int) (a3 : Int) (a4 : Int) (a5 : Int) (xs : List LayoutPiece) : Option R74 := ent74 id a1 a2 a3 a4 a5 xs
noncomputable def sp74 (a1 : Int) (a2 : Int) (a3 : Int) (a4 : Int) (a5 : Int) (xs : List LayoutPiece) : R74 := (spO74 a1 a2 a3 a4 a5 xs).getD default
noncomputable def spc74 (a1 : Int) (a2 : Int) (a3 : Int) (a4 : Int) (a5 : Int) (xs : List LayoutPiece) : Bool := (spO74 a1 a2 a3 a4 a5 xs).isSome
theorem oks74 (a1 : Int) (a2 : Int) (a3 : Int) (a4 : Int) (a5 : Int) (xs : List LayoutPiece) (hc : spc74 a1 a2 a3 a4 a5 xs = true) : Okay Pr GL 74 [.v (.int .i64 a1), .v (.int .i64 a2), .v (.int .i64 a3), .v (.int .i64 a4), .v (.int .i64 a5), .ref 0 0] [.cells 103 [.own 1], .arr 106 .sLayoutPiece xs] (to74 (sp74 a1 a2 a3 a4 a5 xs)) :=
  okay_of_run (H := H74) GAok G0ok Tryd.func74 rfl (by kernel_rfl) 0 ((run74 (runL Pr GA H74 Tryd.f74 0) a1 a2 a3 a4 a5 xs).trans (auto_ok0 (show ent74 to74 a1 a2 a3 a4 a5 xs = (ent74 id a1 a2 a3 a4 a5 xs).map to74 by simp only [ent74, map_cond, Option.map_some, Option.map_none, id]) (isSome_getD hc)))

noncomputable def g5 (args : List AV) (hp : List Blk) : Option (Bool × AV × List Blk) :=
  match hp, args with
  | [], [x0] => (rdS .sConfig x0).bind fun a0 => some ((spc5 a0), .agg [.v (.int .i64 ((sp5 a0).frames)), .v (.int .i64 ((sp5 a0).major)), .v (.int .i64 ((sp5 a0).kernel)), .v (.int .i64 ((sp5 a0).room)), .own 0, .own 1, .own 2], [.arr 44 (.sl .sWindow) ((sp5 a0).cores), .arr 48 .sPartition ((sp5 a0).partitions), .arr 53 .sChannel ((sp5 a0).channels)])
  | _, _ => none
theorem g5_ok {args : List AV} {hp : List Blk} {b : Bool} {r : AV} {hp' : List Blk} (h : g5 args hp = some (b, r, hp')) (hb : b = true) : FnOk Pr 5 ∧ Okay Pr GL 5 args hp ⟨r, hp'⟩ := by
  unfold g5 at h
  split at h
  · simp only [Option.bind_eq_some_iff] at h
    obtain ⟨a0, h0, h⟩ := h
    cases h; exact ⟨fnok Tryd.func5 (by kernel_rfl) rfl, (oks5 a0 hb).ats (.cons (rdS_V h0) .nil)⟩
  · cases h
noncomputable def g43 (args : List AV) (hp : List Blk) : Option (Bool × AV × List Blk) :=
  match hp, args with
  | [], [x0, x1] => (rdS .sConfig x0).bind fun a0 => (rdL (.i .i64) x1).bind fun a1 => some ((spc43 a0 a1), .tup [.v (.int .i64 ((sp43 a0 a1).1)), .v (.bool ((sp43 a0 a1).2))], [])
  | _, _ => none
theorem g43_ok {args : List AV} {hp : List Blk} {b : Bool} {r : AV} {hp' : List Blk} (h : g43 args hp = some (b, r, hp')) (hb : b = true) : FnOk Pr 43 ∧ Okay Pr GL 43 args hp ⟨r, hp'⟩ := by
  unfold g43 at h
  split at h
  · simp only [Option.bind_eq_some_iff] at h
    obtain ⟨a0, h0, a1, h1, h⟩ := h
    cases h; exact ⟨fnok Tryd.func43 (by kernel_rfl) rfl, (oks43 a0 a1 hb).ats (.cons (rdS_V h0) (.cons (rdL_V h1) .nil))⟩
  · cases h
noncomputable def g44 (args : List AV) (hp : List Blk) : Option (Bool × AV × List Blk) :=
  match hp, args with
  | [], [x0, x1] => (rdL (.sl .sPort) x0).bind fun a0 => (rdS .sPort x1).bind fun a1 => some ((spc44 a0 a1), .v (.int .i64 (sp44 a0 a1)), [])
  | _, _ => none
theorem g44_ok {args : List AV} {hp : List Blk} {b : Bool} {r : AV} {hp' : List Blk} (h : g44 args hp = some (b, r, hp')) (hb : b = true) : FnOk Pr 44 ∧ Okay Pr GL 44 args hp ⟨r, hp'⟩ := by
  unfold g44 at h
  split at h
  · simp only [Option.bind_eq_some_iff] at h
    obtain ⟨a0, h0, a1, h1, h⟩ := h
    cases h; exact ⟨fnok Tryd.func44 (by kernel_rfl) rfl, (oks44 a0 a1 hb).ats (.cons (rdL_V h0) (.cons (rdS_V h1) .nil))⟩
  · cases h
noncomputable def g45 (args : List AV) (hp : List Blk) : Option (Bool × AV × List Blk) :=
  match hp, args with
  | [], [x0] => (rdL .s x0).bind fun a0 => some ((spc45 a0), .v (.bool (sp45 a0)), [])
  | _, _ => none
theorem g45_ok {args : List AV} {hp : List Blk} {b : Bool} {r : AV} {hp' : List Blk} (h : g45 args hp = some (b, r, hp')) (hb : b = true) : FnOk Pr 45 ∧ Okay Pr GL 45 args hp ⟨r, hp'⟩ := by
  unfold g45 at h
  split at h
  · simp only [Option.bind_eq_some_iff] at h
    obtain ⟨a0, h0, h⟩ := h
    cases h; exact ⟨fnok Tryd.func45 (by kernel_rfl) rfl, (oks45 a0 hb).ats (.cons (rdL_V h0) .nil)⟩
  · cases h
noncomputable def g48 (args : List AV) (hp : List Blk) : Option (Bool × AV × List Blk) :=
  match hp, args with
  | [], [x0, x1] => (rdS .sPartition x0).bind fun a0 => (rdL (.i .i64) x1).bind fun a1 => some ((spc48 a0 a1), .v (.bool (sp48 a0 a1)), [])
  | _, _ => none
theorem g48_ok {args : List AV} {hp : List Blk} {b : Bool} {r : AV} {hp' : List Blk} (h : g48 args hp = some (b, r, hp')) (hb : b = true) : FnOk Pr 48 ∧ Okay Pr GL 48 args hp ⟨r, hp'⟩ := by
  unfold g48 at h
  split at h
  · simp only [Option.bind_eq_some_iff] at h
    obtain ⟨a0, h0, a1, h1, h⟩ := h
    cases h; exact ⟨fnok Tryd.func48 (by kernel_rfl) rfl, (oks48 a0 a1 hb).ats (.cons (rdS_V h0) (.cons (rdL_V h1) .nil))⟩
  · cases h
noncomputable def g50 (args : List AV) (hp : List Blk) : Option (Bool × AV × List Blk) :=
  match hp, args with
  | [], [x0, x1, x2] => (rdS .sPartition x0).bind fun a0 => (rdL (.i .i64) x1).bind fun a1 => (rdL .b x2).bind fun a2 => some ((spc50 a0 a1 a2), .v (.int .i64 (sp50 a0 a1 a2)), [])
  | _, _ => none
theorem g50_ok {args : List AV} {hp : List Blk} {b : Bool} {r : AV} {hp' : List Blk} (h : g50 args hp = some (b, r, hp')) (hb : b = true) : FnOk Pr 50 ∧ Okay Pr GL 50 args hp ⟨r, hp'⟩ := by
  unfold g50 at h
  split at h
  · simp only [Option.bind_eq_some_iff] at h
    obtain ⟨a0, h0, a1, h1, a2, h2, h⟩ := h
    cases h; exact ⟨fnok Tryd.func50 (by kernel_rfl) rfl, (oks50 a0 a1 a2 hb).ats (.cons (rdS_V h0) (.cons (rdL_V h1) (.cons (rdL_V h2) .nil)))⟩
  · cases h
noncomputable def g52 (args : List AV) (hp : List Blk) : Option (Bool × AV × List Blk) :=
  match hp, args with
  | [], [x0, x1] => (rdS .sPartition x0).bind fun a0 => (rdL (.i .i64) x1).bind fun a1 => some ((spc52 a0 a1), .v (.bool (sp52 a0 a1)), [])
  | _, _ => none
theorem g52_ok {args : List AV} {hp : List Blk} {b : Bool} {r : AV} {hp' : List Blk} (h : g52 args hp = some (b, r, hp')) (hb : b = true) : FnOk Pr 52 ∧ Okay Pr GL 52 args hp ⟨r, hp'⟩ := by
  unfold g52 at h
  split at h
  · simp only [Option.bind_eq_some_iff] at h
    obtain ⟨a0, h0, a1, h1, h⟩ := h
    cases h; exact ⟨fnok Tryd.func52 (by kernel_rfl) rfl, (oks52 a0 a1 hb).ats (.cons (rdS_V h0) (.cons (rdL_V h1) .nil))⟩
  · cases h
noncomputable def g70 (args : List AV) (hp : List Blk) : Option (Bool × AV × List Blk) :=
  match hp, args with
  | [], [x0, x1] => (rdS .sConfig x0).bind fun a0 => (rdL (.i .i64) x1).bind fun a1 => some ((spc70 a0 a1), .tup [.own 0, .own 1], [.arr 126 .sLayoutEnd ((sp70 a0 a1).1), .arr 126 .sLayoutEnd ((sp70 a0 a1).2)])
  | _, _ => none
theorem g70_ok {args : List AV} {hp : List Blk} {b : Bool} {r : AV} {hp' : List Blk} (h : g70 args hp = some (b, r, hp')) (hb : b = true) : FnOk Pr 70 ∧ Okay Pr GL 70 args hp ⟨r, hp'⟩ := by
  unfold g70 at h
  split at h
  · simp only [Option.bind_eq_some_iff] at h
    obtain ⟨a0, h0, a1, h1, h⟩ := h
    cases h; exact ⟨fnok Tryd.func70 (by kernel_rfl) rfl, (oks70 a0 a1 hb).ats (.cons (rdS_V h0) (.cons (rdL_V h1) .nil))⟩
  · cases h
noncomputable def g76 (args : List AV) (hp : List Blk) : Option (Bool × AV × List Blk) :=
  match hp, args with
  | [], [x0, x1] => (rdS .sConfig x0).bind fun a0 => (rdL (.i .i64) x1).bind fun a1 => some ((spc76 a0 a1), .tup [.v (.int .i64 ((sp76 a0 a1).1)), .v (.int .i64 ((sp76 a0 a1).2))], [])
  | _, _ => none
theorem g76_ok {args : List AV} {hp : List Blk} {b : Bool} {r : AV} {hp' : List Blk} (h : g76 args hp = some (b, r, hp')) (hb : b = true) : FnOk Pr 76 ∧ Okay Pr GL 76 args hp ⟨r, hp'⟩ := by
  unfold g76 at h
  split at h
  · simp only [Option.bind_eq_some_iff] at h
    obtain ⟨a0, h0, a1, h1, h⟩ := h
    cases h; exact ⟨fnok Tryd.func76 (by kernel_rfl) rfl, (oks76 a0 a1 hb).ats (.cons (rdS_V h0) (.cons (rdL_V h1) .nil))⟩
  · cases h
noncomputable def g78 (args : List AV) (hp : List Blk) : Option (Bool × AV × List Blk) :=
  match hp, args with
  | [], [x0] => (rdL (.sl .sAdmitFound) x0).bind fun a0 => some ((spc78 a0), .agg [.v (.int .i64 ((sp78 a0).e)), .v (.int .i64 ((sp78 a0).where_.first)), .v (.int .i64 ((sp78 a0).where_.second))], [])
  | _, _ => none
theorem g78_ok {args : List AV} {hp : List Blk} {b : Bool} {r : AV} {hp' : List Blk} (h : g78 args hp = some (b, r, hp')) (hb : b = true) : FnOk Pr 78 ∧ Okay Pr GL 78 args hp ⟨r, hp'⟩ := by
  unfold g78 at h
  split at h
  · simp only [Option.bind_eq_some_iff] at h
    obtain ⟨a0, h0, h⟩ := h
    cases h; exact ⟨fnok Tryd.func78 (by kernel_rfl) rfl, (oks78 a0 hb).ats (.cons (rdL_V h0) .nil)⟩
  · cases h
noncomputable def g84 (args : List AV) (hp : List Blk) : Option (Bool × AV × List Blk) :=
  match hp, args with
  | [], [x0, x1] => (rdS .sConfig x0).bind fun a0 => (rdL (.i .i64) x1).bind fun a1 => some ((spc84 a0 a1), .tup [.v (.int .i64 ((sp84 a0 a1).1)), .v (.int .i64 ((sp84 a0 a1).2))], [])
  | _, _ => none
theorem g84_ok {args : List AV} {hp : List Blk} {b : Bool} {r : AV} {hp' : List Blk} (h : g84 args hp = some (b, r, hp')) (hb : b = true) : FnOk Pr 84 ∧ Okay Pr GL 84 args hp ⟨r, hp'⟩ := by
  unfold g84 at h
  split at h
  · simp only [Option.bind_eq_some_iff] at h
    obtain ⟨a0, h0, a1, h1, h⟩ := h
    cases h; exact ⟨fnok Tryd.func84 (by kernel_rfl) rfl, (oks84 a0 a1 hb).ats (.cons (rdS_V h0) (.cons (rdL_V h1) .nil))⟩
  · cases h
noncomputable def g85 (args : List AV) (hp : List Blk) : Option (Bool × AV × List Blk) :=
  match hp, args with
  | [], [x0, x1, x2] => (rdS .sConfig x0).bind fun a0 => (rdL (.i .i64) x1).bind fun a1 => (rdL (.i .i64) x2).bind fun a2 => some ((spc85 a0 a1 a2), .v (.bool (sp85 a0 a1 a2)), [])
  | _, _ => none
theorem g85_ok {args : List AV} {hp : List Blk} {b : Bool} {r : AV} {hp' : List Blk} (h : g85 args hp = some (b, r, hp')) (hb : b = true) : FnOk Pr 85 ∧ Okay Pr GL 85 args hp ⟨r, hp'⟩ := by
  unfold g85 at h
  split at h
  · simp only [Option.bind_eq_some_iff] at h
    obtain ⟨a0, h0, a1, h1, a2, h2, h⟩ := h
    cases h; exact ⟨fnok Tryd.func85 (by kernel_rfl) rfl, (oks85 a0 a1 a2 hb).ats (.cons (rdS_V h0) (.cons (rdL_V h1) (.cons (rdL_V h2) .nil)))⟩
  · cases h
noncomputable def g88 (args : List AV) (hp : List Blk) : Option (Bool × AV × List Blk) :=
  match hp, args with
  | [], [x0, x1] => (rdS .sConfig x0).bind fun a0 => (rdS .sPartition x1).bind fun a1 => some ((spc88 a0 a1), .v (.bool (sp88 a0 a1)), [])
  | _, _ => none
theorem g88_ok {args : List AV} {hp : List Blk} {b : Bool} {r : AV} {hp' : List Blk} (h : g88 args hp = some (b, r, hp')) (hb : b = true) : FnOk Pr 88 ∧ Okay Pr GL 88 args hp ⟨r, hp'⟩ := by
  unfold g88 at h
  split at h
  · simp only [Option.bind_eq_some_iff] at h
    obtain ⟨a0, h0, a1, h1, h⟩ := h
    cases h; exact ⟨fnok Tryd.func88 (by kernel_rfl) rfl, (oks88 a0 a1 hb).ats (.cons (rdS_V h0) (.cons (rdS_V h1) .nil))⟩
  · cases h
noncomputable def g92 (args : List AV) (hp : List Blk) : Option (Bool × AV × List Blk) :=
  match hp, args with
  | [], [x0] => (rdL .s x0).bind fun a0 => some ((spc92 a0), .v (.bool (sp92 a0)), [])
  | _, _ => none
theorem g92_ok {args : List AV} {hp : List Blk} {b : Bool} {r : AV} {hp' : List Blk} (h : g92 args hp = some (b, r, hp')) (hb : b = true) : FnOk Pr 92 ∧ Okay Pr GL 92 args hp ⟨r, hp'⟩ := by
  unfold g92 at h
  split at h
  · simp only [Option.bind_eq_some_iff] at h
    obtain ⟨a0, h0, h⟩ := h
    cases h; exact ⟨fnok Tryd.func92 (by kernel_rfl) rfl, (oks92 a0 hb).ats (.cons (rdL_V h0) .nil)⟩
  · cases h
noncomputable def g74 (args : List AV) (hp : List Blk) : Option (Bool × AV × List Blk) :=
  match args, hp with
  | [.v (.int .i64 y0), .v (.int .i64 y1), .v (.int .i64 y2), .v (.int .i64 y3), .v (.int .i64 y4), .ref 0 0], [.cells 103 [.own 1], .arr 106 .sLayoutPiece y5] => some ((spc74 y0 y1 y2 y3 y4 y5), .tup [], [.cells 103 [.own 2], .dead, .arr 106 .sLayoutPiece (sp74 y0 y1 y2 y3 y4 y5)])
  | _, _ => none
theorem g74_ok {args : List AV} {hp : List Blk} {b : Bool} {r : AV} {hp' : List Blk} (h : g74 args hp = some (b, r, hp')) (hb : b = true) : FnOk Pr 74 ∧ Okay Pr GL 74 args hp ⟨r, hp'⟩ := by
  unfold g74 at h
  split at h
  · cases h; exact ⟨fnok Tryd.func74 (by kernel_rfl) rfl, oks74 _ _ _ _ _ _ hb⟩
  · cases h
noncomputable def GB : Gam := fun c args hp => match c with
  | .f f => pick1 5 f (g5 args hp) (pick1 43 f (g43 args hp) (pick1 44 f (g44 args hp) (pick1 45 f (g45 args hp) (pick1 48 f (g48 args hp) (pick1 50 f (g50 args hp) (pick1 52 f (g52 args hp) (pick1 70 f (g70 args hp) (pick1 76 f (g76 args hp) (pick1 78 f (g78 args hp) (pick1 84 f (g84 args hp) (pick1 85 f (g85 args hp) (pick1 88 f (g88 args hp) (pick1 92 f (g92 args hp) (pick1 74 f (g74 args hp) (GA (.f f) args hp)))))))))))))))
  | .c x => GA (.c x) args hp
theorem GBok : GOk Pr GL GB := by
  intro c args hp b r hp' h hb
  cases c with
  | f f =>
    simp only [GB] at h
    rcases pick1_ok h with ⟨rfl, h⟩ | h
    · exact g5_ok h hb
    rcases pick1_ok h with ⟨rfl, h⟩ | h
    · exact g43_ok h hb
    rcases pick1_ok h with ⟨rfl, h⟩ | h
    · exact g44_ok h hb
    rcases pick1_ok h with ⟨rfl, h⟩ | h
    · exact g45_ok h hb
    rcases pick1_ok h with ⟨rfl, h⟩ | h
    · exact g48_ok h hb
    rcases pick1_ok h with ⟨rfl, h⟩ | h
    · exact g50_ok h hb
    rcases pick1_ok h with ⟨rfl, h⟩ | h
    · exact g52_ok h hb
    rcases pick1_ok h with ⟨rfl, h⟩ | h
    · exact g70_ok h hb
    rcases pick1_ok h with ⟨rfl, h⟩ | h
    · exact g76_ok h hb
    rcases pick1_ok h with ⟨rfl, h⟩ | h
    · exact g78_ok h hb
    rcases pick1_ok h with ⟨rfl, h⟩ | h
    · exact g84_ok h hb
    rcases pick1_ok h with ⟨rfl, h⟩ | h
    · exact g85_ok h hb
    rcases pick1_ok h with ⟨rfl, h⟩ | h
    · exact g88_ok h hb
    rcases pick1_ok h with ⟨rfl, h⟩ | h
    · exact g92_ok h hb
    rcases pick1_ok h with ⟨rfl, h⟩ | h
    · exact g74_ok h hb
    exact GAok (.f f) args hp b r hp' h hb
  | c x => exact GAok (.c x) args hp b r hp' h hb
end Go.Proofs.YthnkmndjhedgdaaDoor
