/- Shadows of functions (printed by pr2.py off the model's code; the kernel holds each equation to it), and what they answer. -/
import Derived.Test.YtgfifnadfmaolaaGreatDoorP0
namespace Go.Proofs.YtgfifnadfmaolaaGreatDoor
open Go.RowKit
set_option linter.unusedVariables false
set_option linter.unusedSimpArgs false
/-! ### law12.Copied -/
abbrev R9 := Config
def to9 (r : R9) : Ans := ⟨.agg [.v (.int .i64 r.frames), .v (.int .i64 r.major), .v (.int .i64 r.kernel), .v (.int .i64 r.room), .own 0, .own 1, .own 2], [.arr 66 (.sl .sWindow) r.cores, .arr 70 .sPartition r.partitions, .arr 97 .sChannel r.channels]⟩
inductive L9 where
  | l0 (x0 : Int) (x1 : List (List Window))
  | l4 (x0 : Int) (x2 : List (List Window)) (x1 : List Partition)
def num9 : L9 → Nat
  | .l0 _ _ => 0
  | .l4 _ _ _ => 4
def H9 : Hint := ⟨fun n => [].any (Nat.beq n), hdAt [(0, ⟨fgt [1, 2, 3, 4] 77 0, []⟩), (4, ⟨fgt [1, 2, 3, 6] 77 0, []⟩)], [], G0, nodp⟩
noncomputable def st9 (c : Config) : L9 → St
  | .l0 x0 x1 => ⟨mkE [(1, .ref 0 0), (2, .ref 1 0), (3, .ref 2 0), (4, .v (.int .i64 x0))] 77 0, [.cells 26 [.v (.int .i64 c.frames), .v (.int .i64 c.major), .v (.int .i64 c.kernel), .v (.int .i64 c.room), .sl (.sl .sWindow) c.cores, .sl .sPartition c.partitions, .sl .sChannel c.channels], .cells 26 [.v (.int .i64 0), .v (.int .i64 0), .v (.int .i64 0), .v (.int .i64 0), .v (.slice none 0 0), .v (.slice none 0 0), .v (.slice none 0 0)], .cells 26 [.v (.int .i64 c.frames), .v (.int .i64 c.major), .v (.int .i64 c.kernel), .v (.int .i64 c.room), .own 3, .sl .sPartition c.partitions, .sl .sChannel c.channels], .arr 66 (.sl .sWindow) x1], GL, 0, [], nodp⟩
  | .l4 x0 x2 x1 => ⟨mkE [(1, .ref 0 0), (2, .ref 1 0), (3, .ref 2 0), (6, .v (.int .i64 x0))] 77 0, [.cells 26 [.v (.int .i64 c.frames), .v (.int .i64 c.major), .v (.int .i64 c.kernel), .v (.int .i64 c.room), .sl (.sl .sWindow) c.cores, .sl .sPartition c.partitions, .sl .sChannel c.channels], .cells 26 [.v (.int .i64 0), .v (.int .i64 0), .v (.int .i64 0), .v (.int .i64 0), .v (.slice none 0 0), .v (.slice none 0 0), .v (.slice none 0 0)], .cells 26 [.v (.int .i64 c.frames), .v (.int .i64 c.major), .v (.int .i64 c.kernel), .v (.int .i64 c.room), .own 3, .own 4, .sl .sChannel c.channels], .arr 66 (.sl .sWindow) x2, .arr 70 .sPartition x1], GL, 0, [], nodp⟩
noncomputable def bod9 {R : Type} (ret : R9 → R) (c : Config) (j : L9 → Option R) : L9 → Option R
  | .l0 x0 x1 => cond (decide ((x0 : Int) < c.cores.length))
    (cond (inR x0 c.cores.length) (
      cond (leB ((([] : List Window).length + (atLWindow c.cores x0.toNat : List Window).length) * 24) 140737488355328) (
        cond (inR x0 x1.length) (j (.l0 (IntKind.i64.wrap (x0 + 1)) (List.set x1 x0.toNat (([] : List Window) ++ atLWindow c.cores x0.toNat)))) none) none) none)
    (cond (decide ((c.partitions.length : Int) = c.partitions.length) && decide (0 ≤ c.partitions.length) && leB ((c.partitions.length : Int).toNat * 104) 140737488355328) (
      j (.l4 0 x1 (List.replicate (c.partitions.length : Int).toNat (⟨(ByteArray.mk #[]), 0, 0, 0, 0, 0, [], []⟩ : Partition)))) none)
  | .l4 x0 x2 x1 => cond (decide ((x0 : Int) < c.partitions.length))
    (cond (inR x0 c.partitions.length) (
      cond (leB ((([] : List Region).length + ((atPartition c.partitions x0.toNat).regions : List Region).length) * 32) 140737488355328) (
        cond (leB ((([] : List Port).length + ((atPartition c.partitions x0.toNat).ports : List Port).length) * 16) 140737488355328) (
          cond (inR x0 x1.length) (
            j (.l4 (IntKind.i64.wrap (x0 + 1)) x2 (List.set x1 x0.toNat (⟨(atPartition c.partitions x0.toNat).name, (atPartition c.partitions x0.toNat).entry, (atPartition c.partitions x0.toNat).action, (atPartition c.partitions x0.toNat).restarts, (atPartition c.partitions x0.toNat).inputs, (atPartition c.partitions x0.toNat).outputs, (([] : List Region) ++ (atPartition c.partitions x0.toNat).regions), (([] : List Port) ++ (atPartition c.partitions x0.toNat).ports)⟩ : Partition)))) none) none) none) none)
    (cond (leB ((([] : List Channel).length + (c.channels : List Channel).length) * 24) 140737488355328) (some (ret (⟨c.frames, c.major, c.kernel, c.room, x2, x1, (([] : List Channel) ++ c.channels)⟩ : Config))) none)
noncomputable def ent9 {R : Type} (ret : R9 → R) (c : Config) (j : L9 → Option R) : Option R :=
    cond (decide ((c.cores.length : Int) = c.cores.length) && decide (0 ≤ c.cores.length) && leB ((c.cores.length : Int).toNat * 24) 140737488355328) (j (.l0 0 (List.replicate (c.cores.length : Int).toNat []))) none
theorem head9_0 (J : Jmp) (c : Config) (x0 : Int) (x1 : List (List Window)) : stepAt Pr GA H9 J 0 0 (bodyOf Tryz.f9) (fin Pr H9 Tryz.f9) (st9 c (.l0 x0 x1)) = bod9 to9 c (fun l => J (num9 l) (st9 c l)) (.l0 x0 x1) := by kernel_rfl
theorem head9_4 (J : Jmp) (c : Config) (x0 : Int) (x2 : List (List Window)) (x1 : List Partition) : stepAt Pr GA H9 J 4 0 (bodyOf Tryz.f9) (fin Pr H9 Tryz.f9) (st9 c (.l4 x0 x2 x1)) = bod9 to9 c (fun l => J (num9 l) (st9 c l)) (.l4 x0 x2 x1) := by kernel_rfl
theorem run9 (J : Jmp) (c : Config) : runF Pr GA H9 J GL Tryz.f9 [(aCfg c)] [] = ent9 to9 c (fun l => J (num9 l) (st9 c l)) := by kernel_rfl
theorem shad9 (c : Config) : ∀ (n : Nat) (l : L9), runL Pr GA H9 Tryz.f9 n (num9 l) (st9 c l) = shad (bod9 to9 c) n l
  | 0, l => by cases l <;> rfl
  | n + 1, l => by
    have ih : (fun l => runL Pr GA H9 Tryz.f9 n (num9 l) (st9 c l)) = shad (bod9 to9 c) n := funext (shad9 c n)
    cases l with
    | l0 x0 x1 => exact (step_eq ..).trans ((head9_0 ..).trans (by rw [ih]; rfl))
    | l4 x0 x2 x1 => exact (step_eq ..).trans ((head9_4 ..).trans (by rw [ih]; rfl))
theorem nat9 (c : Config) (s : L9 → Option R9) (l : L9) : bod9 to9 c (fun l => (s l).map to9) l = (bod9 id c s l).map to9 := by
  cases l <;> simp only [bod9, map_cond, Option.map_some, Option.map_none, id]
theorem ct9 (c : Config) (l : L9) : CT fun j => bod9 id c j l := by
  cases l <;> (dsimp only [bod9]; repeat (first | exact CT.jump _ | exact CT.const _ | apply CT.cond))
noncomputable def spL9 (c : Config) : L9 → Option R9 := lfp (bod9 id c)
theorem spL9_eq (c : Config) (l : L9) : spL9 c l = bod9 id c (spL9 c) l := lfp_eq (ct9 c) l
noncomputable def spO9 (c : Config) : Option R9 := ent9 id c (spL9 c)
noncomputable def sp9 (c : Config) : R9 := (spO9 c).getD default
noncomputable def spc9 (c : Config) : Bool := (spO9 c).isSome
theorem oks9 (c : Config) (hc : spc9 c = true) : Okay Pr GL 9 [(aCfg c)] [] (to9 (sp9 c)) := by
  obtain ⟨n, h⟩ := auto_ok (nat9 c) (fun s => show ent9 to9 c (fun l => (s l).map to9) = (ent9 id c s).map to9 by simp only [ent9, map_cond, Option.map_some, Option.map_none, id]) (ct9 c) (show CT fun j => ent9 id c j by dsimp only [ent9]; repeat (first | exact CT.jump _ | exact CT.const _ | apply CT.cond)) (isSome_getD hc)
  exact okay_of_run (H := H9) GAok G0ok Tryz.func9 rfl (by kernel_rfl) n (by
    rw [run9]
    rw [show (fun l => runL Pr GA H9 Tryz.f9 n (num9 l) (st9 c l)) = shad (bod9 to9 c) n from funext (shad9 c n)]
    exact h)

/-! ### layout.region -/
abbrev R54 := Int × Bool
def to54 (r : R54) : Ans := ⟨.tup [.v (.int .i64 r.1), .v (.bool r.2)], []⟩
inductive L54 where
  | l0 (x0 : Int)
  | l4 (x1 : Int) (x2 : Int) (x3 : List Region) (x4 : Int) (x0 : Int)
def num54 : L54 → Nat
  | .l0 _ => 0
  | .l4 _ _ _ _ _ => 4
def H54 : Hint := ⟨fun n => [].any (Nat.beq n), hdAt [(0, ⟨fgt [1, 11, 12, 13, 29, 30, 31, 34, 35, 36, 37, 40, 41, 42, 43, 44, 45, 46] 51 0, []⟩), (4, ⟨fgt [1, 6, 11, 12, 13, 19, 20, 21] 51 0, []⟩)], [], G0, nodp⟩
noncomputable def st54 (c : Config) (frame : Int) : L54 → St
  | .l0 x0 => ⟨mkE [(1, .v (.int .i64 frame)), (11, .sl .sPartition c.partitions), (12, .v (.int .i64 c.partitions.length)), (13, .v (.int .i64 x0))] 51 0, [], GL, 0, [], nodp⟩
  | .l4 x1 x2 x3 x4 x0 => ⟨mkE [(1, .v (.int .i64 frame)), (6, .v (.int .i64 x1)), (11, .sl .sPartition c.partitions), (12, .v (.int .i64 c.partitions.length)), (13, .v (.int .i64 x2)), (19, .sl .sRegion x3), (20, .v (.int .i64 x4)), (21, .v (.int .i64 x0))] 51 0, [], GL, 0, [], nodp⟩
noncomputable def bod54 {R : Type} (ret : R54 → R) (c : Config) (frame : Int) (j : L54 → Option R) : L54 → Option R
  | .l0 x0 => cond (decide ((x0 : Int) < c.partitions.length))
    (cond (inR x0 c.partitions.length) (j (.l4 x0 x0 ((atPartition c.partitions x0.toNat).regions) (((atPartition c.partitions x0.toNat).regions).length) 0)) none)
    (some (ret (0, false)))
  | .l4 x1 x2 x3 x4 x0 => cond (decide ((x0 : Int) < x4))
    (cond (inR x0 x3.length) (
      cond (decide (((atRegion x3 x0.toNat).frame : Int) ≥ 0))
        (cond (decide (((atRegion x3 x0.toNat).frame : Int) ≤ 1024))
          (cond (decide ((frame : Int) ≥ (atRegion x3 x0.toNat).frame))
            (cond (decide ((frame : Int) < (IntKind.i64.wrap ((atRegion x3 x0.toNat).frame + (atRegion x3 x0.toNat).pages))))
              (some (ret (x1, true)))
              (j (.l4 x1 x2 x3 x4 (IntKind.i64.wrap (x0 + 1)))))
            (j (.l4 x1 x2 x3 x4 (IntKind.i64.wrap (x0 + 1)))))
          (j (.l4 x1 x2 x3 x4 (IntKind.i64.wrap (x0 + 1)))))
        (j (.l4 x1 x2 x3 x4 (IntKind.i64.wrap (x0 + 1))))) none)
    (j (.l0 (IntKind.i64.wrap (x2 + 1))))
noncomputable def ent54 {R : Type} (ret : R54 → R) (c : Config) (frame : Int) (j : L54 → Option R) : Option R :=
    j (.l0 0)
theorem head54_0 (J : Jmp) (c : Config) (frame : Int) (x0 : Int) : stepAt Pr GA H54 J 0 0 (bodyOf Tryz.f54) (fin Pr H54 Tryz.f54) (st54 c frame (.l0 x0)) = bod54 to54 c frame (fun l => J (num54 l) (st54 c frame l)) (.l0 x0) := by kernel_rfl
theorem head54_4 (J : Jmp) (c : Config) (frame : Int) (x1 : Int) (x2 : Int) (x3 : List Region) (x4 : Int) (x0 : Int) : stepAt Pr GA H54 J 4 0 (bodyOf Tryz.f54) (fin Pr H54 Tryz.f54) (st54 c frame (.l4 x1 x2 x3 x4 x0)) = bod54 to54 c frame (fun l => J (num54 l) (st54 c frame l)) (.l4 x1 x2 x3 x4 x0) := by kernel_rfl
theorem run54 (J : Jmp) (c : Config) (frame : Int) : runF Pr GA H54 J GL Tryz.f54 [(aCfg c), .v (.int .i64 frame)] [] = ent54 to54 c frame (fun l => J (num54 l) (st54 c frame l)) := by kernel_rfl
theorem shad54 (c : Config) (frame : Int) : ∀ (n : Nat) (l : L54), runL Pr GA H54 Tryz.f54 n (num54 l) (st54 c frame l) = shad (bod54 to54 c frame) n l
  | 0, l => by cases l <;> rfl
  | n + 1, l => by
    have ih : (fun l => runL Pr GA H54 Tryz.f54 n (num54 l) (st54 c frame l)) = shad (bod54 to54 c frame) n := funext (shad54 c frame n)
    cases l with
    | l0 x0 => exact (step_eq ..).trans ((head54_0 ..).trans (by rw [ih]; rfl))
    | l4 x1 x2 x3 x4 x0 => exact (step_eq ..).trans ((head54_4 ..).trans (by rw [ih]; rfl))
theorem nat54 (c : Config) (frame : Int) (s : L54 → Option R54) (l : L54) : bod54 to54 c frame (fun l => (s l).map to54) l = (bod54 id c frame s l).map to54 := by
  cases l <;> simp only [bod54, map_cond, Option.map_some, Option.map_none, id]
theorem ct54 (c : Config) (frame : Int) (l : L54) : CT fun j => bod54 id c frame j l := by
  cases l <;> (dsimp only [bod54]; repeat (first | exact CT.jump _ | exact CT.const _ | apply CT.cond))
noncomputable def spL54 (c : Config) (frame : Int) : L54 → Option R54 := lfp (bod54 id c frame)
theorem spL54_eq (c : Config) (frame : Int) (l : L54) : spL54 c frame l = bod54 id c frame (spL54 c frame) l := lfp_eq (ct54 c frame) l
noncomputable def spO54 (c : Config) (frame : Int) : Option R54 := ent54 id c frame (spL54 c frame)
noncomputable def sp54 (c : Config) (frame : Int) : R54 := (spO54 c frame).getD default
noncomputable def spc54 (c : Config) (frame : Int) : Bool := (spO54 c frame).isSome
theorem oks54 (c : Config) (frame : Int) (hc : spc54 c frame = true) : Okay Pr GL 54 [(aCfg c), .v (.int .i64 frame)] [] (to54 (sp54 c frame)) := by
  obtain ⟨n, h⟩ := auto_ok (nat54 c frame) (fun s => show ent54 to54 c frame (fun l => (s l).map to54) = (ent54 id c frame s).map to54 by simp only [ent54, map_cond, Option.map_some, Option.map_none, id]) (ct54 c frame) (show CT fun j => ent54 id c frame j by dsimp only [ent54]; repeat (first | exact CT.jump _ | exact CT.const _ | apply CT.cond)) (isSome_getD hc)
  exact okay_of_run (H := H54) GAok G0ok Tryz.func54 rfl (by kernel_rfl) n (by
    rw [run54]
    rw [show (fun l => runL Pr GA H54 Tryz.f54 n (num54 l) (st54 c frame l)) = shad (bod54 to54 c frame) n from funext (shad54 c frame n)]
    exact h)

/-! ### ref12.IsName -/
abbrev R147 := Bool
def to147 (r : R147) : Ans := ⟨.v (.bool r), []⟩
inductive L147 where
  | l0 (x0 : Int)
def num147 : L147 → Nat
  | .l0 _ => 0
def H147 : Hint := ⟨fun n => [].any (Nat.beq n), hdAt [(0, ⟨fgt [0, 3] 49 0, []⟩)], [], G0, nodp⟩
noncomputable def st147 (s_0 : ByteArray) : L147 → St
  | .l0 x0 => ⟨mkE [(0, .v (.string s_0)), (3, .v (.int .i64 x0))] 49 0, [], GL, 0, [], nodp⟩
noncomputable def bod147 {R : Type} (ret : R147 → R) (s_0 : ByteArray) (j : L147 → Option R) : L147 → Option R
  | .l0 x0 => cond (decide ((x0 : Int) < s_0.size))
    (cond (inR x0 s_0.size) (
      cond (decide (((byteAt s_0 x0.toNat) : Int) < 97))
        (cond (decide (((byteAt s_0 x0.toNat) : Int) < 48))
          (cond (!(((byteAt s_0 x0.toNat) : Int) == 45))
            (some (ret false))
            (j (.l0 (IntKind.i64.wrap (x0 + 1)))))
          (cond (decide (((byteAt s_0 x0.toNat) : Int) > 57))
            (cond (!(((byteAt s_0 x0.toNat) : Int) == 45))
              (some (ret false))
              (j (.l0 (IntKind.i64.wrap (x0 + 1)))))
            (j (.l0 (IntKind.i64.wrap (x0 + 1))))))
        (cond (decide (((byteAt s_0 x0.toNat) : Int) > 122))
          (cond (decide (((byteAt s_0 x0.toNat) : Int) < 48))
            (cond (!(((byteAt s_0 x0.toNat) : Int) == 45))
              (some (ret false))
              (j (.l0 (IntKind.i64.wrap (x0 + 1)))))
            (cond (decide (((byteAt s_0 x0.toNat) : Int) > 57))
              (cond (!(((byteAt s_0 x0.toNat) : Int) == 45))
                (some (ret false))
                (j (.l0 (IntKind.i64.wrap (x0 + 1)))))
              (j (.l0 (IntKind.i64.wrap (x0 + 1))))))
          (j (.l0 (IntKind.i64.wrap (x0 + 1)))))) none)
    (some (ret true))
noncomputable def ent147 {R : Type} (ret : R147 → R) (s_0 : ByteArray) (j : L147 → Option R) : Option R :=
    cond (s_0.toList == (ByteArray.mk #[]).toList)
    (some (ret false))
    (cond (decide ((s_0.size : Int) > 16))
      (some (ret false))
      (cond (inR 0 s_0.size) (
        cond (decide (((byteAt s_0 0) : Int) < 97))
          (some (ret false))
          (cond (inR 0 s_0.size) (cond (decide (((byteAt s_0 0) : Int) > 122))
              (some (ret false))
              (j (.l0 0))) none)) none))
theorem head147_0 (J : Jmp) (s_0 : ByteArray) (x0 : Int) : stepAt Pr GA H147 J 0 0 (bodyOf Tryz.f147) (fin Pr H147 Tryz.f147) (st147 s_0 (.l0 x0)) = bod147 to147 s_0 (fun l => J (num147 l) (st147 s_0 l)) (.l0 x0) := by kernel_rfl
theorem run147 (J : Jmp) (s_0 : ByteArray) : runF Pr GA H147 J GL Tryz.f147 [.v (.string s_0)] [] = ent147 to147 s_0 (fun l => J (num147 l) (st147 s_0 l)) := by kernel_rfl
theorem shad147 (s_0 : ByteArray) : ∀ (n : Nat) (l : L147), runL Pr GA H147 Tryz.f147 n (num147 l) (st147 s_0 l) = shad (bod147 to147 s_0) n l
  | 0, l => by cases l <;> rfl
  | n + 1, l => by
    have ih : (fun l => runL Pr GA H147 Tryz.f147 n (num147 l) (st147 s_0 l)) = shad (bod147 to147 s_0) n := funext (shad147 s_0 n)
    cases l with
    | l0 x0 => exact (step_eq ..).trans ((head147_0 ..).trans (by rw [ih]; rfl))
theorem nat147 (s_0 : ByteArray) (s : L147 → Option R147) (l : L147) : bod147 to147 s_0 (fun l => (s l).map to147) l = (bod147 id s_0 s l).map to147 := by
  cases l <;> simp only [bod147, map_cond, Option.map_some, Option.map_none, id]
theorem ct147 (s_0 : ByteArray) (l : L147) : CT fun j => bod147 id s_0 j l := by
  cases l <;> (dsimp only [bod147]; repeat (first | exact CT.jump _ | exact CT.const _ | apply CT.cond))
noncomputable def spL147 (s_0 : ByteArray) : L147 → Option R147 := lfp (bod147 id s_0)
theorem spL147_eq (s_0 : ByteArray) (l : L147) : spL147 s_0 l = bod147 id s_0 (spL147 s_0) l := lfp_eq (ct147 s_0) l
noncomputable def spO147 (s_0 : ByteArray) : Option R147 := ent147 id s_0 (spL147 s_0)
noncomputable def sp147 (s_0 : ByteArray) : R147 := (spO147 s_0).getD default
noncomputable def spc147 (s_0 : ByteArray) : Bool := (spO147 s_0).isSome
theorem oks147 (s_0 : ByteArray) (hc : spc147 s_0 = true) : Okay Pr GL 147 [.v (.string s_0)] [] (to147 (sp147 s_0)) := by
  obtain ⟨n, h⟩ := auto_ok (nat147 s_0) (fun s => show ent147 to147 s_0 (fun l => (s l).map to147) = (ent147 id s_0 s).map to147 by simp only [ent147, map_cond, Option.map_some, Option.map_none, id]) (ct147 s_0) (show CT fun j => ent147 id s_0 j by dsimp only [ent147]; repeat (first | exact CT.jump _ | exact CT.const _ | apply CT.cond)) (isSome_getD hc)
  exact okay_of_run (H := H147) GAok G0ok Tryz.func147 rfl (by kernel_rfl) n (by
    rw [run147]
    rw [show (fun l => runL Pr GA H147 Tryz.f147 n (num147 l) (st147 s_0 l)) = shad (bod147 to147 s_0) n from funext (shad147 s_0 n)]
    exact h)

/-! ### ref15.mayPartition -/
abbrev R90 := Bool
def to90 (r : R90) : Ans := ⟨.v (.bool r), []⟩
inductive L90 where
  | l0 (x0 : Int)
  | l4 (x0 : Int)
def num90 : L90 → Nat
  | .l0 _ => 0
  | .l4 _ => 4
def H90 : Hint := ⟨fun n => [].any (Nat.beq n), hdAt [(0, ⟨fgt [1, 2, 20, 21, 65, 66, 67, 68, 69, 70, 71, 72] 75 0, []⟩), (4, ⟨fgt [1, 2, 53, 54] 75 0, []⟩)], [], G0, nodp⟩
noncomputable def st90 (p : Partition) (channels : Int) : L90 → St
  | .l0 x0 => ⟨mkE [(1, .v (.int .i64 channels)), (2, .ref 0 0), (20, .v (.int .i64 p.regions.length)), (21, .v (.int .i64 x0))] 75 0, [.cells 70 [.v (.string p.name), .v (.int .i64 p.entry), .v (.int .i64 p.action), .v (.int .i64 p.restarts), .v (.int .i64 p.inputs), .v (.int .i64 p.outputs), .sl .sRegion p.regions, .sl .sPort p.ports]], GL, 0, [], nodp⟩
  | .l4 x0 => ⟨mkE [(1, .v (.int .i64 channels)), (2, .ref 0 0), (53, .v (.int .i64 p.ports.length)), (54, .v (.int .i64 x0))] 75 0, [.cells 70 [.v (.string p.name), .v (.int .i64 p.entry), .v (.int .i64 p.action), .v (.int .i64 p.restarts), .v (.int .i64 p.inputs), .v (.int .i64 p.outputs), .sl .sRegion p.regions, .sl .sPort p.ports]], GL, 0, [], nodp⟩
noncomputable def bod90 {R : Type} (ret : R90 → R) (p : Partition) (channels : Int) (j : L90 → Option R) : L90 → Option R
  | .l0 x0 => cond (decide ((x0 : Int) < p.regions.length))
    (cond (inR x0 p.regions.length) (
      cond (decide (((atRegion p.regions x0.toNat).page : Int) < 0))
        (some (ret false))
        (cond (decide (((atRegion p.regions x0.toNat).page : Int) > 256))
          (some (ret false))
          (cond (decide (((atRegion p.regions x0.toNat).pages : Int) < 1))
            (some (ret false))
            (cond (decide (((atRegion p.regions x0.toNat).pages : Int) > (IntKind.i64.wrap (256 - (atRegion p.regions x0.toNat).page))))
              (some (ret false))
              (j (.l0 (IntKind.i64.wrap (x0 + 1)))))))) none)
    (j (.l4 0))
  | .l4 x0 => cond (decide ((x0 : Int) < p.ports.length))
    (cond (inR x0 p.ports.length) (
      cond (decide (((atPort p.ports x0.toNat).channel : Int) < 0))
        (some (ret false))
        (cond (inR x0 p.ports.length) (
          cond (decide (((atPort p.ports x0.toNat).channel : Int) ≥ channels))
            (some (ret false))
            (j (.l4 (IntKind.i64.wrap (x0 + 1))))) none)) none)
    (some (ret true))
noncomputable def ent90 {R : Type} (ret : R90 → R) (p : Partition) (channels : Int) (j : L90 → Option R) : Option R :=
    cond (decide ((p.regions.length : Int) > 8))
    (some (ret false))
    (cond (decide ((p.ports.length : Int) > 8))
      (some (ret false))
      (j (.l0 0)))
theorem head90_0 (J : Jmp) (p : Partition) (channels : Int) (x0 : Int) : stepAt Pr GA H90 J 0 0 (bodyOf Tryz.f90) (fin Pr H90 Tryz.f90) (st90 p channels (.l0 x0)) = bod90 to90 p channels (fun l => J (num90 l) (st90 p channels l)) (.l0 x0) := by kernel_rfl
theorem head90_4 (J : Jmp) (p : Partition) (channels : Int) (x0 : Int) : stepAt Pr GA H90 J 4 0 (bodyOf Tryz.f90) (fin Pr H90 Tryz.f90) (st90 p channels (.l4 x0)) = bod90 to90 p channels (fun l => J (num90 l) (st90 p channels l)) (.l4 x0) := by kernel_rfl
theorem run90 (J : Jmp) (p : Partition) (channels : Int) : runF Pr GA H90 J GL Tryz.f90 [.agg [.v (.string p.name), .v (.int .i64 p.entry), .v (.int .i64 p.action), .v (.int .i64 p.restarts), .v (.int .i64 p.inputs), .v (.int .i64 p.outputs), .sl .sRegion p.regions, .sl .sPort p.ports], .v (.int .i64 channels)] [] = ent90 to90 p channels (fun l => J (num90 l) (st90 p channels l)) := by kernel_rfl
theorem shad90 (p : Partition) (channels : Int) : ∀ (n : Nat) (l : L90), runL Pr GA H90 Tryz.f90 n (num90 l) (st90 p channels l) = shad (bod90 to90 p channels) n l
  | 0, l => by cases l <;> rfl
  | n + 1, l => by
    have ih : (fun l => runL Pr GA H90 Tryz.f90 n (num90 l) (st90 p channels l)) = shad (bod90 to90 p channels) n := funext (shad90 p channels n)
    cases l with
    | l0 x0 => exact (step_eq ..).trans ((head90_0 ..).trans (by rw [ih]; rfl))
    | l4 x0 => exact (step_eq ..).trans ((head90_4 ..).trans (by rw [ih]; rfl))
theorem nat90 (p : Partition) (channels : Int) (s : L90 → Option R90) (l : L90) : bod90 to90 p channels (fun l => (s l).map to90) l = (bod90 id p channels s l).map to90 := by
  cases l <;> simp only [bod90, map_cond, Option.map_some, Option.map_none, id]
theorem ct90 (p : Partition) (channels : Int) (l : L90) : CT fun j => bod90 id p channels j l := by
  cases l <;> (dsimp only [bod90]; repeat (first | exact CT.jump _ | exact CT.const _ | apply CT.cond))
noncomputable def spL90 (p : Partition) (channels : Int) : L90 → Option R90 := lfp (bod90 id p channels)
theorem spL90_eq (p : Partition) (channels : Int) (l : L90) : spL90 p channels l = bod90 id p channels (spL90 p channels) l := lfp_eq (ct90 p channels) l
noncomputable def spO90 (p : Partition) (channels : Int) : Option R90 := ent90 id p channels (spL90 p channels)
noncomputable def sp90 (p : Partition) (channels : Int) : R90 := (spO90 p channels).getD default
noncomputable def spc90 (p : Partition) (channels : Int) : Bool := (spO90 p channels).isSome
theorem oks90 (p : Partition) (channels : Int) (hc : spc90 p channels = true) : Okay Pr GL 90 [.agg [.v (.string p.name), .v (.int .i64 p.entry), .v (.int .i64 p.action), .v (.int .i64 p.restarts), .v (.int .i64 p.inputs), .v (.int .i64 p.outputs), .sl .sRegion p.regions, .sl .sPort p.ports], .v (.int .i64 channels)] [] (to90 (sp90 p channels)) := by
  obtain ⟨n, h⟩ := auto_ok (nat90 p channels) (fun s => show ent90 to90 p channels (fun l => (s l).map to90) = (ent90 id p channels s).map to90 by simp only [ent90, map_cond, Option.map_some, Option.map_none, id]) (ct90 p channels) (show CT fun j => ent90 id p channels j by dsimp only [ent90]; repeat (first | exact CT.jump _ | exact CT.const _ | apply CT.cond)) (isSome_getD hc)
  exact okay_of_run (H := H90) GAok G0ok Tryz.func90 rfl (by kernel_rfl) n (by
    rw [run90]
    rw [show (fun l => runL Pr GA H90 Tryz.f90 n (num90 l) (st90 p channels l)) = shad (bod90 to90 p channels) n from funext (shad90 p channels n)]
    exact h)

/-! ### ref15.ends -/
abbrev R92 := Int
def to92 (r : R92) : Ans := ⟨.v (.int .i64 r), []⟩
inductive L92 where
  | l0 (x0 : Int) (x1 : Int)
  | l15 (x0 : Int) (x1 : Int)
def num92 : L92 → Nat
  | .l0 _ _ => 0
  | .l15 _ _ => 15
def H92 : Hint := ⟨fun n => [7].any (Nat.beq n), hdAt [(0, ⟨fgt [1, 2, 3, 7, 11, 12, 24, 25, 26, 27, 28, 29, 30, 31] 37 0, []⟩), (15, ⟨fgt [1, 2, 3, 7, 11, 12] 37 0, []⟩)], [], G0, nodp⟩
noncomputable def st92 (p : Partition) (channel : Int) (source : Bool) : L92 → St
  | .l0 x0 x1 => ⟨mkE [(1, .v (.int .i64 channel)), (2, .v (.bool source)), (3, .ref 0 0), (7, .v (.int .i64 x0)), (11, .v (.int .i64 p.ports.length)), (12, .v (.int .i64 x1))] 37 0, [.cells 70 [.v (.string p.name), .v (.int .i64 p.entry), .v (.int .i64 p.action), .v (.int .i64 p.restarts), .v (.int .i64 p.inputs), .v (.int .i64 p.outputs), .sl .sRegion p.regions, .sl .sPort p.ports]], GL, 0, [], nodp⟩
  | .l15 x0 x1 => ⟨mkE [(1, .v (.int .i64 channel)), (2, .v (.bool source)), (3, .ref 0 0), (7, .v (.int .i64 x0)), (11, .v (.int .i64 p.ports.length)), (12, .v (.int .i64 x1))] 37 0, [.cells 70 [.v (.string p.name), .v (.int .i64 p.entry), .v (.int .i64 p.action), .v (.int .i64 p.restarts), .v (.int .i64 p.inputs), .v (.int .i64 p.outputs), .sl .sRegion p.regions, .sl .sPort p.ports]], GL, 0, [], nodp⟩
noncomputable def bod92 {R : Type} (ret : R92 → R) (p : Partition) (channel : Int) (source : Bool) (j : L92 → Option R) : L92 → Option R
  | .l0 x0 x1 => cond (decide ((x1 : Int) < p.ports.length))
    (cond (inR x1 p.ports.length) (
      cond (((atPort p.ports x1.toNat).channel : Int) == channel)
        (cond (inR x1 p.ports.length) (
          cond (((atPort p.ports x1.toNat).source) == source)
            (j (.l15 (IntKind.i64.wrap (x0 + 1)) x1))
            (j (.l15 x0 x1))) none)
        (j (.l15 x0 x1))) none)
    (some (ret x0))
  | .l15 x0 x1 => j (.l0 x0 (IntKind.i64.wrap (x1 + 1)))
noncomputable def ent92 {R : Type} (ret : R92 → R) (p : Partition) (channel : Int) (source : Bool) (j : L92 → Option R) : Option R :=
    j (.l0 0 0)
theorem head92_0 (J : Jmp) (p : Partition) (channel : Int) (source : Bool) (x0 : Int) (x1 : Int) : stepAt Pr GA H92 J 0 0 (bodyOf Tryz.f92) (fin Pr H92 Tryz.f92) (st92 p channel source (.l0 x0 x1)) = bod92 to92 p channel source (fun l => J (num92 l) (st92 p channel source l)) (.l0 x0 x1) := by kernel_rfl
theorem head92_15 (J : Jmp) (p : Partition) (channel : Int) (source : Bool) (x0 : Int) (x1 : Int) : stepAt Pr GA H92 J 15 0 (bodyOf Tryz.f92) (fin Pr H92 Tryz.f92) (st92 p channel source (.l15 x0 x1)) = bod92 to92 p channel source (fun l => J (num92 l) (st92 p channel source l)) (.l15 x0 x1) := by kernel_rfl
theorem run92 (J : Jmp) (p : Partition) (channel : Int) (source : Bool) : runF Pr GA H92 J GL Tryz.f92 [.agg [.v (.string p.name), .v (.int .i64 p.entry), .v (.int .i64 p.action), .v (.int .i64 p.restarts), .v (.int .i64 p.inputs), .v (.int .i64 p.outputs), .sl .sRegion p.regions, .sl .sPort p.ports], .v (.int .i64 channel), .v (.bool source)] [] = ent92 to92 p channel source (fun l => J (num92 l) (st92 p channel source l)) := by kernel_rfl
theorem shad92 (p : Partition) (channel : Int) (source : Bool) : ∀ (n : Nat) (l : L92), runL Pr GA H92 Tryz.f92 n (num92 l) (st92 p channel source l) = shad (bod92 to92 p channel source) n l
  | 0, l => by cases l <;> rfl
  | n + 1, l => by
    have ih : (fun l => runL Pr GA H92 Tryz.f92 n (num92 l) (st92 p channel source l)) = shad (bod92 to92 p channel source) n := funext (shad92 p channel source n)
    cases l with
    | l0 x0 x1 => exact (step_eq ..).trans ((head92_0 ..).trans (by rw [ih]; rfl))
    | l15 x0 x1 => exact (step_eq ..).trans ((head92_15 ..).trans (by rw [ih]; rfl))
theorem nat92 (p : Partition) (channel : Int) (source : Bool) (s : L92 → Option R92) (l : L92) : bod92 to92 p channel source (fun l => (s l).map to92) l = (bod92 id p channel source s l).map to92 := by
  cases l <;> simp only [bod92, map_cond, Option.map_some, Option.map_none, id]
theorem ct92 (p : Partition) (channel : Int) (source : Bool) (l : L92) : CT fun j => bod92 id p channel source j l := by
  cases l <;> (dsimp only [bod92]; repeat (first | exact CT.jump _ | exact CT.const _ | apply CT.cond))
noncomputable def spL92 (p : Partition) (channel : Int) (source : Bool) : L92 → Option R92 := lfp (bod92 id p channel source)
theorem spL92_eq (p : Partition) (channel : Int) (source : Bool) (l : L92) : spL92 p channel source l = bod92 id p channel source (spL92 p channel source) l := lfp_eq (ct92 p channel source) l
noncomputable def spO92 (p : Partition) (channel : Int) (source : Bool) : Option R92 := ent92 id p channel source (spL92 p channel source)
noncomputable def sp92 (p : Partition) (channel : Int) (source : Bool) : R92 := (spO92 p channel source).getD default
noncomputable def spc92 (p : Partition) (channel : Int) (source : Bool) : Bool := (spO92 p channel source).isSome
theorem oks92 (p : Partition) (channel : Int) (source : Bool) (hc : spc92 p channel source = true) : Okay Pr GL 92 [.agg [.v (.string p.name), .v (.int .i64 p.entry), .v (.int .i64 p.action), .v (.int .i64 p.restarts), .v (.int .i64 p.inputs), .v (.int .i64 p.outputs), .sl .sRegion p.regions, .sl .sPort p.ports], .v (.int .i64 channel), .v (.bool source)] [] (to92 (sp92 p channel source)) := by
  obtain ⟨n, h⟩ := auto_ok (nat92 p channel source) (fun s => show ent92 to92 p channel source (fun l => (s l).map to92) = (ent92 id p channel source s).map to92 by simp only [ent92, map_cond, Option.map_some, Option.map_none, id]) (ct92 p channel source) (show CT fun j => ent92 id p channel source j by dsimp only [ent92]; repeat (first | exact CT.jump _ | exact CT.const _ | apply CT.cond)) (isSome_getD hc)
  exact okay_of_run (H := H92) GAok G0ok Tryz.func92 rfl (by kernel_rfl) n (by
    rw [run92]
    rw [show (fun l => runL Pr GA H92 Tryz.f92 n (num92 l) (st92 p channel source l)) = shad (bod92 to92 p channel source) n from funext (shad92 p channel source n)]
    exact h)

/-! ### ref15.touches -/
abbrev R94 := Bool
def to94 (r : R94) : Ans := ⟨.v (.bool r), []⟩
inductive L94 where
  | l0 (x0 : Int)
def num94 : L94 → Nat
  | .l0 _ => 0
def H94 : Hint := ⟨fun n => [].any (Nat.beq n), hdAt [(0, ⟨fgt [1, 2, 10, 11] 40 0, []⟩)], [], G0, nodp⟩
noncomputable def st94 (p : Partition) (t : Int) : L94 → St
  | .l0 x0 => ⟨mkE [(1, .v (.int .i64 t)), (2, .ref 0 0), (10, .v (.int .i64 p.regions.length)), (11, .v (.int .i64 x0))] 40 0, [.cells 70 [.v (.string p.name), .v (.int .i64 p.entry), .v (.int .i64 p.action), .v (.int .i64 p.restarts), .v (.int .i64 p.inputs), .v (.int .i64 p.outputs), .sl .sRegion p.regions, .sl .sPort p.ports]], GL, 0, [], nodp⟩
noncomputable def bod94 {R : Type} (ret : R94 → R) (p : Partition) (t : Int) (j : L94 → Option R) : L94 → Option R
  | .l0 x0 => cond (decide ((x0 : Int) < p.regions.length))
    (cond (inR x0 p.regions.length) (
      cond (inR x0 p.regions.length) (
        cond (decide (((bop .quo .i64 ((atRegion p.regions x0.toNat).page) 16) : Int) ≤ t))
          (cond (decide ((t : Int) ≤ (bop .quo .i64 (IntKind.i64.wrap ((IntKind.i64.wrap ((atRegion p.regions x0.toNat).page + (atRegion p.regions x0.toNat).pages)) - 1)) 16)))
            (some (ret true))
            (j (.l0 (IntKind.i64.wrap (x0 + 1)))))
          (j (.l0 (IntKind.i64.wrap (x0 + 1))))) none) none)
    (some (ret false))
noncomputable def ent94 {R : Type} (ret : R94 → R) (p : Partition) (t : Int) (j : L94 → Option R) : Option R :=
    j (.l0 0)
theorem head94_0 (J : Jmp) (p : Partition) (t : Int) (x0 : Int) : stepAt Pr GA H94 J 0 0 (bodyOf Tryz.f94) (fin Pr H94 Tryz.f94) (st94 p t (.l0 x0)) = bod94 to94 p t (fun l => J (num94 l) (st94 p t l)) (.l0 x0) := by kernel_rfl
theorem run94 (J : Jmp) (p : Partition) (t : Int) : runF Pr GA H94 J GL Tryz.f94 [.agg [.v (.string p.name), .v (.int .i64 p.entry), .v (.int .i64 p.action), .v (.int .i64 p.restarts), .v (.int .i64 p.inputs), .v (.int .i64 p.outputs), .sl .sRegion p.regions, .sl .sPort p.ports], .v (.int .i64 t)] [] = ent94 to94 p t (fun l => J (num94 l) (st94 p t l)) := by kernel_rfl
theorem shad94 (p : Partition) (t : Int) : ∀ (n : Nat) (l : L94), runL Pr GA H94 Tryz.f94 n (num94 l) (st94 p t l) = shad (bod94 to94 p t) n l
  | 0, l => by cases l <;> rfl
  | n + 1, l => by
    have ih : (fun l => runL Pr GA H94 Tryz.f94 n (num94 l) (st94 p t l)) = shad (bod94 to94 p t) n := funext (shad94 p t n)
    cases l with
    | l0 x0 => exact (step_eq ..).trans ((head94_0 ..).trans (by rw [ih]; rfl))
theorem nat94 (p : Partition) (t : Int) (s : L94 → Option R94) (l : L94) : bod94 to94 p t (fun l => (s l).map to94) l = (bod94 id p t s l).map to94 := by
  cases l <;> simp only [bod94, map_cond, Option.map_some, Option.map_none, id]
theorem ct94 (p : Partition) (t : Int) (l : L94) : CT fun j => bod94 id p t j l := by
  cases l <;> (dsimp only [bod94]; repeat (first | exact CT.jump _ | exact CT.const _ | apply CT.cond))
noncomputable def spL94 (p : Partition) (t : Int) : L94 → Option R94 := lfp (bod94 id p t)
theorem spL94_eq (p : Partition) (t : Int) (l : L94) : spL94 p t l = bod94 id p t (spL94 p t) l := lfp_eq (ct94 p t) l
noncomputable def spO94 (p : Partition) (t : Int) : Option R94 := ent94 id p t (spL94 p t)
noncomputable def sp94 (p : Partition) (t : Int) : R94 := (spO94 p t).getD default
noncomputable def spc94 (p : Partition) (t : Int) : Bool := (spO94 p t).isSome
theorem oks94 (p : Partition) (t : Int) (hc : spc94 p t = true) : Okay Pr GL 94 [.agg [.v (.string p.name), .v (.int .i64 p.entry), .v (.int .i64 p.action), .v (.int .i64 p.restarts), .v (.int .i64 p.inputs), .v (.int .i64 p.outputs), .sl .sRegion p.regions, .sl .sPort p.ports], .v (.int .i64 t)] [] (to94 (sp94 p t)) := by
  obtain ⟨n, h⟩ := auto_ok (nat94 p t) (fun s => show ent94 to94 p t (fun l => (s l).map to94) = (ent94 id p t s).map to94 by simp only [ent94, map_cond, Option.map_some, Option.map_none, id]) (ct94 p t) (show CT fun j => ent94 id p t j by dsimp only [ent94]; repeat (first | exact CT.jump _ | exact CT.const _ | apply CT.cond)) (isSome_getD hc)
  exact okay_of_run (H := H94) GAok G0ok Tryz.func94 rfl (by kernel_rfl) n (by
    rw [run94]
    rw [show (fun l => runL Pr GA H94 Tryz.f94 n (num94 l) (st94 p t l)) = shad (bod94 to94 p t) n from funext (shad94 p t n)]
    exact h)

/-! ### layout.ends -/
abbrev R70 := (List LayoutEnd) × (List LayoutEnd)
def to70 (r : R70) : Ans := ⟨.tup [.own 0, .own 1], [.arr 157 .sLayoutEnd r.1, .arr 157 .sLayoutEnd r.2]⟩
inductive L70 where
  | l0 (x0 : Int) (x1 : List LayoutEnd) (x2 : List LayoutEnd)
  | l4 (x0 : Int) (x1 : Int) (x2 : List Port) (x3 : Int) (x4 : Int) (x5 : List LayoutEnd) (x6 : List LayoutEnd)
  | l23 (x2 : Int) (x3 : Int) (x4 : List Port) (x5 : Int) (x6 : Int) (x0 : List LayoutEnd) (x1 : List LayoutEnd)
def num70 : L70 → Nat
  | .l0 _ _ _ => 0
  | .l4 _ _ _ _ _ _ _ => 4
  | .l23 _ _ _ _ _ _ _ => 23
def H70 : Hint := ⟨fun n => [11].any (Nat.beq n), hdAt [(0, ⟨fgt [1, 4, 5, 11, 12, 13] 50 0, [(.slot 4, .own 157 .sLayoutEnd), (.slot 5, .own 157 .sLayoutEnd)]⟩), (4, ⟨fgt [1, 4, 5, 6, 11, 12, 13, 19, 20, 21] 50 0, [(.slot 4, .own 157 .sLayoutEnd), (.slot 5, .own 157 .sLayoutEnd)]⟩), (23, ⟨fgt [1, 4, 5, 6, 11, 12, 13, 19, 20, 21] 50 0, [(.slot 4, .own 157 .sLayoutEnd), (.slot 5, .own 157 .sLayoutEnd)]⟩)], [], G0, nodp⟩
noncomputable def st70 (c : Config) (channel : Int) : L70 → St
  | .l0 x0 x1 x2 => ⟨mkE [(1, .v (.int .i64 channel)), (4, .own 0), (5, .own 1), (11, .sl .sPartition c.partitions), (12, .v (.int .i64 c.partitions.length)), (13, .v (.int .i64 x0))] 50 0, [.arr 157 .sLayoutEnd x1, .arr 157 .sLayoutEnd x2], GL, 0, [], nodp⟩
  | .l4 x0 x1 x2 x3 x4 x5 x6 => ⟨mkE [(1, .v (.int .i64 channel)), (4, .own 0), (5, .own 1), (6, .v (.int .i64 x0)), (11, .sl .sPartition c.partitions), (12, .v (.int .i64 c.partitions.length)), (13, .v (.int .i64 x1)), (19, .sl .sPort x2), (20, .v (.int .i64 x3)), (21, .v (.int .i64 x4))] 50 0, [.arr 157 .sLayoutEnd x5, .arr 157 .sLayoutEnd x6], GL, 0, [], nodp⟩
  | .l23 x2 x3 x4 x5 x6 x0 x1 => ⟨mkE [(1, .v (.int .i64 channel)), (4, .own 0), (5, .own 1), (6, .v (.int .i64 x2)), (11, .sl .sPartition c.partitions), (12, .v (.int .i64 c.partitions.length)), (13, .v (.int .i64 x3)), (19, .sl .sPort x4), (20, .v (.int .i64 x5)), (21, .v (.int .i64 x6))] 50 0, [.arr 157 .sLayoutEnd x0, .arr 157 .sLayoutEnd x1], GL, 0, [], nodp⟩
noncomputable def bod70 {R : Type} (ret : R70 → R) (c : Config) (channel : Int) (j : L70 → Option R) : L70 → Option R
  | .l0 x0 x1 x2 => cond (decide ((x0 : Int) < c.partitions.length))
    (cond (inR x0 c.partitions.length) (j (.l4 x0 x0 ((atPartition c.partitions x0.toNat).ports) (((atPartition c.partitions x0.toNat).ports).length) 0 x1 x2)) none)
    (some (ret (x1, x2)))
  | .l4 x0 x1 x2 x3 x4 x5 x6 => cond (decide ((x4 : Int) < x3))
    (cond (inR x4 x2.length) (
      cond (!(((atPort x2 x4.toNat).channel : Int) == channel))
        (j (.l23 x0 x1 x2 x3 x4 x5 x6))
        (cond ((atPort x2 x4.toNat).source)
          (cond (leB (((x5 : List LayoutEnd).length + ([(⟨x0, x4⟩ : LayoutEnd)] : List LayoutEnd).length) * 16) 140737488355328) (j (.l23 x0 x1 x2 x3 x4 ((x5 : List LayoutEnd) ++ [(⟨x0, x4⟩ : LayoutEnd)]) x6)) none)
          (cond (leB (((x6 : List LayoutEnd).length + ([(⟨x0, x4⟩ : LayoutEnd)] : List LayoutEnd).length) * 16) 140737488355328) (j (.l23 x0 x1 x2 x3 x4 x5 ((x6 : List LayoutEnd) ++ [(⟨x0, x4⟩ : LayoutEnd)]))) none))) none)
    (j (.l0 (IntKind.i64.wrap (x1 + 1)) x5 x6))
  | .l23 x2 x3 x4 x5 x6 x0 x1 => j (.l4 x2 x3 x4 x5 (IntKind.i64.wrap (x6 + 1)) x0 x1)
noncomputable def ent70 {R : Type} (ret : R70 → R) (c : Config) (channel : Int) (j : L70 → Option R) : Option R :=
    j (.l0 0 [] [])
theorem head70_0 (J : Jmp) (c : Config) (channel : Int) (x0 : Int) (x1 : List LayoutEnd) (x2 : List LayoutEnd) : stepAt Pr GA H70 J 0 0 (bodyOf Tryz.f70) (fin Pr H70 Tryz.f70) (st70 c channel (.l0 x0 x1 x2)) = bod70 to70 c channel (fun l => J (num70 l) (st70 c channel l)) (.l0 x0 x1 x2) := by kernel_rfl
theorem head70_4 (J : Jmp) (c : Config) (channel : Int) (x0 : Int) (x1 : Int) (x2 : List Port) (x3 : Int) (x4 : Int) (x5 : List LayoutEnd) (x6 : List LayoutEnd) : stepAt Pr GA H70 J 4 0 (bodyOf Tryz.f70) (fin Pr H70 Tryz.f70) (st70 c channel (.l4 x0 x1 x2 x3 x4 x5 x6)) = bod70 to70 c channel (fun l => J (num70 l) (st70 c channel l)) (.l4 x0 x1 x2 x3 x4 x5 x6) := by kernel_rfl
theorem head70_23 (J : Jmp) (c : Config) (channel : Int) (x2 : Int) (x3 : Int) (x4 : List Port) (x5 : Int) (x6 : Int) (x0 : List LayoutEnd) (x1 : List LayoutEnd) : stepAt Pr GA H70 J 23 0 (bodyOf Tryz.f70) (fin Pr H70 Tryz.f70) (st70 c channel (.l23 x2 x3 x4 x5 x6 x0 x1)) = bod70 to70 c channel (fun l => J (num70 l) (st70 c channel l)) (.l23 x2 x3 x4 x5 x6 x0 x1) := by kernel_rfl
theorem run70 (J : Jmp) (c : Config) (channel : Int) : runF Pr GA H70 J GL Tryz.f70 [(aCfg c), .v (.int .i64 channel)] [] = ent70 to70 c channel (fun l => J (num70 l) (st70 c channel l)) := by kernel_rfl
theorem shad70 (c : Config) (channel : Int) : ∀ (n : Nat) (l : L70), runL Pr GA H70 Tryz.f70 n (num70 l) (st70 c channel l) = shad (bod70 to70 c channel) n l
  | 0, l => by cases l <;> rfl
  | n + 1, l => by
    have ih : (fun l => runL Pr GA H70 Tryz.f70 n (num70 l) (st70 c channel l)) = shad (bod70 to70 c channel) n := funext (shad70 c channel n)
    cases l with
    | l0 x0 x1 x2 => exact (step_eq ..).trans ((head70_0 ..).trans (by rw [ih]; rfl))
    | l4 x0 x1 x2 x3 x4 x5 x6 => exact (step_eq ..).trans ((head70_4 ..).trans (by rw [ih]; rfl))
    | l23 x2 x3 x4 x5 x6 x0 x1 => exact (step_eq ..).trans ((head70_23 ..).trans (by rw [ih]; rfl))
theorem nat70 (c : Config) (channel : Int) (s : L70 → Option R70) (l : L70) : bod70 to70 c channel (fun l => (s l).map to70) l = (bod70 id c channel s l).map to70 := by
  cases l <;> simp only [bod70, map_cond, Option.map_some, Option.map_none, id]
theorem ct70 (c : Config) (channel : Int) (l : L70) : CT fun j => bod70 id c channel j l := by
  cases l <;> (dsimp only [bod70]; repeat (first | exact CT.jump _ | exact CT.const _ | apply CT.cond))
noncomputable def spL70 (c : Config) (channel : Int) : L70 → Option R70 := lfp (bod70 id c channel)
theorem spL70_eq (c : Config) (channel : Int) (l : L70) : spL70 c channel l = bod70 id c channel (spL70 c channel) l := lfp_eq (ct70 c channel) l
noncomputable def spO70 (c : Config) (channel : Int) : Option R70 := ent70 id c channel (spL70 c channel)
noncomputable def sp70 (c : Config) (channel : Int) : R70 := (spO70 c channel).getD default
noncomputable def spc70 (c : Config) (channel : Int) : Bool := (spO70 c channel).isSome
theorem oks70 (c : Config) (channel : Int) (hc : spc70 c channel = true) : Okay Pr GL 70 [(aCfg c), .v (.int .i64 channel)] [] (to70 (sp70 c channel)) := by
  obtain ⟨n, h⟩ := auto_ok (nat70 c channel) (fun s => show ent70 to70 c channel (fun l => (s l).map to70) = (ent70 id c channel s).map to70 by simp only [ent70, map_cond, Option.map_some, Option.map_none, id]) (ct70 c channel) (show CT fun j => ent70 id c channel j by dsimp only [ent70]; repeat (first | exact CT.jump _ | exact CT.const _ | apply CT.cond)) (isSome_getD hc)
  exact okay_of_run (H := H70) GAok G0ok Tryz.func70 rfl (by kernel_rfl) n (by
    rw [run70]
    rw [show (fun l => runL Pr GA H70 Tryz.f70 n (num70 l) (st70 c channel l)) = shad (bod70 to70 c channel) n from funext (shad70 c channel n)]
    exact h)

/-! ### ref15.source -/
abbrev R63 := Int × Int
def to63 (r : R63) : Ans := ⟨.tup [.v (.int .i64 r.1), .v (.int .i64 r.2)], []⟩
inductive L63 where
  | l0 (x0 : Int)
  | l4 (x1 : Int) (x2 : Int) (x3 : Int) (x0 : Int)
def num63 : L63 → Nat
  | .l0 _ => 0
  | .l4 _ _ _ _ => 4
def H63 : Hint := ⟨fun n => [].any (Nat.beq n), hdAt [(0, ⟨fgt [1, 2, 10, 11, 37, 38, 39, 40, 41, 42, 43, 44, 45, 46] 52 0, []⟩), (4, ⟨fgt [1, 2, 6, 10, 11, 20, 21] 52 0, []⟩)], [], G0, nodp⟩
noncomputable def st63 (c : Config) (channel : Int) : L63 → St
  | .l0 x0 => ⟨mkE [(1, .v (.int .i64 channel)), (2, .ref 0 0), (10, .v (.int .i64 c.partitions.length)), (11, .v (.int .i64 x0))] 52 0, [.cells 26 [.v (.int .i64 c.frames), .v (.int .i64 c.major), .v (.int .i64 c.kernel), .v (.int .i64 c.room), .sl (.sl .sWindow) c.cores, .sl .sPartition c.partitions, .sl .sChannel c.channels]], GL, 0, [], nodp⟩
  | .l4 x1 x2 x3 x0 => ⟨mkE [(1, .v (.int .i64 channel)), (2, .ref 0 0), (6, .v (.int .i64 x1)), (10, .v (.int .i64 c.partitions.length)), (11, .v (.int .i64 x2)), (20, .v (.int .i64 x3)), (21, .v (.int .i64 x0))] 52 0, [.cells 26 [.v (.int .i64 c.frames), .v (.int .i64 c.major), .v (.int .i64 c.kernel), .v (.int .i64 c.room), .sl (.sl .sWindow) c.cores, .sl .sPartition c.partitions, .sl .sChannel c.channels]], GL, 0, [], nodp⟩
noncomputable def bod63 {R : Type} (ret : R63 → R) (c : Config) (channel : Int) (j : L63 → Option R) : L63 → Option R
  | .l0 x0 => cond (decide ((x0 : Int) < c.partitions.length))
    (cond (inR x0 c.partitions.length) (j (.l4 x0 x0 (((atPartition c.partitions x0.toNat).ports).length) 0)) none)
    (some (ret (0, 0)))
  | .l4 x1 x2 x3 x0 => cond (decide ((x0 : Int) < x3))
    (cond (inR x1 c.partitions.length) (
      cond (inR x0 ((atPartition c.partitions x1.toNat).ports).length) (
        cond (((atPort ((atPartition c.partitions x1.toNat).ports) x0.toNat).channel : Int) == channel)
          (cond (inR x1 c.partitions.length) (
            cond (inR x0 ((atPartition c.partitions x1.toNat).ports).length) (
              cond ((atPort ((atPartition c.partitions x1.toNat).ports) x0.toNat).source)
                (some (ret (x1, x0)))
                (j (.l4 x1 x2 x3 (IntKind.i64.wrap (x0 + 1))))) none) none)
          (j (.l4 x1 x2 x3 (IntKind.i64.wrap (x0 + 1))))) none) none)
    (j (.l0 (IntKind.i64.wrap (x2 + 1))))
noncomputable def ent63 {R : Type} (ret : R63 → R) (c : Config) (channel : Int) (j : L63 → Option R) : Option R :=
    j (.l0 0)
theorem head63_0 (J : Jmp) (c : Config) (channel : Int) (x0 : Int) : stepAt Pr GA H63 J 0 0 (bodyOf Tryz.f63) (fin Pr H63 Tryz.f63) (st63 c channel (.l0 x0)) = bod63 to63 c channel (fun l => J (num63 l) (st63 c channel l)) (.l0 x0) := by kernel_rfl
theorem head63_4 (J : Jmp) (c : Config) (channel : Int) (x1 : Int) (x2 : Int) (x3 : Int) (x0 : Int) : stepAt Pr GA H63 J 4 0 (bodyOf Tryz.f63) (fin Pr H63 Tryz.f63) (st63 c channel (.l4 x1 x2 x3 x0)) = bod63 to63 c channel (fun l => J (num63 l) (st63 c channel l)) (.l4 x1 x2 x3 x0) := by kernel_rfl
theorem run63 (J : Jmp) (c : Config) (channel : Int) : runF Pr GA H63 J GL Tryz.f63 [(aCfg c), .v (.int .i64 channel)] [] = ent63 to63 c channel (fun l => J (num63 l) (st63 c channel l)) := by kernel_rfl
theorem shad63 (c : Config) (channel : Int) : ∀ (n : Nat) (l : L63), runL Pr GA H63 Tryz.f63 n (num63 l) (st63 c channel l) = shad (bod63 to63 c channel) n l
  | 0, l => by cases l <;> rfl
  | n + 1, l => by
    have ih : (fun l => runL Pr GA H63 Tryz.f63 n (num63 l) (st63 c channel l)) = shad (bod63 to63 c channel) n := funext (shad63 c channel n)
    cases l with
    | l0 x0 => exact (step_eq ..).trans ((head63_0 ..).trans (by rw [ih]; rfl))
    | l4 x1 x2 x3 x0 => exact (step_eq ..).trans ((head63_4 ..).trans (by rw [ih]; rfl))
theorem nat63 (c : Config) (channel : Int) (s : L63 → Option R63) (l : L63) : bod63 to63 c channel (fun l => (s l).map to63) l = (bod63 id c channel s l).map to63 := by
  cases l <;> simp only [bod63, map_cond, Option.map_some, Option.map_none, id]
theorem ct63 (c : Config) (channel : Int) (l : L63) : CT fun j => bod63 id c channel j l := by
  cases l <;> (dsimp only [bod63]; repeat (first | exact CT.jump _ | exact CT.const _ | apply CT.cond))
noncomputable def spL63 (c : Config) (channel : Int) : L63 → Option R63 := lfp (bod63 id c channel)
theorem spL63_eq (c : Config) (channel : Int) (l : L63) : spL63 c channel l = bod63 id c channel (spL63 c channel) l := lfp_eq (ct63 c channel) l
noncomputable def spO63 (c : Config) (channel : Int) : Option R63 := ent63 id c channel (spL63 c channel)
noncomputable def sp63 (c : Config) (channel : Int) : R63 := (spO63 c channel).getD default
noncomputable def spc63 (c : Config) (channel : Int) : Bool := (spO63 c channel).isSome
theorem oks63 (c : Config) (channel : Int) (hc : spc63 c channel = true) : Okay Pr GL 63 [(aCfg c), .v (.int .i64 channel)] [] (to63 (sp63 c channel)) := by
  obtain ⟨n, h⟩ := auto_ok (nat63 c channel) (fun s => show ent63 to63 c channel (fun l => (s l).map to63) = (ent63 id c channel s).map to63 by simp only [ent63, map_cond, Option.map_some, Option.map_none, id]) (ct63 c channel) (show CT fun j => ent63 id c channel j by dsimp only [ent63]; repeat (first | exact CT.jump _ | exact CT.const _ | apply CT.cond)) (isSome_getD hc)
  exact okay_of_run (H := H63) GAok G0ok Tryz.func63 rfl (by kernel_rfl) n (by
    rw [run63]
    rw [show (fun l => runL Pr GA H63 Tryz.f63 n (num63 l) (st63 c channel l)) = shad (bod63 to63 c channel) n from funext (shad63 c channel n)]
    exact h)

/-! ### admit.first -/
abbrev R159 := AdmitFound
def to159 (r : R159) : Ans := ⟨.agg [.v (.int .i64 r.e), .v (.int .i64 r.where_.first), .v (.int .i64 r.where_.second)], []⟩
inductive L159 where
  | l0 (x0 : Int)
def num159 : L159 → Nat
  | .l0 _ => 0
def H159 : Hint := ⟨fun n => [].any (Nat.beq n), hdAt [(0, ⟨fgt [2, 5, 6, 7] 17 0, []⟩)], [], G0, nodp⟩
noncomputable def st159 (l_0 : (List AdmitFound)) : L159 → St
  | .l0 x0 => ⟨mkE [(2, .ref 0 0), (5, .sl .sAdmitFound l_0), (6, .v (.int .i64 l_0.length)), (7, .v (.int .i64 x0))] 17 0, [.cells 184 [.v (.int .i64 0), .v (.int .i64 0), .v (.int .i64 0)]], GL, 0, [], nodp⟩
noncomputable def bod159 {R : Type} (ret : R159 → R) (l_0 : (List AdmitFound)) (j : L159 → Option R) : L159 → Option R
  | .l0 x0 => cond (decide ((x0 : Int) < l_0.length))
    (cond (inR x0 l_0.length) (
      cond (!((((atAdmitFound l_0 x0.toNat).e : Int) == fine.e) && (((((atAdmitFound l_0 x0.toNat).where_.first : Int) == fine.where_.first) && ((((atAdmitFound l_0 x0.toNat).where_.second : Int) == fine.where_.second) && true)) && true)))
        (some (ret (atAdmitFound l_0 x0.toNat)))
        (j (.l0 (IntKind.i64.wrap (x0 + 1))))) none)
    (some (ret fine))
noncomputable def ent159 {R : Type} (ret : R159 → R) (l_0 : (List AdmitFound)) (j : L159 → Option R) : Option R :=
    j (.l0 0)
theorem head159_0 (J : Jmp) (l_0 : (List AdmitFound)) (x0 : Int) : stepAt Pr GA H159 J 0 0 (bodyOf Tryz.f159) (fin Pr H159 Tryz.f159) (st159 l_0 (.l0 x0)) = bod159 to159 l_0 (fun l => J (num159 l) (st159 l_0 l)) (.l0 x0) := by kernel_rfl
theorem run159 (J : Jmp) (l_0 : (List AdmitFound)) : runF Pr GA H159 J GL Tryz.f159 [.sl .sAdmitFound l_0] [] = ent159 to159 l_0 (fun l => J (num159 l) (st159 l_0 l)) := by kernel_rfl
theorem shad159 (l_0 : (List AdmitFound)) : ∀ (n : Nat) (l : L159), runL Pr GA H159 Tryz.f159 n (num159 l) (st159 l_0 l) = shad (bod159 to159 l_0) n l
  | 0, l => by cases l <;> rfl
  | n + 1, l => by
    have ih : (fun l => runL Pr GA H159 Tryz.f159 n (num159 l) (st159 l_0 l)) = shad (bod159 to159 l_0) n := funext (shad159 l_0 n)
    cases l with
    | l0 x0 => exact (step_eq ..).trans ((head159_0 ..).trans (by rw [ih]; rfl))
theorem nat159 (l_0 : (List AdmitFound)) (s : L159 → Option R159) (l : L159) : bod159 to159 l_0 (fun l => (s l).map to159) l = (bod159 id l_0 s l).map to159 := by
  cases l <;> simp only [bod159, map_cond, Option.map_some, Option.map_none, id]
theorem ct159 (l_0 : (List AdmitFound)) (l : L159) : CT fun j => bod159 id l_0 j l := by
  cases l <;> (dsimp only [bod159]; repeat (first | exact CT.jump _ | exact CT.const _ | apply CT.cond))
noncomputable def spL159 (l_0 : (List AdmitFound)) : L159 → Option R159 := lfp (bod159 id l_0)
theorem spL159_eq (l_0 : (List AdmitFound)) (l : L159) : spL159 l_0 l = bod159 id l_0 (spL159 l_0) l := lfp_eq (ct159 l_0) l
noncomputable def spO159 (l_0 : (List AdmitFound)) : Option R159 := ent159 id l_0 (spL159 l_0)
noncomputable def sp159 (l_0 : (List AdmitFound)) : R159 := (spO159 l_0).getD default
noncomputable def spc159 (l_0 : (List AdmitFound)) : Bool := (spO159 l_0).isSome
theorem oks159 (l_0 : (List AdmitFound)) (hc : spc159 l_0 = true) : Okay Pr GL 159 [.sl .sAdmitFound l_0] [] (to159 (sp159 l_0)) := by
  obtain ⟨n, h⟩ := auto_ok (nat159 l_0) (fun s => show ent159 to159 l_0 (fun l => (s l).map to159) = (ent159 id l_0 s).map to159 by simp only [ent159, map_cond, Option.map_some, Option.map_none, id]) (ct159 l_0) (show CT fun j => ent159 id l_0 j by dsimp only [ent159]; repeat (first | exact CT.jump _ | exact CT.const _ | apply CT.cond)) (isSome_getD hc)
  exact okay_of_run (H := H159) GAok G0ok Tryz.func159 rfl (by kernel_rfl) n (by
    rw [run159]
    rw [show (fun l => runL Pr GA H159 Tryz.f159 n (num159 l) (st159 l_0 l)) = shad (bod159 to159 l_0) n from funext (shad159 l_0 n)]
    exact h)

/-! ### admit.ends -/
abbrev R165 := Int × Int
def to165 (r : R165) : Ans := ⟨.tup [.v (.int .i64 r.1), .v (.int .i64 r.2)], []⟩
inductive L165 where
  | l0 (x1 : Int) (x2 : Int) (x0 : Int)
  | l4 (x0 : Int) (x1 : Int) (x3 : Int) (x4 : List Port) (x5 : Int) (x2 : Int)
  | l23 (x0 : Int) (x1 : Int) (x2 : Int) (x3 : List Port) (x4 : Int) (x5 : Int)
def num165 : L165 → Nat
  | .l0 _ _ _ => 0
  | .l4 _ _ _ _ _ _ => 4
  | .l23 _ _ _ _ _ _ => 23
def H165 : Hint := ⟨fun n => [11].any (Nat.beq n), hdAt [(0, ⟨fgt [1, 4, 5, 11, 12, 13] 40 0, []⟩), (4, ⟨fgt [1, 4, 5, 11, 12, 13, 18, 19, 20] 40 0, []⟩), (23, ⟨fgt [1, 4, 5, 11, 12, 13, 18, 19, 20] 40 0, []⟩)], [], G0, nodp⟩
noncomputable def st165 (c : Config) (h_1 : Int) : L165 → St
  | .l0 x1 x2 x0 => ⟨mkE [(1, .v (.int .i64 h_1)), (4, .v (.int .i64 x1)), (5, .v (.int .i64 x2)), (11, .sl .sPartition c.partitions), (12, .v (.int .i64 c.partitions.length)), (13, .v (.int .i64 x0))] 40 0, [], GL, 0, [], nodp⟩
  | .l4 x0 x1 x3 x4 x5 x2 => ⟨mkE [(1, .v (.int .i64 h_1)), (4, .v (.int .i64 x0)), (5, .v (.int .i64 x1)), (11, .sl .sPartition c.partitions), (12, .v (.int .i64 c.partitions.length)), (13, .v (.int .i64 x3)), (18, .sl .sPort x4), (19, .v (.int .i64 x5)), (20, .v (.int .i64 x2))] 40 0, [], GL, 0, [], nodp⟩
  | .l23 x0 x1 x2 x3 x4 x5 => ⟨mkE [(1, .v (.int .i64 h_1)), (4, .v (.int .i64 x0)), (5, .v (.int .i64 x1)), (11, .sl .sPartition c.partitions), (12, .v (.int .i64 c.partitions.length)), (13, .v (.int .i64 x2)), (18, .sl .sPort x3), (19, .v (.int .i64 x4)), (20, .v (.int .i64 x5))] 40 0, [], GL, 0, [], nodp⟩
noncomputable def bod165 {R : Type} (ret : R165 → R) (c : Config) (h_1 : Int) (j : L165 → Option R) : L165 → Option R
  | .l0 x1 x2 x0 => cond (decide ((x0 : Int) < c.partitions.length))
    (cond (inR x0 c.partitions.length) (j (.l4 x1 x2 x0 ((atPartition c.partitions x0.toNat).ports) (((atPartition c.partitions x0.toNat).ports).length) 0)) none)
    (some (ret (x1, x2)))
  | .l4 x0 x1 x3 x4 x5 x2 => cond (decide ((x2 : Int) < x5))
    (cond (inR x2 x4.length) (
      cond (!(((atPort x4 x2.toNat).channel : Int) == h_1))
        (j (.l23 x0 x1 x3 x4 x5 x2))
        (cond ((atPort x4 x2.toNat).source)
          (j (.l23 (IntKind.i64.wrap (x0 + 1)) x1 x3 x4 x5 x2))
          (j (.l23 x0 (IntKind.i64.wrap (x1 + 1)) x3 x4 x5 x2)))) none)
    (j (.l0 x0 x1 (IntKind.i64.wrap (x3 + 1))))
  | .l23 x0 x1 x2 x3 x4 x5 => j (.l4 x0 x1 x2 x3 x4 (IntKind.i64.wrap (x5 + 1)))
noncomputable def ent165 {R : Type} (ret : R165 → R) (c : Config) (h_1 : Int) (j : L165 → Option R) : Option R :=
    j (.l0 0 0 0)
theorem head165_0 (J : Jmp) (c : Config) (h_1 : Int) (x1 : Int) (x2 : Int) (x0 : Int) : stepAt Pr GA H165 J 0 0 (bodyOf Tryz.f165) (fin Pr H165 Tryz.f165) (st165 c h_1 (.l0 x1 x2 x0)) = bod165 to165 c h_1 (fun l => J (num165 l) (st165 c h_1 l)) (.l0 x1 x2 x0) := by kernel_rfl
theorem head165_4 (J : Jmp) (c : Config) (h_1 : Int) (x0 : Int) (x1 : Int) (x3 : Int) (x4 : List Port) (x5 : Int) (x2 : Int) : stepAt Pr GA H165 J 4 0 (bodyOf Tryz.f165) (fin Pr H165 Tryz.f165) (st165 c h_1 (.l4 x0 x1 x3 x4 x5 x2)) = bod165 to165 c h_1 (fun l => J (num165 l) (st165 c h_1 l)) (.l4 x0 x1 x3 x4 x5 x2) := by kernel_rfl
theorem head165_23 (J : Jmp) (c : Config) (h_1 : Int) (x0 : Int) (x1 : Int) (x2 : Int) (x3 : List Port) (x4 : Int) (x5 : Int) : stepAt Pr GA H165 J 23 0 (bodyOf Tryz.f165) (fin Pr H165 Tryz.f165) (st165 c h_1 (.l23 x0 x1 x2 x3 x4 x5)) = bod165 to165 c h_1 (fun l => J (num165 l) (st165 c h_1 l)) (.l23 x0 x1 x2 x3 x4 x5) := by kernel_rfl
theorem run165 (J : Jmp) (c : Config) (h_1 : Int) : runF Pr GA H165 J GL Tryz.f165 [(aCfg c), .v (.int .i64 h_1)] [] = ent165 to165 c h_1 (fun l => J (num165 l) (st165 c h_1 l)) := by kernel_rfl
theorem shad165 (c : Config) (h_1 : Int) : ∀ (n : Nat) (l : L165), runL Pr GA H165 Tryz.f165 n (num165 l) (st165 c h_1 l) = shad (bod165 to165 c h_1) n l
  | 0, l => by cases l <;> rfl
  | n + 1, l => by
    have ih : (fun l => runL Pr GA H165 Tryz.f165 n (num165 l) (st165 c h_1 l)) = shad (bod165 to165 c h_1) n := funext (shad165 c h_1 n)
    cases l with
    | l0 x1 x2 x0 => exact (step_eq ..).trans ((head165_0 ..).trans (by rw [ih]; rfl))
    | l4 x0 x1 x3 x4 x5 x2 => exact (step_eq ..).trans ((head165_4 ..).trans (by rw [ih]; rfl))
    | l23 x0 x1 x2 x3 x4 x5 => exact (step_eq ..).trans ((head165_23 ..).trans (by rw [ih]; rfl))
theorem nat165 (c : Config) (h_1 : Int) (s : L165 → Option R165) (l : L165) : bod165 to165 c h_1 (fun l => (s l).map to165) l = (bod165 id c h_1 s l).map to165 := by
  cases l <;> simp only [bod165, map_cond, Option.map_some, Option.map_none, id]
theorem ct165 (c : Config) (h_1 : Int) (l : L165) : CT fun j => bod165 id c h_1 j l := by
  cases l <;> (dsimp only [bod165]; repeat (first | exact CT.jump _ | exact CT.const _ | apply CT.cond))
noncomputable def spL165 (c : Config) (h_1 : Int) : L165 → Option R165 := lfp (bod165 id c h_1)
theorem spL165_eq (c : Config) (h_1 : Int) (l : L165) : spL165 c h_1 l = bod165 id c h_1 (spL165 c h_1) l := lfp_eq (ct165 c h_1) l
noncomputable def spO165 (c : Config) (h_1 : Int) : Option R165 := ent165 id c h_1 (spL165 c h_1)
noncomputable def sp165 (c : Config) (h_1 : Int) : R165 := (spO165 c h_1).getD default
noncomputable def spc165 (c : Config) (h_1 : Int) : Bool := (spO165 c h_1).isSome
theorem oks165 (c : Config) (h_1 : Int) (hc : spc165 c h_1 = true) : Okay Pr GL 165 [(aCfg c), .v (.int .i64 h_1)] [] (to165 (sp165 c h_1)) := by
  obtain ⟨n, h⟩ := auto_ok (nat165 c h_1) (fun s => show ent165 to165 c h_1 (fun l => (s l).map to165) = (ent165 id c h_1 s).map to165 by simp only [ent165, map_cond, Option.map_some, Option.map_none, id]) (ct165 c h_1) (show CT fun j => ent165 id c h_1 j by dsimp only [ent165]; repeat (first | exact CT.jump _ | exact CT.const _ | apply CT.cond)) (isSome_getD hc)
  exact okay_of_run (H := H165) GAok G0ok Tryz.func165 rfl (by kernel_rfl) n (by
    rw [run165]
    rw [show (fun l => runL Pr GA H165 Tryz.f165 n (num165 l) (st165 c h_1 l)) = shad (bod165 to165 c h_1) n from funext (shad165 c h_1 n)]
    exact h)

/-! ### admit.split -/
abbrev R166 := Bool
def to166 (r : R166) : Ans := ⟨.v (.bool r), []⟩
inductive L166 where
  | l0 (x0 : Int)
  | l4 (x1 : Int) (x2 : List Window) (x3 : Int) (x0 : Int)
def num166 : L166 → Nat
  | .l0 _ => 0
  | .l4 _ _ _ _ => 4
def H166 : Hint := ⟨fun n => [].any (Nat.beq n), hdAt [(0, ⟨fgt [2, 14, 15, 16, 29, 30, 31, 32] 36 0, []⟩), (4, ⟨fgt [2, 14, 15, 16, 20, 21, 22] 36 0, []⟩)], [], G0, nodp⟩
noncomputable def st166 (c : Config) (k : Int) (p : Int) : L166 → St
  | .l0 x0 => ⟨mkE [(2, .v (.int .i64 p)), (14, .sl (.sl .sWindow) ((c.cores.take k.toNat).drop 0)), (15, .v (.int .i64 (((c.cores.take k.toNat).drop 0).length))), (16, .v (.int .i64 x0))] 36 0, [], GL, 0, [], nodp⟩
  | .l4 x1 x2 x3 x0 => ⟨mkE [(2, .v (.int .i64 p)), (14, .sl (.sl .sWindow) ((c.cores.take k.toNat).drop 0)), (15, .v (.int .i64 (((c.cores.take k.toNat).drop 0).length))), (16, .v (.int .i64 x1)), (20, .sl .sWindow x2), (21, .v (.int .i64 x3)), (22, .v (.int .i64 x0))] 36 0, [], GL, 0, [], nodp⟩
noncomputable def bod166 {R : Type} (ret : R166 → R) (c : Config) (k : Int) (p : Int) (j : L166 → Option R) : L166 → Option R
  | .l0 x0 => cond (decide ((x0 : Int) < ((c.cores.take k.toNat).drop 0).length))
    (cond (inR x0 ((c.cores.take k.toNat).drop 0).length) (
      j (.l4 x0 (atLWindow ((c.cores.take k.toNat).drop 0) x0.toNat) ((atLWindow ((c.cores.take k.toNat).drop 0) x0.toNat).length) 0)) none)
    (some (ret false))
  | .l4 x1 x2 x3 x0 => cond (decide ((x0 : Int) < x3))
    (cond (inR x0 x2.length) (
      cond (decide ((p : Int) ≥ 0))
        (cond (((atWindow x2 x0.toNat).partition : Int) == p)
          (some (ret true))
          (j (.l4 x1 x2 x3 (IntKind.i64.wrap (x0 + 1)))))
        (j (.l4 x1 x2 x3 (IntKind.i64.wrap (x0 + 1))))) none)
    (j (.l0 (IntKind.i64.wrap (x1 + 1))))
noncomputable def ent166 {R : Type} (ret : R166 → R) (c : Config) (k : Int) (p : Int) (j : L166 → Option R) : Option R :=
    cond (inS 0 k c.cores.length) (j (.l0 0)) none
theorem head166_0 (J : Jmp) (c : Config) (k : Int) (p : Int) (x0 : Int) : stepAt Pr GA H166 J 0 0 (bodyOf Tryz.f166) (fin Pr H166 Tryz.f166) (st166 c k p (.l0 x0)) = bod166 to166 c k p (fun l => J (num166 l) (st166 c k p l)) (.l0 x0) := by kernel_rfl
theorem head166_4 (J : Jmp) (c : Config) (k : Int) (p : Int) (x1 : Int) (x2 : List Window) (x3 : Int) (x0 : Int) : stepAt Pr GA H166 J 4 0 (bodyOf Tryz.f166) (fin Pr H166 Tryz.f166) (st166 c k p (.l4 x1 x2 x3 x0)) = bod166 to166 c k p (fun l => J (num166 l) (st166 c k p l)) (.l4 x1 x2 x3 x0) := by kernel_rfl
theorem run166 (J : Jmp) (c : Config) (k : Int) (p : Int) : runF Pr GA H166 J GL Tryz.f166 [(aCfg c), .v (.int .i64 k), .v (.int .i64 p)] [] = ent166 to166 c k p (fun l => J (num166 l) (st166 c k p l)) := by kernel_rfl
theorem shad166 (c : Config) (k : Int) (p : Int) : ∀ (n : Nat) (l : L166), runL Pr GA H166 Tryz.f166 n (num166 l) (st166 c k p l) = shad (bod166 to166 c k p) n l
  | 0, l => by cases l <;> rfl
  | n + 1, l => by
    have ih : (fun l => runL Pr GA H166 Tryz.f166 n (num166 l) (st166 c k p l)) = shad (bod166 to166 c k p) n := funext (shad166 c k p n)
    cases l with
    | l0 x0 => exact (step_eq ..).trans ((head166_0 ..).trans (by rw [ih]; rfl))
    | l4 x1 x2 x3 x0 => exact (step_eq ..).trans ((head166_4 ..).trans (by rw [ih]; rfl))
theorem nat166 (c : Config) (k : Int) (p : Int) (s : L166 → Option R166) (l : L166) : bod166 to166 c k p (fun l => (s l).map to166) l = (bod166 id c k p s l).map to166 := by
  cases l <;> simp only [bod166, map_cond, Option.map_some, Option.map_none, id]
theorem ct166 (c : Config) (k : Int) (p : Int) (l : L166) : CT fun j => bod166 id c k p j l := by
  cases l <;> (dsimp only [bod166]; repeat (first | exact CT.jump _ | exact CT.const _ | apply CT.cond))
noncomputable def spL166 (c : Config) (k : Int) (p : Int) : L166 → Option R166 := lfp (bod166 id c k p)
theorem spL166_eq (c : Config) (k : Int) (p : Int) (l : L166) : spL166 c k p l = bod166 id c k p (spL166 c k p) l := lfp_eq (ct166 c k p) l
noncomputable def spO166 (c : Config) (k : Int) (p : Int) : Option R166 := ent166 id c k p (spL166 c k p)
noncomputable def sp166 (c : Config) (k : Int) (p : Int) : R166 := (spO166 c k p).getD default
noncomputable def spc166 (c : Config) (k : Int) (p : Int) : Bool := (spO166 c k p).isSome
theorem oks166 (c : Config) (k : Int) (p : Int) (hc : spc166 c k p = true) : Okay Pr GL 166 [(aCfg c), .v (.int .i64 k), .v (.int .i64 p)] [] (to166 (sp166 c k p)) := by
  obtain ⟨n, h⟩ := auto_ok (nat166 c k p) (fun s => show ent166 to166 c k p (fun l => (s l).map to166) = (ent166 id c k p s).map to166 by simp only [ent166, map_cond, Option.map_some, Option.map_none, id]) (ct166 c k p) (show CT fun j => ent166 id c k p j by dsimp only [ent166]; repeat (first | exact CT.jump _ | exact CT.const _ | apply CT.cond)) (isSome_getD hc)
  exact okay_of_run (H := H166) GAok G0ok Tryz.func166 rfl (by kernel_rfl) n (by
    rw [run166]
    rw [show (fun l => runL Pr GA H166 Tryz.f166 n (num166 l) (st166 c k p l)) = shad (bod166 to166 c k p) n from funext (shad166 c k p n)]
    exact h)

/-! ### layout.partition -/
abbrev R114 := Bool
def to114 (r : R114) : Ans := ⟨.v (.bool r), []⟩
inductive L114 where
  | l0 (x0 : Int)
  | l4 (x0 : Int)
def num114 : L114 → Nat
  | .l0 _ => 0
  | .l4 _ => 4
def H114 : Hint := ⟨fun n => [].any (Nat.beq n), hdAt [(0, ⟨fgt [2, 3, 20, 21, 22, 59, 60, 61, 62, 63, 64] 67 0, []⟩), (4, ⟨fgt [2, 49, 50, 51] 67 0, []⟩)], [], G0, nodp⟩
noncomputable def st114 (c : Config) (x : Partition) : L114 → St
  | .l0 x0 => ⟨mkE [(2, .ref 0 0), (3, .ref 1 0), (20, .sl .sRegion x.regions), (21, .v (.int .i64 x.regions.length)), (22, .v (.int .i64 x0))] 67 0, [.cells 26 [.v (.int .i64 c.frames), .v (.int .i64 c.major), .v (.int .i64 c.kernel), .v (.int .i64 c.room), .sl (.sl .sWindow) c.cores, .sl .sPartition c.partitions, .sl .sChannel c.channels], .cells 70 [.v (.string x.name), .v (.int .i64 x.entry), .v (.int .i64 x.action), .v (.int .i64 x.restarts), .v (.int .i64 x.inputs), .v (.int .i64 x.outputs), .sl .sRegion x.regions, .sl .sPort x.ports]], GL, 0, [], nodp⟩
  | .l4 x0 => ⟨mkE [(2, .ref 0 0), (49, .sl .sPort x.ports), (50, .v (.int .i64 x.ports.length)), (51, .v (.int .i64 x0))] 67 0, [.cells 26 [.v (.int .i64 c.frames), .v (.int .i64 c.major), .v (.int .i64 c.kernel), .v (.int .i64 c.room), .sl (.sl .sWindow) c.cores, .sl .sPartition c.partitions, .sl .sChannel c.channels]], GL, 0, [], nodp⟩
noncomputable def bod114 {R : Type} (ret : R114 → R) (c : Config) (x : Partition) (j : L114 → Option R) : L114 → Option R
  | .l0 x0 => cond (decide ((x0 : Int) < x.regions.length))
    (cond (inR x0 x.regions.length) (
      cond (decide (((atRegion x.regions x0.toNat).page : Int) < 0))
        (some (ret false))
        (cond (decide (((atRegion x.regions x0.toNat).page : Int) > 256))
          (some (ret false))
          (cond (decide (((atRegion x.regions x0.toNat).pages : Int) < 1))
            (some (ret false))
            (cond (decide (((atRegion x.regions x0.toNat).pages : Int) > (IntKind.i64.wrap (256 - (atRegion x.regions x0.toNat).page))))
              (some (ret false))
              (j (.l0 (IntKind.i64.wrap (x0 + 1)))))))) none)
    (j (.l4 0))
  | .l4 x0 => cond (decide ((x0 : Int) < x.ports.length))
    (cond (inR x0 x.ports.length) (
      cond (decide (((atPort x.ports x0.toNat).channel : Int) < 0))
        (some (ret false))
        (cond (decide (((atPort x.ports x0.toNat).channel : Int) ≥ c.channels.length))
          (some (ret false))
          (j (.l4 (IntKind.i64.wrap (x0 + 1)))))) none)
    (some (ret true))
noncomputable def ent114 {R : Type} (ret : R114 → R) (c : Config) (x : Partition) (j : L114 → Option R) : Option R :=
    cond (decide ((x.regions.length : Int) > 8))
    (some (ret false))
    (cond (decide ((x.ports.length : Int) > 8))
      (some (ret false))
      (j (.l0 0)))
theorem head114_0 (J : Jmp) (c : Config) (x : Partition) (x0 : Int) : stepAt Pr GA H114 J 0 0 (bodyOf Tryz.f114) (fin Pr H114 Tryz.f114) (st114 c x (.l0 x0)) = bod114 to114 c x (fun l => J (num114 l) (st114 c x l)) (.l0 x0) := by kernel_rfl
theorem head114_4 (J : Jmp) (c : Config) (x : Partition) (x0 : Int) : stepAt Pr GA H114 J 4 0 (bodyOf Tryz.f114) (fin Pr H114 Tryz.f114) (st114 c x (.l4 x0)) = bod114 to114 c x (fun l => J (num114 l) (st114 c x l)) (.l4 x0) := by kernel_rfl
theorem run114 (J : Jmp) (c : Config) (x : Partition) : runF Pr GA H114 J GL Tryz.f114 [(aCfg c), .agg [.v (.string x.name), .v (.int .i64 x.entry), .v (.int .i64 x.action), .v (.int .i64 x.restarts), .v (.int .i64 x.inputs), .v (.int .i64 x.outputs), .sl .sRegion x.regions, .sl .sPort x.ports]] [] = ent114 to114 c x (fun l => J (num114 l) (st114 c x l)) := by kernel_rfl
theorem shad114 (c : Config) (x : Partition) : ∀ (n : Nat) (l : L114), runL Pr GA H114 Tryz.f114 n (num114 l) (st114 c x l) = shad (bod114 to114 c x) n l
  | 0, l => by cases l <;> rfl
  | n + 1, l => by
    have ih : (fun l => runL Pr GA H114 Tryz.f114 n (num114 l) (st114 c x l)) = shad (bod114 to114 c x) n := funext (shad114 c x n)
    cases l with
    | l0 x0 => exact (step_eq ..).trans ((head114_0 ..).trans (by rw [ih]; rfl))
    | l4 x0 => exact (step_eq ..).trans ((head114_4 ..).trans (by rw [ih]; rfl))
theorem nat114 (c : Config) (x : Partition) (s : L114 → Option R114) (l : L114) : bod114 to114 c x (fun l => (s l).map to114) l = (bod114 id c x s l).map to114 := by
  cases l <;> simp only [bod114, map_cond, Option.map_some, Option.map_none, id]
theorem ct114 (c : Config) (x : Partition) (l : L114) : CT fun j => bod114 id c x j l := by
  cases l <;> (dsimp only [bod114]; repeat (first | exact CT.jump _ | exact CT.const _ | apply CT.cond))
noncomputable def spL114 (c : Config) (x : Partition) : L114 → Option R114 := lfp (bod114 id c x)
theorem spL114_eq (c : Config) (x : Partition) (l : L114) : spL114 c x l = bod114 id c x (spL114 c x) l := lfp_eq (ct114 c x) l
noncomputable def spO114 (c : Config) (x : Partition) : Option R114 := ent114 id c x (spL114 c x)
noncomputable def sp114 (c : Config) (x : Partition) : R114 := (spO114 c x).getD default
noncomputable def spc114 (c : Config) (x : Partition) : Bool := (spO114 c x).isSome
theorem oks114 (c : Config) (x : Partition) (hc : spc114 c x = true) : Okay Pr GL 114 [(aCfg c), .agg [.v (.string x.name), .v (.int .i64 x.entry), .v (.int .i64 x.action), .v (.int .i64 x.restarts), .v (.int .i64 x.inputs), .v (.int .i64 x.outputs), .sl .sRegion x.regions, .sl .sPort x.ports]] [] (to114 (sp114 c x)) := by
  obtain ⟨n, h⟩ := auto_ok (nat114 c x) (fun s => show ent114 to114 c x (fun l => (s l).map to114) = (ent114 id c x s).map to114 by simp only [ent114, map_cond, Option.map_some, Option.map_none, id]) (ct114 c x) (show CT fun j => ent114 id c x j by dsimp only [ent114]; repeat (first | exact CT.jump _ | exact CT.const _ | apply CT.cond)) (isSome_getD hc)
  exact okay_of_run (H := H114) GAok G0ok Tryz.func114 rfl (by kernel_rfl) n (by
    rw [run114]
    rw [show (fun l => runL Pr GA H114 Tryz.f114 n (num114 l) (st114 c x l)) = shad (bod114 to114 c x) n from funext (shad114 c x n)]
    exact h)

/-! ### admit.isName -/
abbrev R173 := Bool
def to173 (r : R173) : Ans := ⟨.v (.bool r), []⟩
inductive L173 where
  | l0 (x0 : Int)
def num173 : L173 → Nat
  | .l0 _ => 0
def H173 : Hint := ⟨fun n => [].any (Nat.beq n), hdAt [(0, ⟨fgt [0, 24, 25] 50 0, []⟩)], [], G0, nodp⟩
noncomputable def st173 (s_0 : ByteArray) : L173 → St
  | .l0 x0 => ⟨mkE [(0, .v (.string s_0)), (24, .v (.int .i64 s_0.size)), (25, .v (.int .i64 x0))] 50 0, [], GL, 0, [], nodp⟩
noncomputable def bod173 {R : Type} (ret : R173 → R) (s_0 : ByteArray) (j : L173 → Option R) : L173 → Option R
  | .l0 x0 => cond (decide ((x0 : Int) < s_0.size))
    (cond (inR x0 s_0.size) (
      cond (decide (((byteAt s_0 x0.toNat) : Int) < 97))
        (cond (decide (((byteAt s_0 x0.toNat) : Int) < 48))
          (cond (!(((byteAt s_0 x0.toNat) : Int) == 45))
            (some (ret false))
            (j (.l0 (IntKind.i64.wrap (x0 + 1)))))
          (cond (decide (((byteAt s_0 x0.toNat) : Int) > 57))
            (cond (!(((byteAt s_0 x0.toNat) : Int) == 45))
              (some (ret false))
              (j (.l0 (IntKind.i64.wrap (x0 + 1)))))
            (j (.l0 (IntKind.i64.wrap (x0 + 1))))))
        (cond (decide (((byteAt s_0 x0.toNat) : Int) > 122))
          (cond (decide (((byteAt s_0 x0.toNat) : Int) < 48))
            (cond (!(((byteAt s_0 x0.toNat) : Int) == 45))
              (some (ret false))
              (j (.l0 (IntKind.i64.wrap (x0 + 1)))))
            (cond (decide (((byteAt s_0 x0.toNat) : Int) > 57))
              (cond (!(((byteAt s_0 x0.toNat) : Int) == 45))
                (some (ret false))
                (j (.l0 (IntKind.i64.wrap (x0 + 1)))))
              (j (.l0 (IntKind.i64.wrap (x0 + 1))))))
          (j (.l0 (IntKind.i64.wrap (x0 + 1)))))) none)
    (some (ret true))
noncomputable def ent173 {R : Type} (ret : R173 → R) (s_0 : ByteArray) (j : L173 → Option R) : Option R :=
    cond (decide ((s_0.size : Int) < 1))
    (some (ret false))
    (cond (decide ((s_0.size : Int) > 16))
      (some (ret false))
      (cond (inR 0 s_0.size) (
        cond (decide (((byteAt s_0 0) : Int) < 97))
          (some (ret false))
          (cond (inR 0 s_0.size) (cond (decide (((byteAt s_0 0) : Int) > 122))
              (some (ret false))
              (j (.l0 0))) none)) none))
theorem head173_0 (J : Jmp) (s_0 : ByteArray) (x0 : Int) : stepAt Pr GA H173 J 0 0 (bodyOf Tryz.f173) (fin Pr H173 Tryz.f173) (st173 s_0 (.l0 x0)) = bod173 to173 s_0 (fun l => J (num173 l) (st173 s_0 l)) (.l0 x0) := by kernel_rfl
theorem run173 (J : Jmp) (s_0 : ByteArray) : runF Pr GA H173 J GL Tryz.f173 [.v (.string s_0)] [] = ent173 to173 s_0 (fun l => J (num173 l) (st173 s_0 l)) := by kernel_rfl
theorem shad173 (s_0 : ByteArray) : ∀ (n : Nat) (l : L173), runL Pr GA H173 Tryz.f173 n (num173 l) (st173 s_0 l) = shad (bod173 to173 s_0) n l
  | 0, l => by cases l <;> rfl
  | n + 1, l => by
    have ih : (fun l => runL Pr GA H173 Tryz.f173 n (num173 l) (st173 s_0 l)) = shad (bod173 to173 s_0) n := funext (shad173 s_0 n)
    cases l with
    | l0 x0 => exact (step_eq ..).trans ((head173_0 ..).trans (by rw [ih]; rfl))
theorem nat173 (s_0 : ByteArray) (s : L173 → Option R173) (l : L173) : bod173 to173 s_0 (fun l => (s l).map to173) l = (bod173 id s_0 s l).map to173 := by
  cases l <;> simp only [bod173, map_cond, Option.map_some, Option.map_none, id]
theorem ct173 (s_0 : ByteArray) (l : L173) : CT fun j => bod173 id s_0 j l := by
  cases l <;> (dsimp only [bod173]; repeat (first | exact CT.jump _ | exact CT.const _ | apply CT.cond))
noncomputable def spL173 (s_0 : ByteArray) : L173 → Option R173 := lfp (bod173 id s_0)
theorem spL173_eq (s_0 : ByteArray) (l : L173) : spL173 s_0 l = bod173 id s_0 (spL173 s_0) l := lfp_eq (ct173 s_0) l
noncomputable def spO173 (s_0 : ByteArray) : Option R173 := ent173 id s_0 (spL173 s_0)
noncomputable def sp173 (s_0 : ByteArray) : R173 := (spO173 s_0).getD default
noncomputable def spc173 (s_0 : ByteArray) : Bool := (spO173 s_0).isSome
theorem oks173 (s_0 : ByteArray) (hc : spc173 s_0 = true) : Okay Pr GL 173 [.v (.string s_0)] [] (to173 (sp173 s_0)) := by
  obtain ⟨n, h⟩ := auto_ok (nat173 s_0) (fun s => show ent173 to173 s_0 (fun l => (s l).map to173) = (ent173 id s_0 s).map to173 by simp only [ent173, map_cond, Option.map_some, Option.map_none, id]) (ct173 s_0) (show CT fun j => ent173 id s_0 j by dsimp only [ent173]; repeat (first | exact CT.jump _ | exact CT.const _ | apply CT.cond)) (isSome_getD hc)
  exact okay_of_run (H := H173) GAok G0ok Tryz.func173 rfl (by kernel_rfl) n (by
    rw [run173]
    rw [show (fun l => runL Pr GA H173 Tryz.f173 n (num173 l) (st173 s_0 l)) = shad (bod173 to173 s_0) n from funext (shad173 s_0 n)]
    exact h)

/-! ### layout.pieces$1 -/
abbrev R97 := (List LayoutPiece)
def to97 (r : R97) : Ans := ⟨.tup [], [.cells 124 [.own 2], .dead, .arr 127 .sLayoutPiece r]⟩
def H97 : Hint := ⟨fun _ => false, fun _ => ⟨[], []⟩, [], G0, nodp⟩
noncomputable def ent97 {R : Type} (ret : R97 → R) (a1 : Int) (a2 : Int) (a3 : Int) (a4 : Int) (a5 : Int) (xs : List LayoutPiece) : Option R :=
    cond (leB (((xs : List LayoutPiece).length + ([(⟨a1, a2, (⟨a3, a4, a5⟩ : Owner)⟩ : LayoutPiece)] : List LayoutPiece).length) * 40) 140737488355328) (some (ret ((xs : List LayoutPiece) ++ [(⟨a1, a2, (⟨a3, a4, a5⟩ : Owner)⟩ : LayoutPiece)]))) none
theorem run97 (J : Jmp) (a1 : Int) (a2 : Int) (a3 : Int) (a4 : Int) (a5 : Int) (xs : List LayoutPiece) : runF Pr GA H97 J GL Tryz.f97 [.v (.int .i64 a1), .v (.int .i64 a2), .v (.int .i64 a3), .v (.int .i64 a4), .v (.int .i64 a5), .ref 0 0] [.cells 124 [.own 1], .arr 127 .sLayoutPiece xs] = ent97 to97 a1 a2 a3 a4 a5 xs := by kernel_rfl
noncomputable def spO97 (a1 : Int) (a2 : Int) (a3 : Int) (a4 : Int) (a5 : Int) (xs : List LayoutPiece) : Option R97 := ent97 id a1 a2 a3 a4 a5 xs
noncomputable def sp97 (a1 : Int) (a2 : Int) (a3 : Int) (a4 : Int) (a5 : Int) (xs : List LayoutPiece) : R97 := (spO97 a1 a2 a3 a4 a5 xs).getD default
noncomputable def spc97 (a1 : Int) (a2 : Int) (a3 : Int) (a4 : Int) (a5 : Int) (xs : List LayoutPiece) : Bool := (spO97 a1 a2 a3 a4 a5 xs).isSome
theorem oks97 (a1 : Int) (a2 : Int) (a3 : Int) (a4 : Int) (a5 : Int) (xs : List LayoutPiece) (hc : spc97 a1 a2 a3 a4 a5 xs = true) : Okay Pr GL 97 [.v (.int .i64 a1), .v (.int .i64 a2), .v (.int .i64 a3), .v (.int .i64 a4), .v (.int .i64 a5), .ref 0 0] [.cells 124 [.own 1], .arr 127 .sLayoutPiece xs] (to97 (sp97 a1 a2 a3 a4 a5 xs)) :=
  okay_of_run (H := H97) GAok G0ok Tryz.func97 rfl (by kernel_rfl) 0 ((run97 (runL Pr GA H97 Tryz.f97 0) a1 a2 a3 a4 a5 xs).trans (auto_ok0 (show ent97 to97 a1 a2 a3 a4 a5 xs = (ent97 id a1 a2 a3 a4 a5 xs).map to97 by simp only [ent97, map_cond, Option.map_some, Option.map_none, id]) (isSome_getD hc)))

/-! ### slices.Contains[[]api.Owner,api.Owner] -/
abbrev R28 := Bool
def to28 (r : R28) : Ans := ⟨.v (.bool r), []⟩
def H28 : Hint := ⟨fun _ => false, fun _ => ⟨[], []⟩, [], G0, nodp⟩
noncomputable def ent28 {R : Type} (ret : R28 → R) (s_0 : (List Owner)) (v : Owner) : Option R :=
    cond (spc55 s_0 v) (some (ret (decide (((sp55 s_0 v) : Int) ≥ 0)))) none
theorem run28 (J : Jmp) (s_0 : (List Owner)) (v : Owner) : runF Pr GA H28 J GL Tryz.f28 [.sl .sOwner s_0, .agg [.v (.int .i64 v.kind), .v (.int .i64 v.index), .v (.int .i64 v.port)]] [] = ent28 to28 s_0 v := by kernel_rfl
noncomputable def spO28 (s_0 : (List Owner)) (v : Owner) : Option R28 := ent28 id s_0 v
noncomputable def sp28 (s_0 : (List Owner)) (v : Owner) : R28 := (spO28 s_0 v).getD default
noncomputable def spc28 (s_0 : (List Owner)) (v : Owner) : Bool := (spO28 s_0 v).isSome
theorem oks28 (s_0 : (List Owner)) (v : Owner) (hc : spc28 s_0 v = true) : Okay Pr GL 28 [.sl .sOwner s_0, .agg [.v (.int .i64 v.kind), .v (.int .i64 v.index), .v (.int .i64 v.port)]] [] (to28 (sp28 s_0 v)) :=
  okay_of_run (H := H28) GAok G0ok Tryz.func28 rfl (by kernel_rfl) 0 ((run28 (runL Pr GA H28 Tryz.f28 0) s_0 v).trans (auto_ok0 (show ent28 to28 s_0 v = (ent28 id s_0 v).map to28 by simp only [ent28, map_cond, Option.map_some, Option.map_none, id]) (isSome_getD hc)))

/-! ### ref24.Lies -/
abbrev R43 := Bool
def to43 (r : R43) : Ans := ⟨.v (.bool r), []⟩
inductive L43 where
  | l0 (x0 : Int)
def num43 : L43 → Nat
  | .l0 _ => 0
def H43 : Hint := ⟨fun n => [].any (Nat.beq n), hdAt [(0, ⟨fgt [1, 2, 5] 19 0, []⟩)], [], G0, nodp⟩
noncomputable def st43 (p : Partition) (program : (List Int)) : L43 → St
  | .l0 x0 => ⟨mkE [(1, .sl (.i .u32) program), (2, .ref 0 0), (5, .v (.int .i64 x0))] 19 0, [.cells 70 [.v (.string p.name), .v (.int .i64 p.entry), .v (.int .i64 p.action), .v (.int .i64 p.restarts), .v (.int .i64 p.inputs), .v (.int .i64 p.outputs), .sl .sRegion p.regions, .sl .sPort p.ports]], GL, 0, [], nodp⟩
noncomputable def bod43 {R : Type} (ret : R43 → R) (p : Partition) (program : (List Int)) (j : L43 → Option R) : L43 → Option R
  | .l0 x0 => cond (decide ((x0 : Int) < program.length))
    (cond (spc87 p x0) (cond (decide (((sp87 p x0) : Int) < 0))
        (some (ret false))
        (j (.l0 (IntKind.i64.wrap (x0 + 16))))) none)
    (some (ret true))
noncomputable def ent43 {R : Type} (ret : R43 → R) (p : Partition) (program : (List Int)) (j : L43 → Option R) : Option R :=
    cond (decide ((program.length : Int) > 1024))
    (some (ret false))
    (j (.l0 0))
theorem head43_0 (J : Jmp) (p : Partition) (program : (List Int)) (x0 : Int) : stepAt Pr GA H43 J 0 0 (bodyOf Tryz.f43) (fin Pr H43 Tryz.f43) (st43 p program (.l0 x0)) = bod43 to43 p program (fun l => J (num43 l) (st43 p program l)) (.l0 x0) := by kernel_rfl
theorem run43 (J : Jmp) (p : Partition) (program : (List Int)) : runF Pr GA H43 J GL Tryz.f43 [.agg [.v (.string p.name), .v (.int .i64 p.entry), .v (.int .i64 p.action), .v (.int .i64 p.restarts), .v (.int .i64 p.inputs), .v (.int .i64 p.outputs), .sl .sRegion p.regions, .sl .sPort p.ports], .sl (.i .u32) program] [] = ent43 to43 p program (fun l => J (num43 l) (st43 p program l)) := by kernel_rfl
theorem shad43 (p : Partition) (program : (List Int)) : ∀ (n : Nat) (l : L43), runL Pr GA H43 Tryz.f43 n (num43 l) (st43 p program l) = shad (bod43 to43 p program) n l
  | 0, l => by cases l <;> rfl
  | n + 1, l => by
    have ih : (fun l => runL Pr GA H43 Tryz.f43 n (num43 l) (st43 p program l)) = shad (bod43 to43 p program) n := funext (shad43 p program n)
    cases l with
    | l0 x0 => exact (step_eq ..).trans ((head43_0 ..).trans (by rw [ih]; rfl))
theorem nat43 (p : Partition) (program : (List Int)) (s : L43 → Option R43) (l : L43) : bod43 to43 p program (fun l => (s l).map to43) l = (bod43 id p program s l).map to43 := by
  cases l <;> simp only [bod43, map_cond, Option.map_some, Option.map_none, id]
theorem ct43 (p : Partition) (program : (List Int)) (l : L43) : CT fun j => bod43 id p program j l := by
  cases l <;> (dsimp only [bod43]; repeat (first | exact CT.jump _ | exact CT.const _ | apply CT.cond))
noncomputable def spL43 (p : Partition) (program : (List Int)) : L43 → Option R43 := lfp (bod43 id p program)
noncomputable def spO43 (p : Partition) (program : (List Int)) : Option R43 := ent43 id p program (spL43 p program)
noncomputable def sp43 (p : Partition) (program : (List Int)) : R43 := (spO43 p program).getD default
noncomputable def spc43 (p : Partition) (program : (List Int)) : Bool := (spO43 p program).isSome
theorem oks43 (p : Partition) (program : (List Int)) (hc : spc43 p program = true) : Okay Pr GL 43 [.agg [.v (.string p.name), .v (.int .i64 p.entry), .v (.int .i64 p.action), .v (.int .i64 p.restarts), .v (.int .i64 p.inputs), .v (.int .i64 p.outputs), .sl .sRegion p.regions, .sl .sPort p.ports], .sl (.i .u32) program] [] (to43 (sp43 p program)) := by
  obtain ⟨n, h⟩ := auto_ok (nat43 p program) (fun s => show ent43 to43 p program (fun l => (s l).map to43) = (ent43 id p program s).map to43 by simp only [ent43, map_cond, Option.map_some, Option.map_none, id]) (ct43 p program) (show CT fun j => ent43 id p program j by dsimp only [ent43]; repeat (first | exact CT.jump _ | exact CT.const _ | apply CT.cond)) (isSome_getD hc)
  exact okay_of_run (H := H43) GAok G0ok Tryz.func43 rfl (by kernel_rfl) n (by
    rw [run43]
    rw [show (fun l => runL Pr GA H43 Tryz.f43 n (num43 l) (st43 p program l)) = shad (bod43 to43 p program) n from funext (shad43 p program n)]
    exact h)

/-! ### ref24.tables -/
abbrev R44 := (List Int)
def to44 (r : R44) : Ans := ⟨.tup [], [.arr 57 (.i .u32) r]⟩
inductive L44 where
  | l0 (x1 : Int) (x0 : Int) (x2 : List Int)
  | l4 (x4 : Int) (x3 : Int) (x1 : Bool) (x0 : Int) (x2 : List Int)
  | l9 (x0 : Int) (x1 : Int) (x2 : List Int)
def num44 : L44 → Nat
  | .l0 _ _ _ => 0
  | .l4 _ _ _ _ _ => 4
  | .l9 _ _ _ => 9
def H44 : Hint := ⟨fun n => [4].any (Nat.beq n), hdAt [(0, ⟨fgt [0, 4, 5, 6, 7] 62 0, []⟩), (4, ⟨fgt [0, 4, 5, 6, 7, 8, 9] 62 0, []⟩), (9, ⟨fgt [0, 4, 5, 6, 7] 62 0, []⟩)], [], G0, nodp⟩
noncomputable def st44 (p : Partition) (pl : PartitionPlace) (m : List Int) : L44 → St
  | .l0 x1 x0 x2 => ⟨mkE [(0, .own 0), (4, .ref 1 0), (5, .ref 2 0), (6, .v (.int .i64 x1)), (7, .v (.int .i64 x0))] 62 0, [.arr 57 (.i .u32) x2, .cells 70 [.v (.string p.name), .v (.int .i64 p.entry), .v (.int .i64 p.action), .v (.int .i64 p.restarts), .v (.int .i64 p.inputs), .v (.int .i64 p.outputs), .sl .sRegion p.regions, .sl .sPort p.ports], .cells 89 [.v (.int .i64 pl.lock), .v (.int .i64 pl.save), .v (.int .i64 pl.state), .v (.int .i64 pl.root), .sl (.i .i64) pl.tables]], GL, 1, [], nodp⟩
  | .l4 x4 x3 x1 x0 x2 => ⟨mkE [(0, .own 0), (4, .ref 1 0), (5, .ref 2 0), (6, .v (.int .i64 x4)), (7, .v (.int .i64 x3)), (8, .v (.bool x1)), (9, .v (.int .i64 x0))] 62 0, [.arr 57 (.i .u32) x2, .cells 70 [.v (.string p.name), .v (.int .i64 p.entry), .v (.int .i64 p.action), .v (.int .i64 p.restarts), .v (.int .i64 p.inputs), .v (.int .i64 p.outputs), .sl .sRegion p.regions, .sl .sPort p.ports], .cells 89 [.v (.int .i64 pl.lock), .v (.int .i64 pl.save), .v (.int .i64 pl.state), .v (.int .i64 pl.root), .sl (.i .i64) pl.tables]], GL, 1, [], nodp⟩
  | .l9 x0 x1 x2 => ⟨mkE [(0, .own 0), (4, .ref 1 0), (5, .ref 2 0), (6, .v (.int .i64 x0)), (7, .v (.int .i64 x1))] 62 0, [.arr 57 (.i .u32) x2, .cells 70 [.v (.string p.name), .v (.int .i64 p.entry), .v (.int .i64 p.action), .v (.int .i64 p.restarts), .v (.int .i64 p.inputs), .v (.int .i64 p.outputs), .sl .sRegion p.regions, .sl .sPort p.ports], .cells 89 [.v (.int .i64 pl.lock), .v (.int .i64 pl.save), .v (.int .i64 pl.state), .v (.int .i64 pl.root), .sl (.i .i64) pl.tables]], GL, 1, [], nodp⟩
noncomputable def bod44 {R : Type} (ret : R44 → R) (p : Partition) (pl : PartitionPlace) (m : List Int) (j : L44 → Option R) : L44 → Option R
  | .l0 x1 x0 x2 => cond (decide ((x0 : Int) < 16))
    (j (.l4 x1 x0 false 0 x2))
    (some (ret x2))
  | .l4 x4 x3 x1 x0 x2 => cond (decide ((x0 : Int) < 16))
    (cond (spc87 p (IntKind.i64.wrap ((IntKind.i64.wrap ((IntKind.i64.wrap (x3 * 16)) + x0)) * 16))) (
      cond (decide (((sp87 p (IntKind.i64.wrap ((IntKind.i64.wrap ((IntKind.i64.wrap (x3 * 16)) + x0)) * 16))) : Int) < 0))
        (j (.l4 x4 x3 x1 (IntKind.i64.wrap (x0 + 1)) x2))
        (cond (inR x4 pl.tables.length) (
          cond (spc89 p (IntKind.i64.wrap ((IntKind.i64.wrap (x3 * 16)) + x0))) (
            cond (inR (IntKind.i64.wrap ((IntKind.i64.wrap (atInt pl.tables x4.toNat * 16)) + x0)) x2.length) (
              j (.l4 x4 x3 true (IntKind.i64.wrap (x0 + 1)) (List.set x2 ((IntKind.i64.wrap ((IntKind.i64.wrap (atInt pl.tables x4.toNat * 16)) + x0)).toNat) (sp88 (bop .quo .i64 (sp87 p (IntKind.i64.wrap ((IntKind.i64.wrap ((IntKind.i64.wrap (x3 * 16)) + x0)) * 16))) 16) (sp89 p (IntKind.i64.wrap ((IntKind.i64.wrap (x3 * 16)) + x0))))))) none) none) none)) none)
    (cond x1
      (cond (inR x4 pl.tables.length) (
        cond (inR (IntKind.i64.wrap ((IntKind.i64.wrap (pl.root * 16)) + x3)) x2.length) (
          j (.l9 (IntKind.i64.wrap (x4 + 1)) x3 (List.set x2 ((IntKind.i64.wrap ((IntKind.i64.wrap (pl.root * 16)) + x3)).toNat) (sp88 (atInt pl.tables x4.toNat) 0)))) none) none)
      (j (.l9 x4 x3 x2)))
  | .l9 x0 x1 x2 => j (.l0 x0 (IntKind.i64.wrap (x1 + 1)) x2)
noncomputable def ent44 {R : Type} (ret : R44 → R) (p : Partition) (pl : PartitionPlace) (m : List Int) (j : L44 → Option R) : Option R :=
    j (.l0 0 0 m)
theorem head44_0 (J : Jmp) (p : Partition) (pl : PartitionPlace) (m : List Int) (x1 : Int) (x0 : Int) (x2 : List Int) : stepAt Pr GA H44 J 0 0 (bodyOf Tryz.f44) (fin Pr H44 Tryz.f44) (st44 p pl m (.l0 x1 x0 x2)) = bod44 to44 p pl m (fun l => J (num44 l) (st44 p pl m l)) (.l0 x1 x0 x2) := by kernel_rfl
theorem head44_4 (J : Jmp) (p : Partition) (pl : PartitionPlace) (m : List Int) (x4 : Int) (x3 : Int) (x1 : Bool) (x0 : Int) (x2 : List Int) : stepAt Pr GA H44 J 4 0 (bodyOf Tryz.f44) (fin Pr H44 Tryz.f44) (st44 p pl m (.l4 x4 x3 x1 x0 x2)) = bod44 to44 p pl m (fun l => J (num44 l) (st44 p pl m l)) (.l4 x4 x3 x1 x0 x2) := by kernel_rfl
theorem head44_9 (J : Jmp) (p : Partition) (pl : PartitionPlace) (m : List Int) (x0 : Int) (x1 : Int) (x2 : List Int) : stepAt Pr GA H44 J 9 0 (bodyOf Tryz.f44) (fin Pr H44 Tryz.f44) (st44 p pl m (.l9 x0 x1 x2)) = bod44 to44 p pl m (fun l => J (num44 l) (st44 p pl m l)) (.l9 x0 x1 x2) := by kernel_rfl
theorem run44 (J : Jmp) (p : Partition) (pl : PartitionPlace) (m : List Int) : runF Pr GA H44 J GL Tryz.f44 [.own 0, .agg [.v (.string p.name), .v (.int .i64 p.entry), .v (.int .i64 p.action), .v (.int .i64 p.restarts), .v (.int .i64 p.inputs), .v (.int .i64 p.outputs), .sl .sRegion p.regions, .sl .sPort p.ports], .agg [.v (.int .i64 pl.lock), .v (.int .i64 pl.save), .v (.int .i64 pl.state), .v (.int .i64 pl.root), .sl (.i .i64) pl.tables]] [.arr 57 (.i .u32) m] = ent44 to44 p pl m (fun l => J (num44 l) (st44 p pl m l)) := by kernel_rfl
theorem shad44 (p : Partition) (pl : PartitionPlace) (m : List Int) : ∀ (n : Nat) (l : L44), runL Pr GA H44 Tryz.f44 n (num44 l) (st44 p pl m l) = shad (bod44 to44 p pl m) n l
  | 0, l => by cases l <;> rfl
  | n + 1, l => by
    have ih : (fun l => runL Pr GA H44 Tryz.f44 n (num44 l) (st44 p pl m l)) = shad (bod44 to44 p pl m) n := funext (shad44 p pl m n)
    cases l with
    | l0 x1 x0 x2 => exact (step_eq ..).trans ((head44_0 ..).trans (by rw [ih]; rfl))
    | l4 x4 x3 x1 x0 x2 => exact (step_eq ..).trans ((head44_4 ..).trans (by rw [ih]; rfl))
    | l9 x0 x1 x2 => exact (step_eq ..).trans ((head44_9 ..).trans (by rw [ih]; rfl))
theorem nat44 (p : Partition) (pl : PartitionPlace) (m : List Int) (s : L44 → Option R44) (l : L44) : bod44 to44 p pl m (fun l => (s l).map to44) l = (bod44 id p pl m s l).map to44 := by
  cases l <;> simp only [bod44, map_cond, Option.map_some, Option.map_none, id]
theorem ct44 (p : Partition) (pl : PartitionPlace) (m : List Int) (l : L44) : CT fun j => bod44 id p pl m j l := by
  cases l <;> (dsimp only [bod44]; repeat (first | exact CT.jump _ | exact CT.const _ | apply CT.cond))
noncomputable def spL44 (p : Partition) (pl : PartitionPlace) (m : List Int) : L44 → Option R44 := lfp (bod44 id p pl m)
theorem spL44_eq (p : Partition) (pl : PartitionPlace) (m : List Int) (l : L44) : spL44 p pl m l = bod44 id p pl m (spL44 p pl m) l := lfp_eq (ct44 p pl m) l
noncomputable def spO44 (p : Partition) (pl : PartitionPlace) (m : List Int) : Option R44 := ent44 id p pl m (spL44 p pl m)
noncomputable def sp44 (p : Partition) (pl : PartitionPlace) (m : List Int) : R44 := (spO44 p pl m).getD default
noncomputable def spc44 (p : Partition) (pl : PartitionPlace) (m : List Int) : Bool := (spO44 p pl m).isSome
theorem oks44 (p : Partition) (pl : PartitionPlace) (m : List Int) (hc : spc44 p pl m = true) : Okay Pr GL 44 [.own 0, .agg [.v (.string p.name), .v (.int .i64 p.entry), .v (.int .i64 p.action), .v (.int .i64 p.restarts), .v (.int .i64 p.inputs), .v (.int .i64 p.outputs), .sl .sRegion p.regions, .sl .sPort p.ports], .agg [.v (.int .i64 pl.lock), .v (.int .i64 pl.save), .v (.int .i64 pl.state), .v (.int .i64 pl.root), .sl (.i .i64) pl.tables]] [.arr 57 (.i .u32) m] (to44 (sp44 p pl m)) := by
  obtain ⟨n, h⟩ := auto_ok (nat44 p pl m) (fun s => show ent44 to44 p pl m (fun l => (s l).map to44) = (ent44 id p pl m s).map to44 by simp only [ent44, map_cond, Option.map_some, Option.map_none, id]) (ct44 p pl m) (show CT fun j => ent44 id p pl m j by dsimp only [ent44]; repeat (first | exact CT.jump _ | exact CT.const _ | apply CT.cond)) (isSome_getD hc)
  exact okay_of_run (H := H44) GAok G0ok Tryz.func44 rfl (by kernel_rfl) n (by
    rw [run44]
    rw [show (fun l => runL Pr GA H44 Tryz.f44 n (num44 l) (st44 p pl m l)) = shad (bod44 to44 p pl m) n from funext (shad44 p pl m n)]
    exact h)

/-! ### ref24.lay -/
abbrev R45 := (List Int)
def to45 (r : R45) : Ans := ⟨.tup [], [.arr 57 (.i .u32) r]⟩
inductive L45 where
  | l0 (x0 : Int) (x1 : List Int)
def num45 : L45 → Nat
  | .l0 _ _ => 0
def H45 : Hint := ⟨fun n => [].any (Nat.beq n), hdAt [(0, ⟨fgt [0, 2, 4, 6] 22 0, []⟩)], [], G0, nodp⟩
noncomputable def st45 (p : Partition) (program : (List Int)) (m : List Int) : L45 → St
  | .l0 x0 x1 => ⟨mkE [(0, .own 0), (2, .sl (.i .u32) program), (4, .ref 1 0), (6, .v (.int .i64 x0))] 22 0, [.arr 57 (.i .u32) x1, .cells 70 [.v (.string p.name), .v (.int .i64 p.entry), .v (.int .i64 p.action), .v (.int .i64 p.restarts), .v (.int .i64 p.inputs), .v (.int .i64 p.outputs), .sl .sRegion p.regions, .sl .sPort p.ports]], GL, 1, [], nodp⟩
noncomputable def bod45 {R : Type} (ret : R45 → R) (p : Partition) (program : (List Int)) (m : List Int) (j : L45 → Option R) : L45 → Option R
  | .l0 x0 x1 => cond (decide ((x0 : Int) < program.length))
    (cond (spc87 p x0) (
      cond (inR x0 program.length) (
        cond (inR (sp87 p x0) x1.length) (j (.l0 (IntKind.i64.wrap (x0 + 1)) (List.set x1 ((sp87 p x0).toNat) (atInt program x0.toNat)))) none) none) none)
    (some (ret x1))
noncomputable def ent45 {R : Type} (ret : R45 → R) (p : Partition) (program : (List Int)) (m : List Int) (j : L45 → Option R) : Option R :=
    j (.l0 0 m)
theorem head45_0 (J : Jmp) (p : Partition) (program : (List Int)) (m : List Int) (x0 : Int) (x1 : List Int) : stepAt Pr GA H45 J 0 0 (bodyOf Tryz.f45) (fin Pr H45 Tryz.f45) (st45 p program m (.l0 x0 x1)) = bod45 to45 p program m (fun l => J (num45 l) (st45 p program m l)) (.l0 x0 x1) := by kernel_rfl
theorem run45 (J : Jmp) (p : Partition) (program : (List Int)) (m : List Int) : runF Pr GA H45 J GL Tryz.f45 [.own 0, .agg [.v (.string p.name), .v (.int .i64 p.entry), .v (.int .i64 p.action), .v (.int .i64 p.restarts), .v (.int .i64 p.inputs), .v (.int .i64 p.outputs), .sl .sRegion p.regions, .sl .sPort p.ports], .sl (.i .u32) program] [.arr 57 (.i .u32) m] = ent45 to45 p program m (fun l => J (num45 l) (st45 p program m l)) := by kernel_rfl
theorem shad45 (p : Partition) (program : (List Int)) (m : List Int) : ∀ (n : Nat) (l : L45), runL Pr GA H45 Tryz.f45 n (num45 l) (st45 p program m l) = shad (bod45 to45 p program m) n l
  | 0, l => by cases l <;> rfl
  | n + 1, l => by
    have ih : (fun l => runL Pr GA H45 Tryz.f45 n (num45 l) (st45 p program m l)) = shad (bod45 to45 p program m) n := funext (shad45 p program m n)
    cases l with
    | l0 x0 x1 => exact (step_eq ..).trans ((head45_0 ..).trans (by rw [ih]; rfl))
theorem nat45 (p : Partition) (program : (List Int)) (m : List Int) (s : L45 → Option R45) (l : L45) : bod45 to45 p program m (fun l => (s l).map to45) l = (bod45 id p program m s l).map to45 := by
  cases l <;> simp only [bod45, map_cond, Option.map_some, Option.map_none, id]
theorem ct45 (p : Partition) (program : (List Int)) (m : List Int) (l : L45) : CT fun j => bod45 id p program m j l := by
  cases l <;> (dsimp only [bod45]; repeat (first | exact CT.jump _ | exact CT.const _ | apply CT.cond))
noncomputable def spL45 (p : Partition) (program : (List Int)) (m : List Int) : L45 → Option R45 := lfp (bod45 id p program m)
noncomputable def spO45 (p : Partition) (program : (List Int)) (m : List Int) : Option R45 := ent45 id p program m (spL45 p program m)
noncomputable def sp45 (p : Partition) (program : (List Int)) (m : List Int) : R45 := (spO45 p program m).getD default
noncomputable def spc45 (p : Partition) (program : (List Int)) (m : List Int) : Bool := (spO45 p program m).isSome
theorem oks45 (p : Partition) (program : (List Int)) (m : List Int) (hc : spc45 p program m = true) : Okay Pr GL 45 [.own 0, .agg [.v (.string p.name), .v (.int .i64 p.entry), .v (.int .i64 p.action), .v (.int .i64 p.restarts), .v (.int .i64 p.inputs), .v (.int .i64 p.outputs), .sl .sRegion p.regions, .sl .sPort p.ports], .sl (.i .u32) program] [.arr 57 (.i .u32) m] (to45 (sp45 p program m)) := by
  obtain ⟨n, h⟩ := auto_ok (nat45 p program m) (fun s => show ent45 to45 p program m (fun l => (s l).map to45) = (ent45 id p program m s).map to45 by simp only [ent45, map_cond, Option.map_some, Option.map_none, id]) (ct45 p program m) (show CT fun j => ent45 id p program m j by dsimp only [ent45]; repeat (first | exact CT.jump _ | exact CT.const _ | apply CT.cond)) (isSome_getD hc)
  exact okay_of_run (H := H45) GAok G0ok Tryz.func45 rfl (by kernel_rfl) n (by
    rw [run45]
    rw [show (fun l => runL Pr GA H45 Tryz.f45 n (num45 l) (st45 p program m l)) = shad (bod45 to45 p program m) n from funext (shad45 p program m n)]
    exact h)

/-! ### (*mem.Memory).Read -/
abbrev R86 := Int × Int
def to86 (r : R86) : Ans := ⟨.tup [.v (.int .u32 r.1), .v (.int .i64 r.2)], []⟩
def H86 : Hint := ⟨fun _ => false, fun _ => ⟨[], []⟩, [], G0, nodp⟩
noncomputable def ent86 {R : Type} (ret : R86 → R) (m : (Option MemMemory)) (at_1 : Int) : Option R :=
    cond (spc128 m at_1 1) (
    cond (!(((sp128 m at_1 1) : Int) == 0))
      (some (ret (0, (sp128 m at_1 1))))
      (cond m.isSome (cond (inR at_1 ((m.getD default).words).length) (some (ret (atInt ((m.getD default).words) at_1.toNat, 0))) none) none)) none
theorem run86 (J : Jmp) (m : (Option MemMemory)) (at_1 : Int) : runF Pr GA H86 J GL Tryz.f86 [.op .sMemMemory m, .v (.int .i64 at_1)] [] = ent86 to86 m at_1 := by kernel_rfl
noncomputable def spO86 (m : (Option MemMemory)) (at_1 : Int) : Option R86 := ent86 id m at_1
noncomputable def sp86 (m : (Option MemMemory)) (at_1 : Int) : R86 := (spO86 m at_1).getD default
noncomputable def spc86 (m : (Option MemMemory)) (at_1 : Int) : Bool := (spO86 m at_1).isSome
theorem oks86 (m : (Option MemMemory)) (at_1 : Int) (hc : spc86 m at_1 = true) : Okay Pr GL 86 [.op .sMemMemory m, .v (.int .i64 at_1)] [] (to86 (sp86 m at_1)) :=
  okay_of_run (H := H86) GAok G0ok Tryz.func86 rfl (by kernel_rfl) 0 ((run86 (runL Pr GA H86 Tryz.f86 0) m at_1).trans (auto_ok0 (show ent86 to86 m at_1 = (ent86 id m at_1).map to86 by simp only [ent86, map_cond, Option.map_some, Option.map_none, id]) (isSome_getD hc)))

/-! ### mem.Of -/
abbrev R7 := (Option MemMemory) × Int
def to7 (r : R7) : Ans := ⟨.tup [.op .sMemMemory r.1, .v (.int .i64 r.2)], []⟩
def H7 : Hint := ⟨fun _ => false, fun _ => ⟨[], []⟩, [(.slot 0, .op .sMemMemory)], G0, nodp⟩
noncomputable def ent7 {R : Type} (ret : R7 → R) (words : (List Int)) : Option R :=
    cond (decide ((words.length : Int) > 16384))
    (some (ret (none, 2)))
    (cond ((words.length : Int) == 0)
      (some (ret (none, 50)))
      (cond (!(((bop .rem .i64 words.length 16) : Int) == 0))
        (some (ret (none, 50)))
        (cond (spc24 words) (some (ret ((some (⟨(sp24 words)⟩ : MemMemory)), 0))) none)))
theorem run7 (J : Jmp) (words : (List Int)) : runF Pr GA H7 J GL Tryz.f7 [.sl (.i .u32) words] [] = ent7 to7 words := by kernel_rfl
noncomputable def spO7 (words : (List Int)) : Option R7 := ent7 id words
noncomputable def sp7 (words : (List Int)) : R7 := (spO7 words).getD default
noncomputable def spc7 (words : (List Int)) : Bool := (spO7 words).isSome
theorem oks7 (words : (List Int)) (hc : spc7 words = true) : Okay Pr GL 7 [.sl (.i .u32) words] [] (to7 (sp7 words)) :=
  okay_of_run (H := H7) GAok G0ok Tryz.func7 rfl (by kernel_rfl) 0 ((run7 (runL Pr GA H7 Tryz.f7 0) words).trans (auto_ok0 (show ent7 to7 words = (ent7 id words).map to7 by simp only [ent7, map_cond, Option.map_some, Option.map_none, id]) (isSome_getD hc)))

noncomputable def g9 (args : List AV) (hp : List Blk) : Option (Bool × AV × List Blk) :=
  match hp, args with
  | [], [x0] => (rdS .sConfig x0).bind fun a0 => some ((spc9 a0), .agg [.v (.int .i64 ((sp9 a0).frames)), .v (.int .i64 ((sp9 a0).major)), .v (.int .i64 ((sp9 a0).kernel)), .v (.int .i64 ((sp9 a0).room)), .own 0, .own 1, .own 2], [.arr 66 (.sl .sWindow) ((sp9 a0).cores), .arr 70 .sPartition ((sp9 a0).partitions), .arr 97 .sChannel ((sp9 a0).channels)])
  | _, _ => none
theorem g9_ok {args : List AV} {hp : List Blk} {b : Bool} {r : AV} {hp' : List Blk} (h : g9 args hp = some (b, r, hp')) (hb : b = true) : FnOk Pr 9 ∧ Okay Pr GL 9 args hp ⟨r, hp'⟩ := by
  unfold g9 at h
  split at h
  · simp only [Option.bind_eq_some_iff] at h
    obtain ⟨a0, h0, h⟩ := h
    cases h; exact ⟨fnok Tryz.func9 (by kernel_rfl) rfl, (oks9 a0 hb).ats (.cons (rdS_V h0) .nil)⟩
  · cases h
noncomputable def g54 (args : List AV) (hp : List Blk) : Option (Bool × AV × List Blk) :=
  match hp, args with
  | [], [x0, x1] => (rdS .sConfig x0).bind fun a0 => (rdL (.i .i64) x1).bind fun a1 => some ((spc54 a0 a1), .tup [.v (.int .i64 ((sp54 a0 a1).1)), .v (.bool ((sp54 a0 a1).2))], [])
  | _, _ => none
theorem g54_ok {args : List AV} {hp : List Blk} {b : Bool} {r : AV} {hp' : List Blk} (h : g54 args hp = some (b, r, hp')) (hb : b = true) : FnOk Pr 54 ∧ Okay Pr GL 54 args hp ⟨r, hp'⟩ := by
  unfold g54 at h
  split at h
  · simp only [Option.bind_eq_some_iff] at h
    obtain ⟨a0, h0, a1, h1, h⟩ := h
    cases h; exact ⟨fnok Tryz.func54 (by kernel_rfl) rfl, (oks54 a0 a1 hb).ats (.cons (rdS_V h0) (.cons (rdL_V h1) .nil))⟩
  · cases h
noncomputable def g147 (args : List AV) (hp : List Blk) : Option (Bool × AV × List Blk) :=
  match hp, args with
  | [], [x0] => (rdL .s x0).bind fun a0 => some ((spc147 a0), .v (.bool (sp147 a0)), [])
  | _, _ => none
theorem g147_ok {args : List AV} {hp : List Blk} {b : Bool} {r : AV} {hp' : List Blk} (h : g147 args hp = some (b, r, hp')) (hb : b = true) : FnOk Pr 147 ∧ Okay Pr GL 147 args hp ⟨r, hp'⟩ := by
  unfold g147 at h
  split at h
  · simp only [Option.bind_eq_some_iff] at h
    obtain ⟨a0, h0, h⟩ := h
    cases h; exact ⟨fnok Tryz.func147 (by kernel_rfl) rfl, (oks147 a0 hb).ats (.cons (rdL_V h0) .nil)⟩
  · cases h
noncomputable def g90 (args : List AV) (hp : List Blk) : Option (Bool × AV × List Blk) :=
  match hp, args with
  | [], [x0, x1] => (rdS .sPartition x0).bind fun a0 => (rdL (.i .i64) x1).bind fun a1 => some ((spc90 a0 a1), .v (.bool (sp90 a0 a1)), [])
  | _, _ => none
theorem g90_ok {args : List AV} {hp : List Blk} {b : Bool} {r : AV} {hp' : List Blk} (h : g90 args hp = some (b, r, hp')) (hb : b = true) : FnOk Pr 90 ∧ Okay Pr GL 90 args hp ⟨r, hp'⟩ := by
  unfold g90 at h
  split at h
  · simp only [Option.bind_eq_some_iff] at h
    obtain ⟨a0, h0, a1, h1, h⟩ := h
    cases h; exact ⟨fnok Tryz.func90 (by kernel_rfl) rfl, (oks90 a0 a1 hb).ats (.cons (rdS_V h0) (.cons (rdL_V h1) .nil))⟩
  · cases h
noncomputable def g92 (args : List AV) (hp : List Blk) : Option (Bool × AV × List Blk) :=
  match hp, args with
  | [], [x0, x1, x2] => (rdS .sPartition x0).bind fun a0 => (rdL (.i .i64) x1).bind fun a1 => (rdL .b x2).bind fun a2 => some ((spc92 a0 a1 a2), .v (.int .i64 (sp92 a0 a1 a2)), [])
  | _, _ => none
theorem g92_ok {args : List AV} {hp : List Blk} {b : Bool} {r : AV} {hp' : List Blk} (h : g92 args hp = some (b, r, hp')) (hb : b = true) : FnOk Pr 92 ∧ Okay Pr GL 92 args hp ⟨r, hp'⟩ := by
  unfold g92 at h
  split at h
  · simp only [Option.bind_eq_some_iff] at h
    obtain ⟨a0, h0, a1, h1, a2, h2, h⟩ := h
    cases h; exact ⟨fnok Tryz.func92 (by kernel_rfl) rfl, (oks92 a0 a1 a2 hb).ats (.cons (rdS_V h0) (.cons (rdL_V h1) (.cons (rdL_V h2) .nil)))⟩
  · cases h
noncomputable def g94 (args : List AV) (hp : List Blk) : Option (Bool × AV × List Blk) :=
  match hp, args with
  | [], [x0, x1] => (rdS .sPartition x0).bind fun a0 => (rdL (.i .i64) x1).bind fun a1 => some ((spc94 a0 a1), .v (.bool (sp94 a0 a1)), [])
  | _, _ => none
theorem g94_ok {args : List AV} {hp : List Blk} {b : Bool} {r : AV} {hp' : List Blk} (h : g94 args hp = some (b, r, hp')) (hb : b = true) : FnOk Pr 94 ∧ Okay Pr GL 94 args hp ⟨r, hp'⟩ := by
  unfold g94 at h
  split at h
  · simp only [Option.bind_eq_some_iff] at h
    obtain ⟨a0, h0, a1, h1, h⟩ := h
    cases h; exact ⟨fnok Tryz.func94 (by kernel_rfl) rfl, (oks94 a0 a1 hb).ats (.cons (rdS_V h0) (.cons (rdL_V h1) .nil))⟩
  · cases h
noncomputable def g70 (args : List AV) (hp : List Blk) : Option (Bool × AV × List Blk) :=
  match hp, args with
  | [], [x0, x1] => (rdS .sConfig x0).bind fun a0 => (rdL (.i .i64) x1).bind fun a1 => some ((spc70 a0 a1), .tup [.own 0, .own 1], [.arr 157 .sLayoutEnd ((sp70 a0 a1).1), .arr 157 .sLayoutEnd ((sp70 a0 a1).2)])
  | _, _ => none
theorem g70_ok {args : List AV} {hp : List Blk} {b : Bool} {r : AV} {hp' : List Blk} (h : g70 args hp = some (b, r, hp')) (hb : b = true) : FnOk Pr 70 ∧ Okay Pr GL 70 args hp ⟨r, hp'⟩ := by
  unfold g70 at h
  split at h
  · simp only [Option.bind_eq_some_iff] at h
    obtain ⟨a0, h0, a1, h1, h⟩ := h
    cases h; exact ⟨fnok Tryz.func70 (by kernel_rfl) rfl, (oks70 a0 a1 hb).ats (.cons (rdS_V h0) (.cons (rdL_V h1) .nil))⟩
  · cases h
noncomputable def g63 (args : List AV) (hp : List Blk) : Option (Bool × AV × List Blk) :=
  match hp, args with
  | [], [x0, x1] => (rdS .sConfig x0).bind fun a0 => (rdL (.i .i64) x1).bind fun a1 => some ((spc63 a0 a1), .tup [.v (.int .i64 ((sp63 a0 a1).1)), .v (.int .i64 ((sp63 a0 a1).2))], [])
  | _, _ => none
theorem g63_ok {args : List AV} {hp : List Blk} {b : Bool} {r : AV} {hp' : List Blk} (h : g63 args hp = some (b, r, hp')) (hb : b = true) : FnOk Pr 63 ∧ Okay Pr GL 63 args hp ⟨r, hp'⟩ := by
  unfold g63 at h
  split at h
  · simp only [Option.bind_eq_some_iff] at h
    obtain ⟨a0, h0, a1, h1, h⟩ := h
    cases h; exact ⟨fnok Tryz.func63 (by kernel_rfl) rfl, (oks63 a0 a1 hb).ats (.cons (rdS_V h0) (.cons (rdL_V h1) .nil))⟩
  · cases h
noncomputable def g159 (args : List AV) (hp : List Blk) : Option (Bool × AV × List Blk) :=
  match hp, args with
  | [], [x0] => (rdL (.sl .sAdmitFound) x0).bind fun a0 => some ((spc159 a0), .agg [.v (.int .i64 ((sp159 a0).e)), .v (.int .i64 ((sp159 a0).where_.first)), .v (.int .i64 ((sp159 a0).where_.second))], [])
  | _, _ => none
theorem g159_ok {args : List AV} {hp : List Blk} {b : Bool} {r : AV} {hp' : List Blk} (h : g159 args hp = some (b, r, hp')) (hb : b = true) : FnOk Pr 159 ∧ Okay Pr GL 159 args hp ⟨r, hp'⟩ := by
  unfold g159 at h
  split at h
  · simp only [Option.bind_eq_some_iff] at h
    obtain ⟨a0, h0, h⟩ := h
    cases h; exact ⟨fnok Tryz.func159 (by kernel_rfl) rfl, (oks159 a0 hb).ats (.cons (rdL_V h0) .nil)⟩
  · cases h
noncomputable def g165 (args : List AV) (hp : List Blk) : Option (Bool × AV × List Blk) :=
  match hp, args with
  | [], [x0, x1] => (rdS .sConfig x0).bind fun a0 => (rdL (.i .i64) x1).bind fun a1 => some ((spc165 a0 a1), .tup [.v (.int .i64 ((sp165 a0 a1).1)), .v (.int .i64 ((sp165 a0 a1).2))], [])
  | _, _ => none
theorem g165_ok {args : List AV} {hp : List Blk} {b : Bool} {r : AV} {hp' : List Blk} (h : g165 args hp = some (b, r, hp')) (hb : b = true) : FnOk Pr 165 ∧ Okay Pr GL 165 args hp ⟨r, hp'⟩ := by
  unfold g165 at h
  split at h
  · simp only [Option.bind_eq_some_iff] at h
    obtain ⟨a0, h0, a1, h1, h⟩ := h
    cases h; exact ⟨fnok Tryz.func165 (by kernel_rfl) rfl, (oks165 a0 a1 hb).ats (.cons (rdS_V h0) (.cons (rdL_V h1) .nil))⟩
  · cases h
noncomputable def g166 (args : List AV) (hp : List Blk) : Option (Bool × AV × List Blk) :=
  match hp, args with
  | [], [x0, x1, x2] => (rdS .sConfig x0).bind fun a0 => (rdL (.i .i64) x1).bind fun a1 => (rdL (.i .i64) x2).bind fun a2 => some ((spc166 a0 a1 a2), .v (.bool (sp166 a0 a1 a2)), [])
  | _, _ => none
theorem g166_ok {args : List AV} {hp : List Blk} {b : Bool} {r : AV} {hp' : List Blk} (h : g166 args hp = some (b, r, hp')) (hb : b = true) : FnOk Pr 166 ∧ Okay Pr GL 166 args hp ⟨r, hp'⟩ := by
  unfold g166 at h
  split at h
  · simp only [Option.bind_eq_some_iff] at h
    obtain ⟨a0, h0, a1, h1, a2, h2, h⟩ := h
    cases h; exact ⟨fnok Tryz.func166 (by kernel_rfl) rfl, (oks166 a0 a1 a2 hb).ats (.cons (rdS_V h0) (.cons (rdL_V h1) (.cons (rdL_V h2) .nil)))⟩
  · cases h
noncomputable def g114 (args : List AV) (hp : List Blk) : Option (Bool × AV × List Blk) :=
  match hp, args with
  | [], [x0, x1] => (rdS .sConfig x0).bind fun a0 => (rdS .sPartition x1).bind fun a1 => some ((spc114 a0 a1), .v (.bool (sp114 a0 a1)), [])
  | _, _ => none
theorem g114_ok {args : List AV} {hp : List Blk} {b : Bool} {r : AV} {hp' : List Blk} (h : g114 args hp = some (b, r, hp')) (hb : b = true) : FnOk Pr 114 ∧ Okay Pr GL 114 args hp ⟨r, hp'⟩ := by
  unfold g114 at h
  split at h
  · simp only [Option.bind_eq_some_iff] at h
    obtain ⟨a0, h0, a1, h1, h⟩ := h
    cases h; exact ⟨fnok Tryz.func114 (by kernel_rfl) rfl, (oks114 a0 a1 hb).ats (.cons (rdS_V h0) (.cons (rdS_V h1) .nil))⟩
  · cases h
noncomputable def g173 (args : List AV) (hp : List Blk) : Option (Bool × AV × List Blk) :=
  match hp, args with
  | [], [x0] => (rdL .s x0).bind fun a0 => some ((spc173 a0), .v (.bool (sp173 a0)), [])
  | _, _ => none
theorem g173_ok {args : List AV} {hp : List Blk} {b : Bool} {r : AV} {hp' : List Blk} (h : g173 args hp = some (b, r, hp')) (hb : b = true) : FnOk Pr 173 ∧ Okay Pr GL 173 args hp ⟨r, hp'⟩ := by
  unfold g173 at h
  split at h
  · simp only [Option.bind_eq_some_iff] at h
    obtain ⟨a0, h0, h⟩ := h
    cases h; exact ⟨fnok Tryz.func173 (by kernel_rfl) rfl, (oks173 a0 hb).ats (.cons (rdL_V h0) .nil)⟩
  · cases h
noncomputable def g97 (args : List AV) (hp : List Blk) : Option (Bool × AV × List Blk) :=
  match args, hp with
  | [.v (.int .i64 y0), .v (.int .i64 y1), .v (.int .i64 y2), .v (.int .i64 y3), .v (.int .i64 y4), .ref 0 0], [.cells 124 [.own 1], .arr 127 .sLayoutPiece y5] => some ((spc97 y0 y1 y2 y3 y4 y5), .tup [], [.cells 124 [.own 2], .dead, .arr 127 .sLayoutPiece (sp97 y0 y1 y2 y3 y4 y5)])
  | _, _ => none
theorem g97_ok {args : List AV} {hp : List Blk} {b : Bool} {r : AV} {hp' : List Blk} (h : g97 args hp = some (b, r, hp')) (hb : b = true) : FnOk Pr 97 ∧ Okay Pr GL 97 args hp ⟨r, hp'⟩ := by
  unfold g97 at h
  split at h
  · cases h; exact ⟨fnok Tryz.func97 (by kernel_rfl) rfl, oks97 _ _ _ _ _ _ hb⟩
  · cases h
noncomputable def g28 (args : List AV) (hp : List Blk) : Option (Bool × AV × List Blk) :=
  match hp, args with
  | [], [x0, x1] => (rdL (.sl .sOwner) x0).bind fun a0 => (rdS .sOwner x1).bind fun a1 => some ((spc28 a0 a1), .v (.bool (sp28 a0 a1)), [])
  | _, _ => none
theorem g28_ok {args : List AV} {hp : List Blk} {b : Bool} {r : AV} {hp' : List Blk} (h : g28 args hp = some (b, r, hp')) (hb : b = true) : FnOk Pr 28 ∧ Okay Pr GL 28 args hp ⟨r, hp'⟩ := by
  unfold g28 at h
  split at h
  · simp only [Option.bind_eq_some_iff] at h
    obtain ⟨a0, h0, a1, h1, h⟩ := h
    cases h; exact ⟨fnok Tryz.func28 (by kernel_rfl) rfl, (oks28 a0 a1 hb).ats (.cons (rdL_V h0) (.cons (rdS_V h1) .nil))⟩
  · cases h
noncomputable def g43 (args : List AV) (hp : List Blk) : Option (Bool × AV × List Blk) :=
  match hp, args with
  | [], [x0, x1] => (rdS .sPartition x0).bind fun a0 => (rdL (.sl (.i .u32)) x1).bind fun a1 => some ((spc43 a0 a1), .v (.bool (sp43 a0 a1)), [])
  | _, _ => none
theorem g43_ok {args : List AV} {hp : List Blk} {b : Bool} {r : AV} {hp' : List Blk} (h : g43 args hp = some (b, r, hp')) (hb : b = true) : FnOk Pr 43 ∧ Okay Pr GL 43 args hp ⟨r, hp'⟩ := by
  unfold g43 at h
  split at h
  · simp only [Option.bind_eq_some_iff] at h
    obtain ⟨a0, h0, a1, h1, h⟩ := h
    cases h; exact ⟨fnok Tryz.func43 (by kernel_rfl) rfl, (oks43 a0 a1 hb).ats (.cons (rdS_V h0) (.cons (rdL_V h1) .nil))⟩
  · cases h
noncomputable def g44 (args : List AV) (hp : List Blk) : Option (Bool × AV × List Blk) :=
  match args, hp with
  | [.own 0, .agg [.v (.string y0), .v (.int .i64 y1), .v (.int .i64 y2), .v (.int .i64 y3), .v (.int .i64 y4), .v (.int .i64 y5), .sl .sRegion y6, .sl .sPort y7], .agg [.v (.int .i64 y8), .v (.int .i64 y9), .v (.int .i64 y10), .v (.int .i64 y11), .sl (.i .i64) y12]], [.arr 57 (.i .u32) y13] => some ((spc44 (⟨y0, y1, y2, y3, y4, y5, y6, y7⟩ : Partition) (⟨y8, y9, y10, y11, y12⟩ : PartitionPlace) y13), .tup [], [.arr 57 (.i .u32) (sp44 (⟨y0, y1, y2, y3, y4, y5, y6, y7⟩ : Partition) (⟨y8, y9, y10, y11, y12⟩ : PartitionPlace) y13)])
  | _, _ => none
theorem g44_ok {args : List AV} {hp : List Blk} {b : Bool} {r : AV} {hp' : List Blk} (h : g44 args hp = some (b, r, hp')) (hb : b = true) : FnOk Pr 44 ∧ Okay Pr GL 44 args hp ⟨r, hp'⟩ := by
  unfold g44 at h
  split at h
  · cases h; have q := oks44 _ _ _ hb; exact ⟨fnok Tryz.func44 (by kernel_rfl) rfl, q⟩
  · cases h
noncomputable def g45 (args : List AV) (hp : List Blk) : Option (Bool × AV × List Blk) :=
  match args, hp with
  | [.own 0, .agg [.v (.string y0), .v (.int .i64 y1), .v (.int .i64 y2), .v (.int .i64 y3), .v (.int .i64 y4), .v (.int .i64 y5), .sl .sRegion y6, .sl .sPort y7], .sl (.i .u32) y8], [.arr 57 (.i .u32) y9] => some ((spc45 (⟨y0, y1, y2, y3, y4, y5, y6, y7⟩ : Partition) y8 y9), .tup [], [.arr 57 (.i .u32) (sp45 (⟨y0, y1, y2, y3, y4, y5, y6, y7⟩ : Partition) y8 y9)])
  | _, _ => none
theorem g45_ok {args : List AV} {hp : List Blk} {b : Bool} {r : AV} {hp' : List Blk} (h : g45 args hp = some (b, r, hp')) (hb : b = true) : FnOk Pr 45 ∧ Okay Pr GL 45 args hp ⟨r, hp'⟩ := by
  unfold g45 at h
  split at h
  · cases h; have q := oks45 _ _ _ hb; exact ⟨fnok Tryz.func45 (by kernel_rfl) rfl, q⟩
  · cases h
noncomputable def g86 (args : List AV) (hp : List Blk) : Option (Bool × AV × List Blk) :=
  match hp, args with
  | [], [x0, x1] => (rdL (.p .sMemMemory) x0).bind fun a0 => (rdL (.i .i64) x1).bind fun a1 => some ((spc86 a0 a1), .tup [.v (.int .u32 ((sp86 a0 a1).1)), .v (.int .i64 ((sp86 a0 a1).2))], [])
  | _, _ => none
theorem g86_ok {args : List AV} {hp : List Blk} {b : Bool} {r : AV} {hp' : List Blk} (h : g86 args hp = some (b, r, hp')) (hb : b = true) : FnOk Pr 86 ∧ Okay Pr GL 86 args hp ⟨r, hp'⟩ := by
  unfold g86 at h
  split at h
  · simp only [Option.bind_eq_some_iff] at h
    obtain ⟨a0, h0, a1, h1, h⟩ := h
    cases h; exact ⟨fnok Tryz.func86 (by kernel_rfl) rfl, (oks86 a0 a1 hb).ats (.cons (rdL_V h0) (.cons (rdL_V h1) .nil))⟩
  · cases h
noncomputable def g7 (args : List AV) (hp : List Blk) : Option (Bool × AV × List Blk) :=
  match hp, args with
  | [], [x0] => (rdL (.sl (.i .u32)) x0).bind fun a0 => some ((spc7 a0), .tup [.op .sMemMemory ((sp7 a0).1), .v (.int .i64 ((sp7 a0).2))], [])
  | _, _ => none
theorem g7_ok {args : List AV} {hp : List Blk} {b : Bool} {r : AV} {hp' : List Blk} (h : g7 args hp = some (b, r, hp')) (hb : b = true) : FnOk Pr 7 ∧ Okay Pr GL 7 args hp ⟨r, hp'⟩ := by
  unfold g7 at h
  split at h
  · simp only [Option.bind_eq_some_iff] at h
    obtain ⟨a0, h0, h⟩ := h
    cases h; exact ⟨fnok Tryz.func7 (by kernel_rfl) rfl, (oks7 a0 hb).ats (.cons (rdL_V h0) .nil)⟩
  · cases h
noncomputable def GB : Gam := fun c args hp => match c with
  | .f f => pick1 9 f (g9 args hp) (pick1 54 f (g54 args hp) (pick1 147 f (g147 args hp) (pick1 90 f (g90 args hp) (pick1 92 f (g92 args hp) (pick1 94 f (g94 args hp) (pick1 70 f (g70 args hp) (pick1 63 f (g63 args hp) (pick1 159 f (g159 args hp) (pick1 165 f (g165 args hp) (pick1 166 f (g166 args hp) (pick1 114 f (g114 args hp) (pick1 173 f (g173 args hp) (pick1 97 f (g97 args hp) (pick1 28 f (g28 args hp) (pick1 43 f (g43 args hp) (pick1 44 f (g44 args hp) (pick1 45 f (g45 args hp) (pick1 86 f (g86 args hp) (pick1 7 f (g7 args hp) (GA (.f f) args hp))))))))))))))))))))
  | .c x => GA (.c x) args hp
theorem GBok : GOk Pr GL GB := by
  intro c args hp b r hp' h hb
  cases c with
  | f f =>
    simp only [GB] at h
    rcases pick1_ok h with ⟨rfl, h⟩ | h
    · exact g9_ok h hb
    rcases pick1_ok h with ⟨rfl, h⟩ | h
    · exact g54_ok h hb
    rcases pick1_ok h with ⟨rfl, h⟩ | h
    · exact g147_ok h hb
    rcases pick1_ok h with ⟨rfl, h⟩ | h
    · exact g90_ok h hb
    rcases pick1_ok h with ⟨rfl, h⟩ | h
    · exact g92_ok h hb
    rcases pick1_ok h with ⟨rfl, h⟩ | h
    · exact g94_ok h hb
    rcases pick1_ok h with ⟨rfl, h⟩ | h
    · exact g70_ok h hb
    rcases pick1_ok h with ⟨rfl, h⟩ | h
    · exact g63_ok h hb
    rcases pick1_ok h with ⟨rfl, h⟩ | h
    · exact g159_ok h hb
    rcases pick1_ok h with ⟨rfl, h⟩ | h
    · exact g165_ok h hb
    rcases pick1_ok h with ⟨rfl, h⟩ | h
    · exact g166_ok h hb
    rcases pick1_ok h with ⟨rfl, h⟩ | h
    · exact g114_ok h hb
    rcases pick1_ok h with ⟨rfl, h⟩ | h
    · exact g173_ok h hb
    rcases pick1_ok h with ⟨rfl, h⟩ | h
    · exact g97_ok h hb
    rcases pick1_ok h with ⟨rfl, h⟩ | h
    · exact g28_ok h hb
    rcases pick1_ok h with ⟨rfl, h⟩ | h
    · exact g43_ok h hb
    rcases pick1_ok h with ⟨rfl, h⟩ | h
    · exact g44_ok h hb
    rcases pick1_ok h with ⟨rfl, h⟩ | h
    · exact g45_ok h hb
    rcases pick1_ok h with ⟨rfl, h⟩ | h
    · exact g86_ok h hb
    rcases pick1_ok h with ⟨rfl, h⟩ | h
    · exact g7_ok h hb
    exact GAok (.f f) args hp b r hp' h hb
  | c x => exact GAok (.c x) args hp b r hp' h hb
end Go.Proofs.YtgfifnadfmaolaaGreatDoor
