/- Shadows of functions (printed by pr2.py off the model's code; the kernel holds each equation to it), and what they answer. -/
import Derived.Test.YtgfifnadfmaolaaGreatDoorP7
namespace Go.Proofs.YtgfifnadfmaolaaGreatDoor
open Go.RowKit
set_option linter.unusedVariables false
set_option linter.unusedSimpArgs false
/-! ### ref16.area -/
abbrev R62 := Bool
def to62 (r : R62) : Ans := ⟨.v (.bool r), []⟩
inductive L62 where
  | l0 (x0 : Int)
  | l4 (x1 : Int) (x0 : Int)
def num62 : L62 → Nat
  | .l0 _ => 0
  | .l4 _ _ => 4
def H62 : Hint := ⟨fun n => [].any (Nat.beq n), hdAt [(0, ⟨fgt [1, 3, 70, 71, 72, 73] 75 0, []⟩), (4, ⟨fgt [1, 3, 4, 70, 71, 72, 73] 75 0, []⟩)], [], G0, nodp⟩
noncomputable def st62 (c : Config) : L62 → St
  | .l0 x0 => ⟨mkE [(1, .ref 0 0), (3, .v (.int .i64 x0))] 75 0, [.cells 26 [.v (.int .i64 c.frames), .v (.int .i64 c.major), .v (.int .i64 c.kernel), .v (.int .i64 c.room), .sl (.sl .sWindow) c.cores, .sl .sPartition c.partitions, .sl .sChannel c.channels]], GL, 0, [], nodp⟩
  | .l4 x1 x0 => ⟨mkE [(1, .ref 0 0), (3, .v (.int .i64 x1)), (4, .v (.int .i64 x0))] 75 0, [.cells 26 [.v (.int .i64 c.frames), .v (.int .i64 c.major), .v (.int .i64 c.kernel), .v (.int .i64 c.room), .sl (.sl .sWindow) c.cores, .sl .sPartition c.partitions, .sl .sChannel c.channels]], GL, 0, [], nodp⟩
noncomputable def bod62 {R : Type} (ret : R62 → R) (c : Config) (j : L62 → Option R) : L62 → Option R
  | .l0 x0 => cond (decide ((x0 : Int) < c.partitions.length))
    (j (.l4 x0 0))
    (cond (spc106 c) (cond (((sp106 c).2 : Int) == 0)
        (some (ret (decide (((sp106 c).1 : Int) ≤ c.room))))
        (some (ret false))) none)
  | .l4 x1 x0 => cond (inR x1 c.partitions.length) (
    cond (decide ((x0 : Int) < ((atPartition c.partitions x1.toNat).regions).length))
      (cond (inR x1 c.partitions.length) (
        cond (inR x0 ((atPartition c.partitions x1.toNat).regions).length) (
          cond (sp105 ((atRegion ((atPartition c.partitions x1.toNat).regions) x0.toNat).frame) ((atRegion ((atPartition c.partitions x1.toNat).regions) x0.toNat).pages) c.kernel c.room)
            (some (ret false))
            (j (.l4 x1 (IntKind.i64.wrap (x0 + 1))))) none) none)
      (j (.l0 (IntKind.i64.wrap (x1 + 1))))) none
noncomputable def ent62 {R : Type} (ret : R62 → R) (c : Config) (j : L62 → Option R) : Option R :=
    cond (!(sp99 c.kernel 0 (IntKind.i64.wrap (c.frames - 1))))
    (some (ret false))
    (cond (!(sp99 c.room 1 (IntKind.i64.wrap (c.frames - c.kernel))))
      (some (ret false))
      (j (.l0 0)))
theorem head62_0 (J : Jmp) (c : Config) (x0 : Int) : stepAt Pr GH H62 J 0 0 (bodyOf Tryz.f62) (fin Pr H62 Tryz.f62) (st62 c (.l0 x0)) = bod62 to62 c (fun l => J (num62 l) (st62 c l)) (.l0 x0) := by kernel_rfl
theorem head62_4 (J : Jmp) (c : Config) (x1 : Int) (x0 : Int) : stepAt Pr GH H62 J 4 0 (bodyOf Tryz.f62) (fin Pr H62 Tryz.f62) (st62 c (.l4 x1 x0)) = bod62 to62 c (fun l => J (num62 l) (st62 c l)) (.l4 x1 x0) := by kernel_rfl
theorem run62 (J : Jmp) (c : Config) : runF Pr GH H62 J GL Tryz.f62 [(aCfg c)] [] = ent62 to62 c (fun l => J (num62 l) (st62 c l)) := by kernel_rfl
theorem shad62 (c : Config) : ∀ (n : Nat) (l : L62), runL Pr GH H62 Tryz.f62 n (num62 l) (st62 c l) = shad (bod62 to62 c) n l
  | 0, l => by cases l <;> rfl
  | n + 1, l => by
    have ih : (fun l => runL Pr GH H62 Tryz.f62 n (num62 l) (st62 c l)) = shad (bod62 to62 c) n := funext (shad62 c n)
    cases l with
    | l0 x0 => exact (step_eq ..).trans ((head62_0 ..).trans (by rw [ih]; rfl))
    | l4 x1 x0 => exact (step_eq ..).trans ((head62_4 ..).trans (by rw [ih]; rfl))
theorem nat62 (c : Config) (s : L62 → Option R62) (l : L62) : bod62 to62 c (fun l => (s l).map to62) l = (bod62 id c s l).map to62 := by
  cases l <;> simp only [bod62, map_cond, Option.map_some, Option.map_none, id]
theorem ct62 (c : Config) (l : L62) : CT fun j => bod62 id c j l := by
  cases l <;> (dsimp only [bod62]; repeat (first | exact CT.jump _ | exact CT.const _ | apply CT.cond))
noncomputable def spL62 (c : Config) : L62 → Option R62 := lfp (bod62 id c)
theorem spL62_eq (c : Config) (l : L62) : spL62 c l = bod62 id c (spL62 c) l := lfp_eq (ct62 c) l
noncomputable def spO62 (c : Config) : Option R62 := ent62 id c (spL62 c)
noncomputable def sp62 (c : Config) : R62 := (spO62 c).getD default
noncomputable def spc62 (c : Config) : Bool := (spO62 c).isSome
theorem oks62 (c : Config) (hc : spc62 c = true) : Okay Pr GL 62 [(aCfg c)] [] (to62 (sp62 c)) := by
  obtain ⟨n, h⟩ := auto_ok (nat62 c) (fun s => show ent62 to62 c (fun l => (s l).map to62) = (ent62 id c s).map to62 by simp only [ent62, map_cond, Option.map_some, Option.map_none, id]) (ct62 c) (show CT fun j => ent62 id c j by dsimp only [ent62]; repeat (first | exact CT.jump _ | exact CT.const _ | apply CT.cond)) (isSome_getD hc)
  exact okay_of_run (H := H62) GHok G0ok Tryz.func62 rfl (by kernel_rfl) n (by
    rw [run62]
    rw [show (fun l => runL Pr GH H62 Tryz.f62 n (num62 l) (st62 c l)) = shad (bod62 to62 c) n from funext (shad62 c n)]
    exact h)

/-! ### layout.Owner -/
abbrev R27 := Owner × Int
def to27 (r : R27) : Ans := ⟨.tup [.agg [.v (.int .i64 r.1.kind), .v (.int .i64 r.1.index), .v (.int .i64 r.1.port)], .v (.int .i64 r.2)], []⟩
inductive L27 where
  | l0 (x0 : Int)
def num27 : L27 → Nat
  | .l0 _ => 0
def H27 : Hint := ⟨fun n => [].any (Nat.beq n), hdAt [(0, ⟨fgt [1, 2, 4, 35, 36, 37] 68 0, []⟩)], [], G0, nodp⟩
noncomputable def st27 (c : Config) (at_1 : Int) : L27 → St
  | .l0 x0 => ⟨mkE [(1, .v (.int .i64 at_1)), (2, .ref 0 0), (4, .ref 1 0), (35, .own 2), (36, .v (.int .i64 ((sp53 c ((sp36 c).1)).length))), (37, .v (.int .i64 x0))] 68 0, [.cells 26 [.v (.int .i64 c.frames), .v (.int .i64 c.major), .v (.int .i64 c.kernel), .v (.int .i64 c.room), .sl (.sl .sWindow) c.cores, .sl .sPartition c.partitions, .sl .sChannel c.channels], .cells 42 [.v (.int .i64 0), .v (.int .i64 0), .v (.int .i64 0)], .arr 127 .sLayoutPiece (sp53 c ((sp36 c).1))], GL, 0, [], nodp⟩
noncomputable def bod27 {R : Type} (ret : R27 → R) (c : Config) (at_1 : Int) (j : L27 → Option R) : L27 → Option R
  | .l0 x0 => cond (decide ((x0 : Int) < (sp53 c ((sp36 c).1)).length))
    (cond (inR x0 (sp53 c ((sp36 c).1)).length) (
      cond (decide ((at_1 : Int) ≥ (atLayoutPiece (sp53 c ((sp36 c).1)) x0.toNat).at_))
        (cond (decide ((at_1 : Int) < (IntKind.i64.wrap ((atLayoutPiece (sp53 c ((sp36 c).1)) x0.toNat).at_ + (atLayoutPiece (sp53 c ((sp36 c).1)) x0.toNat).many))))
          (some (ret ((atLayoutPiece (sp53 c ((sp36 c).1)) x0.toNat).owner, 0)))
          (j (.l0 (IntKind.i64.wrap (x0 + 1)))))
        (j (.l0 (IntKind.i64.wrap (x0 + 1))))) none)
    (cond (spc54 c (bop .quo .i64 at_1 16)) (
      cond ((sp54 c (bop .quo .i64 at_1 16)).2)
        (some (ret ((⟨1, (sp54 c (bop .quo .i64 at_1 16)).1, 0⟩ : Owner), 0)))
        (some (ret ((⟨0, 0, 0⟩ : Owner), 0)))) none)
noncomputable def ent27 {R : Type} (ret : R27 → R) (c : Config) (at_1 : Int) (j : L27 → Option R) : Option R :=
    cond (spc36 c) (
    cond (!(((sp36 c).2 : Int) == 0))
      (some (ret ((⟨0, 0, 0⟩ : Owner), (sp36 c).2)))
      (cond (decide ((at_1 : Int) < 0))
        (some (ret ((⟨0, 0, 0⟩ : Owner), 151)))
        (cond (decide ((at_1 : Int) ≥ (IntKind.i64.wrap (16 * (mn (mx c.frames 0) 1024)))))
          (some (ret ((⟨0, 0, 0⟩ : Owner), 151)))
          (cond (spc53 c ((sp36 c).1)) (j (.l0 0)) none)))) none
theorem head27_0 (J : Jmp) (c : Config) (at_1 : Int) (x0 : Int) : stepAt Pr GH H27 J 0 0 (bodyOf Tryz.f27) (fin Pr H27 Tryz.f27) (st27 c at_1 (.l0 x0)) = bod27 to27 c at_1 (fun l => J (num27 l) (st27 c at_1 l)) (.l0 x0) := by kernel_rfl
theorem run27 (J : Jmp) (c : Config) (at_1 : Int) : runF Pr GH H27 J GL Tryz.f27 [(aCfg c), .v (.int .i64 at_1)] [] = ent27 to27 c at_1 (fun l => J (num27 l) (st27 c at_1 l)) := by kernel_rfl
theorem shad27 (c : Config) (at_1 : Int) : ∀ (n : Nat) (l : L27), runL Pr GH H27 Tryz.f27 n (num27 l) (st27 c at_1 l) = shad (bod27 to27 c at_1) n l
  | 0, l => by cases l <;> rfl
  | n + 1, l => by
    have ih : (fun l => runL Pr GH H27 Tryz.f27 n (num27 l) (st27 c at_1 l)) = shad (bod27 to27 c at_1) n := funext (shad27 c at_1 n)
    cases l with
    | l0 x0 => exact (step_eq ..).trans ((head27_0 ..).trans (by rw [ih]; rfl))
theorem nat27 (c : Config) (at_1 : Int) (s : L27 → Option R27) (l : L27) : bod27 to27 c at_1 (fun l => (s l).map to27) l = (bod27 id c at_1 s l).map to27 := by
  cases l <;> simp only [bod27, map_cond, Option.map_some, Option.map_none, id]
theorem ct27 (c : Config) (at_1 : Int) (l : L27) : CT fun j => bod27 id c at_1 j l := by
  cases l <;> (dsimp only [bod27]; repeat (first | exact CT.jump _ | exact CT.const _ | apply CT.cond))
noncomputable def spL27 (c : Config) (at_1 : Int) : L27 → Option R27 := lfp (bod27 id c at_1)
theorem spL27_eq (c : Config) (at_1 : Int) (l : L27) : spL27 c at_1 l = bod27 id c at_1 (spL27 c at_1) l := lfp_eq (ct27 c at_1) l
noncomputable def spO27 (c : Config) (at_1 : Int) : Option R27 := ent27 id c at_1 (spL27 c at_1)
noncomputable def sp27 (c : Config) (at_1 : Int) : R27 := (spO27 c at_1).getD default
noncomputable def spc27 (c : Config) (at_1 : Int) : Bool := (spO27 c at_1).isSome
theorem oks27 (c : Config) (at_1 : Int) (hc : spc27 c at_1 = true) : Okay Pr GL 27 [(aCfg c), .v (.int .i64 at_1)] [] (to27 (sp27 c at_1)) := by
  obtain ⟨n, h⟩ := auto_ok (nat27 c at_1) (fun s => show ent27 to27 c at_1 (fun l => (s l).map to27) = (ent27 id c at_1 s).map to27 by simp only [ent27, map_cond, Option.map_some, Option.map_none, id]) (ct27 c at_1) (show CT fun j => ent27 id c at_1 j by dsimp only [ent27]; repeat (first | exact CT.jump _ | exact CT.const _ | apply CT.cond)) (isSome_getD hc)
  exact okay_of_run (H := H27) GHok G0ok Tryz.func27 rfl (by kernel_rfl) n (by
    rw [run27]
    rw [show (fun l => runL Pr GH H27 Tryz.f27 n (num27 l) (st27 c at_1 l)) = shad (bod27 to27 c at_1) n from funext (shad27 c at_1 n)]
    exact h)

/-! ### admit.kernel -/
abbrev R144 := Bool
def to144 (r : R144) : Ans := ⟨.v (.bool r), []⟩
inductive L144 where
  | l0 (x0 : Int)
  | l4 (x1 : Int) (x2 : List Region) (x3 : Int) (x0 : Int)
def num144 : L144 → Nat
  | .l0 _ => 0
  | .l4 _ _ _ _ => 4
def H144 : Hint := ⟨fun n => [].any (Nat.beq n), hdAt [(0, ⟨fgt [1, 28, 29, 30, 60, 61, 62, 63] 65 0, []⟩), (4, ⟨fgt [1, 28, 29, 30, 35, 36, 37, 60, 61, 62, 63] 65 0, []⟩)], [], G0, nodp⟩
noncomputable def st144 (c : Config) : L144 → St
  | .l0 x0 => ⟨mkE [(1, .ref 0 0), (28, .sl .sPartition c.partitions), (29, .v (.int .i64 c.partitions.length)), (30, .v (.int .i64 x0))] 65 0, [.cells 26 [.v (.int .i64 c.frames), .v (.int .i64 c.major), .v (.int .i64 c.kernel), .v (.int .i64 c.room), .sl (.sl .sWindow) c.cores, .sl .sPartition c.partitions, .sl .sChannel c.channels]], GL, 0, [], nodp⟩
  | .l4 x1 x2 x3 x0 => ⟨mkE [(1, .ref 0 0), (28, .sl .sPartition c.partitions), (29, .v (.int .i64 c.partitions.length)), (30, .v (.int .i64 x1)), (35, .sl .sRegion x2), (36, .v (.int .i64 x3)), (37, .v (.int .i64 x0))] 65 0, [.cells 26 [.v (.int .i64 c.frames), .v (.int .i64 c.major), .v (.int .i64 c.kernel), .v (.int .i64 c.room), .sl (.sl .sWindow) c.cores, .sl .sPartition c.partitions, .sl .sChannel c.channels]], GL, 0, [], nodp⟩
noncomputable def bod144 {R : Type} (ret : R144 → R) (c : Config) (j : L144 → Option R) : L144 → Option R
  | .l0 x0 => cond (decide ((x0 : Int) < c.partitions.length))
    (cond (inR x0 c.partitions.length) (j (.l4 x0 ((atPartition c.partitions x0.toNat).regions) (((atPartition c.partitions x0.toNat).regions).length) 0)) none)
    (cond (spc168 c) (cond (((sp168 c).2 : Int) == 0)
        (some (ret (decide (((sp168 c).1 : Int) ≤ c.room))))
        (some (ret false))) none)
  | .l4 x1 x2 x3 x0 => cond (decide ((x0 : Int) < x3))
    (cond (inR x0 x2.length) (
      cond (sp167 ((atRegion x2 x0.toNat).frame) ((atRegion x2 x0.toNat).pages) c.kernel c.room)
        (some (ret false))
        (j (.l4 x1 x2 x3 (IntKind.i64.wrap (x0 + 1))))) none)
    (j (.l0 (IntKind.i64.wrap (x1 + 1))))
noncomputable def ent144 {R : Type} (ret : R144 → R) (c : Config) (j : L144 → Option R) : Option R :=
    cond (!(sp132 c.kernel 0 (IntKind.i64.wrap (c.frames - 1))))
    (some (ret false))
    (cond (!(sp132 c.room 1 (IntKind.i64.wrap (c.frames - c.kernel))))
      (some (ret false))
      (j (.l0 0)))
theorem head144_0 (J : Jmp) (c : Config) (x0 : Int) : stepAt Pr GH H144 J 0 0 (bodyOf Tryz.f144) (fin Pr H144 Tryz.f144) (st144 c (.l0 x0)) = bod144 to144 c (fun l => J (num144 l) (st144 c l)) (.l0 x0) := by kernel_rfl
theorem head144_4 (J : Jmp) (c : Config) (x1 : Int) (x2 : List Region) (x3 : Int) (x0 : Int) : stepAt Pr GH H144 J 4 0 (bodyOf Tryz.f144) (fin Pr H144 Tryz.f144) (st144 c (.l4 x1 x2 x3 x0)) = bod144 to144 c (fun l => J (num144 l) (st144 c l)) (.l4 x1 x2 x3 x0) := by kernel_rfl
theorem run144 (J : Jmp) (c : Config) : runF Pr GH H144 J GL Tryz.f144 [(aCfg c)] [] = ent144 to144 c (fun l => J (num144 l) (st144 c l)) := by kernel_rfl
theorem shad144 (c : Config) : ∀ (n : Nat) (l : L144), runL Pr GH H144 Tryz.f144 n (num144 l) (st144 c l) = shad (bod144 to144 c) n l
  | 0, l => by cases l <;> rfl
  | n + 1, l => by
    have ih : (fun l => runL Pr GH H144 Tryz.f144 n (num144 l) (st144 c l)) = shad (bod144 to144 c) n := funext (shad144 c n)
    cases l with
    | l0 x0 => exact (step_eq ..).trans ((head144_0 ..).trans (by rw [ih]; rfl))
    | l4 x1 x2 x3 x0 => exact (step_eq ..).trans ((head144_4 ..).trans (by rw [ih]; rfl))
theorem nat144 (c : Config) (s : L144 → Option R144) (l : L144) : bod144 to144 c (fun l => (s l).map to144) l = (bod144 id c s l).map to144 := by
  cases l <;> simp only [bod144, map_cond, Option.map_some, Option.map_none, id]
theorem ct144 (c : Config) (l : L144) : CT fun j => bod144 id c j l := by
  cases l <;> (dsimp only [bod144]; repeat (first | exact CT.jump _ | exact CT.const _ | apply CT.cond))
noncomputable def spL144 (c : Config) : L144 → Option R144 := lfp (bod144 id c)
theorem spL144_eq (c : Config) (l : L144) : spL144 c l = bod144 id c (spL144 c) l := lfp_eq (ct144 c) l
noncomputable def spO144 (c : Config) : Option R144 := ent144 id c (spL144 c)
noncomputable def sp144 (c : Config) : R144 := (spO144 c).getD default
noncomputable def spc144 (c : Config) : Bool := (spO144 c).isSome
theorem oks144 (c : Config) (hc : spc144 c = true) : Okay Pr GL 144 [(aCfg c)] [] (to144 (sp144 c)) := by
  obtain ⟨n, h⟩ := auto_ok (nat144 c) (fun s => show ent144 to144 c (fun l => (s l).map to144) = (ent144 id c s).map to144 by simp only [ent144, map_cond, Option.map_some, Option.map_none, id]) (ct144 c) (show CT fun j => ent144 id c j by dsimp only [ent144]; repeat (first | exact CT.jump _ | exact CT.const _ | apply CT.cond)) (isSome_getD hc)
  exact okay_of_run (H := H144) GHok G0ok Tryz.func144 rfl (by kernel_rfl) n (by
    rw [run144]
    rw [show (fun l => runL Pr GH H144 Tryz.f144 n (num144 l) (st144 c l)) = shad (bod144 to144 c) n from funext (shad144 c n)]
    exact h)

noncomputable def g62 (args : List AV) (hp : List Blk) : Option (Bool × AV × List Blk) :=
  match hp, args with
  | [], [x0] => (rdS .sConfig x0).bind fun a0 => some ((spc62 a0), .v (.bool (sp62 a0)), [])
  | _, _ => none
theorem g62_ok {args : List AV} {hp : List Blk} {b : Bool} {r : AV} {hp' : List Blk} (h : g62 args hp = some (b, r, hp')) (hb : b = true) : FnOk Pr 62 ∧ Okay Pr GL 62 args hp ⟨r, hp'⟩ := by
  unfold g62 at h
  split at h
  · simp only [Option.bind_eq_some_iff] at h
    obtain ⟨a0, h0, h⟩ := h
    cases h; exact ⟨fnok Tryz.func62 (by kernel_rfl) rfl, (oks62 a0 hb).ats (.cons (rdS_V h0) .nil)⟩
  · cases h
noncomputable def g27 (args : List AV) (hp : List Blk) : Option (Bool × AV × List Blk) :=
  match hp, args with
  | [], [x0, x1] => (rdS .sConfig x0).bind fun a0 => (rdL (.i .i64) x1).bind fun a1 => some ((spc27 a0 a1), .tup [.agg [.v (.int .i64 ((sp27 a0 a1).1.kind)), .v (.int .i64 ((sp27 a0 a1).1.index)), .v (.int .i64 ((sp27 a0 a1).1.port))], .v (.int .i64 ((sp27 a0 a1).2))], [])
  | _, _ => none
theorem g27_ok {args : List AV} {hp : List Blk} {b : Bool} {r : AV} {hp' : List Blk} (h : g27 args hp = some (b, r, hp')) (hb : b = true) : FnOk Pr 27 ∧ Okay Pr GL 27 args hp ⟨r, hp'⟩ := by
  unfold g27 at h
  split at h
  · simp only [Option.bind_eq_some_iff] at h
    obtain ⟨a0, h0, a1, h1, h⟩ := h
    cases h; exact ⟨fnok Tryz.func27 (by kernel_rfl) rfl, (oks27 a0 a1 hb).ats (.cons (rdS_V h0) (.cons (rdL_V h1) .nil))⟩
  · cases h
noncomputable def g144 (args : List AV) (hp : List Blk) : Option (Bool × AV × List Blk) :=
  match hp, args with
  | [], [x0] => (rdS .sConfig x0).bind fun a0 => some ((spc144 a0), .v (.bool (sp144 a0)), [])
  | _, _ => none
theorem g144_ok {args : List AV} {hp : List Blk} {b : Bool} {r : AV} {hp' : List Blk} (h : g144 args hp = some (b, r, hp')) (hb : b = true) : FnOk Pr 144 ∧ Okay Pr GL 144 args hp ⟨r, hp'⟩ := by
  unfold g144 at h
  split at h
  · simp only [Option.bind_eq_some_iff] at h
    obtain ⟨a0, h0, h⟩ := h
    cases h; exact ⟨fnok Tryz.func144 (by kernel_rfl) rfl, (oks144 a0 hb).ats (.cons (rdS_V h0) .nil)⟩
  · cases h
noncomputable def GI : Gam := fun c args hp => match c with
  | .f f => pick1 62 f (g62 args hp) (pick1 27 f (g27 args hp) (pick1 144 f (g144 args hp) (GH (.f f) args hp)))
  | .c x => GH (.c x) args hp
theorem GIok : GOk Pr GL GI := by
  intro c args hp b r hp' h hb
  cases c with
  | f f =>
    simp only [GI] at h
    rcases pick1_ok h with ⟨rfl, h⟩ | h
    · exact g62_ok h hb
    rcases pick1_ok h with ⟨rfl, h⟩ | h
    · exact g27_ok h hb
    rcases pick1_ok h with ⟨rfl, h⟩ | h
    · exact g144_ok h hb
    exact GHok (.f f) args hp b r hp' h hb
  | c x => exact GHok (.c x) args hp b r hp' h hb
end Go.Proofs.YtgfifnadfmaolaaGreatDoor
