/- Shadows of functions (printed by pr2.py off the model's code; the kernel holds each equation to it), and what they answer. -/
import Derived.Test.YthnkmndjhedgdaaDoorP3
namespace Go.Proofs.YthnkmndjhedgdaaDoor
open Go.RowKit
set_option linter.unusedVariables false
set_option linter.unusedSimpArgs false
/-! ### ref16.partition -/
abbrev R18 := Int × Where
def to18 (r : R18) : Ans := ⟨.tup [.v (.int .i64 r.1), .agg [.v (.int .i64 r.2.first), .v (.int .i64 r.2.second)]], []⟩
inductive L18 where
  | l2 (x0 : Int)
  | l6 (x0 : Int)
def num18 : L18 → Nat
  | .l2 _ => 2
  | .l6 _ => 6
def H18 : Hint := ⟨fun n => [].any (Nat.beq n), hdAt [(2, ⟨fgt [1, 2, 5, 6, 7] 107 0, []⟩), (6, ⟨fgt [1, 2, 5, 6, 9] 107 0, []⟩)], [], G0, nodp⟩
noncomputable def st18 (c : Config) (p : Int) : L18 → St
  | .l2 x0 => ⟨mkE [(1, .v (.int .i64 p)), (2, .ref 0 0), (5, .ref 1 0), (6, .ref 2 0), (7, .v (.int .i64 x0))] 107 0, [.cells 26 [.v (.int .i64 c.frames), .v (.int .i64 c.major), .v (.int .i64 c.kernel), .v (.int .i64 c.room), .sl (.sl .sWindow) c.cores, .sl .sPartition c.partitions, .sl .sChannel c.channels], .cells 36 [.v (.int .i64 0), .v (.int .i64 0)], .cells 48 [.v (.string ((atPartition c.partitions p.toNat).name)), .v (.int .i64 ((atPartition c.partitions p.toNat).entry)), .v (.int .i64 ((atPartition c.partitions p.toNat).action)), .v (.int .i64 ((atPartition c.partitions p.toNat).restarts)), .v (.int .i64 ((atPartition c.partitions p.toNat).inputs)), .v (.int .i64 ((atPartition c.partitions p.toNat).outputs)), .sl .sRegion ((atPartition c.partitions p.toNat).regions), .sl .sPort ((atPartition c.partitions p.toNat).ports)]], GL, 0, [], nodp⟩
  | .l6 x0 => ⟨mkE [(1, .v (.int .i64 p)), (2, .ref 0 0), (5, .ref 1 0), (6, .ref 2 0), (9, .v (.int .i64 x0))] 107 0, [.cells 26 [.v (.int .i64 c.frames), .v (.int .i64 c.major), .v (.int .i64 c.kernel), .v (.int .i64 c.room), .sl (.sl .sWindow) c.cores, .sl .sPartition c.partitions, .sl .sChannel c.channels], .cells 36 [.v (.int .i64 0), .v (.int .i64 0)], .cells 48 [.v (.string ((atPartition c.partitions p.toNat).name)), .v (.int .i64 ((atPartition c.partitions p.toNat).entry)), .v (.int .i64 ((atPartition c.partitions p.toNat).action)), .v (.int .i64 ((atPartition c.partitions p.toNat).restarts)), .v (.int .i64 ((atPartition c.partitions p.toNat).inputs)), .v (.int .i64 ((atPartition c.partitions p.toNat).outputs)), .sl .sRegion ((atPartition c.partitions p.toNat).regions), .sl .sPort ((atPartition c.partitions p.toNat).ports)]], GL, 0, [], nodp⟩
noncomputable def bod18 {R : Type} (ret : R18 → R) (c : Config) (p : Int) (j : L18 → Option R) : L18 → Option R
  | .l2 x0 => cond (decide ((x0 : Int) < ((atPartition c.partitions p.toNat).regions).length))
    (cond (spc31 c p x0) (
      cond (!(((sp31 c p x0) : Int) == 0))
        (some (ret ((sp31 c p x0), (⟨p, x0⟩ : Where))))
        (j (.l2 (IntKind.i64.wrap (x0 + 1))))) none)
    (cond (spc32 (atPartition c.partitions p.toNat)) (
      cond (!(sp32 (atPartition c.partitions p.toNat)))
        (some (ret (412, (sp20 p))))
        (cond (decide ((((atPartition c.partitions p.toNat).ports).length : Int) > 8))
          (some (ret (413, (sp20 p))))
          (j (.l6 0)))) none)
  | .l6 x0 => cond (decide ((x0 : Int) < ((atPartition c.partitions p.toNat).ports).length))
    (cond (inR x0 ((atPartition c.partitions p.toNat).ports).length) (
      cond (!(sp29 ((atPort ((atPartition c.partitions p.toNat).ports) x0.toNat).channel) 0 (IntKind.i64.wrap (c.channels.length - 1))))
        (some (ret (414, (⟨p, x0⟩ : Where))))
        (j (.l6 (IntKind.i64.wrap (x0 + 1))))) none)
    (some (ret (0, (⟨0, 0⟩ : Where))))
noncomputable def ent18 {R : Type} (ret : R18 → R) (c : Config) (p : Int) (j : L18 → Option R) : Option R :=
    cond (inR p c.partitions.length) (
    cond (spc30 c p) (
      cond (!(sp30 c p))
        (some (ret (405, (sp20 p))))
        (cond (!(sp29 ((atPartition c.partitions p.toNat).action) 0 2))
          (some (ret (406, (sp20 p))))
          (cond (!(sp29 ((atPartition c.partitions p.toNat).restarts) 0 15))
            (some (ret (406, (sp20 p))))
            (cond (!(sp29 ((atPartition c.partitions p.toNat).inputs) 0 16))
              (some (ret (407, (sp20 p))))
              (cond (!(sp29 ((atPartition c.partitions p.toNat).outputs) 0 16))
                (some (ret (407, (sp20 p))))
                (cond (!(sp29 (((atPartition c.partitions p.toNat).regions).length) 1 8))
                  (some (ret (408, (sp20 p))))
                  (j (.l2 0)))))))) none) none
theorem head18_2 (J : Jmp) (c : Config) (p : Int) (x0 : Int) : stepAt Pr GD H18 J 2 0 (bodyOf Tryd.f18) (fin Pr H18 Tryd.f18) (st18 c p (.l2 x0)) = bod18 to18 c p (fun l => J (num18 l) (st18 c p l)) (.l2 x0) := by kernel_rfl
theorem head18_6 (J : Jmp) (c : Config) (p : Int) (x0 : Int) : stepAt Pr GD H18 J 6 0 (bodyOf Tryd.f18) (fin Pr H18 Tryd.f18) (st18 c p (.l6 x0)) = bod18 to18 c p (fun l => J (num18 l) (st18 c p l)) (.l6 x0) := by kernel_rfl
theorem run18 (J : Jmp) (c : Config) (p : Int) : runF Pr GD H18 J GL Tryd.f18 [.agg [.v (.int .i64 c.frames), .v (.int .i64 c.major), .v (.int .i64 c.kernel), .v (.int .i64 c.room), .sl (.sl .sWindow) c.cores, .sl .sPartition c.partitions, .sl .sChannel c.channels], .v (.int .i64 p)] [] = ent18 to18 c p (fun l => J (num18 l) (st18 c p l)) := by kernel_rfl
theorem shad18 (c : Config) (p : Int) : ∀ (n : Nat) (l : L18), runL Pr GD H18 Tryd.f18 n (num18 l) (st18 c p l) = shad (bod18 to18 c p) n l
  | 0, l => by cases l <;> rfl
  | n + 1, l => by
    have ih : (fun l => runL Pr GD H18 Tryd.f18 n (num18 l) (st18 c p l)) = shad (bod18 to18 c p) n := funext (shad18 c p n)
    cases l with
    | l2 x0 => exact (step_eq ..).trans ((head18_2 ..).trans (by rw [ih]; rfl))
    | l6 x0 => exact (step_eq ..).trans ((head18_6 ..).trans (by rw [ih]; rfl))
theorem nat18 (c : Config) (p : Int) (s : L18 → Option R18) (l : L18) : bod18 to18 c p (fun l => (s l).map to18) l = (bod18 id c p s l).map to18 := by
  cases l <;> simp only [bod18, map_cond, Option.map_some, Option.map_none, id]
theorem ct18 (c : Config) (p : Int) (l : L18) : CT fun j => bod18 id c p j l := by
  cases l <;> (dsimp only [bod18]; repeat (first | exact CT.jump _ | exact CT.const _ | apply CT.cond))
/-- ref16.partition, from a head on. -/
noncomputable def spL18 (c : Config) (p : Int) : L18 → Option R18 := lfp (bod18 id c p)
theorem spL18_eq (c : Config) (p : Int) (l : L18) : spL18 c p l = bod18 id c p (spL18 c p) l := lfp_eq (ct18 c p) l
/-- ref16.partition -/
noncomputable def spO18 (c : Config) (p : Int) : Option R18 := ent18 id c p (spL18 c p)
noncomputable def sp18 (c : Config) (p : Int) : R18 := (spO18 c p).getD default
noncomputable def spc18 (c : Config) (p : Int) : Bool := (spO18 c p).isSome
theorem oks18 (c : Config) (p : Int) (hc : spc18 c p = true) : Okay Pr GL 18 [.agg [.v (.int .i64 c.frames), .v (.int .i64 c.major), .v (.int .i64 c.kernel), .v (.int .i64 c.room), .sl (.sl .sWindow) c.cores, .sl .sPartition c.partitions, .sl .sChannel c.channels], .v (.int .i64 p)] [] (to18 (sp18 c p)) := by
  obtain ⟨n, h⟩ := auto_ok (nat18 c p) (fun s => show ent18 to18 c p (fun l => (s l).map to18) = (ent18 id c p s).map to18 by simp only [ent18, map_cond, Option.map_some, Option.map_none, id]) (ct18 c p) (show CT fun j => ent18 id c p j by dsimp only [ent18]; repeat (first | exact CT.jump _ | exact CT.const _ | apply CT.cond)) (isSome_getD hc)
  exact okay_of_run (H := H18) GDok G0ok Tryd.func18 rfl (by kernel_rfl) n (by
    rw [run18]
    rw [show (fun l => runL Pr GD H18 Tryd.f18 n (num18 l) (st18 c p l)) = shad (bod18 to18 c p) n from funext (shad18 c p n)]
    exact h)

/-! ### ref15.Owner -/
abbrev R23 := Owner × Int
def to23 (r : R23) : Ans := ⟨.tup [.agg [.v (.int .i64 r.1.kind), .v (.int .i64 r.1.index), .v (.int .i64 r.1.port)], .v (.int .i64 r.2)], []⟩
inductive L23 where
  | l0 (x0 : Int)
  | l4 (x0 : Int)
  | l8 (x1 : Int) (x2 : Int) (x3 : Int) (x0 : Int)
def num23 : L23 → Nat
  | .l0 _ => 0
  | .l4 _ => 4
  | .l8 _ _ _ _ => 8
def H23 : Hint := ⟨fun n => [].any (Nat.beq n), hdAt [(0, ⟨fgt [1, 2, 4, 6, 33, 34, 94, 95, 96, 99, 100, 101, 102, 103, 106, 107, 108, 109, 110, 111, 112, 113] 120 0, []⟩), (4, ⟨fgt [1, 2, 4, 67, 68, 94, 95, 96, 99, 100, 101, 102, 103, 106, 107, 108, 109, 110, 111, 112, 113] 120 0, []⟩), (8, ⟨fgt [1, 2, 4, 8, 67, 68, 77, 78] 120 0, []⟩)], [], G0, nodp⟩
noncomputable def st23 (c : Config) (at_1 : Int) : L23 → St
  | .l0 x0 => ⟨mkE [(1, .v (.int .i64 at_1)), (2, .ref 0 0), (4, .ref 1 0), (6, .own 2), (33, .v (.int .i64 ((sp38 c).length))), (34, .v (.int .i64 x0))] 120 0, [.cells 26 [.v (.int .i64 c.frames), .v (.int .i64 c.major), .v (.int .i64 c.kernel), .v (.int .i64 c.room), .sl (.sl .sWindow) c.cores, .sl .sPartition c.partitions, .sl .sChannel c.channels], .cells 28 [.v (.int .i64 0), .v (.int .i64 0), .v (.int .i64 0)], .arr 87 .sBulkheadref15Piece (sp38 c)], GL, 0, [], nodp⟩
  | .l4 x0 => ⟨mkE [(1, .v (.int .i64 at_1)), (2, .ref 0 0), (4, .ref 1 0), (67, .v (.int .i64 c.partitions.length)), (68, .v (.int .i64 x0))] 120 0, [.cells 26 [.v (.int .i64 c.frames), .v (.int .i64 c.major), .v (.int .i64 c.kernel), .v (.int .i64 c.room), .sl (.sl .sWindow) c.cores, .sl .sPartition c.partitions, .sl .sChannel c.channels], .cells 28 [.v (.int .i64 0), .v (.int .i64 0), .v (.int .i64 0)]], GL, 0, [], nodp⟩
  | .l8 x1 x2 x3 x0 => ⟨mkE [(1, .v (.int .i64 at_1)), (2, .ref 0 0), (4, .ref 1 0), (8, .v (.int .i64 x1)), (67, .v (.int .i64 c.partitions.length)), (68, .v (.int .i64 x2)), (77, .v (.int .i64 x3)), (78, .v (.int .i64 x0))] 120 0, [.cells 26 [.v (.int .i64 c.frames), .v (.int .i64 c.major), .v (.int .i64 c.kernel), .v (.int .i64 c.room), .sl (.sl .sWindow) c.cores, .sl .sPartition c.partitions, .sl .sChannel c.channels], .cells 28 [.v (.int .i64 0), .v (.int .i64 0), .v (.int .i64 0)]], GL, 0, [], nodp⟩
noncomputable def bod23 {R : Type} (ret : R23 → R) (c : Config) (at_1 : Int) (j : L23 → Option R) : L23 → Option R
  | .l0 x0 => cond (decide ((x0 : Int) < (sp38 c).length))
    (cond (inR x0 (sp38 c).length) (
      cond (decide (((atBulkheadref15Piece (sp38 c) x0.toNat).at_ : Int) ≤ at_1))
        (cond (inR x0 (sp38 c).length) (
          cond (inR x0 (sp38 c).length) (
            cond (decide ((at_1 : Int) < (IntKind.i64.wrap ((atBulkheadref15Piece (sp38 c) x0.toNat).at_ + (atBulkheadref15Piece (sp38 c) x0.toNat).size))))
              (cond (inR x0 (sp38 c).length) (some (ret ((atBulkheadref15Piece (sp38 c) x0.toNat).owner, 0))) none)
              (j (.l0 (IntKind.i64.wrap (x0 + 1))))) none) none)
        (j (.l0 (IntKind.i64.wrap (x0 + 1))))) none)
    (j (.l4 0))
  | .l4 x0 => cond (decide ((x0 : Int) < c.partitions.length))
    (cond (inR x0 c.partitions.length) (j (.l8 x0 x0 (((atPartition c.partitions x0.toNat).regions).length) 0)) none)
    (some (ret ((⟨0, 0, 0⟩ : Owner), 0)))
  | .l8 x1 x2 x3 x0 => cond (decide ((x0 : Int) < x3))
    (cond (inR x1 c.partitions.length) (
      cond (inR x0 ((atPartition c.partitions x1.toNat).regions).length) (
        cond (decide (((atRegion ((atPartition c.partitions x1.toNat).regions) x0.toNat).frame : Int) ≥ 0))
          (cond (decide (((atRegion ((atPartition c.partitions x1.toNat).regions) x0.toNat).frame : Int) ≤ 1024))
            (cond (decide (((atRegion ((atPartition c.partitions x1.toNat).regions) x0.toNat).frame : Int) ≤ (bop .quo .i64 at_1 16)))
              (cond (decide (((bop .quo .i64 at_1 16) : Int) < (IntKind.i64.wrap ((atRegion ((atPartition c.partitions x1.toNat).regions) x0.toNat).frame + (atRegion ((atPartition c.partitions x1.toNat).regions) x0.toNat).pages))))
                (some (ret ((⟨1, x1, 0⟩ : Owner), 0)))
                (j (.l8 x1 x2 x3 (IntKind.i64.wrap (x0 + 1)))))
              (j (.l8 x1 x2 x3 (IntKind.i64.wrap (x0 + 1)))))
            (j (.l8 x1 x2 x3 (IntKind.i64.wrap (x0 + 1)))))
          (j (.l8 x1 x2 x3 (IntKind.i64.wrap (x0 + 1))))) none) none)
    (j (.l4 (IntKind.i64.wrap (x2 + 1))))
noncomputable def ent23 {R : Type} (ret : R23 → R) (c : Config) (at_1 : Int) (j : L23 → Option R) : Option R :=
    cond (spc37 c) (
    cond (!(sp37 c))
      (some (ret ((⟨0, 0, 0⟩ : Owner), 150)))
      (cond (decide ((at_1 : Int) < 0))
        (some (ret ((⟨0, 0, 0⟩ : Owner), 151)))
        (cond (decide (((bop .quo .i64 at_1 16) : Int) ≥ c.frames))
          (some (ret ((⟨0, 0, 0⟩ : Owner), 151)))
          (cond (decide (((bop .quo .i64 at_1 16) : Int) ≥ 1024))
            (some (ret ((⟨0, 0, 0⟩ : Owner), 151)))
            (cond (spc38 c) (j (.l0 0)) none))))) none
theorem head23_0 (J : Jmp) (c : Config) (at_1 : Int) (x0 : Int) : stepAt Pr GD H23 J 0 0 (bodyOf Tryd.f23) (fin Pr H23 Tryd.f23) (st23 c at_1 (.l0 x0)) = bod23 to23 c at_1 (fun l => J (num23 l) (st23 c at_1 l)) (.l0 x0) := by kernel_rfl
theorem head23_4 (J : Jmp) (c : Config) (at_1 : Int) (x0 : Int) : stepAt Pr GD H23 J 4 0 (bodyOf Tryd.f23) (fin Pr H23 Tryd.f23) (st23 c at_1 (.l4 x0)) = bod23 to23 c at_1 (fun l => J (num23 l) (st23 c at_1 l)) (.l4 x0) := by kernel_rfl
theorem head23_8 (J : Jmp) (c : Config) (at_1 : Int) (x1 : Int) (x2 : Int) (x3 : Int) (x0 : Int) : stepAt Pr GD H23 J 8 0 (bodyOf Tryd.f23) (fin Pr H23 Tryd.f23) (st23 c at_1 (.l8 x1 x2 x3 x0)) = bod23 to23 c at_1 (fun l => J (num23 l) (st23 c at_1 l)) (.l8 x1 x2 x3 x0) := by kernel_rfl
theorem run23 (J : Jmp) (c : Config) (at_1 : Int) : runF Pr GD H23 J GL Tryd.f23 [.agg [.v (.int .i64 c.frames), .v (.int .i64 c.major), .v (.int .i64 c.kernel), .v (.int .i64 c.room), .sl (.sl .sWindow) c.cores, .sl .sPartition c.partitions, .sl .sChannel c.channels], .v (.int .i64 at_1)] [] = ent23 to23 c at_1 (fun l => J (num23 l) (st23 c at_1 l)) := by kernel_rfl
theorem shad23 (c : Config) (at_1 : Int) : ∀ (n : Nat) (l : L23), runL Pr GD H23 Tryd.f23 n (num23 l) (st23 c at_1 l) = shad (bod23 to23 c at_1) n l
  | 0, l => by cases l <;> rfl
  | n + 1, l => by
    have ih : (fun l => runL Pr GD H23 Tryd.f23 n (num23 l) (st23 c at_1 l)) = shad (bod23 to23 c at_1) n := funext (shad23 c at_1 n)
    cases l with
    | l0 x0 => exact (step_eq ..).trans ((head23_0 ..).trans (by rw [ih]; rfl))
    | l4 x0 => exact (step_eq ..).trans ((head23_4 ..).trans (by rw [ih]; rfl))
    | l8 x1 x2 x3 x0 => exact (step_eq ..).trans ((head23_8 ..).trans (by rw [ih]; rfl))
theorem nat23 (c : Config) (at_1 : Int) (s : L23 → Option R23) (l : L23) : bod23 to23 c at_1 (fun l => (s l).map to23) l = (bod23 id c at_1 s l).map to23 := by
  cases l <;> simp only [bod23, map_cond, Option.map_some, Option.map_none, id]
theorem ct23 (c : Config) (at_1 : Int) (l : L23) : CT fun j => bod23 id c at_1 j l := by
  cases l <;> (dsimp only [bod23]; repeat (first | exact CT.jump _ | exact CT.const _ | apply CT.cond))
/-- ref15.Owner, from a head on. -/
noncomputable def spL23 (c : Config) (at_1 : Int) : L23 → Option R23 := lfp (bod23 id c at_1)
theorem spL23_eq (c : Config) (at_1 : Int) (l : L23) : spL23 c at_1 l = bod23 id c at_1 (spL23 c at_1) l := lfp_eq (ct23 c at_1) l
/-- ref15.Owner -/
noncomputable def spO23 (c : Config) (at_1 : Int) : Option R23 := ent23 id c at_1 (spL23 c at_1)
noncomputable def sp23 (c : Config) (at_1 : Int) : R23 := (spO23 c at_1).getD default
noncomputable def spc23 (c : Config) (at_1 : Int) : Bool := (spO23 c at_1).isSome
theorem oks23 (c : Config) (at_1 : Int) (hc : spc23 c at_1 = true) : Okay Pr GL 23 [.agg [.v (.int .i64 c.frames), .v (.int .i64 c.major), .v (.int .i64 c.kernel), .v (.int .i64 c.room), .sl (.sl .sWindow) c.cores, .sl .sPartition c.partitions, .sl .sChannel c.channels], .v (.int .i64 at_1)] [] (to23 (sp23 c at_1)) := by
  obtain ⟨n, h⟩ := auto_ok (nat23 c at_1) (fun s => show ent23 to23 c at_1 (fun l => (s l).map to23) = (ent23 id c at_1 s).map to23 by simp only [ent23, map_cond, Option.map_some, Option.map_none, id]) (ct23 c at_1) (show CT fun j => ent23 id c at_1 j by dsimp only [ent23]; repeat (first | exact CT.jump _ | exact CT.const _ | apply CT.cond)) (isSome_getD hc)
  exact okay_of_run (H := H23) GDok G0ok Tryd.func23 rfl (by kernel_rfl) n (by
    rw [run23]
    rw [show (fun l => runL Pr GD H23 Tryd.f23 n (num23 l) (st23 c at_1 l)) = shad (bod23 to23 c at_1) n from funext (shad23 c at_1 n)]
    exact h)

/-! ### admit.questions$6 -/
abbrev R60 := AdmitFound
def to60 (r : R60) : Ans := ⟨.agg [.v (.int .i64 r.e), .v (.int .i64 r.where_.first), .v (.int .i64 r.where_.second)], []⟩
def H60 : Hint := ⟨fun _ => false, fun _ => ⟨[], []⟩, [], G0, nodp⟩
noncomputable def ent60 {R : Type} (ret : R60 → R) (a : Config) (a_1 : Int) : Option R :=
    cond (spc61 a a_1) (some (ret (sp61 a a_1))) none
theorem run60 (J : Jmp) (a : Config) (a_1 : Int) : runF Pr GD H60 J GL Tryd.f60 [.op .sConfig (some a), .op (.i .i64) (some a_1)] [] = ent60 to60 a a_1 := by kernel_rfl
/-- admit.questions$6 -/
noncomputable def spO60 (a : Config) (a_1 : Int) : Option R60 := ent60 id a a_1
noncomputable def sp60 (a : Config) (a_1 : Int) : R60 := (spO60 a a_1).getD default
noncomputable def spc60 (a : Config) (a_1 : Int) : Bool := (spO60 a a_1).isSome
theorem oks60 (a : Config) (a_1 : Int) (hc : spc60 a a_1 = true) : Okay Pr GL 60 [.op .sConfig (some a), .op (.i .i64) (some a_1)] [] (to60 (sp60 a a_1)) :=
  okay_of_run (H := H60) GDok G0ok Tryd.func60 rfl (by kernel_rfl) 0 ((run60 (runL Pr GD H60 Tryd.f60 0) a a_1).trans (auto_ok0 (show ent60 to60 a a_1 = (ent60 id a a_1).map to60 by simp only [ent60, map_cond, Option.map_some, Option.map_none, id]) (isSome_getD hc)))

/-! ### layout.portSizes -/
abbrev R75 := (List LayoutAsked)
def to75 (r : R75) : Ans := ⟨.own 0, [.arr 137 .sLayoutAsked r]⟩
inductive L75 where
  | l0 (x0 : Int) (x1 : List LayoutAsked)
def num75 : L75 → Nat
  | .l0 _ _ => 0
def H75 : Hint := ⟨fun n => [].any (Nat.beq n), hdAt [(0, ⟨fgt [3, 8, 9, 10] 26 0, [(.slot 3, .own 137 .sLayoutAsked)]⟩)], [], G0, nodp⟩
noncomputable def st75 (c : Config) : L75 → St
  | .l0 x0 x1 => ⟨mkE [(3, .own 0), (8, .sl .sChannel c.channels), (9, .v (.int .i64 c.channels.length)), (10, .v (.int .i64 x0))] 26 0, [.arr 137 .sLayoutAsked x1], GL, 0, [], nodp⟩
noncomputable def bod75 {R : Type} (ret : R75 → R) (c : Config) (j : L75 → Option R) : L75 → Option R
  | .l0 x0 x1 => cond (decide ((x0 : Int) < c.channels.length))
    (cond (inR x0 c.channels.length) (
      cond (leB (((x1 : List LayoutAsked).length + ([(⟨(Clo.c90 (⟨(⟨(atChannel c.channels x0.toNat).kind, (atChannel c.channels x0.toNat).words, (atChannel c.channels x0.toNat).depth⟩ : Channel)⟩ : LayoutSize)), (Clo.c91 (⟨(⟨(atChannel c.channels x0.toNat).kind, (atChannel c.channels x0.toNat).words, (atChannel c.channels x0.toNat).depth⟩ : Channel)⟩ : LayoutSize))⟩ : LayoutAsked)] : List LayoutAsked).length) * 16) 140737488355328) (
        j (.l0 (IntKind.i64.wrap (x0 + 1)) ((x1 : List LayoutAsked) ++ [(⟨(Clo.c90 (⟨(⟨(atChannel c.channels x0.toNat).kind, (atChannel c.channels x0.toNat).words, (atChannel c.channels x0.toNat).depth⟩ : Channel)⟩ : LayoutSize)), (Clo.c91 (⟨(⟨(atChannel c.channels x0.toNat).kind, (atChannel c.channels x0.toNat).words, (atChannel c.channels x0.toNat).depth⟩ : Channel)⟩ : LayoutSize))⟩ : LayoutAsked)]))) none) none)
    (some (ret x1))
noncomputable def ent75 {R : Type} (ret : R75 → R) (c : Config) (j : L75 → Option R) : Option R :=
    j (.l0 0 [])
theorem head75_0 (J : Jmp) (c : Config) (x0 : Int) (x1 : List LayoutAsked) : stepAt Pr GD H75 J 0 0 (bodyOf Tryd.f75) (fin Pr H75 Tryd.f75) (st75 c (.l0 x0 x1)) = bod75 to75 c (fun l => J (num75 l) (st75 c l)) (.l0 x0 x1) := by kernel_rfl
theorem run75 (J : Jmp) (c : Config) : runF Pr GD H75 J GL Tryd.f75 [.agg [.v (.int .i64 c.frames), .v (.int .i64 c.major), .v (.int .i64 c.kernel), .v (.int .i64 c.room), .sl (.sl .sWindow) c.cores, .sl .sPartition c.partitions, .sl .sChannel c.channels]] [] = ent75 to75 c (fun l => J (num75 l) (st75 c l)) := by kernel_rfl
theorem shad75 (c : Config) : ∀ (n : Nat) (l : L75), runL Pr GD H75 Tryd.f75 n (num75 l) (st75 c l) = shad (bod75 to75 c) n l
  | 0, l => by cases l <;> rfl
  | n + 1, l => by
    have ih : (fun l => runL Pr GD H75 Tryd.f75 n (num75 l) (st75 c l)) = shad (bod75 to75 c) n := funext (shad75 c n)
    cases l with
    | l0 x0 x1 => exact (step_eq ..).trans ((head75_0 ..).trans (by rw [ih]; rfl))
theorem nat75 (c : Config) (s : L75 → Option R75) (l : L75) : bod75 to75 c (fun l => (s l).map to75) l = (bod75 id c s l).map to75 := by
  cases l <;> simp only [bod75, map_cond, Option.map_some, Option.map_none, id]
theorem ct75 (c : Config) (l : L75) : CT fun j => bod75 id c j l := by
  cases l <;> (dsimp only [bod75]; repeat (first | exact CT.jump _ | exact CT.const _ | apply CT.cond))
/-- layout.portSizes, from a head on. -/
noncomputable def spL75 (c : Config) : L75 → Option R75 := lfp (bod75 id c)
theorem spL75_eq (c : Config) (l : L75) : spL75 c l = bod75 id c (spL75 c) l := lfp_eq (ct75 c) l
/-- layout.portSizes -/
noncomputable def spO75 (c : Config) : Option R75 := ent75 id c (spL75 c)
noncomputable def sp75 (c : Config) : R75 := (spO75 c).getD default
noncomputable def spc75 (c : Config) : Bool := (spO75 c).isSome
theorem oks75 (c : Config) (hc : spc75 c = true) : Okay Pr GL 75 [.agg [.v (.int .i64 c.frames), .v (.int .i64 c.major), .v (.int .i64 c.kernel), .v (.int .i64 c.room), .sl (.sl .sWindow) c.cores, .sl .sPartition c.partitions, .sl .sChannel c.channels]] [] (to75 (sp75 c)) := by
  obtain ⟨n, h⟩ := auto_ok (nat75 c) (fun s => show ent75 to75 c (fun l => (s l).map to75) = (ent75 id c s).map to75 by simp only [ent75, map_cond, Option.map_some, Option.map_none, id]) (ct75 c) (show CT fun j => ent75 id c j by dsimp only [ent75]; repeat (first | exact CT.jump _ | exact CT.const _ | apply CT.cond)) (isSome_getD hc)
  exact okay_of_run (H := H75) GDok G0ok Tryd.func75 rfl (by kernel_rfl) n (by
    rw [run75]
    rw [show (fun l => runL Pr GD H75 Tryd.f75 n (num75 l) (st75 c l)) = shad (bod75 to75 c) n from funext (shad75 c n)]
    exact h)

noncomputable def g18 (args : List AV) (hp : List Blk) : Option (Bool × AV × List Blk) :=
  match hp, args with
  | [], [x0, x1] => (rdS .sConfig x0).bind fun a0 => (rdL (.i .i64) x1).bind fun a1 => some ((spc18 a0 a1), .tup [.v (.int .i64 ((sp18 a0 a1).1)), .agg [.v (.int .i64 ((sp18 a0 a1).2.first)), .v (.int .i64 ((sp18 a0 a1).2.second))]], [])
  | _, _ => none
theorem g18_ok {args : List AV} {hp : List Blk} {b : Bool} {r : AV} {hp' : List Blk} (h : g18 args hp = some (b, r, hp')) (hb : b = true) : FnOk Pr 18 ∧ Okay Pr GL 18 args hp ⟨r, hp'⟩ := by
  unfold g18 at h
  split at h
  · simp only [Option.bind_eq_some_iff] at h
    obtain ⟨a0, h0, a1, h1, h⟩ := h
    cases h; exact ⟨fnok Tryd.func18 (by kernel_rfl) rfl, (oks18 a0 a1 hb).ats (.cons (rdS_V h0) (.cons (rdL_V h1) .nil))⟩
  · cases h
noncomputable def g23 (args : List AV) (hp : List Blk) : Option (Bool × AV × List Blk) :=
  match hp, args with
  | [], [x0, x1] => (rdS .sConfig x0).bind fun a0 => (rdL (.i .i64) x1).bind fun a1 => some ((spc23 a0 a1), .tup [.agg [.v (.int .i64 ((sp23 a0 a1).1.kind)), .v (.int .i64 ((sp23 a0 a1).1.index)), .v (.int .i64 ((sp23 a0 a1).1.port))], .v (.int .i64 ((sp23 a0 a1).2))], [])
  | _, _ => none
theorem g23_ok {args : List AV} {hp : List Blk} {b : Bool} {r : AV} {hp' : List Blk} (h : g23 args hp = some (b, r, hp')) (hb : b = true) : FnOk Pr 23 ∧ Okay Pr GL 23 args hp ⟨r, hp'⟩ := by
  unfold g23 at h
  split at h
  · simp only [Option.bind_eq_some_iff] at h
    obtain ⟨a0, h0, a1, h1, h⟩ := h
    cases h; exact ⟨fnok Tryd.func23 (by kernel_rfl) rfl, (oks23 a0 a1 hb).ats (.cons (rdS_V h0) (.cons (rdL_V h1) .nil))⟩
  · cases h
noncomputable def g60 (args : List AV) (hp : List Blk) : Option (Bool × AV × List Blk) :=
  match hp, args with
  | [], [x0, x1] => (rdP .sConfig x0).bind fun a0 => (rdP (.i .i64) x1).bind fun a1 => some ((spc60 a0 a1), .agg [.v (.int .i64 ((sp60 a0 a1).e)), .v (.int .i64 ((sp60 a0 a1).where_.first)), .v (.int .i64 ((sp60 a0 a1).where_.second))], [])
  | _, _ => none
theorem g60_ok {args : List AV} {hp : List Blk} {b : Bool} {r : AV} {hp' : List Blk} (h : g60 args hp = some (b, r, hp')) (hb : b = true) : FnOk Pr 60 ∧ Okay Pr GL 60 args hp ⟨r, hp'⟩ := by
  unfold g60 at h
  split at h
  · simp only [Option.bind_eq_some_iff] at h
    obtain ⟨a0, h0, a1, h1, h⟩ := h
    cases h; exact ⟨fnok Tryd.func60 (by kernel_rfl) rfl, (oks60 a0 a1 hb).ats (.cons (rdP_V h0) (.cons (rdP_V h1) .nil))⟩
  · cases h
noncomputable def g75 (args : List AV) (hp : List Blk) : Option (Bool × AV × List Blk) :=
  match hp, args with
  | [], [x0] => (rdS .sConfig x0).bind fun a0 => some ((spc75 a0), .own 0, [.arr 137 .sLayoutAsked (sp75 a0)])
  | _, _ => none
theorem g75_ok {args : List AV} {hp : List Blk} {b : Bool} {r : AV} {hp' : List Blk} (h : g75 args hp = some (b, r, hp')) (hb : b = true) : FnOk Pr 75 ∧ Okay Pr GL 75 args hp ⟨r, hp'⟩ := by
  unfold g75 at h
  split at h
  · simp only [Option.bind_eq_some_iff] at h
    obtain ⟨a0, h0, h⟩ := h
    cases h; exact ⟨fnok Tryd.func75 (by kernel_rfl) rfl, (oks75 a0 hb).ats (.cons (rdS_V h0) .nil)⟩
  · cases h
noncomputable def GE : Gam := fun c args hp => match c with
  | .f f => pick1 18 f (g18 args hp) (pick1 23 f (g23 args hp) (pick1 60 f (g60 args hp) (pick1 75 f (g75 args hp) (GD (.f f) args hp))))
  | .c x => GD (.c x) args hp
theorem GEok : GOk Pr GL GE := by
  intro c args hp b r hp' h hb
  cases c with
  | f f =>
    simp only [GE] at h
    rcases pick1_ok h with ⟨rfl, h⟩ | h
    · exact g18_ok h hb
    rcases pick1_ok h with ⟨rfl, h⟩ | h
    · exact g23_ok h hb
    rcases pick1_ok h with ⟨rfl, h⟩ | h
    · exact g60_ok h hb
    rcases pick1_ok h with ⟨rfl, h⟩ | h
    · exact g75_ok h hb
    exact GDok (.f f) args hp b r hp' h hb
  | c x => exact GDok (.c x) args hp b r hp' h hb
end Go.Proofs.YthnkmndjhedgdaaDoor
