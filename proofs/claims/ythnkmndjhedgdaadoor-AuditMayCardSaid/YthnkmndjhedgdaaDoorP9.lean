/- Shadows of functions (printed by pr2.py off the model's code; the kernel holds each equation to it), and what they answer. -/
import Derived.Test.YthnkmndjhedgdaaDoorP8
namespace Go.Proofs.YthnkmndjhedgdaaDoor
open Go.RowKit
set_option linter.unusedVariables false
set_option linter.unusedSimpArgs false
/-! ### admit.questions$9 -/
abbrev R66 := AdmitFound
def to66 (r : R66) : Ans := ⟨.agg [.v (.int .i64 r.e), .v (.int .i64 r.where_.first), .v (.int .i64 r.where_.second)], []⟩
def H66 : Hint := ⟨fun _ => false, fun _ => ⟨[], []⟩, [], G0, nodp⟩
noncomputable def ent66 {R : Type} (ret : R66 → R) (a : Config) : Option R :=
    cond (spc67 a) (some (ret (sp54 (sp67 a) 423 nowhere))) none
theorem run66 (J : Jmp) (a : Config) : runF Pr GI H66 J GL Tryd.f66 [.op .sConfig (some a)] [] = ent66 to66 a := by kernel_rfl
/-- admit.questions$9 -/
noncomputable def spO66 (a : Config) : Option R66 := ent66 id a
noncomputable def sp66 (a : Config) : R66 := (spO66 a).getD default
noncomputable def spc66 (a : Config) : Bool := (spO66 a).isSome
theorem oks66 (a : Config) (hc : spc66 a = true) : Okay Pr GL 66 [.op .sConfig (some a)] [] (to66 (sp66 a)) :=
  okay_of_run (H := H66) GIok G0ok Tryd.func66 rfl (by kernel_rfl) 0 ((run66 (runL Pr GI H66 Tryd.f66 0) a).trans (auto_ok0 (show ent66 to66 a = (ent66 id a).map to66 by simp only [ent66, map_cond, Option.map_some, Option.map_none, id]) (isSome_getD hc)))

/-! ### ref16.Check -/
abbrev R8 := Int × Where
def to8 (r : R8) : Ans := ⟨.tup [.v (.int .i64 r.1), .agg [.v (.int .i64 r.2.first), .v (.int .i64 r.2.second)]], []⟩
inductive L8 where
  | l0 (x0 : Int)
  | l4 (x0 : Int)
  | l8 (x0 : Int)
def num8 : L8 → Nat
  | .l0 _ => 0
  | .l4 _ => 4
  | .l8 _ => 8
def H8 : Hint := ⟨fun n => [].any (Nat.beq n), hdAt [(0, ⟨fgt [1, 3, 5] 73 0, []⟩), (4, ⟨fgt [1, 3, 8] 73 0, []⟩), (8, ⟨fgt [1, 3, 10] 73 0, []⟩)], [], G0, nodp⟩
noncomputable def st8 (c : Config) : L8 → St
  | .l0 x0 => ⟨mkE [(1, .ref 0 0), (3, .ref 1 0), (5, .v (.int .i64 x0))] 73 0, [.cells 26 [.v (.int .i64 c.frames), .v (.int .i64 c.major), .v (.int .i64 c.kernel), .v (.int .i64 c.room), .sl (.sl .sWindow) c.cores, .sl .sPartition c.partitions, .sl .sChannel c.channels], .cells 36 [.v (.int .i64 0), .v (.int .i64 0)]], GL, 0, [], nodp⟩
  | .l4 x0 => ⟨mkE [(1, .ref 0 0), (3, .ref 1 0), (8, .v (.int .i64 x0))] 73 0, [.cells 26 [.v (.int .i64 c.frames), .v (.int .i64 c.major), .v (.int .i64 c.kernel), .v (.int .i64 c.room), .sl (.sl .sWindow) c.cores, .sl .sPartition c.partitions, .sl .sChannel c.channels], .cells 36 [.v (.int .i64 0), .v (.int .i64 0)]], GL, 0, [], nodp⟩
  | .l8 x0 => ⟨mkE [(1, .ref 0 0), (3, .ref 1 0), (10, .v (.int .i64 x0))] 73 0, [.cells 26 [.v (.int .i64 c.frames), .v (.int .i64 c.major), .v (.int .i64 c.kernel), .v (.int .i64 c.room), .sl (.sl .sWindow) c.cores, .sl .sPartition c.partitions, .sl .sChannel c.channels], .cells 36 [.v (.int .i64 0), .v (.int .i64 0)]], GL, 0, [], nodp⟩
noncomputable def bod8 {R : Type} (ret : R8 → R) (c : Config) (j : L8 → Option R) : L8 → Option R
  | .l0 x0 => cond (decide ((x0 : Int) < c.partitions.length))
    (cond (spc18 c x0) (
      cond (!(((sp18 c x0).1 : Int) == 0))
        (some (ret ((sp18 c x0).1, (sp18 c x0).2)))
        (j (.l0 (IntKind.i64.wrap (x0 + 1))))) none)
    (j (.l4 0))
  | .l4 x0 => cond (decide ((x0 : Int) < c.channels.length))
    (cond (spc19 c x0) (
      cond (!(((sp19 c x0) : Int) == 0))
        (some (ret ((sp19 c x0), (sp20 x0))))
        (j (.l4 (IntKind.i64.wrap (x0 + 1))))) none)
    (j (.l8 0))
  | .l8 x0 => cond (decide ((x0 : Int) < c.cores.length))
    (cond (spc21 c x0) (
      cond (!(((sp21 c x0).1 : Int) == 0))
        (some (ret ((sp21 c x0).1, (sp21 c x0).2)))
        (j (.l8 (IntKind.i64.wrap (x0 + 1))))) none)
    (cond (spc22 c) (cond (!(sp22 c))
        (some (ret (423, sp17)))
        (some (ret (0, (⟨0, 0⟩ : Where))))) none)
noncomputable def ent8 {R : Type} (ret : R8 → R) (c : Config) (j : L8 → Option R) : Option R :=
    cond (!(((sp16 c) : Int) == 0))
    (some (ret ((sp16 c), sp17)))
    (j (.l0 0))
theorem head8_0 (J : Jmp) (c : Config) (x0 : Int) : stepAt Pr GI H8 J 0 0 (bodyOf Tryd.f8) (fin Pr H8 Tryd.f8) (st8 c (.l0 x0)) = bod8 to8 c (fun l => J (num8 l) (st8 c l)) (.l0 x0) := by kernel_rfl
theorem head8_4 (J : Jmp) (c : Config) (x0 : Int) : stepAt Pr GI H8 J 4 0 (bodyOf Tryd.f8) (fin Pr H8 Tryd.f8) (st8 c (.l4 x0)) = bod8 to8 c (fun l => J (num8 l) (st8 c l)) (.l4 x0) := by kernel_rfl
theorem head8_8 (J : Jmp) (c : Config) (x0 : Int) : stepAt Pr GI H8 J 8 0 (bodyOf Tryd.f8) (fin Pr H8 Tryd.f8) (st8 c (.l8 x0)) = bod8 to8 c (fun l => J (num8 l) (st8 c l)) (.l8 x0) := by kernel_rfl
theorem run8 (J : Jmp) (c : Config) : runF Pr GI H8 J GL Tryd.f8 [.agg [.v (.int .i64 c.frames), .v (.int .i64 c.major), .v (.int .i64 c.kernel), .v (.int .i64 c.room), .sl (.sl .sWindow) c.cores, .sl .sPartition c.partitions, .sl .sChannel c.channels]] [] = ent8 to8 c (fun l => J (num8 l) (st8 c l)) := by kernel_rfl
theorem shad8 (c : Config) : ∀ (n : Nat) (l : L8), runL Pr GI H8 Tryd.f8 n (num8 l) (st8 c l) = shad (bod8 to8 c) n l
  | 0, l => by cases l <;> rfl
  | n + 1, l => by
    have ih : (fun l => runL Pr GI H8 Tryd.f8 n (num8 l) (st8 c l)) = shad (bod8 to8 c) n := funext (shad8 c n)
    cases l with
    | l0 x0 => exact (step_eq ..).trans ((head8_0 ..).trans (by rw [ih]; rfl))
    | l4 x0 => exact (step_eq ..).trans ((head8_4 ..).trans (by rw [ih]; rfl))
    | l8 x0 => exact (step_eq ..).trans ((head8_8 ..).trans (by rw [ih]; rfl))
theorem nat8 (c : Config) (s : L8 → Option R8) (l : L8) : bod8 to8 c (fun l => (s l).map to8) l = (bod8 id c s l).map to8 := by
  cases l <;> simp only [bod8, map_cond, Option.map_some, Option.map_none, id]
theorem ct8 (c : Config) (l : L8) : CT fun j => bod8 id c j l := by
  cases l <;> (dsimp only [bod8]; repeat (first | exact CT.jump _ | exact CT.const _ | apply CT.cond))
/-- ref16.Check, from a head on. -/
noncomputable def spL8 (c : Config) : L8 → Option R8 := lfp (bod8 id c)
theorem spL8_eq (c : Config) (l : L8) : spL8 c l = bod8 id c (spL8 c) l := lfp_eq (ct8 c) l
/-- ref16.Check -/
noncomputable def spO8 (c : Config) : Option R8 := ent8 id c (spL8 c)
noncomputable def sp8 (c : Config) : R8 := (spO8 c).getD default
noncomputable def spc8 (c : Config) : Bool := (spO8 c).isSome
theorem oks8 (c : Config) (hc : spc8 c = true) : Okay Pr GL 8 [.agg [.v (.int .i64 c.frames), .v (.int .i64 c.major), .v (.int .i64 c.kernel), .v (.int .i64 c.room), .sl (.sl .sWindow) c.cores, .sl .sPartition c.partitions, .sl .sChannel c.channels]] [] (to8 (sp8 c)) := by
  obtain ⟨n, h⟩ := auto_ok (nat8 c) (fun s => show ent8 to8 c (fun l => (s l).map to8) = (ent8 id c s).map to8 by simp only [ent8, map_cond, Option.map_some, Option.map_none, id]) (ct8 c) (show CT fun j => ent8 id c j by dsimp only [ent8]; repeat (first | exact CT.jump _ | exact CT.const _ | apply CT.cond)) (isSome_getD hc)
  exact okay_of_run (H := H8) GIok G0ok Tryd.func8 rfl (by kernel_rfl) n (by
    rw [run8]
    rw [show (fun l => runL Pr GI H8 Tryd.f8 n (num8 l) (st8 c l)) = shad (bod8 to8 c) n from funext (shad8 c n)]
    exact h)

/-! ### audit.owns -/
abbrev R13 := Bool
def to13 (r : R13) : Ans := ⟨.v (.bool r), []⟩
inductive L13 where
  | l2 (x0 : Int)
def num13 : L13 → Nat
  | .l2 _ => 2
def H13 : Hint := ⟨fun n => [].any (Nat.beq n), hdAt [(2, ⟨fgt [2, 3, 96, 97] 110 0, []⟩)], [], G0, nodp⟩
noncomputable def st13 (c : Config) (o : Owner) : L13 → St
  | .l2 x0 => ⟨mkE [(2, .ref 0 0), (3, .ref 1 0), (96, .v (.int .i64 (IntKind.i64.wrap (16 * c.frames)))), (97, .v (.int .i64 x0))] 110 0, [.cells 26 [.v (.int .i64 c.frames), .v (.int .i64 c.major), .v (.int .i64 c.kernel), .v (.int .i64 c.room), .sl (.sl .sWindow) c.cores, .sl .sPartition c.partitions, .sl .sChannel c.channels], .cells 28 [.v (.int .i64 o.kind), .v (.int .i64 o.index), .v (.int .i64 o.port)]], GL, 0, [], nodp⟩
noncomputable def bod13 {R : Type} (ret : R13 → R) (c : Config) (o : Owner) (j : L13 → Option R) : L13 → Option R
  | .l2 x0 => cond (decide ((x0 : Int) < (IntKind.i64.wrap (16 * c.frames))))
    (cond (spc27 c x0) (
      cond ((((sp27 c x0).1.kind : Int) == o.kind) && ((((sp27 c x0).1.index : Int) == o.index) && ((((sp27 c x0).1.port : Int) == o.port) && true)))
        (some (ret true))
        (j (.l2 (IntKind.i64.wrap (x0 + 1))))) none)
    (some (ret false))
noncomputable def ent13 {R : Type} (ret : R13 → R) (c : Config) (o : Owner) (j : L13 → Option R) : Option R :=
    cond (decide ((o.index : Int) ≥ 0))
    (cond ((o.kind : Int) == 2)
      (some (ret (((o.kind : Int) == 2) && (((o.index : Int) == 0) && (((o.port : Int) == 0) && true)))))
      (cond ((o.kind : Int) == 1)
        (cond (decide ((o.index : Int) < c.partitions.length))
          (some (ret ((o.port : Int) == 0)))
          (some (ret false)))
        (cond ((o.kind : Int) == 3)
          (cond (decide ((o.index : Int) < c.partitions.length))
            (some (ret ((o.port : Int) == 0)))
            (some (ret false)))
          (cond ((o.kind : Int) == 4)
            (cond (decide ((o.index : Int) < c.partitions.length))
              (some (ret ((o.port : Int) == 0)))
              (some (ret false)))
            (cond ((o.kind : Int) == 5)
              (cond (decide ((o.index : Int) < c.partitions.length))
                (some (ret ((o.port : Int) == 0)))
                (some (ret false)))
              (cond ((o.kind : Int) == 9)
                (cond (decide ((o.index : Int) < c.partitions.length))
                  (some (ret ((o.port : Int) == 0)))
                  (some (ret false)))
                (cond ((o.kind : Int) == 6)
                  (cond (decide ((o.index : Int) ≥ 0))
                    (cond (decide ((o.index : Int) < c.channels.length))
                      (some (ret ((o.port : Int) == 0)))
                      (some (ret false)))
                    (some (ret false)))
                  (cond ((o.kind : Int) == 7)
                    (cond (decide ((o.index : Int) ≥ 0))
                      (cond (decide ((o.index : Int) < c.channels.length))
                        (some (ret ((o.port : Int) == 0)))
                        (some (ret false)))
                      (some (ret false)))
                    (cond ((o.kind : Int) == 8)
                      (cond (decide ((o.index : Int) < c.partitions.length))
                        (cond (decide ((o.port : Int) ≥ 0))
                          (cond (inR o.index c.partitions.length) (
                            cond (decide ((o.port : Int) < ((atPartition c.partitions o.index.toNat).ports).length))
                              (cond (inR o.index c.partitions.length) (
                                cond (inR o.port ((atPartition c.partitions o.index.toNat).ports).length) (some (ret (!((atPort ((atPartition c.partitions o.index.toNat).ports) o.port.toNat).source)))) none) none)
                              (some (ret false))) none)
                          (some (ret false)))
                        (some (ret false)))
                      (j (.l2 0)))))))))))
    (cond ((o.kind : Int) == 2)
      (some (ret (((o.kind : Int) == 2) && (((o.index : Int) == 0) && (((o.port : Int) == 0) && true)))))
      (cond ((o.kind : Int) == 1)
        (some (ret false))
        (cond ((o.kind : Int) == 3)
          (some (ret false))
          (cond ((o.kind : Int) == 4)
            (some (ret false))
            (cond ((o.kind : Int) == 5)
              (some (ret false))
              (cond ((o.kind : Int) == 9)
                (some (ret false))
                (cond ((o.kind : Int) == 6)
                  (cond (decide ((o.index : Int) ≥ 0))
                    (cond (decide ((o.index : Int) < c.channels.length))
                      (some (ret ((o.port : Int) == 0)))
                      (some (ret false)))
                    (some (ret false)))
                  (cond ((o.kind : Int) == 7)
                    (cond (decide ((o.index : Int) ≥ 0))
                      (cond (decide ((o.index : Int) < c.channels.length))
                        (some (ret ((o.port : Int) == 0)))
                        (some (ret false)))
                      (some (ret false)))
                    (cond ((o.kind : Int) == 8)
                      (some (ret false))
                      (j (.l2 0)))))))))))
theorem head13_2 (J : Jmp) (c : Config) (o : Owner) (x0 : Int) : stepAt Pr GI H13 J 2 0 (bodyOf Tryd.f13) (fin Pr H13 Tryd.f13) (st13 c o (.l2 x0)) = bod13 to13 c o (fun l => J (num13 l) (st13 c o l)) (.l2 x0) := by kernel_rfl
theorem run13 (J : Jmp) (c : Config) (o : Owner) : runF Pr GI H13 J GL Tryd.f13 [.agg [.v (.int .i64 c.frames), .v (.int .i64 c.major), .v (.int .i64 c.kernel), .v (.int .i64 c.room), .sl (.sl .sWindow) c.cores, .sl .sPartition c.partitions, .sl .sChannel c.channels], .agg [.v (.int .i64 o.kind), .v (.int .i64 o.index), .v (.int .i64 o.port)]] [] = ent13 to13 c o (fun l => J (num13 l) (st13 c o l)) := by kernel_rfl
theorem shad13 (c : Config) (o : Owner) : ∀ (n : Nat) (l : L13), runL Pr GI H13 Tryd.f13 n (num13 l) (st13 c o l) = shad (bod13 to13 c o) n l
  | 0, l => by cases l <;> rfl
  | n + 1, l => by
    have ih : (fun l => runL Pr GI H13 Tryd.f13 n (num13 l) (st13 c o l)) = shad (bod13 to13 c o) n := funext (shad13 c o n)
    cases l with
    | l2 x0 => exact (step_eq ..).trans ((head13_2 ..).trans (by rw [ih]; rfl))
theorem nat13 (c : Config) (o : Owner) (s : L13 → Option R13) (l : L13) : bod13 to13 c o (fun l => (s l).map to13) l = (bod13 id c o s l).map to13 := by
  cases l <;> simp only [bod13, map_cond, Option.map_some, Option.map_none, id]
theorem ct13 (c : Config) (o : Owner) (l : L13) : CT fun j => bod13 id c o j l := by
  cases l <;> (dsimp only [bod13]; repeat (first | exact CT.jump _ | exact CT.const _ | apply CT.cond))
/-- audit.owns, from a head on. -/
noncomputable def spL13 (c : Config) (o : Owner) : L13 → Option R13 := lfp (bod13 id c o)
theorem spL13_eq (c : Config) (o : Owner) (l : L13) : spL13 c o l = bod13 id c o (spL13 c o) l := lfp_eq (ct13 c o) l
/-- audit.owns -/
noncomputable def spO13 (c : Config) (o : Owner) : Option R13 := ent13 id c o (spL13 c o)
noncomputable def sp13 (c : Config) (o : Owner) : R13 := (spO13 c o).getD default
noncomputable def spc13 (c : Config) (o : Owner) : Bool := (spO13 c o).isSome
theorem oks13 (c : Config) (o : Owner) (hc : spc13 c o = true) : Okay Pr GL 13 [.agg [.v (.int .i64 c.frames), .v (.int .i64 c.major), .v (.int .i64 c.kernel), .v (.int .i64 c.room), .sl (.sl .sWindow) c.cores, .sl .sPartition c.partitions, .sl .sChannel c.channels], .agg [.v (.int .i64 o.kind), .v (.int .i64 o.index), .v (.int .i64 o.port)]] [] (to13 (sp13 c o)) := by
  obtain ⟨n, h⟩ := auto_ok (nat13 c o) (fun s => show ent13 to13 c o (fun l => (s l).map to13) = (ent13 id c o s).map to13 by simp only [ent13, map_cond, Option.map_some, Option.map_none, id]) (ct13 c o) (show CT fun j => ent13 id c o j by dsimp only [ent13]; repeat (first | exact CT.jump _ | exact CT.const _ | apply CT.cond)) (isSome_getD hc)
  exact okay_of_run (H := H13) GIok G0ok Tryd.func13 rfl (by kernel_rfl) n (by
    rw [run13]
    rw [show (fun l => runL Pr GI H13 Tryd.f13 n (num13 l) (st13 c o l)) = shad (bod13 to13 c o) n from funext (shad13 c o n)]
    exact h)

noncomputable def g66 (args : List AV) (hp : List Blk) : Option (Bool × AV × List Blk) :=
  match hp, args with
  | [], [x0] => (rdP .sConfig x0).bind fun a0 => some ((spc66 a0), .agg [.v (.int .i64 ((sp66 a0).e)), .v (.int .i64 ((sp66 a0).where_.first)), .v (.int .i64 ((sp66 a0).where_.second))], [])
  | _, _ => none
theorem g66_ok {args : List AV} {hp : List Blk} {b : Bool} {r : AV} {hp' : List Blk} (h : g66 args hp = some (b, r, hp')) (hb : b = true) : FnOk Pr 66 ∧ Okay Pr GL 66 args hp ⟨r, hp'⟩ := by
  unfold g66 at h
  split at h
  · simp only [Option.bind_eq_some_iff] at h
    obtain ⟨a0, h0, h⟩ := h
    cases h; exact ⟨fnok Tryd.func66 (by kernel_rfl) rfl, (oks66 a0 hb).ats (.cons (rdP_V h0) .nil)⟩
  · cases h
noncomputable def g8 (args : List AV) (hp : List Blk) : Option (Bool × AV × List Blk) :=
  match hp, args with
  | [], [x0] => (rdS .sConfig x0).bind fun a0 => some ((spc8 a0), .tup [.v (.int .i64 ((sp8 a0).1)), .agg [.v (.int .i64 ((sp8 a0).2.first)), .v (.int .i64 ((sp8 a0).2.second))]], [])
  | _, _ => none
theorem g8_ok {args : List AV} {hp : List Blk} {b : Bool} {r : AV} {hp' : List Blk} (h : g8 args hp = some (b, r, hp')) (hb : b = true) : FnOk Pr 8 ∧ Okay Pr GL 8 args hp ⟨r, hp'⟩ := by
  unfold g8 at h
  split at h
  · simp only [Option.bind_eq_some_iff] at h
    obtain ⟨a0, h0, h⟩ := h
    cases h; exact ⟨fnok Tryd.func8 (by kernel_rfl) rfl, (oks8 a0 hb).ats (.cons (rdS_V h0) .nil)⟩
  · cases h
noncomputable def g13 (args : List AV) (hp : List Blk) : Option (Bool × AV × List Blk) :=
  match hp, args with
  | [], [x0, x1] => (rdS .sConfig x0).bind fun a0 => (rdS .sOwner x1).bind fun a1 => some ((spc13 a0 a1), .v (.bool (sp13 a0 a1)), [])
  | _, _ => none
theorem g13_ok {args : List AV} {hp : List Blk} {b : Bool} {r : AV} {hp' : List Blk} (h : g13 args hp = some (b, r, hp')) (hb : b = true) : FnOk Pr 13 ∧ Okay Pr GL 13 args hp ⟨r, hp'⟩ := by
  unfold g13 at h
  split at h
  · simp only [Option.bind_eq_some_iff] at h
    obtain ⟨a0, h0, a1, h1, h⟩ := h
    cases h; exact ⟨fnok Tryd.func13 (by kernel_rfl) rfl, (oks13 a0 a1 hb).ats (.cons (rdS_V h0) (.cons (rdS_V h1) .nil))⟩
  · cases h
noncomputable def ask (x : Clo) : AdmitFound := match x with
  | .c53 c0 => sp53 c0
  | .c56 c0 => sp56 c0
  | .c57 c0 => sp57 c0
  | .c58 c0 => sp58 c0
  | .c59 c0 => sp59 c0
  | .c60 c0 c1 => sp60 c0 c1
  | .c62 c0 c1 => sp62 c0 c1
  | .c64 c0 c1 => sp64 c0 c1
  | .c66 c0 => sp66 c0
  | _ => default
noncomputable def askc (x : Clo) : Bool := match x with
  | .c53 c0 => true
  | .c56 c0 => true
  | .c57 c0 => true
  | .c58 c0 => true
  | .c59 c0 => true
  | .c60 c0 c1 => spc60 c0 c1
  | .c62 c0 c1 => spc62 c0 c1
  | .c64 c0 c1 => spc64 c0 c1
  | .c66 c0 => spc66 c0
  | _ => false
noncomputable def gask (x : Clo) (args : List AV) (hp : List Blk) : Option (Bool × AV × List Blk) :=
  match hp, args with
  | [], [] => some (askc x, .agg [.v (.int .i64 ((ask x).e)), .v (.int .i64 ((ask x).where_.first)), .v (.int .i64 ((ask x).where_.second))], [])
  | _, _ => none
theorem gask_ok {x : Clo} {args : List AV} {hp : List Blk} {b : Bool} {r : AV} {hp' : List Blk} (h : gask x args hp = some (b, r, hp')) (hb : b = true) : OkC Pr GL (.c x) args hp ⟨r, hp'⟩ := by
  unfold gask at h
  split at h
  · cases h
    cases x with
    | none => cases hb
    | c53 c0 => exact ⟨53, _, by kernel_rfl, fnok Tryd.func53 (by kernel_rfl) rfl, oks53 c0⟩
    | c56 c0 => exact ⟨56, _, by kernel_rfl, fnok Tryd.func56 (by kernel_rfl) rfl, oks56 c0⟩
    | c57 c0 => exact ⟨57, _, by kernel_rfl, fnok Tryd.func57 (by kernel_rfl) rfl, oks57 c0⟩
    | c58 c0 => exact ⟨58, _, by kernel_rfl, fnok Tryd.func58 (by kernel_rfl) rfl, oks58 c0⟩
    | c59 c0 => exact ⟨59, _, by kernel_rfl, fnok Tryd.func59 (by kernel_rfl) rfl, oks59 c0⟩
    | c60 c0 c1 => exact ⟨60, _, by kernel_rfl, fnok Tryd.func60 (by kernel_rfl) rfl, oks60 c0 c1 hb⟩
    | c62 c0 c1 => exact ⟨62, _, by kernel_rfl, fnok Tryd.func62 (by kernel_rfl) rfl, oks62 c0 c1 hb⟩
    | c64 c0 c1 => exact ⟨64, _, by kernel_rfl, fnok Tryd.func64 (by kernel_rfl) rfl, oks64 c0 c1 hb⟩
    | c66 c0 => exact ⟨66, _, by kernel_rfl, fnok Tryd.func66 (by kernel_rfl) rfl, oks66 c0 hb⟩
    | c90 c0 => cases hb
    | c91 c0 => cases hb
  · cases h
noncomputable def gcloask (x : Clo) (args : List AV) (hp : List Blk) : Option (Bool × AV × List Blk) :=
  match args with
  | [] => gask x [] hp
  | _ => none
theorem gcloask_ok {x : Clo} {args : List AV} {hp : List Blk} {b : Bool} {r : AV} {hp' : List Blk} (h : gcloask x args hp = some (b, r, hp')) (hb : b = true) : OkC Pr GL (.c x) args hp ⟨r, hp'⟩ := by
  unfold gcloask at h
  split at h
  · exact gask_ok h hb
  · cases h
noncomputable def GJ : Gam := fun c args hp => match c with
  | .f f => pick1 66 f (g66 args hp) (pick1 8 f (g8 args hp) (pick1 13 f (g13 args hp) (GI (.f f) args hp)))
  | .c x => gcloask x args hp
theorem GJok : GOk Pr GL GJ := by
  intro c args hp b r hp' h hb
  cases c with
  | f f =>
    simp only [GJ] at h
    rcases pick1_ok h with ⟨rfl, h⟩ | h
    · exact g66_ok h hb
    rcases pick1_ok h with ⟨rfl, h⟩ | h
    · exact g8_ok h hb
    rcases pick1_ok h with ⟨rfl, h⟩ | h
    · exact g13_ok h hb
    exact GIok (.f f) args hp b r hp' h hb
  | c x => exact gcloask_ok h hb
end Go.Proofs.YthnkmndjhedgdaaDoor
