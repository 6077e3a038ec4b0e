/- Shadows of functions (printed by pr2.py off the model's code; the kernel holds each equation to it), and what they answer. -/
import Derived.Test.YthnkmndjhedgdaaDoorP1
namespace Go.Proofs.YthnkmndjhedgdaaDoor
open Go.RowKit
set_option linter.unusedVariables false
set_option linter.unusedSimpArgs false
/-! ### ref12.Same -/
abbrev R7 := Bool
def to7 (r : R7) : Ans := ⟨.v (.bool r), []⟩
inductive L7 where
  | l0 (x0 : Int)
  | l4 (x0 : Int)
  | l8 (x1 : Int) (x0 : Int)
  | l12 (x0 : Int)
def num7 : L7 → Nat
  | .l0 _ => 0
  | .l4 _ => 4
  | .l8 _ _ => 8
  | .l12 _ => 12
def H7 : Hint := ⟨fun n => [].any (Nat.beq n), hdAt [(0, ⟨fgt [2, 3, 5] 144 0, []⟩), (4, ⟨fgt [2, 3, 6] 144 0, []⟩), (8, ⟨fgt [2, 3, 6, 7] 144 0, []⟩), (12, ⟨fgt [2, 3, 8] 144 0, []⟩)], [], G0, nodp⟩
noncomputable def st7 (a : Config) (b : Config) : L7 → St
  | .l0 x0 => ⟨mkE [(2, .ref 0 0), (3, .ref 1 0), (5, .v (.int .i64 x0))] 144 0, [.cells 26 [.v (.int .i64 a.frames), .v (.int .i64 a.major), .v (.int .i64 a.kernel), .v (.int .i64 a.room), .sl (.sl .sWindow) a.cores, .sl .sPartition a.partitions, .sl .sChannel a.channels], .cells 26 [.v (.int .i64 b.frames), .v (.int .i64 b.major), .v (.int .i64 b.kernel), .v (.int .i64 b.room), .sl (.sl .sWindow) b.cores, .sl .sPartition b.partitions, .sl .sChannel b.channels]], GL, 0, [], nodp⟩
  | .l4 x0 => ⟨mkE [(2, .ref 0 0), (3, .ref 1 0), (6, .v (.int .i64 x0))] 144 0, [.cells 26 [.v (.int .i64 a.frames), .v (.int .i64 a.major), .v (.int .i64 a.kernel), .v (.int .i64 a.room), .sl (.sl .sWindow) a.cores, .sl .sPartition a.partitions, .sl .sChannel a.channels], .cells 26 [.v (.int .i64 b.frames), .v (.int .i64 b.major), .v (.int .i64 b.kernel), .v (.int .i64 b.room), .sl (.sl .sWindow) b.cores, .sl .sPartition b.partitions, .sl .sChannel b.channels]], GL, 0, [], nodp⟩
  | .l8 x1 x0 => ⟨mkE [(2, .ref 0 0), (3, .ref 1 0), (6, .v (.int .i64 x1)), (7, .v (.int .i64 x0))] 144 0, [.cells 26 [.v (.int .i64 a.frames), .v (.int .i64 a.major), .v (.int .i64 a.kernel), .v (.int .i64 a.room), .sl (.sl .sWindow) a.cores, .sl .sPartition a.partitions, .sl .sChannel a.channels], .cells 26 [.v (.int .i64 b.frames), .v (.int .i64 b.major), .v (.int .i64 b.kernel), .v (.int .i64 b.room), .sl (.sl .sWindow) b.cores, .sl .sPartition b.partitions, .sl .sChannel b.channels]], GL, 0, [], nodp⟩
  | .l12 x0 => ⟨mkE [(2, .ref 0 0), (3, .ref 1 0), (8, .v (.int .i64 x0))] 144 0, [.cells 26 [.v (.int .i64 a.frames), .v (.int .i64 a.major), .v (.int .i64 a.kernel), .v (.int .i64 a.room), .sl (.sl .sWindow) a.cores, .sl .sPartition a.partitions, .sl .sChannel a.channels], .cells 26 [.v (.int .i64 b.frames), .v (.int .i64 b.major), .v (.int .i64 b.kernel), .v (.int .i64 b.room), .sl (.sl .sWindow) b.cores, .sl .sPartition b.partitions, .sl .sChannel b.channels]], GL, 0, [], nodp⟩
noncomputable def bod7 {R : Type} (ret : R7 → R) (a : Config) (b : Config) (j : L7 → Option R) : L7 → Option R
  | .l0 x0 => cond (decide ((x0 : Int) < a.channels.length))
    (cond (inR x0 a.channels.length) (
      cond (inR x0 b.channels.length) (
        cond (!((((atChannel a.channels x0.toNat).kind : Int) == ((atChannel b.channels x0.toNat).kind)) && ((((atChannel a.channels x0.toNat).words : Int) == ((atChannel b.channels x0.toNat).words)) && ((((atChannel a.channels x0.toNat).depth : Int) == ((atChannel b.channels x0.toNat).depth)) && true))))
          (some (ret false))
          (j (.l0 (IntKind.i64.wrap (x0 + 1))))) none) none)
    (j (.l4 0))
  | .l4 x0 => cond (decide ((x0 : Int) < a.cores.length))
    (cond (inR x0 a.cores.length) (
      cond (inR x0 b.cores.length) (
        cond (!(((atLWindow a.cores x0.toNat).length : Int) == (atLWindow b.cores x0.toNat).length))
          (some (ret false))
          (j (.l8 x0 0))) none) none)
    (j (.l12 0))
  | .l8 x1 x0 => cond (inR x1 a.cores.length) (
    cond (decide ((x0 : Int) < (atLWindow a.cores x1.toNat).length))
      (cond (inR x1 a.cores.length) (
        cond (inR x0 (atLWindow a.cores x1.toNat).length) (
          cond (inR x1 b.cores.length) (
            cond (inR x0 (atLWindow b.cores x1.toNat).length) (
              cond (!((((atWindow (atLWindow a.cores x1.toNat) x0.toNat).partition : Int) == ((atWindow (atLWindow b.cores x1.toNat) x0.toNat).partition)) && ((((atWindow (atLWindow a.cores x1.toNat) x0.toNat).usable : Int) == ((atWindow (atLWindow b.cores x1.toNat) x0.toNat).usable)) && ((((atWindow (atLWindow a.cores x1.toNat) x0.toNat).slack : Int) == ((atWindow (atLWindow b.cores x1.toNat) x0.toNat).slack)) && true))))
                (some (ret false))
                (j (.l8 x1 (IntKind.i64.wrap (x0 + 1))))) none) none) none) none)
      (j (.l4 (IntKind.i64.wrap (x1 + 1))))) none
  | .l12 x0 => cond (decide ((x0 : Int) < a.partitions.length))
    (cond (inR x0 a.partitions.length) (
      cond (inR x0 b.partitions.length) (
        cond (spc15 (atPartition a.partitions x0.toNat) (atPartition b.partitions x0.toNat)) (
          cond (!(sp15 (atPartition a.partitions x0.toNat) (atPartition b.partitions x0.toNat)))
            (some (ret false))
            (j (.l12 (IntKind.i64.wrap (x0 + 1))))) none) none) none)
    (some (ret true))
noncomputable def ent7 {R : Type} (ret : R7 → R) (a : Config) (b : Config) (j : L7 → Option R) : Option R :=
    cond (!((a.frames : Int) == b.frames))
    (some (ret false))
    (cond (!((a.major : Int) == b.major))
      (some (ret false))
      (cond (!((a.kernel : Int) == b.kernel))
        (some (ret false))
        (cond (!((a.room : Int) == b.room))
          (some (ret false))
          (cond (!((a.cores.length : Int) == b.cores.length))
            (some (ret false))
            (cond (!((a.partitions.length : Int) == b.partitions.length))
              (some (ret false))
              (cond (!((a.channels.length : Int) == b.channels.length))
                (some (ret false))
                (j (.l0 0))))))))
theorem head7_0 (J : Jmp) (a : Config) (b : Config) (x0 : Int) : stepAt Pr GB H7 J 0 0 (bodyOf Tryd.f7) (fin Pr H7 Tryd.f7) (st7 a b (.l0 x0)) = bod7 to7 a b (fun l => J (num7 l) (st7 a b l)) (.l0 x0) := by kernel_rfl
theorem head7_4 (J : Jmp) (a : Config) (b : Config) (x0 : Int) : stepAt Pr GB H7 J 4 0 (bodyOf Tryd.f7) (fin Pr H7 Tryd.f7) (st7 a b (.l4 x0)) = bod7 to7 a b (fun l => J (num7 l) (st7 a b l)) (.l4 x0) := by kernel_rfl
theorem head7_8 (J : Jmp) (a : Config) (b : Config) (x1 : Int) (x0 : Int) : stepAt Pr GB H7 J 8 0 (bodyOf Tryd.f7) (fin Pr H7 Tryd.f7) (st7 a b (.l8 x1 x0)) = bod7 to7 a b (fun l => J (num7 l) (st7 a b l)) (.l8 x1 x0) := by kernel_rfl
theorem head7_12 (J : Jmp) (a : Config) (b : Config) (x0 : Int) : stepAt Pr GB H7 J 12 0 (bodyOf Tryd.f7) (fin Pr H7 Tryd.f7) (st7 a b (.l12 x0)) = bod7 to7 a b (fun l => J (num7 l) (st7 a b l)) (.l12 x0) := by kernel_rfl
theorem run7 (J : Jmp) (a : Config) (b : Config) : runF Pr GB H7 J GL Tryd.f7 [.agg [.v (.int .i64 a.frames), .v (.int .i64 a.major), .v (.int .i64 a.kernel), .v (.int .i64 a.room), .sl (.sl .sWindow) a.cores, .sl .sPartition a.partitions, .sl .sChannel a.channels], .agg [.v (.int .i64 b.frames), .v (.int .i64 b.major), .v (.int .i64 b.kernel), .v (.int .i64 b.room), .sl (.sl .sWindow) b.cores, .sl .sPartition b.partitions, .sl .sChannel b.channels]] [] = ent7 to7 a b (fun l => J (num7 l) (st7 a b l)) := by kernel_rfl
theorem shad7 (a : Config) (b : Config) : ∀ (n : Nat) (l : L7), runL Pr GB H7 Tryd.f7 n (num7 l) (st7 a b l) = shad (bod7 to7 a b) n l
  | 0, l => by cases l <;> rfl
  | n + 1, l => by
    have ih : (fun l => runL Pr GB H7 Tryd.f7 n (num7 l) (st7 a b l)) = shad (bod7 to7 a b) n := funext (shad7 a b n)
    cases l with
    | l0 x0 => exact (step_eq ..).trans ((head7_0 ..).trans (by rw [ih]; rfl))
    | l4 x0 => exact (step_eq ..).trans ((head7_4 ..).trans (by rw [ih]; rfl))
    | l8 x1 x0 => exact (step_eq ..).trans ((head7_8 ..).trans (by rw [ih]; rfl))
    | l12 x0 => exact (step_eq ..).trans ((head7_12 ..).trans (by rw [ih]; rfl))
theorem nat7 (a : Config) (b : Config) (s : L7 → Option R7) (l : L7) : bod7 to7 a b (fun l => (s l).map to7) l = (bod7 id a b s l).map to7 := by
  cases l <;> simp only [bod7, map_cond, Option.map_some, Option.map_none, id]
theorem ct7 (a : Config) (b : Config) (l : L7) : CT fun j => bod7 id a b j l := by
  cases l <;> (dsimp only [bod7]; repeat (first | exact CT.jump _ | exact CT.const _ | apply CT.cond))
/-- ref12.Same, from a head on. -/
noncomputable def spL7 (a : Config) (b : Config) : L7 → Option R7 := lfp (bod7 id a b)
theorem spL7_eq (a : Config) (b : Config) (l : L7) : spL7 a b l = bod7 id a b (spL7 a b) l := lfp_eq (ct7 a b) l
/-- ref12.Same -/
noncomputable def spO7 (a : Config) (b : Config) : Option R7 := ent7 id a b (spL7 a b)
noncomputable def sp7 (a : Config) (b : Config) : R7 := (spO7 a b).getD default
noncomputable def spc7 (a : Config) (b : Config) : Bool := (spO7 a b).isSome
theorem oks7 (a : Config) (b : Config) (hc : spc7 a b = true) : Okay Pr GL 7 [.agg [.v (.int .i64 a.frames), .v (.int .i64 a.major), .v (.int .i64 a.kernel), .v (.int .i64 a.room), .sl (.sl .sWindow) a.cores, .sl .sPartition a.partitions, .sl .sChannel a.channels], .agg [.v (.int .i64 b.frames), .v (.int .i64 b.major), .v (.int .i64 b.kernel), .v (.int .i64 b.room), .sl (.sl .sWindow) b.cores, .sl .sPartition b.partitions, .sl .sChannel b.channels]] [] (to7 (sp7 a b)) := by
  obtain ⟨n, h⟩ := auto_ok (nat7 a b) (fun s => show ent7 to7 a b (fun l => (s l).map to7) = (ent7 id a b s).map to7 by simp only [ent7, map_cond, Option.map_some, Option.map_none, id]) (ct7 a b) (show CT fun j => ent7 id a b j by dsimp only [ent7]; repeat (first | exact CT.jump _ | exact CT.const _ | apply CT.cond)) (isSome_getD hc)
  exact okay_of_run (H := H7) GBok G0ok Tryd.func7 rfl (by kernel_rfl) n (by
    rw [run7]
    rw [show (fun l => runL Pr GB H7 Tryd.f7 n (num7 l) (st7 a b l)) = shad (bod7 to7 a b) n from funext (shad7 a b n)]
    exact h)

/-! ### ref16.whole -/
abbrev R16 := Int
def to16 (r : R16) : Ans := ⟨.v (.int .i64 r), []⟩
def H16 : Hint := ⟨fun _ => false, fun _ => ⟨[], []⟩, [], G0, nodp⟩
noncomputable def ent16 {R : Type} (ret : R16 → R) (c : Config) : Option R :=
    cond (!(sp29 c.frames 1 1024))
    (some (ret 400))
    (cond (!(sp29 c.major 1 16384))
      (some (ret 401))
      (cond (!(sp29 c.cores.length 1 4))
        (some (ret 402))
        (cond (!(sp29 c.partitions.length 1 8))
          (some (ret 403))
          (cond (decide ((c.channels.length : Int) > 16))
            (some (ret 404))
            (some (ret 0))))))
theorem run16 (J : Jmp) (c : Config) : runF Pr GB H16 J GL Tryd.f16 [.agg [.v (.int .i64 c.frames), .v (.int .i64 c.major), .v (.int .i64 c.kernel), .v (.int .i64 c.room), .sl (.sl .sWindow) c.cores, .sl .sPartition c.partitions, .sl .sChannel c.channels]] [] = ent16 to16 c := by kernel_rfl
/-- ref16.whole -/
noncomputable def spO16 (c : Config) : Option R16 := ent16 id c
noncomputable def sp16 (c : Config) : R16 := (spO16 c).getD default
theorem some16 (c : Config) : spO16 c = some (sp16 c) := isSome_getD (show (spO16 c).isSome = true by simp only [spO16, ent16, isSome_cond, Option.isSome_some, cond_self])
theorem oks16 (c : Config) : Okay Pr GL 16 [.agg [.v (.int .i64 c.frames), .v (.int .i64 c.major), .v (.int .i64 c.kernel), .v (.int .i64 c.room), .sl (.sl .sWindow) c.cores, .sl .sPartition c.partitions, .sl .sChannel c.channels]] [] (to16 (sp16 c)) :=
  okay_of_run (H := H16) GBok G0ok Tryd.func16 rfl (by kernel_rfl) 0 ((run16 (runL Pr GB H16 Tryd.f16 0) c).trans (auto_ok0 (show ent16 to16 c = (ent16 id c).map to16 by simp only [ent16, map_cond, Option.map_some, Option.map_none, id]) (some16 c)))

/-! ### ref16.channel -/
abbrev R19 := Int
def to19 (r : R19) : Ans := ⟨.v (.int .i64 r), []⟩
def H19 : Hint := ⟨fun _ => false, fun _ => ⟨[], []⟩, [], G0, nodp⟩
noncomputable def ent19 {R : Type} (ret : R19 → R) (c : Config) (h_1 : Int) : Option R :=
    cond (inR h_1 c.channels.length) (
    cond (!(((atChannel c.channels h_1.toNat).kind : Int) == 2))
      (cond (!(((atChannel c.channels h_1.toNat).kind : Int) == 1))
        (some (ret 415))
        (cond (!(sp29 ((atChannel c.channels h_1.toNat).words) 1 16))
          (some (ret 415))
          (cond (((atChannel c.channels h_1.toNat).kind : Int) == 2)
            (cond (!(sp29 ((atChannel c.channels h_1.toNat).depth) 1 8))
              (some (ret 415))
              (cond (!(((atChannel c.channels h_1.toNat).kind : Int) == 2))
                (cond (!(((atChannel c.channels h_1.toNat).depth : Int) == 0))
                  (some (ret 415))
                  (cond (spc33 c h_1) (
                    cond (!(((sp33 c h_1).1 : Int) == 1))
                      (some (ret 416))
                      (cond (((atChannel c.channels h_1.toNat).kind : Int) == 2)
                        (cond (!(((sp33 c h_1).2 : Int) == 1))
                          (some (ret 417))
                          (cond (!(((atChannel c.channels h_1.toNat).kind : Int) == 2))
                            (cond (!(sp29 ((sp33 c h_1).2) 1 4))
                              (some (ret 417))
                              (some (ret 0)))
                            (some (ret 0))))
                        (cond (!(((atChannel c.channels h_1.toNat).kind : Int) == 2))
                          (cond (!(sp29 ((sp33 c h_1).2) 1 4))
                            (some (ret 417))
                            (some (ret 0)))
                          (some (ret 0))))) none))
                (cond (spc33 c h_1) (
                  cond (!(((sp33 c h_1).1 : Int) == 1))
                    (some (ret 416))
                    (cond (((atChannel c.channels h_1.toNat).kind : Int) == 2)
                      (cond (!(((sp33 c h_1).2 : Int) == 1))
                        (some (ret 417))
                        (cond (!(((atChannel c.channels h_1.toNat).kind : Int) == 2))
                          (cond (!(sp29 ((sp33 c h_1).2) 1 4))
                            (some (ret 417))
                            (some (ret 0)))
                          (some (ret 0))))
                      (cond (!(((atChannel c.channels h_1.toNat).kind : Int) == 2))
                        (cond (!(sp29 ((sp33 c h_1).2) 1 4))
                          (some (ret 417))
                          (some (ret 0)))
                        (some (ret 0))))) none)))
            (cond (!(((atChannel c.channels h_1.toNat).kind : Int) == 2))
              (cond (!(((atChannel c.channels h_1.toNat).depth : Int) == 0))
                (some (ret 415))
                (cond (spc33 c h_1) (
                  cond (!(((sp33 c h_1).1 : Int) == 1))
                    (some (ret 416))
                    (cond (((atChannel c.channels h_1.toNat).kind : Int) == 2)
                      (cond (!(((sp33 c h_1).2 : Int) == 1))
                        (some (ret 417))
                        (cond (!(((atChannel c.channels h_1.toNat).kind : Int) == 2))
                          (cond (!(sp29 ((sp33 c h_1).2) 1 4))
                            (some (ret 417))
                            (some (ret 0)))
                          (some (ret 0))))
                      (cond (!(((atChannel c.channels h_1.toNat).kind : Int) == 2))
                        (cond (!(sp29 ((sp33 c h_1).2) 1 4))
                          (some (ret 417))
                          (some (ret 0)))
                        (some (ret 0))))) none))
              (cond (spc33 c h_1) (
                cond (!(((sp33 c h_1).1 : Int) == 1))
                  (some (ret 416))
                  (cond (((atChannel c.channels h_1.toNat).kind : Int) == 2)
                    (cond (!(((sp33 c h_1).2 : Int) == 1))
                      (some (ret 417))
                      (cond (!(((atChannel c.channels h_1.toNat).kind : Int) == 2))
                        (cond (!(sp29 ((sp33 c h_1).2) 1 4))
                          (some (ret 417))
                          (some (ret 0)))
                        (some (ret 0))))
                    (cond (!(((atChannel c.channels h_1.toNat).kind : Int) == 2))
                      (cond (!(sp29 ((sp33 c h_1).2) 1 4))
                        (some (ret 417))
                        (some (ret 0)))
                      (some (ret 0))))) none)))))
      (cond (!(sp29 ((atChannel c.channels h_1.toNat).words) 1 16))
        (some (ret 415))
        (cond (((atChannel c.channels h_1.toNat).kind : Int) == 2)
          (cond (!(sp29 ((atChannel c.channels h_1.toNat).depth) 1 8))
            (some (ret 415))
            (cond (!(((atChannel c.channels h_1.toNat).kind : Int) == 2))
              (cond (!(((atChannel c.channels h_1.toNat).depth : Int) == 0))
                (some (ret 415))
                (cond (spc33 c h_1) (
                  cond (!(((sp33 c h_1).1 : Int) == 1))
                    (some (ret 416))
                    (cond (((atChannel c.channels h_1.toNat).kind : Int) == 2)
                      (cond (!(((sp33 c h_1).2 : Int) == 1))
                        (some (ret 417))
                        (cond (!(((atChannel c.channels h_1.toNat).kind : Int) == 2))
                          (cond (!(sp29 ((sp33 c h_1).2) 1 4))
                            (some (ret 417))
                            (some (ret 0)))
                          (some (ret 0))))
                      (cond (!(((atChannel c.channels h_1.toNat).kind : Int) == 2))
                        (cond (!(sp29 ((sp33 c h_1).2) 1 4))
                          (some (ret 417))
                          (some (ret 0)))
                        (some (ret 0))))) none))
              (cond (spc33 c h_1) (
                cond (!(((sp33 c h_1).1 : Int) == 1))
                  (some (ret 416))
                  (cond (((atChannel c.channels h_1.toNat).kind : Int) == 2)
                    (cond (!(((sp33 c h_1).2 : Int) == 1))
                      (some (ret 417))
                      (cond (!(((atChannel c.channels h_1.toNat).kind : Int) == 2))
                        (cond (!(sp29 ((sp33 c h_1).2) 1 4))
                          (some (ret 417))
                          (some (ret 0)))
                        (some (ret 0))))
                    (cond (!(((atChannel c.channels h_1.toNat).kind : Int) == 2))
                      (cond (!(sp29 ((sp33 c h_1).2) 1 4))
                        (some (ret 417))
                        (some (ret 0)))
                      (some (ret 0))))) none)))
          (cond (!(((atChannel c.channels h_1.toNat).kind : Int) == 2))
            (cond (!(((atChannel c.channels h_1.toNat).depth : Int) == 0))
              (some (ret 415))
              (cond (spc33 c h_1) (
                cond (!(((sp33 c h_1).1 : Int) == 1))
                  (some (ret 416))
                  (cond (((atChannel c.channels h_1.toNat).kind : Int) == 2)
                    (cond (!(((sp33 c h_1).2 : Int) == 1))
                      (some (ret 417))
                      (cond (!(((atChannel c.channels h_1.toNat).kind : Int) == 2))
                        (cond (!(sp29 ((sp33 c h_1).2) 1 4))
                          (some (ret 417))
                          (some (ret 0)))
                        (some (ret 0))))
                    (cond (!(((atChannel c.channels h_1.toNat).kind : Int) == 2))
                      (cond (!(sp29 ((sp33 c h_1).2) 1 4))
                        (some (ret 417))
                        (some (ret 0)))
                      (some (ret 0))))) none))
            (cond (spc33 c h_1) (
              cond (!(((sp33 c h_1).1 : Int) == 1))
                (some (ret 416))
                (cond (((atChannel c.channels h_1.toNat).kind : Int) == 2)
                  (cond (!(((sp33 c h_1).2 : Int) == 1))
                    (some (ret 417))
                    (cond (!(((atChannel c.channels h_1.toNat).kind : Int) == 2))
                      (cond (!(sp29 ((sp33 c h_1).2) 1 4))
                        (some (ret 417))
                        (some (ret 0)))
                      (some (ret 0))))
                  (cond (!(((atChannel c.channels h_1.toNat).kind : Int) == 2))
                    (cond (!(sp29 ((sp33 c h_1).2) 1 4))
                      (some (ret 417))
                      (some (ret 0)))
                    (some (ret 0))))) none))))) none
theorem run19 (J : Jmp) (c : Config) (h_1 : Int) : runF Pr GB H19 J GL Tryd.f19 [.agg [.v (.int .i64 c.frames), .v (.int .i64 c.major), .v (.int .i64 c.kernel), .v (.int .i64 c.room), .sl (.sl .sWindow) c.cores, .sl .sPartition c.partitions, .sl .sChannel c.channels], .v (.int .i64 h_1)] [] = ent19 to19 c h_1 := by kernel_rfl
/-- ref16.channel -/
noncomputable def spO19 (c : Config) (h_1 : Int) : Option R19 := ent19 id c h_1
noncomputable def sp19 (c : Config) (h_1 : Int) : R19 := (spO19 c h_1).getD default
noncomputable def spc19 (c : Config) (h_1 : Int) : Bool := (spO19 c h_1).isSome
theorem oks19 (c : Config) (h_1 : Int) (hc : spc19 c h_1 = true) : Okay Pr GL 19 [.agg [.v (.int .i64 c.frames), .v (.int .i64 c.major), .v (.int .i64 c.kernel), .v (.int .i64 c.room), .sl (.sl .sWindow) c.cores, .sl .sPartition c.partitions, .sl .sChannel c.channels], .v (.int .i64 h_1)] [] (to19 (sp19 c h_1)) :=
  okay_of_run (H := H19) GBok G0ok Tryd.func19 rfl (by kernel_rfl) 0 ((run19 (runL Pr GB H19 Tryd.f19 0) c h_1).trans (auto_ok0 (show ent19 to19 c h_1 = (ent19 id c h_1).map to19 by simp only [ent19, map_cond, Option.map_some, Option.map_none, id]) (isSome_getD hc)))

/-! ### ref16.core -/
abbrev R21 := Int × Where
def to21 (r : R21) : Ans := ⟨.tup [.v (.int .i64 r.1), .agg [.v (.int .i64 r.2.first), .v (.int .i64 r.2.second)]], []⟩
inductive L21 where
  | l0 (x0 : Int) (x1 : Int)
def num21 : L21 → Nat
  | .l0 _ _ => 0
def H21 : Hint := ⟨fun n => [].any (Nat.beq n), hdAt [(0, ⟨fgt [1, 2, 5, 6, 7] 84 0, []⟩)], [], G0, nodp⟩
noncomputable def st21 (c : Config) (i : Int) : L21 → St
  | .l0 x0 x1 => ⟨mkE [(1, .v (.int .i64 i)), (2, .ref 0 0), (5, .ref 1 0), (6, .v (.int .i64 x0)), (7, .v (.int .i64 x1))] 84 0, [.cells 26 [.v (.int .i64 c.frames), .v (.int .i64 c.major), .v (.int .i64 c.kernel), .v (.int .i64 c.room), .sl (.sl .sWindow) c.cores, .sl .sPartition c.partitions, .sl .sChannel c.channels], .cells 36 [.v (.int .i64 0), .v (.int .i64 0)]], GL, 0, [], nodp⟩
noncomputable def bod21 {R : Type} (ret : R21 → R) (c : Config) (i : Int) (j : L21 → Option R) : L21 → Option R
  | .l0 x0 x1 => cond (inR i c.cores.length) (
    cond (decide ((x1 : Int) < (atLWindow c.cores i.toNat).length))
      (cond (inR i c.cores.length) (
        cond (inR x1 (atLWindow c.cores i.toNat).length) (
          cond (!(sp29 ((atWindow (atLWindow c.cores i.toNat) x1.toNat).partition) (-1) (IntKind.i64.wrap (c.partitions.length - 1))))
            (some (ret (419, (⟨i, x1⟩ : Where))))
            (cond (!(sp29 ((atWindow (atLWindow c.cores i.toNat) x1.toNat).usable) 1 16384))
              (some (ret (419, (⟨i, x1⟩ : Where))))
              (cond (!(sp29 ((atWindow (atLWindow c.cores i.toNat) x1.toNat).slack) 82 16384))
                (some (ret (420, (⟨i, x1⟩ : Where))))
                (cond (spc34 c i ((atWindow (atLWindow c.cores i.toNat) x1.toNat).partition)) (
                  cond (sp34 c i ((atWindow (atLWindow c.cores i.toNat) x1.toNat).partition))
                    (some (ret (422, (⟨i, x1⟩ : Where))))
                    (j (.l0 (IntKind.i64.wrap (x0 + (IntKind.i64.wrap ((atWindow (atLWindow c.cores i.toNat) x1.toNat).usable + (atWindow (atLWindow c.cores i.toNat) x1.toNat).slack)))) (IntKind.i64.wrap (x1 + 1))))) none)))) none) none)
      (cond (!((x0 : Int) == c.major))
        (some (ret (421, (sp20 i))))
        (some (ret (0, (⟨0, 0⟩ : Where)))))) none
noncomputable def ent21 {R : Type} (ret : R21 → R) (c : Config) (i : Int) (j : L21 → Option R) : Option R :=
    cond (inR i c.cores.length) (cond (!(sp29 ((atLWindow c.cores i.toNat).length) 1 16))
      (some (ret (418, (sp20 i))))
      (j (.l0 0 0))) none
theorem head21_0 (J : Jmp) (c : Config) (i : Int) (x0 : Int) (x1 : Int) : stepAt Pr GB H21 J 0 0 (bodyOf Tryd.f21) (fin Pr H21 Tryd.f21) (st21 c i (.l0 x0 x1)) = bod21 to21 c i (fun l => J (num21 l) (st21 c i l)) (.l0 x0 x1) := by kernel_rfl
theorem run21 (J : Jmp) (c : Config) (i : Int) : runF Pr GB H21 J GL Tryd.f21 [.agg [.v (.int .i64 c.frames), .v (.int .i64 c.major), .v (.int .i64 c.kernel), .v (.int .i64 c.room), .sl (.sl .sWindow) c.cores, .sl .sPartition c.partitions, .sl .sChannel c.channels], .v (.int .i64 i)] [] = ent21 to21 c i (fun l => J (num21 l) (st21 c i l)) := by kernel_rfl
theorem shad21 (c : Config) (i : Int) : ∀ (n : Nat) (l : L21), runL Pr GB H21 Tryd.f21 n (num21 l) (st21 c i l) = shad (bod21 to21 c i) n l
  | 0, l => by cases l <;> rfl
  | n + 1, l => by
    have ih : (fun l => runL Pr GB H21 Tryd.f21 n (num21 l) (st21 c i l)) = shad (bod21 to21 c i) n := funext (shad21 c i n)
    cases l with
    | l0 x0 x1 => exact (step_eq ..).trans ((head21_0 ..).trans (by rw [ih]; rfl))
theorem nat21 (c : Config) (i : Int) (s : L21 → Option R21) (l : L21) : bod21 to21 c i (fun l => (s l).map to21) l = (bod21 id c i s l).map to21 := by
  cases l <;> simp only [bod21, map_cond, Option.map_some, Option.map_none, id]
theorem ct21 (c : Config) (i : Int) (l : L21) : CT fun j => bod21 id c i j l := by
  cases l <;> (dsimp only [bod21]; repeat (first | exact CT.jump _ | exact CT.const _ | apply CT.cond))
/-- ref16.core, from a head on. -/
noncomputable def spL21 (c : Config) (i : Int) : L21 → Option R21 := lfp (bod21 id c i)
theorem spL21_eq (c : Config) (i : Int) (l : L21) : spL21 c i l = bod21 id c i (spL21 c i) l := lfp_eq (ct21 c i) l
/-- ref16.core -/
noncomputable def spO21 (c : Config) (i : Int) : Option R21 := ent21 id c i (spL21 c i)
noncomputable def sp21 (c : Config) (i : Int) : R21 := (spO21 c i).getD default
noncomputable def spc21 (c : Config) (i : Int) : Bool := (spO21 c i).isSome
theorem oks21 (c : Config) (i : Int) (hc : spc21 c i = true) : Okay Pr GL 21 [.agg [.v (.int .i64 c.frames), .v (.int .i64 c.major), .v (.int .i64 c.kernel), .v (.int .i64 c.room), .sl (.sl .sWindow) c.cores, .sl .sPartition c.partitions, .sl .sChannel c.channels], .v (.int .i64 i)] [] (to21 (sp21 c i)) := by
  obtain ⟨n, h⟩ := auto_ok (nat21 c i) (fun s => show ent21 to21 c i (fun l => (s l).map to21) = (ent21 id c i s).map to21 by simp only [ent21, map_cond, Option.map_some, Option.map_none, id]) (ct21 c i) (show CT fun j => ent21 id c i j by dsimp only [ent21]; repeat (first | exact CT.jump _ | exact CT.const _ | apply CT.cond)) (isSome_getD hc)
  exact okay_of_run (H := H21) GBok G0ok Tryd.func21 rfl (by kernel_rfl) n (by
    rw [run21]
    rw [show (fun l => runL Pr GB H21 Tryd.f21 n (num21 l) (st21 c i l)) = shad (bod21 to21 c i) n from funext (shad21 c i n)]
    exact h)

/-! ### slices.Contains[[]api.Port,api.Port] -/
abbrev R28 := Bool
def to28 (r : R28) : Ans := ⟨.v (.bool r), []⟩
def H28 : Hint := ⟨fun _ => false, fun _ => ⟨[], []⟩, [], G0, nodp⟩
noncomputable def ent28 {R : Type} (ret : R28 → R) (s_0 : (List Port)) (v : Port) : Option R :=
    cond (spc44 s_0 v) (some (ret (decide (((sp44 s_0 v) : Int) ≥ 0)))) none
theorem run28 (J : Jmp) (s_0 : (List Port)) (v : Port) : runF Pr GB H28 J GL Tryd.f28 [.sl .sPort s_0, .agg [.v (.int .i64 v.channel), .v (.bool v.source)]] [] = ent28 to28 s_0 v := by kernel_rfl
/-- slices.Contains[[]api.Port,api.Port] -/
noncomputable def spO28 (s_0 : (List Port)) (v : Port) : Option R28 := ent28 id s_0 v
noncomputable def sp28 (s_0 : (List Port)) (v : Port) : R28 := (spO28 s_0 v).getD default
noncomputable def spc28 (s_0 : (List Port)) (v : Port) : Bool := (spO28 s_0 v).isSome
theorem oks28 (s_0 : (List Port)) (v : Port) (hc : spc28 s_0 v = true) : Okay Pr GL 28 [.sl .sPort s_0, .agg [.v (.int .i64 v.channel), .v (.bool v.source)]] [] (to28 (sp28 s_0 v)) :=
  okay_of_run (H := H28) GBok G0ok Tryd.func28 rfl (by kernel_rfl) 0 ((run28 (runL Pr GB H28 Tryd.f28 0) s_0 v).trans (auto_ok0 (show ent28 to28 s_0 v = (ent28 id s_0 v).map to28 by simp only [ent28, map_cond, Option.map_some, Option.map_none, id]) (isSome_getD hc)))

/-! ### ref16.named -/
abbrev R30 := Bool
def to30 (r : R30) : Ans := ⟨.v (.bool r), []⟩
inductive L30 where
  | l0 (x0 : Int)
def num30 : L30 → Nat
  | .l0 _ => 0
def H30 : Hint := ⟨fun n => [].any (Nat.beq n), hdAt [(0, ⟨fgt [1, 2, 5] 31 0, []⟩)], [], G0, nodp⟩
noncomputable def st30 (c : Config) (p : Int) : L30 → St
  | .l0 x0 => ⟨mkE [(1, .v (.int .i64 p)), (2, .ref 0 0), (5, .v (.int .i64 x0))] 31 0, [.cells 26 [.v (.int .i64 c.frames), .v (.int .i64 c.major), .v (.int .i64 c.kernel), .v (.int .i64 c.room), .sl (.sl .sWindow) c.cores, .sl .sPartition c.partitions, .sl .sChannel c.channels]], GL, 0, [], nodp⟩
noncomputable def bod30 {R : Type} (ret : R30 → R) (c : Config) (p : Int) (j : L30 → Option R) : L30 → Option R
  | .l0 x0 => cond (decide ((x0 : Int) < p))
    (cond (inR x0 c.partitions.length) (
      cond (inR p c.partitions.length) (
        cond (((atPartition c.partitions x0.toNat).name).toList == ((atPartition c.partitions p.toNat).name).toList)
          (some (ret false))
          (j (.l0 (IntKind.i64.wrap (x0 + 1))))) none) none)
    (cond (inR p c.partitions.length) (
      cond (spc45 ((atPartition c.partitions p.toNat).name)) (some (ret (sp45 ((atPartition c.partitions p.toNat).name)))) none) none)
noncomputable def ent30 {R : Type} (ret : R30 → R) (c : Config) (p : Int) (j : L30 → Option R) : Option R :=
    j (.l0 0)
theorem head30_0 (J : Jmp) (c : Config) (p : Int) (x0 : Int) : stepAt Pr GB H30 J 0 0 (bodyOf Tryd.f30) (fin Pr H30 Tryd.f30) (st30 c p (.l0 x0)) = bod30 to30 c p (fun l => J (num30 l) (st30 c p l)) (.l0 x0) := by kernel_rfl
theorem run30 (J : Jmp) (c : Config) (p : Int) : runF Pr GB H30 J GL Tryd.f30 [.agg [.v (.int .i64 c.frames), .v (.int .i64 c.major), .v (.int .i64 c.kernel), .v (.int .i64 c.room), .sl (.sl .sWindow) c.cores, .sl .sPartition c.partitions, .sl .sChannel c.channels], .v (.int .i64 p)] [] = ent30 to30 c p (fun l => J (num30 l) (st30 c p l)) := by kernel_rfl
theorem shad30 (c : Config) (p : Int) : ∀ (n : Nat) (l : L30), runL Pr GB H30 Tryd.f30 n (num30 l) (st30 c p l) = shad (bod30 to30 c p) n l
  | 0, l => by cases l <;> rfl
  | n + 1, l => by
    have ih : (fun l => runL Pr GB H30 Tryd.f30 n (num30 l) (st30 c p l)) = shad (bod30 to30 c p) n := funext (shad30 c p n)
    cases l with
    | l0 x0 => exact (step_eq ..).trans ((head30_0 ..).trans (by rw [ih]; rfl))
theorem nat30 (c : Config) (p : Int) (s : L30 → Option R30) (l : L30) : bod30 to30 c p (fun l => (s l).map to30) l = (bod30 id c p s l).map to30 := by
  cases l <;> simp only [bod30, map_cond, Option.map_some, Option.map_none, id]
theorem ct30 (c : Config) (p : Int) (l : L30) : CT fun j => bod30 id c p j l := by
  cases l <;> (dsimp only [bod30]; repeat (first | exact CT.jump _ | exact CT.const _ | apply CT.cond))
/-- ref16.named, from a head on. -/
noncomputable def spL30 (c : Config) (p : Int) : L30 → Option R30 := lfp (bod30 id c p)
theorem spL30_eq (c : Config) (p : Int) (l : L30) : spL30 c p l = bod30 id c p (spL30 c p) l := lfp_eq (ct30 c p) l
/-- ref16.named -/
noncomputable def spO30 (c : Config) (p : Int) : Option R30 := ent30 id c p (spL30 c p)
noncomputable def sp30 (c : Config) (p : Int) : R30 := (spO30 c p).getD default
noncomputable def spc30 (c : Config) (p : Int) : Bool := (spO30 c p).isSome
theorem oks30 (c : Config) (p : Int) (hc : spc30 c p = true) : Okay Pr GL 30 [.agg [.v (.int .i64 c.frames), .v (.int .i64 c.major), .v (.int .i64 c.kernel), .v (.int .i64 c.room), .sl (.sl .sWindow) c.cores, .sl .sPartition c.partitions, .sl .sChannel c.channels], .v (.int .i64 p)] [] (to30 (sp30 c p)) := by
  obtain ⟨n, h⟩ := auto_ok (nat30 c p) (fun s => show ent30 to30 c p (fun l => (s l).map to30) = (ent30 id c p s).map to30 by simp only [ent30, map_cond, Option.map_some, Option.map_none, id]) (ct30 c p) (show CT fun j => ent30 id c p j by dsimp only [ent30]; repeat (first | exact CT.jump _ | exact CT.const _ | apply CT.cond)) (isSome_getD hc)
  exact okay_of_run (H := H30) GBok G0ok Tryd.func30 rfl (by kernel_rfl) n (by
    rw [run30]
    rw [show (fun l => runL Pr GB H30 Tryd.f30 n (num30 l) (st30 c p l)) = shad (bod30 to30 c p) n from funext (shad30 c p n)]
    exact h)

/-! ### ref16.entry -/
abbrev R32 := Bool
def to32 (r : R32) : Ans := ⟨.v (.bool r), []⟩
inductive L32 where
  | l0 (x0 : Int)
def num32 : L32 → Nat
  | .l0 _ => 0
def H32 : Hint := ⟨fun n => [].any (Nat.beq n), hdAt [(0, ⟨fgt [1, 3] 39 0, []⟩)], [], G0, nodp⟩
noncomputable def st32 (p : Partition) : L32 → St
  | .l0 x0 => ⟨mkE [(1, .ref 0 0), (3, .v (.int .i64 x0))] 39 0, [.cells 48 [.v (.string p.name), .v (.int .i64 p.entry), .v (.int .i64 p.action), .v (.int .i64 p.restarts), .v (.int .i64 p.inputs), .v (.int .i64 p.outputs), .sl .sRegion p.regions, .sl .sPort p.ports]], GL, 0, [], nodp⟩
noncomputable def bod32 {R : Type} (ret : R32 → R) (p : Partition) (j : L32 → Option R) : L32 → Option R
  | .l0 x0 => cond (decide ((x0 : Int) < p.regions.length))
    (cond (inR x0 p.regions.length) (
      cond (sp29 (bop .quo .i64 p.entry 16) ((atRegion p.regions x0.toNat).page) (IntKind.i64.wrap ((IntKind.i64.wrap ((atRegion p.regions x0.toNat).page + (atRegion p.regions x0.toNat).pages)) - 1)))
        (cond (!(((bop .and .i64 ((atRegion p.regions x0.toNat).rights) 4) : Int) == 0))
          (some (ret true))
          (j (.l0 (IntKind.i64.wrap (x0 + 1)))))
        (j (.l0 (IntKind.i64.wrap (x0 + 1))))) none)
    (some (ret false))
noncomputable def ent32 {R : Type} (ret : R32 → R) (p : Partition) (j : L32 → Option R) : Option R :=
    cond (!(sp29 p.entry 0 4095))
    (some (ret false))
    (j (.l0 0))
theorem head32_0 (J : Jmp) (p : Partition) (x0 : Int) : stepAt Pr GB H32 J 0 0 (bodyOf Tryd.f32) (fin Pr H32 Tryd.f32) (st32 p (.l0 x0)) = bod32 to32 p (fun l => J (num32 l) (st32 p l)) (.l0 x0) := by kernel_rfl
theorem run32 (J : Jmp) (p : Partition) : runF Pr GB H32 J GL Tryd.f32 [.agg [.v (.string p.name), .v (.int .i64 p.entry), .v (.int .i64 p.action), .v (.int .i64 p.restarts), .v (.int .i64 p.inputs), .v (.int .i64 p.outputs), .sl .sRegion p.regions, .sl .sPort p.ports]] [] = ent32 to32 p (fun l => J (num32 l) (st32 p l)) := by kernel_rfl
theorem shad32 (p : Partition) : ∀ (n : Nat) (l : L32), runL Pr GB H32 Tryd.f32 n (num32 l) (st32 p l) = shad (bod32 to32 p) n l
  | 0, l => by cases l <;> rfl
  | n + 1, l => by
    have ih : (fun l => runL Pr GB H32 Tryd.f32 n (num32 l) (st32 p l)) = shad (bod32 to32 p) n := funext (shad32 p n)
    cases l with
    | l0 x0 => exact (step_eq ..).trans ((head32_0 ..).trans (by rw [ih]; rfl))
theorem nat32 (p : Partition) (s : L32 → Option R32) (l : L32) : bod32 to32 p (fun l => (s l).map to32) l = (bod32 id p s l).map to32 := by
  cases l <;> simp only [bod32, map_cond, Option.map_some, Option.map_none, id]
theorem ct32 (p : Partition) (l : L32) : CT fun j => bod32 id p j l := by
  cases l <;> (dsimp only [bod32]; repeat (first | exact CT.jump _ | exact CT.const _ | apply CT.cond))
/-- ref16.entry, from a head on. -/
noncomputable def spL32 (p : Partition) : L32 → Option R32 := lfp (bod32 id p)
theorem spL32_eq (p : Partition) (l : L32) : spL32 p l = bod32 id p (spL32 p) l := lfp_eq (ct32 p) l
/-- ref16.entry -/
noncomputable def spO32 (p : Partition) : Option R32 := ent32 id p (spL32 p)
noncomputable def sp32 (p : Partition) : R32 := (spO32 p).getD default
noncomputable def spc32 (p : Partition) : Bool := (spO32 p).isSome
theorem oks32 (p : Partition) (hc : spc32 p = true) : Okay Pr GL 32 [.agg [.v (.string p.name), .v (.int .i64 p.entry), .v (.int .i64 p.action), .v (.int .i64 p.restarts), .v (.int .i64 p.inputs), .v (.int .i64 p.outputs), .sl .sRegion p.regions, .sl .sPort p.ports]] [] (to32 (sp32 p)) := by
  obtain ⟨n, h⟩ := auto_ok (nat32 p) (fun s => show ent32 to32 p (fun l => (s l).map to32) = (ent32 id p s).map to32 by simp only [ent32, map_cond, Option.map_some, Option.map_none, id]) (ct32 p) (show CT fun j => ent32 id p j by dsimp only [ent32]; repeat (first | exact CT.jump _ | exact CT.const _ | apply CT.cond)) (isSome_getD hc)
  exact okay_of_run (H := H32) GBok G0ok Tryd.func32 rfl (by kernel_rfl) n (by
    rw [run32]
    rw [show (fun l => runL Pr GB H32 Tryd.f32 n (num32 l) (st32 p l)) = shad (bod32 to32 p) n from funext (shad32 p n)]
    exact h)

/-! ### ref16.right -/
abbrev R46 := Bool
def to46 (r : R46) : Ans := ⟨.v (.bool r), []⟩
def H46 : Hint := ⟨fun _ => false, fun _ => ⟨[], []⟩, [], G0, nodp⟩
noncomputable def ent46 {R : Type} (ret : R46 → R) (c : Config) (g : Region) : Option R :=
    cond (!(sp29 g.page 0 255))
    (some (ret false))
    (cond (!(sp29 g.pages 1 (IntKind.i64.wrap (256 - g.page))))
      (some (ret false))
      (cond (decide ((g.frame : Int) ≥ 0))
        (cond (decide ((g.pages : Int) ≤ (IntKind.i64.wrap (c.frames - g.frame))))
          (some (ret (sp29 g.rights 1 7)))
          (some (ret false)))
        (some (ret false))))
theorem run46 (J : Jmp) (c : Config) (g : Region) : runF Pr GB H46 J GL Tryd.f46 [.agg [.v (.int .i64 c.frames), .v (.int .i64 c.major), .v (.int .i64 c.kernel), .v (.int .i64 c.room), .sl (.sl .sWindow) c.cores, .sl .sPartition c.partitions, .sl .sChannel c.channels], .agg [.v (.int .i64 g.page), .v (.int .i64 g.pages), .v (.int .i64 g.frame), .v (.int .i64 g.rights)]] [] = ent46 to46 c g := by kernel_rfl
/-- ref16.right -/
noncomputable def spO46 (c : Config) (g : Region) : Option R46 := ent46 id c g
noncomputable def sp46 (c : Config) (g : Region) : R46 := (spO46 c g).getD default
theorem some46 (c : Config) (g : Region) : spO46 c g = some (sp46 c g) := isSome_getD (show (spO46 c g).isSome = true by simp only [spO46, ent46, isSome_cond, Option.isSome_some, cond_self])
theorem oks46 (c : Config) (g : Region) : Okay Pr GL 46 [.agg [.v (.int .i64 c.frames), .v (.int .i64 c.major), .v (.int .i64 c.kernel), .v (.int .i64 c.room), .sl (.sl .sWindow) c.cores, .sl .sPartition c.partitions, .sl .sChannel c.channels], .agg [.v (.int .i64 g.page), .v (.int .i64 g.pages), .v (.int .i64 g.frame), .v (.int .i64 g.rights)]] [] (to46 (sp46 c g)) :=
  okay_of_run (H := H46) GBok G0ok Tryd.func46 rfl (by kernel_rfl) 0 ((run46 (runL Pr GB H46 Tryd.f46 0) c g).trans (auto_ok0 (show ent46 to46 c g = (ent46 id c g).map to46 by simp only [ent46, map_cond, Option.map_some, Option.map_none, id]) (some46 c g)))

/-! ### ref15.Port -/
abbrev R49 := Int
def to49 (r : R49) : Ans := ⟨.v (.int .i64 r), []⟩
def H49 : Hint := ⟨fun _ => false, fun _ => ⟨[], []⟩, [], G0, nodp⟩
noncomputable def ent49 {R : Type} (ret : R49 → R) (h_0 : Channel) : Option R :=
    cond (((sp77 h_0) : Int) == 0)
    (some (ret 0))
    (some (ret (IntKind.i64.wrap (3 + (sp77 h_0)))))
theorem run49 (J : Jmp) (h_0 : Channel) : runF Pr GB H49 J GL Tryd.f49 [.agg [.v (.int .i64 h_0.kind), .v (.int .i64 h_0.words), .v (.int .i64 h_0.depth)]] [] = ent49 to49 h_0 := by kernel_rfl
/-- ref15.Port -/
noncomputable def spO49 (h_0 : Channel) : Option R49 := ent49 id h_0
noncomputable def sp49 (h_0 : Channel) : R49 := (spO49 h_0).getD default
theorem some49 (h_0 : Channel) : spO49 h_0 = some (sp49 h_0) := isSome_getD (show (spO49 h_0).isSome = true by simp only [spO49, ent49, isSome_cond, Option.isSome_some, cond_self])
theorem oks49 (h_0 : Channel) : Okay Pr GL 49 [.agg [.v (.int .i64 h_0.kind), .v (.int .i64 h_0.words), .v (.int .i64 h_0.depth)]] [] (to49 (sp49 h_0)) :=
  okay_of_run (H := H49) GBok G0ok Tryd.func49 rfl (by kernel_rfl) 0 ((run49 (runL Pr GB H49 Tryd.f49 0) h_0).trans (auto_ok0 (show ent49 to49 h_0 = (ent49 id h_0).map to49 by simp only [ent49, map_cond, Option.map_some, Option.map_none, id]) (some49 h_0)))

/-! ### ref15.Stage -/
abbrev R51 := Int
def to51 (r : R51) : Ans := ⟨.v (.int .i64 r), []⟩
def H51 : Hint := ⟨fun _ => false, fun _ => ⟨[], []⟩, [], G0, nodp⟩
noncomputable def ent51 {R : Type} (ret : R51 → R) (h_0 : Channel) : Option R :=
    cond (((sp77 h_0) : Int) == 0)
    (some (ret 0))
    (cond ((h_0.kind : Int) == 1)
      (some (ret (IntKind.i64.wrap (2 + h_0.words))))
      (some (ret (IntKind.i64.wrap (1 + (sp77 h_0))))))
theorem run51 (J : Jmp) (h_0 : Channel) : runF Pr GB H51 J GL Tryd.f51 [.agg [.v (.int .i64 h_0.kind), .v (.int .i64 h_0.words), .v (.int .i64 h_0.depth)]] [] = ent51 to51 h_0 := by kernel_rfl
/-- ref15.Stage -/
noncomputable def spO51 (h_0 : Channel) : Option R51 := ent51 id h_0
noncomputable def sp51 (h_0 : Channel) : R51 := (spO51 h_0).getD default
theorem some51 (h_0 : Channel) : spO51 h_0 = some (sp51 h_0) := isSome_getD (show (spO51 h_0).isSome = true by simp only [spO51, ent51, isSome_cond, Option.isSome_some, cond_self])
theorem oks51 (h_0 : Channel) : Okay Pr GL 51 [.agg [.v (.int .i64 h_0.kind), .v (.int .i64 h_0.words), .v (.int .i64 h_0.depth)]] [] (to51 (sp51 h_0)) :=
  okay_of_run (H := H51) GBok G0ok Tryd.func51 rfl (by kernel_rfl) 0 ((run51 (runL Pr GB H51 Tryd.f51 0) h_0).trans (auto_ok0 (show ent51 to51 h_0 = (ent51 id h_0).map to51 by simp only [ent51, map_cond, Option.map_some, Option.map_none, id]) (some51 h_0)))

/-! ### admit.questions$1 -/
abbrev R53 := AdmitFound
def to53 (r : R53) : Ans := ⟨.agg [.v (.int .i64 r.e), .v (.int .i64 r.where_.first), .v (.int .i64 r.where_.second)], []⟩
def H53 : Hint := ⟨fun _ => false, fun _ => ⟨[], []⟩, [], G0, nodp⟩
noncomputable def ent53 {R : Type} (ret : R53 → R) (a : Config) : Option R :=
    some (ret (sp54 (sp55 a.frames 1 1024) 400 nowhere))
theorem run53 (J : Jmp) (a : Config) : runF Pr GB H53 J GL Tryd.f53 [.op .sConfig (some a)] [] = ent53 to53 a := by kernel_rfl
/-- admit.questions$1 -/
noncomputable def spO53 (a : Config) : Option R53 := ent53 id a
noncomputable def sp53 (a : Config) : R53 := (spO53 a).getD default
theorem some53 (a : Config) : spO53 a = some (sp53 a) := isSome_getD (show (spO53 a).isSome = true by simp only [spO53, ent53, isSome_cond, Option.isSome_some, cond_self])
theorem oks53 (a : Config) : Okay Pr GL 53 [.op .sConfig (some a)] [] (to53 (sp53 a)) :=
  okay_of_run (H := H53) GBok G0ok Tryd.func53 rfl (by kernel_rfl) 0 ((run53 (runL Pr GB H53 Tryd.f53 0) a).trans (auto_ok0 (show ent53 to53 a = (ent53 id a).map to53 by simp only [ent53, map_cond, Option.map_some, Option.map_none, id]) (some53 a)))

/-! ### admit.questions$2 -/
abbrev R56 := AdmitFound
def to56 (r : R56) : Ans := ⟨.agg [.v (.int .i64 r.e), .v (.int .i64 r.where_.first), .v (.int .i64 r.where_.second)], []⟩
def H56 : Hint := ⟨fun _ => false, fun _ => ⟨[], []⟩, [], G0, nodp⟩
noncomputable def ent56 {R : Type} (ret : R56 → R) (a : Config) : Option R :=
    some (ret (sp54 (sp55 a.major 1 16384) 401 nowhere))
theorem run56 (J : Jmp) (a : Config) : runF Pr GB H56 J GL Tryd.f56 [.op .sConfig (some a)] [] = ent56 to56 a := by kernel_rfl
/-- admit.questions$2 -/
noncomputable def spO56 (a : Config) : Option R56 := ent56 id a
noncomputable def sp56 (a : Config) : R56 := (spO56 a).getD default
theorem some56 (a : Config) : spO56 a = some (sp56 a) := isSome_getD (show (spO56 a).isSome = true by simp only [spO56, ent56, isSome_cond, Option.isSome_some, cond_self])
theorem oks56 (a : Config) : Okay Pr GL 56 [.op .sConfig (some a)] [] (to56 (sp56 a)) :=
  okay_of_run (H := H56) GBok G0ok Tryd.func56 rfl (by kernel_rfl) 0 ((run56 (runL Pr GB H56 Tryd.f56 0) a).trans (auto_ok0 (show ent56 to56 a = (ent56 id a).map to56 by simp only [ent56, map_cond, Option.map_some, Option.map_none, id]) (some56 a)))

/-! ### admit.questions$3 -/
abbrev R57 := AdmitFound
def to57 (r : R57) : Ans := ⟨.agg [.v (.int .i64 r.e), .v (.int .i64 r.where_.first), .v (.int .i64 r.where_.second)], []⟩
def H57 : Hint := ⟨fun _ => false, fun _ => ⟨[], []⟩, [], G0, nodp⟩
noncomputable def ent57 {R : Type} (ret : R57 → R) (a : Config) : Option R :=
    some (ret (sp54 (sp55 a.cores.length 1 4) 402 nowhere))
theorem run57 (J : Jmp) (a : Config) : runF Pr GB H57 J GL Tryd.f57 [.op .sConfig (some a)] [] = ent57 to57 a := by kernel_rfl
/-- admit.questions$3 -/
noncomputable def spO57 (a : Config) : Option R57 := ent57 id a
noncomputable def sp57 (a : Config) : R57 := (spO57 a).getD default
theorem some57 (a : Config) : spO57 a = some (sp57 a) := isSome_getD (show (spO57 a).isSome = true by simp only [spO57, ent57, isSome_cond, Option.isSome_some, cond_self])
theorem oks57 (a : Config) : Okay Pr GL 57 [.op .sConfig (some a)] [] (to57 (sp57 a)) :=
  okay_of_run (H := H57) GBok G0ok Tryd.func57 rfl (by kernel_rfl) 0 ((run57 (runL Pr GB H57 Tryd.f57 0) a).trans (auto_ok0 (show ent57 to57 a = (ent57 id a).map to57 by simp only [ent57, map_cond, Option.map_some, Option.map_none, id]) (some57 a)))

/-! ### admit.questions$4 -/
abbrev R58 := AdmitFound
def to58 (r : R58) : Ans := ⟨.agg [.v (.int .i64 r.e), .v (.int .i64 r.where_.first), .v (.int .i64 r.where_.second)], []⟩
def H58 : Hint := ⟨fun _ => false, fun _ => ⟨[], []⟩, [], G0, nodp⟩
noncomputable def ent58 {R : Type} (ret : R58 → R) (a : Config) : Option R :=
    some (ret (sp54 (sp55 a.partitions.length 1 8) 403 nowhere))
theorem run58 (J : Jmp) (a : Config) : runF Pr GB H58 J GL Tryd.f58 [.op .sConfig (some a)] [] = ent58 to58 a := by kernel_rfl
/-- admit.questions$4 -/
noncomputable def spO58 (a : Config) : Option R58 := ent58 id a
noncomputable def sp58 (a : Config) : R58 := (spO58 a).getD default
theorem some58 (a : Config) : spO58 a = some (sp58 a) := isSome_getD (show (spO58 a).isSome = true by simp only [spO58, ent58, isSome_cond, Option.isSome_some, cond_self])
theorem oks58 (a : Config) : Okay Pr GL 58 [.op .sConfig (some a)] [] (to58 (sp58 a)) :=
  okay_of_run (H := H58) GBok G0ok Tryd.func58 rfl (by kernel_rfl) 0 ((run58 (runL Pr GB H58 Tryd.f58 0) a).trans (auto_ok0 (show ent58 to58 a = (ent58 id a).map to58 by simp only [ent58, map_cond, Option.map_some, Option.map_none, id]) (some58 a)))

/-! ### admit.questions$5 -/
abbrev R59 := AdmitFound
def to59 (r : R59) : Ans := ⟨.agg [.v (.int .i64 r.e), .v (.int .i64 r.where_.first), .v (.int .i64 r.where_.second)], []⟩
def H59 : Hint := ⟨fun _ => false, fun _ => ⟨[], []⟩, [], G0, nodp⟩
noncomputable def ent59 {R : Type} (ret : R59 → R) (a : Config) : Option R :=
    some (ret (sp54 (decide ((a.channels.length : Int) ≤ 16)) 404 nowhere))
theorem run59 (J : Jmp) (a : Config) : runF Pr GB H59 J GL Tryd.f59 [.op .sConfig (some a)] [] = ent59 to59 a := by kernel_rfl
/-- admit.questions$5 -/
noncomputable def spO59 (a : Config) : Option R59 := ent59 id a
noncomputable def sp59 (a : Config) : R59 := (spO59 a).getD default
theorem some59 (a : Config) : spO59 a = some (sp59 a) := isSome_getD (show (spO59 a).isSome = true by simp only [spO59, ent59, isSome_cond, Option.isSome_some, cond_self])
theorem oks59 (a : Config) : Okay Pr GL 59 [.op .sConfig (some a)] [] (to59 (sp59 a)) :=
  okay_of_run (H := H59) GBok G0ok Tryd.func59 rfl (by kernel_rfl) 0 ((run59 (runL Pr GB H59 Tryd.f59 0) a).trans (auto_ok0 (show ent59 to59 a = (ent59 id a).map to59 by simp only [ent59, map_cond, Option.map_some, Option.map_none, id]) (some59 a)))

/-! ### admit.channel -/
abbrev R63 := AdmitFound
def to63 (r : R63) : Ans := ⟨.agg [.v (.int .i64 r.e), .v (.int .i64 r.where_.first), .v (.int .i64 r.where_.second)], []⟩
inductive L63 where
  | l11 (x0 : Bool) (x1 : Int)
def num63 : L63 → Nat
  | .l11 _ _ => 11
def H63 : Hint := ⟨fun n => [5].any (Nat.beq n), hdAt [(11, ⟨fgt [1, 2, 4, 5, 6, 7, 34, 35, 36, 39] 57 0, []⟩)], [], G0, nodp⟩
noncomputable def st63 (c : Config) (h_1 : Int) : L63 → St
  | .l11 x0 x1 => ⟨mkE [(1, .v (.int .i64 h_1)), (2, .ref 0 0), (4, .ref 1 0), (5, .ref 2 0), (6, .v (.bool x0)), (7, .v (.int .i64 x1))] 57 0, [.cells 26 [.v (.int .i64 c.frames), .v (.int .i64 c.major), .v (.int .i64 c.kernel), .v (.int .i64 c.room), .sl (.sl .sWindow) c.cores, .sl .sPartition c.partitions, .sl .sChannel c.channels], .cells 93 [.v (.int .i64 0), .v (.int .i64 0), .v (.int .i64 0)], .cells 53 [.v (.int .i64 ((atChannel c.channels h_1.toNat).kind)), .v (.int .i64 ((atChannel c.channels h_1.toNat).words)), .v (.int .i64 ((atChannel c.channels h_1.toNat).depth))]], GL, 0, [], nodp⟩
noncomputable def bod63 {R : Type} (ret : R63 → R) (c : Config) (h_1 : Int) (j : L63 → Option R) : L63 → Option R
  | .l11 x0 x1 => cond (spc84 c h_1) (
    cond (sp55 ((atChannel c.channels h_1.toNat).kind) 1 2)
      (cond (sp55 ((atChannel c.channels h_1.toNat).words) 1 16)
        (cond (spc78 [(sp54 x0 415 (sp80 h_1)), (sp54 (((sp84 c h_1).1 : Int) == 1) 416 (sp80 h_1)), (sp54 (sp55 ((sp84 c h_1).2) 1 x1) 417 (sp80 h_1))]) (
          some (ret (sp78 [(sp54 x0 415 (sp80 h_1)), (sp54 (((sp84 c h_1).1 : Int) == 1) 416 (sp80 h_1)), (sp54 (sp55 ((sp84 c h_1).2) 1 x1) 417 (sp80 h_1))]))) none)
        (cond (spc78 [(sp54 false 415 (sp80 h_1)), (sp54 (((sp84 c h_1).1 : Int) == 1) 416 (sp80 h_1)), (sp54 (sp55 ((sp84 c h_1).2) 1 x1) 417 (sp80 h_1))]) (
          some (ret (sp78 [(sp54 false 415 (sp80 h_1)), (sp54 (((sp84 c h_1).1 : Int) == 1) 416 (sp80 h_1)), (sp54 (sp55 ((sp84 c h_1).2) 1 x1) 417 (sp80 h_1))]))) none))
      (cond (spc78 [(sp54 false 415 (sp80 h_1)), (sp54 (((sp84 c h_1).1 : Int) == 1) 416 (sp80 h_1)), (sp54 (sp55 ((sp84 c h_1).2) 1 x1) 417 (sp80 h_1))]) (
        some (ret (sp78 [(sp54 false 415 (sp80 h_1)), (sp54 (((sp84 c h_1).1 : Int) == 1) 416 (sp80 h_1)), (sp54 (sp55 ((sp84 c h_1).2) 1 x1) 417 (sp80 h_1))]))) none)) none
noncomputable def ent63 {R : Type} (ret : R63 → R) (c : Config) (h_1 : Int) (j : L63 → Option R) : Option R :=
    cond (inR h_1 c.channels.length) (
    cond (((atChannel c.channels h_1.toNat).kind : Int) == 2)
      (j (.l11 (sp55 ((atChannel c.channels h_1.toNat).depth) 1 8) 1))
      (j (.l11 (((atChannel c.channels h_1.toNat).depth : Int) == 0) 4))) none
theorem head63_11 (J : Jmp) (c : Config) (h_1 : Int) (x0 : Bool) (x1 : Int) : stepAt Pr GB H63 J 11 0 (bodyOf Tryd.f63) (fin Pr H63 Tryd.f63) (st63 c h_1 (.l11 x0 x1)) = bod63 to63 c h_1 (fun l => J (num63 l) (st63 c h_1 l)) (.l11 x0 x1) := by kernel_rfl
theorem run63 (J : Jmp) (c : Config) (h_1 : Int) : runF Pr GB H63 J GL Tryd.f63 [.agg [.v (.int .i64 c.frames), .v (.int .i64 c.major), .v (.int .i64 c.kernel), .v (.int .i64 c.room), .sl (.sl .sWindow) c.cores, .sl .sPartition c.partitions, .sl .sChannel c.channels], .v (.int .i64 h_1)] [] = ent63 to63 c h_1 (fun l => J (num63 l) (st63 c h_1 l)) := by kernel_rfl
theorem shad63 (c : Config) (h_1 : Int) : ∀ (n : Nat) (l : L63), runL Pr GB H63 Tryd.f63 n (num63 l) (st63 c h_1 l) = shad (bod63 to63 c h_1) n l
  | 0, l => by cases l <;> rfl
  | n + 1, l => by
    have ih : (fun l => runL Pr GB H63 Tryd.f63 n (num63 l) (st63 c h_1 l)) = shad (bod63 to63 c h_1) n := funext (shad63 c h_1 n)
    cases l with
    | l11 x0 x1 => exact (step_eq ..).trans ((head63_11 ..).trans (by rw [ih]; rfl))
theorem nat63 (c : Config) (h_1 : Int) (s : L63 → Option R63) (l : L63) : bod63 to63 c h_1 (fun l => (s l).map to63) l = (bod63 id c h_1 s l).map to63 := by
  cases l <;> simp only [bod63, map_cond, Option.map_some, Option.map_none, id]
theorem ct63 (c : Config) (h_1 : Int) (l : L63) : CT fun j => bod63 id c h_1 j l := by
  cases l <;> (dsimp only [bod63]; repeat (first | exact CT.jump _ | exact CT.const _ | apply CT.cond))
/-- admit.channel, from a head on. -/
noncomputable def spL63 (c : Config) (h_1 : Int) : L63 → Option R63 := lfp (bod63 id c h_1)
theorem spL63_eq (c : Config) (h_1 : Int) (l : L63) : spL63 c h_1 l = bod63 id c h_1 (spL63 c h_1) l := lfp_eq (ct63 c h_1) l
/-- admit.channel -/
noncomputable def spO63 (c : Config) (h_1 : Int) : Option R63 := ent63 id c h_1 (spL63 c h_1)
noncomputable def sp63 (c : Config) (h_1 : Int) : R63 := (spO63 c h_1).getD default
noncomputable def spc63 (c : Config) (h_1 : Int) : Bool := (spO63 c h_1).isSome
theorem oks63 (c : Config) (h_1 : Int) (hc : spc63 c h_1 = true) : Okay Pr GL 63 [.agg [.v (.int .i64 c.frames), .v (.int .i64 c.major), .v (.int .i64 c.kernel), .v (.int .i64 c.room), .sl (.sl .sWindow) c.cores, .sl .sPartition c.partitions, .sl .sChannel c.channels], .v (.int .i64 h_1)] [] (to63 (sp63 c h_1)) := by
  obtain ⟨n, h⟩ := auto_ok (nat63 c h_1) (fun s => show ent63 to63 c h_1 (fun l => (s l).map to63) = (ent63 id c h_1 s).map to63 by simp only [ent63, map_cond, Option.map_some, Option.map_none, id]) (ct63 c h_1) (show CT fun j => ent63 id c h_1 j by dsimp only [ent63]; repeat (first | exact CT.jump _ | exact CT.const _ | apply CT.cond)) (isSome_getD hc)
  exact okay_of_run (H := H63) GBok G0ok Tryd.func63 rfl (by kernel_rfl) n (by
    rw [run63]
    rw [show (fun l => runL Pr GB H63 Tryd.f63 n (num63 l) (st63 c h_1 l)) = shad (bod63 to63 c h_1) n from funext (shad63 c h_1 n)]
    exact h)

/-! ### admit.core -/
abbrev R65 := AdmitFound
def to65 (r : R65) : Ans := ⟨.agg [.v (.int .i64 r.e), .v (.int .i64 r.where_.first), .v (.int .i64 r.where_.second)], []⟩
inductive L65 where
  | l0 (x0 : Int) (x1 : Int)
def num65 : L65 → Nat
  | .l0 _ _ => 0
def H65 : Hint := ⟨fun n => [].any (Nat.beq n), hdAt [(0, ⟨fgt [1, 2, 4, 5, 24, 25, 26] 85 0, []⟩)], [], G0, nodp⟩
noncomputable def st65 (c : Config) (k : Int) : L65 → St
  | .l0 x0 x1 => ⟨mkE [(1, .v (.int .i64 k)), (2, .ref 0 0), (4, .ref 1 0), (5, .v (.int .i64 x0)), (24, .sl .sWindow (atLWindow c.cores k.toNat)), (25, .v (.int .i64 ((atLWindow c.cores k.toNat).length))), (26, .v (.int .i64 x1))] 85 0, [.cells 26 [.v (.int .i64 c.frames), .v (.int .i64 c.major), .v (.int .i64 c.kernel), .v (.int .i64 c.room), .sl (.sl .sWindow) c.cores, .sl .sPartition c.partitions, .sl .sChannel c.channels], .cells 93 [.v (.int .i64 0), .v (.int .i64 0), .v (.int .i64 0)]], GL, 0, [], nodp⟩
noncomputable def bod65 {R : Type} (ret : R65 → R) (c : Config) (k : Int) (j : L65 → Option R) : L65 → Option R
  | .l0 x0 x1 => cond (decide ((x1 : Int) < (atLWindow c.cores k.toNat).length))
    (cond (inR x1 (atLWindow c.cores k.toNat).length) (
      cond (sp55 ((atWindow (atLWindow c.cores k.toNat) x1.toNat).partition) (-1) (IntKind.i64.wrap (c.partitions.length - 1)))
        (cond (spc85 c k ((atWindow (atLWindow c.cores k.toNat) x1.toNat).partition)) (
          cond (spc78 [(sp54 (sp55 ((atWindow (atLWindow c.cores k.toNat) x1.toNat).usable) 1 16384) 419 (sp83 k x1)), (sp54 (sp55 ((atWindow (atLWindow c.cores k.toNat) x1.toNat).slack) 82 16384) 420 (sp83 k x1)), (sp54 (!(sp85 c k ((atWindow (atLWindow c.cores k.toNat) x1.toNat).partition))) 422 (sp83 k x1))]) (
            cond (!((((sp78 [(sp54 (sp55 ((atWindow (atLWindow c.cores k.toNat) x1.toNat).usable) 1 16384) 419 (sp83 k x1)), (sp54 (sp55 ((atWindow (atLWindow c.cores k.toNat) x1.toNat).slack) 82 16384) 420 (sp83 k x1)), (sp54 (!(sp85 c k ((atWindow (atLWindow c.cores k.toNat) x1.toNat).partition))) 422 (sp83 k x1))]).e : Int) == fine.e) && (((((sp78 [(sp54 (sp55 ((atWindow (atLWindow c.cores k.toNat) x1.toNat).usable) 1 16384) 419 (sp83 k x1)), (sp54 (sp55 ((atWindow (atLWindow c.cores k.toNat) x1.toNat).slack) 82 16384) 420 (sp83 k x1)), (sp54 (!(sp85 c k ((atWindow (atLWindow c.cores k.toNat) x1.toNat).partition))) 422 (sp83 k x1))]).where_.first : Int) == fine.where_.first) && ((((sp78 [(sp54 (sp55 ((atWindow (atLWindow c.cores k.toNat) x1.toNat).usable) 1 16384) 419 (sp83 k x1)), (sp54 (sp55 ((atWindow (atLWindow c.cores k.toNat) x1.toNat).slack) 82 16384) 420 (sp83 k x1)), (sp54 (!(sp85 c k ((atWindow (atLWindow c.cores k.toNat) x1.toNat).partition))) 422 (sp83 k x1))]).where_.second : Int) == fine.where_.second) && true)) && true)))
              (some (ret (sp78 [(sp54 (sp55 ((atWindow (atLWindow c.cores k.toNat) x1.toNat).usable) 1 16384) 419 (sp83 k x1)), (sp54 (sp55 ((atWindow (atLWindow c.cores k.toNat) x1.toNat).slack) 82 16384) 420 (sp83 k x1)), (sp54 (!(sp85 c k ((atWindow (atLWindow c.cores k.toNat) x1.toNat).partition))) 422 (sp83 k x1))])))
              (j (.l0 (IntKind.i64.wrap (x0 + (IntKind.i64.wrap ((atWindow (atLWindow c.cores k.toNat) x1.toNat).usable + (atWindow (atLWindow c.cores k.toNat) x1.toNat).slack)))) (IntKind.i64.wrap (x1 + 1))))) none) none)
        (cond (spc85 c k ((atWindow (atLWindow c.cores k.toNat) x1.toNat).partition)) (
          cond (spc78 [(sp54 false 419 (sp83 k x1)), (sp54 (sp55 ((atWindow (atLWindow c.cores k.toNat) x1.toNat).slack) 82 16384) 420 (sp83 k x1)), (sp54 (!(sp85 c k ((atWindow (atLWindow c.cores k.toNat) x1.toNat).partition))) 422 (sp83 k x1))]) (
            cond (!((((sp78 [(sp54 false 419 (sp83 k x1)), (sp54 (sp55 ((atWindow (atLWindow c.cores k.toNat) x1.toNat).slack) 82 16384) 420 (sp83 k x1)), (sp54 (!(sp85 c k ((atWindow (atLWindow c.cores k.toNat) x1.toNat).partition))) 422 (sp83 k x1))]).e : Int) == fine.e) && (((((sp78 [(sp54 false 419 (sp83 k x1)), (sp54 (sp55 ((atWindow (atLWindow c.cores k.toNat) x1.toNat).slack) 82 16384) 420 (sp83 k x1)), (sp54 (!(sp85 c k ((atWindow (atLWindow c.cores k.toNat) x1.toNat).partition))) 422 (sp83 k x1))]).where_.first : Int) == fine.where_.first) && ((((sp78 [(sp54 false 419 (sp83 k x1)), (sp54 (sp55 ((atWindow (atLWindow c.cores k.toNat) x1.toNat).slack) 82 16384) 420 (sp83 k x1)), (sp54 (!(sp85 c k ((atWindow (atLWindow c.cores k.toNat) x1.toNat).partition))) 422 (sp83 k x1))]).where_.second : Int) == fine.where_.second) && true)) && true)))
              (some (ret (sp78 [(sp54 false 419 (sp83 k x1)), (sp54 (sp55 ((atWindow (atLWindow c.cores k.toNat) x1.toNat).slack) 82 16384) 420 (sp83 k x1)), (sp54 (!(sp85 c k ((atWindow (atLWindow c.cores k.toNat) x1.toNat).partition))) 422 (sp83 k x1))])))
              (j (.l0 (IntKind.i64.wrap (x0 + (IntKind.i64.wrap ((atWindow (atLWindow c.cores k.toNat) x1.toNat).usable + (atWindow (atLWindow c.cores k.toNat) x1.toNat).slack)))) (IntKind.i64.wrap (x1 + 1))))) none) none)) none)
    (some (ret (sp54 ((x0 : Int) == c.major) 421 (sp80 k))))
noncomputable def ent65 {R : Type} (ret : R65 → R) (c : Config) (k : Int) (j : L65 → Option R) : Option R :=
    cond (inR k c.cores.length) (
    cond (!(sp55 ((atLWindow c.cores k.toNat).length) 1 16))
      (some (ret (⟨418, (⟨(sp80 k).first, (sp80 k).second⟩ : Where)⟩ : AdmitFound)))
      (cond (inR k c.cores.length) (j (.l0 0 0)) none)) none
theorem head65_0 (J : Jmp) (c : Config) (k : Int) (x0 : Int) (x1 : Int) : stepAt Pr GB H65 J 0 0 (bodyOf Tryd.f65) (fin Pr H65 Tryd.f65) (st65 c k (.l0 x0 x1)) = bod65 to65 c k (fun l => J (num65 l) (st65 c k l)) (.l0 x0 x1) := by kernel_rfl
theorem run65 (J : Jmp) (c : Config) (k : Int) : runF Pr GB H65 J GL Tryd.f65 [.agg [.v (.int .i64 c.frames), .v (.int .i64 c.major), .v (.int .i64 c.kernel), .v (.int .i64 c.room), .sl (.sl .sWindow) c.cores, .sl .sPartition c.partitions, .sl .sChannel c.channels], .v (.int .i64 k)] [] = ent65 to65 c k (fun l => J (num65 l) (st65 c k l)) := by kernel_rfl
theorem shad65 (c : Config) (k : Int) : ∀ (n : Nat) (l : L65), runL Pr GB H65 Tryd.f65 n (num65 l) (st65 c k l) = shad (bod65 to65 c k) n l
  | 0, l => by cases l <;> rfl
  | n + 1, l => by
    have ih : (fun l => runL Pr GB H65 Tryd.f65 n (num65 l) (st65 c k l)) = shad (bod65 to65 c k) n := funext (shad65 c k n)
    cases l with
    | l0 x0 x1 => exact (step_eq ..).trans ((head65_0 ..).trans (by rw [ih]; rfl))
theorem nat65 (c : Config) (k : Int) (s : L65 → Option R65) (l : L65) : bod65 to65 c k (fun l => (s l).map to65) l = (bod65 id c k s l).map to65 := by
  cases l <;> simp only [bod65, map_cond, Option.map_some, Option.map_none, id]
theorem ct65 (c : Config) (k : Int) (l : L65) : CT fun j => bod65 id c k j l := by
  cases l <;> (dsimp only [bod65]; repeat (first | exact CT.jump _ | exact CT.const _ | apply CT.cond))
/-- admit.core, from a head on. -/
noncomputable def spL65 (c : Config) (k : Int) : L65 → Option R65 := lfp (bod65 id c k)
theorem spL65_eq (c : Config) (k : Int) (l : L65) : spL65 c k l = bod65 id c k (spL65 c k) l := lfp_eq (ct65 c k) l
/-- admit.core -/
noncomputable def spO65 (c : Config) (k : Int) : Option R65 := ent65 id c k (spL65 c k)
noncomputable def sp65 (c : Config) (k : Int) : R65 := (spO65 c k).getD default
noncomputable def spc65 (c : Config) (k : Int) : Bool := (spO65 c k).isSome
theorem oks65 (c : Config) (k : Int) (hc : spc65 c k = true) : Okay Pr GL 65 [.agg [.v (.int .i64 c.frames), .v (.int .i64 c.major), .v (.int .i64 c.kernel), .v (.int .i64 c.room), .sl (.sl .sWindow) c.cores, .sl .sPartition c.partitions, .sl .sChannel c.channels], .v (.int .i64 k)] [] (to65 (sp65 c k)) := by
  obtain ⟨n, h⟩ := auto_ok (nat65 c k) (fun s => show ent65 to65 c k (fun l => (s l).map to65) = (ent65 id c k s).map to65 by simp only [ent65, map_cond, Option.map_some, Option.map_none, id]) (ct65 c k) (show CT fun j => ent65 id c k j by dsimp only [ent65]; repeat (first | exact CT.jump _ | exact CT.const _ | apply CT.cond)) (isSome_getD hc)
  exact okay_of_run (H := H65) GBok G0ok Tryd.func65 rfl (by kernel_rfl) n (by
    rw [run65]
    rw [show (fun l => runL Pr GB H65 Tryd.f65 n (num65 l) (st65 c k l)) = shad (bod65 to65 c k) n from funext (shad65 c k n)]
    exact h)

/-! ### layout.can -/
abbrev R68 := Bool
def to68 (r : R68) : Ans := ⟨.v (.bool r), []⟩
inductive L68 where
  | l0 (x0 : Int)
  | l4 (x0 : Int)
def num68 : L68 → Nat
  | .l0 _ => 0
  | .l4 _ => 4
def H68 : Hint := ⟨fun n => [].any (Nat.beq n), hdAt [(0, ⟨fgt [1, 30, 31, 32, 59, 60, 61, 62, 63, 64, 65, 66, 72, 73, 74, 77, 78, 79] 82 0, []⟩), (4, ⟨fgt [1, 42, 43, 44] 82 0, []⟩)], [], G0, nodp⟩
noncomputable def st68 (c : Config) : L68 → St
  | .l0 x0 => ⟨mkE [(1, .ref 0 0), (30, .sl .sPartition c.partitions), (31, .v (.int .i64 c.partitions.length)), (32, .v (.int .i64 x0))] 82 0, [.cells 26 [.v (.int .i64 c.frames), .v (.int .i64 c.major), .v (.int .i64 c.kernel), .v (.int .i64 c.room), .sl (.sl .sWindow) c.cores, .sl .sPartition c.partitions, .sl .sChannel c.channels]], GL, 0, [], nodp⟩
  | .l4 x0 => ⟨mkE [(1, .ref 0 0), (42, .sl .sChannel c.channels), (43, .v (.int .i64 c.channels.length)), (44, .v (.int .i64 x0))] 82 0, [.cells 26 [.v (.int .i64 c.frames), .v (.int .i64 c.major), .v (.int .i64 c.kernel), .v (.int .i64 c.room), .sl (.sl .sWindow) c.cores, .sl .sPartition c.partitions, .sl .sChannel c.channels]], GL, 0, [], nodp⟩
noncomputable def bod68 {R : Type} (ret : R68 → R) (c : Config) (j : L68 → Option R) : L68 → Option R
  | .l0 x0 => cond (decide ((x0 : Int) < c.partitions.length))
    (cond (inR x0 c.partitions.length) (
      cond (spc88 c (atPartition c.partitions x0.toNat)) (
        cond (!(sp88 c (atPartition c.partitions x0.toNat)))
          (some (ret false))
          (j (.l0 (IntKind.i64.wrap (x0 + 1))))) none) none)
    (j (.l4 0))
  | .l4 x0 => cond (decide ((x0 : Int) < c.channels.length))
    (cond (inR x0 c.channels.length) (
      cond (spc70 c x0) (
        cond (((sp71 (atChannel c.channels x0.toNat)) : Int) == 0)
          (some (ret false))
          (cond (((atChannel c.channels x0.toNat).kind : Int) == 1)
            (cond (!(((atChannel c.channels x0.toNat).depth : Int) == 0))
              (some (ret false))
              (cond (!((((sp70 c x0).1).length : Int) == 1))
                (some (ret false))
                (cond (decide ((((sp70 c x0).2).length : Int) < 1))
                  (some (ret false))
                  (cond (decide ((((sp70 c x0).2).length : Int) > 4))
                    (some (ret false))
                    (j (.l4 (IntKind.i64.wrap (x0 + 1))))))))
            (cond (!((((sp70 c x0).1).length : Int) == 1))
              (some (ret false))
              (cond (decide ((((sp70 c x0).2).length : Int) < 1))
                (some (ret false))
                (cond (decide ((((sp70 c x0).2).length : Int) > 4))
                  (some (ret false))
                  (j (.l4 (IntKind.i64.wrap (x0 + 1))))))))) none) none)
    (some (ret true))
noncomputable def ent68 {R : Type} (ret : R68 → R) (c : Config) (j : L68 → Option R) : Option R :=
    cond (decide ((c.kernel : Int) < 0))
    (some (ret false))
    (cond (decide ((c.kernel : Int) ≥ 1024))
      (some (ret false))
      (cond (decide ((c.partitions.length : Int) > 8))
        (some (ret false))
        (cond (decide ((c.channels.length : Int) > 16))
          (some (ret false))
          (j (.l0 0)))))
theorem head68_0 (J : Jmp) (c : Config) (x0 : Int) : stepAt Pr GB H68 J 0 0 (bodyOf Tryd.f68) (fin Pr H68 Tryd.f68) (st68 c (.l0 x0)) = bod68 to68 c (fun l => J (num68 l) (st68 c l)) (.l0 x0) := by kernel_rfl
theorem head68_4 (J : Jmp) (c : Config) (x0 : Int) : stepAt Pr GB H68 J 4 0 (bodyOf Tryd.f68) (fin Pr H68 Tryd.f68) (st68 c (.l4 x0)) = bod68 to68 c (fun l => J (num68 l) (st68 c l)) (.l4 x0) := by kernel_rfl
theorem run68 (J : Jmp) (c : Config) : runF Pr GB H68 J GL Tryd.f68 [.agg [.v (.int .i64 c.frames), .v (.int .i64 c.major), .v (.int .i64 c.kernel), .v (.int .i64 c.room), .sl (.sl .sWindow) c.cores, .sl .sPartition c.partitions, .sl .sChannel c.channels]] [] = ent68 to68 c (fun l => J (num68 l) (st68 c l)) := by kernel_rfl
theorem shad68 (c : Config) : ∀ (n : Nat) (l : L68), runL Pr GB H68 Tryd.f68 n (num68 l) (st68 c l) = shad (bod68 to68 c) n l
  | 0, l => by cases l <;> rfl
  | n + 1, l => by
    have ih : (fun l => runL Pr GB H68 Tryd.f68 n (num68 l) (st68 c l)) = shad (bod68 to68 c) n := funext (shad68 c n)
    cases l with
    | l0 x0 => exact (step_eq ..).trans ((head68_0 ..).trans (by rw [ih]; rfl))
    | l4 x0 => exact (step_eq ..).trans ((head68_4 ..).trans (by rw [ih]; rfl))
theorem nat68 (c : Config) (s : L68 → Option R68) (l : L68) : bod68 to68 c (fun l => (s l).map to68) l = (bod68 id c s l).map to68 := by
  cases l <;> simp only [bod68, map_cond, Option.map_some, Option.map_none, id]
theorem ct68 (c : Config) (l : L68) : CT fun j => bod68 id c j l := by
  cases l <;> (dsimp only [bod68]; repeat (first | exact CT.jump _ | exact CT.const _ | apply CT.cond))
/-- layout.can, from a head on. -/
noncomputable def spL68 (c : Config) : L68 → Option R68 := lfp (bod68 id c)
theorem spL68_eq (c : Config) (l : L68) : spL68 c l = bod68 id c (spL68 c) l := lfp_eq (ct68 c) l
/-- layout.can -/
noncomputable def spO68 (c : Config) : Option R68 := ent68 id c (spL68 c)
noncomputable def sp68 (c : Config) : R68 := (spO68 c).getD default
noncomputable def spc68 (c : Config) : Bool := (spO68 c).isSome
theorem oks68 (c : Config) (hc : spc68 c = true) : Okay Pr GL 68 [.agg [.v (.int .i64 c.frames), .v (.int .i64 c.major), .v (.int .i64 c.kernel), .v (.int .i64 c.room), .sl (.sl .sWindow) c.cores, .sl .sPartition c.partitions, .sl .sChannel c.channels]] [] (to68 (sp68 c)) := by
  obtain ⟨n, h⟩ := auto_ok (nat68 c) (fun s => show ent68 to68 c (fun l => (s l).map to68) = (ent68 id c s).map to68 by simp only [ent68, map_cond, Option.map_some, Option.map_none, id]) (ct68 c) (show CT fun j => ent68 id c j by dsimp only [ent68]; repeat (first | exact CT.jump _ | exact CT.const _ | apply CT.cond)) (isSome_getD hc)
  exact okay_of_run (H := H68) GBok G0ok Tryd.func68 rfl (by kernel_rfl) n (by
    rw [run68]
    rw [show (fun l => runL Pr GB H68 Tryd.f68 n (num68 l) (st68 c l)) = shad (bod68 to68 c) n from funext (shad68 c n)]
    exact h)

/-! ### layout.Port -/
abbrev R72 := Int
def to72 (r : R72) : Ans := ⟨.v (.int .i64 r), []⟩
def H72 : Hint := ⟨fun _ => false, fun _ => ⟨[], []⟩, [], G0, nodp⟩
noncomputable def ent72 {R : Type} (ret : R72 → R) (h_0 : Channel) : Option R :=
    cond (((sp71 h_0) : Int) == 0)
    (some (ret 0))
    (cond ((h_0.kind : Int) == 1)
      (some (ret (IntKind.i64.wrap ((sp71 h_0) + 1))))
      (some (ret (IntKind.i64.wrap ((sp71 h_0) + 2)))))
theorem run72 (J : Jmp) (h_0 : Channel) : runF Pr GB H72 J GL Tryd.f72 [.agg [.v (.int .i64 h_0.kind), .v (.int .i64 h_0.words), .v (.int .i64 h_0.depth)]] [] = ent72 to72 h_0 := by kernel_rfl
/-- layout.Port -/
noncomputable def spO72 (h_0 : Channel) : Option R72 := ent72 id h_0
noncomputable def sp72 (h_0 : Channel) : R72 := (spO72 h_0).getD default
theorem some72 (h_0 : Channel) : spO72 h_0 = some (sp72 h_0) := isSome_getD (show (spO72 h_0).isSome = true by simp only [spO72, ent72, isSome_cond, Option.isSome_some, cond_self])
theorem oks72 (h_0 : Channel) : Okay Pr GL 72 [.agg [.v (.int .i64 h_0.kind), .v (.int .i64 h_0.words), .v (.int .i64 h_0.depth)]] [] (to72 (sp72 h_0)) :=
  okay_of_run (H := H72) GBok G0ok Tryd.func72 rfl (by kernel_rfl) 0 ((run72 (runL Pr GB H72 Tryd.f72 0) h_0).trans (auto_ok0 (show ent72 to72 h_0 = (ent72 id h_0).map to72 by simp only [ent72, map_cond, Option.map_some, Option.map_none, id]) (some72 h_0)))

/-! ### admit.named -/
abbrev R79 := Bool
def to79 (r : R79) : Ans := ⟨.v (.bool r), []⟩
inductive L79 where
  | l0 (x0 : Int)
def num79 : L79 → Nat
  | .l0 _ => 0
def H79 : Hint := ⟨fun n => [].any (Nat.beq n), hdAt [(0, ⟨fgt [1, 2, 10, 11, 12] 33 0, []⟩)], [], G0, nodp⟩
noncomputable def st79 (c : Config) (p : Int) : L79 → St
  | .l0 x0 => ⟨mkE [(1, .v (.int .i64 p)), (2, .ref 0 0), (10, .sl .sPartition ((c.partitions.take p.toNat).drop 0)), (11, .v (.int .i64 (((c.partitions.take p.toNat).drop 0).length))), (12, .v (.int .i64 x0))] 33 0, [.cells 26 [.v (.int .i64 c.frames), .v (.int .i64 c.major), .v (.int .i64 c.kernel), .v (.int .i64 c.room), .sl (.sl .sWindow) c.cores, .sl .sPartition c.partitions, .sl .sChannel c.channels]], GL, 0, [], nodp⟩
noncomputable def bod79 {R : Type} (ret : R79 → R) (c : Config) (p : Int) (j : L79 → Option R) : L79 → Option R
  | .l0 x0 => cond (decide ((x0 : Int) < ((c.partitions.take p.toNat).drop 0).length))
    (cond (inR x0 ((c.partitions.take p.toNat).drop 0).length) (
      cond (inR p c.partitions.length) (
        cond (((atPartition ((c.partitions.take p.toNat).drop 0) x0.toNat).name).toList == ((atPartition c.partitions p.toNat).name).toList)
          (some (ret false))
          (j (.l0 (IntKind.i64.wrap (x0 + 1))))) none) none)
    (cond (inR p c.partitions.length) (
      cond (spc92 ((atPartition c.partitions p.toNat).name)) (some (ret (sp92 ((atPartition c.partitions p.toNat).name)))) none) none)
noncomputable def ent79 {R : Type} (ret : R79 → R) (c : Config) (p : Int) (j : L79 → Option R) : Option R :=
    cond (inS 0 p c.partitions.length) (j (.l0 0)) none
theorem head79_0 (J : Jmp) (c : Config) (p : Int) (x0 : Int) : stepAt Pr GB H79 J 0 0 (bodyOf Tryd.f79) (fin Pr H79 Tryd.f79) (st79 c p (.l0 x0)) = bod79 to79 c p (fun l => J (num79 l) (st79 c p l)) (.l0 x0) := by kernel_rfl
theorem run79 (J : Jmp) (c : Config) (p : Int) : runF Pr GB H79 J GL Tryd.f79 [.agg [.v (.int .i64 c.frames), .v (.int .i64 c.major), .v (.int .i64 c.kernel), .v (.int .i64 c.room), .sl (.sl .sWindow) c.cores, .sl .sPartition c.partitions, .sl .sChannel c.channels], .v (.int .i64 p)] [] = ent79 to79 c p (fun l => J (num79 l) (st79 c p l)) := by kernel_rfl
theorem shad79 (c : Config) (p : Int) : ∀ (n : Nat) (l : L79), runL Pr GB H79 Tryd.f79 n (num79 l) (st79 c p l) = shad (bod79 to79 c p) n l
  | 0, l => by cases l <;> rfl
  | n + 1, l => by
    have ih : (fun l => runL Pr GB H79 Tryd.f79 n (num79 l) (st79 c p l)) = shad (bod79 to79 c p) n := funext (shad79 c p n)
    cases l with
    | l0 x0 => exact (step_eq ..).trans ((head79_0 ..).trans (by rw [ih]; rfl))
theorem nat79 (c : Config) (p : Int) (s : L79 → Option R79) (l : L79) : bod79 to79 c p (fun l => (s l).map to79) l = (bod79 id c p s l).map to79 := by
  cases l <;> simp only [bod79, map_cond, Option.map_some, Option.map_none, id]
theorem ct79 (c : Config) (p : Int) (l : L79) : CT fun j => bod79 id c p j l := by
  cases l <;> (dsimp only [bod79]; repeat (first | exact CT.jump _ | exact CT.const _ | apply CT.cond))
/-- admit.named, from a head on. -/
noncomputable def spL79 (c : Config) (p : Int) : L79 → Option R79 := lfp (bod79 id c p)
theorem spL79_eq (c : Config) (p : Int) (l : L79) : spL79 c p l = bod79 id c p (spL79 c p) l := lfp_eq (ct79 c p) l
/-- admit.named -/
noncomputable def spO79 (c : Config) (p : Int) : Option R79 := ent79 id c p (spL79 c p)
noncomputable def sp79 (c : Config) (p : Int) : R79 := (spO79 c p).getD default
noncomputable def spc79 (c : Config) (p : Int) : Bool := (spO79 c p).isSome
theorem oks79 (c : Config) (p : Int) (hc : spc79 c p = true) : Okay Pr GL 79 [.agg [.v (.int .i64 c.frames), .v (.int .i64 c.major), .v (.int .i64 c.kernel), .v (.int .i64 c.room), .sl (.sl .sWindow) c.cores, .sl .sPartition c.partitions, .sl .sChannel c.channels], .v (.int .i64 p)] [] (to79 (sp79 c p)) := by
  obtain ⟨n, h⟩ := auto_ok (nat79 c p) (fun s => show ent79 to79 c p (fun l => (s l).map to79) = (ent79 id c p s).map to79 by simp only [ent79, map_cond, Option.map_some, Option.map_none, id]) (ct79 c p) (show CT fun j => ent79 id c p j by dsimp only [ent79]; repeat (first | exact CT.jump _ | exact CT.const _ | apply CT.cond)) (isSome_getD hc)
  exact okay_of_run (H := H79) GBok G0ok Tryd.func79 rfl (by kernel_rfl) n (by
    rw [run79]
    rw [show (fun l => runL Pr GB H79 Tryd.f79 n (num79 l) (st79 c p l)) = shad (bod79 to79 c p) n from funext (shad79 c p n)]
    exact h)

/-! ### admit.region -/
abbrev R81 := AdmitFound
def to81 (r : R81) : Ans := ⟨.agg [.v (.int .i64 r.e), .v (.int .i64 r.where_.first), .v (.int .i64 r.where_.second)], []⟩
inductive L81 where
  | l0 (x0 : Int)
  | l4 (x0 : Int)
  | l8 (x1 : Int) (x2 : Int) (x3 : List Region) (x4 : Int) (x0 : Int)
def num81 : L81 → Nat
  | .l0 _ => 0
  | .l4 _ => 4
  | .l8 _ _ _ _ _ => 8
def H81 : Hint := ⟨fun n => [].any (Nat.beq n), hdAt [(0, ⟨fgt [1, 2, 3, 6, 7, 68, 69, 70, 111, 112, 113, 116, 117, 118, 119, 120, 121, 122, 123, 124] 133 0, []⟩), (4, ⟨fgt [1, 2, 6, 7, 92, 93, 94, 111, 112, 113, 116, 117, 118, 119, 120, 121, 122, 123, 124] 133 0, []⟩), (8, ⟨fgt [1, 2, 6, 7, 10, 92, 93, 94, 100, 101, 102] 133 0, []⟩)], [], G0, nodp⟩
noncomputable def st81 (c : Config) (p : Int) (k : Int) : L81 → St
  | .l0 x0 => ⟨mkE [(1, .v (.int .i64 p)), (2, .v (.int .i64 k)), (3, .ref 0 0), (6, .ref 1 0), (7, .ref 2 0), (68, .sl .sRegion ((((atPartition c.partitions p.toNat).regions).take k.toNat).drop 0)), (69, .v (.int .i64 (((((atPartition c.partitions p.toNat).regions).take k.toNat).drop 0).length))), (70, .v (.int .i64 x0))] 133 0, [.cells 26 [.v (.int .i64 c.frames), .v (.int .i64 c.major), .v (.int .i64 c.kernel), .v (.int .i64 c.room), .sl (.sl .sWindow) c.cores, .sl .sPartition c.partitions, .sl .sChannel c.channels], .cells 93 [.v (.int .i64 0), .v (.int .i64 0), .v (.int .i64 0)], .cells 73 [.v (.int .i64 ((atRegion ((atPartition c.partitions p.toNat).regions) k.toNat).page)), .v (.int .i64 ((atRegion ((atPartition c.partitions p.toNat).regions) k.toNat).pages)), .v (.int .i64 ((atRegion ((atPartition c.partitions p.toNat).regions) k.toNat).frame)), .v (.int .i64 ((atRegion ((atPartition c.partitions p.toNat).regions) k.toNat).rights))]], GL, 0, [], nodp⟩
  | .l4 x0 => ⟨mkE [(1, .v (.int .i64 p)), (2, .v (.int .i64 k)), (6, .ref 0 0), (7, .ref 1 0), (92, .sl .sPartition ((c.partitions.take (IntKind.i64.wrap (p + 1)).toNat).drop 0)), (93, .v (.int .i64 (((c.partitions.take (IntKind.i64.wrap (p + 1)).toNat).drop 0).length))), (94, .v (.int .i64 x0))] 133 0, [.cells 93 [.v (.int .i64 0), .v (.int .i64 0), .v (.int .i64 0)], .cells 73 [.v (.int .i64 ((atRegion ((atPartition c.partitions p.toNat).regions) k.toNat).page)), .v (.int .i64 ((atRegion ((atPartition c.partitions p.toNat).regions) k.toNat).pages)), .v (.int .i64 ((atRegion ((atPartition c.partitions p.toNat).regions) k.toNat).frame)), .v (.int .i64 ((atRegion ((atPartition c.partitions p.toNat).regions) k.toNat).rights))]], GL, 0, [], nodp⟩
  | .l8 x1 x2 x3 x4 x0 => ⟨mkE [(1, .v (.int .i64 p)), (2, .v (.int .i64 k)), (6, .ref 0 0), (7, .ref 1 0), (10, .v (.int .i64 x1)), (92, .sl .sPartition ((c.partitions.take (IntKind.i64.wrap (p + 1)).toNat).drop 0)), (93, .v (.int .i64 (((c.partitions.take (IntKind.i64.wrap (p + 1)).toNat).drop 0).length))), (94, .v (.int .i64 x2)), (100, .sl .sRegion x3), (101, .v (.int .i64 x4)), (102, .v (.int .i64 x0))] 133 0, [.cells 93 [.v (.int .i64 0), .v (.int .i64 0), .v (.int .i64 0)], .cells 73 [.v (.int .i64 ((atRegion ((atPartition c.partitions p.toNat).regions) k.toNat).page)), .v (.int .i64 ((atRegion ((atPartition c.partitions p.toNat).regions) k.toNat).pages)), .v (.int .i64 ((atRegion ((atPartition c.partitions p.toNat).regions) k.toNat).frame)), .v (.int .i64 ((atRegion ((atPartition c.partitions p.toNat).regions) k.toNat).rights))]], GL, 0, [], nodp⟩
noncomputable def bod81 {R : Type} (ret : R81 → R) (c : Config) (p : Int) (k : Int) (j : L81 → Option R) : L81 → Option R
  | .l0 x0 => cond (decide ((x0 : Int) < ((((atPartition c.partitions p.toNat).regions).take k.toNat).drop 0).length))
    (cond (inR x0 ((((atPartition c.partitions p.toNat).regions).take k.toNat).drop 0).length) (
      cond (sp86 ((atRegion ((atPartition c.partitions p.toNat).regions) k.toNat).page) ((atRegion ((atPartition c.partitions p.toNat).regions) k.toNat).pages) ((atRegion ((((atPartition c.partitions p.toNat).regions).take k.toNat).drop 0) x0.toNat).page) ((atRegion ((((atPartition c.partitions p.toNat).regions).take k.toNat).drop 0) x0.toNat).pages))
        (some (ret (⟨410, (⟨(sp83 p k).first, (sp83 p k).second⟩ : Where)⟩ : AdmitFound)))
        (j (.l0 (IntKind.i64.wrap (x0 + 1))))) none)
    (cond (inS 0 (IntKind.i64.wrap (p + 1)) c.partitions.length) (j (.l4 0)) none)
  | .l4 x0 => cond (decide ((x0 : Int) < ((c.partitions.take (IntKind.i64.wrap (p + 1)).toNat).drop 0).length))
    (cond (inR x0 ((c.partitions.take (IntKind.i64.wrap (p + 1)).toNat).drop 0).length) (
      j (.l8 x0 x0 ((atPartition ((c.partitions.take (IntKind.i64.wrap (p + 1)).toNat).drop 0) x0.toNat).regions) (((atPartition ((c.partitions.take (IntKind.i64.wrap (p + 1)).toNat).drop 0) x0.toNat).regions).length) 0)) none)
    (some (ret fine))
  | .l8 x1 x2 x3 x4 x0 => cond (decide ((x0 : Int) < x4))
    (cond (inR x0 x3.length) (
      cond (decide ((x1 : Int) < p))
        (cond (sp86 ((atRegion ((atPartition c.partitions p.toNat).regions) k.toNat).frame) ((atRegion ((atPartition c.partitions p.toNat).regions) k.toNat).pages) ((atRegion x3 x0.toNat).frame) ((atRegion x3 x0.toNat).pages))
          (some (ret (⟨411, (⟨(sp83 p k).first, (sp83 p k).second⟩ : Where)⟩ : AdmitFound)))
          (j (.l8 x1 x2 x3 x4 (IntKind.i64.wrap (x0 + 1)))))
        (cond (decide ((x0 : Int) < k))
          (cond (sp86 ((atRegion ((atPartition c.partitions p.toNat).regions) k.toNat).frame) ((atRegion ((atPartition c.partitions p.toNat).regions) k.toNat).pages) ((atRegion x3 x0.toNat).frame) ((atRegion x3 x0.toNat).pages))
            (some (ret (⟨411, (⟨(sp83 p k).first, (sp83 p k).second⟩ : Where)⟩ : AdmitFound)))
            (j (.l8 x1 x2 x3 x4 (IntKind.i64.wrap (x0 + 1)))))
          (j (.l8 x1 x2 x3 x4 (IntKind.i64.wrap (x0 + 1)))))) none)
    (j (.l4 (IntKind.i64.wrap (x2 + 1))))
noncomputable def ent81 {R : Type} (ret : R81 → R) (c : Config) (p : Int) (k : Int) (j : L81 → Option R) : Option R :=
    cond (inR p c.partitions.length) (
    cond (inR k ((atPartition c.partitions p.toNat).regions).length) (
      cond (!(sp55 ((atRegion ((atPartition c.partitions p.toNat).regions) k.toNat).page) 0 255))
        (some (ret (⟨409, (⟨(sp83 p k).first, (sp83 p k).second⟩ : Where)⟩ : AdmitFound)))
        (cond (!(sp55 ((atRegion ((atPartition c.partitions p.toNat).regions) k.toNat).pages) 1 (IntKind.i64.wrap (256 - (atRegion ((atPartition c.partitions p.toNat).regions) k.toNat).page))))
          (some (ret (⟨409, (⟨(sp83 p k).first, (sp83 p k).second⟩ : Where)⟩ : AdmitFound)))
          (cond (decide (((atRegion ((atPartition c.partitions p.toNat).regions) k.toNat).frame : Int) < 0))
            (some (ret (⟨409, (⟨(sp83 p k).first, (sp83 p k).second⟩ : Where)⟩ : AdmitFound)))
            (cond (decide (((atRegion ((atPartition c.partitions p.toNat).regions) k.toNat).pages : Int) > (IntKind.i64.wrap (c.frames - (atRegion ((atPartition c.partitions p.toNat).regions) k.toNat).frame))))
              (some (ret (⟨409, (⟨(sp83 p k).first, (sp83 p k).second⟩ : Where)⟩ : AdmitFound)))
              (cond (!(sp55 ((atRegion ((atPartition c.partitions p.toNat).regions) k.toNat).rights) 1 7))
                (some (ret (⟨409, (⟨(sp83 p k).first, (sp83 p k).second⟩ : Where)⟩ : AdmitFound)))
                (cond (inR p c.partitions.length) (cond (inS 0 k ((atPartition c.partitions p.toNat).regions).length) (j (.l0 0)) none) none)))))) none) none
theorem head81_0 (J : Jmp) (c : Config) (p : Int) (k : Int) (x0 : Int) : stepAt Pr GB H81 J 0 0 (bodyOf Tryd.f81) (fin Pr H81 Tryd.f81) (st81 c p k (.l0 x0)) = bod81 to81 c p k (fun l => J (num81 l) (st81 c p k l)) (.l0 x0) := by kernel_rfl
theorem head81_4 (J : Jmp) (c : Config) (p : Int) (k : Int) (x0 : Int) : stepAt Pr GB H81 J 4 0 (bodyOf Tryd.f81) (fin Pr H81 Tryd.f81) (st81 c p k (.l4 x0)) = bod81 to81 c p k (fun l => J (num81 l) (st81 c p k l)) (.l4 x0) := by kernel_rfl
theorem head81_8 (J : Jmp) (c : Config) (p : Int) (k : Int) (x1 : Int) (x2 : Int) (x3 : List Region) (x4 : Int) (x0 : Int) : stepAt Pr GB H81 J 8 0 (bodyOf Tryd.f81) (fin Pr H81 Tryd.f81) (st81 c p k (.l8 x1 x2 x3 x4 x0)) = bod81 to81 c p k (fun l => J (num81 l) (st81 c p k l)) (.l8 x1 x2 x3 x4 x0) := by kernel_rfl
theorem run81 (J : Jmp) (c : Config) (p : Int) (k : Int) : runF Pr GB H81 J GL Tryd.f81 [.agg [.v (.int .i64 c.frames), .v (.int .i64 c.major), .v (.int .i64 c.kernel), .v (.int .i64 c.room), .sl (.sl .sWindow) c.cores, .sl .sPartition c.partitions, .sl .sChannel c.channels], .v (.int .i64 p), .v (.int .i64 k)] [] = ent81 to81 c p k (fun l => J (num81 l) (st81 c p k l)) := by kernel_rfl
theorem shad81 (c : Config) (p : Int) (k : Int) : ∀ (n : Nat) (l : L81), runL Pr GB H81 Tryd.f81 n (num81 l) (st81 c p k l) = shad (bod81 to81 c p k) n l
  | 0, l => by cases l <;> rfl
  | n + 1, l => by
    have ih : (fun l => runL Pr GB H81 Tryd.f81 n (num81 l) (st81 c p k l)) = shad (bod81 to81 c p k) n := funext (shad81 c p k n)
    cases l with
    | l0 x0 => exact (step_eq ..).trans ((head81_0 ..).trans (by rw [ih]; rfl))
    | l4 x0 => exact (step_eq ..).trans ((head81_4 ..).trans (by rw [ih]; rfl))
    | l8 x1 x2 x3 x4 x0 => exact (step_eq ..).trans ((head81_8 ..).trans (by rw [ih]; rfl))
theorem nat81 (c : Config) (p : Int) (k : Int) (s : L81 → Option R81) (l : L81) : bod81 to81 c p k (fun l => (s l).map to81) l = (bod81 id c p k s l).map to81 := by
  cases l <;> simp only [bod81, map_cond, Option.map_some, Option.map_none, id]
theorem ct81 (c : Config) (p : Int) (k : Int) (l : L81) : CT fun j => bod81 id c p k j l := by
  cases l <;> (dsimp only [bod81]; repeat (first | exact CT.jump _ | exact CT.const _ | apply CT.cond))
/-- admit.region, from a head on. -/
noncomputable def spL81 (c : Config) (p : Int) (k : Int) : L81 → Option R81 := lfp (bod81 id c p k)
theorem spL81_eq (c : Config) (p : Int) (k : Int) (l : L81) : spL81 c p k l = bod81 id c p k (spL81 c p k) l := lfp_eq (ct81 c p k) l
/-- admit.region -/
noncomputable def spO81 (c : Config) (p : Int) (k : Int) : Option R81 := ent81 id c p k (spL81 c p k)
noncomputable def sp81 (c : Config) (p : Int) (k : Int) : R81 := (spO81 c p k).getD default
noncomputable def spc81 (c : Config) (p : Int) (k : Int) : Bool := (spO81 c p k).isSome
theorem oks81 (c : Config) (p : Int) (k : Int) (hc : spc81 c p k = true) : Okay Pr GL 81 [.agg [.v (.int .i64 c.frames), .v (.int .i64 c.major), .v (.int .i64 c.kernel), .v (.int .i64 c.room), .sl (.sl .sWindow) c.cores, .sl .sPartition c.partitions, .sl .sChannel c.channels], .v (.int .i64 p), .v (.int .i64 k)] [] (to81 (sp81 c p k)) := by
  obtain ⟨n, h⟩ := auto_ok (nat81 c p k) (fun s => show ent81 to81 c p k (fun l => (s l).map to81) = (ent81 id c p k s).map to81 by simp only [ent81, map_cond, Option.map_some, Option.map_none, id]) (ct81 c p k) (show CT fun j => ent81 id c p k j by dsimp only [ent81]; repeat (first | exact CT.jump _ | exact CT.const _ | apply CT.cond)) (isSome_getD hc)
  exact okay_of_run (H := H81) GBok G0ok Tryd.func81 rfl (by kernel_rfl) n (by
    rw [run81]
    rw [show (fun l => runL Pr GB H81 Tryd.f81 n (num81 l) (st81 c p k l)) = shad (bod81 to81 c p k) n from funext (shad81 c p k n)]
    exact h)

/-! ### admit.runs -/
abbrev R82 := Bool
def to82 (r : R82) : Ans := ⟨.v (.bool r), []⟩
inductive L82 where
  | l0 (x0 : Int)
def num82 : L82 → Nat
  | .l0 _ => 0
def H82 : Hint := ⟨fun n => [].any (Nat.beq n), hdAt [(0, ⟨fgt [1, 6, 7, 8] 31 0, []⟩)], [], G0, nodp⟩
noncomputable def st82 (x : Partition) : L82 → St
  | .l0 x0 => ⟨mkE [(1, .ref 0 0), (6, .sl .sRegion x.regions), (7, .v (.int .i64 x.regions.length)), (8, .v (.int .i64 x0))] 31 0, [.cells 48 [.v (.string x.name), .v (.int .i64 x.entry), .v (.int .i64 x.action), .v (.int .i64 x.restarts), .v (.int .i64 x.inputs), .v (.int .i64 x.outputs), .sl .sRegion x.regions, .sl .sPort x.ports]], GL, 0, [], nodp⟩
noncomputable def bod82 {R : Type} (ret : R82 → R) (x : Partition) (j : L82 → Option R) : L82 → Option R
  | .l0 x0 => cond (decide ((x0 : Int) < x.regions.length))
    (cond (inR x0 x.regions.length) (
      cond (sp55 (bop .quo .i64 x.entry 16) ((atRegion x.regions x0.toNat).page) (IntKind.i64.wrap ((IntKind.i64.wrap ((atRegion x.regions x0.toNat).page + (atRegion x.regions x0.toNat).pages)) - 1)))
        (cond (!(((bop .and .i64 ((atRegion x.regions x0.toNat).rights) 4) : Int) == 0))
          (some (ret true))
          (j (.l0 (IntKind.i64.wrap (x0 + 1)))))
        (j (.l0 (IntKind.i64.wrap (x0 + 1))))) none)
    (some (ret false))
noncomputable def ent82 {R : Type} (ret : R82 → R) (x : Partition) (j : L82 → Option R) : Option R :=
    j (.l0 0)
theorem head82_0 (J : Jmp) (x : Partition) (x0 : Int) : stepAt Pr GB H82 J 0 0 (bodyOf Tryd.f82) (fin Pr H82 Tryd.f82) (st82 x (.l0 x0)) = bod82 to82 x (fun l => J (num82 l) (st82 x l)) (.l0 x0) := by kernel_rfl
theorem run82 (J : Jmp) (x : Partition) : runF Pr GB H82 J GL Tryd.f82 [.agg [.v (.string x.name), .v (.int .i64 x.entry), .v (.int .i64 x.action), .v (.int .i64 x.restarts), .v (.int .i64 x.inputs), .v (.int .i64 x.outputs), .sl .sRegion x.regions, .sl .sPort x.ports]] [] = ent82 to82 x (fun l => J (num82 l) (st82 x l)) := by kernel_rfl
theorem shad82 (x : Partition) : ∀ (n : Nat) (l : L82), runL Pr GB H82 Tryd.f82 n (num82 l) (st82 x l) = shad (bod82 to82 x) n l
  | 0, l => by cases l <;> rfl
  | n + 1, l => by
    have ih : (fun l => runL Pr GB H82 Tryd.f82 n (num82 l) (st82 x l)) = shad (bod82 to82 x) n := funext (shad82 x n)
    cases l with
    | l0 x0 => exact (step_eq ..).trans ((head82_0 ..).trans (by rw [ih]; rfl))
theorem nat82 (x : Partition) (s : L82 → Option R82) (l : L82) : bod82 to82 x (fun l => (s l).map to82) l = (bod82 id x s l).map to82 := by
  cases l <;> simp only [bod82, map_cond, Option.map_some, Option.map_none, id]
theorem ct82 (x : Partition) (l : L82) : CT fun j => bod82 id x j l := by
  cases l <;> (dsimp only [bod82]; repeat (first | exact CT.jump _ | exact CT.const _ | apply CT.cond))
/-- admit.runs, from a head on. -/
noncomputable def spL82 (x : Partition) : L82 → Option R82 := lfp (bod82 id x)
theorem spL82_eq (x : Partition) (l : L82) : spL82 x l = bod82 id x (spL82 x) l := lfp_eq (ct82 x) l
/-- admit.runs -/
noncomputable def spO82 (x : Partition) : Option R82 := ent82 id x (spL82 x)
noncomputable def sp82 (x : Partition) : R82 := (spO82 x).getD default
noncomputable def spc82 (x : Partition) : Bool := (spO82 x).isSome
theorem oks82 (x : Partition) (hc : spc82 x = true) : Okay Pr GL 82 [.agg [.v (.string x.name), .v (.int .i64 x.entry), .v (.int .i64 x.action), .v (.int .i64 x.restarts), .v (.int .i64 x.inputs), .v (.int .i64 x.outputs), .sl .sRegion x.regions, .sl .sPort x.ports]] [] (to82 (sp82 x)) := by
  obtain ⟨n, h⟩ := auto_ok (nat82 x) (fun s => show ent82 to82 x (fun l => (s l).map to82) = (ent82 id x s).map to82 by simp only [ent82, map_cond, Option.map_some, Option.map_none, id]) (ct82 x) (show CT fun j => ent82 id x j by dsimp only [ent82]; repeat (first | exact CT.jump _ | exact CT.const _ | apply CT.cond)) (isSome_getD hc)
  exact okay_of_run (H := H82) GBok G0ok Tryd.func82 rfl (by kernel_rfl) n (by
    rw [run82]
    rw [show (fun l => runL Pr GB H82 Tryd.f82 n (num82 l) (st82 x l)) = shad (bod82 to82 x) n from funext (shad82 x n)]
    exact h)

/-! ### (layout.size).ofStage -/
abbrev R90 := Int
def to90 (r : R90) : Ans := ⟨.v (.int .i64 r), []⟩
def H90 : Hint := ⟨fun _ => false, fun _ => ⟨[], []⟩, [], G0, nodp⟩
noncomputable def ent90 {R : Type} (ret : R90 → R) (s_0 : LayoutSize) : Option R :=
    some (ret (sp71 s_0.channel))
theorem run90 (J : Jmp) (s_0 : LayoutSize) : runF Pr GB H90 J GL Tryd.f90 [.agg [.v (.int .i64 s_0.channel.kind), .v (.int .i64 s_0.channel.words), .v (.int .i64 s_0.channel.depth)]] [] = ent90 to90 s_0 := by kernel_rfl
/-- (layout.size).ofStage -/
noncomputable def spO90 (s_0 : LayoutSize) : Option R90 := ent90 id s_0
noncomputable def sp90 (s_0 : LayoutSize) : R90 := (spO90 s_0).getD default
theorem some90 (s_0 : LayoutSize) : spO90 s_0 = some (sp90 s_0) := isSome_getD (show (spO90 s_0).isSome = true by simp only [spO90, ent90, isSome_cond, Option.isSome_some, cond_self])
theorem oks90 (s_0 : LayoutSize) : Okay Pr GL 90 [.agg [.v (.int .i64 s_0.channel.kind), .v (.int .i64 s_0.channel.words), .v (.int .i64 s_0.channel.depth)]] [] (to90 (sp90 s_0)) :=
  okay_of_run (H := H90) GBok G0ok Tryd.func90 rfl (by kernel_rfl) 0 ((run90 (runL Pr GB H90 Tryd.f90 0) s_0).trans (auto_ok0 (show ent90 to90 s_0 = (ent90 id s_0).map to90 by simp only [ent90, map_cond, Option.map_some, Option.map_none, id]) (some90 s_0)))

noncomputable def g7 (args : List AV) (hp : List Blk) : Option (Bool × AV × List Blk) :=
  match hp, args with
  | [], [x0, x1] => (rdS .sConfig x0).bind fun a0 => (rdS .sConfig x1).bind fun a1 => some ((spc7 a0 a1), .v (.bool (sp7 a0 a1)), [])
  | _, _ => none
theorem g7_ok {args : List AV} {hp : List Blk} {b : Bool} {r : AV} {hp' : List Blk} (h : g7 args hp = some (b, r, hp')) (hb : b = true) : FnOk Pr 7 ∧ Okay Pr GL 7 args hp ⟨r, hp'⟩ := by
  unfold g7 at h
  split at h
  · simp only [Option.bind_eq_some_iff] at h
    obtain ⟨a0, h0, a1, h1, h⟩ := h
    cases h; exact ⟨fnok Tryd.func7 (by kernel_rfl) rfl, (oks7 a0 a1 hb).ats (.cons (rdS_V h0) (.cons (rdS_V h1) .nil))⟩
  · cases h
noncomputable def g16 (args : List AV) (hp : List Blk) : Option (Bool × AV × List Blk) :=
  match hp, args with
  | [], [x0] => (rdS .sConfig x0).bind fun a0 => some (true, .v (.int .i64 (sp16 a0)), [])
  | _, _ => none
theorem g16_ok {args : List AV} {hp : List Blk} {b : Bool} {r : AV} {hp' : List Blk} (h : g16 args hp = some (b, r, hp')) (hb : b = true) : FnOk Pr 16 ∧ Okay Pr GL 16 args hp ⟨r, hp'⟩ := by
  unfold g16 at h
  split at h
  · simp only [Option.bind_eq_some_iff] at h
    obtain ⟨a0, h0, h⟩ := h
    cases h; exact ⟨fnok Tryd.func16 (by kernel_rfl) rfl, (oks16 a0).ats (.cons (rdS_V h0) .nil)⟩
  · cases h
noncomputable def g19 (args : List AV) (hp : List Blk) : Option (Bool × AV × List Blk) :=
  match hp, args with
  | [], [x0, x1] => (rdS .sConfig x0).bind fun a0 => (rdL (.i .i64) x1).bind fun a1 => some ((spc19 a0 a1), .v (.int .i64 (sp19 a0 a1)), [])
  | _, _ => none
theorem g19_ok {args : List AV} {hp : List Blk} {b : Bool} {r : AV} {hp' : List Blk} (h : g19 args hp = some (b, r, hp')) (hb : b = true) : FnOk Pr 19 ∧ Okay Pr GL 19 args hp ⟨r, hp'⟩ := by
  unfold g19 at h
  split at h
  · simp only [Option.bind_eq_some_iff] at h
    obtain ⟨a0, h0, a1, h1, h⟩ := h
    cases h; exact ⟨fnok Tryd.func19 (by kernel_rfl) rfl, (oks19 a0 a1 hb).ats (.cons (rdS_V h0) (.cons (rdL_V h1) .nil))⟩
  · cases h
noncomputable def g21 (args : List AV) (hp : List Blk) : Option (Bool × AV × List Blk) :=
  match hp, args with
  | [], [x0, x1] => (rdS .sConfig x0).bind fun a0 => (rdL (.i .i64) x1).bind fun a1 => some ((spc21 a0 a1), .tup [.v (.int .i64 ((sp21 a0 a1).1)), .agg [.v (.int .i64 ((sp21 a0 a1).2.first)), .v (.int .i64 ((sp21 a0 a1).2.second))]], [])
  | _, _ => none
theorem g21_ok {args : List AV} {hp : List Blk} {b : Bool} {r : AV} {hp' : List Blk} (h : g21 args hp = some (b, r, hp')) (hb : b = true) : FnOk Pr 21 ∧ Okay Pr GL 21 args hp ⟨r, hp'⟩ := by
  unfold g21 at h
  split at h
  · simp only [Option.bind_eq_some_iff] at h
    obtain ⟨a0, h0, a1, h1, h⟩ := h
    cases h; exact ⟨fnok Tryd.func21 (by kernel_rfl) rfl, (oks21 a0 a1 hb).ats (.cons (rdS_V h0) (.cons (rdL_V h1) .nil))⟩
  · cases h
noncomputable def g28 (args : List AV) (hp : List Blk) : Option (Bool × AV × List Blk) :=
  match hp, args with
  | [], [x0, x1] => (rdL (.sl .sPort) x0).bind fun a0 => (rdS .sPort x1).bind fun a1 => some ((spc28 a0 a1), .v (.bool (sp28 a0 a1)), [])
  | _, _ => none
theorem g28_ok {args : List AV} {hp : List Blk} {b : Bool} {r : AV} {hp' : List Blk} (h : g28 args hp = some (b, r, hp')) (hb : b = true) : FnOk Pr 28 ∧ Okay Pr GL 28 args hp ⟨r, hp'⟩ := by
  unfold g28 at h
  split at h
  · simp only [Option.bind_eq_some_iff] at h
    obtain ⟨a0, h0, a1, h1, h⟩ := h
    cases h; exact ⟨fnok Tryd.func28 (by kernel_rfl) rfl, (oks28 a0 a1 hb).ats (.cons (rdL_V h0) (.cons (rdS_V h1) .nil))⟩
  · cases h
noncomputable def g30 (args : List AV) (hp : List Blk) : Option (Bool × AV × List Blk) :=
  match hp, args with
  | [], [x0, x1] => (rdS .sConfig x0).bind fun a0 => (rdL (.i .i64) x1).bind fun a1 => some ((spc30 a0 a1), .v (.bool (sp30 a0 a1)), [])
  | _, _ => none
theorem g30_ok {args : List AV} {hp : List Blk} {b : Bool} {r : AV} {hp' : List Blk} (h : g30 args hp = some (b, r, hp')) (hb : b = true) : FnOk Pr 30 ∧ Okay Pr GL 30 args hp ⟨r, hp'⟩ := by
  unfold g30 at h
  split at h
  · simp only [Option.bind_eq_some_iff] at h
    obtain ⟨a0, h0, a1, h1, h⟩ := h
    cases h; exact ⟨fnok Tryd.func30 (by kernel_rfl) rfl, (oks30 a0 a1 hb).ats (.cons (rdS_V h0) (.cons (rdL_V h1) .nil))⟩
  · cases h
noncomputable def g32 (args : List AV) (hp : List Blk) : Option (Bool × AV × List Blk) :=
  match hp, args with
  | [], [x0] => (rdS .sPartition x0).bind fun a0 => some ((spc32 a0), .v (.bool (sp32 a0)), [])
  | _, _ => none
theorem g32_ok {args : List AV} {hp : List Blk} {b : Bool} {r : AV} {hp' : List Blk} (h : g32 args hp = some (b, r, hp')) (hb : b = true) : FnOk Pr 32 ∧ Okay Pr GL 32 args hp ⟨r, hp'⟩ := by
  unfold g32 at h
  split at h
  · simp only [Option.bind_eq_some_iff] at h
    obtain ⟨a0, h0, h⟩ := h
    cases h; exact ⟨fnok Tryd.func32 (by kernel_rfl) rfl, (oks32 a0 hb).ats (.cons (rdS_V h0) .nil)⟩
  · cases h
noncomputable def g46 (args : List AV) (hp : List Blk) : Option (Bool × AV × List Blk) :=
  match hp, args with
  | [], [x0, x1] => (rdS .sConfig x0).bind fun a0 => (rdS .sRegion x1).bind fun a1 => some (true, .v (.bool (sp46 a0 a1)), [])
  | _, _ => none
theorem g46_ok {args : List AV} {hp : List Blk} {b : Bool} {r : AV} {hp' : List Blk} (h : g46 args hp = some (b, r, hp')) (hb : b = true) : FnOk Pr 46 ∧ Okay Pr GL 46 args hp ⟨r, hp'⟩ := by
  unfold g46 at h
  split at h
  · simp only [Option.bind_eq_some_iff] at h
    obtain ⟨a0, h0, a1, h1, h⟩ := h
    cases h; exact ⟨fnok Tryd.func46 (by kernel_rfl) rfl, (oks46 a0 a1).ats (.cons (rdS_V h0) (.cons (rdS_V h1) .nil))⟩
  · cases h
noncomputable def g49 (args : List AV) (hp : List Blk) : Option (Bool × AV × List Blk) :=
  match hp, args with
  | [], [x0] => (rdS .sChannel x0).bind fun a0 => some (true, .v (.int .i64 (sp49 a0)), [])
  | _, _ => none
theorem g49_ok {args : List AV} {hp : List Blk} {b : Bool} {r : AV} {hp' : List Blk} (h : g49 args hp = some (b, r, hp')) (hb : b = true) : FnOk Pr 49 ∧ Okay Pr GL 49 args hp ⟨r, hp'⟩ := by
  unfold g49 at h
  split at h
  · simp only [Option.bind_eq_some_iff] at h
    obtain ⟨a0, h0, h⟩ := h
    cases h; exact ⟨fnok Tryd.func49 (by kernel_rfl) rfl, (oks49 a0).ats (.cons (rdS_V h0) .nil)⟩
  · cases h
noncomputable def g51 (args : List AV) (hp : List Blk) : Option (Bool × AV × List Blk) :=
  match hp, args with
  | [], [x0] => (rdS .sChannel x0).bind fun a0 => some (true, .v (.int .i64 (sp51 a0)), [])
  | _, _ => none
theorem g51_ok {args : List AV} {hp : List Blk} {b : Bool} {r : AV} {hp' : List Blk} (h : g51 args hp = some (b, r, hp')) (hb : b = true) : FnOk Pr 51 ∧ Okay Pr GL 51 args hp ⟨r, hp'⟩ := by
  unfold g51 at h
  split at h
  · simp only [Option.bind_eq_some_iff] at h
    obtain ⟨a0, h0, h⟩ := h
    cases h; exact ⟨fnok Tryd.func51 (by kernel_rfl) rfl, (oks51 a0).ats (.cons (rdS_V h0) .nil)⟩
  · cases h
noncomputable def g53 (args : List AV) (hp : List Blk) : Option (Bool × AV × List Blk) :=
  match hp, args with
  | [], [x0] => (rdP .sConfig x0).bind fun a0 => some (true, .agg [.v (.int .i64 ((sp53 a0).e)), .v (.int .i64 ((sp53 a0).where_.first)), .v (.int .i64 ((sp53 a0).where_.second))], [])
  | _, _ => none
theorem g53_ok {args : List AV} {hp : List Blk} {b : Bool} {r : AV} {hp' : List Blk} (h : g53 args hp = some (b, r, hp')) (hb : b = true) : FnOk Pr 53 ∧ Okay Pr GL 53 args hp ⟨r, hp'⟩ := by
  unfold g53 at h
  split at h
  · simp only [Option.bind_eq_some_iff] at h
    obtain ⟨a0, h0, h⟩ := h
    cases h; exact ⟨fnok Tryd.func53 (by kernel_rfl) rfl, (oks53 a0).ats (.cons (rdP_V h0) .nil)⟩
  · cases h
noncomputable def g56 (args : List AV) (hp : List Blk) : Option (Bool × AV × List Blk) :=
  match hp, args with
  | [], [x0] => (rdP .sConfig x0).bind fun a0 => some (true, .agg [.v (.int .i64 ((sp56 a0).e)), .v (.int .i64 ((sp56 a0).where_.first)), .v (.int .i64 ((sp56 a0).where_.second))], [])
  | _, _ => none
theorem g56_ok {args : List AV} {hp : List Blk} {b : Bool} {r : AV} {hp' : List Blk} (h : g56 args hp = some (b, r, hp')) (hb : b = true) : FnOk Pr 56 ∧ Okay Pr GL 56 args hp ⟨r, hp'⟩ := by
  unfold g56 at h
  split at h
  · simp only [Option.bind_eq_some_iff] at h
    obtain ⟨a0, h0, h⟩ := h
    cases h; exact ⟨fnok Tryd.func56 (by kernel_rfl) rfl, (oks56 a0).ats (.cons (rdP_V h0) .nil)⟩
  · cases h
noncomputable def g57 (args : List AV) (hp : List Blk) : Option (Bool × AV × List Blk) :=
  match hp, args with
  | [], [x0] => (rdP .sConfig x0).bind fun a0 => some (true, .agg [.v (.int .i64 ((sp57 a0).e)), .v (.int .i64 ((sp57 a0).where_.first)), .v (.int .i64 ((sp57 a0).where_.second))], [])
  | _, _ => none
theorem g57_ok {args : List AV} {hp : List Blk} {b : Bool} {r : AV} {hp' : List Blk} (h : g57 args hp = some (b, r, hp')) (hb : b = true) : FnOk Pr 57 ∧ Okay Pr GL 57 args hp ⟨r, hp'⟩ := by
  unfold g57 at h
  split at h
  · simp only [Option.bind_eq_some_iff] at h
    obtain ⟨a0, h0, h⟩ := h
    cases h; exact ⟨fnok Tryd.func57 (by kernel_rfl) rfl, (oks57 a0).ats (.cons (rdP_V h0) .nil)⟩
  · cases h
noncomputable def g58 (args : List AV) (hp : List Blk) : Option (Bool × AV × List Blk) :=
  match hp, args with
  | [], [x0] => (rdP .sConfig x0).bind fun a0 => some (true, .agg [.v (.int .i64 ((sp58 a0).e)), .v (.int .i64 ((sp58 a0).where_.first)), .v (.int .i64 ((sp58 a0).where_.second))], [])
  | _, _ => none
theorem g58_ok {args : List AV} {hp : List Blk} {b : Bool} {r : AV} {hp' : List Blk} (h : g58 args hp = some (b, r, hp')) (hb : b = true) : FnOk Pr 58 ∧ Okay Pr GL 58 args hp ⟨r, hp'⟩ := by
  unfold g58 at h
  split at h
  · simp only [Option.bind_eq_some_iff] at h
    obtain ⟨a0, h0, h⟩ := h
    cases h; exact ⟨fnok Tryd.func58 (by kernel_rfl) rfl, (oks58 a0).ats (.cons (rdP_V h0) .nil)⟩
  · cases h
noncomputable def g59 (args : List AV) (hp : List Blk) : Option (Bool × AV × List Blk) :=
  match hp, args with
  | [], [x0] => (rdP .sConfig x0).bind fun a0 => some (true, .agg [.v (.int .i64 ((sp59 a0).e)), .v (.int .i64 ((sp59 a0).where_.first)), .v (.int .i64 ((sp59 a0).where_.second))], [])
  | _, _ => none
theorem g59_ok {args : List AV} {hp : List Blk} {b : Bool} {r : AV} {hp' : List Blk} (h : g59 args hp = some (b, r, hp')) (hb : b = true) : FnOk Pr 59 ∧ Okay Pr GL 59 args hp ⟨r, hp'⟩ := by
  unfold g59 at h
  split at h
  · simp only [Option.bind_eq_some_iff] at h
    obtain ⟨a0, h0, h⟩ := h
    cases h; exact ⟨fnok Tryd.func59 (by kernel_rfl) rfl, (oks59 a0).ats (.cons (rdP_V h0) .nil)⟩
  · cases h
noncomputable def g63 (args : List AV) (hp : List Blk) : Option (Bool × AV × List Blk) :=
  match hp, args with
  | [], [x0, x1] => (rdS .sConfig x0).bind fun a0 => (rdL (.i .i64) x1).bind fun a1 => some ((spc63 a0 a1), .agg [.v (.int .i64 ((sp63 a0 a1).e)), .v (.int .i64 ((sp63 a0 a1).where_.first)), .v (.int .i64 ((sp63 a0 a1).where_.second))], [])
  | _, _ => none
theorem g63_ok {args : List AV} {hp : List Blk} {b : Bool} {r : AV} {hp' : List Blk} (h : g63 args hp = some (b, r, hp')) (hb : b = true) : FnOk Pr 63 ∧ Okay Pr GL 63 args hp ⟨r, hp'⟩ := by
  unfold g63 at h
  split at h
  · simp only [Option.bind_eq_some_iff] at h
    obtain ⟨a0, h0, a1, h1, h⟩ := h
    cases h; exact ⟨fnok Tryd.func63 (by kernel_rfl) rfl, (oks63 a0 a1 hb).ats (.cons (rdS_V h0) (.cons (rdL_V h1) .nil))⟩
  · cases h
noncomputable def g65 (args : List AV) (hp : List Blk) : Option (Bool × AV × List Blk) :=
  match hp, args with
  | [], [x0, x1] => (rdS .sConfig x0).bind fun a0 => (rdL (.i .i64) x1).bind fun a1 => some ((spc65 a0 a1), .agg [.v (.int .i64 ((sp65 a0 a1).e)), .v (.int .i64 ((sp65 a0 a1).where_.first)), .v (.int .i64 ((sp65 a0 a1).where_.second))], [])
  | _, _ => none
theorem g65_ok {args : List AV} {hp : List Blk} {b : Bool} {r : AV} {hp' : List Blk} (h : g65 args hp = some (b, r, hp')) (hb : b = true) : FnOk Pr 65 ∧ Okay Pr GL 65 args hp ⟨r, hp'⟩ := by
  unfold g65 at h
  split at h
  · simp only [Option.bind_eq_some_iff] at h
    obtain ⟨a0, h0, a1, h1, h⟩ := h
    cases h; exact ⟨fnok Tryd.func65 (by kernel_rfl) rfl, (oks65 a0 a1 hb).ats (.cons (rdS_V h0) (.cons (rdL_V h1) .nil))⟩
  · cases h
noncomputable def g68 (args : List AV) (hp : List Blk) : Option (Bool × AV × List Blk) :=
  match hp, args with
  | [], [x0] => (rdS .sConfig x0).bind fun a0 => some ((spc68 a0), .v (.bool (sp68 a0)), [])
  | _, _ => none
theorem g68_ok {args : List AV} {hp : List Blk} {b : Bool} {r : AV} {hp' : List Blk} (h : g68 args hp = some (b, r, hp')) (hb : b = true) : FnOk Pr 68 ∧ Okay Pr GL 68 args hp ⟨r, hp'⟩ := by
  unfold g68 at h
  split at h
  · simp only [Option.bind_eq_some_iff] at h
    obtain ⟨a0, h0, h⟩ := h
    cases h; exact ⟨fnok Tryd.func68 (by kernel_rfl) rfl, (oks68 a0 hb).ats (.cons (rdS_V h0) .nil)⟩
  · cases h
noncomputable def g72 (args : List AV) (hp : List Blk) : Option (Bool × AV × List Blk) :=
  match hp, args with
  | [], [x0] => (rdS .sChannel x0).bind fun a0 => some (true, .v (.int .i64 (sp72 a0)), [])
  | _, _ => none
theorem g72_ok {args : List AV} {hp : List Blk} {b : Bool} {r : AV} {hp' : List Blk} (h : g72 args hp = some (b, r, hp')) (hb : b = true) : FnOk Pr 72 ∧ Okay Pr GL 72 args hp ⟨r, hp'⟩ := by
  unfold g72 at h
  split at h
  · simp only [Option.bind_eq_some_iff] at h
    obtain ⟨a0, h0, h⟩ := h
    cases h; exact ⟨fnok Tryd.func72 (by kernel_rfl) rfl, (oks72 a0).ats (.cons (rdS_V h0) .nil)⟩
  · cases h
noncomputable def g79 (args : List AV) (hp : List Blk) : Option (Bool × AV × List Blk) :=
  match hp, args with
  | [], [x0, x1] => (rdS .sConfig x0).bind fun a0 => (rdL (.i .i64) x1).bind fun a1 => some ((spc79 a0 a1), .v (.bool (sp79 a0 a1)), [])
  | _, _ => none
theorem g79_ok {args : List AV} {hp : List Blk} {b : Bool} {r : AV} {hp' : List Blk} (h : g79 args hp = some (b, r, hp')) (hb : b = true) : FnOk Pr 79 ∧ Okay Pr GL 79 args hp ⟨r, hp'⟩ := by
  unfold g79 at h
  split at h
  · simp only [Option.bind_eq_some_iff] at h
    obtain ⟨a0, h0, a1, h1, h⟩ := h
    cases h; exact ⟨fnok Tryd.func79 (by kernel_rfl) rfl, (oks79 a0 a1 hb).ats (.cons (rdS_V h0) (.cons (rdL_V h1) .nil))⟩
  · cases h
noncomputable def g81 (args : List AV) (hp : List Blk) : Option (Bool × AV × List Blk) :=
  match hp, args with
  | [], [x0, x1, x2] => (rdS .sConfig x0).bind fun a0 => (rdL (.i .i64) x1).bind fun a1 => (rdL (.i .i64) x2).bind fun a2 => some ((spc81 a0 a1 a2), .agg [.v (.int .i64 ((sp81 a0 a1 a2).e)), .v (.int .i64 ((sp81 a0 a1 a2).where_.first)), .v (.int .i64 ((sp81 a0 a1 a2).where_.second))], [])
  | _, _ => none
theorem g81_ok {args : List AV} {hp : List Blk} {b : Bool} {r : AV} {hp' : List Blk} (h : g81 args hp = some (b, r, hp')) (hb : b = true) : FnOk Pr 81 ∧ Okay Pr GL 81 args hp ⟨r, hp'⟩ := by
  unfold g81 at h
  split at h
  · simp only [Option.bind_eq_some_iff] at h
    obtain ⟨a0, h0, a1, h1, a2, h2, h⟩ := h
    cases h; exact ⟨fnok Tryd.func81 (by kernel_rfl) rfl, (oks81 a0 a1 a2 hb).ats (.cons (rdS_V h0) (.cons (rdL_V h1) (.cons (rdL_V h2) .nil)))⟩
  · cases h
noncomputable def g82 (args : List AV) (hp : List Blk) : Option (Bool × AV × List Blk) :=
  match hp, args with
  | [], [x0] => (rdS .sPartition x0).bind fun a0 => some ((spc82 a0), .v (.bool (sp82 a0)), [])
  | _, _ => none
theorem g82_ok {args : List AV} {hp : List Blk} {b : Bool} {r : AV} {hp' : List Blk} (h : g82 args hp = some (b, r, hp')) (hb : b = true) : FnOk Pr 82 ∧ Okay Pr GL 82 args hp ⟨r, hp'⟩ := by
  unfold g82 at h
  split at h
  · simp only [Option.bind_eq_some_iff] at h
    obtain ⟨a0, h0, h⟩ := h
    cases h; exact ⟨fnok Tryd.func82 (by kernel_rfl) rfl, (oks82 a0 hb).ats (.cons (rdS_V h0) .nil)⟩
  · cases h
noncomputable def g90 (args : List AV) (hp : List Blk) : Option (Bool × AV × List Blk) :=
  match hp, args with
  | [], [x0] => (rdS .sLayoutSize x0).bind fun a0 => some (true, .v (.int .i64 (sp90 a0)), [])
  | _, _ => none
theorem g90_ok {args : List AV} {hp : List Blk} {b : Bool} {r : AV} {hp' : List Blk} (h : g90 args hp = some (b, r, hp')) (hb : b = true) : FnOk Pr 90 ∧ Okay Pr GL 90 args hp ⟨r, hp'⟩ := by
  unfold g90 at h
  split at h
  · simp only [Option.bind_eq_some_iff] at h
    obtain ⟨a0, h0, h⟩ := h
    cases h; exact ⟨fnok Tryd.func90 (by kernel_rfl) rfl, (oks90 a0).ats (.cons (rdS_V h0) .nil)⟩
  · cases h
noncomputable def GC : Gam := fun c args hp => match c with
  | .f f => pick1 7 f (g7 args hp) (pick1 16 f (g16 args hp) (pick1 19 f (g19 args hp) (pick1 21 f (g21 args hp) (pick1 28 f (g28 args hp) (pick1 30 f (g30 args hp) (pick1 32 f (g32 args hp) (pick1 46 f (g46 args hp) (pick1 49 f (g49 args hp) (pick1 51 f (g51 args hp) (pick1 53 f (g53 args hp) (pick1 56 f (g56 args hp) (pick1 57 f (g57 args hp) (pick1 58 f (g58 args hp) (pick1 59 f (g59 args hp) (pick1 63 f (g63 args hp) (pick1 65 f (g65 args hp) (pick1 68 f (g68 args hp) (pick1 72 f (g72 args hp) (pick1 79 f (g79 args hp) (pick1 81 f (g81 args hp) (pick1 82 f (g82 args hp) (pick1 90 f (g90 args hp) (GB (.f f) args hp)))))))))))))))))))))))
  | .c x => GB (.c x) args hp
theorem GCok : GOk Pr GL GC := by
  intro c args hp b r hp' h hb
  cases c with
  | f f =>
    simp only [GC] at h
    rcases pick1_ok h with ⟨rfl, h⟩ | h
    · exact g7_ok h hb
    rcases pick1_ok h with ⟨rfl, h⟩ | h
    · exact g16_ok h hb
    rcases pick1_ok h with ⟨rfl, h⟩ | h
    · exact g19_ok h hb
    rcases pick1_ok h with ⟨rfl, h⟩ | h
    · exact g21_ok h hb
    rcases pick1_ok h with ⟨rfl, h⟩ | h
    · exact g28_ok h hb
    rcases pick1_ok h with ⟨rfl, h⟩ | h
    · exact g30_ok h hb
    rcases pick1_ok h with ⟨rfl, h⟩ | h
    · exact g32_ok h hb
    rcases pick1_ok h with ⟨rfl, h⟩ | h
    · exact g46_ok h hb
    rcases pick1_ok h with ⟨rfl, h⟩ | h
    · exact g49_ok h hb
    rcases pick1_ok h with ⟨rfl, h⟩ | h
    · exact g51_ok h hb
    rcases pick1_ok h with ⟨rfl, h⟩ | h
    · exact g53_ok h hb
    rcases pick1_ok h with ⟨rfl, h⟩ | h
    · exact g56_ok h hb
    rcases pick1_ok h with ⟨rfl, h⟩ | h
    · exact g57_ok h hb
    rcases pick1_ok h with ⟨rfl, h⟩ | h
    · exact g58_ok h hb
    rcases pick1_ok h with ⟨rfl, h⟩ | h
    · exact g59_ok h hb
    rcases pick1_ok h with ⟨rfl, h⟩ | h
    · exact g63_ok h hb
    rcases pick1_ok h with ⟨rfl, h⟩ | h
    · exact g65_ok h hb
    rcases pick1_ok h with ⟨rfl, h⟩ | h
    · exact g68_ok h hb
    rcases pick1_ok h with ⟨rfl, h⟩ | h
    · exact g72_ok h hb
    rcases pick1_ok h with ⟨rfl, h⟩ | h
    · exact g79_ok h hb
    rcases pick1_ok h with ⟨rfl, h⟩ | h
    · exact g81_ok h hb
    rcases pick1_ok h with ⟨rfl, h⟩ | h
    · exact g82_ok h hb
    rcases pick1_ok h with ⟨rfl, h⟩ | h
    · exact g90_ok h hb
    exact GBok (.f f) args hp b r hp' h hb
  | c x => exact GBok (.c x) args hp b r hp' h hb
end Go.Proofs.YthnkmndjhedgdaaDoor
