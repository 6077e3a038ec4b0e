/- Shadows of functions (printed by pr2.py off the model's code; the kernel holds each equation to it), and what they answer. -/
import Derived.Test.YtgfifnadfmaolaaGreatDoorP1
namespace Go.Proofs.YtgfifnadfmaolaaGreatDoor
open Go.RowKit
set_option linter.unusedVariables false
set_option linter.unusedSimpArgs false
/-! ### ref12.Same -/
abbrev R17 := Bool
def to17 (r : R17) : Ans := ⟨.v (.bool r), []⟩
inductive L17 where
  | l0 (x0 : Int)
  | l4 (x0 : Int)
  | l8 (x1 : Int) (x0 : Int)
  | l12 (x0 : Int)
def num17 : L17 → Nat
  | .l0 _ => 0
  | .l4 _ => 4
  | .l8 _ _ => 8
  | .l12 _ => 12
def H17 : Hint := ⟨fun n => [].any (Nat.beq n), hdAt [(0, ⟨fgt [2, 3, 5] 144 0, []⟩), (4, ⟨fgt [2, 3, 6] 144 0, []⟩), (8, ⟨fgt [2, 3, 6, 7] 144 0, []⟩), (12, ⟨fgt [2, 3, 8] 144 0, []⟩)], [], G0, nodp⟩
noncomputable def st17 (a : Config) (b : Config) : L17 → St
  | .l0 x0 => ⟨mkE [(2, .ref 0 0), (3, .ref 1 0), (5, .v (.int .i64 x0))] 144 0, [.cells 26 [.v (.int .i64 a.frames), .v (.int .i64 a.major), .v (.int .i64 a.kernel), .v (.int .i64 a.room), .sl (.sl .sWindow) a.cores, .sl .sPartition a.partitions, .sl .sChannel a.channels], .cells 26 [.v (.int .i64 b.frames), .v (.int .i64 b.major), .v (.int .i64 b.kernel), .v (.int .i64 b.room), .sl (.sl .sWindow) b.cores, .sl .sPartition b.partitions, .sl .sChannel b.channels]], GL, 0, [], nodp⟩
  | .l4 x0 => ⟨mkE [(2, .ref 0 0), (3, .ref 1 0), (6, .v (.int .i64 x0))] 144 0, [.cells 26 [.v (.int .i64 a.frames), .v (.int .i64 a.major), .v (.int .i64 a.kernel), .v (.int .i64 a.room), .sl (.sl .sWindow) a.cores, .sl .sPartition a.partitions, .sl .sChannel a.channels], .cells 26 [.v (.int .i64 b.frames), .v (.int .i64 b.major), .v (.int .i64 b.kernel), .v (.int .i64 b.room), .sl (.sl .sWindow) b.cores, .sl .sPartition b.partitions, .sl .sChannel b.channels]], GL, 0, [], nodp⟩
  | .l8 x1 x0 => ⟨mkE [(2, .ref 0 0), (3, .ref 1 0), (6, .v (.int .i64 x1)), (7, .v (.int .i64 x0))] 144 0, [.cells 26 [.v (.int .i64 a.frames), .v (.int .i64 a.major), .v (.int .i64 a.kernel), .v (.int .i64 a.room), .sl (.sl .sWindow) a.cores, .sl .sPartition a.partitions, .sl .sChannel a.channels], .cells 26 [.v (.int .i64 b.frames), .v (.int .i64 b.major), .v (.int .i64 b.kernel), .v (.int .i64 b.room), .sl (.sl .sWindow) b.cores, .sl .sPartition b.partitions, .sl .sChannel b.channels]], GL, 0, [], nodp⟩
  | .l12 x0 => ⟨mkE [(2, .ref 0 0), (3, .ref 1 0), (8, .v (.int .i64 x0))] 144 0, [.cells 26 [.v (.int .i64 a.frames), .v (.int .i64 a.major), .v (.int .i64 a.kernel), .v (.int .i64 a.room), .sl (.sl .sWindow) a.cores, .sl .sPartition a.partitions, .sl .sChannel a.channels], .cells 26 [.v (.int .i64 b.frames), .v (.int .i64 b.major), .v (.int .i64 b.kernel), .v (.int .i64 b.room), .sl (.sl .sWindow) b.cores, .sl .sPartition b.partitions, .sl .sChannel b.channels]], GL, 0, [], nodp⟩
noncomputable def bod17 {R : Type} (ret : R17 → R) (a : Config) (b : Config) (j : L17 → Option R) : L17 → Option R
  | .l0 x0 => cond (decide ((x0 : Int) < a.channels.length))
    (cond (inR x0 a.channels.length) (
      cond (inR x0 b.channels.length) (
        cond (!((((atChannel a.channels x0.toNat).kind : Int) == ((atChannel b.channels x0.toNat).kind)) && ((((atChannel a.channels x0.toNat).words : Int) == ((atChannel b.channels x0.toNat).words)) && ((((atChannel a.channels x0.toNat).depth : Int) == ((atChannel b.channels x0.toNat).depth)) && true))))
          (some (ret false))
          (j (.l0 (IntKind.i64.wrap (x0 + 1))))) none) none)
    (j (.l4 0))
  | .l4 x0 => cond (decide ((x0 : Int) < a.cores.length))
    (cond (inR x0 a.cores.length) (
      cond (inR x0 b.cores.length) (
        cond (!(((atLWindow a.cores x0.toNat).length : Int) == (atLWindow b.cores x0.toNat).length))
          (some (ret false))
          (j (.l8 x0 0))) none) none)
    (j (.l12 0))
  | .l8 x1 x0 => cond (inR x1 a.cores.length) (
    cond (decide ((x0 : Int) < (atLWindow a.cores x1.toNat).length))
      (cond (inR x1 a.cores.length) (
        cond (inR x0 (atLWindow a.cores x1.toNat).length) (
          cond (inR x1 b.cores.length) (
            cond (inR x0 (atLWindow b.cores x1.toNat).length) (
              cond (!((((atWindow (atLWindow a.cores x1.toNat) x0.toNat).partition : Int) == ((atWindow (atLWindow b.cores x1.toNat) x0.toNat).partition)) && ((((atWindow (atLWindow a.cores x1.toNat) x0.toNat).usable : Int) == ((atWindow (atLWindow b.cores x1.toNat) x0.toNat).usable)) && ((((atWindow (atLWindow a.cores x1.toNat) x0.toNat).slack : Int) == ((atWindow (atLWindow b.cores x1.toNat) x0.toNat).slack)) && true))))
                (some (ret false))
                (j (.l8 x1 (IntKind.i64.wrap (x0 + 1))))) none) none) none) none)
      (j (.l4 (IntKind.i64.wrap (x1 + 1))))) none
  | .l12 x0 => cond (decide ((x0 : Int) < a.partitions.length))
    (cond (inR x0 a.partitions.length) (
      cond (inR x0 b.partitions.length) (
        cond (spc42 (atPartition a.partitions x0.toNat) (atPartition b.partitions x0.toNat)) (
          cond (!(sp42 (atPartition a.partitions x0.toNat) (atPartition b.partitions x0.toNat)))
            (some (ret false))
            (j (.l12 (IntKind.i64.wrap (x0 + 1))))) none) none) none)
    (some (ret true))
noncomputable def ent17 {R : Type} (ret : R17 → R) (a : Config) (b : Config) (j : L17 → Option R) : Option R :=
    cond (!((a.frames : Int) == b.frames))
    (some (ret false))
    (cond (!((a.major : Int) == b.major))
      (some (ret false))
      (cond (!((a.kernel : Int) == b.kernel))
        (some (ret false))
        (cond (!((a.room : Int) == b.room))
          (some (ret false))
          (cond (!((a.cores.length : Int) == b.cores.length))
            (some (ret false))
            (cond (!((a.partitions.length : Int) == b.partitions.length))
              (some (ret false))
              (cond (!((a.channels.length : Int) == b.channels.length))
                (some (ret false))
                (j (.l0 0))))))))
theorem head17_0 (J : Jmp) (a : Config) (b : Config) (x0 : Int) : stepAt Pr GB H17 J 0 0 (bodyOf Tryz.f17) (fin Pr H17 Tryz.f17) (st17 a b (.l0 x0)) = bod17 to17 a b (fun l => J (num17 l) (st17 a b l)) (.l0 x0) := by kernel_rfl
theorem head17_4 (J : Jmp) (a : Config) (b : Config) (x0 : Int) : stepAt Pr GB H17 J 4 0 (bodyOf Tryz.f17) (fin Pr H17 Tryz.f17) (st17 a b (.l4 x0)) = bod17 to17 a b (fun l => J (num17 l) (st17 a b l)) (.l4 x0) := by kernel_rfl
theorem head17_8 (J : Jmp) (a : Config) (b : Config) (x1 : Int) (x0 : Int) : stepAt Pr GB H17 J 8 0 (bodyOf Tryz.f17) (fin Pr H17 Tryz.f17) (st17 a b (.l8 x1 x0)) = bod17 to17 a b (fun l => J (num17 l) (st17 a b l)) (.l8 x1 x0) := by kernel_rfl
theorem head17_12 (J : Jmp) (a : Config) (b : Config) (x0 : Int) : stepAt Pr GB H17 J 12 0 (bodyOf Tryz.f17) (fin Pr H17 Tryz.f17) (st17 a b (.l12 x0)) = bod17 to17 a b (fun l => J (num17 l) (st17 a b l)) (.l12 x0) := by kernel_rfl
theorem run17 (J : Jmp) (a : Config) (b : Config) : runF Pr GB H17 J GL Tryz.f17 [(aCfg a), (aCfg b)] [] = ent17 to17 a b (fun l => J (num17 l) (st17 a b l)) := by kernel_rfl
theorem shad17 (a : Config) (b : Config) : ∀ (n : Nat) (l : L17), runL Pr GB H17 Tryz.f17 n (num17 l) (st17 a b l) = shad (bod17 to17 a b) n l
  | 0, l => by cases l <;> rfl
  | n + 1, l => by
    have ih : (fun l => runL Pr GB H17 Tryz.f17 n (num17 l) (st17 a b l)) = shad (bod17 to17 a b) n := funext (shad17 a b n)
    cases l with
    | l0 x0 => exact (step_eq ..).trans ((head17_0 ..).trans (by rw [ih]; rfl))
    | l4 x0 => exact (step_eq ..).trans ((head17_4 ..).trans (by rw [ih]; rfl))
    | l8 x1 x0 => exact (step_eq ..).trans ((head17_8 ..).trans (by rw [ih]; rfl))
    | l12 x0 => exact (step_eq ..).trans ((head17_12 ..).trans (by rw [ih]; rfl))
theorem nat17 (a : Config) (b : Config) (s : L17 → Option R17) (l : L17) : bod17 to17 a b (fun l => (s l).map to17) l = (bod17 id a b s l).map to17 := by
  cases l <;> simp only [bod17, map_cond, Option.map_some, Option.map_none, id]
theorem ct17 (a : Config) (b : Config) (l : L17) : CT fun j => bod17 id a b j l := by
  cases l <;> (dsimp only [bod17]; repeat (first | exact CT.jump _ | exact CT.const _ | apply CT.cond))
noncomputable def spL17 (a : Config) (b : Config) : L17 → Option R17 := lfp (bod17 id a b)
noncomputable def spO17 (a : Config) (b : Config) : Option R17 := ent17 id a b (spL17 a b)
noncomputable def sp17 (a : Config) (b : Config) : R17 := (spO17 a b).getD default
noncomputable def spc17 (a : Config) (b : Config) : Bool := (spO17 a b).isSome
theorem oks17 (a : Config) (b : Config) (hc : spc17 a b = true) : Okay Pr GL 17 [(aCfg a), (aCfg b)] [] (to17 (sp17 a b)) := by
  obtain ⟨n, h⟩ := auto_ok (nat17 a b) (fun s => show ent17 to17 a b (fun l => (s l).map to17) = (ent17 id a b s).map to17 by simp only [ent17, map_cond, Option.map_some, Option.map_none, id]) (ct17 a b) (show CT fun j => ent17 id a b j by dsimp only [ent17]; repeat (first | exact CT.jump _ | exact CT.const _ | apply CT.cond)) (isSome_getD hc)
  exact okay_of_run (H := H17) GBok G0ok Tryz.func17 rfl (by kernel_rfl) n (by
    rw [run17]
    rw [show (fun l => runL Pr GB H17 Tryz.f17 n (num17 l) (st17 a b l)) = shad (bod17 to17 a b) n from funext (shad17 a b n)]
    exact h)

/-! ### ref16.whole -/
abbrev R56 := Int
def to56 (r : R56) : Ans := ⟨.v (.int .i64 r), []⟩
def H56 : Hint := ⟨fun _ => false, fun _ => ⟨[], []⟩, [], G0, nodp⟩
noncomputable def ent56 {R : Type} (ret : R56 → R) (c : Config) : Option R :=
    cond (!(sp99 c.frames 1 1024))
    (some (ret 400))
    (cond (!(sp99 c.major 1 16384))
      (some (ret 401))
      (cond (!(sp99 c.cores.length 1 4))
        (some (ret 402))
        (cond (!(sp99 c.partitions.length 1 8))
          (some (ret 403))
          (cond (decide ((c.channels.length : Int) > 16))
            (some (ret 404))
            (some (ret 0))))))
theorem run56 (J : Jmp) (c : Config) : runF Pr GB H56 J GL Tryz.f56 [(aCfg c)] [] = ent56 to56 c := by kernel_rfl
noncomputable def spO56 (c : Config) : Option R56 := ent56 id c
noncomputable def sp56 (c : Config) : R56 := (spO56 c).getD default
theorem some56 (c : Config) : spO56 c = some (sp56 c) := isSome_getD (show (spO56 c).isSome = true by simp only [spO56, ent56, isSome_cond, Option.isSome_some, cond_self])
theorem oks56 (c : Config) : Okay Pr GL 56 [(aCfg c)] [] (to56 (sp56 c)) :=
  okay_of_run (H := H56) GBok G0ok Tryz.func56 rfl (by kernel_rfl) 0 ((run56 (runL Pr GB H56 Tryz.f56 0) c).trans (auto_ok0 (show ent56 to56 c = (ent56 id c).map to56 by simp only [ent56, map_cond, Option.map_some, Option.map_none, id]) (some56 c)))

/-! ### ref16.channel -/
abbrev R59 := Int
def to59 (r : R59) : Ans := ⟨.v (.int .i64 r), []⟩
def H59 : Hint := ⟨fun _ => false, fun _ => ⟨[], []⟩, [], G0, nodp⟩
noncomputable def ent59 {R : Type} (ret : R59 → R) (c : Config) (h_1 : Int) : Option R :=
    cond (inR h_1 c.channels.length) (
    cond (!(((atChannel c.channels h_1.toNat).kind : Int) == 2))
      (cond (!(((atChannel c.channels h_1.toNat).kind : Int) == 1))
        (some (ret 415))
        (cond (!(sp99 ((atChannel c.channels h_1.toNat).words) 1 16))
          (some (ret 415))
          (cond (((atChannel c.channels h_1.toNat).kind : Int) == 2)
            (cond (!(sp99 ((atChannel c.channels h_1.toNat).depth) 1 8))
              (some (ret 415))
              (cond (!(((atChannel c.channels h_1.toNat).kind : Int) == 2))
                (cond (!(((atChannel c.channels h_1.toNat).depth : Int) == 0))
                  (some (ret 415))
                  (cond (spc103 c h_1) (
                    cond (!(((sp103 c h_1).1 : Int) == 1))
                      (some (ret 416))
                      (cond (((atChannel c.channels h_1.toNat).kind : Int) == 2)
                        (cond (!(((sp103 c h_1).2 : Int) == 1))
                          (some (ret 417))
                          (cond (!(((atChannel c.channels h_1.toNat).kind : Int) == 2))
                            (cond (!(sp99 ((sp103 c h_1).2) 1 4))
                              (some (ret 417))
                              (some (ret 0)))
                            (some (ret 0))))
                        (cond (!(((atChannel c.channels h_1.toNat).kind : Int) == 2))
                          (cond (!(sp99 ((sp103 c h_1).2) 1 4))
                            (some (ret 417))
                            (some (ret 0)))
                          (some (ret 0))))) none))
                (cond (spc103 c h_1) (
                  cond (!(((sp103 c h_1).1 : Int) == 1))
                    (some (ret 416))
                    (cond (((atChannel c.channels h_1.toNat).kind : Int) == 2)
                      (cond (!(((sp103 c h_1).2 : Int) == 1))
                        (some (ret 417))
                        (cond (!(((atChannel c.channels h_1.toNat).kind : Int) == 2))
                          (cond (!(sp99 ((sp103 c h_1).2) 1 4))
                            (some (ret 417))
                            (some (ret 0)))
                          (some (ret 0))))
                      (cond (!(((atChannel c.channels h_1.toNat).kind : Int) == 2))
                        (cond (!(sp99 ((sp103 c h_1).2) 1 4))
                          (some (ret 417))
                          (some (ret 0)))
                        (some (ret 0))))) none)))
            (cond (!(((atChannel c.channels h_1.toNat).kind : Int) == 2))
              (cond (!(((atChannel c.channels h_1.toNat).depth : Int) == 0))
                (some (ret 415))
                (cond (spc103 c h_1) (
                  cond (!(((sp103 c h_1).1 : Int) == 1))
                    (some (ret 416))
                    (cond (((atChannel c.channels h_1.toNat).kind : Int) == 2)
                      (cond (!(((sp103 c h_1).2 : Int) == 1))
                        (some (ret 417))
                        (cond (!(((atChannel c.channels h_1.toNat).kind : Int) == 2))
                          (cond (!(sp99 ((sp103 c h_1).2) 1 4))
                            (some (ret 417))
                            (some (ret 0)))
                          (some (ret 0))))
                      (cond (!(((atChannel c.channels h_1.toNat).kind : Int) == 2))
                        (cond (!(sp99 ((sp103 c h_1).2) 1 4))
                          (some (ret 417))
                          (some (ret 0)))
                        (some (ret 0))))) none))
              (cond (spc103 c h_1) (
                cond (!(((sp103 c h_1).1 : Int) == 1))
                  (some (ret 416))
                  (cond (((atChannel c.channels h_1.toNat).kind : Int) == 2)
                    (cond (!(((sp103 c h_1).2 : Int) == 1))
                      (some (ret 417))
                      (cond (!(((atChannel c.channels h_1.toNat).kind : Int) == 2))
                        (cond (!(sp99 ((sp103 c h_1).2) 1 4))
                          (some (ret 417))
                          (some (ret 0)))
                        (some (ret 0))))
                    (cond (!(((atChannel c.channels h_1.toNat).kind : Int) == 2))
                      (cond (!(sp99 ((sp103 c h_1).2) 1 4))
                        (some (ret 417))
                        (some (ret 0)))
                      (some (ret 0))))) none)))))
      (cond (!(sp99 ((atChannel c.channels h_1.toNat).words) 1 16))
        (some (ret 415))
        (cond (((atChannel c.channels h_1.toNat).kind : Int) == 2)
          (cond (!(sp99 ((atChannel c.channels h_1.toNat).depth) 1 8))
            (some (ret 415))
            (cond (!(((atChannel c.channels h_1.toNat).kind : Int) == 2))
              (cond (!(((atChannel c.channels h_1.toNat).depth : Int) == 0))
                (some (ret 415))
                (cond (spc103 c h_1) (
                  cond (!(((sp103 c h_1).1 : Int) == 1))
                    (some (ret 416))
                    (cond (((atChannel c.channels h_1.toNat).kind : Int) == 2)
                      (cond (!(((sp103 c h_1).2 : Int) == 1))
                        (some (ret 417))
                        (cond (!(((atChannel c.channels h_1.toNat).kind : Int) == 2))
                          (cond (!(sp99 ((sp103 c h_1).2) 1 4))
                            (some (ret 417))
                            (some (ret 0)))
                          (some (ret 0))))
                      (cond (!(((atChannel c.channels h_1.toNat).kind : Int) == 2))
                        (cond (!(sp99 ((sp103 c h_1).2) 1 4))
                          (some (ret 417))
                          (some (ret 0)))
                        (some (ret 0))))) none))
              (cond (spc103 c h_1) (
                cond (!(((sp103 c h_1).1 : Int) == 1))
                  (some (ret 416))
                  (cond (((atChannel c.channels h_1.toNat).kind : Int) == 2)
                    (cond (!(((sp103 c h_1).2 : Int) == 1))
                      (some (ret 417))
                      (cond (!(((atChannel c.channels h_1.toNat).kind : Int) == 2))
                        (cond (!(sp99 ((sp103 c h_1).2) 1 4))
                          (some (ret 417))
                          (some (ret 0)))
                        (some (ret 0))))
                    (cond (!(((atChannel c.channels h_1.toNat).kind : Int) == 2))
                      (cond (!(sp99 ((sp103 c h_1).2) 1 4))
                        (some (ret 417))
                        (some (ret 0)))
                      (some (ret 0))))) none)))
          (cond (!(((atChannel c.channels h_1.toNat).kind : Int) == 2))
            (cond (!(((atChannel c.channels h_1.toNat).depth : Int) == 0))
              (some (ret 415))
              (cond (spc103 c h_1) (
                cond (!(((sp103 c h_1).1 : Int) == 1))
                  (some (ret 416))
                  (cond (((atChannel c.channels h_1.toNat).kind : Int) == 2)
                    (cond (!(((sp103 c h_1).2 : Int) == 1))
                      (some (ret 417))
                      (cond (!(((atChannel c.channels h_1.toNat).kind : Int) == 2))
                        (cond (!(sp99 ((sp103 c h_1).2) 1 4))
                          (some (ret 417))
                          (some (ret 0)))
                        (some (ret 0))))
                    (cond (!(((atChannel c.channels h_1.toNat).kind : Int) == 2))
                      (cond (!(sp99 ((sp103 c h_1).2) 1 4))
                        (some (ret 417))
                        (some (ret 0)))
                      (some (ret 0))))) none))
            (cond (spc103 c h_1) (
              cond (!(((sp103 c h_1).1 : Int) == 1))
                (some (ret 416))
                (cond (((atChannel c.channels h_1.toNat).kind : Int) == 2)
                  (cond (!(((sp103 c h_1).2 : Int) == 1))
                    (some (ret 417))
                    (cond (!(((atChannel c.channels h_1.toNat).kind : Int) == 2))
                      (cond (!(sp99 ((sp103 c h_1).2) 1 4))
                        (some (ret 417))
                        (some (ret 0)))
                      (some (ret 0))))
                  (cond (!(((atChannel c.channels h_1.toNat).kind : Int) == 2))
                    (cond (!(sp99 ((sp103 c h_1).2) 1 4))
                      (some (ret 417))
                      (some (ret 0)))
                    (some (ret 0))))) none))))) none
theorem run59 (J : Jmp) (c : Config) (h_1 : Int) : runF Pr GB H59 J GL Tryz.f59 [(aCfg c), .v (.int .i64 h_1)] [] = ent59 to59 c h_1 := by kernel_rfl
noncomputable def spO59 (c : Config) (h_1 : Int) : Option R59 := ent59 id c h_1
noncomputable def sp59 (c : Config) (h_1 : Int) : R59 := (spO59 c h_1).getD default
noncomputable def spc59 (c : Config) (h_1 : Int) : Bool := (spO59 c h_1).isSome
theorem oks59 (c : Config) (h_1 : Int) (hc : spc59 c h_1 = true) : Okay Pr GL 59 [(aCfg c), .v (.int .i64 h_1)] [] (to59 (sp59 c h_1)) :=
  okay_of_run (H := H59) GBok G0ok Tryz.func59 rfl (by kernel_rfl) 0 ((run59 (runL Pr GB H59 Tryz.f59 0) c h_1).trans (auto_ok0 (show ent59 to59 c h_1 = (ent59 id c h_1).map to59 by simp only [ent59, map_cond, Option.map_some, Option.map_none, id]) (isSome_getD hc)))

/-! ### ref16.core -/
abbrev R61 := Int × Where
def to61 (r : R61) : Ans := ⟨.tup [.v (.int .i64 r.1), .agg [.v (.int .i64 r.2.first), .v (.int .i64 r.2.second)]], []⟩
inductive L61 where
  | l0 (x0 : Int) (x1 : Int)
def num61 : L61 → Nat
  | .l0 _ _ => 0
def H61 : Hint := ⟨fun n => [].any (Nat.beq n), hdAt [(0, ⟨fgt [1, 2, 5, 6, 7] 84 0, []⟩)], [], G0, nodp⟩
noncomputable def st61 (c : Config) (i : Int) : L61 → St
  | .l0 x0 x1 => ⟨mkE [(1, .v (.int .i64 i)), (2, .ref 0 0), (5, .ref 1 0), (6, .v (.int .i64 x0)), (7, .v (.int .i64 x1))] 84 0, [.cells 26 [.v (.int .i64 c.frames), .v (.int .i64 c.major), .v (.int .i64 c.kernel), .v (.int .i64 c.room), .sl (.sl .sWindow) c.cores, .sl .sPartition c.partitions, .sl .sChannel c.channels], .cells 76 [.v (.int .i64 0), .v (.int .i64 0)]], GL, 0, [], nodp⟩
noncomputable def bod61 {R : Type} (ret : R61 → R) (c : Config) (i : Int) (j : L61 → Option R) : L61 → Option R
  | .l0 x0 x1 => cond (inR i c.cores.length) (
    cond (decide ((x1 : Int) < (atLWindow c.cores i.toNat).length))
      (cond (inR i c.cores.length) (
        cond (inR x1 (atLWindow c.cores i.toNat).length) (
          cond (!(sp99 ((atWindow (atLWindow c.cores i.toNat) x1.toNat).partition) (-1) (IntKind.i64.wrap (c.partitions.length - 1))))
            (some (ret (419, (⟨i, x1⟩ : Where))))
            (cond (!(sp99 ((atWindow (atLWindow c.cores i.toNat) x1.toNat).usable) 1 16384))
              (some (ret (419, (⟨i, x1⟩ : Where))))
              (cond (!(sp99 ((atWindow (atLWindow c.cores i.toNat) x1.toNat).slack) 82 16384))
                (some (ret (420, (⟨i, x1⟩ : Where))))
                (cond (spc104 c i ((atWindow (atLWindow c.cores i.toNat) x1.toNat).partition)) (
                  cond (sp104 c i ((atWindow (atLWindow c.cores i.toNat) x1.toNat).partition))
                    (some (ret (422, (⟨i, x1⟩ : Where))))
                    (j (.l0 (IntKind.i64.wrap (x0 + (IntKind.i64.wrap ((atWindow (atLWindow c.cores i.toNat) x1.toNat).usable + (atWindow (atLWindow c.cores i.toNat) x1.toNat).slack)))) (IntKind.i64.wrap (x1 + 1))))) none)))) none) none)
      (cond (!((x0 : Int) == c.major))
        (some (ret (421, (sp60 i))))
        (some (ret (0, (⟨0, 0⟩ : Where)))))) none
noncomputable def ent61 {R : Type} (ret : R61 → R) (c : Config) (i : Int) (j : L61 → Option R) : Option R :=
    cond (inR i c.cores.length) (cond (!(sp99 ((atLWindow c.cores i.toNat).length) 1 16))
      (some (ret (418, (sp60 i))))
      (j (.l0 0 0))) none
theorem head61_0 (J : Jmp) (c : Config) (i : Int) (x0 : Int) (x1 : Int) : stepAt Pr GB H61 J 0 0 (bodyOf Tryz.f61) (fin Pr H61 Tryz.f61) (st61 c i (.l0 x0 x1)) = bod61 to61 c i (fun l => J (num61 l) (st61 c i l)) (.l0 x0 x1) := by kernel_rfl
theorem run61 (J : Jmp) (c : Config) (i : Int) : runF Pr GB H61 J GL Tryz.f61 [(aCfg c), .v (.int .i64 i)] [] = ent61 to61 c i (fun l => J (num61 l) (st61 c i l)) := by kernel_rfl
theorem shad61 (c : Config) (i : Int) : ∀ (n : Nat) (l : L61), runL Pr GB H61 Tryz.f61 n (num61 l) (st61 c i l) = shad (bod61 to61 c i) n l
  | 0, l => by cases l <;> rfl
  | n + 1, l => by
    have ih : (fun l => runL Pr GB H61 Tryz.f61 n (num61 l) (st61 c i l)) = shad (bod61 to61 c i) n := funext (shad61 c i n)
    cases l with
    | l0 x0 x1 => exact (step_eq ..).trans ((head61_0 ..).trans (by rw [ih]; rfl))
theorem nat61 (c : Config) (i : Int) (s : L61 → Option R61) (l : L61) : bod61 to61 c i (fun l => (s l).map to61) l = (bod61 id c i s l).map to61 := by
  cases l <;> simp only [bod61, map_cond, Option.map_some, Option.map_none, id]
theorem ct61 (c : Config) (i : Int) (l : L61) : CT fun j => bod61 id c i j l := by
  cases l <;> (dsimp only [bod61]; repeat (first | exact CT.jump _ | exact CT.const _ | apply CT.cond))
noncomputable def spL61 (c : Config) (i : Int) : L61 → Option R61 := lfp (bod61 id c i)
theorem spL61_eq (c : Config) (i : Int) (l : L61) : spL61 c i l = bod61 id c i (spL61 c i) l := lfp_eq (ct61 c i) l
noncomputable def spO61 (c : Config) (i : Int) : Option R61 := ent61 id c i (spL61 c i)
noncomputable def sp61 (c : Config) (i : Int) : R61 := (spO61 c i).getD default
noncomputable def spc61 (c : Config) (i : Int) : Bool := (spO61 c i).isSome
theorem oks61 (c : Config) (i : Int) (hc : spc61 c i = true) : Okay Pr GL 61 [(aCfg c), .v (.int .i64 i)] [] (to61 (sp61 c i)) := by
  obtain ⟨n, h⟩ := auto_ok (nat61 c i) (fun s => show ent61 to61 c i (fun l => (s l).map to61) = (ent61 id c i s).map to61 by simp only [ent61, map_cond, Option.map_some, Option.map_none, id]) (ct61 c i) (show CT fun j => ent61 id c i j by dsimp only [ent61]; repeat (first | exact CT.jump _ | exact CT.const _ | apply CT.cond)) (isSome_getD hc)
  exact okay_of_run (H := H61) GBok G0ok Tryz.func61 rfl (by kernel_rfl) n (by
    rw [run61]
    rw [show (fun l => runL Pr GB H61 Tryz.f61 n (num61 l) (st61 c i l)) = shad (bod61 to61 c i) n from funext (shad61 c i n)]
    exact h)

/-! ### ref16.named -/
abbrev R100 := Bool
def to100 (r : R100) : Ans := ⟨.v (.bool r), []⟩
inductive L100 where
  | l0 (x0 : Int)
def num100 : L100 → Nat
  | .l0 _ => 0
def H100 : Hint := ⟨fun n => [].any (Nat.beq n), hdAt [(0, ⟨fgt [1, 2, 5] 31 0, []⟩)], [], G0, nodp⟩
noncomputable def st100 (c : Config) (p : Int) : L100 → St
  | .l0 x0 => ⟨mkE [(1, .v (.int .i64 p)), (2, .ref 0 0), (5, .v (.int .i64 x0))] 31 0, [.cells 26 [.v (.int .i64 c.frames), .v (.int .i64 c.major), .v (.int .i64 c.kernel), .v (.int .i64 c.room), .sl (.sl .sWindow) c.cores, .sl .sPartition c.partitions, .sl .sChannel c.channels]], GL, 0, [], nodp⟩
noncomputable def bod100 {R : Type} (ret : R100 → R) (c : Config) (p : Int) (j : L100 → Option R) : L100 → Option R
  | .l0 x0 => cond (decide ((x0 : Int) < p))
    (cond (inR x0 c.partitions.length) (
      cond (inR p c.partitions.length) (
        cond (((atPartition c.partitions x0.toNat).name).toList == ((atPartition c.partitions p.toNat).name).toList)
          (some (ret false))
          (j (.l0 (IntKind.i64.wrap (x0 + 1))))) none) none)
    (cond (inR p c.partitions.length) (
      cond (spc147 ((atPartition c.partitions p.toNat).name)) (some (ret (sp147 ((atPartition c.partitions p.toNat).name)))) none) none)
noncomputable def ent100 {R : Type} (ret : R100 → R) (c : Config) (p : Int) (j : L100 → Option R) : Option R :=
    j (.l0 0)
theorem head100_0 (J : Jmp) (c : Config) (p : Int) (x0 : Int) : stepAt Pr GB H100 J 0 0 (bodyOf Tryz.f100) (fin Pr H100 Tryz.f100) (st100 c p (.l0 x0)) = bod100 to100 c p (fun l => J (num100 l) (st100 c p l)) (.l0 x0) := by kernel_rfl
theorem run100 (J : Jmp) (c : Config) (p : Int) : runF Pr GB H100 J GL Tryz.f100 [(aCfg c), .v (.int .i64 p)] [] = ent100 to100 c p (fun l => J (num100 l) (st100 c p l)) := by kernel_rfl
theorem shad100 (c : Config) (p : Int) : ∀ (n : Nat) (l : L100), runL Pr GB H100 Tryz.f100 n (num100 l) (st100 c p l) = shad (bod100 to100 c p) n l
  | 0, l => by cases l <;> rfl
  | n + 1, l => by
    have ih : (fun l => runL Pr GB H100 Tryz.f100 n (num100 l) (st100 c p l)) = shad (bod100 to100 c p) n := funext (shad100 c p n)
    cases l with
    | l0 x0 => exact (step_eq ..).trans ((head100_0 ..).trans (by rw [ih]; rfl))
theorem nat100 (c : Config) (p : Int) (s : L100 → Option R100) (l : L100) : bod100 to100 c p (fun l => (s l).map to100) l = (bod100 id c p s l).map to100 := by
  cases l <;> simp only [bod100, map_cond, Option.map_some, Option.map_none, id]
theorem ct100 (c : Config) (p : Int) (l : L100) : CT fun j => bod100 id c p j l := by
  cases l <;> (dsimp only [bod100]; repeat (first | exact CT.jump _ | exact CT.const _ | apply CT.cond))
noncomputable def spL100 (c : Config) (p : Int) : L100 → Option R100 := lfp (bod100 id c p)
theorem spL100_eq (c : Config) (p : Int) (l : L100) : spL100 c p l = bod100 id c p (spL100 c p) l := lfp_eq (ct100 c p) l
noncomputable def spO100 (c : Config) (p : Int) : Option R100 := ent100 id c p (spL100 c p)
noncomputable def sp100 (c : Config) (p : Int) : R100 := (spO100 c p).getD default
noncomputable def spc100 (c : Config) (p : Int) : Bool := (spO100 c p).isSome
theorem oks100 (c : Config) (p : Int) (hc : spc100 c p = true) : Okay Pr GL 100 [(aCfg c), .v (.int .i64 p)] [] (to100 (sp100 c p)) := by
  obtain ⟨n, h⟩ := auto_ok (nat100 c p) (fun s => show ent100 to100 c p (fun l => (s l).map to100) = (ent100 id c p s).map to100 by simp only [ent100, map_cond, Option.map_some, Option.map_none, id]) (ct100 c p) (show CT fun j => ent100 id c p j by dsimp only [ent100]; repeat (first | exact CT.jump _ | exact CT.const _ | apply CT.cond)) (isSome_getD hc)
  exact okay_of_run (H := H100) GBok G0ok Tryz.func100 rfl (by kernel_rfl) n (by
    rw [run100]
    rw [show (fun l => runL Pr GB H100 Tryz.f100 n (num100 l) (st100 c p l)) = shad (bod100 to100 c p) n from funext (shad100 c p n)]
    exact h)

/-! ### ref16.entry -/
abbrev R102 := Bool
def to102 (r : R102) : Ans := ⟨.v (.bool r), []⟩
inductive L102 where
  | l0 (x0 : Int)
def num102 : L102 → Nat
  | .l0 _ => 0
def H102 : Hint := ⟨fun n => [].any (Nat.beq n), hdAt [(0, ⟨fgt [1, 3] 39 0, []⟩)], [], G0, nodp⟩
noncomputable def st102 (p : Partition) : L102 → St
  | .l0 x0 => ⟨mkE [(1, .ref 0 0), (3, .v (.int .i64 x0))] 39 0, [.cells 70 [.v (.string p.name), .v (.int .i64 p.entry), .v (.int .i64 p.action), .v (.int .i64 p.restarts), .v (.int .i64 p.inputs), .v (.int .i64 p.outputs), .sl .sRegion p.regions, .sl .sPort p.ports]], GL, 0, [], nodp⟩
noncomputable def bod102 {R : Type} (ret : R102 → R) (p : Partition) (j : L102 → Option R) : L102 → Option R
  | .l0 x0 => cond (decide ((x0 : Int) < p.regions.length))
    (cond (inR x0 p.regions.length) (
      cond (sp99 (bop .quo .i64 p.entry 16) ((atRegion p.regions x0.toNat).page) (IntKind.i64.wrap ((IntKind.i64.wrap ((atRegion p.regions x0.toNat).page + (atRegion p.regions x0.toNat).pages)) - 1)))
        (cond (!(((bop .and .i64 ((atRegion p.regions x0.toNat).rights) 4) : Int) == 0))
          (some (ret true))
          (j (.l0 (IntKind.i64.wrap (x0 + 1)))))
        (j (.l0 (IntKind.i64.wrap (x0 + 1))))) none)
    (some (ret false))
noncomputable def ent102 {R : Type} (ret : R102 → R) (p : Partition) (j : L102 → Option R) : Option R :=
    cond (!(sp99 p.entry 0 4095))
    (some (ret false))
    (j (.l0 0))
theorem head102_0 (J : Jmp) (p : Partition) (x0 : Int) : stepAt Pr GB H102 J 0 0 (bodyOf Tryz.f102) (fin Pr H102 Tryz.f102) (st102 p (.l0 x0)) = bod102 to102 p (fun l => J (num102 l) (st102 p l)) (.l0 x0) := by kernel_rfl
theorem run102 (J : Jmp) (p : Partition) : runF Pr GB H102 J GL Tryz.f102 [.agg [.v (.string p.name), .v (.int .i64 p.entry), .v (.int .i64 p.action), .v (.int .i64 p.restarts), .v (.int .i64 p.inputs), .v (.int .i64 p.outputs), .sl .sRegion p.regions, .sl .sPort p.ports]] [] = ent102 to102 p (fun l => J (num102 l) (st102 p l)) := by kernel_rfl
theorem shad102 (p : Partition) : ∀ (n : Nat) (l : L102), runL Pr GB H102 Tryz.f102 n (num102 l) (st102 p l) = shad (bod102 to102 p) n l
  | 0, l => by cases l <;> rfl
  | n + 1, l => by
    have ih : (fun l => runL Pr GB H102 Tryz.f102 n (num102 l) (st102 p l)) = shad (bod102 to102 p) n := funext (shad102 p n)
    cases l with
    | l0 x0 => exact (step_eq ..).trans ((head102_0 ..).trans (by rw [ih]; rfl))
theorem nat102 (p : Partition) (s : L102 → Option R102) (l : L102) : bod102 to102 p (fun l => (s l).map to102) l = (bod102 id p s l).map to102 := by
  cases l <;> simp only [bod102, map_cond, Option.map_some, Option.map_none, id]
theorem ct102 (p : Partition) (l : L102) : CT fun j => bod102 id p j l := by
  cases l <;> (dsimp only [bod102]; repeat (first | exact CT.jump _ | exact CT.const _ | apply CT.cond))
noncomputable def spL102 (p : Partition) : L102 → Option R102 := lfp (bod102 id p)
theorem spL102_eq (p : Partition) (l : L102) : spL102 p l = bod102 id p (spL102 p) l := lfp_eq (ct102 p) l
noncomputable def spO102 (p : Partition) : Option R102 := ent102 id p (spL102 p)
noncomputable def sp102 (p : Partition) : R102 := (spO102 p).getD default
noncomputable def spc102 (p : Partition) : Bool := (spO102 p).isSome
theorem oks102 (p : Partition) (hc : spc102 p = true) : Okay Pr GL 102 [.agg [.v (.string p.name), .v (.int .i64 p.entry), .v (.int .i64 p.action), .v (.int .i64 p.restarts), .v (.int .i64 p.inputs), .v (.int .i64 p.outputs), .sl .sRegion p.regions, .sl .sPort p.ports]] [] (to102 (sp102 p)) := by
  obtain ⟨n, h⟩ := auto_ok (nat102 p) (fun s => show ent102 to102 p (fun l => (s l).map to102) = (ent102 id p s).map to102 by simp only [ent102, map_cond, Option.map_some, Option.map_none, id]) (ct102 p) (show CT fun j => ent102 id p j by dsimp only [ent102]; repeat (first | exact CT.jump _ | exact CT.const _ | apply CT.cond)) (isSome_getD hc)
  exact okay_of_run (H := H102) GBok G0ok Tryz.func102 rfl (by kernel_rfl) n (by
    rw [run102]
    rw [show (fun l => runL Pr GB H102 Tryz.f102 n (num102 l) (st102 p l)) = shad (bod102 to102 p) n from funext (shad102 p n)]
    exact h)

/-! ### ref16.right -/
abbrev R148 := Bool
def to148 (r : R148) : Ans := ⟨.v (.bool r), []⟩
def H148 : Hint := ⟨fun _ => false, fun _ => ⟨[], []⟩, [], G0, nodp⟩
noncomputable def ent148 {R : Type} (ret : R148 → R) (c : Config) (g : Region) : Option R :=
    cond (!(sp99 g.page 0 255))
    (some (ret false))
    (cond (!(sp99 g.pages 1 (IntKind.i64.wrap (256 - g.page))))
      (some (ret false))
      (cond (decide ((g.frame : Int) ≥ 0))
        (cond (decide ((g.pages : Int) ≤ (IntKind.i64.wrap (c.frames - g.frame))))
          (some (ret (sp99 g.rights 1 7)))
          (some (ret false)))
        (some (ret false))))
theorem run148 (J : Jmp) (c : Config) (g : Region) : runF Pr GB H148 J GL Tryz.f148 [(aCfg c), .agg [.v (.int .i64 g.page), .v (.int .i64 g.pages), .v (.int .i64 g.frame), .v (.int .i64 g.rights)]] [] = ent148 to148 c g := by kernel_rfl
noncomputable def spO148 (c : Config) (g : Region) : Option R148 := ent148 id c g
noncomputable def sp148 (c : Config) (g : Region) : R148 := (spO148 c g).getD default
theorem some148 (c : Config) (g : Region) : spO148 c g = some (sp148 c g) := isSome_getD (show (spO148 c g).isSome = true by simp only [spO148, ent148, isSome_cond, Option.isSome_some, cond_self])
theorem oks148 (c : Config) (g : Region) : Okay Pr GL 148 [(aCfg c), .agg [.v (.int .i64 g.page), .v (.int .i64 g.pages), .v (.int .i64 g.frame), .v (.int .i64 g.rights)]] [] (to148 (sp148 c g)) :=
  okay_of_run (H := H148) GBok G0ok Tryz.func148 rfl (by kernel_rfl) 0 ((run148 (runL Pr GB H148 Tryz.f148 0) c g).trans (auto_ok0 (show ent148 to148 c g = (ent148 id c g).map to148 by simp only [ent148, map_cond, Option.map_some, Option.map_none, id]) (some148 c g)))

/-! ### ref15.Port -/
abbrev R91 := Int
def to91 (r : R91) : Ans := ⟨.v (.int .i64 r), []⟩
def H91 : Hint := ⟨fun _ => false, fun _ => ⟨[], []⟩, [], G0, nodp⟩
noncomputable def ent91 {R : Type} (ret : R91 → R) (h_0 : Channel) : Option R :=
    cond (((sp129 h_0) : Int) == 0)
    (some (ret 0))
    (some (ret (IntKind.i64.wrap (3 + (sp129 h_0)))))
theorem run91 (J : Jmp) (h_0 : Channel) : runF Pr GB H91 J GL Tryz.f91 [.agg [.v (.int .i64 h_0.kind), .v (.int .i64 h_0.words), .v (.int .i64 h_0.depth)]] [] = ent91 to91 h_0 := by kernel_rfl
noncomputable def spO91 (h_0 : Channel) : Option R91 := ent91 id h_0
noncomputable def sp91 (h_0 : Channel) : R91 := (spO91 h_0).getD default
theorem some91 (h_0 : Channel) : spO91 h_0 = some (sp91 h_0) := isSome_getD (show (spO91 h_0).isSome = true by simp only [spO91, ent91, isSome_cond, Option.isSome_some, cond_self])
theorem oks91 (h_0 : Channel) : Okay Pr GL 91 [.agg [.v (.int .i64 h_0.kind), .v (.int .i64 h_0.words), .v (.int .i64 h_0.depth)]] [] (to91 (sp91 h_0)) :=
  okay_of_run (H := H91) GBok G0ok Tryz.func91 rfl (by kernel_rfl) 0 ((run91 (runL Pr GB H91 Tryz.f91 0) h_0).trans (auto_ok0 (show ent91 to91 h_0 = (ent91 id h_0).map to91 by simp only [ent91, map_cond, Option.map_some, Option.map_none, id]) (some91 h_0)))

/-! ### ref15.Stage -/
abbrev R93 := Int
def to93 (r : R93) : Ans := ⟨.v (.int .i64 r), []⟩
def H93 : Hint := ⟨fun _ => false, fun _ => ⟨[], []⟩, [], G0, nodp⟩
noncomputable def ent93 {R : Type} (ret : R93 → R) (h_0 : Channel) : Option R :=
    cond (((sp129 h_0) : Int) == 0)
    (some (ret 0))
    (cond ((h_0.kind : Int) == 1)
      (some (ret (IntKind.i64.wrap (2 + h_0.words))))
      (some (ret (IntKind.i64.wrap (1 + (sp129 h_0))))))
theorem run93 (J : Jmp) (h_0 : Channel) : runF Pr GB H93 J GL Tryz.f93 [.agg [.v (.int .i64 h_0.kind), .v (.int .i64 h_0.words), .v (.int .i64 h_0.depth)]] [] = ent93 to93 h_0 := by kernel_rfl
noncomputable def spO93 (h_0 : Channel) : Option R93 := ent93 id h_0
noncomputable def sp93 (h_0 : Channel) : R93 := (spO93 h_0).getD default
theorem some93 (h_0 : Channel) : spO93 h_0 = some (sp93 h_0) := isSome_getD (show (spO93 h_0).isSome = true by simp only [spO93, ent93, isSome_cond, Option.isSome_some, cond_self])
theorem oks93 (h_0 : Channel) : Okay Pr GL 93 [.agg [.v (.int .i64 h_0.kind), .v (.int .i64 h_0.words), .v (.int .i64 h_0.depth)]] [] (to93 (sp93 h_0)) :=
  okay_of_run (H := H93) GBok G0ok Tryz.func93 rfl (by kernel_rfl) 0 ((run93 (runL Pr GB H93 Tryz.f93 0) h_0).trans (auto_ok0 (show ent93 to93 h_0 = (ent93 id h_0).map to93 by simp only [ent93, map_cond, Option.map_some, Option.map_none, id]) (some93 h_0)))

/-! ### admit.questions$1 -/
abbrev R130 := AdmitFound
def to130 (r : R130) : Ans := ⟨.agg [.v (.int .i64 r.e), .v (.int .i64 r.where_.first), .v (.int .i64 r.where_.second)], []⟩
def H130 : Hint := ⟨fun _ => false, fun _ => ⟨[], []⟩, [], G0, nodp⟩
noncomputable def ent130 {R : Type} (ret : R130 → R) (a : Config) : Option R :=
    some (ret (sp131 (sp132 a.frames 1 1024) 400 nowhere))
theorem run130 (J : Jmp) (a : Config) : runF Pr GB H130 J GL Tryz.f130 [.op .sConfig (some a)] [] = ent130 to130 a := by kernel_rfl
noncomputable def spO130 (a : Config) : Option R130 := ent130 id a
noncomputable def sp130 (a : Config) : R130 := (spO130 a).getD default
theorem some130 (a : Config) : spO130 a = some (sp130 a) := isSome_getD (show (spO130 a).isSome = true by simp only [spO130, ent130, isSome_cond, Option.isSome_some, cond_self])
theorem oks130 (a : Config) : Okay Pr GL 130 [.op .sConfig (some a)] [] (to130 (sp130 a)) :=
  okay_of_run (H := H130) GBok G0ok Tryz.func130 rfl (by kernel_rfl) 0 ((run130 (runL Pr GB H130 Tryz.f130 0) a).trans (auto_ok0 (show ent130 to130 a = (ent130 id a).map to130 by simp only [ent130, map_cond, Option.map_some, Option.map_none, id]) (some130 a)))

/-! ### admit.questions$2 -/
abbrev R133 := AdmitFound
def to133 (r : R133) : Ans := ⟨.agg [.v (.int .i64 r.e), .v (.int .i64 r.where_.first), .v (.int .i64 r.where_.second)], []⟩
def H133 : Hint := ⟨fun _ => false, fun _ => ⟨[], []⟩, [], G0, nodp⟩
noncomputable def ent133 {R : Type} (ret : R133 → R) (a : Config) : Option R :=
    some (ret (sp131 (sp132 a.major 1 16384) 401 nowhere))
theorem run133 (J : Jmp) (a : Config) : runF Pr GB H133 J GL Tryz.f133 [.op .sConfig (some a)] [] = ent133 to133 a := by kernel_rfl
noncomputable def spO133 (a : Config) : Option R133 := ent133 id a
noncomputable def sp133 (a : Config) : R133 := (spO133 a).getD default
theorem some133 (a : Config) : spO133 a = some (sp133 a) := isSome_getD (show (spO133 a).isSome = true by simp only [spO133, ent133, isSome_cond, Option.isSome_some, cond_self])
theorem oks133 (a : Config) : Okay Pr GL 133 [.op .sConfig (some a)] [] (to133 (sp133 a)) :=
  okay_of_run (H := H133) GBok G0ok Tryz.func133 rfl (by kernel_rfl) 0 ((run133 (runL Pr GB H133 Tryz.f133 0) a).trans (auto_ok0 (show ent133 to133 a = (ent133 id a).map to133 by simp only [ent133, map_cond, Option.map_some, Option.map_none, id]) (some133 a)))

/-! ### admit.questions$3 -/
abbrev R134 := AdmitFound
def to134 (r : R134) : Ans := ⟨.agg [.v (.int .i64 r.e), .v (.int .i64 r.where_.first), .v (.int .i64 r.where_.second)], []⟩
def H134 : Hint := ⟨fun _ => false, fun _ => ⟨[], []⟩, [], G0, nodp⟩
noncomputable def ent134 {R : Type} (ret : R134 → R) (a : Config) : Option R :=
    some (ret (sp131 (sp132 a.cores.length 1 4) 402 nowhere))
theorem run134 (J : Jmp) (a : Config) : runF Pr GB H134 J GL Tryz.f134 [.op .sConfig (some a)] [] = ent134 to134 a := by kernel_rfl
noncomputable def spO134 (a : Config) : Option R134 := ent134 id a
noncomputable def sp134 (a : Config) : R134 := (spO134 a).getD default
theorem some134 (a : Config) : spO134 a = some (sp134 a) := isSome_getD (show (spO134 a).isSome = true by simp only [spO134, ent134, isSome_cond, Option.isSome_some, cond_self])
theorem oks134 (a : Config) : Okay Pr GL 134 [.op .sConfig (some a)] [] (to134 (sp134 a)) :=
  okay_of_run (H := H134) GBok G0ok Tryz.func134 rfl (by kernel_rfl) 0 ((run134 (runL Pr GB H134 Tryz.f134 0) a).trans (auto_ok0 (show ent134 to134 a = (ent134 id a).map to134 by simp only [ent134, map_cond, Option.map_some, Option.map_none, id]) (some134 a)))

/-! ### admit.questions$4 -/
abbrev R135 := AdmitFound
def to135 (r : R135) : Ans := ⟨.agg [.v (.int .i64 r.e), .v (.int .i64 r.where_.first), .v (.int .i64 r.where_.second)], []⟩
def H135 : Hint := ⟨fun _ => false, fun _ => ⟨[], []⟩, [], G0, nodp⟩
noncomputable def ent135 {R : Type} (ret : R135 → R) (a : Config) : Option R :=
    some (ret (sp131 (sp132 a.partitions.length 1 8) 403 nowhere))
theorem run135 (J : Jmp) (a : Config) : runF Pr GB H135 J GL Tryz.f135 [.op .sConfig (some a)] [] = ent135 to135 a := by kernel_rfl
noncomputable def spO135 (a : Config) : Option R135 := ent135 id a
noncomputable def sp135 (a : Config) : R135 := (spO135 a).getD default
theorem some135 (a : Config) : spO135 a = some (sp135 a) := isSome_getD (show (spO135 a).isSome = true by simp only [spO135, ent135, isSome_cond, Option.isSome_some, cond_self])
theorem oks135 (a : Config) : Okay Pr GL 135 [.op .sConfig (some a)] [] (to135 (sp135 a)) :=
  okay_of_run (H := H135) GBok G0ok Tryz.func135 rfl (by kernel_rfl) 0 ((run135 (runL Pr GB H135 Tryz.f135 0) a).trans (auto_ok0 (show ent135 to135 a = (ent135 id a).map to135 by simp only [ent135, map_cond, Option.map_some, Option.map_none, id]) (some135 a)))

/-! ### admit.questions$5 -/
abbrev R136 := AdmitFound
def to136 (r : R136) : Ans := ⟨.agg [.v (.int .i64 r.e), .v (.int .i64 r.where_.first), .v (.int .i64 r.where_.second)], []⟩
def H136 : Hint := ⟨fun _ => false, fun _ => ⟨[], []⟩, [], G0, nodp⟩
noncomputable def ent136 {R : Type} (ret : R136 → R) (a : Config) : Option R :=
    some (ret (sp131 (decide ((a.channels.length : Int) ≤ 16)) 404 nowhere))
theorem run136 (J : Jmp) (a : Config) : runF Pr GB H136 J GL Tryz.f136 [.op .sConfig (some a)] [] = ent136 to136 a := by kernel_rfl
noncomputable def spO136 (a : Config) : Option R136 := ent136 id a
noncomputable def sp136 (a : Config) : R136 := (spO136 a).getD default
theorem some136 (a : Config) : spO136 a = some (sp136 a) := isSome_getD (show (spO136 a).isSome = true by simp only [spO136, ent136, isSome_cond, Option.isSome_some, cond_self])
theorem oks136 (a : Config) : Okay Pr GL 136 [.op .sConfig (some a)] [] (to136 (sp136 a)) :=
  okay_of_run (H := H136) GBok G0ok Tryz.func136 rfl (by kernel_rfl) 0 ((run136 (runL Pr GB H136 Tryz.f136 0) a).trans (auto_ok0 (show ent136 to136 a = (ent136 id a).map to136 by simp only [ent136, map_cond, Option.map_some, Option.map_none, id]) (some136 a)))

/-! ### admit.channel -/
abbrev R140 := AdmitFound
def to140 (r : R140) : Ans := ⟨.agg [.v (.int .i64 r.e), .v (.int .i64 r.where_.first), .v (.int .i64 r.where_.second)], []⟩
inductive L140 where
  | l11 (x0 : Bool) (x1 : Int)
def num140 : L140 → Nat
  | .l11 _ _ => 11
def H140 : Hint := ⟨fun n => [5].any (Nat.beq n), hdAt [(11, ⟨fgt [1, 2, 4, 5, 6, 7, 34, 35, 36, 39] 57 0, []⟩)], [], G0, nodp⟩
noncomputable def st140 (c : Config) (h_1 : Int) : L140 → St
  | .l11 x0 x1 => ⟨mkE [(1, .v (.int .i64 h_1)), (2, .ref 0 0), (4, .ref 1 0), (5, .ref 2 0), (6, .v (.bool x0)), (7, .v (.int .i64 x1))] 57 0, [.cells 26 [.v (.int .i64 c.frames), .v (.int .i64 c.major), .v (.int .i64 c.kernel), .v (.int .i64 c.room), .sl (.sl .sWindow) c.cores, .sl .sPartition c.partitions, .sl .sChannel c.channels], .cells 184 [.v (.int .i64 0), .v (.int .i64 0), .v (.int .i64 0)], .cells 97 [.v (.int .i64 ((atChannel c.channels h_1.toNat).kind)), .v (.int .i64 ((atChannel c.channels h_1.toNat).words)), .v (.int .i64 ((atChannel c.channels h_1.toNat).depth))]], GL, 0, [], nodp⟩
noncomputable def bod140 {R : Type} (ret : R140 → R) (c : Config) (h_1 : Int) (j : L140 → Option R) : L140 → Option R
  | .l11 x0 x1 => cond (spc165 c h_1) (
    cond (sp132 ((atChannel c.channels h_1.toNat).kind) 1 2)
      (cond (sp132 ((atChannel c.channels h_1.toNat).words) 1 16)
        (cond (spc159 [(sp131 x0 415 (sp161 h_1)), (sp131 (((sp165 c h_1).1 : Int) == 1) 416 (sp161 h_1)), (sp131 (sp132 ((sp165 c h_1).2) 1 x1) 417 (sp161 h_1))]) (
          some (ret (sp159 [(sp131 x0 415 (sp161 h_1)), (sp131 (((sp165 c h_1).1 : Int) == 1) 416 (sp161 h_1)), (sp131 (sp132 ((sp165 c h_1).2) 1 x1) 417 (sp161 h_1))]))) none)
        (cond (spc159 [(sp131 false 415 (sp161 h_1)), (sp131 (((sp165 c h_1).1 : Int) == 1) 416 (sp161 h_1)), (sp131 (sp132 ((sp165 c h_1).2) 1 x1) 417 (sp161 h_1))]) (
          some (ret (sp159 [(sp131 false 415 (sp161 h_1)), (sp131 (((sp165 c h_1).1 : Int) == 1) 416 (sp161 h_1)), (sp131 (sp132 ((sp165 c h_1).2) 1 x1) 417 (sp161 h_1))]))) none))
      (cond (spc159 [(sp131 false 415 (sp161 h_1)), (sp131 (((sp165 c h_1).1 : Int) == 1) 416 (sp161 h_1)), (sp131 (sp132 ((sp165 c h_1).2) 1 x1) 417 (sp161 h_1))]) (
        some (ret (sp159 [(sp131 false 415 (sp161 h_1)), (sp131 (((sp165 c h_1).1 : Int) == 1) 416 (sp161 h_1)), (sp131 (sp132 ((sp165 c h_1).2) 1 x1) 417 (sp161 h_1))]))) none)) none
noncomputable def ent140 {R : Type} (ret : R140 → R) (c : Config) (h_1 : Int) (j : L140 → Option R) : Option R :=
    cond (inR h_1 c.channels.length) (
    cond (((atChannel c.channels h_1.toNat).kind : Int) == 2)
      (j (.l11 (sp132 ((atChannel c.channels h_1.toNat).depth) 1 8) 1))
      (j (.l11 (((atChannel c.channels h_1.toNat).depth : Int) == 0) 4))) none
theorem head140_11 (J : Jmp) (c : Config) (h_1 : Int) (x0 : Bool) (x1 : Int) : stepAt Pr GB H140 J 11 0 (bodyOf Tryz.f140) (fin Pr H140 Tryz.f140) (st140 c h_1 (.l11 x0 x1)) = bod140 to140 c h_1 (fun l => J (num140 l) (st140 c h_1 l)) (.l11 x0 x1) := by kernel_rfl
theorem run140 (J : Jmp) (c : Config) (h_1 : Int) : runF Pr GB H140 J GL Tryz.f140 [(aCfg c), .v (.int .i64 h_1)] [] = ent140 to140 c h_1 (fun l => J (num140 l) (st140 c h_1 l)) := by kernel_rfl
theorem shad140 (c : Config) (h_1 : Int) : ∀ (n : Nat) (l : L140), runL Pr GB H140 Tryz.f140 n (num140 l) (st140 c h_1 l) = shad (bod140 to140 c h_1) n l
  | 0, l => by cases l <;> rfl
  | n + 1, l => by
    have ih : (fun l => runL Pr GB H140 Tryz.f140 n (num140 l) (st140 c h_1 l)) = shad (bod140 to140 c h_1) n := funext (shad140 c h_1 n)
    cases l with
    | l11 x0 x1 => exact (step_eq ..).trans ((head140_11 ..).trans (by rw [ih]; rfl))
theorem nat140 (c : Config) (h_1 : Int) (s : L140 → Option R140) (l : L140) : bod140 to140 c h_1 (fun l => (s l).map to140) l = (bod140 id c h_1 s l).map to140 := by
  cases l <;> simp only [bod140, map_cond, Option.map_some, Option.map_none, id]
theorem ct140 (c : Config) (h_1 : Int) (l : L140) : CT fun j => bod140 id c h_1 j l := by
  cases l <;> (dsimp only [bod140]; repeat (first | exact CT.jump _ | exact CT.const _ | apply CT.cond))
noncomputable def spL140 (c : Config) (h_1 : Int) : L140 → Option R140 := lfp (bod140 id c h_1)
theorem spL140_eq (c : Config) (h_1 : Int) (l : L140) : spL140 c h_1 l = bod140 id c h_1 (spL140 c h_1) l := lfp_eq (ct140 c h_1) l
noncomputable def spO140 (c : Config) (h_1 : Int) : Option R140 := ent140 id c h_1 (spL140 c h_1)
noncomputable def sp140 (c : Config) (h_1 : Int) : R140 := (spO140 c h_1).getD default
noncomputable def spc140 (c : Config) (h_1 : Int) : Bool := (spO140 c h_1).isSome
theorem oks140 (c : Config) (h_1 : Int) (hc : spc140 c h_1 = true) : Okay Pr GL 140 [(aCfg c), .v (.int .i64 h_1)] [] (to140 (sp140 c h_1)) := by
  obtain ⟨n, h⟩ := auto_ok (nat140 c h_1) (fun s => show ent140 to140 c h_1 (fun l => (s l).map to140) = (ent140 id c h_1 s).map to140 by simp only [ent140, map_cond, Option.map_some, Option.map_none, id]) (ct140 c h_1) (show CT fun j => ent140 id c h_1 j by dsimp only [ent140]; repeat (first | exact CT.jump _ | exact CT.const _ | apply CT.cond)) (isSome_getD hc)
  exact okay_of_run (H := H140) GBok G0ok Tryz.func140 rfl (by kernel_rfl) n (by
    rw [run140]
    rw [show (fun l => runL Pr GB H140 Tryz.f140 n (num140 l) (st140 c h_1 l)) = shad (bod140 to140 c h_1) n from funext (shad140 c h_1 n)]
    exact h)

/-! ### admit.core -/
abbrev R142 := AdmitFound
def to142 (r : R142) : Ans := ⟨.agg [.v (.int .i64 r.e), .v (.int .i64 r.where_.first), .v (.int .i64 r.where_.second)], []⟩
inductive L142 where
  | l0 (x0 : Int) (x1 : Int)
def num142 : L142 → Nat
  | .l0 _ _ => 0
def H142 : Hint := ⟨fun n => [].any (Nat.beq n), hdAt [(0, ⟨fgt [1, 2, 4, 5, 24, 25, 26] 85 0, []⟩)], [], G0, nodp⟩
noncomputable def st142 (c : Config) (k : Int) : L142 → St
  | .l0 x0 x1 => ⟨mkE [(1, .v (.int .i64 k)), (2, .ref 0 0), (4, .ref 1 0), (5, .v (.int .i64 x0)), (24, .sl .sWindow (atLWindow c.cores k.toNat)), (25, .v (.int .i64 ((atLWindow c.cores k.toNat).length))), (26, .v (.int .i64 x1))] 85 0, [.cells 26 [.v (.int .i64 c.frames), .v (.int .i64 c.major), .v (.int .i64 c.kernel), .v (.int .i64 c.room), .sl (.sl .sWindow) c.cores, .sl .sPartition c.partitions, .sl .sChannel c.channels], .cells 184 [.v (.int .i64 0), .v (.int .i64 0), .v (.int .i64 0)]], GL, 0, [], nodp⟩
noncomputable def bod142 {R : Type} (ret : R142 → R) (c : Config) (k : Int) (j : L142 → Option R) : L142 → Option R
  | .l0 x0 x1 => cond (decide ((x1 : Int) < (atLWindow c.cores k.toNat).length))
    (cond (inR x1 (atLWindow c.cores k.toNat).length) (
      cond (sp132 ((atWindow (atLWindow c.cores k.toNat) x1.toNat).partition) (-1) (IntKind.i64.wrap (c.partitions.length - 1)))
        (cond (spc166 c k ((atWindow (atLWindow c.cores k.toNat) x1.toNat).partition)) (
          cond (spc159 [(sp131 (sp132 ((atWindow (atLWindow c.cores k.toNat) x1.toNat).usable) 1 16384) 419 (sp164 k x1)), (sp131 (sp132 ((atWindow (atLWindow c.cores k.toNat) x1.toNat).slack) 82 16384) 420 (sp164 k x1)), (sp131 (!(sp166 c k ((atWindow (atLWindow c.cores k.toNat) x1.toNat).partition))) 422 (sp164 k x1))]) (
            cond (!((((sp159 [(sp131 (sp132 ((atWindow (atLWindow c.cores k.toNat) x1.toNat).usable) 1 16384) 419 (sp164 k x1)), (sp131 (sp132 ((atWindow (atLWindow c.cores k.toNat) x1.toNat).slack) 82 16384) 420 (sp164 k x1)), (sp131 (!(sp166 c k ((atWindow (atLWindow c.cores k.toNat) x1.toNat).partition))) 422 (sp164 k x1))]).e : Int) == fine.e) && (((((sp159 [(sp131 (sp132 ((atWindow (atLWindow c.cores k.toNat) x1.toNat).usable) 1 16384) 419 (sp164 k x1)), (sp131 (sp132 ((atWindow (atLWindow c.cores k.toNat) x1.toNat).slack) 82 16384) 420 (sp164 k x1)), (sp131 (!(sp166 c k ((atWindow (atLWindow c.cores k.toNat) x1.toNat).partition))) 422 (sp164 k x1))]).where_.first : Int) == fine.where_.first) && ((((sp159 [(sp131 (sp132 ((atWindow (atLWindow c.cores k.toNat) x1.toNat).usable) 1 16384) 419 (sp164 k x1)), (sp131 (sp132 ((atWindow (atLWindow c.cores k.toNat) x1.toNat).slack) 82 16384) 420 (sp164 k x1)), (sp131 (!(sp166 c k ((atWindow (atLWindow c.cores k.toNat) x1.toNat).partition))) 422 (sp164 k x1))]).where_.second : Int) == fine.where_.second) && true)) && true)))
              (some (ret (sp159 [(sp131 (sp132 ((atWindow (atLWindow c.cores k.toNat) x1.toNat).usable) 1 16384) 419 (sp164 k x1)), (sp131 (sp132 ((atWindow (atLWindow c.cores k.toNat) x1.toNat).slack) 82 16384) 420 (sp164 k x1)), (sp131 (!(sp166 c k ((atWindow (atLWindow c.cores k.toNat) x1.toNat).partition))) 422 (sp164 k x1))])))
              (j (.l0 (IntKind.i64.wrap (x0 + (IntKind.i64.wrap ((atWindow (atLWindow c.cores k.toNat) x1.toNat).usable + (atWindow (atLWindow c.cores k.toNat) x1.toNat).slack)))) (IntKind.i64.wrap (x1 + 1))))) none) none)
        (cond (spc166 c k ((atWindow (atLWindow c.cores k.toNat) x1.toNat).partition)) (
          cond (spc159 [(sp131 false 419 (sp164 k x1)), (sp131 (sp132 ((atWindow (atLWindow c.cores k.toNat) x1.toNat).slack) 82 16384) 420 (sp164 k x1)), (sp131 (!(sp166 c k ((atWindow (atLWindow c.cores k.toNat) x1.toNat).partition))) 422 (sp164 k x1))]) (
            cond (!((((sp159 [(sp131 false 419 (sp164 k x1)), (sp131 (sp132 ((atWindow (atLWindow c.cores k.toNat) x1.toNat).slack) 82 16384) 420 (sp164 k x1)), (sp131 (!(sp166 c k ((atWindow (atLWindow c.cores k.toNat) x1.toNat).partition))) 422 (sp164 k x1))]).e : Int) == fine.e) && (((((sp159 [(sp131 false 419 (sp164 k x1)), (sp131 (sp132 ((atWindow (atLWindow c.cores k.toNat) x1.toNat).slack) 82 16384) 420 (sp164 k x1)), (sp131 (!(sp166 c k ((atWindow (atLWindow c.cores k.toNat) x1.toNat).partition))) 422 (sp164 k x1))]).where_.first : Int) == fine.where_.first) && ((((sp159 [(sp131 false 419 (sp164 k x1)), (sp131 (sp132 ((atWindow (atLWindow c.cores k.toNat) x1.toNat).slack) 82 16384) 420 (sp164 k x1)), (sp131 (!(sp166 c k ((atWindow (atLWindow c.cores k.toNat) x1.toNat).partition))) 422 (sp164 k x1))]).where_.second : Int) == fine.where_.second) && true)) && true)))
              (some (ret (sp159 [(sp131 false 419 (sp164 k x1)), (sp131 (sp132 ((atWindow (atLWindow c.cores k.toNat) x1.toNat).slack) 82 16384) 420 (sp164 k x1)), (sp131 (!(sp166 c k ((atWindow (atLWindow c.cores k.toNat) x1.toNat).partition))) 422 (sp164 k x1))])))
              (j (.l0 (IntKind.i64.wrap (x0 + (IntKind.i64.wrap ((atWindow (atLWindow c.cores k.toNat) x1.toNat).usable + (atWindow (atLWindow c.cores k.toNat) x1.toNat).slack)))) (IntKind.i64.wrap (x1 + 1))))) none) none)) none)
    (some (ret (sp131 ((x0 : Int) == c.major) 421 (sp161 k))))
noncomputable def ent142 {R : Type} (ret : R142 → R) (c : Config) (k : Int) (j : L142 → Option R) : Option R :=
    cond (inR k c.cores.length) (
    cond (!(sp132 ((atLWindow c.cores k.toNat).length) 1 16))
      (some (ret (⟨418, (⟨(sp161 k).first, (sp161 k).second⟩ : Where)⟩ : AdmitFound)))
      (cond (inR k c.cores.length) (j (.l0 0 0)) none)) none
theorem head142_0 (J : Jmp) (c : Config) (k : Int) (x0 : Int) (x1 : Int) : stepAt Pr GB H142 J 0 0 (bodyOf Tryz.f142) (fin Pr H142 Tryz.f142) (st142 c k (.l0 x0 x1)) = bod142 to142 c k (fun l => J (num142 l) (st142 c k l)) (.l0 x0 x1) := by kernel_rfl
theorem run142 (J : Jmp) (c : Config) (k : Int) : runF Pr GB H142 J GL Tryz.f142 [(aCfg c), .v (.int .i64 k)] [] = ent142 to142 c k (fun l => J (num142 l) (st142 c k l)) := by kernel_rfl
theorem shad142 (c : Config) (k : Int) : ∀ (n : Nat) (l : L142), runL Pr GB H142 Tryz.f142 n (num142 l) (st142 c k l) = shad (bod142 to142 c k) n l
  | 0, l => by cases l <;> rfl
  | n + 1, l => by
    have ih : (fun l => runL Pr GB H142 Tryz.f142 n (num142 l) (st142 c k l)) = shad (bod142 to142 c k) n := funext (shad142 c k n)
    cases l with
    | l0 x0 x1 => exact (step_eq ..).trans ((head142_0 ..).trans (by rw [ih]; rfl))
theorem nat142 (c : Config) (k : Int) (s : L142 → Option R142) (l : L142) : bod142 to142 c k (fun l => (s l).map to142) l = (bod142 id c k s l).map to142 := by
  cases l <;> simp only [bod142, map_cond, Option.map_some, Option.map_none, id]
theorem ct142 (c : Config) (k : Int) (l : L142) : CT fun j => bod142 id c k j l := by
  cases l <;> (dsimp only [bod142]; repeat (first | exact CT.jump _ | exact CT.const _ | apply CT.cond))
noncomputable def spL142 (c : Config) (k : Int) : L142 → Option R142 := lfp (bod142 id c k)
theorem spL142_eq (c : Config) (k : Int) (l : L142) : spL142 c k l = bod142 id c k (spL142 c k) l := lfp_eq (ct142 c k) l
noncomputable def spO142 (c : Config) (k : Int) : Option R142 := ent142 id c k (spL142 c k)
noncomputable def sp142 (c : Config) (k : Int) : R142 := (spO142 c k).getD default
noncomputable def spc142 (c : Config) (k : Int) : Bool := (spO142 c k).isSome
theorem oks142 (c : Config) (k : Int) (hc : spc142 c k = true) : Okay Pr GL 142 [(aCfg c), .v (.int .i64 k)] [] (to142 (sp142 c k)) := by
  obtain ⟨n, h⟩ := auto_ok (nat142 c k) (fun s => show ent142 to142 c k (fun l => (s l).map to142) = (ent142 id c k s).map to142 by simp only [ent142, map_cond, Option.map_some, Option.map_none, id]) (ct142 c k) (show CT fun j => ent142 id c k j by dsimp only [ent142]; repeat (first | exact CT.jump _ | exact CT.const _ | apply CT.cond)) (isSome_getD hc)
  exact okay_of_run (H := H142) GBok G0ok Tryz.func142 rfl (by kernel_rfl) n (by
    rw [run142]
    rw [show (fun l => runL Pr GB H142 Tryz.f142 n (num142 l) (st142 c k l)) = shad (bod142 to142 c k) n from funext (shad142 c k n)]
    exact h)

/-! ### layout.can -/
abbrev R68 := Bool
def to68 (r : R68) : Ans := ⟨.v (.bool r), []⟩
inductive L68 where
  | l0 (x0 : Int)
  | l4 (x0 : Int)
def num68 : L68 → Nat
  | .l0 _ => 0
  | .l4 _ => 4
def H68 : Hint := ⟨fun n => [].any (Nat.beq n), hdAt [(0, ⟨fgt [1, 30, 31, 32, 59, 60, 61, 62, 63, 64, 65, 66, 72, 73, 74, 77, 78, 79] 82 0, []⟩), (4, ⟨fgt [1, 42, 43, 44] 82 0, []⟩)], [], G0, nodp⟩
noncomputable def st68 (c : Config) : L68 → St
  | .l0 x0 => ⟨mkE [(1, .ref 0 0), (30, .sl .sPartition c.partitions), (31, .v (.int .i64 c.partitions.length)), (32, .v (.int .i64 x0))] 82 0, [.cells 26 [.v (.int .i64 c.frames), .v (.int .i64 c.major), .v (.int .i64 c.kernel), .v (.int .i64 c.room), .sl (.sl .sWindow) c.cores, .sl .sPartition c.partitions, .sl .sChannel c.channels]], GL, 0, [], nodp⟩
  | .l4 x0 => ⟨mkE [(1, .ref 0 0), (42, .sl .sChannel c.channels), (43, .v (.int .i64 c.channels.length)), (44, .v (.int .i64 x0))] 82 0, [.cells 26 [.v (.int .i64 c.frames), .v (.int .i64 c.major), .v (.int .i64 c.kernel), .v (.int .i64 c.room), .sl (.sl .sWindow) c.cores, .sl .sPartition c.partitions, .sl .sChannel c.channels]], GL, 0, [], nodp⟩
noncomputable def bod68 {R : Type} (ret : R68 → R) (c : Config) (j : L68 → Option R) : L68 → Option R
  | .l0 x0 => cond (decide ((x0 : Int) < c.partitions.length))
    (cond (inR x0 c.partitions.length) (
      cond (spc114 c (atPartition c.partitions x0.toNat)) (
        cond (!(sp114 c (atPartition c.partitions x0.toNat)))
          (some (ret false))
          (j (.l0 (IntKind.i64.wrap (x0 + 1))))) none) none)
    (j (.l4 0))
  | .l4 x0 => cond (decide ((x0 : Int) < c.channels.length))
    (cond (inR x0 c.channels.length) (
      cond (spc70 c x0) (
        cond (((sp71 (atChannel c.channels x0.toNat)) : Int) == 0)
          (some (ret false))
          (cond (((atChannel c.channels x0.toNat).kind : Int) == 1)
            (cond (!(((atChannel c.channels x0.toNat).depth : Int) == 0))
              (some (ret false))
              (cond (!((((sp70 c x0).1).length : Int) == 1))
                (some (ret false))
                (cond (decide ((((sp70 c x0).2).length : Int) < 1))
                  (some (ret false))
                  (cond (decide ((((sp70 c x0).2).length : Int) > 4))
                    (some (ret false))
                    (j (.l4 (IntKind.i64.wrap (x0 + 1))))))))
            (cond (!((((sp70 c x0).1).length : Int) == 1))
              (some (ret false))
              (cond (decide ((((sp70 c x0).2).length : Int) < 1))
                (some (ret false))
                (cond (decide ((((sp70 c x0).2).length : Int) > 4))
                  (some (ret false))
                  (j (.l4 (IntKind.i64.wrap (x0 + 1))))))))) none) none)
    (some (ret true))
noncomputable def ent68 {R : Type} (ret : R68 → R) (c : Config) (j : L68 → Option R) : Option R :=
    cond (decide ((c.kernel : Int) < 0))
    (some (ret false))
    (cond (decide ((c.kernel : Int) ≥ 1024))
      (some (ret false))
      (cond (decide ((c.partitions.length : Int) > 8))
        (some (ret false))
        (cond (decide ((c.channels.length : Int) > 16))
          (some (ret false))
          (j (.l0 0)))))
theorem head68_0 (J : Jmp) (c : Config) (x0 : Int) : stepAt Pr GB H68 J 0 0 (bodyOf Tryz.f68) (fin Pr H68 Tryz.f68) (st68 c (.l0 x0)) = bod68 to68 c (fun l => J (num68 l) (st68 c l)) (.l0 x0) := by kernel_rfl
theorem head68_4 (J : Jmp) (c : Config) (x0 : Int) : stepAt Pr GB H68 J 4 0 (bodyOf Tryz.f68) (fin Pr H68 Tryz.f68) (st68 c (.l4 x0)) = bod68 to68 c (fun l => J (num68 l) (st68 c l)) (.l4 x0) := by kernel_rfl
theorem run68 (J : Jmp) (c : Config) : runF Pr GB H68 J GL Tryz.f68 [(aCfg c)] [] = ent68 to68 c (fun l => J (num68 l) (st68 c l)) := by kernel_rfl
theorem shad68 (c : Config) : ∀ (n : Nat) (l : L68), runL Pr GB H68 Tryz.f68 n (num68 l) (st68 c l) = shad (bod68 to68 c) n l
  | 0, l => by cases l <;> rfl
  | n + 1, l => by
    have ih : (fun l => runL Pr GB H68 Tryz.f68 n (num68 l) (st68 c l)) = shad (bod68 to68 c) n := funext (shad68 c n)
    cases l with
    | l0 x0 => exact (step_eq ..).trans ((head68_0 ..).trans (by rw [ih]; rfl))
    | l4 x0 => exact (step_eq ..).trans ((head68_4 ..).trans (by rw [ih]; rfl))
theorem nat68 (c : Config) (s : L68 → Option R68) (l : L68) : bod68 to68 c (fun l => (s l).map to68) l = (bod68 id c s l).map to68 := by
  cases l <;> simp only [bod68, map_cond, Option.map_some, Option.map_none, id]
theorem ct68 (c : Config) (l : L68) : CT fun j => bod68 id c j l := by
  cases l <;> (dsimp only [bod68]; repeat (first | exact CT.jump _ | exact CT.const _ | apply CT.cond))
noncomputable def spL68 (c : Config) : L68 → Option R68 := lfp (bod68 id c)
theorem spL68_eq (c : Config) (l : L68) : spL68 c l = bod68 id c (spL68 c) l := lfp_eq (ct68 c) l
noncomputable def spO68 (c : Config) : Option R68 := ent68 id c (spL68 c)
noncomputable def sp68 (c : Config) : R68 := (spO68 c).getD default
noncomputable def spc68 (c : Config) : Bool := (spO68 c).isSome
theorem oks68 (c : Config) (hc : spc68 c = true) : Okay Pr GL 68 [(aCfg c)] [] (to68 (sp68 c)) := by
  obtain ⟨n, h⟩ := auto_ok (nat68 c) (fun s => show ent68 to68 c (fun l => (s l).map to68) = (ent68 id c s).map to68 by simp only [ent68, map_cond, Option.map_some, Option.map_none, id]) (ct68 c) (show CT fun j => ent68 id c j by dsimp only [ent68]; repeat (first | exact CT.jump _ | exact CT.const _ | apply CT.cond)) (isSome_getD hc)
  exact okay_of_run (H := H68) GBok G0ok Tryz.func68 rfl (by kernel_rfl) n (by
    rw [run68]
    rw [show (fun l => runL Pr GB H68 Tryz.f68 n (num68 l) (st68 c l)) = shad (bod68 to68 c) n from funext (shad68 c n)]
    exact h)

/-! ### layout.Port -/
abbrev R72 := Int
def to72 (r : R72) : Ans := ⟨.v (.int .i64 r), []⟩
def H72 : Hint := ⟨fun _ => false, fun _ => ⟨[], []⟩, [], G0, nodp⟩
noncomputable def ent72 {R : Type} (ret : R72 → R) (h_0 : Channel) : Option R :=
    cond (((sp71 h_0) : Int) == 0)
    (some (ret 0))
    (cond ((h_0.kind : Int) == 1)
      (some (ret (IntKind.i64.wrap ((sp71 h_0) + 1))))
      (some (ret (IntKind.i64.wrap ((sp71 h_0) + 2)))))
theorem run72 (J : Jmp) (h_0 : Channel) : runF Pr GB H72 J GL Tryz.f72 [.agg [.v (.int .i64 h_0.kind), .v (.int .i64 h_0.words), .v (.int .i64 h_0.depth)]] [] = ent72 to72 h_0 := by kernel_rfl
noncomputable def spO72 (h_0 : Channel) : Option R72 := ent72 id h_0
noncomputable def sp72 (h_0 : Channel) : R72 := (spO72 h_0).getD default
theorem some72 (h_0 : Channel) : spO72 h_0 = some (sp72 h_0) := isSome_getD (show (spO72 h_0).isSome = true by simp only [spO72, ent72, isSome_cond, Option.isSome_some, cond_self])
theorem oks72 (h_0 : Channel) : Okay Pr GL 72 [.agg [.v (.int .i64 h_0.kind), .v (.int .i64 h_0.words), .v (.int .i64 h_0.depth)]] [] (to72 (sp72 h_0)) :=
  okay_of_run (H := H72) GBok G0ok Tryz.func72 rfl (by kernel_rfl) 0 ((run72 (runL Pr GB H72 Tryz.f72 0) h_0).trans (auto_ok0 (show ent72 to72 h_0 = (ent72 id h_0).map to72 by simp only [ent72, map_cond, Option.map_some, Option.map_none, id]) (some72 h_0)))

/-! ### admit.named -/
abbrev R160 := Bool
def to160 (r : R160) : Ans := ⟨.v (.bool r), []⟩
inductive L160 where
  | l0 (x0 : Int)
def num160 : L160 → Nat
  | .l0 _ => 0
def H160 : Hint := ⟨fun n => [].any (Nat.beq n), hdAt [(0, ⟨fgt [1, 2, 10, 11, 12] 33 0, []⟩)], [], G0, nodp⟩
noncomputable def st160 (c : Config) (p : Int) : L160 → St
  | .l0 x0 => ⟨mkE [(1, .v (.int .i64 p)), (2, .ref 0 0), (10, .sl .sPartition ((c.partitions.take p.toNat).drop 0)), (11, .v (.int .i64 (((c.partitions.take p.toNat).drop 0).length))), (12, .v (.int .i64 x0))] 33 0, [.cells 26 [.v (.int .i64 c.frames), .v (.int .i64 c.major), .v (.int .i64 c.kernel), .v (.int .i64 c.room), .sl (.sl .sWindow) c.cores, .sl .sPartition c.partitions, .sl .sChannel c.channels]], GL, 0, [], nodp⟩
noncomputable def bod160 {R : Type} (ret : R160 → R) (c : Config) (p : Int) (j : L160 → Option R) : L160 → Option R
  | .l0 x0 => cond (decide ((x0 : Int) < ((c.partitions.take p.toNat).drop 0).length))
    (cond (inR x0 ((c.partitions.take p.toNat).drop 0).length) (
      cond (inR p c.partitions.length) (
        cond (((atPartition ((c.partitions.take p.toNat).drop 0) x0.toNat).name).toList == ((atPartition c.partitions p.toNat).name).toList)
          (some (ret false))
          (j (.l0 (IntKind.i64.wrap (x0 + 1))))) none) none)
    (cond (inR p c.partitions.length) (
      cond (spc173 ((atPartition c.partitions p.toNat).name)) (some (ret (sp173 ((atPartition c.partitions p.toNat).name)))) none) none)
noncomputable def ent160 {R : Type} (ret : R160 → R) (c : Config) (p : Int) (j : L160 → Option R) : Option R :=
    cond (inS 0 p c.partitions.length) (j (.l0 0)) none
theorem head160_0 (J : Jmp) (c : Config) (p : Int) (x0 : Int) : stepAt Pr GB H160 J 0 0 (bodyOf Tryz.f160) (fin Pr H160 Tryz.f160) (st160 c p (.l0 x0)) = bod160 to160 c p (fun l => J (num160 l) (st160 c p l)) (.l0 x0) := by kernel_rfl
theorem run160 (J : Jmp) (c : Config) (p : Int) : runF Pr GB H160 J GL Tryz.f160 [(aCfg c), .v (.int .i64 p)] [] = ent160 to160 c p (fun l => J (num160 l) (st160 c p l)) := by kernel_rfl
theorem shad160 (c : Config) (p : Int) : ∀ (n : Nat) (l : L160), runL Pr GB H160 Tryz.f160 n (num160 l) (st160 c p l) = shad (bod160 to160 c p) n l
  | 0, l => by cases l <;> rfl
  | n + 1, l => by
    have ih : (fun l => runL Pr GB H160 Tryz.f160 n (num160 l) (st160 c p l)) = shad (bod160 to160 c p) n := funext (shad160 c p n)
    cases l with
    | l0 x0 => exact (step_eq ..).trans ((head160_0 ..).trans (by rw [ih]; rfl))
theorem nat160 (c : Config) (p : Int) (s : L160 → Option R160) (l : L160) : bod160 to160 c p (fun l => (s l).map to160) l = (bod160 id c p s l).map to160 := by
  cases l <;> simp only [bod160, map_cond, Option.map_some, Option.map_none, id]
theorem ct160 (c : Config) (p : Int) (l : L160) : CT fun j => bod160 id c p j l := by
  cases l <;> (dsimp only [bod160]; repeat (first | exact CT.jump _ | exact CT.const _ | apply CT.cond))
noncomputable def spL160 (c : Config) (p : Int) : L160 → Option R160 := lfp (bod160 id c p)
theorem spL160_eq (c : Config) (p : Int) (l : L160) : spL160 c p l = bod160 id c p (spL160 c p) l := lfp_eq (ct160 c p) l
noncomputable def spO160 (c : Config) (p : Int) : Option R160 := ent160 id c p (spL160 c p)
noncomputable def sp160 (c : Config) (p : Int) : R160 := (spO160 c p).getD default
noncomputable def spc160 (c : Config) (p : Int) : Bool := (spO160 c p).isSome
theorem oks160 (c : Config) (p : Int) (hc : spc160 c p = true) : Okay Pr GL 160 [(aCfg c), .v (.int .i64 p)] [] (to160 (sp160 c p)) := by
  obtain ⟨n, h⟩ := auto_ok (nat160 c p) (fun s => show ent160 to160 c p (fun l => (s l).map to160) = (ent160 id c p s).map to160 by simp only [ent160, map_cond, Option.map_some, Option.map_none, id]) (ct160 c p) (show CT fun j => ent160 id c p j by dsimp only [ent160]; repeat (first | exact CT.jump _ | exact CT.const _ | apply CT.cond)) (isSome_getD hc)
  exact okay_of_run (H := H160) GBok G0ok Tryz.func160 rfl (by kernel_rfl) n (by
    rw [run160]
    rw [show (fun l => runL Pr GB H160 Tryz.f160 n (num160 l) (st160 c p l)) = shad (bod160 to160 c p) n from funext (shad160 c p n)]
    exact h)

/-! ### admit.region -/
abbrev R162 := AdmitFound
def to162 (r : R162) : Ans := ⟨.agg [.v (.int .i64 r.e), .v (.int .i64 r.where_.first), .v (.int .i64 r.where_.second)], []⟩
inductive L162 where
  | l0 (x0 : Int)
  | l4 (x0 : Int)
  | l8 (x1 : Int) (x2 : Int) (x3 : List Region) (x4 : Int) (x0 : Int)
def num162 : L162 → Nat
  | .l0 _ => 0
  | .l4 _ => 4
  | .l8 _ _ _ _ _ => 8
def H162 : Hint := ⟨fun n => [].any (Nat.beq n), hdAt [(0, ⟨fgt [1, 2, 3, 6, 7, 68, 69, 70, 111, 112, 113, 116, 117, 118, 119, 120, 121, 122, 123, 124] 133 0, []⟩), (4, ⟨fgt [1, 2, 6, 7, 92, 93, 94, 111, 112, 113, 116, 117, 118, 119, 120, 121, 122, 123, 124] 133 0, []⟩), (8, ⟨fgt [1, 2, 6, 7, 10, 92, 93, 94, 100, 101, 102] 133 0, []⟩)], [], G0, nodp⟩
noncomputable def st162 (c : Config) (p : Int) (k : Int) : L162 → St
  | .l0 x0 => ⟨mkE [(1, .v (.int .i64 p)), (2, .v (.int .i64 k)), (3, .ref 0 0), (6, .ref 1 0), (7, .ref 2 0), (68, .sl .sRegion ((((atPartition c.partitions p.toNat).regions).take k.toNat).drop 0)), (69, .v (.int .i64 (((((atPartition c.partitions p.toNat).regions).take k.toNat).drop 0).length))), (70, .v (.int .i64 x0))] 133 0, [.cells 26 [.v (.int .i64 c.frames), .v (.int .i64 c.major), .v (.int .i64 c.kernel), .v (.int .i64 c.room), .sl (.sl .sWindow) c.cores, .sl .sPartition c.partitions, .sl .sChannel c.channels], .cells 184 [.v (.int .i64 0), .v (.int .i64 0), .v (.int .i64 0)], .cells 118 [.v (.int .i64 ((atRegion ((atPartition c.partitions p.toNat).regions) k.toNat).page)), .v (.int .i64 ((atRegion ((atPartition c.partitions p.toNat).regions) k.toNat).pages)), .v (.int .i64 ((atRegion ((atPartition c.partitions p.toNat).regions) k.toNat).frame)), .v (.int .i64 ((atRegion ((atPartition c.partitions p.toNat).regions) k.toNat).rights))]], GL, 0, [], nodp⟩
  | .l4 x0 => ⟨mkE [(1, .v (.int .i64 p)), (2, .v (.int .i64 k)), (6, .ref 0 0), (7, .ref 1 0), (92, .sl .sPartition ((c.partitions.take (IntKind.i64.wrap (p + 1)).toNat).drop 0)), (93, .v (.int .i64 (((c.partitions.take (IntKind.i64.wrap (p + 1)).toNat).drop 0).length))), (94, .v (.int .i64 x0))] 133 0, [.cells 184 [.v (.int .i64 0), .v (.int .i64 0), .v (.int .i64 0)], .cells 118 [.v (.int .i64 ((atRegion ((atPartition c.partitions p.toNat).regions) k.toNat).page)), .v (.int .i64 ((atRegion ((atPartition c.partitions p.toNat).regions) k.toNat).pages)), .v (.int .i64 ((atRegion ((atPartition c.partitions p.toNat).regions) k.toNat).frame)), .v (.int .i64 ((atRegion ((atPartition c.partitions p.toNat).regions) k.toNat).rights))]], GL, 0, [], nodp⟩
  | .l8 x1 x2 x3 x4 x0 => ⟨mkE [(1, .v (.int .i64 p)), (2, .v (.int .i64 k)), (6, .ref 0 0), (7, .ref 1 0), (10, .v (.int .i64 x1)), (92, .sl .sPartition ((c.partitions.take (IntKind.i64.wrap (p + 1)).toNat).drop 0)), (93, .v (.int .i64 (((c.partitions.take (IntKind.i64.wrap (p + 1)).toNat).drop 0).length))), (94, .v (.int .i64 x2)), (100, .sl .sRegion x3), (101, .v (.int .i64 x4)), (102, .v (.int .i64 x0))] 133 0, [.cells 184 [.v (.int .i64 0), .v (.int .i64 0), .v (.int .i64 0)], .cells 118 [.v (.int .i64 ((atRegion ((atPartition c.partitions p.toNat).regions) k.toNat).page)), .v (.int .i64 ((atRegion ((atPartition c.partitions p.toNat).regions) k.toNat).pages)), .v (.int .i64 ((atRegion ((atPartition c.partitions p.toNat).regions) k.toNat).frame)), .v (.int .i64 ((atRegion ((atPartition c.partitions p.toNat).regions) k.toNat).rights))]], GL, 0, [], nodp⟩
noncomputable def bod162 {R : Type} (ret : R162 → R) (c : Config) (p : Int) (k : Int) (j : L162 → Option R) : L162 → Option R
  | .l0 x0 => cond (decide ((x0 : Int) < ((((atPartition c.partitions p.toNat).regions).take k.toNat).drop 0).length))
    (cond (inR x0 ((((atPartition c.partitions p.toNat).regions).take k.toNat).drop 0).length) (
      cond (sp167 ((atRegion ((atPartition c.partitions p.toNat).regions) k.toNat).page) ((atRegion ((atPartition c.partitions p.toNat).regions) k.toNat).pages) ((atRegion ((((atPartition c.partitions p.toNat).regions).take k.toNat).drop 0) x0.toNat).page) ((atRegion ((((atPartition c.partitions p.toNat).regions).take k.toNat).drop 0) x0.toNat).pages))
        (some (ret (⟨410, (⟨(sp164 p k).first, (sp164 p k).second⟩ : Where)⟩ : AdmitFound)))
        (j (.l0 (IntKind.i64.wrap (x0 + 1))))) none)
    (cond (inS 0 (IntKind.i64.wrap (p + 1)) c.partitions.length) (j (.l4 0)) none)
  | .l4 x0 => cond (decide ((x0 : Int) < ((c.partitions.take (IntKind.i64.wrap (p + 1)).toNat).drop 0).length))
    (cond (inR x0 ((c.partitions.take (IntKind.i64.wrap (p + 1)).toNat).drop 0).length) (
      j (.l8 x0 x0 ((atPartition ((c.partitions.take (IntKind.i64.wrap (p + 1)).toNat).drop 0) x0.toNat).regions) (((atPartition ((c.partitions.take (IntKind.i64.wrap (p + 1)).toNat).drop 0) x0.toNat).regions).length) 0)) none)
    (some (ret fine))
  | .l8 x1 x2 x3 x4 x0 => cond (decide ((x0 : Int) < x4))
    (cond (inR x0 x3.length) (
      cond (decide ((x1 : Int) < p))
        (cond (sp167 ((atRegion ((atPartition c.partitions p.toNat).regions) k.toNat).frame) ((atRegion ((atPartition c.partitions p.toNat).regions) k.toNat).pages) ((atRegion x3 x0.toNat).frame) ((atRegion x3 x0.toNat).pages))
          (some (ret (⟨411, (⟨(sp164 p k).first, (sp164 p k).second⟩ : Where)⟩ : AdmitFound)))
          (j (.l8 x1 x2 x3 x4 (IntKind.i64.wrap (x0 + 1)))))
        (cond (decide ((x0 : Int) < k))
          (cond (sp167 ((atRegion ((atPartition c.partitions p.toNat).regions) k.toNat).frame) ((atRegion ((atPartition c.partitions p.toNat).regions) k.toNat).pages) ((atRegion x3 x0.toNat).frame) ((atRegion x3 x0.toNat).pages))
            (some (ret (⟨411, (⟨(sp164 p k).first, (sp164 p k).second⟩ : Where)⟩ : AdmitFound)))
            (j (.l8 x1 x2 x3 x4 (IntKind.i64.wrap (x0 + 1)))))
          (j (.l8 x1 x2 x3 x4 (IntKind.i64.wrap (x0 + 1)))))) none)
    (j (.l4 (IntKind.i64.wrap (x2 + 1))))
noncomputable def ent162 {R : Type} (ret : R162 → R) (c : Config) (p : Int) (k : Int) (j : L162 → Option R) : Option R :=
    cond (inR p c.partitions.length) (
    cond (inR k ((atPartition c.partitions p.toNat).regions).length) (
      cond (!(sp132 ((atRegion ((atPartition c.partitions p.toNat).regions) k.toNat).page) 0 255))
        (some (ret (⟨409, (⟨(sp164 p k).first, (sp164 p k).second⟩ : Where)⟩ : AdmitFound)))
        (cond (!(sp132 ((atRegion ((atPartition c.partitions p.toNat).regions) k.toNat).pages) 1 (IntKind.i64.wrap (256 - (atRegion ((atPartition c.partitions p.toNat).regions) k.toNat).page))))
          (some (ret (⟨409, (⟨(sp164 p k).first, (sp164 p k).second⟩ : Where)⟩ : AdmitFound)))
          (cond (decide (((atRegion ((atPartition c.partitions p.toNat).regions) k.toNat).frame : Int) < 0))
            (some (ret (⟨409, (⟨(sp164 p k).first, (sp164 p k).second⟩ : Where)⟩ : AdmitFound)))
            (cond (decide (((atRegion ((atPartition c.partitions p.toNat).regions) k.toNat).pages : Int) > (IntKind.i64.wrap (c.frames - (atRegion ((atPartition c.partitions p.toNat).regions) k.toNat).frame))))
              (some (ret (⟨409, (⟨(sp164 p k).first, (sp164 p k).second⟩ : Where)⟩ : AdmitFound)))
              (cond (!(sp132 ((atRegion ((atPartition c.partitions p.toNat).regions) k.toNat).rights) 1 7))
                (some (ret (⟨409, (⟨(sp164 p k).first, (sp164 p k).second⟩ : Where)⟩ : AdmitFound)))
                (cond (inR p c.partitions.length) (cond (inS 0 k ((atPartition c.partitions p.toNat).regions).length) (j (.l0 0)) none) none)))))) none) none
theorem head162_0 (J : Jmp) (c : Config) (p : Int) (k : Int) (x0 : Int) : stepAt Pr GB H162 J 0 0 (bodyOf Tryz.f162) (fin Pr H162 Tryz.f162) (st162 c p k (.l0 x0)) = bod162 to162 c p k (fun l => J (num162 l) (st162 c p k l)) (.l0 x0) := by kernel_rfl
theorem head162_4 (J : Jmp) (c : Config) (p : Int) (k : Int) (x0 : Int) : stepAt Pr GB H162 J 4 0 (bodyOf Tryz.f162) (fin Pr H162 Tryz.f162) (st162 c p k (.l4 x0)) = bod162 to162 c p k (fun l => J (num162 l) (st162 c p k l)) (.l4 x0) := by kernel_rfl
theorem head162_8 (J : Jmp) (c : Config) (p : Int) (k : Int) (x1 : Int) (x2 : Int) (x3 : List Region) (x4 : Int) (x0 : Int) : stepAt Pr GB H162 J 8 0 (bodyOf Tryz.f162) (fin Pr H162 Tryz.f162) (st162 c p k (.l8 x1 x2 x3 x4 x0)) = bod162 to162 c p k (fun l => J (num162 l) (st162 c p k l)) (.l8 x1 x2 x3 x4 x0) := by kernel_rfl
theorem run162 (J : Jmp) (c : Config) (p : Int) (k : Int) : runF Pr GB H162 J GL Tryz.f162 [(aCfg c), .v (.int .i64 p), .v (.int .i64 k)] [] = ent162 to162 c p k (fun l => J (num162 l) (st162 c p k l)) := by kernel_rfl
theorem shad162 (c : Config) (p : Int) (k : Int) : ∀ (n : Nat) (l : L162), runL Pr GB H162 Tryz.f162 n (num162 l) (st162 c p k l) = shad (bod162 to162 c p k) n l
  | 0, l => by cases l <;> rfl
  | n + 1, l => by
    have ih : (fun l => runL Pr GB H162 Tryz.f162 n (num162 l) (st162 c p k l)) = shad (bod162 to162 c p k) n := funext (shad162 c p k n)
    cases l with
    | l0 x0 => exact (step_eq ..).trans ((head162_0 ..).trans (by rw [ih]; rfl))
    | l4 x0 => exact (step_eq ..).trans ((head162_4 ..).trans (by rw [ih]; rfl))
    | l8 x1 x2 x3 x4 x0 => exact (step_eq ..).trans ((head162_8 ..).trans (by rw [ih]; rfl))
theorem nat162 (c : Config) (p : Int) (k : Int) (s : L162 → Option R162) (l : L162) : bod162 to162 c p k (fun l => (s l).map to162) l = (bod162 id c p k s l).map to162 := by
  cases l <;> simp only [bod162, map_cond, Option.map_some, Option.map_none, id]
theorem ct162 (c : Config) (p : Int) (k : Int) (l : L162) : CT fun j => bod162 id c p k j l := by
  cases l <;> (dsimp only [bod162]; repeat (first | exact CT.jump _ | exact CT.const _ | apply CT.cond))
noncomputable def spL162 (c : Config) (p : Int) (k : Int) : L162 → Option R162 := lfp (bod162 id c p k)
theorem spL162_eq (c : Config) (p : Int) (k : Int) (l : L162) : spL162 c p k l = bod162 id c p k (spL162 c p k) l := lfp_eq (ct162 c p k) l
noncomputable def spO162 (c : Config) (p : Int) (k : Int) : Option R162 := ent162 id c p k (spL162 c p k)
noncomputable def sp162 (c : Config) (p : Int) (k : Int) : R162 := (spO162 c p k).getD default
noncomputable def spc162 (c : Config) (p : Int) (k : Int) : Bool := (spO162 c p k).isSome
theorem oks162 (c : Config) (p : Int) (k : Int) (hc : spc162 c p k = true) : Okay Pr GL 162 [(aCfg c), .v (.int .i64 p), .v (.int .i64 k)] [] (to162 (sp162 c p k)) := by
  obtain ⟨n, h⟩ := auto_ok (nat162 c p k) (fun s => show ent162 to162 c p k (fun l => (s l).map to162) = (ent162 id c p k s).map to162 by simp only [ent162, map_cond, Option.map_some, Option.map_none, id]) (ct162 c p k) (show CT fun j => ent162 id c p k j by dsimp only [ent162]; repeat (first | exact CT.jump _ | exact CT.const _ | apply CT.cond)) (isSome_getD hc)
  exact okay_of_run (H := H162) GBok G0ok Tryz.func162 rfl (by kernel_rfl) n (by
    rw [run162]
    rw [show (fun l => runL Pr GB H162 Tryz.f162 n (num162 l) (st162 c p k l)) = shad (bod162 to162 c p k) n from funext (shad162 c p k n)]
    exact h)

/-! ### admit.runs -/
abbrev R163 := Bool
def to163 (r : R163) : Ans := ⟨.v (.bool r), []⟩
inductive L163 where
  | l0 (x0 : Int)
def num163 : L163 → Nat
  | .l0 _ => 0
def H163 : Hint := ⟨fun n => [].any (Nat.beq n), hdAt [(0, ⟨fgt [1, 6, 7, 8] 31 0, []⟩)], [], G0, nodp⟩
noncomputable def st163 (x : Partition) : L163 → St
  | .l0 x0 => ⟨mkE [(1, .ref 0 0), (6, .sl .sRegion x.regions), (7, .v (.int .i64 x.regions.length)), (8, .v (.int .i64 x0))] 31 0, [.cells 70 [.v (.string x.name), .v (.int .i64 x.entry), .v (.int .i64 x.action), .v (.int .i64 x.restarts), .v (.int .i64 x.inputs), .v (.int .i64 x.outputs), .sl .sRegion x.regions, .sl .sPort x.ports]], GL, 0, [], nodp⟩
noncomputable def bod163 {R : Type} (ret : R163 → R) (x : Partition) (j : L163 → Option R) : L163 → Option R
  | .l0 x0 => cond (decide ((x0 : Int) < x.regions.length))
    (cond (inR x0 x.regions.length) (
      cond (sp132 (bop .quo .i64 x.entry 16) ((atRegion x.regions x0.toNat).page) (IntKind.i64.wrap ((IntKind.i64.wrap ((atRegion x.regions x0.toNat).page + (atRegion x.regions x0.toNat).pages)) - 1)))
        (cond (!(((bop .and .i64 ((atRegion x.regions x0.toNat).rights) 4) : Int) == 0))
          (some (ret true))
          (j (.l0 (IntKind.i64.wrap (x0 + 1)))))
        (j (.l0 (IntKind.i64.wrap (x0 + 1))))) none)
    (some (ret false))
noncomputable def ent163 {R : Type} (ret : R163 → R) (x : Partition) (j : L163 → Option R) : Option R :=
    j (.l0 0)
theorem head163_0 (J : Jmp) (x : Partition) (x0 : Int) : stepAt Pr GB H163 J 0 0 (bodyOf Tryz.f163) (fin Pr H163 Tryz.f163) (st163 x (.l0 x0)) = bod163 to163 x (fun l => J (num163 l) (st163 x l)) (.l0 x0) := by kernel_rfl
theorem run163 (J : Jmp) (x : Partition) : runF Pr GB H163 J GL Tryz.f163 [.agg [.v (.string x.name), .v (.int .i64 x.entry), .v (.int .i64 x.action), .v (.int .i64 x.restarts), .v (.int .i64 x.inputs), .v (.int .i64 x.outputs), .sl .sRegion x.regions, .sl .sPort x.ports]] [] = ent163 to163 x (fun l => J (num163 l) (st163 x l)) := by kernel_rfl
theorem shad163 (x : Partition) : ∀ (n : Nat) (l : L163), runL Pr GB H163 Tryz.f163 n (num163 l) (st163 x l) = shad (bod163 to163 x) n l
  | 0, l => by cases l <;> rfl
  | n + 1, l => by
    have ih : (fun l => runL Pr GB H163 Tryz.f163 n (num163 l) (st163 x l)) = shad (bod163 to163 x) n := funext (shad163 x n)
    cases l with
    | l0 x0 => exact (step_eq ..).trans ((head163_0 ..).trans (by rw [ih]; rfl))
theorem nat163 (x : Partition) (s : L163 → Option R163) (l : L163) : bod163 to163 x (fun l => (s l).map to163) l = (bod163 id x s l).map to163 := by
  cases l <;> simp only [bod163, map_cond, Option.map_some, Option.map_none, id]
theorem ct163 (x : Partition) (l : L163) : CT fun j => bod163 id x j l := by
  cases l <;> (dsimp only [bod163]; repeat (first | exact CT.jump _ | exact CT.const _ | apply CT.cond))
noncomputable def spL163 (x : Partition) : L163 → Option R163 := lfp (bod163 id x)
theorem spL163_eq (x : Partition) (l : L163) : spL163 x l = bod163 id x (spL163 x) l := lfp_eq (ct163 x) l
noncomputable def spO163 (x : Partition) : Option R163 := ent163 id x (spL163 x)
noncomputable def sp163 (x : Partition) : R163 := (spO163 x).getD default
noncomputable def spc163 (x : Partition) : Bool := (spO163 x).isSome
theorem oks163 (x : Partition) (hc : spc163 x = true) : Okay Pr GL 163 [.agg [.v (.string x.name), .v (.int .i64 x.entry), .v (.int .i64 x.action), .v (.int .i64 x.restarts), .v (.int .i64 x.inputs), .v (.int .i64 x.outputs), .sl .sRegion x.regions, .sl .sPort x.ports]] [] (to163 (sp163 x)) := by
  obtain ⟨n, h⟩ := auto_ok (nat163 x) (fun s => show ent163 to163 x (fun l => (s l).map to163) = (ent163 id x s).map to163 by simp only [ent163, map_cond, Option.map_some, Option.map_none, id]) (ct163 x) (show CT fun j => ent163 id x j by dsimp only [ent163]; repeat (first | exact CT.jump _ | exact CT.const _ | apply CT.cond)) (isSome_getD hc)
  exact okay_of_run (H := H163) GBok G0ok Tryz.func163 rfl (by kernel_rfl) n (by
    rw [run163]
    rw [show (fun l => runL Pr GB H163 Tryz.f163 n (num163 l) (st163 x l)) = shad (bod163 to163 x) n from funext (shad163 x n)]
    exact h)

/-! ### (layout.size).ofStage -/
abbrev R145 := Int
def to145 (r : R145) : Ans := ⟨.v (.int .i64 r), []⟩
def H145 : Hint := ⟨fun _ => false, fun _ => ⟨[], []⟩, [], G0, nodp⟩
noncomputable def ent145 {R : Type} (ret : R145 → R) (s_0 : LayoutSize) : Option R :=
    some (ret (sp71 s_0.channel))
theorem run145 (J : Jmp) (s_0 : LayoutSize) : runF Pr GB H145 J GL Tryz.f145 [.agg [.v (.int .i64 s_0.channel.kind), .v (.int .i64 s_0.channel.words), .v (.int .i64 s_0.channel.depth)]] [] = ent145 to145 s_0 := by kernel_rfl
noncomputable def spO145 (s_0 : LayoutSize) : Option R145 := ent145 id s_0
noncomputable def sp145 (s_0 : LayoutSize) : R145 := (spO145 s_0).getD default
theorem some145 (s_0 : LayoutSize) : spO145 s_0 = some (sp145 s_0) := isSome_getD (show (spO145 s_0).isSome = true by simp only [spO145, ent145, isSome_cond, Option.isSome_some, cond_self])
theorem oks145 (s_0 : LayoutSize) : Okay Pr GL 145 [.agg [.v (.int .i64 s_0.channel.kind), .v (.int .i64 s_0.channel.words), .v (.int .i64 s_0.channel.depth)]] [] (to145 (sp145 s_0)) :=
  okay_of_run (H := H145) GBok G0ok Tryz.func145 rfl (by kernel_rfl) 0 ((run145 (runL Pr GB H145 Tryz.f145 0) s_0).trans (auto_ok0 (show ent145 to145 s_0 = (ent145 id s_0).map to145 by simp only [ent145, map_cond, Option.map_some, Option.map_none, id]) (some145 s_0)))

/-! ### (*mem.Memory).unlike -/
abbrev R52 := Bool
def to52 (r : R52) : Ans := ⟨.v (.bool r), []⟩
def H52 : Hint := ⟨fun _ => false, fun _ => ⟨[], []⟩, [], G0, nodp⟩
noncomputable def ent52 {R : Type} (ret : R52 → R) (m : (Option MemMemory)) (o : (Option MemMemory)) (at_2 : Int) : Option R :=
    cond (spc86 m at_2) (
    cond (spc86 o at_2) (
      cond (!(((sp86 m at_2).1 : Int) == (sp86 o at_2).1))
        (some (ret true))
        (some (ret (!(((sp86 m at_2).2 : Int) == (sp86 o at_2).2))))) none) none
theorem run52 (J : Jmp) (m : (Option MemMemory)) (o : (Option MemMemory)) (at_2 : Int) : runF Pr GB H52 J GL Tryz.f52 [.op .sMemMemory m, .op .sMemMemory o, .v (.int .i64 at_2)] [] = ent52 to52 m o at_2 := by kernel_rfl
noncomputable def spO52 (m : (Option MemMemory)) (o : (Option MemMemory)) (at_2 : Int) : Option R52 := ent52 id m o at_2
noncomputable def sp52 (m : (Option MemMemory)) (o : (Option MemMemory)) (at_2 : Int) : R52 := (spO52 m o at_2).getD default
noncomputable def spc52 (m : (Option MemMemory)) (o : (Option MemMemory)) (at_2 : Int) : Bool := (spO52 m o at_2).isSome
theorem oks52 (m : (Option MemMemory)) (o : (Option MemMemory)) (at_2 : Int) (hc : spc52 m o at_2 = true) : Okay Pr GL 52 [.op .sMemMemory m, .op .sMemMemory o, .v (.int .i64 at_2)] [] (to52 (sp52 m o at_2)) :=
  okay_of_run (H := H52) GBok G0ok Tryz.func52 rfl (by kernel_rfl) 0 ((run52 (runL Pr GB H52 Tryz.f52 0) m o at_2).trans (auto_ok0 (show ent52 to52 m o at_2 = (ent52 id m o at_2).map to52 by simp only [ent52, map_cond, Option.map_some, Option.map_none, id]) (isSome_getD hc)))

noncomputable def g17 (args : List AV) (hp : List Blk) : Option (Bool × AV × List Blk) :=
  match hp, args with
  | [], [x0, x1] => (rdS .sConfig x0).bind fun a0 => (rdS .sConfig x1).bind fun a1 => some ((spc17 a0 a1), .v (.bool (sp17 a0 a1)), [])
  | _, _ => none
theorem g17_ok {args : List AV} {hp : List Blk} {b : Bool} {r : AV} {hp' : List Blk} (h : g17 args hp = some (b, r, hp')) (hb : b = true) : FnOk Pr 17 ∧ Okay Pr GL 17 args hp ⟨r, hp'⟩ := by
  unfold g17 at h
  split at h
  · simp only [Option.bind_eq_some_iff] at h
    obtain ⟨a0, h0, a1, h1, h⟩ := h
    cases h; exact ⟨fnok Tryz.func17 (by kernel_rfl) rfl, (oks17 a0 a1 hb).ats (.cons (rdS_V h0) (.cons (rdS_V h1) .nil))⟩
  · cases h
noncomputable def g56 (args : List AV) (hp : List Blk) : Option (Bool × AV × List Blk) :=
  match hp, args with
  | [], [x0] => (rdS .sConfig x0).bind fun a0 => some (true, .v (.int .i64 (sp56 a0)), [])
  | _, _ => none
theorem g56_ok {args : List AV} {hp : List Blk} {b : Bool} {r : AV} {hp' : List Blk} (h : g56 args hp = some (b, r, hp')) (hb : b = true) : FnOk Pr 56 ∧ Okay Pr GL 56 args hp ⟨r, hp'⟩ := by
  unfold g56 at h
  split at h
  · simp only [Option.bind_eq_some_iff] at h
    obtain ⟨a0, h0, h⟩ := h
    cases h; exact ⟨fnok Tryz.func56 (by kernel_rfl) rfl, (oks56 a0).ats (.cons (rdS_V h0) .nil)⟩
  · cases h
noncomputable def g59 (args : List AV) (hp : List Blk) : Option (Bool × AV × List Blk) :=
  match hp, args with
  | [], [x0, x1] => (rdS .sConfig x0).bind fun a0 => (rdL (.i .i64) x1).bind fun a1 => some ((spc59 a0 a1), .v (.int .i64 (sp59 a0 a1)), [])
  | _, _ => none
theorem g59_ok {args : List AV} {hp : List Blk} {b : Bool} {r : AV} {hp' : List Blk} (h : g59 args hp = some (b, r, hp')) (hb : b = true) : FnOk Pr 59 ∧ Okay Pr GL 59 args hp ⟨r, hp'⟩ := by
  unfold g59 at h
  split at h
  · simp only [Option.bind_eq_some_iff] at h
    obtain ⟨a0, h0, a1, h1, h⟩ := h
    cases h; exact ⟨fnok Tryz.func59 (by kernel_rfl) rfl, (oks59 a0 a1 hb).ats (.cons (rdS_V h0) (.cons (rdL_V h1) .nil))⟩
  · cases h
noncomputable def g61 (args : List AV) (hp : List Blk) : Option (Bool × AV × List Blk) :=
  match hp, args with
  | [], [x0, x1] => (rdS .sConfig x0).bind fun a0 => (rdL (.i .i64) x1).bind fun a1 => some ((spc61 a0 a1), .tup [.v (.int .i64 ((sp61 a0 a1).1)), .agg [.v (.int .i64 ((sp61 a0 a1).2.first)), .v (.int .i64 ((sp61 a0 a1).2.second))]], [])
  | _, _ => none
theorem g61_ok {args : List AV} {hp : List Blk} {b : Bool} {r : AV} {hp' : List Blk} (h : g61 args hp = some (b, r, hp')) (hb : b = true) : FnOk Pr 61 ∧ Okay Pr GL 61 args hp ⟨r, hp'⟩ := by
  unfold g61 at h
  split at h
  · simp only [Option.bind_eq_some_iff] at h
    obtain ⟨a0, h0, a1, h1, h⟩ := h
    cases h; exact ⟨fnok Tryz.func61 (by kernel_rfl) rfl, (oks61 a0 a1 hb).ats (.cons (rdS_V h0) (.cons (rdL_V h1) .nil))⟩
  · cases h
noncomputable def g100 (args : List AV) (hp : List Blk) : Option (Bool × AV × List Blk) :=
  match hp, args with
  | [], [x0, x1] => (rdS .sConfig x0).bind fun a0 => (rdL (.i .i64) x1).bind fun a1 => some ((spc100 a0 a1), .v (.bool (sp100 a0 a1)), [])
  | _, _ => none
theorem g100_ok {args : List AV} {hp : List Blk} {b : Bool} {r : AV} {hp' : List Blk} (h : g100 args hp = some (b, r, hp')) (hb : b = true) : FnOk Pr 100 ∧ Okay Pr GL 100 args hp ⟨r, hp'⟩ := by
  unfold g100 at h
  split at h
  · simp only [Option.bind_eq_some_iff] at h
    obtain ⟨a0, h0, a1, h1, h⟩ := h
    cases h; exact ⟨fnok Tryz.func100 (by kernel_rfl) rfl, (oks100 a0 a1 hb).ats (.cons (rdS_V h0) (.cons (rdL_V h1) .nil))⟩
  · cases h
noncomputable def g102 (args : List AV) (hp : List Blk) : Option (Bool × AV × List Blk) :=
  match hp, args with
  | [], [x0] => (rdS .sPartition x0).bind fun a0 => some ((spc102 a0), .v (.bool (sp102 a0)), [])
  | _, _ => none
theorem g102_ok {args : List AV} {hp : List Blk} {b : Bool} {r : AV} {hp' : List Blk} (h : g102 args hp = some (b, r, hp')) (hb : b = true) : FnOk Pr 102 ∧ Okay Pr GL 102 args hp ⟨r, hp'⟩ := by
  unfold g102 at h
  split at h
  · simp only [Option.bind_eq_some_iff] at h
    obtain ⟨a0, h0, h⟩ := h
    cases h; exact ⟨fnok Tryz.func102 (by kernel_rfl) rfl, (oks102 a0 hb).ats (.cons (rdS_V h0) .nil)⟩
  · cases h
noncomputable def g148 (args : List AV) (hp : List Blk) : Option (Bool × AV × List Blk) :=
  match hp, args with
  | [], [x0, x1] => (rdS .sConfig x0).bind fun a0 => (rdS .sRegion x1).bind fun a1 => some (true, .v (.bool (sp148 a0 a1)), [])
  | _, _ => none
theorem g148_ok {args : List AV} {hp : List Blk} {b : Bool} {r : AV} {hp' : List Blk} (h : g148 args hp = some (b, r, hp')) (hb : b = true) : FnOk Pr 148 ∧ Okay Pr GL 148 args hp ⟨r, hp'⟩ := by
  unfold g148 at h
  split at h
  · simp only [Option.bind_eq_some_iff] at h
    obtain ⟨a0, h0, a1, h1, h⟩ := h
    cases h; exact ⟨fnok Tryz.func148 (by kernel_rfl) rfl, (oks148 a0 a1).ats (.cons (rdS_V h0) (.cons (rdS_V h1) .nil))⟩
  · cases h
noncomputable def g91 (args : List AV) (hp : List Blk) : Option (Bool × AV × List Blk) :=
  match hp, args with
  | [], [x0] => (rdS .sChannel x0).bind fun a0 => some (true, .v (.int .i64 (sp91 a0)), [])
  | _, _ => none
theorem g91_ok {args : List AV} {hp : List Blk} {b : Bool} {r : AV} {hp' : List Blk} (h : g91 args hp = some (b, r, hp')) (hb : b = true) : FnOk Pr 91 ∧ Okay Pr GL 91 args hp ⟨r, hp'⟩ := by
  unfold g91 at h
  split at h
  · simp only [Option.bind_eq_some_iff] at h
    obtain ⟨a0, h0, h⟩ := h
    cases h; exact ⟨fnok Tryz.func91 (by kernel_rfl) rfl, (oks91 a0).ats (.cons (rdS_V h0) .nil)⟩
  · cases h
noncomputable def g93 (args : List AV) (hp : List Blk) : Option (Bool × AV × List Blk) :=
  match hp, args with
  | [], [x0] => (rdS .sChannel x0).bind fun a0 => some (true, .v (.int .i64 (sp93 a0)), [])
  | _, _ => none
theorem g93_ok {args : List AV} {hp : List Blk} {b : Bool} {r : AV} {hp' : List Blk} (h : g93 args hp = some (b, r, hp')) (hb : b = true) : FnOk Pr 93 ∧ Okay Pr GL 93 args hp ⟨r, hp'⟩ := by
  unfold g93 at h
  split at h
  · simp only [Option.bind_eq_some_iff] at h
    obtain ⟨a0, h0, h⟩ := h
    cases h; exact ⟨fnok Tryz.func93 (by kernel_rfl) rfl, (oks93 a0).ats (.cons (rdS_V h0) .nil)⟩
  · cases h
noncomputable def g130 (args : List AV) (hp : List Blk) : Option (Bool × AV × List Blk) :=
  match hp, args with
  | [], [x0] => (rdP .sConfig x0).bind fun a0 => some (true, .agg [.v (.int .i64 ((sp130 a0).e)), .v (.int .i64 ((sp130 a0).where_.first)), .v (.int .i64 ((sp130 a0).where_.second))], [])
  | _, _ => none
theorem g130_ok {args : List AV} {hp : List Blk} {b : Bool} {r : AV} {hp' : List Blk} (h : g130 args hp = some (b, r, hp')) (hb : b = true) : FnOk Pr 130 ∧ Okay Pr GL 130 args hp ⟨r, hp'⟩ := by
  unfold g130 at h
  split at h
  · simp only [Option.bind_eq_some_iff] at h
    obtain ⟨a0, h0, h⟩ := h
    cases h; exact ⟨fnok Tryz.func130 (by kernel_rfl) rfl, (oks130 a0).ats (.cons (rdP_V h0) .nil)⟩
  · cases h
noncomputable def g133 (args : List AV) (hp : List Blk) : Option (Bool × AV × List Blk) :=
  match hp, args with
  | [], [x0] => (rdP .sConfig x0).bind fun a0 => some (true, .agg [.v (.int .i64 ((sp133 a0).e)), .v (.int .i64 ((sp133 a0).where_.first)), .v (.int .i64 ((sp133 a0).where_.second))], [])
  | _, _ => none
theorem g133_ok {args : List AV} {hp : List Blk} {b : Bool} {r : AV} {hp' : List Blk} (h : g133 args hp = some (b, r, hp')) (hb : b = true) : FnOk Pr 133 ∧ Okay Pr GL 133 args hp ⟨r, hp'⟩ := by
  unfold g133 at h
  split at h
  · simp only [Option.bind_eq_some_iff] at h
    obtain ⟨a0, h0, h⟩ := h
    cases h; exact ⟨fnok Tryz.func133 (by kernel_rfl) rfl, (oks133 a0).ats (.cons (rdP_V h0) .nil)⟩
  · cases h
noncomputable def g134 (args : List AV) (hp : List Blk) : Option (Bool × AV × List Blk) :=
  match hp, args with
  | [], [x0] => (rdP .sConfig x0).bind fun a0 => some (true, .agg [.v (.int .i64 ((sp134 a0).e)), .v (.int .i64 ((sp134 a0).where_.first)), .v (.int .i64 ((sp134 a0).where_.second))], [])
  | _, _ => none
theorem g134_ok {args : List AV} {hp : List Blk} {b : Bool} {r : AV} {hp' : List Blk} (h : g134 args hp = some (b, r, hp')) (hb : b = true) : FnOk Pr 134 ∧ Okay Pr GL 134 args hp ⟨r, hp'⟩ := by
  unfold g134 at h
  split at h
  · simp only [Option.bind_eq_some_iff] at h
    obtain ⟨a0, h0, h⟩ := h
    cases h; exact ⟨fnok Tryz.func134 (by kernel_rfl) rfl, (oks134 a0).ats (.cons (rdP_V h0) .nil)⟩
  · cases h
noncomputable def g135 (args : List AV) (hp : List Blk) : Option (Bool × AV × List Blk) :=
  match hp, args with
  | [], [x0] => (rdP .sConfig x0).bind fun a0 => some (true, .agg [.v (.int .i64 ((sp135 a0).e)), .v (.int .i64 ((sp135 a0).where_.first)), .v (.int .i64 ((sp135 a0).where_.second))], [])
  | _, _ => none
theorem g135_ok {args : List AV} {hp : List Blk} {b : Bool} {r : AV} {hp' : List Blk} (h : g135 args hp = some (b, r, hp')) (hb : b = true) : FnOk Pr 135 ∧ Okay Pr GL 135 args hp ⟨r, hp'⟩ := by
  unfold g135 at h
  split at h
  · simp only [Option.bind_eq_some_iff] at h
    obtain ⟨a0, h0, h⟩ := h
    cases h; exact ⟨fnok Tryz.func135 (by kernel_rfl) rfl, (oks135 a0).ats (.cons (rdP_V h0) .nil)⟩
  · cases h
noncomputable def g136 (args : List AV) (hp : List Blk) : Option (Bool × AV × List Blk) :=
  match hp, args with
  | [], [x0] => (rdP .sConfig x0).bind fun a0 => some (true, .agg [.v (.int .i64 ((sp136 a0).e)), .v (.int .i64 ((sp136 a0).where_.first)), .v (.int .i64 ((sp136 a0).where_.second))], [])
  | _, _ => none
theorem g136_ok {args : List AV} {hp : List Blk} {b : Bool} {r : AV} {hp' : List Blk} (h : g136 args hp = some (b, r, hp')) (hb : b = true) : FnOk Pr 136 ∧ Okay Pr GL 136 args hp ⟨r, hp'⟩ := by
  unfold g136 at h
  split at h
  · simp only [Option.bind_eq_some_iff] at h
    obtain ⟨a0, h0, h⟩ := h
    cases h; exact ⟨fnok Tryz.func136 (by kernel_rfl) rfl, (oks136 a0).ats (.cons (rdP_V h0) .nil)⟩
  · cases h
noncomputable def g140 (args : List AV) (hp : List Blk) : Option (Bool × AV × List Blk) :=
  match hp, args with
  | [], [x0, x1] => (rdS .sConfig x0).bind fun a0 => (rdL (.i .i64) x1).bind fun a1 => some ((spc140 a0 a1), .agg [.v (.int .i64 ((sp140 a0 a1).e)), .v (.int .i64 ((sp140 a0 a1).where_.first)), .v (.int .i64 ((sp140 a0 a1).where_.second))], [])
  | _, _ => none
theorem g140_ok {args : List AV} {hp : List Blk} {b : Bool} {r : AV} {hp' : List Blk} (h : g140 args hp = some (b, r, hp')) (hb : b = true) : FnOk Pr 140 ∧ Okay Pr GL 140 args hp ⟨r, hp'⟩ := by
  unfold g140 at h
  split at h
  · simp only [Option.bind_eq_some_iff] at h
    obtain ⟨a0, h0, a1, h1, h⟩ := h
    cases h; exact ⟨fnok Tryz.func140 (by kernel_rfl) rfl, (oks140 a0 a1 hb).ats (.cons (rdS_V h0) (.cons (rdL_V h1) .nil))⟩
  · cases h
noncomputable def g142 (args : List AV) (hp : List Blk) : Option (Bool × AV × List Blk) :=
  match hp, args with
  | [], [x0, x1] => (rdS .sConfig x0).bind fun a0 => (rdL (.i .i64) x1).bind fun a1 => some ((spc142 a0 a1), .agg [.v (.int .i64 ((sp142 a0 a1).e)), .v (.int .i64 ((sp142 a0 a1).where_.first)), .v (.int .i64 ((sp142 a0 a1).where_.second))], [])
  | _, _ => none
theorem g142_ok {args : List AV} {hp : List Blk} {b : Bool} {r : AV} {hp' : List Blk} (h : g142 args hp = some (b, r, hp')) (hb : b = true) : FnOk Pr 142 ∧ Okay Pr GL 142 args hp ⟨r, hp'⟩ := by
  unfold g142 at h
  split at h
  · simp only [Option.bind_eq_some_iff] at h
    obtain ⟨a0, h0, a1, h1, h⟩ := h
    cases h; exact ⟨fnok Tryz.func142 (by kernel_rfl) rfl, (oks142 a0 a1 hb).ats (.cons (rdS_V h0) (.cons (rdL_V h1) .nil))⟩
  · cases h
noncomputable def g68 (args : List AV) (hp : List Blk) : Option (Bool × AV × List Blk) :=
  match hp, args with
  | [], [x0] => (rdS .sConfig x0).bind fun a0 => some ((spc68 a0), .v (.bool (sp68 a0)), [])
  | _, _ => none
theorem g68_ok {args : List AV} {hp : List Blk} {b : Bool} {r : AV} {hp' : List Blk} (h : g68 args hp = some (b, r, hp')) (hb : b = true) : FnOk Pr 68 ∧ Okay Pr GL 68 args hp ⟨r, hp'⟩ := by
  unfold g68 at h
  split at h
  · simp only [Option.bind_eq_some_iff] at h
    obtain ⟨a0, h0, h⟩ := h
    cases h; exact ⟨fnok Tryz.func68 (by kernel_rfl) rfl, (oks68 a0 hb).ats (.cons (rdS_V h0) .nil)⟩
  · cases h
noncomputable def g72 (args : List AV) (hp : List Blk) : Option (Bool × AV × List Blk) :=
  match hp, args with
  | [], [x0] => (rdS .sChannel x0).bind fun a0 => some (true, .v (.int .i64 (sp72 a0)), [])
  | _, _ => none
theorem g72_ok {args : List AV} {hp : List Blk} {b : Bool} {r : AV} {hp' : List Blk} (h : g72 args hp = some (b, r, hp')) (hb : b = true) : FnOk Pr 72 ∧ Okay Pr GL 72 args hp ⟨r, hp'⟩ := by
  unfold g72 at h
  split at h
  · simp only [Option.bind_eq_some_iff] at h
    obtain ⟨a0, h0, h⟩ := h
    cases h; exact ⟨fnok Tryz.func72 (by kernel_rfl) rfl, (oks72 a0).ats (.cons (rdS_V h0) .nil)⟩
  · cases h
noncomputable def g160 (args : List AV) (hp : List Blk) : Option (Bool × AV × List Blk) :=
  match hp, args with
  | [], [x0, x1] => (rdS .sConfig x0).bind fun a0 => (rdL (.i .i64) x1).bind fun a1 => some ((spc160 a0 a1), .v (.bool (sp160 a0 a1)), [])
  | _, _ => none
theorem g160_ok {args : List AV} {hp : List Blk} {b : Bool} {r : AV} {hp' : List Blk} (h : g160 args hp = some (b, r, hp')) (hb : b = true) : FnOk Pr 160 ∧ Okay Pr GL 160 args hp ⟨r, hp'⟩ := by
  unfold g160 at h
  split at h
  · simp only [Option.bind_eq_some_iff] at h
    obtain ⟨a0, h0, a1, h1, h⟩ := h
    cases h; exact ⟨fnok Tryz.func160 (by kernel_rfl) rfl, (oks160 a0 a1 hb).ats (.cons (rdS_V h0) (.cons (rdL_V h1) .nil))⟩
  · cases h
noncomputable def g162 (args : List AV) (hp : List Blk) : Option (Bool × AV × List Blk) :=
  match hp, args with
  | [], [x0, x1, x2] => (rdS .sConfig x0).bind fun a0 => (rdL (.i .i64) x1).bind fun a1 => (rdL (.i .i64) x2).bind fun a2 => some ((spc162 a0 a1 a2), .agg [.v (.int .i64 ((sp162 a0 a1 a2).e)), .v (.int .i64 ((sp162 a0 a1 a2).where_.first)), .v (.int .i64 ((sp162 a0 a1 a2).where_.second))], [])
  | _, _ => none
theorem g162_ok {args : List AV} {hp : List Blk} {b : Bool} {r : AV} {hp' : List Blk} (h : g162 args hp = some (b, r, hp')) (hb : b = true) : FnOk Pr 162 ∧ Okay Pr GL 162 args hp ⟨r, hp'⟩ := by
  unfold g162 at h
  split at h
  · simp only [Option.bind_eq_some_iff] at h
    obtain ⟨a0, h0, a1, h1, a2, h2, h⟩ := h
    cases h; exact ⟨fnok Tryz.func162 (by kernel_rfl) rfl, (oks162 a0 a1 a2 hb).ats (.cons (rdS_V h0) (.cons (rdL_V h1) (.cons (rdL_V h2) .nil)))⟩
  · cases h
noncomputable def g163 (args : List AV) (hp : List Blk) : Option (Bool × AV × List Blk) :=
  match hp, args with
  | [], [x0] => (rdS .sPartition x0).bind fun a0 => some ((spc163 a0), .v (.bool (sp163 a0)), [])
  | _, _ => none
theorem g163_ok {args : List AV} {hp : List Blk} {b : Bool} {r : AV} {hp' : List Blk} (h : g163 args hp = some (b, r, hp')) (hb : b = true) : FnOk Pr 163 ∧ Okay Pr GL 163 args hp ⟨r, hp'⟩ := by
  unfold g163 at h
  split at h
  · simp only [Option.bind_eq_some_iff] at h
    obtain ⟨a0, h0, h⟩ := h
    cases h; exact ⟨fnok Tryz.func163 (by kernel_rfl) rfl, (oks163 a0 hb).ats (.cons (rdS_V h0) .nil)⟩
  · cases h
noncomputable def g145 (args : List AV) (hp : List Blk) : Option (Bool × AV × List Blk) :=
  match hp, args with
  | [], [x0] => (rdS .sLayoutSize x0).bind fun a0 => some (true, .v (.int .i64 (sp145 a0)), [])
  | _, _ => none
theorem g145_ok {args : List AV} {hp : List Blk} {b : Bool} {r : AV} {hp' : List Blk} (h : g145 args hp = some (b, r, hp')) (hb : b = true) : FnOk Pr 145 ∧ Okay Pr GL 145 args hp ⟨r, hp'⟩ := by
  unfold g145 at h
  split at h
  · simp only [Option.bind_eq_some_iff] at h
    obtain ⟨a0, h0, h⟩ := h
    cases h; exact ⟨fnok Tryz.func145 (by kernel_rfl) rfl, (oks145 a0).ats (.cons (rdS_V h0) .nil)⟩
  · cases h
noncomputable def g52 (args : List AV) (hp : List Blk) : Option (Bool × AV × List Blk) :=
  match hp, args with
  | [], [x0, x1, x2] => (rdL (.p .sMemMemory) x0).bind fun a0 => (rdL (.p .sMemMemory) x1).bind fun a1 => (rdL (.i .i64) x2).bind fun a2 => some ((spc52 a0 a1 a2), .v (.bool (sp52 a0 a1 a2)), [])
  | _, _ => none
theorem g52_ok {args : List AV} {hp : List Blk} {b : Bool} {r : AV} {hp' : List Blk} (h : g52 args hp = some (b, r, hp')) (hb : b = true) : FnOk Pr 52 ∧ Okay Pr GL 52 args hp ⟨r, hp'⟩ := by
  unfold g52 at h
  split at h
  · simp only [Option.bind_eq_some_iff] at h
    obtain ⟨a0, h0, a1, h1, a2, h2, h⟩ := h
    cases h; exact ⟨fnok Tryz.func52 (by kernel_rfl) rfl, (oks52 a0 a1 a2 hb).ats (.cons (rdL_V h0) (.cons (rdL_V h1) (.cons (rdL_V h2) .nil)))⟩
  · cases h
noncomputable def GC : Gam := fun c args hp => match c with
  | .f f => pick1 17 f (g17 args hp) (pick1 56 f (g56 args hp) (pick1 59 f (g59 args hp) (pick1 61 f (g61 args hp) (pick1 100 f (g100 args hp) (pick1 102 f (g102 args hp) (pick1 148 f (g148 args hp) (pick1 91 f (g91 args hp) (pick1 93 f (g93 args hp) (pick1 130 f (g130 args hp) (pick1 133 f (g133 args hp) (pick1 134 f (g134 args hp) (pick1 135 f (g135 args hp) (pick1 136 f (g136 args hp) (pick1 140 f (g140 args hp) (pick1 142 f (g142 args hp) (pick1 68 f (g68 args hp) (pick1 72 f (g72 args hp) (pick1 160 f (g160 args hp) (pick1 162 f (g162 args hp) (pick1 163 f (g163 args hp) (pick1 145 f (g145 args hp) (pick1 52 f (g52 args hp) (GB (.f f) args hp)))))))))))))))))))))))
  | .c x => GB (.c x) args hp
theorem GCok : GOk Pr GL GC := by
  intro c args hp b r hp' h hb
  cases c with
  | f f =>
    simp only [GC] at h
    rcases pick1_ok h with ⟨rfl, h⟩ | h
    · exact g17_ok h hb
    rcases pick1_ok h with ⟨rfl, h⟩ | h
    · exact g56_ok h hb
    rcases pick1_ok h with ⟨rfl, h⟩ | h
    · exact g59_ok h hb
    rcases pick1_ok h with ⟨rfl, h⟩ | h
    · exact g61_ok h hb
    rcases pick1_ok h with ⟨rfl, h⟩ | h
    · exact g100_ok h hb
    rcases pick1_ok h with ⟨rfl, h⟩ | h
    · exact g102_ok h hb
    rcases pick1_ok h with ⟨rfl, h⟩ | h
    · exact g148_ok h hb
    rcases pick1_ok h with ⟨rfl, h⟩ | h
    · exact g91_ok h hb
    rcases pick1_ok h with ⟨rfl, h⟩ | h
    · exact g93_ok h hb
    rcases pick1_ok h with ⟨rfl, h⟩ | h
    · exact g130_ok h hb
    rcases pick1_ok h with ⟨rfl, h⟩ | h
    · exact g133_ok h hb
    rcases pick1_ok h with ⟨rfl, h⟩ | h
    · exact g134_ok h hb
    rcases pick1_ok h with ⟨rfl, h⟩ | h
    · exact g135_ok h hb
    rcases pick1_ok h with ⟨rfl, h⟩ | h
    · exact g136_ok h hb
    rcases pick1_ok h with ⟨rfl, h⟩ | h
    · exact g140_ok h hb
    rcases pick1_ok h with ⟨rfl, h⟩ | h
    · exact g142_ok h hb
    rcases pick1_ok h with ⟨rfl, h⟩ | h
    · exact g68_ok h hb
    rcases pick1_ok h with ⟨rfl, h⟩ | h
    · exact g72_ok h hb
    rcases pick1_ok h with ⟨rfl, h⟩ | h
    · exact g160_ok h hb
    rcases pick1_ok h with ⟨rfl, h⟩ | h
    · exact g162_ok h hb
    rcases pick1_ok h with ⟨rfl, h⟩ | h
    · exact g163_ok h hb
    rcases pick1_ok h with ⟨rfl, h⟩ | h
    · exact g145_ok h hb
    rcases pick1_ok h with ⟨rfl, h⟩ | h
    · exact g52_ok h hb
    exact GBok (.f f) args hp b r hp' h hb
  | c x => exact GBok (.c x) args hp b r hp' h hb
end Go.Proofs.YtgfifnadfmaolaaGreatDoor
