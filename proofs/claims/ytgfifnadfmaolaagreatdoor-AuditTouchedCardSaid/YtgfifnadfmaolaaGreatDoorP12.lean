/- Shadows of functions (printed by pr2.py off the model's code; the kernel holds each equation to it), and what they answer. -/
import Derived.Test.YtgfifnadfmaolaaGreatDoorP11
namespace Go.Proofs.YtgfifnadfmaolaaGreatDoor
open Go.RowKit
set_option linter.unusedVariables false
set_option linter.unusedSimpArgs false
/-! ### audit.stands -/
abbrev R25 := Int
def to25 (r : R25) : Ans := ⟨.v (.int .i64 r), []⟩
inductive L25 where
  | l0 (x0 : Int)
def num25 : L25 → Nat
  | .l0 _ => 0
def H25 : Hint := ⟨fun n => [].any (Nat.beq n), hdAt [(0, ⟨fgt [2, 18, 19, 20] 30 0, []⟩)], [], G0, nodp⟩
noncomputable def st25 (c : Config) (l_1 : (List (Option MemMemory))) : L25 → St
  | .l0 x0 => ⟨mkE [(2, .ref 0 0), (18, .sl (.p .sMemMemory) l_1), (19, .v (.int .i64 l_1.length)), (20, .v (.int .i64 x0))] 30 0, [.cells 26 [.v (.int .i64 c.frames), .v (.int .i64 c.major), .v (.int .i64 c.kernel), .v (.int .i64 c.room), .sl (.sl .sWindow) c.cores, .sl .sPartition c.partitions, .sl .sChannel c.channels]], GL, 0, [], nodp⟩
noncomputable def bod25 {R : Type} (ret : R25 → R) (c : Config) (l_1 : (List (Option MemMemory))) (j : L25 → Option R) : L25 → Option R
  | .l0 x0 => cond (decide ((x0 : Int) < l_1.length))
    (cond (inR x0 l_1.length) (
      cond (spc50 (atPMemMemory l_1 x0.toNat)) (
        cond (!(((sp50 (atPMemMemory l_1 x0.toNat)) : Int) == c.frames))
          (some (ret 1))
          (j (.l0 (IntKind.i64.wrap (x0 + 1))))) none) none)
    (some (ret 0))
noncomputable def ent25 {R : Type} (ret : R25 → R) (c : Config) (l_1 : (List (Option MemMemory))) (j : L25 → Option R) : Option R :=
    cond (spc48 l_1) (
    cond (sp48 l_1)
      (some (ret 3))
      (cond (spc49 c) (cond (!(((sp49 c).1 : Int) == 0))
          (some (ret 1))
          (j (.l0 0))) none)) none
theorem head25_0 (J : Jmp) (c : Config) (l_1 : (List (Option MemMemory))) (x0 : Int) : stepAt Pr GAL H25 J 0 0 (bodyOf Tryz.f25) (fin Pr H25 Tryz.f25) (st25 c l_1 (.l0 x0)) = bod25 to25 c l_1 (fun l => J (num25 l) (st25 c l_1 l)) (.l0 x0) := by kernel_rfl
theorem run25 (J : Jmp) (c : Config) (l_1 : (List (Option MemMemory))) : runF Pr GAL H25 J GL Tryz.f25 [(aCfg c), .sl (.p .sMemMemory) l_1] [] = ent25 to25 c l_1 (fun l => J (num25 l) (st25 c l_1 l)) := by kernel_rfl
theorem shad25 (c : Config) (l_1 : (List (Option MemMemory))) : ∀ (n : Nat) (l : L25), runL Pr GAL H25 Tryz.f25 n (num25 l) (st25 c l_1 l) = shad (bod25 to25 c l_1) n l
  | 0, l => by cases l <;> rfl
  | n + 1, l => by
    have ih : (fun l => runL Pr GAL H25 Tryz.f25 n (num25 l) (st25 c l_1 l)) = shad (bod25 to25 c l_1) n := funext (shad25 c l_1 n)
    cases l with
    | l0 x0 => exact (step_eq ..).trans ((head25_0 ..).trans (by rw [ih]; rfl))
theorem nat25 (c : Config) (l_1 : (List (Option MemMemory))) (s : L25 → Option R25) (l : L25) : bod25 to25 c l_1 (fun l => (s l).map to25) l = (bod25 id c l_1 s l).map to25 := by
  cases l <;> simp only [bod25, map_cond, Option.map_some, Option.map_none, id]
theorem ct25 (c : Config) (l_1 : (List (Option MemMemory))) (l : L25) : CT fun j => bod25 id c l_1 j l := by
  cases l <;> (dsimp only [bod25]; repeat (first | exact CT.jump _ | exact CT.const _ | apply CT.cond))
noncomputable def spL25 (c : Config) (l_1 : (List (Option MemMemory))) : L25 → Option R25 := lfp (bod25 id c l_1)
theorem spL25_eq (c : Config) (l_1 : (List (Option MemMemory))) (l : L25) : spL25 c l_1 l = bod25 id c l_1 (spL25 c l_1) l := lfp_eq (ct25 c l_1) l
noncomputable def spO25 (c : Config) (l_1 : (List (Option MemMemory))) : Option R25 := ent25 id c l_1 (spL25 c l_1)
noncomputable def sp25 (c : Config) (l_1 : (List (Option MemMemory))) : R25 := (spO25 c l_1).getD default
noncomputable def spc25 (c : Config) (l_1 : (List (Option MemMemory))) : Bool := (spO25 c l_1).isSome
theorem oks25 (c : Config) (l_1 : (List (Option MemMemory))) (hc : spc25 c l_1 = true) : Okay Pr GL 25 [(aCfg c), .sl (.p .sMemMemory) l_1] [] (to25 (sp25 c l_1)) := by
  obtain ⟨n, h⟩ := auto_ok (nat25 c l_1) (fun s => show ent25 to25 c l_1 (fun l => (s l).map to25) = (ent25 id c l_1 s).map to25 by simp only [ent25, map_cond, Option.map_some, Option.map_none, id]) (ct25 c l_1) (show CT fun j => ent25 id c l_1 j by dsimp only [ent25]; repeat (first | exact CT.jump _ | exact CT.const _ | apply CT.cond)) (isSome_getD hc)
  exact okay_of_run (H := H25) GALok G0ok Tryz.func25 rfl (by kernel_rfl) n (by
    rw [run25]
    rw [show (fun l => runL Pr GAL H25 Tryz.f25 n (num25 l) (st25 c l_1 l)) = shad (bod25 to25 c l_1) n from funext (shad25 c l_1 n)]
    exact h)

noncomputable def g25 (args : List AV) (hp : List Blk) : Option (Bool × AV × List Blk) :=
  match hp, args with
  | [], [x0, x1] => (rdS .sConfig x0).bind fun a0 => (rdL (.sl (.p .sMemMemory)) x1).bind fun a1 => some ((spc25 a0 a1), .v (.int .i64 (sp25 a0 a1)), [])
  | _, _ => none
theorem g25_ok {args : List AV} {hp : List Blk} {b : Bool} {r : AV} {hp' : List Blk} (h : g25 args hp = some (b, r, hp')) (hb : b = true) : FnOk Pr 25 ∧ Okay Pr GL 25 args hp ⟨r, hp'⟩ := by
  unfold g25 at h
  split at h
  · simp only [Option.bind_eq_some_iff] at h
    obtain ⟨a0, h0, a1, h1, h⟩ := h
    cases h; exact ⟨fnok Tryz.func25 (by kernel_rfl) rfl, (oks25 a0 a1 hb).ats (.cons (rdS_V h0) (.cons (rdL_V h1) .nil))⟩
  · cases h
noncomputable def GM : Gam := fun c args hp => match c with
  | .f f => pick1 25 f (g25 args hp) (GAL (.f f) args hp)
  | .c x => GAL (.c x) args hp
theorem GMok : GOk Pr GL GM := by
  intro c args hp b r hp' h hb
  cases c with
  | f f =>
    simp only [GM] at h
    rcases pick1_ok h with ⟨rfl, h⟩ | h
    · exact g25_ok h hb
    exact GALok (.f f) args hp b r hp' h hb
  | c x => exact GALok (.c x) args hp b r hp' h hb
end Go.Proofs.YtgfifnadfmaolaaGreatDoor
