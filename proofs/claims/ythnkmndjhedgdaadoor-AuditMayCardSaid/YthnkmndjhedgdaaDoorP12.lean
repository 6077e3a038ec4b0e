/- Shadows of functions (printed by pr2.py off the model's code; the kernel holds each equation to it), and what they answer. -/
import Derived.Test.YthnkmndjhedgdaaDoorP11
namespace Go.Proofs.YthnkmndjhedgdaaDoor
open Go.RowKit
set_option linter.unusedVariables false
set_option linter.unusedSimpArgs false
/-! ### audit.stands -/
abbrev R12 := Int
def to12 (r : R12) : Ans := ⟨.v (.int .i64 r), []⟩
inductive L12 where
  | l0 (x0 : Int)
def num12 : L12 → Nat
  | .l0 _ => 0
def H12 : Hint := ⟨fun n => [].any (Nat.beq n), hdAt [(0, ⟨fgt [2, 18, 19, 20] 30 0, []⟩)], [], G0, nodp⟩
noncomputable def st12 (c : Config) (l_1 : (List (Option MemMemory))) : L12 → St
  | .l0 x0 => ⟨mkE [(2, .ref 0 0), (18, .sl (.p .sMemMemory) l_1), (19, .v (.int .i64 l_1.length)), (20, .v (.int .i64 x0))] 30 0, [.cells 26 [.v (.int .i64 c.frames), .v (.int .i64 c.major), .v (.int .i64 c.kernel), .v (.int .i64 c.room), .sl (.sl .sWindow) c.cores, .sl .sPartition c.partitions, .sl .sChannel c.channels]], GL, 0, [], nodp⟩
noncomputable def bod12 {R : Type} (ret : R12 → R) (c : Config) (l_1 : (List (Option MemMemory))) (j : L12 → Option R) : L12 → Option R
  | .l0 x0 => cond (decide ((x0 : Int) < l_1.length))
    (cond (inR x0 l_1.length) (
      cond (spc26 (atPMemMemory l_1 x0.toNat)) (
        cond (!(((sp26 (atPMemMemory l_1 x0.toNat)) : Int) == c.frames))
          (some (ret 1))
          (j (.l0 (IntKind.i64.wrap (x0 + 1))))) none) none)
    (some (ret 0))
noncomputable def ent12 {R : Type} (ret : R12 → R) (c : Config) (l_1 : (List (Option MemMemory))) (j : L12 → Option R) : Option R :=
    cond (spc24 l_1) (
    cond (sp24 l_1)
      (some (ret 3))
      (cond (spc25 c) (cond (!(((sp25 c).1 : Int) == 0))
          (some (ret 1))
          (j (.l0 0))) none)) none
theorem head12_0 (J : Jmp) (c : Config) (l_1 : (List (Option MemMemory))) (x0 : Int) : stepAt Pr GAL H12 J 0 0 (bodyOf Tryd.f12) (fin Pr H12 Tryd.f12) (st12 c l_1 (.l0 x0)) = bod12 to12 c l_1 (fun l => J (num12 l) (st12 c l_1 l)) (.l0 x0) := by kernel_rfl
theorem run12 (J : Jmp) (c : Config) (l_1 : (List (Option MemMemory))) : runF Pr GAL H12 J GL Tryd.f12 [.agg [.v (.int .i64 c.frames), .v (.int .i64 c.major), .v (.int .i64 c.kernel), .v (.int .i64 c.room), .sl (.sl .sWindow) c.cores, .sl .sPartition c.partitions, .sl .sChannel c.channels], .sl (.p .sMemMemory) l_1] [] = ent12 to12 c l_1 (fun l => J (num12 l) (st12 c l_1 l)) := by kernel_rfl
theorem shad12 (c : Config) (l_1 : (List (Option MemMemory))) : ∀ (n : Nat) (l : L12), runL Pr GAL H12 Tryd.f12 n (num12 l) (st12 c l_1 l) = shad (bod12 to12 c l_1) n l
  | 0, l => by cases l <;> rfl
  | n + 1, l => by
    have ih : (fun l => runL Pr GAL H12 Tryd.f12 n (num12 l) (st12 c l_1 l)) = shad (bod12 to12 c l_1) n := funext (shad12 c l_1 n)
    cases l with
    | l0 x0 => exact (step_eq ..).trans ((head12_0 ..).trans (by rw [ih]; rfl))
theorem nat12 (c : Config) (l_1 : (List (Option MemMemory))) (s : L12 → Option R12) (l : L12) : bod12 to12 c l_1 (fun l => (s l).map to12) l = (bod12 id c l_1 s l).map to12 := by
  cases l <;> simp only [bod12, map_cond, Option.map_some, Option.map_none, id]
theorem ct12 (c : Config) (l_1 : (List (Option MemMemory))) (l : L12) : CT fun j => bod12 id c l_1 j l := by
  cases l <;> (dsimp only [bod12]; repeat (first | exact CT.jump _ | exact CT.const _ | apply CT.cond))
/-- audit.stands, from a head on. -/
noncomputable def spL12 (c : Config) (l_1 : (List (Option MemMemory))) : L12 → Option R12 := lfp (bod12 id c l_1)
theorem spL12_eq (c : Config) (l_1 : (List (Option MemMemory))) (l : L12) : spL12 c l_1 l = bod12 id c l_1 (spL12 c l_1) l := lfp_eq (ct12 c l_1) l
/-- audit.stands -/
noncomputable def spO12 (c : Config) (l_1 : (List (Option MemMemory))) : Option R12 := ent12 id c l_1 (spL12 c l_1)
noncomputable def sp12 (c : Config) (l_1 : (List (Option MemMemory))) : R12 := (spO12 c l_1).getD default
noncomputable def spc12 (c : Config) (l_1 : (List (Option MemMemory))) : Bool := (spO12 c l_1).isSome
theorem oks12 (c : Config) (l_1 : (List (Option MemMemory))) (hc : spc12 c l_1 = true) : Okay Pr GL 12 [.agg [.v (.int .i64 c.frames), .v (.int .i64 c.major), .v (.int .i64 c.kernel), .v (.int .i64 c.room), .sl (.sl .sWindow) c.cores, .sl .sPartition c.partitions, .sl .sChannel c.channels], .sl (.p .sMemMemory) l_1] [] (to12 (sp12 c l_1)) := by
  obtain ⟨n, h⟩ := auto_ok (nat12 c l_1) (fun s => show ent12 to12 c l_1 (fun l => (s l).map to12) = (ent12 id c l_1 s).map to12 by simp only [ent12, map_cond, Option.map_some, Option.map_none, id]) (ct12 c l_1) (show CT fun j => ent12 id c l_1 j by dsimp only [ent12]; repeat (first | exact CT.jump _ | exact CT.const _ | apply CT.cond)) (isSome_getD hc)
  exact okay_of_run (H := H12) GALok G0ok Tryd.func12 rfl (by kernel_rfl) n (by
    rw [run12]
    rw [show (fun l => runL Pr GAL H12 Tryd.f12 n (num12 l) (st12 c l_1 l)) = shad (bod12 to12 c l_1) n from funext (shad12 c l_1 n)]
    exact h)

noncomputable def g12 (args : List AV) (hp : List Blk) : Option (Bool × AV × List Blk) :=
  match hp, args with
  | [], [x0, x1] => (rdS .sConfig x0).bind fun a0 => (rdL (.sl (.p .sMemMemory)) x1).bind fun a1 => some ((spc12 a0 a1), .v (.int .i64 (sp12 a0 a1)), [])
  | _, _ => none
theorem g12_ok {args : List AV} {hp : List Blk} {b : Bool} {r : AV} {hp' : List Blk} (h : g12 args hp = some (b, r, hp')) (hb : b = true) : FnOk Pr 12 ∧ Okay Pr GL 12 args hp ⟨r, hp'⟩ := by
  unfold g12 at h
  split at h
  · simp only [Option.bind_eq_some_iff] at h
    obtain ⟨a0, h0, a1, h1, h⟩ := h
    cases h; exact ⟨fnok Tryd.func12 (by kernel_rfl) rfl, (oks12 a0 a1 hb).ats (.cons (rdS_V h0) (.cons (rdL_V h1) .nil))⟩
  · cases h
noncomputable def GM : Gam := fun c args hp => match c with
  | .f f => pick1 12 f (g12 args hp) (GAL (.f f) args hp)
  | .c x => GAL (.c x) args hp
theorem GMok : GOk Pr GL GM := by
  intro c args hp b r hp' h hb
  cases c with
  | f f =>
    simp only [GM] at h
    rcases pick1_ok h with ⟨rfl, h⟩ | h
    · exact g12_ok h hb
    exact GALok (.f f) args hp b r hp' h hb
  | c x => exact GALok (.c x) args hp b r hp' h hb
end Go.Proofs.YthnkmndjhedgdaaDoor
