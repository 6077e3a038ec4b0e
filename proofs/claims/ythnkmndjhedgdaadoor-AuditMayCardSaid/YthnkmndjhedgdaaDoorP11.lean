/- Shadows of functions (printed by pr2.py off the model's code; the kernel holds each equation to it), and what they answer. -/
import Derived.Test.YthnkmndjhedgdaaDoorP10
namespace Go.Proofs.YthnkmndjhedgdaaDoor
open Go.RowKit
set_option linter.unusedVariables false
set_option linter.unusedSimpArgs false
/-! ### admit.Check -/
abbrev R25 := Int × Where
def to25 (r : R25) : Ans := ⟨.tup [.v (.int .i64 r.1), .agg [.v (.int .i64 r.2.first), .v (.int .i64 r.2.second)]], []⟩
inductive L25 where
  | l0 (x0 : Int)
def num25 : L25 → Nat
  | .l0 _ => 0
def H25 : Hint := ⟨fun n => [].any (Nat.beq n), hdAt [(0, ⟨fgt [3, 8, 9, 10] 25 0, []⟩)], [], G0, nodp⟩
noncomputable def st25 (c : Config) : L25 → St
  | .l0 x0 => ⟨mkE [(3, .ref 0 0), (8, .own 1), (9, .v (.int .i64 ((sp40 c).length))), (10, .v (.int .i64 x0))] 25 0, [.cells 36 [.v (.int .i64 0), .v (.int .i64 0)], .arr 91 .f (sp40 c)], GL, 0, [], nodp⟩
noncomputable def bod25 {R : Type} (ret : R25 → R) (c : Config) (j : L25 → Option R) : L25 → Option R
  | .l0 x0 => cond (decide ((x0 : Int) < (sp40 c).length))
    (cond (inR x0 (sp40 c).length) (
      cond (askc (atClo (sp40 c) x0.toNat)) (
        cond (!((((ask (atClo (sp40 c) x0.toNat)).e : Int) == fine.e) && (((((ask (atClo (sp40 c) x0.toNat)).where_.first : Int) == fine.where_.first) && ((((ask (atClo (sp40 c) x0.toNat)).where_.second : Int) == fine.where_.second) && true)) && true)))
          (some (ret ((ask (atClo (sp40 c) x0.toNat)).e, (ask (atClo (sp40 c) x0.toNat)).where_)))
          (j (.l0 (IntKind.i64.wrap (x0 + 1))))) none) none)
    (some (ret (0, (⟨0, 0⟩ : Where))))
noncomputable def ent25 {R : Type} (ret : R25 → R) (c : Config) (j : L25 → Option R) : Option R :=
    cond (spc40 c) (j (.l0 0)) none
theorem head25_0 (J : Jmp) (c : Config) (x0 : Int) : stepAt Pr GK H25 J 0 0 (bodyOf Tryd.f25) (fin Pr H25 Tryd.f25) (st25 c (.l0 x0)) = bod25 to25 c (fun l => J (num25 l) (st25 c l)) (.l0 x0) := by kernel_rfl
theorem run25 (J : Jmp) (c : Config) : runF Pr GK H25 J GL Tryd.f25 [.agg [.v (.int .i64 c.frames), .v (.int .i64 c.major), .v (.int .i64 c.kernel), .v (.int .i64 c.room), .sl (.sl .sWindow) c.cores, .sl .sPartition c.partitions, .sl .sChannel c.channels]] [] = ent25 to25 c (fun l => J (num25 l) (st25 c l)) := by kernel_rfl
theorem shad25 (c : Config) : ∀ (n : Nat) (l : L25), runL Pr GK H25 Tryd.f25 n (num25 l) (st25 c l) = shad (bod25 to25 c) n l
  | 0, l => by cases l <;> rfl
  | n + 1, l => by
    have ih : (fun l => runL Pr GK H25 Tryd.f25 n (num25 l) (st25 c l)) = shad (bod25 to25 c) n := funext (shad25 c n)
    cases l with
    | l0 x0 => exact (step_eq ..).trans ((head25_0 ..).trans (by rw [ih]; rfl))
theorem nat25 (c : Config) (s : L25 → Option R25) (l : L25) : bod25 to25 c (fun l => (s l).map to25) l = (bod25 id c s l).map to25 := by
  cases l <;> simp only [bod25, map_cond, Option.map_some, Option.map_none, id]
theorem ct25 (c : Config) (l : L25) : CT fun j => bod25 id c j l := by
  cases l <;> (dsimp only [bod25]; repeat (first | exact CT.jump _ | exact CT.const _ | apply CT.cond))
/-- admit.Check, from a head on. -/
noncomputable def spL25 (c : Config) : L25 → Option R25 := lfp (bod25 id c)
theorem spL25_eq (c : Config) (l : L25) : spL25 c l = bod25 id c (spL25 c) l := lfp_eq (ct25 c) l
/-- admit.Check -/
noncomputable def spO25 (c : Config) : Option R25 := ent25 id c (spL25 c)
noncomputable def sp25 (c : Config) : R25 := (spO25 c).getD default
noncomputable def spc25 (c : Config) : Bool := (spO25 c).isSome
theorem oks25 (c : Config) (hc : spc25 c = true) : Okay Pr GL 25 [.agg [.v (.int .i64 c.frames), .v (.int .i64 c.major), .v (.int .i64 c.kernel), .v (.int .i64 c.room), .sl (.sl .sWindow) c.cores, .sl .sPartition c.partitions, .sl .sChannel c.channels]] [] (to25 (sp25 c)) := by
  obtain ⟨n, h⟩ := auto_ok (nat25 c) (fun s => show ent25 to25 c (fun l => (s l).map to25) = (ent25 id c s).map to25 by simp only [ent25, map_cond, Option.map_some, Option.map_none, id]) (ct25 c) (show CT fun j => ent25 id c j by dsimp only [ent25]; repeat (first | exact CT.jump _ | exact CT.const _ | apply CT.cond)) (isSome_getD hc)
  exact okay_of_run (H := H25) GKok G0ok Tryd.func25 rfl (by kernel_rfl) n (by
    rw [run25]
    rw [show (fun l => runL Pr GK H25 Tryd.f25 n (num25 l) (st25 c l)) = shad (bod25 to25 c) n from funext (shad25 c n)]
    exact h)

noncomputable def g25 (args : List AV) (hp : List Blk) : Option (Bool × AV × List Blk) :=
  match hp, args with
  | [], [x0] => (rdS .sConfig x0).bind fun a0 => some ((spc25 a0), .tup [.v (.int .i64 ((sp25 a0).1)), .agg [.v (.int .i64 ((sp25 a0).2.first)), .v (.int .i64 ((sp25 a0).2.second))]], [])
  | _, _ => none
theorem g25_ok {args : List AV} {hp : List Blk} {b : Bool} {r : AV} {hp' : List Blk} (h : g25 args hp = some (b, r, hp')) (hb : b = true) : FnOk Pr 25 ∧ Okay Pr GL 25 args hp ⟨r, hp'⟩ := by
  unfold g25 at h
  split at h
  · simp only [Option.bind_eq_some_iff] at h
    obtain ⟨a0, h0, h⟩ := h
    cases h; exact ⟨fnok Tryd.func25 (by kernel_rfl) rfl, (oks25 a0 hb).ats (.cons (rdS_V h0) .nil)⟩
  · cases h
noncomputable def GAL : Gam := fun c args hp => match c with
  | .f f => pick1 25 f (g25 args hp) (GK (.f f) args hp)
  | .c x => GK (.c x) args hp
theorem GALok : GOk Pr GL GAL := by
  intro c args hp b r hp' h hb
  cases c with
  | f f =>
    simp only [GAL] at h
    rcases pick1_ok h with ⟨rfl, h⟩ | h
    · exact g25_ok h hb
    exact GKok (.f f) args hp b r hp' h hb
  | c x => exact GKok (.c x) args hp b r hp' h hb
end Go.Proofs.YthnkmndjhedgdaaDoor
