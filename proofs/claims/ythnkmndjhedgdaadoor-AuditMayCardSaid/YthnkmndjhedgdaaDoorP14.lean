/- Shadows of functions (printed by pr2.py off the model's code; the kernel holds each equation to it), and what they answer. -/
import Derived.Test.YthnkmndjhedgdaaDoorP13
namespace Go.Proofs.YthnkmndjhedgdaaDoor
open Go.RowKit
set_option linter.unusedVariables false
set_option linter.unusedSimpArgs false
/-! ### law28.AuditMay -/
abbrev R3 := Bool
def to3 (r : R3) : Ans := ⟨.v (.bool r), []⟩
def H3 : Hint := ⟨fun _ => false, fun _ => ⟨[], []⟩, [], G0, nodp⟩
noncomputable def ent3 {R : Type} (ret : R3 → R) (c : Config) (p : Int) (o : Owner) : Option R :=
    cond (spc4 c p o) (
    cond (spc5 c) (
      cond (spc6 (sp5 c) p o) (
        cond (((sp6 (sp5 c) p o).1) == ((sp4 c p o).1))
          (cond (((sp6 (sp5 c) p o).2 : Int) == (sp4 c p o).2)
            (cond (spc7 (sp5 c) c) (some (ret (sp7 (sp5 c) c))) none)
            (some (ret false)))
          (some (ret false))) none) none) none
theorem run3 (J : Jmp) (c : Config) (p : Int) (o : Owner) : runF Pr GN H3 J GL Tryd.f3 [.agg [.v (.int .i64 c.frames), .v (.int .i64 c.major), .v (.int .i64 c.kernel), .v (.int .i64 c.room), .sl (.sl .sWindow) c.cores, .sl .sPartition c.partitions, .sl .sChannel c.channels], .v (.int .i64 p), .agg [.v (.int .i64 o.kind), .v (.int .i64 o.index), .v (.int .i64 o.port)]] [] = ent3 to3 c p o := by kernel_rfl
/-- law28.AuditMay -/
noncomputable def spO3 (c : Config) (p : Int) (o : Owner) : Option R3 := ent3 id c p o
noncomputable def sp3 (c : Config) (p : Int) (o : Owner) : R3 := (spO3 c p o).getD default
noncomputable def spc3 (c : Config) (p : Int) (o : Owner) : Bool := (spO3 c p o).isSome
theorem oks3 (c : Config) (p : Int) (o : Owner) (hc : spc3 c p o = true) : Okay Pr GL 3 [.agg [.v (.int .i64 c.frames), .v (.int .i64 c.major), .v (.int .i64 c.kernel), .v (.int .i64 c.room), .sl (.sl .sWindow) c.cores, .sl .sPartition c.partitions, .sl .sChannel c.channels], .v (.int .i64 p), .agg [.v (.int .i64 o.kind), .v (.int .i64 o.index), .v (.int .i64 o.port)]] [] (to3 (sp3 c p o)) :=
  okay_of_run (H := H3) GNok G0ok Tryd.func3 rfl (by kernel_rfl) 0 ((run3 (runL Pr GN H3 Tryd.f3 0) c p o).trans (auto_ok0 (show ent3 to3 c p o = (ent3 id c p o).map to3 by simp only [ent3, map_cond, Option.map_some, Option.map_none, id]) (isSome_getD hc)))

noncomputable def g3 (args : List AV) (hp : List Blk) : Option (Bool × AV × List Blk) :=
  match hp, args with
  | [], [x0, x1, x2] => (rdS .sConfig x0).bind fun a0 => (rdL (.i .i64) x1).bind fun a1 => (rdS .sOwner x2).bind fun a2 => some ((spc3 a0 a1 a2), .v (.bool (sp3 a0 a1 a2)), [])
  | _, _ => none
theorem g3_ok {args : List AV} {hp : List Blk} {b : Bool} {r : AV} {hp' : List Blk} (h : g3 args hp = some (b, r, hp')) (hb : b = true) : FnOk Pr 3 ∧ Okay Pr GL 3 args hp ⟨r, hp'⟩ := by
  unfold g3 at h
  split at h
  · simp only [Option.bind_eq_some_iff] at h
    obtain ⟨a0, h0, a1, h1, a2, h2, h⟩ := h
    cases h; exact ⟨fnok Tryd.func3 (by kernel_rfl) rfl, (oks3 a0 a1 a2 hb).ats (.cons (rdS_V h0) (.cons (rdL_V h1) (.cons (rdS_V h2) .nil)))⟩
  · cases h
noncomputable def GO : Gam := fun c args hp => match c with
  | .f f => pick1 3 f (g3 args hp) (GN (.f f) args hp)
  | .c x => GN (.c x) args hp
theorem GOok : GOk Pr GL GO := by
  intro c args hp b r hp' h hb
  cases c with
  | f f =>
    simp only [GO] at h
    rcases pick1_ok h with ⟨rfl, h⟩ | h
    · exact g3_ok h hb
    exact GNok (.f f) args hp b r hp' h hb
  | c x => exact GNok (.c x) args hp b r hp' h hb
end Go.Proofs.YthnkmndjhedgdaaDoor
