/- Shadows of functions (printed by pr2.py off the model's code; the kernel holds each equation to it), and what they answer. -/
import Derived.Test.YthnkmndjhedgdaaDoorP12
namespace Go.Proofs.YthnkmndjhedgdaaDoor
open Go.RowKit
set_option linter.unusedVariables false
set_option linter.unusedSimpArgs false
/-! ### audit.May -/
abbrev R6 := Bool × Int
def to6 (r : R6) : Ans := ⟨.tup [.v (.bool r.1), .v (.int .i64 r.2)], []⟩
def H6 : Hint := ⟨fun _ => false, fun _ => ⟨[], []⟩, [], G0, nodp⟩
noncomputable def ent6 {R : Type} (ret : R6 → R) (c : Config) (p : Int) (o : Owner) : Option R :=
    cond (spc12 c []) (
    cond (!(((sp12 c []) : Int) == 0))
      (some (ret (false, (sp12 c []))))
      (cond (decide ((p : Int) < (-1)))
        (some (ret (false, 1)))
        (cond (decide ((p : Int) ≥ c.partitions.length))
          (some (ret (false, 1)))
          (cond (spc13 c o) (
            cond (!(sp13 c o))
              (some (ret (false, 1)))
              (cond ((o.kind : Int) == 2)
                (some (ret (true, 0)))
                (cond ((o.kind : Int) == 1)
                  (some (ret (((o.index : Int) == p), 0)))
                  (cond ((o.kind : Int) == 3)
                    (some (ret (((o.index : Int) == p), 0)))
                    (cond ((o.kind : Int) == 4)
                      (some (ret (((o.index : Int) == p), 0)))
                      (cond ((o.kind : Int) == 5)
                        (some (ret (((o.index : Int) == p), 0)))
                        (cond ((o.kind : Int) == 6)
                          (cond (spc14 c p o.index true) (
                            cond (sp14 c p o.index true)
                              (some (ret (true, 0)))
                              (cond (spc14 c p o.index false) (some (ret ((sp14 c p o.index false), 0))) none)) none)
                          (cond ((o.kind : Int) == 7)
                            (cond ((p : Int) == (-1))
                              (some (ret (true, 0)))
                              (cond (spc14 c p o.index true) (some (ret ((sp14 c p o.index true), 0))) none))
                            (cond ((o.kind : Int) == 8)
                              (cond ((p : Int) == (-1))
                                (some (ret (true, 0)))
                                (some (ret (((o.index : Int) == p), 0))))
                              (some (ret (false, 0)))))))))))) none)))) none
theorem run6 (J : Jmp) (c : Config) (p : Int) (o : Owner) : runF Pr GM H6 J GL Tryd.f6 [.agg [.v (.int .i64 c.frames), .v (.int .i64 c.major), .v (.int .i64 c.kernel), .v (.int .i64 c.room), .sl (.sl .sWindow) c.cores, .sl .sPartition c.partitions, .sl .sChannel c.channels], .v (.int .i64 p), .agg [.v (.int .i64 o.kind), .v (.int .i64 o.index), .v (.int .i64 o.port)]] [] = ent6 to6 c p o := by kernel_rfl
/-- audit.May -/
noncomputable def spO6 (c : Config) (p : Int) (o : Owner) : Option R6 := ent6 id c p o
noncomputable def sp6 (c : Config) (p : Int) (o : Owner) : R6 := (spO6 c p o).getD default
noncomputable def spc6 (c : Config) (p : Int) (o : Owner) : Bool := (spO6 c p o).isSome
theorem oks6 (c : Config) (p : Int) (o : Owner) (hc : spc6 c p o = true) : Okay Pr GL 6 [.agg [.v (.int .i64 c.frames), .v (.int .i64 c.major), .v (.int .i64 c.kernel), .v (.int .i64 c.room), .sl (.sl .sWindow) c.cores, .sl .sPartition c.partitions, .sl .sChannel c.channels], .v (.int .i64 p), .agg [.v (.int .i64 o.kind), .v (.int .i64 o.index), .v (.int .i64 o.port)]] [] (to6 (sp6 c p o)) :=
  okay_of_run (H := H6) GMok G0ok Tryd.func6 rfl (by kernel_rfl) 0 ((run6 (runL Pr GM H6 Tryd.f6 0) c p o).trans (auto_ok0 (show ent6 to6 c p o = (ent6 id c p o).map to6 by simp only [ent6, map_cond, Option.map_some, Option.map_none, id]) (isSome_getD hc)))

noncomputable def g6 (args : List AV) (hp : List Blk) : Option (Bool × AV × List Blk) :=
  match hp, args with
  | [], [x0, x1, x2] => (rdS .sConfig x0).bind fun a0 => (rdL (.i .i64) x1).bind fun a1 => (rdS .sOwner x2).bind fun a2 => some ((spc6 a0 a1 a2), .tup [.v (.bool ((sp6 a0 a1 a2).1)), .v (.int .i64 ((sp6 a0 a1 a2).2))], [])
  | _, _ => none
theorem g6_ok {args : List AV} {hp : List Blk} {b : Bool} {r : AV} {hp' : List Blk} (h : g6 args hp = some (b, r, hp')) (hb : b = true) : FnOk Pr 6 ∧ Okay Pr GL 6 args hp ⟨r, hp'⟩ := by
  unfold g6 at h
  split at h
  · simp only [Option.bind_eq_some_iff] at h
    obtain ⟨a0, h0, a1, h1, a2, h2, h⟩ := h
    cases h; exact ⟨fnok Tryd.func6 (by kernel_rfl) rfl, (oks6 a0 a1 a2 hb).ats (.cons (rdS_V h0) (.cons (rdL_V h1) (.cons (rdS_V h2) .nil)))⟩
  · cases h
noncomputable def GN : Gam := fun c args hp => match c with
  | .f f => pick1 6 f (g6 args hp) (GM (.f f) args hp)
  | .c x => GM (.c x) args hp
theorem GNok : GOk Pr GL GN := by
  intro c args hp b r hp' h hb
  cases c with
  | f f =>
    simp only [GN] at h
    rcases pick1_ok h with ⟨rfl, h⟩ | h
    · exact g6_ok h hb
    exact GMok (.f f) args hp b r hp' h hb
  | c x => exact GMok (.c x) args hp b r hp' h hb
end Go.Proofs.YthnkmndjhedgdaaDoor
