/- Shadows of functions (printed by pr2.py off the model's code; the kernel holds each equation to it), and what they answer. -/
import Derived.Test.YthnkmndjhedgdaaDoorP9
namespace Go.Proofs.YthnkmndjhedgdaaDoor
open Go.RowKit
set_option linter.unusedVariables false
set_option linter.unusedSimpArgs false
/-! ### admit.questions -/
abbrev R40 := (List Clo)
def to40 (r : R40) : Ans := ⟨.own 0, [.arr 91 .f r]⟩
inductive L40 where
  | l0 (x0 : Int) (x1 : List Clo)
  | l4 (x0 : Int) (x1 : List Clo)
  | l8 (x0 : Int) (x1 : List Clo)
def num40 : L40 → Nat
  | .l0 _ _ => 0
  | .l4 _ _ => 4
  | .l8 _ _ => 8
def H40 : Hint := ⟨fun n => [].any (Nat.beq n), hdAt [(0, ⟨fgt [1, 3, 15, 16] 50 0, []⟩), (4, ⟨fgt [1, 3, 26, 27] 50 0, []⟩), (8, ⟨fgt [1, 3, 37, 38] 50 0, []⟩)], [], G0, nodp⟩
noncomputable def st40 (c : Config) : L40 → St
  | .l0 x0 x1 => ⟨mkE [(1, .ref 0 0), (3, .own 1), (15, .v (.int .i64 c.partitions.length)), (16, .v (.int .i64 x0))] 50 0, [.rob .sConfig c, .arr 91 .f x1], GL, 0, [], nodp⟩
  | .l4 x0 x1 => ⟨mkE [(1, .ref 0 0), (3, .own 1), (26, .v (.int .i64 c.channels.length)), (27, .v (.int .i64 x0))] 50 0, [.rob .sConfig c, .arr 91 .f x1], GL, 0, [], nodp⟩
  | .l8 x0 x1 => ⟨mkE [(1, .ref 0 0), (3, .own 1), (37, .v (.int .i64 c.cores.length)), (38, .v (.int .i64 x0))] 50 0, [.rob .sConfig c, .arr 91 .f x1], GL, 0, [], nodp⟩
noncomputable def bod40 {R : Type} (ret : R40 → R) (c : Config) (j : L40 → Option R) : L40 → Option R
  | .l0 x0 x1 => cond (decide ((x0 : Int) < c.partitions.length))
    (cond (leB (((x1 : List Clo).length + ([(Clo.c60 c x0)] : List Clo).length) * 8) 140737488355328) (j (.l0 (IntKind.i64.wrap (x0 + 1)) ((x1 : List Clo) ++ [(Clo.c60 c x0)]))) none)
    (j (.l4 0 x1))
  | .l4 x0 x1 => cond (decide ((x0 : Int) < c.channels.length))
    (cond (leB (((x1 : List Clo).length + ([(Clo.c62 c x0)] : List Clo).length) * 8) 140737488355328) (j (.l4 (IntKind.i64.wrap (x0 + 1)) ((x1 : List Clo) ++ [(Clo.c62 c x0)]))) none)
    (j (.l8 0 x1))
  | .l8 x0 x1 => cond (decide ((x0 : Int) < c.cores.length))
    (cond (leB (((x1 : List Clo).length + ([(Clo.c64 c x0)] : List Clo).length) * 8) 140737488355328) (j (.l8 (IntKind.i64.wrap (x0 + 1)) ((x1 : List Clo) ++ [(Clo.c64 c x0)]))) none)
    (cond (leB (((x1 : List Clo).length + ([(Clo.c66 c)] : List Clo).length) * 8) 140737488355328) (some (ret ((x1 : List Clo) ++ [(Clo.c66 c)]))) none)
noncomputable def ent40 {R : Type} (ret : R40 → R) (c : Config) (j : L40 → Option R) : Option R :=
    j (.l0 0 [(Clo.c53 c), (Clo.c56 c), (Clo.c57 c), (Clo.c58 c), (Clo.c59 c)])
theorem head40_0 (J : Jmp) (c : Config) (x0 : Int) (x1 : List Clo) : stepAt Pr GJ H40 J 0 0 (bodyOf Tryd.f40) (fin Pr H40 Tryd.f40) (st40 c (.l0 x0 x1)) = bod40 to40 c (fun l => J (num40 l) (st40 c l)) (.l0 x0 x1) := by kernel_rfl
theorem head40_4 (J : Jmp) (c : Config) (x0 : Int) (x1 : List Clo) : stepAt Pr GJ H40 J 4 0 (bodyOf Tryd.f40) (fin Pr H40 Tryd.f40) (st40 c (.l4 x0 x1)) = bod40 to40 c (fun l => J (num40 l) (st40 c l)) (.l4 x0 x1) := by kernel_rfl
theorem head40_8 (J : Jmp) (c : Config) (x0 : Int) (x1 : List Clo) : stepAt Pr GJ H40 J 8 0 (bodyOf Tryd.f40) (fin Pr H40 Tryd.f40) (st40 c (.l8 x0 x1)) = bod40 to40 c (fun l => J (num40 l) (st40 c l)) (.l8 x0 x1) := by kernel_rfl
theorem run40 (J : Jmp) (c : Config) : runF Pr GJ H40 J GL Tryd.f40 [.agg [.v (.int .i64 c.frames), .v (.int .i64 c.major), .v (.int .i64 c.kernel), .v (.int .i64 c.room), .sl (.sl .sWindow) c.cores, .sl .sPartition c.partitions, .sl .sChannel c.channels]] [] = ent40 to40 c (fun l => J (num40 l) (st40 c l)) := by kernel_rfl
theorem shad40 (c : Config) : ∀ (n : Nat) (l : L40), runL Pr GJ H40 Tryd.f40 n (num40 l) (st40 c l) = shad (bod40 to40 c) n l
  | 0, l => by cases l <;> rfl
  | n + 1, l => by
    have ih : (fun l => runL Pr GJ H40 Tryd.f40 n (num40 l) (st40 c l)) = shad (bod40 to40 c) n := funext (shad40 c n)
    cases l with
    | l0 x0 x1 => exact (step_eq ..).trans ((head40_0 ..).trans (by rw [ih]; rfl))
    | l4 x0 x1 => exact (step_eq ..).trans ((head40_4 ..).trans (by rw [ih]; rfl))
    | l8 x0 x1 => exact (step_eq ..).trans ((head40_8 ..).trans (by rw [ih]; rfl))
theorem nat40 (c : Config) (s : L40 → Option R40) (l : L40) : bod40 to40 c (fun l => (s l).map to40) l = (bod40 id c s l).map to40 := by
  cases l <;> simp only [bod40, map_cond, Option.map_some, Option.map_none, id]
theorem ct40 (c : Config) (l : L40) : CT fun j => bod40 id c j l := by
  cases l <;> (dsimp only [bod40]; repeat (first | exact CT.jump _ | exact CT.const _ | apply CT.cond))
/-- admit.questions, from a head on. -/
noncomputable def spL40 (c : Config) : L40 → Option R40 := lfp (bod40 id c)
theorem spL40_eq (c : Config) (l : L40) : spL40 c l = bod40 id c (spL40 c) l := lfp_eq (ct40 c) l
/-- admit.questions -/
noncomputable def spO40 (c : Config) : Option R40 := ent40 id c (spL40 c)
noncomputable def sp40 (c : Config) : R40 := (spO40 c).getD default
noncomputable def spc40 (c : Config) : Bool := (spO40 c).isSome
theorem oks40 (c : Config) (hc : spc40 c = true) : Okay Pr GL 40 [.agg [.v (.int .i64 c.frames), .v (.int .i64 c.major), .v (.int .i64 c.kernel), .v (.int .i64 c.room), .sl (.sl .sWindow) c.cores, .sl .sPartition c.partitions, .sl .sChannel c.channels]] [] (to40 (sp40 c)) := by
  obtain ⟨n, h⟩ := auto_ok (nat40 c) (fun s => show ent40 to40 c (fun l => (s l).map to40) = (ent40 id c s).map to40 by simp only [ent40, map_cond, Option.map_some, Option.map_none, id]) (ct40 c) (show CT fun j => ent40 id c j by dsimp only [ent40]; repeat (first | exact CT.jump _ | exact CT.const _ | apply CT.cond)) (isSome_getD hc)
  exact okay_of_run (H := H40) GJok G0ok Tryd.func40 rfl (by kernel_rfl) n (by
    rw [run40]
    rw [show (fun l => runL Pr GJ H40 Tryd.f40 n (num40 l) (st40 c l)) = shad (bod40 to40 c) n from funext (shad40 c n)]
    exact h)

/-! ### ref28.May -/
abbrev R4 := Bool × Int
def to4 (r : R4) : Ans := ⟨.tup [.v (.bool r.1), .v (.int .i64 r.2)], []⟩
def H4 : Hint := ⟨fun _ => false, fun _ => ⟨[], []⟩, [], G0, nodp⟩
noncomputable def ent4 {R : Type} (ret : R4 → R) (c : Config) (p : Int) (o : Owner) : Option R :=
    cond (spc8 c) (
    cond (!(((sp8 c).1 : Int) == 0))
      (some (ret (false, 1)))
      (cond (decide ((p : Int) < (-1)))
        (some (ret (false, 1)))
        (cond (decide ((p : Int) ≥ c.partitions.length))
          (some (ret (false, 1)))
          (cond (spc9 c) (
            cond (spc10 (sp9 c) o) (
              cond (!(sp10 (sp9 c) o))
                (some (ret (false, 1)))
                (cond ((p : Int) == (-1))
                  (cond ((o.kind : Int) == 7)
                    (some (ret (true, 0)))
                    (cond ((o.kind : Int) == 8)
                      (some (ret (true, 0)))
                      (some (ret (((o.kind : Int) == 2), 0)))))
                  (cond ((o.kind : Int) == 1)
                    (some (ret (((o.index : Int) == p), 0)))
                    (cond ((o.kind : Int) == 3)
                      (some (ret (((o.index : Int) == p), 0)))
                      (cond ((o.kind : Int) == 4)
                        (some (ret (((o.index : Int) == p), 0)))
                        (cond ((o.kind : Int) == 5)
                          (some (ret (((o.index : Int) == p), 0)))
                          (cond ((o.kind : Int) == 8)
                            (some (ret (((o.index : Int) == p), 0)))
                            (cond ((o.kind : Int) == 6)
                              (cond (spc11 c p o.index) (some (ret ((sp11 c p o.index).1, 0))) none)
                              (cond ((o.kind : Int) == 7)
                                (cond (spc11 c p o.index) (some (ret ((sp11 c p o.index).2, 0))) none)
                                (some (ret (((o.kind : Int) == 2), 0)))))))))))) none) none)))) none
theorem run4 (J : Jmp) (c : Config) (p : Int) (o : Owner) : runF Pr GJ H4 J GL Tryd.f4 [.agg [.v (.int .i64 c.frames), .v (.int .i64 c.major), .v (.int .i64 c.kernel), .v (.int .i64 c.room), .sl (.sl .sWindow) c.cores, .sl .sPartition c.partitions, .sl .sChannel c.channels], .v (.int .i64 p), .agg [.v (.int .i64 o.kind), .v (.int .i64 o.index), .v (.int .i64 o.port)]] [] = ent4 to4 c p o := by kernel_rfl
/-- ref28.May -/
noncomputable def spO4 (c : Config) (p : Int) (o : Owner) : Option R4 := ent4 id c p o
noncomputable def sp4 (c : Config) (p : Int) (o : Owner) : R4 := (spO4 c p o).getD default
noncomputable def spc4 (c : Config) (p : Int) (o : Owner) : Bool := (spO4 c p o).isSome
theorem oks4 (c : Config) (p : Int) (o : Owner) (hc : spc4 c p o = true) : Okay Pr GL 4 [.agg [.v (.int .i64 c.frames), .v (.int .i64 c.major), .v (.int .i64 c.kernel), .v (.int .i64 c.room), .sl (.sl .sWindow) c.cores, .sl .sPartition c.partitions, .sl .sChannel c.channels], .v (.int .i64 p), .agg [.v (.int .i64 o.kind), .v (.int .i64 o.index), .v (.int .i64 o.port)]] [] (to4 (sp4 c p o)) :=
  okay_of_run (H := H4) GJok G0ok Tryd.func4 rfl (by kernel_rfl) 0 ((run4 (runL Pr GJ H4 Tryd.f4 0) c p o).trans (auto_ok0 (show ent4 to4 c p o = (ent4 id c p o).map to4 by simp only [ent4, map_cond, Option.map_some, Option.map_none, id]) (isSome_getD hc)))

noncomputable def g40 (args : List AV) (hp : List Blk) : Option (Bool × AV × List Blk) :=
  match hp, args with
  | [], [x0] => (rdS .sConfig x0).bind fun a0 => some ((spc40 a0), .own 0, [.arr 91 .f (sp40 a0)])
  | _, _ => none
theorem g40_ok {args : List AV} {hp : List Blk} {b : Bool} {r : AV} {hp' : List Blk} (h : g40 args hp = some (b, r, hp')) (hb : b = true) : FnOk Pr 40 ∧ Okay Pr GL 40 args hp ⟨r, hp'⟩ := by
  unfold g40 at h
  split at h
  · simp only [Option.bind_eq_some_iff] at h
    obtain ⟨a0, h0, h⟩ := h
    cases h; exact ⟨fnok Tryd.func40 (by kernel_rfl) rfl, (oks40 a0 hb).ats (.cons (rdS_V h0) .nil)⟩
  · cases h
noncomputable def g4 (args : List AV) (hp : List Blk) : Option (Bool × AV × List Blk) :=
  match hp, args with
  | [], [x0, x1, x2] => (rdS .sConfig x0).bind fun a0 => (rdL (.i .i64) x1).bind fun a1 => (rdS .sOwner x2).bind fun a2 => some ((spc4 a0 a1 a2), .tup [.v (.bool ((sp4 a0 a1 a2).1)), .v (.int .i64 ((sp4 a0 a1 a2).2))], [])
  | _, _ => none
theorem g4_ok {args : List AV} {hp : List Blk} {b : Bool} {r : AV} {hp' : List Blk} (h : g4 args hp = some (b, r, hp')) (hb : b = true) : FnOk Pr 4 ∧ Okay Pr GL 4 args hp ⟨r, hp'⟩ := by
  unfold g4 at h
  split at h
  · simp only [Option.bind_eq_some_iff] at h
    obtain ⟨a0, h0, a1, h1, a2, h2, h⟩ := h
    cases h; exact ⟨fnok Tryd.func4 (by kernel_rfl) rfl, (oks4 a0 a1 a2 hb).ats (.cons (rdS_V h0) (.cons (rdL_V h1) (.cons (rdS_V h2) .nil)))⟩
  · cases h
noncomputable def GK : Gam := fun c args hp => match c with
  | .f f => pick1 40 f (g40 args hp) (pick1 4 f (g4 args hp) (GJ (.f f) args hp))
  | .c x => GJ (.c x) args hp
theorem GKok : GOk Pr GL GK := by
  intro c args hp b r hp' h hb
  cases c with
  | f f =>
    simp only [GK] at h
    rcases pick1_ok h with ⟨rfl, h⟩ | h
    · exact g40_ok h hb
    rcases pick1_ok h with ⟨rfl, h⟩ | h
    · exact g4_ok h hb
    exact GJok (.f f) args hp b r hp' h hb
  | c x => exact GJok (.c x) args hp b r hp' h hb
end Go.Proofs.YthnkmndjhedgdaaDoor
