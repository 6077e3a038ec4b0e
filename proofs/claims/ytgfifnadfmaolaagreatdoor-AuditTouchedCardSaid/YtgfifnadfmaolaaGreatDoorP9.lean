/- Shadows of functions (printed by pr2.py off the model's code; the kernel holds each equation to it), and what they answer. -/
import Derived.Test.YtgfifnadfmaolaaGreatDoorP8
namespace Go.Proofs.YtgfifnadfmaolaaGreatDoor
open Go.RowKit
set_option linter.unusedVariables false
set_option linter.unusedSimpArgs false
/-! ### admit.questions$9 -/
abbrev R143 := AdmitFound
def to143 (r : R143) : Ans := ⟨.agg [.v (.int .i64 r.e), .v (.int .i64 r.where_.first), .v (.int .i64 r.where_.second)], []⟩
def H143 : Hint := ⟨fun _ => false, fun _ => ⟨[], []⟩, [], G0, nodp⟩
noncomputable def ent143 {R : Type} (ret : R143 → R) (a : Config) : Option R :=
    cond (spc144 a) (some (ret (sp131 (sp144 a) 423 nowhere))) none
theorem run143 (J : Jmp) (a : Config) : runF Pr GI H143 J GL Tryz.f143 [.op .sConfig (some a)] [] = ent143 to143 a := by kernel_rfl
noncomputable def spO143 (a : Config) : Option R143 := ent143 id a
noncomputable def sp143 (a : Config) : R143 := (spO143 a).getD default
noncomputable def spc143 (a : Config) : Bool := (spO143 a).isSome
theorem oks143 (a : Config) (hc : spc143 a = true) : Okay Pr GL 143 [.op .sConfig (some a)] [] (to143 (sp143 a)) :=
  okay_of_run (H := H143) GIok G0ok Tryz.func143 rfl (by kernel_rfl) 0 ((run143 (runL Pr GI H143 Tryz.f143 0) a).trans (auto_ok0 (show ent143 to143 a = (ent143 id a).map to143 by simp only [ent143, map_cond, Option.map_some, Option.map_none, id]) (isSome_getD hc)))

/-! ### ref16.Check -/
abbrev R29 := Int × Where
def to29 (r : R29) : Ans := ⟨.tup [.v (.int .i64 r.1), .agg [.v (.int .i64 r.2.first), .v (.int .i64 r.2.second)]], []⟩
inductive L29 where
  | l0 (x0 : Int)
  | l4 (x0 : Int)
  | l8 (x0 : Int)
def num29 : L29 → Nat
  | .l0 _ => 0
  | .l4 _ => 4
  | .l8 _ => 8
def H29 : Hint := ⟨fun n => [].any (Nat.beq n), hdAt [(0, ⟨fgt [1, 3, 5] 73 0, []⟩), (4, ⟨fgt [1, 3, 8] 73 0, []⟩), (8, ⟨fgt [1, 3, 10] 73 0, []⟩)], [], G0, nodp⟩
noncomputable def st29 (c : Config) : L29 → St
  | .l0 x0 => ⟨mkE [(1, .ref 0 0), (3, .ref 1 0), (5, .v (.int .i64 x0))] 73 0, [.cells 26 [.v (.int .i64 c.frames), .v (.int .i64 c.major), .v (.int .i64 c.kernel), .v (.int .i64 c.room), .sl (.sl .sWindow) c.cores, .sl .sPartition c.partitions, .sl .sChannel c.channels], .cells 76 [.v (.int .i64 0), .v (.int .i64 0)]], GL, 0, [], nodp⟩
  | .l4 x0 => ⟨mkE [(1, .ref 0 0), (3, .ref 1 0), (8, .v (.int .i64 x0))] 73 0, [.cells 26 [.v (.int .i64 c.frames), .v (.int .i64 c.major), .v (.int .i64 c.kernel), .v (.int .i64 c.room), .sl (.sl .sWindow) c.cores, .sl .sPartition c.partitions, .sl .sChannel c.channels], .cells 76 [.v (.int .i64 0), .v (.int .i64 0)]], GL, 0, [], nodp⟩
  | .l8 x0 => ⟨mkE [(1, .ref 0 0), (3, .ref 1 0), (10, .v (.int .i64 x0))] 73 0, [.cells 26 [.v (.int .i64 c.frames), .v (.int .i64 c.major), .v (.int .i64 c.kernel), .v (.int .i64 c.room), .sl (.sl .sWindow) c.cores, .sl .sPartition c.partitions, .sl .sChannel c.channels], .cells 76 [.v (.int .i64 0), .v (.int .i64 0)]], GL, 0, [], nodp⟩
noncomputable def bod29 {R : Type} (ret : R29 → R) (c : Config) (j : L29 → Option R) : L29 → Option R
  | .l0 x0 => cond (decide ((x0 : Int) < c.partitions.length))
    (cond (spc58 c x0) (
      cond (!(((sp58 c x0).1 : Int) == 0))
        (some (ret ((sp58 c x0).1, (sp58 c x0).2)))
        (j (.l0 (IntKind.i64.wrap (x0 + 1))))) none)
    (j (.l4 0))
  | .l4 x0 => cond (decide ((x0 : Int) < c.channels.length))
    (cond (spc59 c x0) (
      cond (!(((sp59 c x0) : Int) == 0))
        (some (ret ((sp59 c x0), (sp60 x0))))
        (j (.l4 (IntKind.i64.wrap (x0 + 1))))) none)
    (j (.l8 0))
  | .l8 x0 => cond (decide ((x0 : Int) < c.cores.length))
    (cond (spc61 c x0) (
      cond (!(((sp61 c x0).1 : Int) == 0))
        (some (ret ((sp61 c x0).1, (sp61 c x0).2)))
        (j (.l8 (IntKind.i64.wrap (x0 + 1))))) none)
    (cond (spc62 c) (cond (!(sp62 c))
        (some (ret (423, sp57)))
        (some (ret (0, (⟨0, 0⟩ : Where))))) none)
noncomputable def ent29 {R : Type} (ret : R29 → R) (c : Config) (j : L29 → Option R) : Option R :=
    cond (!(((sp56 c) : Int) == 0))
    (some (ret ((sp56 c), sp57)))
    (j (.l0 0))
theorem head29_0 (J : Jmp) (c : Config) (x0 : Int) : stepAt Pr GI H29 J 0 0 (bodyOf Tryz.f29) (fin Pr H29 Tryz.f29) (st29 c (.l0 x0)) = bod29 to29 c (fun l => J (num29 l) (st29 c l)) (.l0 x0) := by kernel_rfl
theorem head29_4 (J : Jmp) (c : Config) (x0 : Int) : stepAt Pr GI H29 J 4 0 (bodyOf Tryz.f29) (fin Pr H29 Tryz.f29) (st29 c (.l4 x0)) = bod29 to29 c (fun l => J (num29 l) (st29 c l)) (.l4 x0) := by kernel_rfl
theorem head29_8 (J : Jmp) (c : Config) (x0 : Int) : stepAt Pr GI H29 J 8 0 (bodyOf Tryz.f29) (fin Pr H29 Tryz.f29) (st29 c (.l8 x0)) = bod29 to29 c (fun l => J (num29 l) (st29 c l)) (.l8 x0) := by kernel_rfl
theorem run29 (J : Jmp) (c : Config) : runF Pr GI H29 J GL Tryz.f29 [(aCfg c)] [] = ent29 to29 c (fun l => J (num29 l) (st29 c l)) := by kernel_rfl
theorem shad29 (c : Config) : ∀ (n : Nat) (l : L29), runL Pr GI H29 Tryz.f29 n (num29 l) (st29 c l) = shad (bod29 to29 c) n l
  | 0, l => by cases l <;> rfl
  | n + 1, l => by
    have ih : (fun l => runL Pr GI H29 Tryz.f29 n (num29 l) (st29 c l)) = shad (bod29 to29 c) n := funext (shad29 c n)
    cases l with
    | l0 x0 => exact (step_eq ..).trans ((head29_0 ..).trans (by rw [ih]; rfl))
    | l4 x0 => exact (step_eq ..).trans ((head29_4 ..).trans (by rw [ih]; rfl))
    | l8 x0 => exact (step_eq ..).trans ((head29_8 ..).trans (by rw [ih]; rfl))
theorem nat29 (c : Config) (s : L29 → Option R29) (l : L29) : bod29 to29 c (fun l => (s l).map to29) l = (bod29 id c s l).map to29 := by
  cases l <;> simp only [bod29, map_cond, Option.map_some, Option.map_none, id]
theorem ct29 (c : Config) (l : L29) : CT fun j => bod29 id c j l := by
  cases l <;> (dsimp only [bod29]; repeat (first | exact CT.jump _ | exact CT.const _ | apply CT.cond))
noncomputable def spL29 (c : Config) : L29 → Option R29 := lfp (bod29 id c)
theorem spL29_eq (c : Config) (l : L29) : spL29 c l = bod29 id c (spL29 c) l := lfp_eq (ct29 c) l
noncomputable def spO29 (c : Config) : Option R29 := ent29 id c (spL29 c)
noncomputable def sp29 (c : Config) : R29 := (spO29 c).getD default
noncomputable def spc29 (c : Config) : Bool := (spO29 c).isSome
theorem oks29 (c : Config) (hc : spc29 c = true) : Okay Pr GL 29 [(aCfg c)] [] (to29 (sp29 c)) := by
  obtain ⟨n, h⟩ := auto_ok (nat29 c) (fun s => show ent29 to29 c (fun l => (s l).map to29) = (ent29 id c s).map to29 by simp only [ent29, map_cond, Option.map_some, Option.map_none, id]) (ct29 c) (show CT fun j => ent29 id c j by dsimp only [ent29]; repeat (first | exact CT.jump _ | exact CT.const _ | apply CT.cond)) (isSome_getD hc)
  exact okay_of_run (H := H29) GIok G0ok Tryz.func29 rfl (by kernel_rfl) n (by
    rw [run29]
    rw [show (fun l => runL Pr GI H29 Tryz.f29 n (num29 l) (st29 c l)) = shad (bod29 to29 c) n from funext (shad29 c n)]
    exact h)

noncomputable def g143 (args : List AV) (hp : List Blk) : Option (Bool × AV × List Blk) :=
  match hp, args with
  | [], [x0] => (rdP .sConfig x0).bind fun a0 => some ((spc143 a0), .agg [.v (.int .i64 ((sp143 a0).e)), .v (.int .i64 ((sp143 a0).where_.first)), .v (.int .i64 ((sp143 a0).where_.second))], [])
  | _, _ => none
theorem g143_ok {args : List AV} {hp : List Blk} {b : Bool} {r : AV} {hp' : List Blk} (h : g143 args hp = some (b, r, hp')) (hb : b = true) : FnOk Pr 143 ∧ Okay Pr GL 143 args hp ⟨r, hp'⟩ := by
  unfold g143 at h
  split at h
  · simp only [Option.bind_eq_some_iff] at h
    obtain ⟨a0, h0, h⟩ := h
    cases h; exact ⟨fnok Tryz.func143 (by kernel_rfl) rfl, (oks143 a0 hb).ats (.cons (rdP_V h0) .nil)⟩
  · cases h
noncomputable def g29 (args : List AV) (hp : List Blk) : Option (Bool × AV × List Blk) :=
  match hp, args with
  | [], [x0] => (rdS .sConfig x0).bind fun a0 => some ((spc29 a0), .tup [.v (.int .i64 ((sp29 a0).1)), .agg [.v (.int .i64 ((sp29 a0).2.first)), .v (.int .i64 ((sp29 a0).2.second))]], [])
  | _, _ => none
theorem g29_ok {args : List AV} {hp : List Blk} {b : Bool} {r : AV} {hp' : List Blk} (h : g29 args hp = some (b, r, hp')) (hb : b = true) : FnOk Pr 29 ∧ Okay Pr GL 29 args hp ⟨r, hp'⟩ := by
  unfold g29 at h
  split at h
  · simp only [Option.bind_eq_some_iff] at h
    obtain ⟨a0, h0, h⟩ := h
    cases h; exact ⟨fnok Tryz.func29 (by kernel_rfl) rfl, (oks29 a0 hb).ats (.cons (rdS_V h0) .nil)⟩
  · cases h
noncomputable def ask (x : Clo) : AdmitFound := match x with
  | .c130 c0 => sp130 c0
  | .c133 c0 => sp133 c0
  | .c134 c0 => sp134 c0
  | .c135 c0 => sp135 c0
  | .c136 c0 => sp136 c0
  | .c137 c0 c1 => sp137 c0 c1
  | .c139 c0 c1 => sp139 c0 c1
  | .c141 c0 c1 => sp141 c0 c1
  | .c143 c0 => sp143 c0
  | _ => default
noncomputable def askc (x : Clo) : Bool := match x with
  | .c130 c0 => true
  | .c133 c0 => true
  | .c134 c0 => true
  | .c135 c0 => true
  | .c136 c0 => true
  | .c137 c0 c1 => spc137 c0 c1
  | .c139 c0 c1 => spc139 c0 c1
  | .c141 c0 c1 => spc141 c0 c1
  | .c143 c0 => spc143 c0
  | _ => false
noncomputable def gask (x : Clo) (args : List AV) (hp : List Blk) : Option (Bool × AV × List Blk) :=
  match hp, args with
  | [], [] => some (askc x, .agg [.v (.int .i64 ((ask x).e)), .v (.int .i64 ((ask x).where_.first)), .v (.int .i64 ((ask x).where_.second))], [])
  | _, _ => none
theorem gask_ok {x : Clo} {args : List AV} {hp : List Blk} {b : Bool} {r : AV} {hp' : List Blk} (h : gask x args hp = some (b, r, hp')) (hb : b = true) : OkC Pr GL (.c x) args hp ⟨r, hp'⟩ := by
  unfold gask at h
  split at h
  · cases h
    cases x with
    | none => cases hb
    | c130 c0 => exact ⟨130, _, by kernel_rfl, fnok Tryz.func130 (by kernel_rfl) rfl, oks130 c0⟩
    | c133 c0 => exact ⟨133, _, by kernel_rfl, fnok Tryz.func133 (by kernel_rfl) rfl, oks133 c0⟩
    | c134 c0 => exact ⟨134, _, by kernel_rfl, fnok Tryz.func134 (by kernel_rfl) rfl, oks134 c0⟩
    | c135 c0 => exact ⟨135, _, by kernel_rfl, fnok Tryz.func135 (by kernel_rfl) rfl, oks135 c0⟩
    | c136 c0 => exact ⟨136, _, by kernel_rfl, fnok Tryz.func136 (by kernel_rfl) rfl, oks136 c0⟩
    | c137 c0 c1 => exact ⟨137, _, by kernel_rfl, fnok Tryz.func137 (by kernel_rfl) rfl, oks137 c0 c1 hb⟩
    | c139 c0 c1 => exact ⟨139, _, by kernel_rfl, fnok Tryz.func139 (by kernel_rfl) rfl, oks139 c0 c1 hb⟩
    | c141 c0 c1 => exact ⟨141, _, by kernel_rfl, fnok Tryz.func141 (by kernel_rfl) rfl, oks141 c0 c1 hb⟩
    | c143 c0 => exact ⟨143, _, by kernel_rfl, fnok Tryz.func143 (by kernel_rfl) rfl, oks143 c0 hb⟩
    | c145 c0 => cases hb
    | c146 c0 => cases hb
  · cases h
noncomputable def gcloask (x : Clo) (args : List AV) (hp : List Blk) : Option (Bool × AV × List Blk) :=
  match args with
  | [] => gask x [] hp
  | _ => none
theorem gcloask_ok {x : Clo} {args : List AV} {hp : List Blk} {b : Bool} {r : AV} {hp' : List Blk} (h : gcloask x args hp = some (b, r, hp')) (hb : b = true) : OkC Pr GL (.c x) args hp ⟨r, hp'⟩ := by
  unfold gcloask at h
  split at h
  · exact gask_ok h hb
  · cases h
noncomputable def GJ : Gam := fun c args hp => match c with
  | .f f => pick1 143 f (g143 args hp) (pick1 29 f (g29 args hp) (GI (.f f) args hp))
  | .c x => gcloask x args hp
theorem GJok : GOk Pr GL GJ := by
  intro c args hp b r hp' h hb
  cases c with
  | f f =>
    simp only [GJ] at h
    rcases pick1_ok h with ⟨rfl, h⟩ | h
    · exact g143_ok h hb
    rcases pick1_ok h with ⟨rfl, h⟩ | h
    · exact g29_ok h hb
    exact GIok (.f f) args hp b r hp' h hb
  | c x => exact gcloask_ok h hb
end Go.Proofs.YtgfifnadfmaolaaGreatDoor
