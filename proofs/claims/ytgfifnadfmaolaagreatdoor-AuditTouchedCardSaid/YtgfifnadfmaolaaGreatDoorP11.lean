/- Shadows of functions (printed by pr2.py off the model's code; the kernel holds each equation to it), and what they answer. -/
import Derived.Test.YtgfifnadfmaolaaGreatDoorP10
namespace Go.Proofs.YtgfifnadfmaolaaGreatDoor
open Go.RowKit
set_option linter.unusedVariables false
set_option linter.unusedSimpArgs false
/-! ### admit.Check -/
abbrev R49 := Int × Where
def to49 (r : R49) : Ans := ⟨.tup [.v (.int .i64 r.1), .agg [.v (.int .i64 r.2.first), .v (.int .i64 r.2.second)]], []⟩
inductive L49 where
  | l0 (x0 : Int)
def num49 : L49 → Nat
  | .l0 _ => 0
def H49 : Hint := ⟨fun n => [].any (Nat.beq n), hdAt [(0, ⟨fgt [3, 8, 9, 10] 25 0, []⟩)], [], G0, nodp⟩
noncomputable def st49 (c : Config) : L49 → St
  | .l0 x0 => ⟨mkE [(3, .ref 0 0), (8, .own 1), (9, .v (.int .i64 ((sp96 c).length))), (10, .v (.int .i64 x0))] 25 0, [.cells 76 [.v (.int .i64 0), .v (.int .i64 0)], .arr 182 .f (sp96 c)], GL, 0, [], nodp⟩
noncomputable def bod49 {R : Type} (ret : R49 → R) (c : Config) (j : L49 → Option R) : L49 → Option R
  | .l0 x0 => cond (decide ((x0 : Int) < (sp96 c).length))
    (cond (inR x0 (sp96 c).length) (
      cond (askc (atClo (sp96 c) x0.toNat)) (
        cond (!((((ask (atClo (sp96 c) x0.toNat)).e : Int) == fine.e) && (((((ask (atClo (sp96 c) x0.toNat)).where_.first : Int) == fine.where_.first) && ((((ask (atClo (sp96 c) x0.toNat)).where_.second : Int) == fine.where_.second) && true)) && true)))
          (some (ret ((ask (atClo (sp96 c) x0.toNat)).e, (ask (atClo (sp96 c) x0.toNat)).where_)))
          (j (.l0 (IntKind.i64.wrap (x0 + 1))))) none) none)
    (some (ret (0, (⟨0, 0⟩ : Where))))
noncomputable def ent49 {R : Type} (ret : R49 → R) (c : Config) (j : L49 → Option R) : Option R :=
    cond (spc96 c) (j (.l0 0)) none
theorem head49_0 (J : Jmp) (c : Config) (x0 : Int) : stepAt Pr GK H49 J 0 0 (bodyOf Tryz.f49) (fin Pr H49 Tryz.f49) (st49 c (.l0 x0)) = bod49 to49 c (fun l => J (num49 l) (st49 c l)) (.l0 x0) := by kernel_rfl
theorem run49 (J : Jmp) (c : Config) : runF Pr GK H49 J GL Tryz.f49 [(aCfg c)] [] = ent49 to49 c (fun l => J (num49 l) (st49 c l)) := by kernel_rfl
theorem shad49 (c : Config) : ∀ (n : Nat) (l : L49), runL Pr GK H49 Tryz.f49 n (num49 l) (st49 c l) = shad (bod49 to49 c) n l
  | 0, l => by cases l <;> rfl
  | n + 1, l => by
    have ih : (fun l => runL Pr GK H49 Tryz.f49 n (num49 l) (st49 c l)) = shad (bod49 to49 c) n := funext (shad49 c n)
    cases l with
    | l0 x0 => exact (step_eq ..).trans ((head49_0 ..).trans (by rw [ih]; rfl))
theorem nat49 (c : Config) (s : L49 → Option R49) (l : L49) : bod49 to49 c (fun l => (s l).map to49) l = (bod49 id c s l).map to49 := by
  cases l <;> simp only [bod49, map_cond, Option.map_some, Option.map_none, id]
theorem ct49 (c : Config) (l : L49) : CT fun j => bod49 id c j l := by
  cases l <;> (dsimp only [bod49]; repeat (first | exact CT.jump _ | exact CT.const _ | apply CT.cond))
noncomputable def spL49 (c : Config) : L49 → Option R49 := lfp (bod49 id c)
theorem spL49_eq (c : Config) (l : L49) : spL49 c l = bod49 id c (spL49 c) l := lfp_eq (ct49 c) l
noncomputable def spO49 (c : Config) : Option R49 := ent49 id c (spL49 c)
noncomputable def sp49 (c : Config) : R49 := (spO49 c).getD default
noncomputable def spc49 (c : Config) : Bool := (spO49 c).isSome
theorem oks49 (c : Config) (hc : spc49 c = true) : Okay Pr GL 49 [(aCfg c)] [] (to49 (sp49 c)) := by
  obtain ⟨n, h⟩ := auto_ok (nat49 c) (fun s => show ent49 to49 c (fun l => (s l).map to49) = (ent49 id c s).map to49 by simp only [ent49, map_cond, Option.map_some, Option.map_none, id]) (ct49 c) (show CT fun j => ent49 id c j by dsimp only [ent49]; repeat (first | exact CT.jump _ | exact CT.const _ | apply CT.cond)) (isSome_getD hc)
  exact okay_of_run (H := H49) GKok G0ok Tryz.func49 rfl (by kernel_rfl) n (by
    rw [run49]
    rw [show (fun l => runL Pr GK H49 Tryz.f49 n (num49 l) (st49 c l)) = shad (bod49 to49 c) n from funext (shad49 c n)]
    exact h)

/-! ### ref28.Touched -/
abbrev R6 := (List Owner) × Int
def to6 (r : R6) : Ans := ⟨.tup [.sl .sOwner r.1, .v (.int .i64 r.2)], []⟩
inductive L6 where
  | l0 (x0 : Int) (x1 : List Owner)
  | l13 (x1 : Int) (x0 : List Owner)
def num6 : L6 → Nat
  | .l0 _ _ => 0
  | .l13 _ _ => 13
def H6 : Hint := ⟨fun n => [6].any (Nat.beq n), hdAt [(0, ⟨fgt [1, 2, 3, 8, 9] 52 0, [(.slot 8, .own 42 .sOwner)]⟩), (13, ⟨fgt [1, 2, 3, 8, 9] 52 0, [(.slot 8, .own 42 .sOwner)]⟩)], [(.slot 0, .sl .sOwner)], G0, nodp⟩
noncomputable def st6 (c : Config) (a : (List Int)) (b : (List Int)) : L6 → St
  | .l0 x0 x1 => ⟨mkE [(1, .sl (.i .u32) a), (2, .sl (.i .u32) b), (3, .ref 0 0), (8, .own 1), (9, .v (.int .i64 x0))] 52 0, [.cells 26 [.v (.int .i64 c.frames), .v (.int .i64 c.major), .v (.int .i64 c.kernel), .v (.int .i64 c.room), .sl (.sl .sWindow) c.cores, .sl .sPartition c.partitions, .sl .sChannel c.channels], .arr 42 .sOwner x1], GL, 0, [], nodp⟩
  | .l13 x1 x0 => ⟨mkE [(1, .sl (.i .u32) a), (2, .sl (.i .u32) b), (3, .ref 0 0), (8, .own 1), (9, .v (.int .i64 x1))] 52 0, [.cells 26 [.v (.int .i64 c.frames), .v (.int .i64 c.major), .v (.int .i64 c.kernel), .v (.int .i64 c.room), .sl (.sl .sWindow) c.cores, .sl .sPartition c.partitions, .sl .sChannel c.channels], .arr 42 .sOwner x0], GL, 0, [], nodp⟩
noncomputable def bod6 {R : Type} (ret : R6 → R) (c : Config) (a : (List Int)) (b : (List Int)) (j : L6 → Option R) : L6 → Option R
  | .l0 x0 x1 => cond (decide ((x0 : Int) < a.length))
    (cond (inR x0 a.length) (
      cond (inR x0 b.length) (
        cond ((atInt a x0.toNat : Int) == atInt b x0.toNat)
          (j (.l13 x0 x1))
          (cond (spc22 c x0) (
            cond (spc23 x1 ((sp22 c x0).1)) (
              cond (!(sp23 x1 ((sp22 c x0).1)))
                (cond (leB (((x1 : List Owner).length + ([(sp22 c x0).1] : List Owner).length) * 24) 140737488355328) (j (.l13 x0 ((x1 : List Owner) ++ [(sp22 c x0).1]))) none)
                (j (.l13 x0 x1))) none) none)) none) none)
    (some (ret (x1, 0)))
  | .l13 x1 x0 => j (.l0 (IntKind.i64.wrap (x1 + 1)) x0)
noncomputable def ent6 {R : Type} (ret : R6 → R) (c : Config) (a : (List Int)) (b : (List Int)) (j : L6 → Option R) : Option R :=
    cond (spc21 c a) (
    cond (!(sp21 c a))
      (some (ret ([], 1)))
      (cond (spc21 c b) (cond (!(sp21 c b))
          (some (ret ([], 1)))
          (j (.l0 0 []))) none)) none
theorem head6_0 (J : Jmp) (c : Config) (a : (List Int)) (b : (List Int)) (x0 : Int) (x1 : List Owner) : stepAt Pr GK H6 J 0 0 (bodyOf Tryz.f6) (fin Pr H6 Tryz.f6) (st6 c a b (.l0 x0 x1)) = bod6 to6 c a b (fun l => J (num6 l) (st6 c a b l)) (.l0 x0 x1) := by kernel_rfl
theorem head6_13 (J : Jmp) (c : Config) (a : (List Int)) (b : (List Int)) (x1 : Int) (x0 : List Owner) : stepAt Pr GK H6 J 13 0 (bodyOf Tryz.f6) (fin Pr H6 Tryz.f6) (st6 c a b (.l13 x1 x0)) = bod6 to6 c a b (fun l => J (num6 l) (st6 c a b l)) (.l13 x1 x0) := by kernel_rfl
theorem run6 (J : Jmp) (c : Config) (a : (List Int)) (b : (List Int)) : runF Pr GK H6 J GL Tryz.f6 [(aCfg c), .sl (.i .u32) a, .sl (.i .u32) b] [] = ent6 to6 c a b (fun l => J (num6 l) (st6 c a b l)) := by kernel_rfl
theorem shad6 (c : Config) (a : (List Int)) (b : (List Int)) : ∀ (n : Nat) (l : L6), runL Pr GK H6 Tryz.f6 n (num6 l) (st6 c a b l) = shad (bod6 to6 c a b) n l
  | 0, l => by cases l <;> rfl
  | n + 1, l => by
    have ih : (fun l => runL Pr GK H6 Tryz.f6 n (num6 l) (st6 c a b l)) = shad (bod6 to6 c a b) n := funext (shad6 c a b n)
    cases l with
    | l0 x0 x1 => exact (step_eq ..).trans ((head6_0 ..).trans (by rw [ih]; rfl))
    | l13 x1 x0 => exact (step_eq ..).trans ((head6_13 ..).trans (by rw [ih]; rfl))
theorem nat6 (c : Config) (a : (List Int)) (b : (List Int)) (s : L6 → Option R6) (l : L6) : bod6 to6 c a b (fun l => (s l).map to6) l = (bod6 id c a b s l).map to6 := by
  cases l <;> simp only [bod6, map_cond, Option.map_some, Option.map_none, id]
theorem ct6 (c : Config) (a : (List Int)) (b : (List Int)) (l : L6) : CT fun j => bod6 id c a b j l := by
  cases l <;> (dsimp only [bod6]; repeat (first | exact CT.jump _ | exact CT.const _ | apply CT.cond))
noncomputable def spL6 (c : Config) (a : (List Int)) (b : (List Int)) : L6 → Option R6 := lfp (bod6 id c a b)
theorem spL6_eq (c : Config) (a : (List Int)) (b : (List Int)) (l : L6) : spL6 c a b l = bod6 id c a b (spL6 c a b) l := lfp_eq (ct6 c a b) l
noncomputable def spO6 (c : Config) (a : (List Int)) (b : (List Int)) : Option R6 := ent6 id c a b (spL6 c a b)
noncomputable def sp6 (c : Config) (a : (List Int)) (b : (List Int)) : R6 := (spO6 c a b).getD default
noncomputable def spc6 (c : Config) (a : (List Int)) (b : (List Int)) : Bool := (spO6 c a b).isSome
theorem oks6 (c : Config) (a : (List Int)) (b : (List Int)) (hc : spc6 c a b = true) : Okay Pr GL 6 [(aCfg c), .sl (.i .u32) a, .sl (.i .u32) b] [] (to6 (sp6 c a b)) := by
  obtain ⟨n, h⟩ := auto_ok (nat6 c a b) (fun s => show ent6 to6 c a b (fun l => (s l).map to6) = (ent6 id c a b s).map to6 by simp only [ent6, map_cond, Option.map_some, Option.map_none, id]) (ct6 c a b) (show CT fun j => ent6 id c a b j by dsimp only [ent6]; repeat (first | exact CT.jump _ | exact CT.const _ | apply CT.cond)) (isSome_getD hc)
  exact okay_of_run (H := H6) GKok G0ok Tryz.func6 rfl (by kernel_rfl) n (by
    rw [run6]
    rw [show (fun l => runL Pr GK H6 Tryz.f6 n (num6 l) (st6 c a b l)) = shad (bod6 to6 c a b) n from funext (shad6 c a b n)]
    exact h)

/-! ### law28.laid -/
abbrev R5 := (List Int)
def to5 (r : R5) : Ans := ⟨.own 0, [.arr 57 (.i .u32) r]⟩
inductive L5 where
  | l9 (x0 : List Int)
  | l0 (x1 : Int) (x0 : List Int)
  | l13 (x1 : Int) (x0 : List Int)
def num5 : L5 → Nat
  | .l9 _ => 9
  | .l0 _ _ => 0
  | .l13 _ _ => 13
def H5 : Hint := ⟨fun n => [4, 6].any (Nat.beq n), hdAt [(9, ⟨fgt [1, 5, 32, 33, 34, 35, 36, 37, 38, 39] 54 0, []⟩), (0, ⟨fgt [1, 5, 8, 32, 33, 34, 35, 36, 37, 38, 39] 54 0, []⟩), (13, ⟨fgt [1, 5, 8] 54 0, []⟩)], [], G0, nodp⟩
noncomputable def st5 (c : Config) (turns : (List Bulkheadlaw28Turn)) : L5 → St
  | .l9 x0 => ⟨mkE [(1, .sl .sBulkheadlaw28Turn turns), (5, .own 0)] 54 0, [.arr 57 (.i .u32) x0], GL, 0, [], nodp⟩
  | .l0 x1 x0 => ⟨mkE [(1, .sl .sBulkheadlaw28Turn turns), (5, .own 0), (8, .v (.int .i64 x1))] 54 0, [.arr 57 (.i .u32) x0], GL, 0, [], nodp⟩
  | .l13 x1 x0 => ⟨mkE [(1, .sl .sBulkheadlaw28Turn turns), (5, .own 0), (8, .v (.int .i64 x1))] 54 0, [.arr 57 (.i .u32) x0], GL, 0, [], nodp⟩
noncomputable def bod5 {R : Type} (ret : R5 → R) (c : Config) (turns : (List Bulkheadlaw28Turn)) (j : L5 → Option R) : L5 → Option R
  | .l9 x0 => j (.l0 0 x0)
  | .l0 x1 x0 => cond (decide ((x1 : Int) < turns.length))
    (cond (inR x1 turns.length) (
      cond (decide (((atBulkheadlaw28Turn turns x1.toNat).at_ : Int) ≥ 0))
        (cond (inR x1 turns.length) (
          cond (decide (((atBulkheadlaw28Turn turns x1.toNat).at_ : Int) < x0.length))
            (cond (inR x1 turns.length) (
              cond (inR x1 turns.length) (
                cond (inR ((atBulkheadlaw28Turn turns x1.toNat).at_) x0.length) (
                  j (.l13 x1 (List.set x0 (((atBulkheadlaw28Turn turns x1.toNat).at_).toNat) ((atBulkheadlaw28Turn turns x1.toNat).word)))) none) none) none)
            (j (.l13 x1 x0))) none)
        (j (.l13 x1 x0))) none)
    (some (ret x0))
  | .l13 x1 x0 => j (.l0 (IntKind.i64.wrap (x1 + 1)) x0)
noncomputable def ent5 {R : Type} (ret : R5 → R) (c : Config) (turns : (List Bulkheadlaw28Turn)) (j : L5 → Option R) : Option R :=
    cond (spc20 c []) (
    cond ((((sp20 c []).1).length : Int) == 0)
      (cond (decide ((16 : Int) = 16) && decide (0 ≤ 16) && leB (16 * 4) 140737488355328) (j (.l9 (List.replicate 16 0))) none)
      (j (.l9 ((sp20 c []).1)))) none
theorem head5_9 (J : Jmp) (c : Config) (turns : (List Bulkheadlaw28Turn)) (x0 : List Int) : stepAt Pr GK H5 J 9 0 (bodyOf Tryz.f5) (fin Pr H5 Tryz.f5) (st5 c turns (.l9 x0)) = bod5 to5 c turns (fun l => J (num5 l) (st5 c turns l)) (.l9 x0) := by kernel_rfl
theorem head5_0 (J : Jmp) (c : Config) (turns : (List Bulkheadlaw28Turn)) (x1 : Int) (x0 : List Int) : stepAt Pr GK H5 J 0 0 (bodyOf Tryz.f5) (fin Pr H5 Tryz.f5) (st5 c turns (.l0 x1 x0)) = bod5 to5 c turns (fun l => J (num5 l) (st5 c turns l)) (.l0 x1 x0) := by kernel_rfl
theorem head5_13 (J : Jmp) (c : Config) (turns : (List Bulkheadlaw28Turn)) (x1 : Int) (x0 : List Int) : stepAt Pr GK H5 J 13 0 (bodyOf Tryz.f5) (fin Pr H5 Tryz.f5) (st5 c turns (.l13 x1 x0)) = bod5 to5 c turns (fun l => J (num5 l) (st5 c turns l)) (.l13 x1 x0) := by kernel_rfl
theorem run5 (J : Jmp) (c : Config) (turns : (List Bulkheadlaw28Turn)) : runF Pr GK H5 J GL Tryz.f5 [(aCfg c), .sl .sBulkheadlaw28Turn turns] [] = ent5 to5 c turns (fun l => J (num5 l) (st5 c turns l)) := by kernel_rfl
theorem shad5 (c : Config) (turns : (List Bulkheadlaw28Turn)) : ∀ (n : Nat) (l : L5), runL Pr GK H5 Tryz.f5 n (num5 l) (st5 c turns l) = shad (bod5 to5 c turns) n l
  | 0, l => by cases l <;> rfl
  | n + 1, l => by
    have ih : (fun l => runL Pr GK H5 Tryz.f5 n (num5 l) (st5 c turns l)) = shad (bod5 to5 c turns) n := funext (shad5 c turns n)
    cases l with
    | l9 x0 => exact (step_eq ..).trans ((head5_9 ..).trans (by rw [ih]; rfl))
    | l0 x1 x0 => exact (step_eq ..).trans ((head5_0 ..).trans (by rw [ih]; rfl))
    | l13 x1 x0 => exact (step_eq ..).trans ((head5_13 ..).trans (by rw [ih]; rfl))
theorem nat5 (c : Config) (turns : (List Bulkheadlaw28Turn)) (s : L5 → Option R5) (l : L5) : bod5 to5 c turns (fun l => (s l).map to5) l = (bod5 id c turns s l).map to5 := by
  cases l <;> simp only [bod5, map_cond, Option.map_some, Option.map_none, id]
theorem ct5 (c : Config) (turns : (List Bulkheadlaw28Turn)) (l : L5) : CT fun j => bod5 id c turns j l := by
  cases l <;> (dsimp only [bod5]; repeat (first | exact CT.jump _ | exact CT.const _ | apply CT.cond))
noncomputable def spL5 (c : Config) (turns : (List Bulkheadlaw28Turn)) : L5 → Option R5 := lfp (bod5 id c turns)
theorem spL5_eq (c : Config) (turns : (List Bulkheadlaw28Turn)) (l : L5) : spL5 c turns l = bod5 id c turns (spL5 c turns) l := lfp_eq (ct5 c turns) l
noncomputable def spO5 (c : Config) (turns : (List Bulkheadlaw28Turn)) : Option R5 := ent5 id c turns (spL5 c turns)
noncomputable def sp5 (c : Config) (turns : (List Bulkheadlaw28Turn)) : R5 := (spO5 c turns).getD default
noncomputable def spc5 (c : Config) (turns : (List Bulkheadlaw28Turn)) : Bool := (spO5 c turns).isSome
theorem oks5 (c : Config) (turns : (List Bulkheadlaw28Turn)) (hc : spc5 c turns = true) : Okay Pr GL 5 [(aCfg c), .sl .sBulkheadlaw28Turn turns] [] (to5 (sp5 c turns)) := by
  obtain ⟨n, h⟩ := auto_ok (nat5 c turns) (fun s => show ent5 to5 c turns (fun l => (s l).map to5) = (ent5 id c turns s).map to5 by simp only [ent5, map_cond, Option.map_some, Option.map_none, id]) (ct5 c turns) (show CT fun j => ent5 id c turns j by dsimp only [ent5]; repeat (first | exact CT.jump _ | exact CT.const _ | apply CT.cond)) (isSome_getD hc)
  exact okay_of_run (H := H5) GKok G0ok Tryz.func5 rfl (by kernel_rfl) n (by
    rw [run5]
    rw [show (fun l => runL Pr GK H5 Tryz.f5 n (num5 l) (st5 c turns l)) = shad (bod5 to5 c turns) n from funext (shad5 c turns n)]
    exact h)

noncomputable def g49 (args : List AV) (hp : List Blk) : Option (Bool × AV × List Blk) :=
  match hp, args with
  | [], [x0] => (rdS .sConfig x0).bind fun a0 => some ((spc49 a0), .tup [.v (.int .i64 ((sp49 a0).1)), .agg [.v (.int .i64 ((sp49 a0).2.first)), .v (.int .i64 ((sp49 a0).2.second))]], [])
  | _, _ => none
theorem g49_ok {args : List AV} {hp : List Blk} {b : Bool} {r : AV} {hp' : List Blk} (h : g49 args hp = some (b, r, hp')) (hb : b = true) : FnOk Pr 49 ∧ Okay Pr GL 49 args hp ⟨r, hp'⟩ := by
  unfold g49 at h
  split at h
  · simp only [Option.bind_eq_some_iff] at h
    obtain ⟨a0, h0, h⟩ := h
    cases h; exact ⟨fnok Tryz.func49 (by kernel_rfl) rfl, (oks49 a0 hb).ats (.cons (rdS_V h0) .nil)⟩
  · cases h
noncomputable def g6 (args : List AV) (hp : List Blk) : Option (Bool × AV × List Blk) :=
  match hp, args with
  | [], [x0, x1, x2] => (rdS .sConfig x0).bind fun a0 => (rdL (.sl (.i .u32)) x1).bind fun a1 => (rdL (.sl (.i .u32)) x2).bind fun a2 => some ((spc6 a0 a1 a2), .tup [.sl .sOwner ((sp6 a0 a1 a2).1), .v (.int .i64 ((sp6 a0 a1 a2).2))], [])
  | _, _ => none
theorem g6_ok {args : List AV} {hp : List Blk} {b : Bool} {r : AV} {hp' : List Blk} (h : g6 args hp = some (b, r, hp')) (hb : b = true) : FnOk Pr 6 ∧ Okay Pr GL 6 args hp ⟨r, hp'⟩ := by
  unfold g6 at h
  split at h
  · simp only [Option.bind_eq_some_iff] at h
    obtain ⟨a0, h0, a1, h1, a2, h2, h⟩ := h
    cases h; exact ⟨fnok Tryz.func6 (by kernel_rfl) rfl, (oks6 a0 a1 a2 hb).ats (.cons (rdS_V h0) (.cons (rdL_V h1) (.cons (rdL_V h2) .nil)))⟩
  · cases h
noncomputable def g5 (args : List AV) (hp : List Blk) : Option (Bool × AV × List Blk) :=
  match hp, args with
  | [], [x0, x1] => (rdS .sConfig x0).bind fun a0 => (rdL (.sl .sBulkheadlaw28Turn) x1).bind fun a1 => some ((spc5 a0 a1), .own 0, [.arr 57 (.i .u32) (sp5 a0 a1)])
  | _, _ => none
theorem g5_ok {args : List AV} {hp : List Blk} {b : Bool} {r : AV} {hp' : List Blk} (h : g5 args hp = some (b, r, hp')) (hb : b = true) : FnOk Pr 5 ∧ Okay Pr GL 5 args hp ⟨r, hp'⟩ := by
  unfold g5 at h
  split at h
  · simp only [Option.bind_eq_some_iff] at h
    obtain ⟨a0, h0, a1, h1, h⟩ := h
    cases h; exact ⟨fnok Tryz.func5 (by kernel_rfl) rfl, (oks5 a0 a1 hb).ats (.cons (rdS_V h0) (.cons (rdL_V h1) .nil))⟩
  · cases h
noncomputable def GAL : Gam := fun c args hp => match c with
  | .f f => pick1 49 f (g49 args hp) (pick1 6 f (g6 args hp) (pick1 5 f (g5 args hp) (GK (.f f) args hp)))
  | .c x => GK (.c x) args hp
theorem GALok : GOk Pr GL GAL := by
  intro c args hp b r hp' h hb
  cases c with
  | f f =>
    simp only [GAL] at h
    rcases pick1_ok h with ⟨rfl, h⟩ | h
    · exact g49_ok h hb
    rcases pick1_ok h with ⟨rfl, h⟩ | h
    · exact g6_ok h hb
    rcases pick1_ok h with ⟨rfl, h⟩ | h
    · exact g5_ok h hb
    exact GKok (.f f) args hp b r hp' h hb
  | c x => exact GKok (.c x) args hp b r hp' h hb
end Go.Proofs.YtgfifnadfmaolaaGreatDoor
