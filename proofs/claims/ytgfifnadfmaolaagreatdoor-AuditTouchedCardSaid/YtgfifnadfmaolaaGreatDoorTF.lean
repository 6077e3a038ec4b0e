/- audit.Touched (a range over a function): what it answers, and that it answers so. -/
import Derived.Test.YtgfifnadfmaolaaGreatDoorTI
namespace Go.Proofs.YtgfifnadfmaolaaGreatDoor
open Go.RowKit
set_option linter.unusedVariables false
set_option linter.unusedSimpArgs false
noncomputable def ownT (c : Config) (l : List Owner) (i : Nat) : List Owner := cond (decide ((sp27 c (i : Int)).1 ∈ l)) l (l ++ [(sp27 c (i : Int)).1])
noncomputable def nT (a b : Option MemMemory) : Nat := max (a.getD default).words.length (b.getD default).words.length
noncomputable def okT (c : Config) (a b : Option MemMemory) : Bool := decide (nT a b ≤ 100000) && (List.range (nT a b)).all fun (i : Nat) => spc52 a b (i : Int) && (!(sp52 a b (i : Int)) || spc27 c (i : Int))
noncomputable def tlT (c : Config) (a b : Option MemMemory) (n : Nat) : List Owner := ((List.range n).filter fun (i : Nat) => sp52 a b (i : Int)).foldl (ownT c) []
abbrev R10 := List Owner × Int
def to10 (r : R10) : Ans := ⟨.tup [.own 0, .v (.int .i64 r.2)], [.arr 42 .sOwner r.1]⟩
noncomputable def spO10 (c : Config) (a b : Option MemMemory) : Option R10 :=
  cond (spc25 c [a, b]) (cond (!(sp25 c [a, b] == 0)) (some ([], sp25 c [a, b]))
    (cond (a.isSome && b.isSome && okT c a b) (some (tlT c a b (nT a b), 0)) none)) none
noncomputable def sp10 (c : Config) (a b : Option MemMemory) : R10 := (spO10 c a b).getD default
noncomputable def spc10 (c : Config) (a b : Option MemMemory) : Bool := (spO10 c a b).isSome
/-! ### Its code -/
noncomputable def t0 : Code := bodyOf Tryz.f10
noncomputable def tR0 : Code := cL t0
noncomputable def tA : Code := cL (cR t0)
noncomputable def tR4 : Code := cL (cR (cR t0))
noncomputable def tR5 : Code := cL (cL (cR (cR (cR t0))))
noncomputable def tRF : Code := cL (cR (cL (cR (cR (cR t0)))))
noncomputable def tAs : Array Oper := regOps (cL tRF)
noncomputable def tB : Code := cR tRF
noncomputable def tE : Array Oper := regOps (cL (cR (cR (cR (cR t0)))))
theorem t0_eq : Tryz.f10.body = some (.seq tR0 (.seq tA (.seq tR4 (.seq (.seq tR5 (.block 0 (.rangeFunc (.tmp 23) #[24] (.region 6 tAs false) tB))) (.seq (.region 10 tE false) .ret))))) := by kernel_rfl
/-! ### Differ's answer joins those of the layers -/
noncomputable def gDiffer (args : List AV) (hp : List Blk) : Option (Bool × AV × List Blk) :=
  match hp, args with
  | [], [x0, x1] => (rdL (.p .sMemMemory) x0).bind fun a0 => (rdL (.p .sMemMemory) x1).bind fun a1 => some (true, (toDiffer a0 a1).r, (toDiffer a0 a1).hp)
  | _, _ => none
theorem gDiffer_ok {args : List AV} {hp : List Blk} {b : Bool} {r : AV} {hp' : List Blk} (h : gDiffer args hp = some (b, r, hp')) (hb : b = true) : FnOk Pr 26 ∧ Okay Pr GL 26 args hp ⟨r, hp'⟩ := by
  unfold gDiffer at h
  split at h
  · simp only [Option.bind_eq_some_iff] at h
    obtain ⟨a0, h0, a1, h1, h⟩ := h
    cases h; exact ⟨fnok Tryz.func26 (by kernel_rfl) rfl, (okDiffer a0 a1).ats (.cons (rdL_V h0) (.cons (rdL_V h1) .nil))⟩
  · cases h
noncomputable def GMd : Gam := fun c args hp => match c with
  | .f f => pick1 26 f (gDiffer args hp) (GM (.f f) args hp)
  | .c x => GM (.c x) args hp
theorem GMdok : GOk Pr GL GMd := by
  intro c args hp b r hp' h hb
  cases c with
  | f f =>
    simp only [GMd] at h
    rcases pick1_ok h with ⟨rfl, h⟩ | h
    · exact gDiffer_ok h hb
    exact GMok (.f f) args hp b r hp' h hb
  | c x => exact GMok (.c x) args hp b r hp' h hb
/-! ### Its pieces -/
abbrev cfgC (c : Config) : List AV := [.v (.int .i64 c.frames), .v (.int .i64 c.major), .v (.int .i64 c.kernel), .v (.int .i64 c.room), .sl (.sl .sWindow) c.cores, .sl .sPartition c.partitions, .sl .sChannel c.channels]
abbrev argsT (c : Config) (a b : Option MemMemory) : List AV := [.agg (cfgC c), .op .sMemMemory a, .op .sMemMemory b]
theorem runT0 (c : Config) (a b : Option MemMemory) : ev Pr GMd H1 (fun _ _ => none) 0 tR0 (kCap [1, 2, 3] [0]) (entry nodp GL Tryz.f10 (argsT c a b) []) = some ⟨.tup (mkE [(1, .op .sMemMemory a), (2, .op .sMemMemory b), (3, .ref 0 0)] 40 0), [.cells 26 (cfgC c)]⟩ := by kernel_rfl
theorem runA (c : Config) (a b : Option MemMemory) : ev Pr GMd H1 (fun _ _ => none) 0 tA (kCap [1, 2, 3] [0]) ⟨mkE [(1, .op .sMemMemory a), (2, .op .sMemMemory b), (3, .ref 0 0)] 40 0, [.cells 26 (cfgC c)], GL, 0, [], nodp⟩ =
    cond (spc25 c [a, b]) (cond (!(sp25 c [a, b] == 0)) none (some ⟨.tup (mkE [(1, .op .sMemMemory a), (2, .op .sMemMemory b), (3, .ref 0 0)] 40 0), [.cells 26 (cfgC c)]⟩)) none := by kernel_rfl
theorem runT4 (c : Config) (a b : Option MemMemory) : ev Pr GMd H1 (fun _ _ => none) 0 tR4 (kCap [1, 2, 3, 9] [0, 1]) ⟨mkE [(1, .op .sMemMemory a), (2, .op .sMemMemory b), (3, .ref 0 0)] 40 0, [.cells 26 (cfgC c)], GL, 0, [], nodp⟩ =
    some ⟨.tup (mkE [(1, .op .sMemMemory a), (2, .op .sMemMemory b), (3, .ref 0 0), (9, .ref 1 0)] 40 0), [.cells 26 (cfgC c), .cells 30 [.v (.slice none 0 0)]]⟩ := by kernel_rfl
theorem runT5 (c : Config) (a b : Option MemMemory) : ev Pr GMd H1 (fun _ _ => none) 0 tR5 (kCap [3, 9, 23] [0, 1, 2, 3]) ⟨mkE [(1, .op .sMemMemory a), (2, .op .sMemMemory b), (3, .ref 0 0), (9, .ref 1 0)] 40 0, [.cells 26 (cfgC c), .cells 30 [.v (.slice none 0 0)]], GL, 0, [], nodp⟩ =
    some ⟨.tup (mkE [(3, .ref 0 0), (9, .ref 1 0), (23, .fn (.func 51) [] [.ref 2 0, .ref 3 0])] 40 0), [.cells 26 (cfgC c), .cells 30 [.v (.slice none 0 0)], .cells 34 [.op .sMemMemory a], .cells 34 [.op .sMemMemory b]]⟩ := by kernel_rfl
abbrev fnD (m o : MemMemory) : AV := .fn (.func 51) [] [.op (.p .sMemMemory) (some (some m)), .op (.p .sMemMemory) (some (some o))]
abbrev eI (m o : MemMemory) : List (Nat × AV) := [(3, .ref 0 0), (9, .ref 1 0), (23, fnD m o)]
abbrev stI (c : Config) (m o : MemMemory) (xs : List Owner) : St := ⟨mkE (eI m o) 40 0, [.cells 26 (cfgC c), .cells 30 [.own 2], .arr 42 .sOwner xs], GL, 0, [], nodp⟩
abbrev stB (c : Config) (m o : MemMemory) (xs : List Owner) (i : Int) : St := ((({ (stI c m o xs).sub [0, 1, 2] with np := 3 } : St).put (some 24) (.v (.int .i64 i))).put (some 10) (.v (.int .i64 i)))
theorem runB (c : Config) (m o : MemMemory) (xs : List Owner) (i : Int) : ev Pr GMd H1 (fun _ _ => none) 0 tB kGive (stB c m o xs i) =
    cond (spc27 c i) (cond (spc28 xs (sp27 c i).1) (cond (!(sp28 xs (sp27 c i).1))
      (cond (leB ((xs.length + [(sp27 c i).1].length) * 24) 140737488355328) (some ⟨.tup [], [.cells 26 (cfgC c), .cells 30 [.own 3], .dead, .arr 42 .sOwner (xs ++ [(sp27 c i).1])]⟩) none)
      (some ⟨.tup [], [.cells 26 (cfgC c), .cells 30 [.own 2], .arr 42 .sOwner xs]⟩)) none) none := by kernel_rfl
theorem okB : okIn H1 tB = true := by kernel_rfl
theorem adA (c : Config) (m o : MemMemory) (xs : List Owner) (x : Owner) : ((stI c m o xs).adopt [0, 1, 2] [.cells 26 (cfgC c), .cells 30 [.own 3], .dead, .arr 42 .sOwner (xs ++ [x])]).sub [0, 1, 3] = stI c m o (xs ++ [x]) := by kernel_rfl
theorem adB (c : Config) (m o : MemMemory) (xs : List Owner) : ((stI c m o xs).adopt [0, 1, 2] [.cells 26 (cfgC c), .cells 30 [.own 2], .arr 42 .sOwner xs]).sub [0, 1, 2] = stI c m o xs := by kernel_rfl
/-! ### The walk -/
def H2 : Hint := ⟨fun _ => false, fun _ => ⟨[], []⟩, [(.slot 0, .own 42 .sOwner)], G0, nodp⟩
theorem run_stop2 (J : Jmp) (c : Config) (a b : Option MemMemory) : runF Pr GMd H2 J GL Tryz.f10 (argsT c a b) [] = cond (spc25 c [a, b]) (cond (!(sp25 c [a, b] == 0)) (some (to10 ([], sp25 c [a, b]))) none) none := by kernel_rfl
theorem Rel.slot {B : Bs} {F : Nat → Prop} {β : Gh} {st : St} {a : Act} {w : World} (h : Rel B F β st a w) (i : Nat) {x : AV} (hx : V F w β x (a.tmps.getD i undef)) : Rel B F β (st.set i x) a w :=
  ⟨by simp [St.set, h.len], fun t => by
    show V F w β ((st.env.set i x).getD t .undef) _
    rw [set_getD]
    split
    · rename_i e; rw [e.1]; exact hx
    · exact h.env t, h.gl, h.df, h.kept, h.fo, h.fi, h.lo, h.per, h.bn, h.nw, h.hn, h.heap⟩
theorem okT0 : okL H1 0 tR0 = true ∧ labels H1 0 tR0 = [] := ⟨by kernel_rfl, by kernel_rfl⟩
theorem okTA : okL H1 0 tA = true ∧ labels H1 0 tA = [] := ⟨by kernel_rfl, by kernel_rfl⟩
theorem okT4 : okL H1 0 tR4 = true ∧ labels H1 0 tR4 = [] := ⟨by kernel_rfl, by kernel_rfl⟩
theorem okT5 : okL H1 0 tR5 = true ∧ labels H1 0 tR5 = [] := ⟨by kernel_rfl, by kernel_rfl⟩
theorem stageT {c : Code} (ho : okL H1 0 c = true ∧ labels H1 0 c = []) {B : Bs} {F : Nat → Prop} {β : Gh} {e0 e : List AV} {hp hp' : List Blk} {q : TypeId → List (Nat × TypeId)} {a : Act} {w : World} (h : Rel B F β ⟨e0, hp, GL, 0, [], q⟩ a w) {keep ids : List Nat} (hn : nodupB ids = true) (run : ev Pr GMd H1 (fun _ _ => none) 0 c (kCap keep ids) ⟨e0, hp, GL, 0, [], nodp⟩ = some ⟨.tup e, hp'⟩)
    {n : Nat} {X : Act → World → Prop} {Q : Exit → Act → World → Prop} (hX : ∀ a' w' F' β' q, Rel B F' β' ⟨e, hp', GL, 0, [], q⟩ a' w' → X a' w') : c.wpIn Fence.wide n Pr (Exit.then X Q) a w :=
  wpIn_wide.2 (stage (H := H1) GMdok ho.1 ho.2 (h.as (st' := ⟨e0, hp, GL, 0, [], nodp⟩) rfl rfl rfl rfl rfl) rfl rfl (keep := keep) (ids := ids) hn rfl run hX)
theorem fn_caps {F : Nat → Prop} {w : World} {β : Gh} {f : Fn} {x1 x2 : AV} {y : Value} (h : V F w β (.fn f [] [x1, x2]) y) : ∃ y1 y2, y = .func f #[] #[y1, y2] ∧ V F w β x1 y1 ∧ V F w β x2 y2 := by
  cases h with
  | fn f' l1 l2 ya yc hla hlc ha hc =>
    have e1 : ya = #[] := Array.eq_empty_of_size_eq_zero hla
    obtain ⟨y1, y2, e2⟩ : ∃ y1 y2, yc = #[y1, y2] := by
      match yc, hlc with
      | ⟨[y1, y2]⟩, _ => exact ⟨y1, y2, rfl⟩
    subst e1 e2
    exact ⟨y1, y2, rfl, hc 0 (by simp), hc 1 (by simp)⟩
theorem mems_of_fn {c : Config} {m o : MemMemory} {b1 b2 : Nat} {xs : List Owner} {B : Bs} {F : Nat → Prop} {w : World} {β : Gh} {a : Act} (h : Rel B F β (stI c m o xs) a w) (hf : a.tmps.getD 23 undef = .func (.func 51) #[] #[.pointer (some ⟨b1, 0, none⟩), .pointer (some ⟨b2, 0, none⟩)]) : Mems m o b1 b2 w := by
  have hv : V F w β (fnD m o) (a.tmps.getD 23 undef) := h.env 23
  obtain ⟨y1, y2, e, h1, h2⟩ := fn_caps hv
  rw [hf] at e
  cases e
  exact ⟨F, h.heap.fb, h.gl, h1.toD (.op _ _), h2.toD (.op _ _)⟩
theorem start_rel {c : Config} {m o : MemMemory} {B : Bs} {F : Nat → Prop} {w : World} {β : Gh} {a : Act} {q : TypeId → List (Nat × TypeId)} (h : Rel B F β ⟨mkE [(3, .ref 0 0), (9, .ref 1 0), (23, .fn (.func 51) [] [.ref 2 0, .ref 3 0])] 40 0, [.cells 26 (cfgC c), .cells 30 [.v (.slice none 0 0)], .cells 34 [.op .sMemMemory (some m)], .cells 34 [.op .sMemMemory (some o)]], GL, 0, [], q⟩ a w) :
    (∃ b1 b2, a.tmps.getD 23 undef = .func (.func 51) #[] #[.pointer (some ⟨b1, 0, none⟩), .pointer (some ⟨b2, 0, none⟩)]) ∧ ∃ F' β', Rel B F' β' (stI c m o []) a w := by
  have hv : V F w β (.fn (.func 51) [] [.ref 2 0, .ref 3 0]) (a.tmps.getD 23 undef) := h.env 23
  obtain ⟨y1, y2, e, h1, h2⟩ := fn_caps hv
  obtain ⟨_, rfl⟩ := V_ref h1
  obtain ⟨_, rfl⟩ := V_ref h2
  refine ⟨⟨_, _, e⟩, ?_⟩
  have h' := h.as (st' := ⟨_, _, GL, 0, [], nodp⟩) rfl rfl rfl rfl rfl
  have hs : St.frzD 9 ⟨mkE [(3, .ref 0 0), (9, .ref 1 0), (23, .fn (.func 51) [] [.ref 2 0, .ref 3 0])] 40 0, [.cells 26 (cfgC c), .cells 30 [.v (.slice none 0 0)], .cells 34 [.op .sMemMemory (some m)], .cells 34 [.op .sMemMemory (some o)]], GL, 0, [], nodp⟩ (.fn (.func 51) [] [.ref 2 0, .ref 3 0]) =
      some (fnD m o, ⟨mkE [(3, .ref 0 0), (9, .ref 1 0), (23, .fn (.func 51) [] [.ref 2 0, .ref 3 0])] 40 0, [.cells 26 (cfgC c), .cells 30 [.v (.slice none 0 0)], .rob (.p .sMemMemory) (some m), .rob (.p .sMemMemory) (some o)], GL, 0, [], nodp⟩) := by kernel_rfl
  obtain ⟨F1, β1, z1, d1⟩ := frzD_sound 9 h' hs
  have hR1 := z1.rel.slot 23 (d1 _ hv).ofD
  have hs2 : St.conv1 (⟨mkE (eI m o) 40 0, [.cells 26 (cfgC c), .cells 30 [.v (.slice none 0 0)], .rob (.p .sMemMemory) (some m), .rob (.p .sMemMemory) (some o)], GL, 0, [], nodp⟩ : St) (mkE (eI m o) 40 0) (.box 9 0) (.own 42 .sOwner) =
      some (mkE (eI m o) 40 0, ⟨mkE (eI m o) 40 0, [.cells 26 (cfgC c), .cells 30 [.own 4], .rob (.p .sMemMemory) (some m), .rob (.p .sMemMemory) (some o), .arr 42 .sOwner []], GL, 0, [], nodp⟩) := by kernel_rfl
  have hR2 : Rel B F1 β1 (⟨mkE (eI m o) 40 0, [.cells 26 (cfgC c), .cells 30 [.v (.slice none 0 0)], .rob (.p .sMemMemory) (some m), .rob (.p .sMemMemory) (some o)], GL, 0, [], nodp⟩ : St) a w := hR1
  obtain ⟨F2, β2, z2, _, _⟩ := conv1_sound hR2 hs2 (Y := fun t => a.tmps.getD t undef) hR2.env
  have hR3 := z2.rel.sub (ids := [0, 1, 4]) (by decide) rfl
  exact ⟨F2, _, hR3.as (by kernel_rfl) (by kernel_rfl) rfl rfl rfl⟩
noncomputable def tO (i : Nat) : Oper := tE.getD i default
theorem tE_eq : tE.toList = [tO 0, tO 1, tO 2] := by kernel_rfl
theorem tO0 : (tO 0).dst = some 39 ∧ (tO 0).guard = none := ⟨by kernel_rfl, by kernel_rfl⟩
theorem tO1 : (tO 1).op = .assign (.tmp 39) ∧ (tO 1).dst = some 6 ∧ (tO 1).guard = none := ⟨by kernel_rfl, by kernel_rfl, by kernel_rfl⟩
theorem tO2 : (tO 2).op = .assign (.const (.int .i64 0)) ∧ (tO 2).dst = some 7 ∧ (tO 2).guard = none := ⟨by kernel_rfl, by kernel_rfl, by kernel_rfl⟩
theorem tO0_op : (tO 0).op = .load 30 (.tmp 9) := by kernel_rfl
theorem tO0_run (c : Config) (m o : MemMemory) (xs : List Owner) : evT Pr (stI c m o xs) (tO 0) some = some (.own 2) := by kernel_rfl
noncomputable def tI : Oper := tAs.getD 0 default
theorem tAs_eq : tAs.toList = [tI] := by kernel_rfl
theorem tI0 : tI.op = .assign (.tmp 24) ∧ tI.dst = some 10 ∧ tI.guard = none := ⟨by kernel_rfl, by kernel_rfl, by kernel_rfl⟩
theorem op_val {F : Fence} {n : Nat} {o : Oper} {a : Act} {w : World} {y : Value} {K : Act → World → Prop} {Q : Exit → Act → World → Prop} (hF : F.fn = Fence.wide.fn) (hd : ∀ c, o.op ≠ .defer c) (hrun : (execOp a.eval o).run Pr w = .ok (.value y) w) (hK : K (a.put o.dst y) w) : o.wpIn F n Pr a w K Q := by
  refine ⟨fun f _ => by rw [hF]; trivial, ?_⟩
  rw [Oper.semAt_eq _ _ _ hd, hrun]
  exact hK
noncomputable def accT (c : Config) {m o : MemMemory} {N : Nat} (pre : List (Plc c m o N)) : List Owner := (pre.map (·.1)).foldl (ownT c) []
theorem ownT_len (c : Config) (l : List Owner) (i : Nat) : (ownT c l i).length ≤ l.length + 1 := by
  unfold ownT
  cases decide ((sp27 c (i : Int)).1 ∈ l) <;> simp
theorem fold_len (c : Config) : ∀ (is : List Nat) (l : List Owner), (is.foldl (ownT c) l).length ≤ l.length + is.length
  | [], l => by simp
  | i :: is, l => by
    have h1 := fold_len c is (ownT c l i)
    have h2 := ownT_len c l i
    simp only [List.foldl_cons, List.length_cons]
    omega
theorem accT_snoc (c : Config) {m o : MemMemory} {N : Nat} (pre : List (Plc c m o N)) (x : Plc c m o N) : accT c (pre ++ [x]) = ownT c (accT c pre) x.1 := by simp [accT]
theorem plc_map {c : Config} {m o : MemMemory} {N : Nat} (hall : ∀ i, i < N → spc52 (some m) (some o) (i : Int) = true ∧ (sp52 (some m) (some o) (i : Int) = true → spc27 c (i : Int) = true)) : ∀ k, k ≤ N → (plc c m o N k).map (·.1) = (List.range k).filter fun (i : Nat) => sp52 (some m) (some o) (i : Int)
  | 0, _ => rfl
  | k + 1, h => by
    rw [List.range_succ, List.filter_append, ← plc_map hall k (by omega), plc, List.map_append]
    congr 1
    by_cases hu : sp52 (some m) (some o) (k : Int) = true
    · rw [dif_pos ⟨h, hu, (hall k h).2 hu⟩]; simp [hu]
    · rw [dif_neg (fun q => hu q.2.1)]; simp [hu]
theorem touched_walk {c : Config} {m o : MemMemory} (hok : okT c (some m) (some o) = true) (hst : spc25 c [some m, some o] = true) (hs0 : (sp25 c [some m, some o] == 0) = true) : Okay Pr GL 10 (argsT c (some m) (some o)) [] (to10 (tlT c (some m) (some o) (nT (some m) (some o)), 0)) := by
  generalize hN : nT (some m) (some o) = N
  have hN' : N = max m.words.length o.words.length := by rw [← hN]; rfl
  unfold okT at hok
  rw [hN, Bool.and_eq_true, decide_eq_true_eq, List.all_eq_true] at hok
  obtain ⟨hs, hall0⟩ := hok
  have hall : ∀ i, i < N → spc52 (some m) (some o) (i : Int) = true ∧ (sp52 (some m) (some o) (i : Int) = true → spc27 c (i : Int) = true) := fun i hi => by
    have := hall0 i (List.mem_range.2 hi)
    rw [Bool.and_eq_true, Bool.or_eq_true] at this
    exact ⟨this.1, fun hu => this.2.resolve_left (by rw [hu]; simp)⟩
  intro F w β vs hh hgl hl hv
  refine (callsIn_wide (n := 3)).1 ?_
  refine callsIn_of_wp_marks Tryz.func10 t0_eq trivial ?_ rfl
  have hR0 := entry_rel (dp := nodp) (fn := Tryz.f10) hh hgl hl hv
  generalize hB : entB w F β = B at hR0
  generalize ({ tmps := vs.toArray ++ Array.replicate (Tryz.f10.ntmps - vs.toArray.size) undef, defers := [] } : Act) = a0 at hR0
  refine wpIn_seq (stageT okT0 (hR0.as (st' := ⟨_, _, GL, 0, [], nodp⟩) rfl rfl rfl rfl rfl) rfl (runT0 c (some m) (some o)) fun a1 w1 F1 β1 q1 hR1 => ?_)
  have hrA := runA c (some m) (some o)
  rw [hst, hs0, cond_true, Bool.not_true, cond_false] at hrA
  refine wpIn_seq (stageT okTA hR1 rfl hrA fun a2 w2 F2 β2 q2 hR2 => ?_)
  refine wpIn_seq (stageT okT4 hR2 rfl (runT4 c (some m) (some o)) fun a4 w4 F4 β4 q4 hR4 => ?_)
  refine wpIn_seq (wpIn_seq (stageT okT5 hR4 rfl (runT5 c (some m) (some o)) fun a5 w5 F5 β5 q5 hR5 => ?_))
  obtain ⟨⟨b1, b2, hfn⟩, F6, β6, hI0⟩ := start_rel hR5
  have hd5 : a5.defers = [] := dfok_nil hI0.df
  have hl5 : a5.tmps.size = 40 := by have := hI0.len; rw [← this]; exact mkE_len _ _ _
  have hsz5 : B.w.heap.size ≤ w5.heap.size := hI0.kept.size
  have hm5 := mems_of_fn hI0 hfn
  refine wpIn_block (wpIn_rangeFunc_ownF (n := 3) rfl (by omega) (gf := 51) (lb := #[.pointer (some ⟨b1, 0, none⟩), .pointer (some ⟨b2, 0, none⟩)]) hfn trivial (callFunc_run (fnok Tryz.func51 (by kernel_rfl) d0_eq))
    (differ_stops (c := c) hN' hs hall hm5) (fun h k d => k (h d)) ?hKb (Below.refl _ _) (fun _ => rfl)
    (fun pre W => ∃ F' β', Rel B F' β' (stI c m o (accT c pre)) a5 W) (fun _ _ _ => False)
    (ownFrom_rel hsz5 (fun pre => stI c m o (accT c pre)) (fun _ => a5)) (fun _ _ _ _ _ hs _ _ => hs) ⟨F6, β6, hI0⟩
    (fun x => ((({ a5 with defers := [] } : Act).put (some 24) (.int .i64 (x.1 : Int))).put (some 10) (.int .i64 (x.1 : Int)))) ?assign ?body ?done ?stop)
  case hKb =>
    intro W l ob ob' _ hl hc _ hm
    obtain ⟨F', k1, k2, k3, k4⟩ := hm
    have hE : CellsAs W (W.putObj l ob') := .of_grownBy (grownBy_putObj' W l ob') fun r e => by cases e; exact ⟨ob, hl, hc⟩
    exact ⟨F', fun p hp => Nat.lt_of_lt_of_le (k1 p hp) hE.size, fun g => V.cells hE (k2 g), V.cells hE k3, V.cells hE k4⟩
  case assign =>
    intro l x W K hK
    have ez : (#[24].zip (encP x)).foldl (fun t (p, v) => t.setIfInBounds p v) a5.tmps = a5.tmps.setIfInBounds 24 (.int .i64 (x.1 : Int)) := by simp [encP]
    rw [ez]
    refine wpIn_region_list ?_
    rw [tAs_eq]
    refine wpListIn_plain tI0.2.2 fun K' hK' => ?_
    have hv : (a5.tmps.setIfInBounds 24 (.int .i64 (x.1 : Int))).getD 24 undef = .int .i64 (x.1 : Int) := by
      rw [Array.getD_eq_getD_getElem?, Array.getElem?_setIfInBounds_self_of_lt (by omega)]; rfl
    refine op_val (y := .int .i64 (x.1 : Int)) rfl (fun q hq => by rw [tI0.1] at hq; cases hq) ?_ (hK' _ _ ?_)
    · simp only [execOp, tI0.1]
      rw [show Act.eval { tmps := a5.tmps.setIfInBounds 24 (.int .i64 (x.1 : Int)), defers := [] } (.tmp 24) = .int .i64 (x.1 : Int) from hv]
      rfl
    · rw [tI0.2.1]
      exact hK
  case body =>
    rintro l pre x W ⟨F7, β7, hR7⟩ hpre
    have hlen : (accT c pre).length ≤ 100000 := by
      have := fold_len c (pre.map (·.1)) []
      rw [List.length_map, List.length_nil] at this
      unfold accT
      omega
    have hR8 : Rel (entB W F7 ((β7.purge W).sub [0, 1, 2])) F7 ((β7.purge W).sub [0, 1, 2]) (stB c m o (accT c pre) (x.1 : Int)) ((({ a5 with defers := [] } : Act).put (some 24) (.int .i64 (x.1 : Int))).put (some 10) (.int .i64 (x.1 : Int))) W :=
      ((hR7.purge.round (ids := [0, 1, 2]) (by decide) rfl (fun _ _ _ => trivial)).put (some 24) (.v _)).put (some 10) (.v _)
    obtain ⟨p1, p2⟩ := sp_of (has_owner hlen (sp27 c (x.1 : Int)).1)
    have p1' : sp28 (accT c pre) (sp27 c (x.1 : Int)).1 = decide ((sp27 c (x.1 : Int)).1 ∈ accT c pre) := p1
    have p2' : spc28 (accT c pre) (sp27 c (x.1 : Int)).1 = true := p2
    have hrun := runB c m o (accT c pre) (x.1 : Int)
    rw [x.2.2.2, p2', p1', cond_true, cond_true] at hrun
    have hLO : ¬ LetsOut (ownPostK (KpM m o b1 b2) (fun pre W => ∃ F' β', Rel B F' β' (stI c m o (accT c pre)) a5 W) (fun _ _ _ => False) (pre ++ [x]) W) := fun ⟨_, _, h⟩ => h
    have fin : ∀ {a' : Act} {w' : World} {F' : Nat → Prop} {β' : Gh}, KeepsOthers W w' → Rel B F' β' (stI c m o (ownT c (accT c pre) x.1)) a5 w' → ownPostK (KpM m o b1 b2) (fun pre W => ∃ F' β', Rel B F' β' (stI c m o (accT c pre)) a5 W) (fun _ _ _ => False) (pre ++ [x]) W .normal a' w' := fun {a' w' F' β'} hko hR =>
      ⟨hko, fun _ => mems_of_fn hR hfn, F', β', by rw [accT_snoc]; exact hR⟩
    by_cases hmem : (sp27 c (x.1 : Int)).1 ∈ accT c pre
    · rw [decide_eq_true hmem, Bool.not_true, cond_false] at hrun
      refine round_sound GMdok okB (ids := [0, 1, 2]) (by decide) (fun b hb => by simp at hb; show b < 3; omega) hR7 rfl hR8 rfl rfl hrun hLO fun a' w' F' β' hko hR' => fin hko (F' := F') (β' := β'.sub [0, 1, 2]) ?_
      have := hR'.sub (ids := [0, 1, 2]) (by decide) rfl
      rw [adB] at this
      have e : ownT c (accT c pre) x.1 = accT c pre := by unfold ownT; rw [decide_eq_true hmem]; rfl
      rw [e]; exact this
    · rw [decide_eq_false hmem, Bool.not_false, cond_true, leB_t (by rw [List.length_singleton]; omega), cond_true] at hrun
      refine round_sound GMdok okB (ids := [0, 1, 2]) (by decide) (fun b hb => by simp at hb; show b < 3; omega) hR7 rfl hR8 rfl rfl hrun hLO fun a' w' F' β' hko hR' => fin hko (F' := F') (β' := β'.sub [0, 1, 3]) ?_
      have := hR'.sub (ids := [0, 1, 3]) (by decide) rfl
      rw [adA] at this
      have e : ownT c (accT c pre) x.1 = accT c pre ++ [(sp27 c (x.1 : Int)).1] := by unfold ownT; rw [decide_eq_false hmem]; rfl
      rw [e]; exact this
  case done =>
    rintro D xs W hD rfl ⟨F7, β7, hR7⟩ hK
    have hacc : accT c (plc c m o N N) = tlT c (some m) (some o) N := by unfold accT tlT; rw [plc_map hall N (Nat.le_refl _)]
    rw [hacc] at hR7
    generalize tlT c (some m) (some o) N = xs at hR7
    refine wpIn_seq (wpIn_region_list ?_)
    rw [tE_eq, hd5]
    generalize hM : ({ target := .collected D, args := #[] } : Deferred) = mk
    have hR7' : Rel B F7 β7 (stI c m o xs) { a5 with defers := [mk] } W → True := fun _ => trivial
    obtain ⟨v, ⟨y, hy, hrun⟩, hv2⟩ := evT_sound hR7 (tO0_run c m o xs)
    cases hv2
    refine wpListIn_plain tO0.2 fun K0 hK0 => ?_
    refine op_val (y := y) rfl (fun q hq => by rw [tO0_op] at hq; cases hq) hrun (hK0 _ _ ?_)
    rw [tO0.1]
    refine wpListIn_plain tO1.2.2 fun K1 hK1 => ?_
    refine op_val (y := y) rfl (fun q hq => by rw [tO1.1] at hq; cases hq) ?_ (hK1 _ _ ?_)
    · simp only [execOp, tO1.1]
      have hv39 : Act.eval (({ a5 with defers := [mk] } : Act).put (some 39) y) (.tmp 39) = y := by
        show (a5.tmps.setIfInBounds 39 y).getD 39 undef = y
        rw [Array.getD_eq_getD_getElem?, Array.getElem?_setIfInBounds_self_of_lt (by omega)]; rfl
      rw [show Act.eval (({ tmps := a5.tmps, defers := [mk] } : Act).put (some 39) y) (.tmp 39) = y from hv39]
      rfl
    rw [tO1.2.1]
    refine wpListIn_plain tO2.2.2 fun K2 hK2 => ?_
    refine op_val (y := .int .i64 0) rfl (fun q hq => by rw [tO2.1] at hq; cases hq) ?_ (hK2 _ _ ?_)
    · simp only [execOp, tO2.1]
      rfl
    rw [tO2.2.1]
    refine wpListIn_nil ?_
    refine wpIn_ret ?_
    show LeavesInM Fence.wide 3 Pr Tryz.f10 _ _ [mk] .returning W
    refine ⟨by simp, .inl ⟨D, _, by rw [← hM], run_takeDeferred hK, ?_⟩⟩
    have hE : CellsAs W (W.putObj D (.deferred none)) := .of_grownBy (grownBy_putObj' W D _) fun r e => by cases e; exact ⟨_, hK, rfl⟩
    have hR9 := hR7.grownBy (grownBy_putObj' W D (.deferred none)) (fun r e => by cases e; exact ⟨Nat.le_trans hsz5 hD, _, hK, rfl⟩)
    have hy9 : V F7 (W.putObj D (.deferred none)) β7 (.own 2) y := V.cells hE hy
    have hR10 := (((hR9.noDf rfl).put (some 39) hy9).put (some 6) hy9).put (some 7) (.v (.int .i64 0))
    rw [← hB] at hR10
    obtain ⟨y', h1, h2⟩ := give_sound (P := Pr) (H := H1) hR10 (fn := Tryz.f10) (l := [.own 2, .v (.int .i64 0)]) (an := to10 (xs, 0)) (by kernel_rfl) rfl (by kernel_rfl)
    exact ⟨y', h1, y', rfl, h2⟩
  case stop =>
    intro D c' pre W _ _ h _
    exact h.elim
theorem oks10 (c : Config) (a b : Option MemMemory) (hc : spc10 c a b = true) : Okay Pr GL 10 [(aCfg c), .op .sMemMemory a, .op .sMemMemory b] [] (to10 (sp10 c a b)) := by
  unfold spc10 at hc
  unfold sp10
  unfold spO10 at hc ⊢
  cases h1 : spc25 c [a, b] with
  | false => rw [h1] at hc; cases hc
  | true =>
    cases h2 : (sp25 c [a, b] == 0) with
    | false =>
      exact okay_of_run (H := H2) GMdok G0ok Tryz.func10 t0_eq (by kernel_rfl) 0 ((run_stop2 _ c a b).trans (by rw [h1, h2]; rfl))
    | true =>
      rw [h1, h2] at hc
      cases a with
      | none => cases hc
      | some m =>
        cases b with
        | none => cases hc
        | some o =>
          have h3 : okT c (some m) (some o) = true := by
            cases h3 : okT c (some m) (some o) with
            | false => rw [h3] at hc; cases hc
            | true => rfl
          rw [h3]
          exact touched_walk h3 h1 h2
noncomputable def gTouched (args : List AV) (hp : List Blk) : Option (Bool × AV × List Blk) :=
  match hp, args with
  | [], [x0, x1, x2] => (rdS .sConfig x0).bind fun a0 => (rdL (.p .sMemMemory) x1).bind fun a1 => (rdL (.p .sMemMemory) x2).bind fun a2 => some ((spc10 a0 a1 a2), .tup [.own 0, .v (.int .i64 (sp10 a0 a1 a2).2)], [.arr 42 .sOwner (sp10 a0 a1 a2).1])
  | _, _ => none
theorem gTouched_ok {args : List AV} {hp : List Blk} {b : Bool} {r : AV} {hp' : List Blk} (h : gTouched args hp = some (b, r, hp')) (hb : b = true) : FnOk Pr 10 ∧ Okay Pr GL 10 args hp ⟨r, hp'⟩ := by
  unfold gTouched at h
  split at h
  · simp only [Option.bind_eq_some_iff] at h
    obtain ⟨a0, h0, a1, h1, a2, h2, h⟩ := h
    cases h; exact ⟨fnok Tryz.func10 (by kernel_rfl) rfl, (oks10 a0 a1 a2 hb).ats (.cons (rdS_V h0) (.cons (rdL_V h1) (.cons (rdL_V h2) .nil)))⟩
  · cases h
noncomputable def GTo : Gam := fun c args hp => match c with
  | .f f => pick1 10 f (gTouched args hp) (GM (.f f) args hp)
  | .c x => GM (.c x) args hp
theorem GTook : GOk Pr GL GTo := by
  intro c args hp b r hp' h hb
  cases c with
  | f f =>
    simp only [GTo] at h
    rcases pick1_ok h with ⟨rfl, h⟩ | h
    · exact gTouched_ok h hb
    exact GMok (.f f) args hp b r hp' h hb
  | c x => exact GMok (.c x) args hp b r hp' h hb
end Go.Proofs.YtgfifnadfmaolaaGreatDoor
