/- The soundness of the abstract evaluator, part 15: functions. -/
import Derived.Test.YtgfifnadfmaolaaGreatDoorSE
namespace Go.Proofs.YtgfifnadfmaolaaGreatDoor
open Go.RowKit
set_option linter.unusedVariables false
set_option linter.unusedSimpArgs false
section
variable {P : Program} {GL : List AV} {G : Gam} {H : Hint} {B : Bs} {F : Nat → Prop} {β : Gh} {st : St} {a : Act} {w : World}
def resOne (tmps : Array Value) : ResultVar → Sem Value
  | .tmp t => pure (tmps.getD t undef)
  | .cell b t => do loadVar t (← asAddr (tmps.getD b undef))
theorem results_eq (fn : Func) (tmps : Array Value) : results fn tmps = (do let vs ← fn.results.mapM (resOne tmps); pure (if h : vs.size = 1 then vs[0] else .tuple vs)) := by
  unfold results
  congr 1
theorem run_raws (h : Rel B F β st a w) : ∀ (l : List ResultVar) (xs : List AV), raws P st l = some xs → ∃ ys : List Value, (l.mapM (resOne a.tmps)).run P w = .ok ys w ∧ ys.length = xs.length ∧ ∀ j, j < xs.length → V F w β (xs.getD j .undef) (ys.getD j undef)
  | [], xs, hx => by simp [raws] at hx; subst hx; exact ⟨[], by simp, rfl, fun j hj => by simp at hj⟩
  | .tmp t :: l, xs, hx => by
    simp only [raws] at hx
    split at hx
    · rename_i xs' ho
      simp at hx; subst hx
      obtain ⟨ys, h1, h2, h3⟩ := run_raws h l xs' ho
      refine ⟨a.tmps.getD t undef :: ys, by simp only [List.mapM_cons, resOne, Sem.run_bind, Sem.run_pure, Result.andThen_ok, h1], by simp [h2], fun j hj => ?_⟩
      cases j with
      | zero => exact h.env t
      | succ j => simpa using h3 j (by simpa using hj)
    · cases hx
  | .cell b ty :: l, xs, hx => by
    simp only [raws] at hx
    split at hx
    · rename_i y xs' hl ho
      simp at hx; subst hx
      obtain ⟨ys, h1, h2, h3⟩ := run_raws h l xs' ho
      obtain ⟨z, hz, hrun⟩ := load_sound (P := P) h.heap (h.env b) hl
      have hld : (do loadVar ty (← asAddr (a.tmps.getD b undef)) : Sem Value).run P w = .ok z w := by
        unfold Instr.loadAt at hrun
        generalize a.tmps.getD b undef = q at hrun ⊢
        cases q <;> simp [Instr.sureAddr, stuck, Sem.run, Sem.run_bind, Result.andThen] at hrun
        rename_i p
        cases p with
        | none => simp [Instr.sureAddr, stuck, Sem.run, Result.andThen] at hrun
        | some p => simpa [asAddr, Sem.run_bind, Instr.sureAddr] using hrun
      refine ⟨z :: ys, by rw [List.mapM_cons, Sem.run_bind, show (resOne a.tmps (.cell b ty)).run P w = .ok z w from hld]; simp only [Result.andThen_ok, Sem.run_bind, h1, Sem.run_pure], by simp [h2], fun j hj => ?_⟩
      cases j with
      | zero => exact hz
      | succ j => simpa using h3 j (by simpa using hj)
    · cases hx
theorem one_V {xs : List AV} {ys : List Value} (hl : ys.length = xs.length) (h : ∀ j, V F w β (xs.getD j .undef) (ys.getD j undef)) : V F w β (one xs) (if h : ys.toArray.size = 1 then ys.toArray[0] else .tuple ys.toArray) := by
  match xs, ys, hl with
  | [x], [y], _ => simpa [one] using h 0
  | [], [], _ => exact .tup _ _ rfl (fun j hj => by simp at hj)
  | x1 :: x2 :: xs, y1 :: y2 :: ys, hl =>
    have e : (if h : (y1 :: y2 :: ys).toArray.size = 1 then (y1 :: y2 :: ys).toArray[0] else Value.tuple (y1 :: y2 :: ys).toArray) = .tuple (y1 :: y2 :: ys).toArray := by simp
    rw [e]
    exact .tup _ _ (by simpa using hl) fun j hj => by rw [toA_getD]; exact h j
def entB (w : World) (F : Nat → Prop) (β : Gh) : Bs := ⟨w, fun p => β.o p ≠ none, F, β⟩
theorem give_sound {w0 : World} {F0 : Nat → Prop} {β0 : Gh} (h : Rel (entB w0 F0 β0) F β st a w) {fn : Func} {l l' : List AV} {st1 : St} {an : Ans} (hl : raws P st fn.results.toList = some l) (hc : st.convs l H.fin = some (l', st1)) (hg : give st1 l' = some an) :
    ∃ y, (results fn a.tmps).run P w = .ok y w ∧ Aft F0 w0 β0 st.np an y w := by
  obtain ⟨ys, h1, h2, h3⟩ := run_raws (P := P) h _ l hl
  have h3' : ∀ j, V F w β (l.getD j .undef) (ys.getD j undef) := fun j => by
    by_cases hj : j < l.length
    · exact h3 j hj
    · have : l.getD j .undef = .undef := by simp [List.getD, List.getElem?_eq_none (Nat.le_of_not_lt hj)]
      rw [this]; exact .undef _
  obtain ⟨F1, β1, z, zl, zv⟩ := convs_sound h hc h3'
  have hlen : ys.length = l'.length := by omega
  refine ⟨if h : ys.toArray.size = 1 then ys.toArray[0] else .tuple ys.toArray, ?_, ?_⟩
  · rw [results_eq, Sem.run_bind, Array.mapM_eq_mapM_toList]
    simp only [Sem.run_map, h1]
    simp
  · unfold give at hg
    generalize reach st1.heap 4000 (List.range st1.np) (rootsH (st1.heap.take st1.np) ++ rootsL l') = ids at hg
    dsimp only at hg
    split at hg
    · rename_i n1 n2
      simp at hg; subst hg
      have hn := nodupB_iff.1 n1
      have hR := z.rel.sub hn (Nat.eq_of_beq_eq_true n2)
      have hnp : st1.np = st.np := z.al.2.1
      refine ⟨F1, β1.sub ids, hR.kept, hR.fi, hR.fo, hR.lo, hR.per, fun j hj => ?_, hR.heap, ?_⟩
      · have := hR.nw j hj
        rw [← hnp]; exact this
      · exact sub_V 9 (one_V hlen zv)
    · cases hg
theorem dfok_nil {ds : List Deferred} (h : DfOk F w β [] ds) : ds = [] := by cases ds with | nil => rfl | cons => exact h.elim
theorem cd_mono {f : FuncId} {args : Array Value} {w : World} {R R' : Ending → World → Prop} (h : CD P f args w R) (hr : ∀ e w', R e w' → R' e w') : CD P f args w R' :=
  fun u => (h u).mono fun e u' w' ⟨h1, h2⟩ => ⟨h1, hr e w' h2⟩
theorem runDf_sound {fn : Func} {w0 : World} {F0 : Nat → Prop} {β0 : Gh} {N : Nat} {k : St → Option Ans} {an : Ans} {R : Ending → World → Prop} {D : Gam} (hD : GOkG (CD P) P GL D)
    (hk : ∀ st' F' β' w' (a' : Act), a'.tmps = a.tmps → Rel (entB w0 F0 β0) F' β' st' a' w' → st'.df = [] → st'.gl = GL → st'.np = N → k st' = some an → ∃ v, (results fn a.tmps).run P w' = .ok v w' ∧ R (.returned v) w') :
    ∀ (l : List (FuncId × List AV)) (ds : List Deferred) (F : Nat → Prop) (β : Gh) (st : St) (w : World), Rel (entB w0 F0 β0) F β { st with df := l } { a with defers := ds } w → st.gl = GL → st.np = N →
      runDf D l { st with df := l } k = some an → Leaves P fn a.tmps R ds .returning w
  | [], ds, F, β, st, w, h, hgl, hnp, hr => by
    have := dfok_nil h.df
    simp only at this
    subst this
    simp only [runDf] at hr
    exact hk _ F β w { a with defers := [] } rfl h rfl hgl hnp hr
  | (f, as) :: l, [], F, β, st, w, h, hgl, hnp, hr => h.df.elim
  | (f, as) :: l, d :: ds, F, β, st, w, h, hgl, hnp, hr => by
    obtain ⟨⟨cap, h1, h2, h3⟩, h4⟩ := h.df
    have hR : Rel (entB w0 F0 β0) F β { st with df := l } { a with defers := ds } w := ⟨h.len, h.env, h.gl, h4, h.kept, h.fo, h.fi, h.lo, h.per, h.bn, h.nw, h.hn, h.heap⟩
    simp only [runDf] at hr
    have hent : Ent P F w β (.func (.func f) #[] cap) d.args (.f f) as := fun hn => by
      refine ⟨(d.args ++ cap).toList, fun w' => ?_, by simpa using h2, fun j hj => by rw [toL_getD]; exact h3 j hj⟩
      have := callFunc_run hn (d.args ++ cap) w'
      simp [Deferred.ofValue, invoke, Sem.run_bind, this]
    obtain ⟨n, us, e1, e2⟩ := evCall_sound (C := CD P) (fun h hr => cd_mono h hr) hD hR hgl hr hent
    have hinv : (invoke d.target d.args).run P w = .ok (.enter n us.toArray) w := by
      have := e1 w
      simp only [Deferred.ofValue, Sem.run_bind, Sem.run_pure, Result.andThen_ok, Array.empty_append] at this
      rw [h1]; exact this
    refine ⟨by simp, .func f, cap, n, us.toArray, h1, hinv, (e2 .returning).mono fun e u' w' ⟨hu, z, hz, F', β', x, st', hR', hA, henv, hdf, hv, hkk⟩ => ?_⟩
    subst hz hu
    have hst : ({ st' with df := l } : St) = st' := by
      have : st'.df = l := hdf
      rw [← this]
    refine runDf_sound hD hk l ds F' β' st' w' (by rw [hst]; exact hR') (hA.1.trans hgl) (hA.2.1.trans hnp) ?_
    rw [hst]; exact hkk
theorem fin_leaves {w0 : World} {F0 : Nat → Prop} {β0 : Gh} (hD : GOkG (CD P) P GL H.dfr) (h : Rel (entB w0 F0 β0) F β st a w) (hgl : st.gl = GL) {fn : Func} {e : Ex} {an : Ans} (hr : fin P H fn e st = some an) :
    (e = .normal ∨ e = .ret) ∧ Leaves P fn a.tmps (fun en w' => ∃ y, en = .returned y ∧ Aft F0 w0 β0 st.np an y w') a.defers .returning w := by
  have he : e = .normal ∨ e = .ret := by cases e with | exit id => simp [fin] at hr | normal => exact .inl rfl | ret => exact .inr rfl
  refine ⟨he, ?_⟩
  have hr' : (match st.df with
    | [] => match raws P st fn.results.toList with
      | some l => match st.convs l H.fin with
        | some (l', st1) => give st1 l'
        | none => none
      | none => none
    | d :: r => runDf H.dfr (d :: r) st fun st => match raws P st fn.results.toList with
      | some l => match st.convs l H.fin with
        | some (l', st1) => give st1 l'
        | none => none
      | none => none) = some an := by rcases he with rfl | rfl <;> exact hr
  clear hr
  have last : ∀ st' F' β' w' (a' : Act), a'.tmps = a.tmps → Rel (entB w0 F0 β0) F' β' st' a' w' → st'.df = [] → st'.gl = GL → st'.np = st.np → (match raws P st' fn.results.toList with
      | some l => match st'.convs l H.fin with
        | some (l', st1) => give st1 l'
        | none => none
      | none => none) = some an → ∃ v, (results fn a.tmps).run P w' = .ok v w' ∧ ∃ y, Ending.returned v = .returned y ∧ Aft F0 w0 β0 st.np an y w' := fun st' F' β' w' a' ht hR _ _ hnp hq => by
    split at hq
    · rename_i l hl
      split at hq
      · rename_i l' st1 hc
        obtain ⟨y, h1, h2⟩ := give_sound hR hl hc hq
        rw [ht] at h1
        exact ⟨y, h1, y, rfl, by rw [← hnp]; exact h2⟩
      · cases hq
    · cases hq
  split at hr'
  · rename_i hdf
    have hds : a.defers = [] := dfok_nil (by have := h.df; rw [hdf] at this; exact this)
    rw [hds]
    exact last st F β w a rfl h hdf hgl rfl hr'
  · rename_i d r hdf
    have hst : ({ st with df := d :: r } : St) = st := by rw [← hdf]
    have ha : ({ a with defers := a.defers } : Act) = a := rfl
    exact runDf_sound hD last (d :: r) a.defers F β st w (by rw [hst]; exact h) hgl rfl (by rw [hst]; exact hr')
theorem entry_rel {dp : TypeId → List (Nat × TypeId)} {F : Nat → Prop} {w : World} {β : Gh} {fn : Func} {args : List AV} {hp : List Blk} {vs : List Value} (hh : HOk F w β hp) (hgl : GlOk GL F w) (hl : vs.length = args.length) (hv : ∀ j, j < args.length → V F w β (args.getD j .undef) (vs.getD j undef)) :
    Rel (entB w F β) F β (entry dp GL fn args hp) { tmps := vs.toArray ++ Array.replicate (fn.ntmps - vs.toArray.size) undef, defers := [] } w := by
  refine ⟨by simp [entry, hl], fun t => ?_, hgl, trivial, .refl _ _, fun p hp => .inl hp, fun p hp => hp, fun p κ hp => .inl (by show β.o p ≠ none; rw [hp]; simp), .refl _, hh.live, fun b hb => .inl hb, Nat.le_refl _, hh⟩
  by_cases ht : t < args.length
  · have := hv t ht
    have ht' : t < vs.length := by omega
    have e1 : (entry dp GL fn args hp).get t = args.getD t .undef := by simp [entry, St.get, List.getD, List.getElem?_append_left ht]
    have e2 : (vs.toArray ++ Array.replicate (fn.ntmps - vs.toArray.size) undef).getD t undef = vs.getD t undef := by
      rw [Array.getD_eq_getD_getElem?, Array.getElem?_append_left (by simpa using ht'), List.getElem?_toArray, List.getD_eq_getElem?_getD]
    rw [e1]
    show V F w β _ ((vs.toArray ++ Array.replicate (fn.ntmps - vs.toArray.size) undef).getD t undef)
    rw [e2]; exact this
  · have : (entry dp GL fn args hp).get t = .undef := by
      simp only [entry, St.get, List.getD, List.getElem?_append_right (Nat.le_of_not_lt ht), List.getElem?_replicate]
      split <;> rfl
    rw [this]; exact .undef _
theorem okay_of_run (hG : GOk P GL G) (hD : GOkG (CD P) P GL H.dfr) {f : FuncId} {fn : Func} {c : Code} (hf : P.funcs[f]? = some fn) (hb : fn.body = some c) (hu : okL H 0 c = true) {args : List AV} {hp : List Blk} {an : Ans} (n : Nat)
    (hrun : runF P G H (runL P G H fn n) GL fn args hp = some an) : Okay P GL f args hp an := by
  intro F w β vs hh hgl hl hv
  have hbody : bodyOf fn = c := by simp [bodyOf, hb]
  refine calls_of_wp_defers hf hb ?_
  refine ev_sound (B := entB w F β) (H := H) (GL := GL) (N := hp.length) hG (runL P G H fn) (fun _ _ => rfl) (r := an) c 0 hu (n + 1) (fun _ => fin P H fn) _ (fun i _ e st a w' F' β' hR hgn hk => ?_) (fun at_ _ i _ st => by rw [← hbody]; rfl) n (by omega) (entry H.dp GL fn args hp) _ w F β (entry_rel hh hgl hl hv) ⟨rfl, rfl⟩ (by rw [← hbody]; exact hrun)
  obtain ⟨he, hL⟩ := fin_leaves hD hR hgn.1 hk
  rw [hgn.2] at hL
  rcases he with rfl | rfl <;> exact hL
def G0 : Gam := fun _ _ _ => none
theorem G0ok {C : FuncId → Array Value → World → (Ending → World → Prop) → Prop} : GOkG C P GL G0 := fun _ _ _ _ _ _ h => by cases h
end
end Go.Proofs.YtgfifnadfmaolaaGreatDoor
