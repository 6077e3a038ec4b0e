/- The soundness of the abstract evaluator, part 6: functions. -/
import Derived.Test.YthobdipfccldgaaS5
namespace Go.Proofs.Ythobdipfccldgaa
open Go.RowKit
set_option linter.unusedVariables false
set_option linter.unusedSimpArgs false
section
variable {P : Program} {GL : List AV} {G : Gam} {H : Nat → List Nat × Nat} {w0 : World} {F0 F : Nat → Prop} {β : Gh} {st : St} {a : Act} {w : World}
def resOne (tmps : Array Value) : ResultVar → Sem Value
  | .tmp t => pure (tmps.getD t undef)
  | .cell b t => do loadVar t (← asAddr (tmps.getD b undef))
theorem results_eq (fn : Func) (tmps : Array Value) : results fn tmps = (do let vs ← fn.results.mapM (resOne tmps); pure (if h : vs.size = 1 then vs[0] else .tuple vs)) := by
  unfold results
  congr 1
theorem run_raws (h : Rel w0 F0 F β st a w) : ∀ (l : List ResultVar) (xs : List AV), raws P st l = some xs → ∃ ys : List Value, (l.mapM (resOne a.tmps)).run P w = .ok ys w ∧ ys.length = xs.length ∧ ∀ j, j < xs.length → V F w β st.heap.length (xs.getD j .undef) (ys.getD j undef)
  | [], xs, hx => by simp [raws] at hx; subst hx; exact ⟨[], by simp, rfl, fun j hj => by simp at hj⟩
  | .tmp t :: l, xs, hx => by
    simp only [raws] at hx
    split at hx
    · rename_i xs' ho
      simp at hx; subst hx
      obtain ⟨ys, h1, h2, h3⟩ := run_raws h l xs' ho
      refine ⟨a.tmps.getD t undef :: ys, by simp only [List.mapM_cons, resOne, Sem.run_bind, Sem.run_pure, Result.andThen_ok, h1], by simp [h2], fun j hj => ?_⟩
      cases j with
      | zero => exact h.env t
      | succ j => simpa using h3 j (by simpa using hj)
    · cases hx
  | .cell b ty :: l, xs, hx => by
    simp only [raws] at hx
    split at hx
    · rename_i y xs' hl ho
      simp at hx; subst hx
      obtain ⟨ys, h1, h2, h3⟩ := run_raws h l xs' ho
      obtain ⟨z, hz, hrun⟩ := load_sound (P := P) h (h.env b) hl
      have hrun := hrun w (Below.refl _ _)
      have hld : (do loadVar ty (← asAddr (a.tmps.getD b undef)) : Sem Value).run P w = .ok z w := by
        unfold Instr.loadAt at hrun
        generalize a.tmps.getD b undef = q at hrun ⊢
        cases q <;> simp [Instr.sureAddr, stuck, Sem.run, Sem.run_bind, Result.andThen] at hrun
        rename_i p
        cases p with
        | none => simp [Instr.sureAddr, stuck, Sem.run, Result.andThen] at hrun
        | some p => simpa [asAddr, Sem.run_bind, Instr.sureAddr] using hrun
      refine ⟨z :: ys, by rw [List.mapM_cons, Sem.run_bind, show (resOne a.tmps (.cell b ty)).run P w = .ok z w from hld]; simp only [Result.andThen_ok, Sem.run_bind, h1, Sem.run_pure], by simp [h2], fun j hj => ?_⟩
      cases j with
      | zero => exact hz
      | succ j => simpa using h3 j (by simpa using hj)
    · cases hx
/-- Results handed over: what is behind it. -/
structure Giv (w0 : World) (F0 F : Nat → Prop) (β : Gh) (st : St) (a : Act) (w : World) (F1 : Nat → Prop) (st1 : St) : Prop where
  rel : Rel w0 F0 F1 β st1 a w
  sub : ∀ k, F k → F1 k
  sup : ∀ k, F1 k → F k ∨ ∃ c kc, st.heap[c]? = some kc ∧ ph β c kc = some k
  blk : ∀ c kc p, st1.heap[c]? = some kc → ph β c kc = some p → ∃ kc0, st.heap[c]? = some kc0 ∧ ph β c kc0 = some p
/-- A block that is no own one's any more. -/
def Gone (β : Gh) (st st1 : St) (p : Nat) : Prop := (∃ c kc, st.heap[c]? = some kc ∧ ph β c kc = some p) ∧ ∀ c kc, st1.heap[c]? = some kc → ph β c kc ≠ some p
theorem frz_not_fr {x y : AV} {st1 : St} (hs : st.frz x = some (y, st1)) : isFr y = false := by
  unfold St.frz at hs
  split at hs
  · split at hs
    · simp at hs; obtain ⟨rfl, _⟩ := hs; rfl
    · cases hs
  · unfold St.frz1 at hs
    split at hs
    · simp at hs; obtain ⟨rfl, _⟩ := hs; rfl
    · simp at hs; obtain ⟨rfl, _⟩ := hs; rfl
    · split at hs
      · simp at hs; obtain ⟨rfl, _⟩ := hs; rfl
      · simp at hs; obtain ⟨rfl, _⟩ := hs; rfl
      · cases hs
    · cases hs
theorem give1_sound (h : Rel w0 F0 F β st a w) {x y : AV} {st1 : St} (hs : st.give1 x = some (y, st1)) : ∃ F1, Giv w0 F0 F β st a w F1 st1 ∧ ∀ m v, V F w β m x v → Dr1 w0.heap.size F1 w y v ∧ (isFr y = true → ∀ p, v.ownBlock = some p → Gone β st st1 p ∧ ¬ F1 p) := by
  unfold St.give1 at hs
  split at hs
  · rename_i b
    split at hs
    · rename_i e t xs hb
      simp at hs; obtain ⟨rfl, rfl⟩ := hs
      refine ⟨F, ⟨h.kill b, fun _ hk => hk, fun k hk => .inl hk, fun c kc p h1 h2 => ?_⟩, fun m v hv => ?_⟩
      · by_cases hcb : c = b
        · subst hcb
          have := heap_get_set_same h1
          subst this
          simp [ph] at h2
        · exact ⟨kc, heap_get_set hcb h1, h2⟩
      · obtain ⟨_, rfl, _⟩ := V_own hv
        obtain ⟨Vs, g1, g2, g3⟩ := h.blk b _ hb
        have hph : ∀ {p}, (β.v b).ownBlock = some p → ph β b (.arr e t xs) = some p := fun hp => hp
        refine ⟨.inr ⟨e, t, xs, rfl, Vs, g1, g2, g3, fun p hp => h.sep b _ p hb (hph hp)⟩, fun _ p hp => ⟨⟨⟨b, _, hb, hph hp⟩, fun c kc h1 h2 => ?_⟩, h.sep b _ p hb (hph hp)⟩⟩
        by_cases hcb : c = b
        · subst hcb
          have := heap_get_set_same h1
          subst this
          simp [ph] at h2
        · exact hcb (h.inj c b kc _ p (heap_get_set hcb h1) hb h2 (hph hp))
    · rename_i t xs hb
      simp at hs; obtain ⟨rfl, rfl⟩ := hs
      refine ⟨F, ⟨h, fun _ hk => hk, fun k hk => .inl hk, fun c kc p h1 h2 => ⟨kc, h1, h2⟩⟩, fun m v hv => ?_⟩
      obtain ⟨_, rfl, _⟩ := V_own hv
      exact ⟨.inl (h.blk b _ hb), fun hf => by cases hf⟩
    · cases hs
  · obtain ⟨F1, z, hd⟩ := frz_sound h hs
    exact ⟨F1, ⟨z.rel, z.sub, z.sup, z.blk⟩, fun m v hv => ⟨.inl (hd m v hv), fun hf => by rw [frz_not_fr hs] at hf; cases hf⟩⟩
theorem Own1.mono {base : Nat} {F F' : Nat → Prop} {e : TypeId} {t : Ty} {xs : List t.T} {y : Value} (h : Own1 base F w e t xs y) (hs : ∀ k, F k → F' k) (hn : ∀ p, y.ownBlock = some p → ¬ F' p) : Own1 base F' w e t xs y := by
  obtain ⟨Vs, h1, h2, h3, _⟩ := h
  exact ⟨Vs, h1, h2, fun i j hi hj => (h3 i j hi hj).mono (sub_ext hs w), hn⟩
theorem gives_sound : ∀ {l out : List AV} {F : Nat → Prop} {st st1 : St}, Rel w0 F0 F β st a w → st.gives l = some (out, st1) → ∃ F1, Giv w0 F0 F β st a w F1 st1 ∧ out.length = l.length ∧
    ∀ (m : Nat) (Y : Nat → Value), (∀ j, j < l.length → V F w β m (l.getD j .undef) (Y j)) → Drs w0.heap.size F1 w out Y ∧ ∀ j p, j < l.length → isFr (out.getD j .undef) = true → (Y j).ownBlock = some p → ∃ c kc, st.heap[c]? = some kc ∧ ph β c kc = some p
  | [], out, F, st, st1, h, hs => by
    simp [St.gives] at hs
    obtain ⟨rfl, rfl⟩ := hs
    exact ⟨F, ⟨h, fun _ hk => hk, fun k hk => .inl hk, fun c kc p h1 h2 => ⟨kc, h1, h2⟩⟩, rfl, fun _ _ _ => ⟨⟨fun j hj => by simp at hj, fun i j p hij hj => by simp at hj⟩, fun j p hj => by simp at hj⟩⟩
  | x :: l, out, F, st, st2, h, hs => by
    simp only [St.gives] at hs
    split at hs
    · rename_i y st1 hy
      split at hs
      · rename_i ys st2' hys
        simp at hs; obtain ⟨rfl, rfl⟩ := hs
        obtain ⟨F1, z1, d1⟩ := give1_sound h hy
        obtain ⟨F2, z2, l2, d2⟩ := gives_sound z1.rel hys
        have hsup : ∀ k, F2 k → F1 k ∨ ∃ c kc, st1.heap[c]? = some kc ∧ ph β c kc = some k := z2.sup
        refine ⟨F2, ⟨z2.rel, fun k hk => z2.sub k (z1.sub k hk), fun k hk => ?_, fun c kc p h1 h2 => ?_⟩, by simp [l2], fun m Y hY => ?_⟩
        · rcases z2.sup k hk with hk | ⟨c, kc, h1, h2⟩
          · exact z1.sup k hk
          · obtain ⟨k0, h3, h4⟩ := z1.blk c kc k h1 h2
            exact .inr ⟨c, k0, h3, h4⟩
        · obtain ⟨k1, h3, h4⟩ := z2.blk c kc p h1 h2
          exact z1.blk c k1 p h3 h4
        · obtain ⟨e1, e2⟩ := d1 m (Y 0) (by simpa using hY 0 (by simp))
          obtain ⟨f1, f2⟩ := d2 m (fun j => Y (j + 1)) (fun j hj => (by simpa using hY (j + 1) (by simpa using hj) : V F w β m (l.getD j .undef) (Y (j + 1))).mono (sub_ext z1.sub w) (Nat.le_refl _) (same_β m))
          refine ⟨⟨fun j hj => ?_, fun i j p hij hj h1 h2 hp1 hp2 => ?_⟩, fun j p hj h1 hp => ?_⟩
          · cases j with
            | zero =>
              rcases e1 with e1 | ⟨e, t, xs, hyf, hO⟩
              · exact .inl (by simpa using e1.mono (sub_ext z2.sub w))
              · refine .inr ⟨e, t, xs, by simpa using hyf, hO.mono z2.sub fun p hp hF => ?_⟩
                obtain ⟨⟨_, hg⟩, hn⟩ := e2 (by rw [hyf]; rfl) p hp
                rcases hsup p hF with hF | ⟨c, kc, h1, h2⟩
                · exact hn hF
                · exact hg c kc h1 h2
            | succ j => simpa using f1.1 j (by simpa using hj)
          · cases j with
            | zero => omega
            | succ j =>
              cases i with
              | zero =>
                obtain ⟨⟨_, hg⟩, _⟩ := e2 (by simpa using h1) p hp1
                have hj' : j < ys.length := by simpa using hj
                obtain ⟨c, kc, q1, q2⟩ := f2 j p (by omega) (by simpa using h2) hp2
                exact hg c kc q1 q2
              | succ i => exact f1.2 i j p (by omega) (by simpa using hj) (by simpa using h1) (by simpa using h2) hp1 hp2
          · cases j with
            | zero => exact (e2 (by simpa using h1) p hp).1.1
            | succ j =>
              obtain ⟨c, kc, q1, q2⟩ := f2 j p (by simpa using hj) (by simpa using h1) hp
              obtain ⟨k0, q3, q4⟩ := z1.blk c kc p q1 q2
              exact ⟨c, k0, q3, q4⟩
      · cases hs
    · cases hs
theorem fin_sound (h : Rel w0 F0 F β st a w) {fn : Func} {e : Ex} {r : AV} (hr : fin P fn e st = some r) : (e = .normal ∨ e = .ret) ∧ ∃ y, (results fn a.tmps).run P w = .ok y w ∧ ∃ F1, (∀ k, F k → F1 k) ∧ (∀ k, F1 k → F k ∨ ∃ c kc, st.heap[c]? = some kc ∧ ph β c kc = some k) ∧ Dr w0.heap.size F1 w r y := by
  have he : e = .normal ∨ e = .ret := by cases e with | exit id => simp [fin] at hr | normal => exact .inl rfl | ret => exact .inr rfl
  refine ⟨he, ?_⟩
  have hr' : (match raws P st fn.results.toList with | some l => (match st.gives l with | some ([x], _) => some x | some (xs, _) => some (.tup xs) | none => none) | none => none) = some r := by
    rcases he with rfl | rfl <;> exact hr
  cases ho : raws P st fn.results.toList with
  | none => simp [ho] at hr'
  | some xs =>
    obtain ⟨ys, h1, h2, h3⟩ := run_raws h _ xs ho
    have hm : ∀ y, (if h : ys.toArray.size = 1 then ys.toArray[0] else .tuple ys.toArray) = y → (results fn a.tmps).run P w = .ok y w := by
      intro y hy
      rw [results_eq, Sem.run_bind, Array.mapM_eq_mapM_toList]
      simp only [Sem.run_map, h1]
      subst hy
      simp
    rw [ho] at hr'
    simp only at hr'
    cases hg : st.gives xs with
    | none => simp [hg] at hr'
    | some p =>
      obtain ⟨out, st1⟩ := p
      rw [hg] at hr'
      obtain ⟨F1, z, hl, hd⟩ := gives_sound h hg
      obtain ⟨hd, _⟩ := hd _ (fun j => ys.getD j undef) h3
      have hyl : ys.length = out.length := by omega
      match out, hr', hd, hyl with
      | [x], hr', hd, hyl =>
        simp at hr'; subst hr'
        match ys, hyl, hd, hm with
        | [y], _, hd, hm => exact ⟨y, hm y (by simp), F1, z.sub, z.sup, .inl (by simpa using hd.1 0 (by simp))⟩
      | [], hr', hd, hyl =>
        simp at hr'; subst hr'
        match ys, hyl, hm with
        | [], _, hm => exact ⟨.tuple #[], hm _ (by simp), F1, z.sub, z.sup, .inl (.inl (.tup _ _ rfl (fun j hj => by simp at hj)))⟩
      | x1 :: x2 :: out, hr', hd, hyl =>
        simp at hr'; subst hr'
        match ys, hyl, hm, hd with
        | y1 :: y2 :: ys, hyl, hm, hd =>
          have e1 : ∀ j, (y1 :: y2 :: ys).toArray.getD j undef = (y1 :: y2 :: ys).getD j undef := fun j => by rw [Array.getD_eq_getD_getElem?, List.getElem?_toArray, ← List.getD_eq_getElem?_getD]
          refine ⟨.tuple (y1 :: y2 :: ys).toArray, hm _ (by simp), F1, z.sub, z.sup, .inr ⟨_, _, rfl, rfl, by simpa using hyl, ?_⟩⟩
          have e2 : (fun j => (y1 :: y2 :: ys).toArray.getD j undef) = fun j => (y1 :: y2 :: ys).getD j undef := funext e1
          rw [e2]; exact hd
theorem entry_rel {F : Nat → Prop} {w : World} {fn : Func} {args : List AV} {vs : List Value} (hgl : GlOk GL F w) (hF : ∀ b, F b → b < w.heap.size) (hl : vs.length = args.length) (hv : ∀ j, j < args.length → D F w (args.getD j .undef) (vs.getD j undef)) :
    Rel w F F ⟨fun _ => 0, fun _ => undef⟩ (entry GL fn args) { tmps := vs.toArray ++ Array.replicate (fn.ntmps - vs.toArray.size) undef, defers := [] } w := by
  refine ⟨by simp [entry, hl], fun t => ?_, fun g => hgl _ g, rfl, Below.refl _ _, hF, fun b hb => .inl hb, fun b k hb => by simp [entry] at hb, fun b k p hb => by simp [entry] at hb, fun b c kb kc p hb => by simp [entry] at hb, fun b k p hb => by simp [entry] at hb⟩
  by_cases ht : t < args.length
  · have := hv t ht
    refine .ofD ?_
    have ht' : t < vs.length := by omega
    have e1 : (entry GL fn args).get t = args.getD t .undef := by simp [entry, St.get, List.getD, List.getElem?_append_left ht]
    have e2 : (vs.toArray ++ Array.replicate (fn.ntmps - vs.toArray.size) undef).getD t undef = vs.getD t undef := by
      rw [Array.getD_eq_getD_getElem?, Array.getElem?_append_left (by simpa using ht'), List.getElem?_toArray, List.getD_eq_getElem?_getD]
    rw [e1]
    show D F w _ ((vs.toArray ++ Array.replicate (fn.ntmps - vs.toArray.size) undef).getD t undef)
    rw [e2]; exact this
  · left
    simp only [entry, St.get, List.getD, List.getElem?_append_right (Nat.le_of_not_lt ht), List.getElem?_replicate]
    split <;> rfl
/-- A function's answer out of its run. -/
theorem okay_of_run (hG : GOk P GL G) {f : FuncId} {fn : Func} {c : Code} (hf : P.funcs[f]? = some fn) (hb : fn.body = some c) (hu : okL 0 c = true) {args : List AV} {r : AV} (n : Nat) (hrun : runF P G H (runL P G H fn n) GL fn args = some r) : Okay P GL f args r := by
  intro F w vs hF hgl hl hv
  have hbody : bodyOf fn = c := by simp [bodyOf, hb]
  refine calls_of_wp hf hb ?_
  refine ev_sound (w0 := w) (F0 := F) (H := H) (GL := GL) hG (runL P G H fn) (fun _ _ => rfl) (r := r) c 0 hu (n + 1) (fun _ => fin P fn) _ (fun i _ e st a w' F' β hR _ hk => ?_) (fun at_ _ i _ st => by rw [← hbody]; rfl) n (by omega) (entry GL fn args) _ w F _ (entry_rel hgl hF hl hv) rfl (by rw [← hbody]; exact hrun)
  obtain ⟨he, y, hy, F1, hs1, hs2, hd⟩ := fin_sound hR hk
  have hpost : a.defers = [] ∧ ∃ v, (results fn a.tmps).run P w' = .ok v w' ∧ ∃ y, Ending.returned v = .returned y ∧ Below w.heap.size w w' ∧ ∃ F' : Nat → Prop, (∀ b, F b → F' b) ∧ (∀ b, F' b → F b ∨ (w.heap.size ≤ b ∧ b < w'.heap.size)) ∧ Dr w.heap.size F' w' r y := by
    have hE : ∀ b, (F1 b ∨ F b) → F b ∨ (w.heap.size ≤ b ∧ b < w'.heap.size) := fun b hb => by
      have hb' : F1 b ∨ F b := hb
      rcases hb' with hb' | hb'
      · rcases hs2 b hb' with hb' | ⟨c, kc, h1, h2⟩
        · rcases hR.fo b hb' with h | h
          · exact .inl h
          · exact .inr ⟨h, hR.fb b hb'⟩
        · exact .inr (hR.lo c kc b h1 h2)
      · exact .inl hb'
    refine ⟨hR.defers, y, hy, y, rfl, hR.below, fun b => F1 b ∨ F b, fun b hb => .inr hb, hE, ?_⟩
    have hsub : ∀ k, F1 k → F1 k ∨ F k := fun k hk => .inl hk
    have one : ∀ {x : AV} {v : Value}, Dr1 w.heap.size F1 w' x v → Dr1 w.heap.size (fun b => F1 b ∨ F b) w' x v := fun h => by
      rcases h with h | ⟨e, t, xs, rfl, hO⟩
      · exact .inl (h.mono (sub_ext hsub w'))
      · have hO' := hO
        obtain ⟨Vs, h1, h2, h3, h4⟩ := hO
        refine .inr ⟨e, t, xs, rfl, hO'.mono hsub fun p hp hF' => ?_⟩
        rcases hF' with hF' | hF'
        · exact h4 p hp hF'
        · have := (owns_lt h1 hp).1
          have := hF p hF'
          omega
    rcases hd with hd | ⟨cs, ys, h1, h2, h3, h4⟩
    · exact .inl (one hd)
    · exact .inr ⟨cs, ys, h1, h2, h3, fun j hj => one (h4.1 j hj), h4.2⟩
  rcases he with rfl | rfl <;> exact hpost
end
end Go.Proofs.Ythobdipfccldgaa
