/- The soundness of the abstract evaluator, part 5: code, loops, functions. -/
import Derived.Test.YthobdipfccldgaaS4
import Derived.LoopN
namespace Go.Proofs.Ythobdipfccldgaa
open Go.RowKit
set_option linter.unusedVariables false
set_option linter.unusedSimpArgs false
def exOf : Ex → Exit
  | .normal => .normal | .exit id => .exit id | .ret => .ret
/-- The labels of loops. -/
def labels : Nat → Code → List Nat
  | l, .seq a b => labels l a ++ labels l b
  | l, .cond _ a b => labels l a ++ labels l b
  | _, .block id c => labels id c
  | l, .loop c => l :: labels l c
  | _, _ => []
/-- No label stands twice. -/
def okL : Nat → Code → Bool
  | l, .seq a b => okL l a && okL l b && (labels l a).all fun x => !(stepAt.hasLoop x l b)
  | l, .cond _ a b => okL l a && okL l b && (labels l a).all fun x => !(stepAt.hasLoop x l b)
  | _, .block id c => okL id c
  | l, .loop c => okL l c && !(stepAt.hasLoop l l c)
  | _, _ => true
theorem hasLoop_mem (x : Nat) : ∀ (l : Nat) (c : Code), stepAt.hasLoop x l c = true → x ∈ labels l c := by
  intro l c
  induction c generalizing l with
  | seq a b iha ihb =>
    intro h
    simp only [stepAt.hasLoop] at h
    simp only [labels, List.mem_append]
    split at h
    · rename_i ha; exact .inl (iha l ha)
    · exact .inr (ihb l h)
  | cond _ a b iha ihb =>
    intro h
    simp only [stepAt.hasLoop] at h
    simp only [labels, List.mem_append]
    split at h
    · rename_i ha; exact .inl (iha l ha)
    · exact .inr (ihb l h)
  | block id c ih => intro h; simp only [stepAt.hasLoop] at h; exact ih id h
  | loop c ih =>
    intro h
    simp only [stepAt.hasLoop] at h
    simp only [labels, List.mem_cons]
    split at h
    · rename_i he; exact .inl (Nat.eq_of_beq_eq_true he).symm
    · exact .inr (ih l h)
  | _ => intro h; simp [stepAt.hasLoop] at h
section
variable {P : Program} {GL : List AV} {G : Gam} {H : Nat → List Nat × Nat} {w0 : World} {F0 F : Nat → Prop} {β : Gh} {st : St} {a : Act} {w : World}
theorem V1_under {m m' : Nat} {x : AV} {y : Value} (h : V1 F w β m x y) (hu : x.under m' = true) : V1 F w β (min m' m) x y := by
  rcases h with h | ⟨b, off, rfl, hb, rfl⟩ | ⟨b, rfl, hb, rfl, hs⟩
  · exact .inl h
  · refine .inr (.inl ⟨b, off, rfl, ?_, rfl⟩)
    simp only [AV.under, Nat.blt_eq] at hu
    omega
  · refine .inr (.inr ⟨b, rfl, ?_, rfl, hs⟩)
    simp only [AV.under, Nat.blt_eq] at hu
    omega
theorem under_go {m' : Nat} : ∀ {cs : List AV}, AV.under.go m' cs = true → ∀ j, j < cs.length → (cs.getD j .undef).under m' = true
  | [], _, j, hj => by simp at hj
  | c :: cs, h, j, hj => by
    cases j with
    | zero =>
      cases c <;> simp only [AV.under.go] at h <;> simp only [List.getD_cons_zero, AV.under] <;> first | rfl | (split at h <;> first | assumption | cases h) | cases h
    | succ j =>
      have : AV.under.go m' cs = true := by
        cases c <;> simp only [AV.under.go] at h <;> first | exact h | (split at h <;> first | assumption | cases h) | cases h
      simpa using under_go this j (by simpa using hj)
theorem V_under {m m' : Nat} {x : AV} {y : Value} (h : V F w β m x y) (hu : x.under m' = true) : V F w β (min m' m) x y := by
  rcases h with h | h | ⟨cs, ys, rfl, rfl, hl, h⟩ | ⟨b, sz, i, off, p, n, c, rfl, hb, h⟩ | h | ⟨cs, ys, rfl, rfl, hl, h⟩
  · exact .inl h
  · exact .of1 (V1_under h hu)
  · exact .inr (.inr (.inl ⟨cs, ys, rfl, rfl, hl, fun j hj => V1_under (h j hj) (under_go hu j hj)⟩))
  · refine .inr (.inr (.inr (.inl ⟨b, sz, i, off, p, n, c, rfl, ?_, h⟩)))
    simp only [AV.under, Nat.blt_eq] at hu
    omega
  · exact .inr (.inr (.inr (.inr (.inl h))))
  · exact .inr (.inr (.inr (.inr (.inr ⟨cs, ys, rfl, rfl, hl, fun j hj => V1_under (h j hj) (under_go hu j hj)⟩))))
theorem allBelow_get {m' : Nat} : ∀ {cs : List AV}, allBelow m' cs = true → ∀ j, (cs.getD j .undef).under m' = true
  | [], _, j => by simp [AV.under]
  | c :: cs, h, j => by
    simp only [allBelow] at h
    split at h
    · rename_i h1
      cases j with
      | zero => simpa using h1
      | succ j => simpa using allBelow_get h j
    · cases h
theorem blksBelow_get {m' : Nat} : ∀ {hs : List Blk}, blksBelow m' hs = true → ∀ (b : Nat) (cs : List AV), hs[b]? = some (Blk.cells cs) → allBelow m' cs = true
  | [], _, b, cs, h => by simp at h
  | k :: hs, h, b, cs, hb => by
    cases b with
    | zero => simp at hb; subst hb; simp only [blksBelow] at h; split at h <;> first | assumption | cases h
    | succ b =>
      have : blksBelow m' hs = true := by
        cases k <;> simp only [blksBelow] at h <;> first | exact h | (split at h <;> first | assumption | cases h)
      exact blksBelow_get this b cs (by simpa using hb)
theorem clearAt_get (l : List Nat) : ∀ (i : Nat) (cs : List AV), (clearAt l i cs).length = cs.length ∧ ∀ j, (clearAt l i cs).getD j .undef = .undef ∨ (clearAt l i cs).getD j .undef = cs.getD j .undef
  | i, [] => by simp [clearAt]
  | i, c :: cs => by
    obtain ⟨h1, h2⟩ := clearAt_get l (i + 1) cs
    refine ⟨by simp [clearAt, h1], fun j => ?_⟩
    cases j with
    | zero =>
      simp only [clearAt, List.getD_cons_zero]
      split
      · exact .inl rfl
      · exact .inr rfl
    | succ j => simpa [clearAt] using h2 j
theorem head_sound (h : Rel w0 F0 F β st a w) {hd : List Nat × Nat} {k : St → Option AV} {r : AV} (hr : st.head hd k = some r) : ∃ st', Rel w0 F0 F β st' a w ∧ st'.gl = st.gl ∧ k st' = some r := by
  unfold St.head at hr
  split at hr
  · rename_i h1 h2
    refine ⟨⟨clearAt hd.1 0 st.env, st.heap.take hd.2, st.gl⟩, ?_, rfl, hr⟩
    have hlen : (st.heap.take hd.2).length = min hd.2 st.heap.length := by simp
    have hget : ∀ b k, (st.heap.take hd.2)[b]? = some k → st.heap[b]? = some k := fun b k hb => by
      rw [List.getElem?_take] at hb
      split at hb
      · exact hb
      · cases hb
    obtain ⟨c1, c2⟩ := clearAt_get hd.1 0 st.env
    refine ⟨by rw [c1]; exact h.len, fun t => ?_, h.gl, h.defers, h.below, h.fb, h.fo, fun b k hb => ?_, fun b k p hb => h.lo b k p (hget b k hb), fun b c kb kc p hb hc => h.inj b c kb kc p (hget b kb hb) (hget c kc hc), fun b k p hb => h.sep b k p (hget b k hb)⟩
    · have hu := allBelow_get h1 t
      show V F w β (st.heap.take hd.2).length ((clearAt hd.1 0 st.env).getD t .undef) _
      rw [hlen]
      rcases c2 t with e | e
      · rw [e]; exact .inl rfl
      · rw [e] at hu ⊢
        exact V_under (h.env t) hu
    · have hk := h.blk b k (hget b k hb)
      cases k with
      | cells cs =>
        obtain ⟨ys, T, g1, g2, g3⟩ := hk
        have hu := blksBelow_get h2 b cs hb
        exact ⟨ys, T, g1, g2, fun j hj => by rw [hlen]; exact V1_under (g3 j hj) (allBelow_get hu j)⟩
      | arr e t xs => exact hk
      | ro t xs => exact hk
      | dead => trivial
  · cases hr
def Mt (w0 : World) (F0 : Nat → Prop) (GL : List AV) (r : AV) (k : Kn) (Q : Exit → Act → World → Prop) : Prop :=
  ∀ e st a w F β, Rel w0 F0 F β st a w → st.gl = GL → k e st = some r → Q (exOf e) a w
theorem inBlk_mt {r : AV} {id : Nat} {k : Kn} {Q : Exit → Act → World → Prop} (h : Mt w0 F0 GL r k Q) : Mt w0 F0 GL r (inBlk id k) (Exit.inBlock id Q) := by
  intro e st a w F β hR hgl hk
  cases e with
  | normal => exact h .normal st a w F β hR hgl hk
  | ret => exact h .ret st a w F β hR hgl hk
  | exit j =>
    simp only [inBlk] at hk
    simp only [exOf, Exit.inBlock]
    split at hk
    · rename_i he
      rw [if_pos (Nat.eq_of_beq_eq_true he)]
      exact h .normal st a w F β hR hgl hk
    · rename_i he
      rw [if_neg (fun e => by rw [e] at he; simp at he)]
      exact h (.exit j) st a w F β hR hgl hk
theorem rounds_mono {c : Code} {Q : Exit → Act → World → Prop} : ∀ {n m : Nat}, n ≤ m → ∀ {a : Act} {w : World}, Code.rounds P c Q n a w → Code.rounds P c Q m a w
  | 0, _, _, _, _, h => h.elim
  | n + 1, 0, h, _, _, _ => by omega
  | n + 1, m + 1, h, a, w, hr => Code.wp_mono (fun e a w q => by
      cases e with
      | normal => exact rounds_mono (by omega) q
      | _ => exact q) hr
theorem ev_sound (hG : GOk P GL G) (J : Nat → Jmp) (hJ0 : ∀ l st, J 0 l st = none) {r : AV} : ∀ (c : Code) (l : Nat), okL l c = true → ∀ (N : Nat) (k : Nat → Kn) (Q : Exit → Act → World → Prop), (∀ n, n < N → Mt w0 F0 GL r (k n) Q) →
    (∀ at_, stepAt.hasLoop at_ l c = true → ∀ n, n < N → ∀ st, J (n + 1) at_ st = stepAt P G H (J n) at_ l c (k n) st) →
    ∀ n, n < N → ∀ st a w F β, Rel w0 F0 F β st a w → st.gl = GL → ev P G H (J n) l c (k n) st = some r → c.wp P Q a w := by
  intro c
  induction c with
  | skip => intro l _ N k Q hk _ n hn st a w F β h hgl hr; exact wp_skip (hk n hn .normal st a w F β h hgl hr)
  | region id ops draw =>
    intro l _ N k Q hk _ n hn st a w F β h hgl hr
    cases draw with
    | false =>
      refine wp_region_list ?_
      have := evOps_sound hG ops.toList (Q := Q) (k := k n .normal) (fun st' a' w' F' β' hR hgl' hk' => hk n hn .normal st' a' w' F' β' hR hgl' hk') ops.toList F β st a w h hgl hr
      simpa using this
    | true =>
      simp only [ev] at hr
      split at hr
      · rename_i h1 h2
        refine wp_region_quiet (C := Below w.heap.size w) h1 h2 ((Below.refl _ _).drew) ?_
        exact (evOpsD_sound hG ops.toList (k := k n .normal) (r := r) w F β (Q := fun a' => ∀ w', Below w.heap.size w w' → Q .normal a' w') (fun st' a' hR hgl' hk' w' hw' => hk n hn .normal st' a' w' F β (hR.later hw') hgl' hk') ops.toList st a h hgl hr)
      · cases hr
  | seq x y ihx ihy =>
    intro l ho N k Q hk hJ n hn st a w F β h hgl hr
    simp only [okL, Bool.and_eq_true, List.all_eq_true] at ho
    obtain ⟨⟨ho1, ho2⟩, ho3⟩ := ho
    refine wp_seq (ihx l ho1 N (fun n => seqK (ev P G H (J n) l y (k n)) (k n)) _ (fun n hn e st a w F β hR hgl hk' => ?_) (fun at_ hl n hn st => ?_) n hn st a w F β h hgl hr)
    · cases e with
      | normal =>
        refine ihy l ho2 N k Q hk (fun at_ hl n hn st => ?_) n hn st a w F β hR hgl hk'
        rw [hJ at_ (by simp only [stepAt.hasLoop]; split <;> first | rfl | exact hl) n hn st]
        simp only [stepAt]
        cases hx : stepAt.hasLoop at_ l x with
        | true => have := ho3 at_ (hasLoop_mem at_ l x hx); simp [hl] at this
        | false => rfl
      | exit id => exact hk n hn (.exit id) st a w F β hR hgl hk'
      | ret => exact hk n hn .ret st a w F β hR hgl hk'
    · rw [hJ at_ (by simp only [stepAt.hasLoop, hl]) n hn st]
      simp only [stepAt, hl]
  | cond c x y ihx ihy =>
    intro l ho N k Q hk hJ n hn st a w F β h hgl hr
    simp only [okL, Bool.and_eq_true, List.all_eq_true] at ho
    obtain ⟨⟨ho1, ho2⟩, ho3⟩ := ho
    simp only [ev] at hr
    split at hr
    · rename_i t hc
      have hv := h.ev c; rw [hc] at hv
      have hset : st.setOp c t = st := by
        unfold St.setOp
        split
        · exact set_get hc
        · rfl
      cases t with
      | true =>
        rw [hset] at hr
        refine wp_cond_true (V_v hv) (ihx l ho1 N k Q hk (fun at_ hl n hn st => ?_) n hn st a w F β h hgl hr)
        rw [hJ at_ (by simp only [stepAt.hasLoop, hl]) n hn st]
        simp only [stepAt, hl]
      | false =>
        rw [hset] at hr
        refine wp_cond_false (V_v hv) (ihy l ho2 N k Q hk (fun at_ hl n hn st => ?_) n hn st a w F β h hgl hr)
        rw [hJ at_ (by simp only [stepAt.hasLoop]; split <;> first | rfl | exact hl) n hn st]
        simp only [stepAt]
        cases hx : stepAt.hasLoop at_ l x with
        | true => have := ho3 at_ (hasLoop_mem at_ l x hx); simp [hl] at this
        | false => rfl
    · cases hr
  | block id c ih =>
    intro l ho N k Q hk hJ n hn st a w F β h hgl hr
    exact wp_block (ih id ho N (fun n => inBlk id (k n)) _ (fun n hn => inBlk_mt (hk n hn)) (fun at_ hl n hn st => hJ at_ hl n hn st) n hn st a w F β h hgl hr)
  | loop c ih =>
    intro l ho N k Q hk hJ n hn st a w F β h hgl hr
    simp only [okL, Bool.and_eq_true] at ho
    obtain ⟨ho1, ho2⟩ := ho
    have hself : stepAt.hasLoop l l (.loop c) = true := by simp [stepAt.hasLoop]
    have key : ∀ m, m < N → ∀ j, j ≤ m → ∀ st a w F β, Rel w0 F0 F β st a w → st.gl = GL → J j l st = some r → Code.rounds P c Q m a w := by
      intro m
      induction m with
      | zero =>
        intro hm j hj st a w F β hR hgl hJj
        obtain rfl : j = 0 := by omega
        rw [hJ0] at hJj; cases hJj
      | succ m ihm =>
        intro hm j hj st a w F β hR hgl hJj
        cases j with
        | zero => rw [hJ0] at hJj; cases hJj
        | succ j =>
          rw [hJ l hself j (by omega) st] at hJj
          simp only [stepAt, Nat.beq_refl] at hJj
          rw [rounds_succ]
          refine ih l ho1 (j + 1) (fun n => seqK (fun st => st.head (H l) (J n l)) (k n)) _ (fun i hi e st' a' w' F' β' hR' hgl' hk' => ?_) (fun at_ hl i hi st' => ?_) j (by omega) st a w F β hR hgl hJj
          · cases e with
            | normal =>
              obtain ⟨st2, hR2, hg2, hJ2⟩ := head_sound hR' hk'
              exact ihm (by omega) i (by omega) st2 a' w' F' β' hR2 (hg2.trans hgl') hJ2
            | exit id => exact hk i (by omega) (.exit id) st' a' w' F' β' hR' hgl' hk'
            | ret => exact hk i (by omega) .ret st' a' w' F' β' hR' hgl' hk'
          · rw [hJ at_ (by simp only [stepAt.hasLoop]; split <;> first | rfl | exact hl) i (by omega) st']
            simp only [stepAt]
            cases hb : Nat.beq l at_ with
            | true =>
              have e := Nat.eq_of_beq_eq_true hb
              subst e
              simp [hl] at ho2
            | false => rfl
    obtain ⟨st2, hR2, hg2, hJ2⟩ := head_sound h hr
    exact wp_loop_rounds n (key n hn n (Nat.le_refl _) st2 a w F β hR2 (hg2.trans hgl) hJ2)
  | exit id => intro l _ N k Q hk _ n hn st a w F β h hgl hr; exact wp_exit (hk n hn (.exit id) st a w F β h hgl hr)
  | ret => intro l _ N k Q hk _ n hn st a w F β h hgl hr; exact wp_ret (hk n hn .ret st a w F β h hgl hr)
  | rangeFunc => intro l _ N k Q hk _ n hn st a w F β h hgl hr; simp [ev] at hr
  | scope => intro l _ N k Q hk _ n hn st a w F β h hgl hr; simp [ev] at hr
  | label => intro l _ N k Q hk _ n hn st a w F β h hgl hr; simp [ev] at hr
  | goto => intro l _ N k Q hk _ n hn st a w F β h hgl hr; simp [ev] at hr
  | refuse => intro l _ N k Q hk _ n hn st a w F β h hgl hr; simp [ev] at hr
end
end Go.Proofs.Ythobdipfccldgaa
