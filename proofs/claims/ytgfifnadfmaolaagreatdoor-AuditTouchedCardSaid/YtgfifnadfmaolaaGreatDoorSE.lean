/- The soundness of the abstract evaluator, part 14: heads; code. -/
import Derived.Test.YtgfifnadfmaolaaGreatDoorSD
namespace Go.Proofs.YtgfifnadfmaolaaGreatDoor
open Go.RowKit
set_option linter.unusedVariables false
set_option linter.unusedSimpArgs false
def exOf : Ex → Exit
  | .normal => .normal | .exit id => .exit id | .ret => .ret
def labels (H : Hint) : Nat → Code → List Nat
  | l, .seq a b => labels H l a ++ labels H l b
  | l, .cond _ a b => labels H l a ++ labels H l b
  | _, .block id c => labels H id c
  | l, .loop c => (2 * l) :: labels H l c
  | _, .region id _ _ => match H.cut id with | true => [2 * id + 1] | false => []
  | _, _ => []
def okL (H : Hint) : Nat → Code → Bool
  | l, .seq a b => okL H l a && okL H l b && (labels H l a).all fun x => !(stepAt.hasLoop H x l b)
  | l, .cond _ a b => okL H l a && okL H l b && (labels H l a).all fun x => !(stepAt.hasLoop H x l b)
  | _, .block id c => okL H id c
  | l, .loop c => okL H l c && !(stepAt.hasLoop H (2 * l) l c)
  | _, _ => true
theorem hasLoop_mem (H : Hint) (x : Nat) : ∀ (l : Nat) (c : Code), stepAt.hasLoop H x l c = true → x ∈ labels H l c := by
  intro l c
  induction c generalizing l with
  | seq a b iha ihb =>
    intro h
    simp only [stepAt.hasLoop] at h
    simp only [labels, List.mem_append]
    split at h
    · rename_i ha; exact .inl (iha l ha)
    · exact .inr (ihb l h)
  | cond _ a b iha ihb =>
    intro h
    simp only [stepAt.hasLoop] at h
    simp only [labels, List.mem_append]
    split at h
    · rename_i ha; exact .inl (iha l ha)
    · exact .inr (ihb l h)
  | block id c ih => intro h; simp only [stepAt.hasLoop] at h; exact ih id h
  | region id ops draw =>
    intro h
    simp only [stepAt.hasLoop] at h
    simp only [labels]
    split at h
    · rename_i hc
      rw [hc]
      simp [(Nat.eq_of_beq_eq_true h).symm]
    · cases h
  | loop c ih =>
    intro h
    simp only [stepAt.hasLoop] at h
    simp only [labels, List.mem_cons]
    split at h
    · rename_i he; exact .inl (Nat.eq_of_beq_eq_true he).symm
    · exact .inr (ih l h)
  | _ => intro h; simp [stepAt.hasLoop] at h
structure Cvd (B : Bs) (F : Nat → Prop) (β : Gh) (st : St) (a : Act) (w : World) (F1 : Nat → Prop) (β1 : Gh) (st1 : St) : Prop where
  rel : Rel B F1 β1 st1 a w
  sub : ∀ k, F k → F1 k
  le : β.Le β1
  al : Al st st1
  env : st1.env = st.env
  df : st1.df = st.df
section
variable {P : Program} {GL : List AV} {G : Gam} {B : Bs} {F : Nat → Prop} {β : Gh} {st : St} {a : Act} {w : World}
theorem Cvd.refl (h : Rel B F β st a w) : Cvd B F β st a w F β st := ⟨h, fun _ h => h, .refl _, .refl _, rfl, rfl⟩
theorem Cvd.trans {F1 F2 : Nat → Prop} {β1 β2 : Gh} {st1 st2 : St} (h : Cvd B F β st a w F1 β1 st1) (k : Cvd B F1 β1 st1 a w F2 β2 st2) : Cvd B F β st a w F2 β2 st2 :=
  ⟨k.rel, fun p hp => k.sub p (h.sub p hp), h.le.trans k.le, h.al.trans k.al, k.env.trans h.env, k.df.trans h.df⟩
theorem Cvd.V {F1 : Nat → Prop} {β1 : Gh} {st1 : St} (h : Cvd B F β st a w F1 β1 st1) {x : AV} {y : Value} (hv : V F w β x y) : V F1 w β1 x y := hv.mono (sub_ext h.sub w) h.le
theorem Frz.cvd {F1 : Nat → Prop} {β1 : Gh} {st1 : St} (h : Frz B F β st a w F1 β1 st1) : Cvd B F β st a w F1 β1 st1 := ⟨h.rel, h.sub, h.le, h.al, h.env, h.df⟩
theorem conv_sound (h : Rel B F β st a w) {c : Cv} {x y : AV} {st1 : St} (hs : st.conv c x = some (y, st1)) : ∃ F1 β1, Cvd B F β st a w F1 β1 st1 ∧ ∀ v, V F w β x v → V F1 w β1 y v := by
  cases c with
  | own e t =>
    simp only [St.conv] at hs
    split at hs
    · simp at hs; obtain ⟨rfl, rfl⟩ := hs
      obtain ⟨β', hR, hle, hv⟩ := h.pushRow (e := e) (ty := t) (xs := []) (row := none) (v := .slice none 0 0) (World.ownsRow_nil w 0 e t.sz) (World.grownBy.refl _ _) (by simp) (fun p hp => by cases hp) (fun p hp => by simp [Value.ownBlock] at hp) (cols := st.dp e) (fun i j e' hi => by simp at hi) (fun i j hi => by simp at hi) none
      refine ⟨F, β', ⟨hR, fun _ h => h, hle, al_push _ _ none, rfl, rfl⟩, fun v hv' => ?_⟩
      rw [V_v hv']; exact hv
    · simp at hs; obtain ⟨rfl, rfl⟩ := hs
      exact ⟨F, β, .refl h, fun v hv => hv⟩
    · cases hs
  | sl t =>
    simp only [St.conv] at hs
    split at hs
    · simp at hs; obtain ⟨rfl, rfl⟩ := hs
      exact ⟨F, β, .refl h, fun v hv => by rw [V_v hv]; exact .sl0 t none _⟩
    · obtain ⟨F1, β1, z, hz⟩ := frz1_sound h hs
      exact ⟨F1, β1, z.cvd, hz⟩
    · simp at hs; obtain ⟨rfl, rfl⟩ := hs
      exact ⟨F, β, .refl h, fun v hv => hv⟩
    · cases hs
  | op t =>
    simp only [St.conv] at hs
    split at hs
    · rename_i y' st1' hf
      split at hs
      · rename_i z hz
        simp at hs; obtain ⟨rfl, rfl⟩ := hs
        obtain ⟨F1, β1, z1, d1⟩ := frzD_sound 9 h hf
        exact ⟨F1, β1, z1.cvd, fun v hv => (opOf_V hz (d1 v hv)).ofD⟩
      · cases hs
    · cases hs
  | clo =>
    simp only [St.conv] at hs
    split at hs
    · rename_i y' st1' hf
      split at hs
      · rename_i z hz
        simp at hs; obtain ⟨rfl, rfl⟩ := hs
        obtain ⟨F1, β1, z1, d1⟩ := frzD_sound 9 h hf
        exact ⟨F1, β1, z1.cvd, fun v hv => (cloOf_V hz (d1 v hv)).ofD⟩
      · cases hs
    · cases hs
theorem set_getD {α : Type} {l : List α} {i j : Nat} {x d : α} : (l.set i x).getD j d = if j = i ∧ i < l.length then x else l.getD j d := by
  simp only [List.getD, List.getElem?_set]
  by_cases h : i = j
  · subst h
    by_cases h' : i < l.length <;> simp [h']
  · simp [h, show ¬ j = i from fun e => h e.symm]
theorem conv1_sound (h : Rel B F β st a w) {l l1 : List AV} {at_ : At} {c : Cv} {st1 : St} (hs : st.conv1 l at_ c = some (l1, st1)) {Y : Nat → Value} (hv : ∀ j, V F w β (l.getD j .undef) (Y j)) :
    ∃ F1 β1, Cvd B F β st a w F1 β1 st1 ∧ l1.length = l.length ∧ ∀ j, V F1 w β1 (l1.getD j .undef) (Y j) := by
  have inner : ∀ {i j : Nat} {cs : List AV} {x y : AV} {F1 : Nat → Prop} {β1 : Gh} {st1 : St} (ys : Array Value), cs[j]? = some x → Cvd B F β st a w F1 β1 st1 → (∀ v, V F w β x v → V F1 w β1 y v) →
      (∀ q, q < cs.length → V F w β (cs.getD q .undef) (ys.getD q undef)) → ∀ q, q < (cs.set j y).length → V F1 w β1 ((cs.set j y).getD q .undef) (ys.getD q undef) := fun {i j cs x y F1 β1 st1} ys hx z hz hc q hq => by
    have hq' : q < cs.length := by simpa using hq
    rw [set_getD]
    split
    · rename_i e
      obtain ⟨rfl, _⟩ := e
      have := hc q hq'
      have e2 : cs.getD q .undef = x := by simp [List.getD, hx]
      rw [e2] at this
      exact hz _ this
    · exact z.V (hc q hq')
  cases at_ with
  | slot i =>
    simp only [St.conv1] at hs
    split at hs
    · rename_i x hx
      split at hs
      · rename_i y st1' hy
        simp at hs; obtain ⟨rfl, rfl⟩ := hs
        obtain ⟨F1, β1, z, hz⟩ := conv_sound h hy
        refine ⟨F1, β1, z, by simp, fun j => ?_⟩
        rw [set_getD]
        split
        · rename_i e
          obtain ⟨rfl, _⟩ := e
          have := hv j
          have e2 : l.getD j .undef = x := by simp [List.getD, hx]
          rw [e2] at this
          exact hz _ this
        · exact z.V (hv j)
      · cases hs
    · cases hs
  | cell i j =>
    simp only [St.conv1] at hs
    split at hs
    · rename_i cs hx
      split at hs
      · rename_i x hxx
        split at hs
        · rename_i y st1' hy
          simp at hs; obtain ⟨rfl, rfl⟩ := hs
          obtain ⟨F1, β1, z, hz⟩ := conv_sound h hy
          refine ⟨F1, β1, z, by simp, fun q => ?_⟩
          rw [set_getD]
          split
          · rename_i e
            obtain ⟨rfl, _⟩ := e
            have := hv q
            have e2 : l.getD q .undef = .agg cs := by simp [List.getD, hx]
            rw [e2] at this
            generalize Y q = yv at this
            obtain ⟨ys, rfl, hl, hc⟩ := V_agg this
            exact .agg _ _ (by simpa using hl) (inner (i := 0) ys hxx z hz hc)
          · exact z.V (hv q)
        · cases hs
      · cases hs
    · rename_i cs hx
      split at hs
      · rename_i x hxx
        split at hs
        · rename_i y st1' hy
          simp at hs; obtain ⟨rfl, rfl⟩ := hs
          obtain ⟨F1, β1, z, hz⟩ := conv_sound h hy
          refine ⟨F1, β1, z, by simp, fun q => ?_⟩
          rw [set_getD]
          split
          · rename_i e
            obtain ⟨rfl, _⟩ := e
            have := hv q
            have e2 : l.getD q .undef = .tup cs := by simp [List.getD, hx]
            rw [e2] at this
            generalize Y q = yv at this
            obtain ⟨ys, rfl, hl, hc⟩ := V_tup this
            exact .tup _ _ (by simpa using hl) (inner (i := 0) ys hxx z hz hc)
          · exact z.V (hv q)
        · cases hs
      · cases hs
    · cases hs
  | box i j =>
    simp only [St.conv1] at hs
    split at hs
    · rename_i b off hx
      split at hs
      · rename_i e cs hb
        split at hs
        · rename_i x hxx
          split at hs
          · rename_i y st1' hy
            split at hs
            · rename_i e2 cs2 hb2
              simp at hs; obtain ⟨rfl, rfl⟩ := hs
              obtain ⟨F1, β1, z, hz⟩ := conv_sound h hy
              obtain ⟨ys, T, g1, g2, g3, g4⟩ := h.heap.blk b _ hb
              obtain ⟨ys2, T2, k1, k2, k3, k4⟩ := z.rel.heap.blk b _ hb2
              have hlive : β.l b := by
                have := hv i
                have e2 : l.getD i .undef = .ref b off := by simp [List.getD, hx]
                rw [e2] at this
                exact (V_ref this).1
              have hbb := (z.le b hlive).2.1
              have hR : Rel B F1 β1 { st1' with heap := st1'.heap.set b (.cells e (cs.set j y)) } a w := by
                refine z.rel.heapTo (sub_ext (fun _ h => h) w) (.refl _) z.rel.kept z.rel.fo (fun _ h => h) z.rel.lo (fun _ hb => .inl hb) (by simp) (z.rel.heap.step b (sub_ext (fun _ h => h) w) (.refl _) z.rel.heap.fb z.rel.heap.lt z.rel.heap.sep (fun c hc => by rw [List.length_set]; exact z.rel.heap.live c hc) (fun c k hc hk => heap_get_set hc hk)
                  (fun c _ _ _ _ => ⟨⟨rfl, rfl⟩, fun p s hp => ⟨hp, rfl⟩⟩) fun k hk => ?_)
                obtain rfl := heap_get_set_same hk
                exact ⟨ys, T, by rw [hbb]; exact g1, by simpa using g2, k3, inner (i := 0) ys hxx z hz g4⟩
              exact ⟨F1, β1, ⟨hR, z.sub, z.le, z.al.trans (al_heap _ _ (by simp)), z.env, z.df⟩, rfl, fun q => z.V (hv q)⟩
            · cases hs
          · cases hs
        · cases hs
      · cases hs
    · cases hs
theorem convs_sound : ∀ {cs : List (At × Cv)} {l l1 : List AV} {F : Nat → Prop} {β : Gh} {st st1 : St}, Rel B F β st a w → st.convs l cs = some (l1, st1) → ∀ {Y : Nat → Value}, (∀ j, V F w β (l.getD j .undef) (Y j)) →
    ∃ F1 β1, Cvd B F β st a w F1 β1 st1 ∧ l1.length = l.length ∧ ∀ j, V F1 w β1 (l1.getD j .undef) (Y j)
  | [], l, l1, F, β, st, st1, h, hs, Y, hv => by
    simp [St.convs] at hs
    obtain ⟨rfl, rfl⟩ := hs
    exact ⟨F, β, .refl h, rfl, hv⟩
  | (at_, c) :: cs, l, l1, F, β, st, st2, h, hs, Y, hv => by
    simp only [St.convs] at hs
    split at hs
    · rename_i l' st1 hc
      obtain ⟨F1, β1, z1, e1, v1⟩ := conv1_sound h hc hv
      obtain ⟨F2, β2, z2, e2, v2⟩ := convs_sound z1.rel hs v1
      exact ⟨F2, β2, z1.trans z2, e2.trans e1, v2⟩
    · cases hs
theorem clearAt_get (l : List Nat) : ∀ (i : Nat) (cs : List AV), (clearAt l i cs).length = cs.length ∧ ∀ j, (clearAt l i cs).getD j .undef = .undef ∨ (clearAt l i cs).getD j .undef = cs.getD j .undef
  | i, [] => by simp [clearAt]
  | i, c :: cs => by
    obtain ⟨h1, h2⟩ := clearAt_get l (i + 1) cs
    refine ⟨by simp [clearAt, h1], fun j => ?_⟩
    cases j with
    | zero =>
      simp only [clearAt, List.getD_cons_zero]
      split
      · exact .inl rfl
      · exact .inr rfl
    | succ j => simpa [clearAt] using h2 j
theorem head_sound (h : Rel B F β st a w) {hd : Hd} {k : St → Option Ans} {r : Ans} (hr : st.head hd k = some r) : ∃ st' F' β', Rel B F' β' st' a w ∧ st'.gl = st.gl ∧ st'.np = st.np ∧ k st' = some r := by
  unfold St.head at hr
  split at hr
  · rename_i l st1 hc
    obtain ⟨c1, c2⟩ := clearAt_get hd.clear 0 st.env
    obtain ⟨F1, β1, z, hl, hv⟩ := convs_sound h hc (Y := fun t => a.tmps.getD t undef) (fun j => by
      rcases c2 j with e | e
      · rw [e]; exact .undef _
      · rw [e]; exact h.env j)
    generalize reach st1.heap 4000 (List.range st.np) (rootsH (st1.heap.take st.np) ++ rootsL l ++ st1.df.flatMap (fun d => rootsL d.2)) = ids at hr
    dsimp only at hr
    split at hr
    · rename_i h1 h2
      have hR : Rel B F1 β1 { st1 with env := l } a w := ⟨by rw [show ({ st1 with env := l } : St).env = l from rfl, hl, c1]; exact h.len, hv, z.rel.gl, z.rel.df, z.rel.kept, z.rel.fo, z.rel.fi, z.rel.lo, z.rel.per, z.rel.bn, z.rel.nw, z.rel.hn, z.rel.heap⟩
      have hnp : st1.np = st.np := z.al.2.1
      exact ⟨_, _, _, hR.sub (nodupB_iff.1 h1) (by show St.head.idxs ids st1.np = st1.np; rw [hnp]; exact Nat.eq_of_beq_eq_true h2), z.al.1, hnp, hr⟩
    · cases hr
  · cases hr
def Mt (B : Bs) (GL : List AV) (N : Nat) (r : Ans) (k : Kn) (Q : Exit → Act → World → Prop) : Prop :=
  ∀ e st a w F β, Rel B F β st a w → (st.gl = GL ∧ st.np = N) → k e st = some r → Q (exOf e) a w
theorem inBlk_mt {N : Nat} {r : Ans} {id : Nat} {k : Kn} {Q : Exit → Act → World → Prop} (h : Mt B GL N r k Q) : Mt B GL N r (inBlk id k) (Exit.inBlock id Q) := by
  intro e st a w F β hR hgl hk
  cases e with
  | normal => exact h .normal st a w F β hR hgl hk
  | ret => exact h .ret st a w F β hR hgl hk
  | exit j =>
    simp only [inBlk] at hk
    simp only [exOf, Exit.inBlock]
    split at hk
    · rename_i he
      rw [if_pos (Nat.eq_of_beq_eq_true he)]
      exact h .normal st a w F β hR hgl hk
    · rename_i he
      rw [if_neg (fun e => by rw [e] at he; simp at he)]
      exact h (.exit j) st a w F β hR hgl hk
theorem ev_sound {H : Hint} (hG : GOk P GL G) (J : Nat → Jmp) (hJ0 : ∀ l st, J 0 l st = none) {N : Nat} {r : Ans} : ∀ (c : Code) (l : Nat), okL H l c = true → ∀ (M : Nat) (k : Nat → Kn) (Q : Exit → Act → World → Prop), (∀ n, n < M → Mt B GL N r (k n) Q) →
    (∀ at_, stepAt.hasLoop H at_ l c = true → ∀ n, n < M → ∀ st, J (n + 1) at_ st = stepAt P G H (J n) at_ l c (k n) st) →
    ∀ n, n < M → ∀ st a w F β, Rel B F β st a w → (st.gl = GL ∧ st.np = N) → ev P G H (J n) l c (k n) st = some r → c.wp P Q a w := by
  intro c
  induction c with
  | skip => intro l _ M k Q hk _ n hn st a w F β h hgl hr; exact wp_skip (hk n hn .normal st a w F β h hgl hr)
  | region id ops draw =>
    intro l _ M k Q hk hJ n hn st a w F β h hgl hr
    simp only [ev] at hr
    split at hr
    · rename_i hc
      obtain ⟨st2, F2, β2, hR2, hg2, hn2, hJ2⟩ := head_sound h hr
      cases n with
      | zero => rw [hJ0] at hJ2; cases hJ2
      | succ m =>
        rw [hJ (2 * id + 1) (by simp [stepAt.hasLoop, hc]) m (by omega) st2] at hJ2
        simp only [stepAt, Nat.beq_refl] at hJ2
        exact evReg_sound hG N (fun st' a' w' F' β' hR hgl' hnp' hk' => hk m (by omega) .normal st' a' w' F' β' hR ⟨hgl', hnp'⟩ hk') hR2 (hg2.trans hgl.1) (hn2.trans hgl.2) hJ2
    · exact evReg_sound hG N (fun st' a' w' F' β' hR hgl' hnp' hk' => hk n hn .normal st' a' w' F' β' hR ⟨hgl', hnp'⟩ hk') h hgl.1 hgl.2 hr
  | seq x y ihx ihy =>
    intro l ho M k Q hk hJ n hn st a w F β h hgl hr
    simp only [okL, Bool.and_eq_true, List.all_eq_true] at ho
    obtain ⟨⟨ho1, ho2⟩, ho3⟩ := ho
    refine wp_seq (ihx l ho1 M (fun n => seqK (ev P G H (J n) l y (k n)) (k n)) _ (fun n hn e st a w F β hR hgl hk' => ?_) (fun at_ hl n hn st => ?_) n hn st a w F β h hgl hr)
    · cases e with
      | normal =>
        refine ihy l ho2 M k Q hk (fun at_ hl n hn st => ?_) n hn st a w F β hR hgl hk'
        rw [hJ at_ (by simp only [stepAt.hasLoop]; split <;> first | rfl | exact hl) n hn st]
        simp only [stepAt]
        cases hx : stepAt.hasLoop H at_ l x with
        | true => have := ho3 at_ (hasLoop_mem H at_ l x hx); simp [hl] at this
        | false => rfl
      | exit id => exact hk n hn (.exit id) st a w F β hR hgl hk'
      | ret => exact hk n hn .ret st a w F β hR hgl hk'
    · rw [hJ at_ (by simp only [stepAt.hasLoop, hl]) n hn st]
      simp only [stepAt, hl]
  | cond c x y ihx ihy =>
    intro l ho M k Q hk hJ n hn st a w F β h hgl hr
    simp only [okL, Bool.and_eq_true, List.all_eq_true] at ho
    obtain ⟨⟨ho1, ho2⟩, ho3⟩ := ho
    simp only [ev] at hr
    split at hr
    · rename_i t hc
      have hv := h.ev c; rw [hc] at hv
      have hset : st.setOp c t = st := by
        unfold St.setOp
        split
        · exact set_get hc
        · rfl
      cases t with
      | true =>
        rw [hset] at hr
        refine wp_cond_true (V_v hv) (ihx l ho1 M k Q hk (fun at_ hl n hn st => ?_) n hn st a w F β h hgl hr)
        rw [hJ at_ (by simp only [stepAt.hasLoop, hl]) n hn st]
        simp only [stepAt, hl]
      | false =>
        rw [hset] at hr
        refine wp_cond_false (V_v hv) (ihy l ho2 M k Q hk (fun at_ hl n hn st => ?_) n hn st a w F β h hgl hr)
        rw [hJ at_ (by simp only [stepAt.hasLoop]; split <;> first | rfl | exact hl) n hn st]
        simp only [stepAt]
        cases hx : stepAt.hasLoop H at_ l x with
        | true => have := ho3 at_ (hasLoop_mem H at_ l x hx); simp [hl] at this
        | false => rfl
    · cases hr
  | block id c ih =>
    intro l ho M k Q hk hJ n hn st a w F β h hgl hr
    exact wp_block (ih id ho M (fun n => inBlk id (k n)) _ (fun n hn => inBlk_mt (hk n hn)) (fun at_ hl n hn st => hJ at_ hl n hn st) n hn st a w F β h hgl hr)
  | loop c ih =>
    intro l ho M k Q hk hJ n hn st a w F β h hgl hr
    simp only [okL, Bool.and_eq_true] at ho
    obtain ⟨ho1, ho2⟩ := ho
    have hself : stepAt.hasLoop H (2 * l) l (.loop c) = true := by simp [stepAt.hasLoop]
    have key : ∀ m, m < M → ∀ j, j ≤ m → ∀ st a w F β, Rel B F β st a w → (st.gl = GL ∧ st.np = N) → J j (2 * l) st = some r → Code.rounds P c Q m a w := by
      intro m
      induction m with
      | zero =>
        intro hm j hj st a w F β hR hgl hJj
        obtain rfl : j = 0 := by omega
        rw [hJ0] at hJj; cases hJj
      | succ m ihm =>
        intro hm j hj st a w F β hR hgl hJj
        cases j with
        | zero => rw [hJ0] at hJj; cases hJj
        | succ j =>
          rw [hJ (2 * l) hself j (by omega) st] at hJj
          simp only [stepAt, Nat.beq_refl] at hJj
          rw [rounds_succ]
          refine ih l ho1 (j + 1) (fun n => seqK (fun st => st.head (H.head (2 * l)) (J n (2 * l))) (k n)) _ (fun i hi e st' a' w' F' β' hR' hgl' hk' => ?_) (fun at_ hl i hi st' => ?_) j (by omega) st a w F β hR hgl hJj
          · cases e with
            | normal =>
              obtain ⟨st2, F2, β2, hR2, hg2, hn2, hJ2⟩ := head_sound hR' hk'
              exact ihm (by omega) i (by omega) st2 a' w' F2 β2 hR2 ⟨hg2.trans hgl'.1, hn2.trans hgl'.2⟩ hJ2
            | exit id => exact hk i (by omega) (.exit id) st' a' w' F' β' hR' hgl' hk'
            | ret => exact hk i (by omega) .ret st' a' w' F' β' hR' hgl' hk'
          · rw [hJ at_ (by simp only [stepAt.hasLoop]; split <;> first | rfl | exact hl) i (by omega) st']
            simp only [stepAt]
            cases hb : Nat.beq (2 * l) at_ with
            | true =>
              have e := Nat.eq_of_beq_eq_true hb
              subst e
              simp [hl] at ho2
            | false => rfl
    obtain ⟨st2, F2, β2, hR2, hg2, hn2, hJ2⟩ := head_sound h hr
    exact wp_loop_rounds n (key n hn n (Nat.le_refl _) st2 a w F2 β2 hR2 ⟨hg2.trans hgl.1, hn2.trans hgl.2⟩ hJ2)
  | exit id => intro l _ M k Q hk _ n hn st a w F β h hgl hr; exact wp_exit (hk n hn (.exit id) st a w F β h hgl hr)
  | ret => intro l _ M k Q hk _ n hn st a w F β h hgl hr; exact wp_ret (hk n hn .ret st a w F β h hgl hr)
  | rangeFunc => intro l _ M k Q hk _ n hn st a w F β h hgl hr; simp [ev] at hr
  | scope => intro l _ M k Q hk _ n hn st a w F β h hgl hr; simp [ev] at hr
  | label => intro l _ M k Q hk _ n hn st a w F β h hgl hr; simp [ev] at hr
  | goto => intro l _ M k Q hk _ n hn st a w F β h hgl hr; simp [ev] at hr
  | refuse => intro l _ M k Q hk _ n hn st a w F β h hgl hr; simp [ev] at hr
end
end Go.Proofs.YtgfifnadfmaolaaGreatDoor
