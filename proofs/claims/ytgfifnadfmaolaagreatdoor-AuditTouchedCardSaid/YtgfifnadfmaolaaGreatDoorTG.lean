/- The law AuditTouched, plain law: its function is true. -/
import Derived.Test.YtgfifnadfmaolaaGreatDoorTE
import Derived.Test.YtgfifnadfmaolaaGreatDoorP13
namespace Go.Proofs.YtgfifnadfmaolaaGreatDoor
open Go.RowKit
set_option linter.unusedVariables false
set_option linter.unusedSimpArgs false
theorem tl_ext {c : Config} {a b a' b' : List Int} (h : ∀ i, unl a b i = unl a' b' i) : ∀ n, tl c a b n = tl c a' b' n
  | 0 => rfl
  | n + 1 => by rw [tl, tl, tl_ext h n, h n]
theorem unl_comm (a b : List Int) (i : Nat) : unl a b i = unl b a i := by
  unfold unl
  rw [Bool.and_comm (decide (i < a.length)) (decide (i < b.length)), Bool.and_comm (!(decide (i < a.length)))]
  have : (atInt a i == atInt b i) = (atInt b i == atInt a i) := by rw [Bool.eq_iff_iff, beq_iff_eq, beq_iff_eq]; exact eq_comm
  rw [this]
theorem unl_self (a : List Int) (i : Nat) : unl a a i = false := by
  unfold unl
  rw [beq_self_eq_true]
  cases decide (i < a.length) <;> rfl
theorem tl_self (c : Config) (a : List Int) : ∀ n, tl c a a n = []
  | 0 => rfl
  | n + 1 => by rw [tl, unl_self, cond_false, tl_self c a n]
theorem tlT_eq {c : Config} (g : Sound c) (w : Kern c) {m o : MemMemory} (hm : m.words.length = nW c) (ho : o.words.length = nW c) : ∀ n, n ≤ nW c → tlT c (some m) (some o) n = tl c m.words o.words n
  | 0, _ => rfl
  | n + 1, h => by
    obtain ⟨w1, w2⟩ := nW_le g w.kernel
    obtain ⟨u1, u2⟩ := sp_of (unlike_a (m := m) (o := o) (i := n) (by omega) (by omega) (by omega) (by omega))
    have u1' : sp52 (some m) (some o) (n : Int) = unl m.words o.words n := u1
    obtain ⟨o1, o2⟩ := sp_of (owner_a g w.kernel (a := n) (by omega))
    have o1' : sp27 c (n : Int) = (own c n, 0) := o1
    have ih := tlT_eq g w hm ho n (by omega)
    unfold tlT at ih ⊢
    rw [List.range_succ, List.filter_append, List.foldl_append, ih, tl]
    cases hu : unl m.words o.words n with
    | false => simp [u1', hu]
    | true =>
      simp only [List.filter_cons, List.filter_nil, u1', hu, if_true, List.foldl_cons, List.foldl_nil, ownT, o1', cond_true]
      by_cases hmem : own c n ∈ tl c m.words o.words n
      · rw [if_pos hmem, decide_eq_true hmem]; rfl
      · rw [if_neg hmem, decide_eq_false hmem]; rfl
theorem okT_eq {c : Config} (g : Sound c) (w : Kern c) {m o : MemMemory} (hm : m.words.length = nW c) (ho : o.words.length = nW c) : nT (some m) (some o) = nW c ∧ okT c (some m) (some o) = true := by
  obtain ⟨w1, w2⟩ := nW_le g w.kernel
  have hn : nT (some m) (some o) = nW c := by show max m.words.length o.words.length = _; rw [hm, ho, Nat.max_self]
  refine ⟨hn, ?_⟩
  unfold okT
  rw [hn, Bool.and_eq_true, decide_eq_true_eq, List.all_eq_true]
  refine ⟨by omega, fun i hi => ?_⟩
  have hi' : i < nW c := List.mem_range.1 hi
  obtain ⟨u1, u2⟩ := sp_of (unlike_a (m := m) (o := o) (i := i) (by omega) (by omega) (by omega) (by omega))
  have u2' : spc52 (some m) (some o) (i : Int) = true := u2
  obtain ⟨o1, o2⟩ := sp_of (owner_a g w.kernel (a := i) (by omega))
  have o2' : spc27 c (i : Int) = true := o2
  rw [u2', o2', Bool.or_true, Bool.and_true]
theorem touched_a {c : Config} (hc : FitC c) {m o : MemMemory} (hm : m.words.length ≤ 100000) (ho : o.words.length ≤ 100000) (hm16 : m.words.length % 16 = 0) (ho16 : o.words.length % 16 = 0) : spO10 c (some m) (some o) = some (cond (both c m.words o.words) (tl c m.words o.words (nW c), 0) ([], 1)) := by
  obtain ⟨k1, k2⟩ := sp_of (stands2_a hc hm ho hm16 ho16)
  have k1' : sp25 c [some m, some o] = _ := k1
  have k2' : spc25 c [some m, some o] = true := k2
  unfold spO10
  rw [k1', k2', cond_true]
  cases hb : both c m.words o.words with
  | false => rfl
  | true =>
    have hb' := hb
    simp only [both, Bool.and_eq_true, decide_eq_true_eq] at hb'
    obtain ⟨hv, h1, h2⟩ := hb'
    obtain ⟨g, w⟩ := valid_parts hc hv
    obtain ⟨e1, e2⟩ := okT_eq g w h1 h2
    show cond (true && true && okT c (some m) (some o)) (some (tlT c (some m) (some o) (nT (some m) (some o)), 0)) none = _
    rw [e2, e1, tlT_eq g w h1 h2 _ (Nat.le_refl _)]
    rfl
theorem stands_nil {c : Config} {a b : Option MemMemory} (h : a = none ∨ b = none) : spO25 c [a, b] = some 3 := by
  have i1 : ∃ r, spO95 [a, b] = some r ∧ decide (r ≥ 0) = true := by
    show ∃ r, spL95 [a, b] (.l0 0) = some r ∧ _
    cases a with
    | none => exact ⟨0, by rw [spL95_eq]; rfl, rfl⟩
    | some m =>
      rcases h with h | h
      · cases h
      · subst h
        refine ⟨1, ?_, rfl⟩
        rw [spL95_eq]
        show spL95 [some m, none] (.l0 (IntKind.i64.wrap (0 + 1))) = _
        rw [show IntKind.i64.wrap (0 + 1) = 1 from rfl, spL95_eq]
        rfl
  obtain ⟨r, h1, h2⟩ := i1
  obtain ⟨j1, j2⟩ := sp_of h1
  have j1' : sp95 [a, b] = r := j1
  have j2' : spc95 [a, b] = true := j2
  have m1 : spO48 [a, b] = some true := by
    unfold spO48 ent48
    rw [j1', j2', h2]; rfl
  obtain ⟨n1, n2⟩ := sp_of m1
  have n1' : sp48 [a, b] = true := n1
  have n2' : spc48 [a, b] = true := n2
  unfold spO25 ent25
  rw [n1', n2']
  rfl
theorem touched_nil {c : Config} {a b : Option MemMemory} (h : a = none ∨ b = none) : spO10 c a b = some ([], 3) := by
  obtain ⟨k1, k2⟩ := sp_of (stands_nil (c := c) h)
  have k1' : sp25 c [a, b] = 3 := k1
  have k2' : spc25 c [a, b] = true := k2
  unfold spO10
  rw [k1', k2']
  rfl
theorem same_owners {l : List Owner} (hl : l.length ≤ 100000) : spO11 l l = some true := by
  have h0 := run_loop (n := l.length) (f := fun i (_ : Unit) => spL11 l l (.l0 (i : Int))) (S := fun _ => ()) (fun i hi => by
    rw [spL11_eq]
    simp only [bod11, Int.toNat_natCast, lt_t hi, inR_of hi, cond_true, beq_self_eq_true, Bool.and_true, Bool.not_true, cond_false, wrap_succ i (show i < 4611686018427387904 by omega)])
  unfold spO11 ent11
  simp only [beq_self_eq_true, Bool.not_true, cond_false]
  refine Eq.trans h0 ?_
  rw [spL11_eq]
  simp only [bod11, lt_f (Nat.le_refl _), cond_false, id]
theorem nL_in {c : Config} (hc : FitC c) : 0 < nL c ∧ nL c ≤ 16384 ∧ nL c % 16 = 0 := by
  unfold nL
  cases hv : validB c with
  | false => exact ⟨show 0 < 16 by decide, show 16 ≤ 16384 by decide, show 16 % 16 = 0 by decide⟩
  | true =>
    obtain ⟨g, w⟩ := valid_parts hc hv
    obtain ⟨w1, w2⟩ := nW_le g w.kernel
    have hf := g.frames
    refine ⟨?_, w1, ?_⟩
    · show 0 < nW c; omega
    · show nW c % 16 = 0; unfold nW; omega
theorem law_11 {c : Config} (hc : FitC c) {one another : List Bulkheadlaw28Turn} {more : Bool} {x y : List Int} (hx : sp5 c one = x) (hxl : x.length = nL c) (hy : y.length = nL c ∨ (y.length = nL c + 16 ∧ more = true)) : spL3 c one another more (.l11 y) = some true := by
  obtain ⟨n0, n1, n2⟩ := nL_in hc
  have hyl : y.length ≤ 100000 := by omega
  have hxl' : x.length ≤ 100000 := by omega
  have hy16 : y.length % 16 = 0 := by omega
  have hx16 : x.length % 16 = 0 := by omega
  obtain ⟨t1, t2⟩ := sp_of (touched_r hc (a := x) (b := y) hxl')
  have t1' : sp6 c x y = _ := t1
  have t2' : spc6 c x y = true := t2
  obtain ⟨c1, c2⟩ := sp_of (copy_words hxl')
  have c1' : sp8 x = x := c1
  have c2' : spc8 x = true := c2
  obtain ⟨d1, d2⟩ := sp_of (copy_words hyl)
  have d1' : sp8 y = y := d1
  have d2' : spc8 y = true := d2
  have ox : spO7 x = some (some ⟨x⟩, 0) := by rw [of_a hxl', if_neg (by omega), if_neg (by omega), if_neg (by omega)]
  obtain ⟨e1, e2⟩ := sp_of ox
  have e1' : sp7 x = (some ⟨x⟩, 0) := e1
  have e2' : spc7 x = true := e2
  obtain ⟨f1, f2⟩ := sp_of (of_a hyl)
  have f1' : sp7 y = _ := f1
  have f2' : spc7 y = true := f2
  obtain ⟨k1, k2⟩ := sp_of (copied_eq hc)
  have k1' : sp9 c = c := k1
  have k2' : spc9 c = true := k2
  rw [spL3_eq]
  simp only [bod3, hx, t1', t2', c1', c2', d1', d2', e1', e2', f1', f2', k1', k2', cond_true, id]
  by_cases hbig : y.length > 16384
  · rw [if_pos hbig]
    rcases hy with hy | ⟨_, hy⟩
    · omega
    · rw [hy]; rfl
  · rw [if_neg hbig, if_neg (show ¬ y.length = 0 by omega), if_neg (by omega)]
    obtain ⟨a1, a2⟩ := sp_of (touched_a hc (m := ⟨x⟩) (o := ⟨y⟩) hxl' hyl hx16 hy16)
    have a1' : sp10 c (some ⟨x⟩) (some ⟨y⟩) = _ := a1
    have a2' : spc10 c (some ⟨x⟩) (some ⟨y⟩) = true := a2
    obtain ⟨b1, b2⟩ := sp_of (touched_a hc (m := ⟨y⟩) (o := ⟨x⟩) hyl hxl' hy16 hx16)
    have b1' : sp10 c (some ⟨y⟩) (some ⟨x⟩) = _ := b1
    have b2' : spc10 c (some ⟨y⟩) (some ⟨x⟩) = true := b2
    obtain ⟨s1, s2⟩ := sp_of (touched_a hc (m := ⟨x⟩) (o := ⟨x⟩) hxl' hxl' hx16 hx16)
    have s1' : sp10 c (some ⟨x⟩) (some ⟨x⟩) = _ := s1
    have s2' : spc10 c (some ⟨x⟩) (some ⟨x⟩) = true := s2
    obtain ⟨p1, p2⟩ := sp_of (touched_nil (c := c) (a := none) (b := some ⟨y⟩) (.inl rfl))
    have p1' : sp10 c none (some ⟨y⟩) = ([], 3) := p1
    have p2' : spc10 c none (some ⟨y⟩) = true := p2
    obtain ⟨q1, q2⟩ := sp_of (touched_nil (c := c) (a := some ⟨x⟩) (b := none) (.inr rfl))
    have q1' : sp10 c (some ⟨x⟩) none = ([], 3) := q1
    have q2' : spc10 c (some ⟨x⟩) none = true := q2
    obtain ⟨r1, r2⟩ := sp_of (odd_r hc)
    have r1' : sp12 c = !(validB c) := r1
    have r2' : spc12 c = true := r2
    have hWl : nW c ≤ 100000 ∨ validB c = false := by
      cases hv : validB c with
      | false => exact .inr rfl
      | true => obtain ⟨g, w⟩ := valid_parts hc hv; have := (nW_le g w.kernel).1; exact .inl (by omega)
    have hbs : both c y x = both c x y := by unfold both; rw [Bool.and_comm (decide (y.length = nW c))]
    have hbx : both c x x = validB c := by
      unfold both nL at *
      cases hv : validB c with
      | false => rfl
      | true => rw [hv] at hxl; rw [decide_eq_true (show x.length = nW c from hxl)]; rfl
    have htl : tl c y x (nW c) = tl c x y (nW c) := tl_ext (fun i => unl_comm y x i) _
    -- the answer, and that it is the same in its own writing
    obtain ⟨l, e, hle, hll⟩ : ∃ l e, cond (both c x y) (tl c x y (nW c), (0 : Int)) ([], 1) = (l, e) ∧ l.length ≤ 100000 := by
      cases hb : both c x y with
      | false => exact ⟨[], 1, rfl, by simp⟩
      | true =>
        refine ⟨_, _, rfl, ?_⟩
        have := tl_len c x y (nW c)
        rcases hWl with h | h
        · omega
        · unfold both at hb; rw [h] at hb; cases hb
    obtain ⟨v1, v2⟩ := sp_of (same_owners hll)
    have v1' : sp11 l l = true := v1
    have v2' : spc11 l l = true := v2
    have a1'' : sp10 c (some ⟨x⟩) (some ⟨y⟩) = (l, e) := a1'.trans hle
    have b1'' : sp10 c (some ⟨y⟩) (some ⟨x⟩) = (l, e) := by rw [b1']; show cond (both c y x) (tl c y x (nW c), (0 : Int)) ([], 1) = _; rw [hbs, htl, hle]
    have s1'' : sp10 c (some ⟨x⟩) (some ⟨x⟩) = ([], cond (validB c) 0 1) := by
      rw [s1']
      show cond (both c x x) (tl c x x (nW c), (0 : Int)) ([], 1) = _
      rw [hbx, tl_self]
      cases validB c <;> rfl
    rw [hle]
    simp only [a1'', a2', beq_self_eq_true, Bool.not_true, cond_false, v1', v2', cond_true]
    have l0 : ∀ r i, ∀ l' : List Owner, i + r = l'.length → l'.length ≤ 100000 → spL3 c one another more (.l0 l e (some ⟨y⟩) (i : Int) l') = some true := by
      intro r
      induction r with
      | zero =>
        intro i l' hi hl'
        rw [Nat.add_zero] at hi
        subst hi
        rw [spL3_eq]
        simp only [bod3, hx, c1', e1', k1', lt_f (Nat.le_refl _), cond_false, b1'', b2', cond_true, beq_self_eq_true, Bool.not_true, v1', v2', s1'', s2', r1', r2', p1', p2', q1', q2', List.length_nil, id]
        cases validB c <;> rfl
      | succ r ih =>
        intro i l' hi hl'
        have hil : i < l'.length := by omega
        rw [spL3_eq]
        simp only [bod3, lt_t hil, inR_of hil, cond_true, Int.toNat_natCast, wrap_succ i (show i < 4611686018427387904 by omega)]
        exact ih (i + 1) _ (by rw [List.length_set]; omega) (by rw [List.length_set]; exact hl')
    exact l0 l.length 0 l (Nat.zero_add _) hll
theorem law_true2 {c : Config} (hc : FitC c) {one another : List Bulkheadlaw28Turn} (h1 : one.length ≤ 140737488355328) (h2 : another.length ≤ 140737488355328) (more : Bool) : spO3 c one another more = some true := by
  obtain ⟨x, hx, ex⟩ := laid_r hc h1
  obtain ⟨y, hy, ey⟩ := laid_r hc h2
  obtain ⟨n0, n1, n2⟩ := nL_in hc
  obtain ⟨p1, p2⟩ := sp_of ex
  have p1' : sp5 c one = x := p1
  have p2' : spc5 c one = true := p2
  obtain ⟨q1, q2⟩ := sp_of ey
  have q1' : sp5 c another = y := q1
  have q2' : spc5 c another = true := q2
  unfold spO3 ent3
  rw [p2', q2', q1', cond_true, cond_true]
  cases more with
  | false => exact law_11 hc p1' hx (.inl hy)
  | true =>
    rw [cond_true, leB_t (by omega)]
    exact law_11 hc p1' hx (.inr ⟨by rw [List.length_append, List.length_replicate, hy], rfl⟩)
end Go.Proofs.YtgfifnadfmaolaaGreatDoor
