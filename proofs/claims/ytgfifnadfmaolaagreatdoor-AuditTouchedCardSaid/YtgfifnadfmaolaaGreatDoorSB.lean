/- The soundness of the abstract evaluator, part 11: regions that draw their order: the machine's side. -/
import Derived.Test.YtgfifnadfmaolaaGreatDoorSA
namespace Go.Proofs.YtgfifnadfmaolaaGreatDoor
open Go.RowKit
set_option linter.unusedVariables false
set_option linter.unusedSimpArgs false
def Gh.mask (β : Gh) (q : Nat) (ids : List Nat) : Gh :=
  ⟨β.b, β.v, fun p => match β.o p with | some (b, s) => if b ∈ ids ∧ b < q then some (b, s) else none | none => none, fun b => β.l b ∧ b < q⟩
theorem mask_o {β : Gh} {q : Nat} {ids : List Nat} {p : Nat} {κ : Nat × Option (Nat × Nat)} : (β.mask q ids).o p = some κ ↔ β.o p = some κ ∧ κ.1 ∈ ids ∧ κ.1 < q := by
  simp only [Gh.mask]
  cases hq : β.o p with
  | none => simp
  | some κ' =>
    obtain ⟨b, s⟩ := κ'
    by_cases h : b ∈ ids ∧ b < q
    · simp only [if_pos h, Option.some.injEq]
      constructor
      · rintro rfl; exact ⟨rfl, h⟩
      · exact fun h => h.1
    · simp only [if_neg h, Option.some.injEq]
      constructor
      · intro h; cases h
      · rintro ⟨rfl, h'⟩; exact absurd h' h
theorem upTo_some {n b j : Nat} (h : upTo n b = some j) : j = b ∧ b < n := by
  unfold upTo at h
  split at h
  · rename_i hb; simp at h; exact ⟨h.symm, by simpa using hb⟩
  · cases h
theorem maskE_get (ts : List Nat) (n : Nat) : ∀ (i : Nat) (l : List AV), (St.mask.maskE ts n i l).length = l.length ∧ ∀ t, (St.mask.maskE ts n i l).getD t .undef = if (i + t) ∈ ts then (l.getD t .undef).mapB (upTo n) 9 else .undef
  | i, [] => by simp [St.mask.maskE, AV.mapB]
  | i, x :: l => by
    obtain ⟨h1, h2⟩ := maskE_get ts n (i + 1) l
    refine ⟨by simp [St.mask.maskE, h1], fun t => ?_⟩
    cases t with
    | zero =>
      simp only [St.mask.maskE, List.getD_cons_zero, Nat.add_zero]
      cases hx : hasN i ts with
      | true => rw [if_pos (hasN_iff.1 hx)]
      | false => rw [if_neg (fun h => by rw [hasN_iff.2 h] at hx; cases hx)]
    | succ t =>
      have := h2 t
      rw [show i + 1 + t = i + (t + 1) by omega] at this
      simpa [St.mask.maskE] using this
theorem maskH_get (ids : List Nat) (n : Nat) : ∀ (i : Nat) (l : List Blk), (St.mask.maskH ids n i l).length = l.length ∧ ∀ b, (St.mask.maskH ids n i l).getD b .dead = if (i + b) ∈ ids then (l.getD b .dead).mapB (upTo n) else .dead
  | i, [] => by simp [St.mask.maskH, Blk.mapB]
  | i, x :: l => by
    obtain ⟨h1, h2⟩ := maskH_get ids n (i + 1) l
    refine ⟨by simp [St.mask.maskH, h1], fun t => ?_⟩
    cases t with
    | zero =>
      simp only [St.mask.maskH, List.getD_cons_zero, Nat.add_zero]
      cases hx : hasN i ids with
      | true => rw [if_pos (hasN_iff.1 hx)]
      | false => rw [if_neg (fun h => by rw [hasN_iff.2 h] at hx; cases hx)]
    | succ t =>
      have := h2 t
      rw [show i + 1 + t = i + (t + 1) by omega] at this
      simpa [St.mask.maskH] using this
theorem list_getD_ext {α : Type} {d : α} {l r : List α} (hl : l.length = r.length) (h : ∀ i, l.getD i d = r.getD i d) : l = r := by
  apply List.ext_getElem hl
  intro i h1 h2
  have := h i
  simpa [List.getD, h1, h2] using this
theorem mask_eq {s t : St} {n : Nat} {ts ids : List Nat} (he : s.env.length = t.env.length) (hgl : s.gl = t.gl) (hdf : s.df = t.df) (hdp : s.dp = t.dp) (hn : n ≤ s.heap.length) (hn' : n ≤ t.heap.length)
    (hE : ∀ i, i ∈ ts → s.get i = t.get i) (hH : ∀ b, b ∈ ids → b < n → s.heap.getD b .dead = t.heap.getD b .dead) : s.mask n ts ids = t.mask n ts ids := by
  obtain ⟨e1, e2⟩ := maskE_get ts n 0 s.env
  obtain ⟨f1, f2⟩ := maskE_get ts n 0 t.env
  obtain ⟨g1, g2⟩ := maskH_get ids n 0 (s.heap.take n)
  obtain ⟨h1, h2⟩ := maskH_get ids n 0 (t.heap.take n)
  have k1 : St.mask.maskE ts n 0 s.env = St.mask.maskE ts n 0 t.env := by
    apply list_getD_ext (d := .undef) (by rw [e1, f1, he])
    intro i
    rw [e2, f2, Nat.zero_add]
    by_cases hi : i ∈ ts
    · rw [if_pos hi, if_pos hi]
      have : s.env.getD i .undef = t.env.getD i .undef := hE i hi
      rw [this]
    · rw [if_neg hi, if_neg hi]
  have k2 : St.mask.maskH ids n 0 (s.heap.take n) = St.mask.maskH ids n 0 (t.heap.take n) := by
    apply list_getD_ext (d := .dead) (by rw [g1, h1]; simp [hn, hn'])
    intro b
    rw [g2, h2, Nat.zero_add]
    by_cases hb : b ∈ ids
    · rw [if_pos hb, if_pos hb]
      congr 1
      by_cases hlt : b < n
      · have := hH b hb hlt
        simpa [List.getD, List.getElem?_take, hlt] using this
      · simp [List.getD, List.getElem?_take, hlt]
    · rw [if_neg hb, if_neg hb]
  unfold St.mask
  rw [k1, k2, hgl, hdf, hdp]
section
variable {P : Program} {GL : List AV} {G : Gam} {B : Bs} {F : Nat → Prop} {β : Gh} {st : St} {a : Act} {w : World}
def maskB (w : World) (F : Nat → Prop) (β : Gh) (q : Nat) (ids : List Nat) : Bs := ⟨w, fun p => (β.mask q ids).o p ≠ none, F, β.mask q ids⟩
theorem mask_V {q : Nat} {ids : List Nat} (n : Nat) {x : AV} {y : Value} (h : V F w β x y) : V F w (β.mask q ids) (x.mapB (upTo q) n) y :=
  mapB_V (fun b j hb hj => by
    obtain ⟨rfl, h2⟩ := upTo_some hj
    exact ⟨⟨hb, h2⟩, rfl, rfl⟩) n h
theorem mask_Vs {q : Nat} {ids : List Nat} {cs : List AV} {Y : Nat → Value} (h : ∀ j, j < cs.length → V F w β (cs.getD j .undef) (Y j)) (n : Nat) : ∀ j, j < (cs.map (AV.mapB (upTo q) n)).length → V F w (β.mask q ids) ((cs.map (AV.mapB (upTo q) n)).getD j .undef) (Y j) := fun j hj => by
  have hj' : j < cs.length := by simpa using hj
  have := mask_V (q := q) (ids := ids) n (h j hj')
  simpa [List.getD, hj'] using this
theorem Rel.mask (h : Rel B F β st a w) {q : Nat} (hq : q ≤ st.heap.length) (ts ids : List Nat) : Rel (maskB w F β q ids) F (β.mask q ids) (st.mask q ts ids) a w := by
  obtain ⟨e1, e2⟩ := maskE_get ts q 0 st.env
  obtain ⟨g1, g2⟩ := maskH_get ids q 0 (st.heap.take q)
  have hlen : (st.mask q ts ids).heap.length = q := mask_len st q ts ids hq
  refine ⟨by rw [show (st.mask q ts ids).env = St.mask.maskE ts q 0 st.env from rfl, e1]; exact h.len, fun t => ?_, h.gl, ?_, .refl _ _, fun p hp => .inl hp, fun p hp => hp, fun p κ hp => .inl (by show (β.mask q ids).o p ≠ none; rw [hp]; simp), .refl _, fun j hj => hj.2, fun b hb => .inl hb, Nat.le_of_eq hlen.symm, h.heap.fb, fun b k hb => ?_, fun p κ hp => h.heap.lt p κ (mask_o.1 hp).1, fun p κ hp => h.heap.sep p κ (mask_o.1 hp).1, fun b hb => by rw [hlen]; exact hb.2⟩
  · show V F w _ ((St.mask.maskE ts q 0 st.env).getD t .undef) _
    rw [e2, Nat.zero_add]
    split
    · exact mask_V 9 (h.env t)
    · exact .undef _
  · have key : ∀ {l : List (FuncId × List AV)} {ds : List Deferred}, DfOk F w β l ds → DfOk F w (β.mask q ids) (l.map fun (f, as) => (f, as.map (AV.mapB (upTo q) 9))) ds := by
      intro l
      induction l with
      | nil => intro ds h; cases ds with | nil => trivial | cons => exact h.elim
      | cons x l ih =>
        intro ds h
        obtain ⟨f, as⟩ := x
        cases ds with
        | nil => exact h.elim
        | cons d ds =>
          obtain ⟨⟨cap, h1, h2, h3⟩, h4⟩ := h
          exact ⟨⟨cap, h1, by simpa using h2, mask_Vs h3 9⟩, ih h4⟩
    exact key h.df
  · have hb' : (St.mask.maskH ids q 0 (st.heap.take q))[b]? = some k := hb
    have hlt : b < q := by
      have := (List.getElem?_eq_some_iff.1 hb').1
      rw [g1] at this
      simp at this; omega
    have hk : k = (St.mask.maskH ids q 0 (st.heap.take q)).getD b .dead := by simp [List.getD, hb']
    rw [g2, Nat.zero_add] at hk
    by_cases hi : b ∈ ids
    · rw [if_pos hi] at hk
      have hb0 : b < st.heap.length := by omega
      have hold := h.heap.blk b st.heap[b] (by simp [hb0])
      have he : (st.heap.take q).getD b .dead = st.heap[b] := by simp [List.getD, List.getElem?_take, hlt, hb0]
      rw [he] at hk
      subst hk
      have hkey : ∀ p s, β.o p = some (b, s) → (β.mask q ids).o p = some (b, s) := fun p s hp => mask_o.2 ⟨hp, hi, hlt⟩
      generalize st.heap[b] = k0 at hold
      cases k0 with
      | cells e cs =>
        obtain ⟨ys, T, h1, h2, h3, h4⟩ := hold
        exact ⟨ys, T, h1, by simpa using h2, hkey _ _ h3, mask_Vs h4 9⟩
      | row e t cols hole xs =>
        obtain ⟨Vs, h1, h2, h3, h4⟩ := hold
        exact ⟨Vs, h1, h2, fun p hp => hkey _ _ (h3 p hp), fun i' j' hi' hj' => (h4 i' j' hi' hj').mono (sub_ext (fun _ h => h) w) fun p hp => ⟨hkey _ _ hp, rfl⟩⟩
      | ro t xs => exact hold
      | rob t x => exact hold
      | dead => trivial
    · rw [if_neg hi] at hk
      subst hk; trivial
theorem Rel.merge (h : Rel B F β st a w) {q : Nat} {ids : List Nat} (hqn : st.np ≤ q) {F' : Nat → Prop} {β' : Gh} {m : St} {o : Oper} {u : Value} {w' : World}
    (hm : Rel (maskB w F β q ids) F' β' m (a.put o.dst u) w') (hnp : m.np = q) (hmq : q ≤ m.heap.length) (hml : m.heap.length ≤ st.heap.length) (hnew : ∀ b, q ≤ b → b < m.heap.length → ¬ β.l b)
    {hp : List Blk} (hpl : hp.length = st.heap.length) (h1 : ∀ b, (b ∈ ids ∧ b < q) ∨ (q ≤ b ∧ b < m.heap.length) → hp.getD b .dead = m.heap.getD b .dead) (h2 : ∀ b, ¬ ((b ∈ ids ∧ b < q) ∨ (q ≤ b ∧ b < m.heap.length)) → hp.getD b .dead = st.heap.getD b .dead) :
    ∃ F2 β2, Rel B F2 β2 { (st.put o.dst (m.get (o.dst.getD 0))) with heap := hp } (a.put o.dst u) w' ∧ ∀ b, β2.l b → β.l b ∨ (q ≤ b ∧ b < m.heap.length) := by
  classical
  let In : Nat → Prop := fun b => (b ∈ ids ∧ b < q) ∨ (q ≤ b ∧ b < m.heap.length)
  let β2 : Gh := ⟨fun b => if In b then β'.b b else β.b b, fun b => if In b then β'.v b else β.v b, fun p => match β'.o p with | some κ => some κ | none => (match β.o p with | some (c, s) => if c ∈ ids ∧ c < q then none else some (c, s) | none => none), fun b => β.l b ∨ β'.l b⟩
  have hl' : ∀ b, β'.l b → (β.l b ∧ b < q) ∨ (q ≤ b ∧ b < m.heap.length) := fun b hb => by
    have h2 := hm.heap.live b hb
    rcases hm.nw b hb with h1 | h1
    · exact .inl h1
    · exact .inr ⟨by rw [hnp] at h1; exact h1, h2⟩
  have hle1 : β.Le β2 := fun b hb => by
    refine ⟨.inl hb, ?_, ?_⟩
    · show (if In b then β'.b b else β.b b) = _
      split
      · rename_i hin
        rcases hin with hin | hin
        · exact (hm.per b ⟨hb, hin.2⟩).2.1
        · exact absurd hb (hnew b hin.1 hin.2)
      · rfl
    · show (if In b then β'.v b else β.v b) = _
      split
      · rename_i hin
        rcases hin with hin | hin
        · exact (hm.per b ⟨hb, hin.2⟩).2.2
        · exact absurd hb (hnew b hin.1 hin.2)
      · rfl
  have hle2 : β'.Le β2 := fun b hb => by
    refine ⟨.inr hb, ?_, ?_⟩
    · show (if In b then β'.b b else β.b b) = _
      split
      · rfl
      · rename_i hin
        rcases hl' b hb with h1 | h1
        · exact (hm.per b h1).2.1.symm
        · exact absurd (.inr h1) hin
    · show (if In b then β'.v b else β.v b) = _
      split
      · rfl
      · rename_i hin
        rcases hl' b hb with h1 | h1
        · exact (hm.per b h1).2.2.symm
        · exact absurd (.inr h1) hin
  have hkept : Keeps (fun p => (β.mask q ids).o p ≠ none) w w' := hm.kept
  have hE : Ext F F' w w' := ⟨hkept.size, fun p hF hp => ⟨hm.fi p hF, hkept.block p hp fun hq => by
    cases ho : (β.mask q ids).o p with
    | none => exact hq ho
    | some κ => exact h.heap.sep p _ (mask_o.1 ho).1 hF⟩⟩
  have hM : ∀ p, (β.mask q ids).o p ≠ none → ∃ b s, β.o p = some (b, s) ∧ b ∈ ids ∧ b < q := fun p hp => by
    cases ho : (β.mask q ids).o p with
    | none => exact absurd ho hp
    | some κ => obtain ⟨g1, g2, g3⟩ := mask_o.1 ho; exact ⟨κ.1, κ.2, g1, g2, g3⟩
  have ho2 : ∀ p κ, β2.o p = some κ → β'.o p = some κ ∨ (β'.o p = none ∧ β.o p = some κ ∧ ¬ (κ.1 ∈ ids ∧ κ.1 < q)) := fun p κ hp => by
    have hp' : (match β'.o p with | some κ => some κ | none => (match β.o p with | some (c, s) => if c ∈ ids ∧ c < q then none else some (c, s) | none => none)) = some κ := hp
    cases hx : β'.o p with
    | some κ' => rw [hx] at hp'; simp at hp'; subst hp'; exact .inl rfl
    | none =>
      rw [hx] at hp'
      simp only at hp'
      split at hp'
      · rename_i c s hc
        split at hp'
        · cases hp'
        · rename_i hn; simp at hp'; subst hp'; exact .inr ⟨rfl, hc, hn⟩
      · cases hp'
  have hlo' : ∀ p κ, β'.o p = some κ → (∃ b s, β.o p = some (b, s) ∧ b ∈ ids ∧ b < q) ∨ w.heap.size ≤ p := fun p κ hp => by
    rcases hm.lo p κ hp with h1 | h1
    · exact .inl (hM p h1)
    · exact .inr h1
  have hHOk : HOk F' w' β2 hp := by
    refine ⟨hm.heap.fb, fun b k hb => ?_, fun p κ hp' => ?_, fun p κ hp' hF => ?_, fun b hb => ?_⟩
    · have hk : hp.getD b .dead = k := by simp [List.getD, hb]
      by_cases hin : In b
      · rw [h1 b hin] at hk
        cases hmb : m.heap[b]? with
        | none =>
          simp only [List.getD, hmb, Option.getD_none] at hk
          subst hk; trivial
        | some k' =>
          simp only [List.getD, hmb, Option.getD_some] at hk
          subst hk
          refine (hm.heap.blk b _ hmb).mono ⟨Nat.le_refl _, fun p hp _ => ⟨hp, rfl⟩⟩ hle2 ⟨?_, ?_⟩ (fun p s hp' => ⟨?_, rfl⟩)
          · show (if In b then β'.b b else β.b b) = _; rw [if_pos hin]
          · show (if In b then β'.v b else β.v b) = _; rw [if_pos hin]
          · show (match β'.o p with | some κ => some κ | none => _) = _; rw [hp']
      · rw [h2 b hin] at hk
        cases hsb : st.heap[b]? with
        | none =>
          simp only [List.getD, hsb, Option.getD_none] at hk
          subst hk; trivial
        | some k' =>
          simp only [List.getD, hsb, Option.getD_some] at hk
          subst hk
          refine (h.heap.blk b _ hsb).mono hE hle1 ⟨?_, ?_⟩ (fun p s hp' => ?_)
          · show (if In b then β'.b b else β.b b) = _; rw [if_neg hin]
          · show (if In b then β'.v b else β.v b) = _; rw [if_neg hin]
          · have hpl' := h.heap.lt p _ hp'
            have hnid : ¬ (b ∈ ids ∧ b < q) := fun e => hin (.inl e)
            have hbo : β'.o p = none := by
              cases hx : β'.o p with
              | none => rfl
              | some κ =>
                rcases hlo' p κ hx with ⟨b', s', g1, g2⟩ | g1
                · rw [hp'] at g1; simp at g1; rw [← g1.1] at g2; exact absurd g2 hnid
                · omega
            refine ⟨?_, hkept.block p hpl' fun hq => ?_⟩
            · show (match β'.o p with | some κ => some κ | none => (match β.o p with | some (c, s) => if c ∈ ids ∧ c < q then none else some (c, s) | none => none)) = _
              rw [hbo, hp']; simp only; rw [if_neg hnid]
            · obtain ⟨b', s', g1, g2⟩ := hM p hq
              rw [hp'] at g1; simp at g1; rw [← g1.1] at g2; exact absurd g2 hnid
    · rcases ho2 p κ hp' with h1 | ⟨_, h1, _⟩
      · exact hm.heap.lt p κ h1
      · exact Nat.lt_of_lt_of_le (h.heap.lt p κ h1) hkept.size
    · rcases ho2 p κ hp' with h1 | ⟨_, h1, hn⟩
      · exact hm.heap.sep p κ h1 hF
      · rcases hm.fo p hF with h3 | h3 | h3
        · exact h.heap.sep p κ h1 h3
        · obtain ⟨b, s, g1, g2⟩ := hM p h3
          rw [h1] at g1
          cases g1
          exact hn g2
        · have h3 : w.heap.size ≤ p := h3
          have := h.heap.lt p κ h1; omega
    · rw [hpl]
      rcases hb with hb | hb
      · exact h.heap.live b hb
      · have := hm.heap.live b hb; omega
  refine ⟨F', β2, ?_, fun b hb => ?_⟩
  · have hA : Rel B F' β2 { st with heap := hp } a w' :=
      ⟨h.len, fun t => (h.env t).mono hE hle1, fun g => (h.gl g).mono hE, h.df.imp fun _ _ hv => hv.mono hE hle1, h.kept.trans hkept (fun _ h => h) (fun p hp' => by
      obtain ⟨b, s, g1, _⟩ := hM p hp'
      exact h.lo p _ g1), (fun p hF => by
      rcases hm.fo p hF with h3 | h3 | h3
      · exact h.fo p h3
      · obtain ⟨b, s, g1, _⟩ := hM p h3
        exact .inr (h.lo p _ g1)
      · exact .inr (.inr (Nat.le_trans h.kept.size h3))), (fun p hF => hm.fi p (h.fi p hF)), (fun p κ hp' => by
      rcases ho2 p κ hp' with h1 | ⟨_, h1, _⟩
      · rcases hlo' p κ h1 with ⟨b, s, g1, _⟩ | g1
        · exact h.lo p _ g1
        · exact .inr (Nat.le_trans h.kept.size g1)
      · exact h.lo p κ h1), h.per.trans hle1, h.bn, (fun b hb => by
      rcases hb with hb | hb
      · exact h.nw b hb
      · rcases hl' b hb with g | g
        · exact h.nw b g.1
        · exact .inr (Nat.le_trans hqn g.1)), by rw [hpl]; exact h.hn, hHOk⟩
    cases hd : o.dst with
    | none => simpa [St.put, Act.put, hd] using hA
    | some d =>
      have hv : V F' w' β2 (m.get d) u := by
        have h3 := (hm.env d).mono (⟨Nat.le_refl _, fun p hp _ => ⟨hp, rfl⟩⟩ : Ext F' F' w' w') hle2
        have hlen : m.env.length = a.tmps.size := by rw [hm.len, hd]; simp [Act.put]
        simp only [hd, Act.put, Array.getD_eq_getD_getElem?, Array.getElem?_setIfInBounds] at h3
        by_cases hlt : d < a.tmps.size
        · simpa [hlt] using h3
        · have hge : m.env.length ≤ d := by rw [hlen]; exact Nat.le_of_not_lt hlt
          have : m.get d = .undef := by
            unfold St.get
            rw [List.getD, List.getElem?_eq_none hge]
            rfl
          rw [this]; exact .undef _
      exact hA.put (some d) hv
  · rcases hb with hb | hb
    · exact .inl hb
    · rcases hl' b hb with g | g
      · exact .inl g.1
      · exact .inr g
/-! ### Which are ahead -/
theorem before_get (ops : Array Oper) : ∀ (l : List Oper) (acc : Array Nat), let r := l.foldl (init := acc) fun acc o => acc.push (o.after.foldl (fun s e => if Region.binds .any e then s ||| 2 ^ e.on ||| acc.getD e.on 0 else s) 0)
    (∀ j, j < acc.size → r.getD j 0 = acc.getD j 0) ∧ r.size = acc.size + l.length := by
  intro l
  induction l with
  | nil => intro acc; exact ⟨fun j _ => rfl, rfl⟩
  | cons o l ih =>
    intro acc
    obtain ⟨h1, h2⟩ := ih (acc.push (o.after.foldl (fun s e => if Region.binds .any e then s ||| 2 ^ e.on ||| acc.getD e.on 0 else s) 0))
    refine ⟨fun j hj => ?_, ?_⟩
    · simp only [List.foldl_cons]
      rw [h1 j (by simp; omega)]
      simp [Array.getD, hj, Array.getElem_push, show j < acc.size + 1 by omega]
    · simp only [List.foldl_cons]
      rw [h2]; simp; omega
theorem edge_bits (acc : Array Nat) (p : Nat) : ∀ (l : List Edge) (s : Nat), Nat.testBit (l.foldl (fun s e => if Region.binds .any e then s ||| 2 ^ e.on ||| acc.getD e.on 0 else s) s) p = true → Nat.testBit s p = true ∨ ∃ e, e ∈ l ∧ Region.binds .any e = true ∧ (p = e.on ∨ Nat.testBit (acc.getD e.on 0) p = true)
  | [], s, h => .inl h
  | e :: l, s, h => by
    simp only [List.foldl_cons] at h
    rcases edge_bits acc p l _ h with h1 | ⟨e', h1, h2, h3⟩
    · split at h1
      · rename_i hb
        simp only [Nat.testBit_or, Bool.or_eq_true, Nat.testBit_two_pow, decide_eq_true_eq] at h1
        rcases h1 with (h1 | h1) | h1
        · exact .inl h1
        · exact .inr ⟨e, by simp, hb, .inl h1.symm⟩
        · exact .inr ⟨e, by simp, hb, .inr h1⟩
      · exact .inl h1
    · exact .inr ⟨e', by simp [h1], h2, h3⟩
theorem before_bits (ops : Array Oper) (j p : Nat) (h : Nat.testBit ((Region.before ops).getD j 0) p = true) : ∃ o, ops[j]? = some o ∧ ∃ e, e ∈ o.after.toList ∧ Region.binds .any e = true ∧ (p = e.on ∨ Nat.testBit ((Region.before ops).getD e.on 0) p = true) := by
  have key : ∀ (l : List Oper) (acc : Array Nat), let f := fun (acc : Array Nat) (o : Oper) => acc.push (o.after.foldl (fun s e => if Region.binds .any e then s ||| 2 ^ e.on ||| acc.getD e.on 0 else s) 0)
      ∀ j, acc.size ≤ j → Nat.testBit ((l.foldl f acc).getD j 0) p = true → ∃ o, l[j - acc.size]? = some o ∧ ∃ e, e ∈ o.after.toList ∧ Region.binds .any e = true ∧ (p = e.on ∨ Nat.testBit ((l.foldl f acc).getD e.on 0) p = true) := by
    intro l
    induction l with
    | nil => intro acc f j hj ht; simp [Array.getD, Nat.not_lt.2 hj] at ht
    | cons o l ih =>
      intro acc f j hj ht
      simp only [List.foldl_cons] at ht ⊢
      by_cases e : j = acc.size
      · subst e
        obtain ⟨h1, h2⟩ := before_get ops l (f acc o)
        have hs : (f acc o).size = acc.size + 1 := by simp [f]
        rw [h1 acc.size (by omega)] at ht
        have hpush : ∀ x : Nat, (acc.push x).getD acc.size 0 = x := fun x => by simp [Array.getD]
        have ht : Nat.testBit ((acc.push (o.after.foldl (fun s e => if Region.binds .any e then s ||| 2 ^ e.on ||| acc.getD e.on 0 else s) 0)).getD acc.size 0) p = true := ht
        rw [hpush, ← Array.foldl_toList] at ht
        rcases edge_bits acc p _ _ ht with h3 | ⟨e, h3, h4, h5⟩
        · simp at h3
        · refine ⟨o, by simp, e, h3, h4, ?_⟩
          rcases h5 with h5 | h5
          · exact .inl h5
          · right
            by_cases hlt : e.on < acc.size
            · rw [h1 e.on (by omega)]
              have : (f acc o).getD e.on 0 = acc.getD e.on 0 := by simp [f, Array.getD, hlt, Array.getElem_push, show e.on < acc.size + 1 by omega]
              rw [this]; exact h5
            · simp [Array.getD, hlt] at h5
      · obtain ⟨o', h1, h2⟩ := ih (f acc o) j (by simp [f]; omega) ht
        refine ⟨o', ?_, h2⟩
        rw [show j - acc.size = (j - (f acc o).size) + 1 by simp [f]; omega]
        simpa using h1
  have h' : Nat.testBit ((ops.toList.foldl (fun (acc : Array Nat) (o : Oper) => acc.push (o.after.foldl (fun s e => if Region.binds .any e then s ||| 2 ^ e.on ||| acc.getD e.on 0 else s) 0)) #[]).getD j 0) p = true := by
    have e : Region.before ops = ops.toList.foldl (fun (acc : Array Nat) (o : Oper) => acc.push (o.after.foldl (fun s e => if Region.binds .any e then s ||| 2 ^ e.on ||| acc.getD e.on 0 else s) 0)) #[] := by
      unfold Region.before; rw [← Array.foldl_toList]
    rw [← e]; exact h
  obtain ⟨o, h1, e, h2, h3, h4⟩ := key ops.toList #[] j (Nat.zero_le _) h'
  refine ⟨o, by simpa using h1, e, h2, h3, ?_⟩
  rcases h4 with h4 | h4
  · exact .inl h4
  · right
    have e' : Region.before ops = ops.toList.foldl (fun (acc : Array Nat) (o : Oper) => acc.push (o.after.foldl (fun s e => if Region.binds .any e then s ||| 2 ^ e.on ||| acc.getD e.on 0 else s) 0)) #[] := by
      unfold Region.before; rw [← Array.foldl_toList]
    rw [e']; exact h4
theorem indepOne_get {l : List Oper} {bs : List Nat} {i : Nat} {o : Oper} {f : Fp} : ∀ {j : Nat} {os : List Oper} {fs : List Fp}, indepAll.indepOne l bs i o f j os fs = true → ∀ k o' f', os[k]? = some o' → fs[k]? = some f' → Nat.testBit (bs.getD (j + k) 0) i = true ∨ indep l o o' f f' = true
  | j, [], fs, h, k, o', f', ho, hf => by simp at ho
  | j, o1 :: os, [], h, k, o', f', ho, hf => by simp at hf
  | j, o1 :: os, f1 :: fs, h, k, o', f', ho, hf => by
    simp only [indepAll.indepOne, Bool.and_eq_true, Bool.or_eq_true] at h
    cases k with
    | zero => simp at ho hf; subst ho hf; simpa using h.1
    | succ k =>
      have := indepOne_get h.2 k o' f' (by simpa using ho) (by simpa using hf)
      rwa [show j + 1 + k = j + (k + 1) by omega] at this
theorem indepAll_get {l : List Oper} {bs : List Nat} : ∀ {i : Nat} {os : List Oper} {fs : List Fp}, indepAll l bs i os fs = true → ∀ m k o f o' f', m < k → os[m]? = some o → fs[m]? = some f → os[k]? = some o' → fs[k]? = some f' → Nat.testBit (bs.getD (i + k) 0) (i + m) = true ∨ indep l o o' f f' = true
  | i, [], fs, h, m, k, o, f, o', f', hmk, ho, hf, ho', hf' => by simp at ho
  | i, o1 :: os, [], h, m, k, o, f, o', f', hmk, ho, hf, ho', hf' => by simp at hf
  | i, o1 :: os, f1 :: fs, h, m, k, o, f, o', f', hmk, ho, hf, ho', hf' => by
    simp only [indepAll, Bool.and_eq_true] at h
    cases k with
    | zero => omega
    | succ k =>
      cases m with
      | zero =>
        simp at ho hf; subst ho hf
        have := indepOne_get h.1 k o' f' (by simpa using ho') (by simpa using hf')
        rwa [show i + 1 + k = i + (k + 1) by omega] at this
      | succ m =>
        have := indepAll_get h.2 m k o f o' f' (by omega) (by simpa using ho) (by simpa using hf) (by simpa using ho') (by simpa using hf')
        rwa [show i + 1 + k = i + (k + 1) by omega, show i + 1 + m = i + (m + 1) by omega] at this
theorem apart_not {a b : List Nat} (h : apart a b = true) {x : Nat} (ha : x ∈ a) : x ∉ b := fun hb => by
  have := List.all_eq_true.1 h x ha
  rw [hasN_iff.2 hb] at this
  cases this
theorem edgesB_get : ∀ {i : Nat} {l : List Oper}, edgesB i l = true → ∀ k o, l[k]? = some o → ∀ e, e ∈ o.after.toList → Region.binds .any e = true → e.on < i + k
  | i, [], _, k, o, ho, e, he, hb => by simp at ho
  | i, o1 :: l, h, k, o, ho, e, he, hb => by
    simp only [edgesB, Bool.and_eq_true, List.all_eq_true] at h
    cases k with
    | zero =>
      simp at ho; subst ho
      have := h.1 e he
      simp only [hb, Bool.not_true, Bool.or_false] at this
      simpa using this
    | succ k =>
      have := edgesB_get h.2 k o (by simpa using ho) e he hb
      omega
end
end Go.Proofs.YtgfifnadfmaolaaGreatDoor
