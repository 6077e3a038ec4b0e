/- The soundness of the abstract evaluator, part 12: a region that draws its order. -/
import Derived.Test.YtgfifnadfmaolaaGreatDoorSB
namespace Go.Proofs.YtgfifnadfmaolaaGreatDoor
open Go.RowKit
set_option linter.unusedVariables false
set_option linter.unusedSimpArgs false
theorem put_get_eq (s : St) (t : Nat) (x : AV) : (s.put (some t) x).get t = if t < s.env.length then x else s.get t := by
  show (s.set t x).get t = _
  rw [get_set]
  by_cases h : t < s.env.length <;> simp [h]
theorem get_out {s : St} {t : Nat} (h : s.env.length ≤ t) : s.get t = .undef := by
  unfold St.get
  rw [List.getD, List.getElem?_eq_none h]; rfl
theorem put_same {s s' : St} {d : Option Nat} {x : AV} {t : Nat} (he : s.env.length = s'.env.length) (hd : d = some t) : (s.put d x).get t = (s'.put d x).get t := by
  subst hd
  rw [put_get_eq, put_get_eq, he]
  split
  · rfl
  · rename_i h
    rw [get_out (by omega), get_out (by omega)]
theorem put_env (s : St) (d : Option Nat) (x : AV) : (s.put d x).env.length = s.env.length ∧ (s.put d x).heap = s.heap ∧ (s.put d x).gl = s.gl ∧ (s.put d x).np = s.np ∧ ((s.put d x).df = s.df ∧ (s.put d x).dp = s.dp) := by
  cases d <;> simp [St.put, St.set]
theorem st_ext {s t : St} (h1 : s.env.length = t.env.length) (h2 : s.heap.length = t.heap.length) (h3 : ∀ i, s.get i = t.get i) (h4 : ∀ b, s.heap.getD b .dead = t.heap.getD b .dead) (h5 : s.gl = t.gl) (h6 : s.np = t.np) (h7 : s.df = t.df) (h8 : s.dp = t.dp) : s = t := by
  have e1 : s.env = t.env := list_getD_ext (d := AV.undef) h1 fun i => (h3 i : s.env.getD i .undef = t.env.getD i .undef)
  have e2 : s.heap = t.heap := list_getD_ext (d := Blk.dead) h2 h4
  cases s; cases t; simp_all
theorem mapB_own {s : Nat → Option Nat} {n : Nat} {x : AV} {b : Nat} (h : x.mapB s n = .own b) : ∃ b', x = .own b' := by
  cases n with
  | zero => simp [AV.mapB] at h
  | succ n => cases x <;> first | exact ⟨_, rfl⟩ | (simp [AV.mapB] at h; done) | (simp only [AV.mapB] at h; split at h <;> cases h)
theorem mapB_oel {s : Nat → Option Nat} {n : Nat} {x : AV} {b sz i off : Nat} (h : x.mapB s n = .oel b sz i off) : ∃ b', x = .oel b' sz i off ∧ s b' = some b := by
  cases n with
  | zero => simp [AV.mapB] at h
  | succ n =>
    cases x <;> first | (simp [AV.mapB] at h; done) | skip
    all_goals
      simp only [AV.mapB] at h
      split at h <;> first | (cases h; done) | skip
    rename_i hj
    simp at h
    obtain ⟨rfl, rfl, rfl, rfl⟩ := h
    exact ⟨_, rfl, hj⟩
theorem ofConst_oel (v : Value) {b sz i off : Nat} : ofConst v ≠ .oel b sz i off := by
  unfold ofConst; split <;> intro h <;> cases h
theorem writes_mask {st : St} {n : Nat} {ts ids : List Nat} {o : Oper} (h : writes (st.mask n ts ids) o = true) : writes st o = true := by
  unfold writes at h ⊢
  split at h <;> (try rename_i hop) <;> (try simp only [hop]) <;> (try rfl)
  · rename_i x _ _ _
    have own : ∀ {y : AV}, (match y with | .own _ => true | _ => false) = true → ∃ b, y = .own b := fun {y} h => by cases y <;> first | exact ⟨_, rfl⟩ | cases h
    obtain ⟨b, hb⟩ := own h
    have : ∃ b', st.ev x = .own b' := by
      cases x with
      | tmp t =>
        have hb' : (St.mask.maskE ts n 0 st.env).getD t .undef = .own b := hb
        rw [(maskE_get ts n 0 st.env).2 t] at hb'
        split at hb'
        · exact mapB_own hb'
        · cases hb'
      | const v => exact ⟨b, hb⟩
      | global g => exact ⟨b, hb⟩
      | func f => exact ⟨b, hb⟩
    obtain ⟨b', hb'⟩ := this
    rw [hb']
  · rename_i ad
    have key : ∀ {y : AV} {hp : List Blk}, (match y with | .oel b _ _ _ => (match hp[b]? with | some (.row _ _ (_ :: _) _ _) => true | _ => false) | _ => false) = true → ∃ b sz i off e t c cs hl, ∃ xs : List t.T, y = .oel b sz i off ∧ hp[b]? = some (.row e t (c :: cs) hl xs) := fun {y hp} h => by
      cases y with
      | oel b sz i off =>
        simp only at h
        split at h
        · rename_i e t c cs hl xs hq; exact ⟨b, sz, i, off, e, t, c, cs, hl, xs, rfl, hq⟩
        · cases h
      | _ => cases h
    obtain ⟨b, sz, i, off, e, t, c, cs, hl, xs, h1, h2⟩ := key h
    have h3 : ∃ b', st.ev ad = .oel b' sz i off ∧ (b' < n → b = b') ∧ b' < n := by
      cases ad with
      | tmp t =>
        have hb' : (St.mask.maskE ts n 0 st.env).getD t .undef = .oel b sz i off := h1
        rw [(maskE_get ts n 0 st.env).2 t] at hb'
        split at hb'
        · obtain ⟨b', q1, q2⟩ := mapB_oel hb'
          obtain ⟨q3, q4⟩ := upTo_some q2
          exact ⟨b', q1, fun _ => q3, q4⟩
        · cases hb'
      | const v => exact absurd h1 (ofConst_oel v)
      | global g =>
        refine ⟨b, h1, fun _ => rfl, ?_⟩
        have := (List.getElem?_eq_some_iff.1 h2).1
        have hl2 := (maskH_get ids n 0 (st.heap.take n)).1
        have : b < (St.mask.maskH ids n 0 (st.heap.take n)).length := this
        rw [hl2] at this
        simp at this; omega
      | func f => cases h1
    obtain ⟨b', h4, h5, h6⟩ := h3
    have h7 := h5 h6
    subst h7
    rw [h4]
    have h8 : (St.mask.maskH ids n 0 (st.heap.take n)).getD b .dead = .row e t (c :: cs) hl xs := by
      have : (St.mask.maskH ids n 0 (st.heap.take n))[b]? = some (.row e t (c :: cs) hl xs) := h2
      simp [List.getD, this]
    rw [(maskH_get ids n 0 (st.heap.take n)).2 b] at h8
    split at h8
    · have h9 : (st.heap.take n).getD b .dead = .row e t (c :: cs) hl xs := by
        cases hq : (st.heap.take n).getD b .dead <;> rw [hq] at h8 <;> simp [Blk.mapB] at h8
        obtain ⟨rfl, rfl, rfl, rfl, h8⟩ := h8
        simp at h8; subst h8; rfl
      have h10 : st.heap[b]? = some (.row e t (c :: cs) hl xs) := by
        have e0 : (st.heap.take n).getD b .dead = st.heap.getD b .dead := by simp [List.getD, List.getElem?_take, h6]
        rw [e0] at h9
        cases hq : st.heap[b]? with
        | none => simp [List.getD, hq] at h9
        | some k => simp [List.getD, hq] at h9; rw [h9]
      simp only [h10]
    · cases h8
  · cases h
section
variable {P : Program} {GL : List AV} {G : Gam} {B : Bs}
theorem Rel.pad {F : Nat → Prop} {β : Gh} {st : St} {a : Act} {w : World} (h : Rel B F β st a w) (n : Nat) : Rel B F β { st with heap := st.heap ++ List.replicate n .dead } a w := by
  refine h.heapTo (sub_ext (fun _ h => h) w) (.refl _) h.kept h.fo (fun _ h => h) h.lo (fun b hb => .inl hb) (by simp) ⟨h.heap.fb, fun b k hb => ?_, h.heap.lt, h.heap.sep, fun b hb => by have := h.heap.live b hb; simp; omega⟩
  by_cases hlt : b < st.heap.length
  · rw [List.getElem?_append_left hlt] at hb
    exact h.heap.blk b k hb
  · rw [List.getElem?_append_right (Nat.le_of_not_lt hlt), List.getElem?_replicate] at hb
    split at hb
    · simp at hb; subst hb; trivial
    · cases hb
structure Mid (B : Bs) (S : Nat → St) (D : Nat → Option Nat) (W : Nat → List Nat) (n : Nat) (L : Nat → Bool) (F : Nat → Prop) (β : Gh) (T : St) (a : Act) (w : World) : Prop where
  rel : Rel B F β T a w
  env : T.env.length = (S 0).env.length
  heap : T.heap.length = (S n).heap.length
  gl : T.gl = (S 0).gl
  np : T.np = (S 0).np
  df : T.df = (S 0).df ∧ T.dp = (S 0).dp
  e : ∀ t, T.get t = lastE S D L t n
  h : ∀ b, T.heap.getD b .dead = lastH S W L b n
  live : ∀ b, β.l b → b < (S 0).heap.length ∨ ∃ i, i < n ∧ L i = true ∧ (S i).heap.length ≤ b ∧ b < (S (i + 1)).heap.length
theorem mid_step (hG : GOk P GL G) {ops : Array Oper} {S : Nat → St} (hgl0 : (S 0).gl = GL) (hnp0 : (S 0).np ≤ (S 0).heap.length) {fs : List Fp} {n : Nat} (hn : ops.size = n) (hfl : fs.length = n)
    (hstep : ∀ i o, ops[i]? = some o → Step1 P G ops.toList (S i) o (fs.getD i ⟨[], []⟩) (S (i + 1))) (hS : ∀ i, n ≤ i → S (i + 1) = S i)
    (hind : ∀ m k o f o' f', m < k → ops[m]? = some o → fs[m]? = some f → ops[k]? = some o' → fs[k]? = some f' → Nat.testBit ((Region.before ops).getD k 0) m = true ∨ indep ops.toList o o' f f' = true)
    {L L' : Nat → Bool} (hL : ∀ i, L i = true → i < n) (hdc : ∀ i, L i = true → ∀ p, Nat.testBit ((Region.before ops).getD i 0) p = true → L p = true) {j : Nat} {o : Oper} (ho : ops[j]? = some o) (hj : L j = false)
    (hpre : ∀ e, e ∈ o.after.toList → Region.binds .any e = true → L e.on = true) (hL' : ∀ i, L' i = true ↔ L i = true ∨ i = j)
    {F : Nat → Prop} {β : Gh} {T : St} {a : Act} {w : World} (hM : Mid B S (fun i => (ops[i]?).bind (·.dst)) (fun i => (fs.getD i ⟨[], []⟩).wr) n L F β T a w) {Q : Exit → Act → World → Prop} {K : Act → World → Prop}
    (hK : ∀ F' β' T' a' w', Mid B S (fun i => (ops[i]?).bind (·.dst)) (fun i => (fs.getD i ⟨[], []⟩).wr) n L' F' β' T' a' w' → K a' w') : wpOp P ops Q j K a w := by
  have hjn : j < n := by
    have := (Array.getElem?_eq_some_iff.1 ho).1; omega
  let D : Nat → Option Nat := fun i => (ops[i]?).bind (·.dst)
  let f := fs.getD j ⟨[], []⟩
  have hDj : D j = o.dst := by show (ops[j]?).bind (·.dst) = _; rw [ho]; rfl
  have hkeep := fun i o' (ho' : ops[i]? = some o') => (hstep i o' ho').keeps
  have hkeepE : ∀ t i, D i ≠ some t → (S (i + 1)).get t = (S i).get t := fun t i hd => by
    by_cases hi : i < n
    · have hio : ops[i]? = some ops[i] := by simp [show i < ops.size by omega]
      refine (hkeep i _ hio).2.2.2.2.2.1 t fun e => hd ?_
      show (ops[i]?).bind (·.dst) = _; rw [hio]; exact e
    · rw [hS i (by omega)]
  have hkeepH : ∀ b i, b ∉ (fs.getD i ⟨[], []⟩).wr → (S (i + 1)).heap.getD b .dead = (S i).heap.getD b .dead := fun b i hb => by
    by_cases hi : i < n
    · have hio : ops[i]? = some ops[i] := by simp [show i < ops.size by omega]
      exact (hkeep i _ hio).2.2.2.2.2.2 b hb
    · rw [hS i (by omega)]
  have hmono : ∀ i, (S i).heap.length ≤ (S (i + 1)).heap.length := fun i => by
    by_cases hi : i < n
    · have hio : ops[i]? = some ops[i] := by simp [show i < ops.size by omega]
      exact (hkeep i _ hio).2.2.2.2.1
    · rw [hS i (by omega)]; exact Nat.le_refl _
  have hmonoL : ∀ i k, i ≤ k → (S i).heap.length ≤ (S k).heap.length := fun i k hik => by
    induction k with
    | zero => rw [show i = 0 by omega]; exact Nat.le_refl _
    | succ k ih =>
      by_cases e : i = k + 1
      · rw [e]; exact Nat.le_refl _
      · exact Nat.le_trans (ih (by omega)) (hmono k)
  have hsame : ∀ i, (S i).env.length = (S 0).env.length ∧ (S i).gl = (S 0).gl ∧ (S i).np = (S 0).np ∧ ((S i).df = (S 0).df ∧ (S i).dp = (S 0).dp) := fun i => by
    induction i with
    | zero => exact ⟨rfl, rfl, rfl, rfl, rfl⟩
    | succ i ih =>
      by_cases hi : i < n
      · have hio : ops[i]? = some ops[i] := by simp [show i < ops.size by omega]
        obtain ⟨k1, k2, k3, k4, _⟩ := hkeep i _ hio
        exact ⟨k1.trans ih.1, k2.trans ih.2.1, k3.trans ih.2.2.1, k4.1.trans ih.2.2.2.1, k4.2.trans ih.2.2.2.2⟩
      · rw [hS i (by omega)]; exact ih
  have hdcj : ∀ p, Nat.testBit ((Region.before ops).getD j 0) p = true → L p = true := fun p hp => by
    obtain ⟨o', ho', e, h1, h2, h3⟩ := before_bits ops j p hp
    rw [ho] at ho'; simp at ho'; subst ho'
    have he := hpre e h1 h2
    rcases h3 with rfl | h3
    · exact he
    · exact hdc _ he p h3
  have hfi : ∀ i, i < n → fs[i]? = some (fs.getD i ⟨[], []⟩) := fun i hi => by simp [List.getD, show i < fs.length by omega]
  have hoi : ∀ i, i < n → ops[i]? = some ops[i]! := fun i hi => by simp [show i < ops.size by omega]
  -- an earlier one that this one hangs on has been carried out; of a later one that hangs on this one nothing has
  have early : ∀ i, i < j → (∀ o', ops[i]? = some o' → indep ops.toList o' o (fs.getD i ⟨[], []⟩) f = false) → L i = true := fun i hi hno => by
    have hio := hoi i (by omega)
    rcases hind i j _ _ o f hi hio (hfi i (by omega)) ho (hfi j hjn) with h1 | h1
    · exact hdcj i h1
    · rw [hno _ hio] at h1; cases h1
  have late : ∀ i, j < i → i < n → L i = true → ∀ o', ops[i]? = some o' → indep ops.toList o o' f (fs.getD i ⟨[], []⟩) = true := fun i hi hin hLi o' ho' => by
    rcases hind j i o f o' _ hi ho (hfi j hjn) ho' (hfi i hin) with h1 | h1
    · rw [hdc i hLi j h1] at hj; cases hj
    · exact h1
  have hDi : ∀ i t, D i = some t → ∃ o', ops[i]? = some o' ∧ o'.dst = some t := fun i t h => by
    have h' : (ops[i]?).bind (·.dst) = some t := h
    cases hq : ops[i]? with
    | none => rw [hq] at h'; cases h'
    | some o' => rw [hq] at h'; exact ⟨o', rfl, h'⟩
  have hWi : ∀ i b, b ∈ (fs.getD i ⟨[], []⟩).wr → i < n := fun i b hb => by
    by_cases hi : i < n
    · exact hi
    · simp [List.getD, List.getElem?_eq_none (show fs.length ≤ i by omega)] at hb
  have ind1 : ∀ {o1 o2 : Oper} {f1 f2 : Fp}, indep ops.toList o1 o2 f1 f2 = true → apart o1.dst.toList (slotsR ops.toList o2 ++ o2.dst.toList) = true ∧ apart o2.dst.toList (slotsR ops.toList o1) = true ∧ apart f1.wr (f2.rd ++ f2.wr) = true ∧ apart f2.wr f1.rd = true := fun h => by
    simp only [indep, Bool.and_eq_true] at h
    exact ⟨h.1.1.1, h.1.1.2, h.1.2, h.2⟩
  have notT : ∀ {x : Bool}, x ≠ true → x = false := fun {x} h => by cases x <;> simp_all
  have rslot : ∀ t, t ∈ slotsR ops.toList o → T.get t = (S j).get t := fun t ht => by
    rw [hM.e t]
    have h1 : lastE S D L t n = lastE S D L t j := lastE_upto (Nat.le_of_lt hjn) fun i h1 h2 h3 h4 => by
      obtain ⟨o', ho', hd'⟩ := hDi i t h4
      have hij : j < i := by
        rcases Nat.lt_or_ge j i with h | h
        · exact h
        · rw [show i = j by omega, hj] at h3; cases h3
      have := (ind1 (late i hij h2 h3 o' ho')).2.1
      exact apart_not this (x := t) (by simp [hd']) ht
    refine h1.trans (lastE_all (hkeepE t) fun i hi hd => early i hi fun o' ho' => notT fun h => ?_)
    obtain ⟨o2, ho2, hd2⟩ := hDi i t hd
    rw [ho'] at ho2; simp at ho2; subst ho2
    exact apart_not (ind1 h).1 (x := t) (by simp [hd2]) (by simp [ht])
  have rblk : ∀ b, b ∈ f.rd → T.heap.getD b .dead = (S j).heap.getD b .dead := fun b hb => by
    rw [hM.h b]
    have h1 : lastH S (fun i => (fs.getD i ⟨[], []⟩).wr) L b n = lastH S (fun i => (fs.getD i ⟨[], []⟩).wr) L b j := lastH_upto (Nat.le_of_lt hjn) fun i h1 h2 h3 h4 => by
      have hij : j < i := by
        rcases Nat.lt_or_ge j i with h | h
        · exact h
        · rw [show i = j by omega, hj] at h3; cases h3
      exact apart_not (ind1 (late i hij h2 h3 _ (hoi i h2))).2.2.2 (x := b) h4 hb
    refine h1.trans (lastH_all (hkeepH b) fun i hi hd => early i hi fun o' ho' => notT fun h => ?_)
    exact apart_not (ind1 h).2.2.1 (x := b) hd (by simp [hb])
  have lateE : ∀ t, D j = some t → j < n → ∀ i, j < i → i < n → L i = true → D i ≠ some t := fun t hd _ i h1 h2 h3 h4 => by
    obtain ⟨o', ho', hd'⟩ := hDi i t h4
    rw [hDj] at hd
    exact apart_not (ind1 (late i h1 h2 h3 o' ho')).1 (x := t) (by simp [hd]) (by simp [hd'])
  have lateH : ∀ b, b ∈ f.wr → j < n → ∀ i, j < i → i < n → L i = true → b ∉ (fs.getD i ⟨[], []⟩).wr := fun b hb _ i h1 h2 h3 h4 =>
    apart_not (ind1 (late i h1 h2 h3 _ (hoi i h2))).2.2.1 (x := b) hb (List.mem_append.2 (.inr h4))
  have envTo : ∀ (T' : St), (∀ t, T'.get t = if o.dst = some t then (S (j + 1)).get t else T.get t) → ∀ t, T'.get t = lastE S D L' t n := fun T' h t => by
    rw [h t, lastE_more hL' (lateE t)]
    by_cases hd : o.dst = some t
    · rw [if_pos hd, if_pos ⟨by rw [hDj]; exact hd, hjn⟩]
    · rw [if_neg hd, if_neg (fun q => hd (by rw [← hDj]; exact q.1)), hM.e t]
  have heapTo : ∀ (T' : St), (∀ b, T'.heap.getD b .dead = if b ∈ f.wr then (S (j + 1)).heap.getD b .dead else T.heap.getD b .dead) → ∀ b, T'.heap.getD b .dead = lastH S (fun i => (fs.getD i ⟨[], []⟩).wr) L' b n := fun T' h b => by
    rw [h b, lastH_more hL' (lateH b)]
    by_cases hd : b ∈ f.wr
    · rw [if_pos hd, if_pos ⟨hd, hjn⟩]
    · rw [if_neg hd, if_neg (fun q => hd q.1), hM.h b]
  have liveTo : ∀ (β' : Gh), (∀ b, β'.l b → β.l b ∨ ((S j).heap.length ≤ b ∧ b < (S (j + 1)).heap.length)) → ∀ b, β'.l b → b < (S 0).heap.length ∨ ∃ i, i < n ∧ L' i = true ∧ (S i).heap.length ≤ b ∧ b < (S (i + 1)).heap.length := fun β' h b hb => by
    rcases h b hb with h1 | h1
    · rcases hM.live b h1 with h2 | ⟨i, h2, h3, h4⟩
      · exact .inl h2
      · exact .inr ⟨i, h2, (hL' i).2 (.inl h3), h4⟩
    · exact .inr ⟨j, hjn, (hL' j).2 (.inr rfl), h1⟩
  unfold wpOp
  simp only [ho]
  have guardSlot : ∀ k want d, o.guard = some (k, want) → (ops.toList[k]?).bind (·.dst) = some d → T.get d = (S j).get d := fun k want d hg hd => rslot d (by
    unfold slotsR; rw [hg]; simp only; rw [hd]; simp)
  rcases hstep j o ho with ⟨⟨k, want, d, hg, hd, hs⟩, hf, hs1⟩ | ⟨hw, hdf, m, hm, hcase⟩
  · have hT := guardSlot k want d hg hd
    have hnw : Region.wanted o (yielded ops a.tmps) = false := by
      have hops : ops = ops.toList.toArray := by simp
      rcases hs with hs | ⟨q, hs⟩
      · have := wanted_of hM.rel hg hd (hT.trans hs)
        rw [hops, this]; cases want <;> rfl
      · rw [hops]; exact wanted_not hM.rel hg hd (hT.trans hs)
    rw [hnw, if_neg (by simp)]
    obtain ⟨p1, p2, p3, p4, p5⟩ := put_env T o.dst skipV
    refine hK F β (T.put o.dst skipV) _ _ ⟨skip_put hM.rel o.dst, p1.trans hM.env, by rw [p2]; exact hM.heap, p3.trans hM.gl, p4.trans hM.np, ⟨p5.1.trans hM.df.1, p5.2.trans hM.df.2⟩, envTo _ fun t => ?_, heapTo _ fun b => ?_, liveTo β fun b hb => .inl hb⟩
    · by_cases hdt : o.dst = some t
      · rw [if_pos hdt, hs1]; exact put_same (hM.env.trans (hsame j).1.symm) hdt
      · rw [if_neg hdt]; exact put_get_ne T hdt _
    · rw [p2]
      have : f.wr = [] := by show (fs.getD j ⟨[], []⟩).wr = []; rw [hf]
      rw [this, if_neg (by simp)]
  · have hyw : Region.wanted o (yielded ops a.tmps) = true := by
      have hops : ops = ops.toList.toArray := by simp
      rcases hw with hw | ⟨k, want, d, hg, hd, hs⟩
      · simp [Region.wanted, hw]
      · have := wanted_of hM.rel hg hd ((guardSlot k want d hg hd).trans hs)
        rw [hops, this]; cases want <;> rfl
    rw [hyw, if_pos rfl]
    left
    have hrd : f.rd = looks (S j) o := by
      show (fs.getD j ⟨[], []⟩).rd = _
      rcases hcase with ⟨_, _, hf, _⟩ | ⟨_, hf, _⟩ <;> rw [hf]
    have hqN : (S j).heap.length ≤ T.heap.length := by rw [hM.heap]; exact hmonoL j n (Nat.le_of_lt hjn)
    have hmask : T.mask (S j).heap.length (tmpsOf o) (looks (S j) o) = (S j).mask (S j).heap.length (tmpsOf o) (looks (S j) o) :=
      mask_eq (hM.env.trans (hsame j).1.symm) (hM.gl.trans (hsame j).2.1.symm) (hM.df.1.trans (hsame j).2.2.2.1.symm) (hM.df.2.trans (hsame j).2.2.2.2.symm) hqN (Nat.le_refl _) (fun t ht => rslot t (by unfold slotsR; simp [ht])) (fun b hb _ => rblk b (by rw [hrd]; exact hb))
    have hmini := hM.rel.mask hqN (tmpsOf o) (looks (S j) o)
    rw [← hmask] at hm
    have hgl' : (T.mask (S j).heap.length (tmpsOf o) (looks (S j) o)).gl = GL := hM.gl.trans hgl0
    have hput : ∀ (T' : St) (x : AV), (∀ t, T'.get t = (T.put o.dst x).get t) → (S (j + 1)).get = ((S j).put o.dst x).get → ∀ t, T'.get t = if o.dst = some t then (S (j + 1)).get t else T.get t := fun T' x h1 h2 t => by
      rw [h1 t, h2]
      by_cases hdt : o.dst = some t
      · rw [if_pos hdt]; exact put_same (hM.env.trans (hsame j).1.symm) hdt
      · rw [if_neg hdt]; exact put_get_ne T hdt _
    rcases hcase with ⟨hwr, hlen, hf, hs1⟩ | ⟨hwr, hf, hs1⟩
    · -- it writes
      refine evOp_sound hG hmini hgl' hm fun s' a' w' F' β' hR hA hput' hs' => ?_
      cases hs'
      obtain ⟨u, rfl⟩ := hput' hdf
      have hm1 : (S (j + 1)).heap.length = m.heap.length := by rw [hs1]; exact (mergeH_get (looks (S j) o) 0 (S j).heap m.heap hlen).1
      have hmN : m.heap.length ≤ T.heap.length := by rw [hM.heap, ← hm1]; exact hmonoL (j + 1) n hjn
      have hnp : m.np = (S j).heap.length := hA.2.1
      let In : Nat → Bool := fun b => decide ((b ∈ looks (S j) o ∧ b < (S j).heap.length) ∨ ((S j).heap.length ≤ b ∧ b < m.heap.length))
      let hp : List Blk := (List.range T.heap.length).map fun b => if In b then m.heap.getD b .dead else T.heap.getD b .dead
      have hpg : ∀ b, hp.getD b .dead = if In b then m.heap.getD b .dead else T.heap.getD b .dead := fun b => by
        by_cases hb : b < T.heap.length
        · simp [hp, List.getD, hb]
        · have h1 : hp.getD b .dead = .dead := by simp [hp, List.getD, hb]
          have h2 : T.heap.getD b .dead = .dead := by simp [List.getD, List.getElem?_eq_none (Nat.le_of_not_lt hb)]
          have h3 : m.heap.getD b .dead = .dead := by simp [List.getD, List.getElem?_eq_none (show m.heap.length ≤ b by omega)]
          rw [h1, h2, h3]; simp
      obtain ⟨F2, β2, hR2, hl2⟩ := hM.rel.merge (ids := looks (S j) o) (by rw [hM.np]; exact Nat.le_trans hnp0 (hmonoL 0 j (Nat.zero_le _))) hR hnp hlen hmN (fun b h1 h2 hb => by
          rcases hM.live b hb with h3 | ⟨i, h3, h4, h5, h6⟩
          · have := hmonoL 0 j (Nat.zero_le _); omega
          · rcases Nat.lt_trichotomy i j with h7 | h7 | h7
            · have := hmonoL (i + 1) j h7; omega
            · rw [h7, hj] at h4; cases h4
            · have := hmonoL (j + 1) i h7; omega) (hp := hp) (by simp [hp]) (fun b hb => by
          rw [hpg b, if_pos (by simpa [In] using hb)]) (fun b hb => by
          rw [hpg b, if_neg (by simpa [In] using hb)])
      obtain ⟨p1, p2, p3, p4, p5⟩ := put_env T o.dst (m.get (o.dst.getD 0))
      have hwrm : f.wr = looks (S j) o ++ news (S j).heap.length m.heap.length := by show (fs.getD j ⟨[], []⟩).wr = _; rw [hf]
      refine hK F2 β2 _ _ _ ⟨hR2, p1.trans hM.env, by simp [hp, hM.heap], p3.trans hM.gl, p4.trans hM.np, ⟨p5.1.trans hM.df.1, p5.2.trans hM.df.2⟩, envTo _ (hput _ (m.get (o.dst.getD 0)) (fun t => rfl) (by rw [hs1]; rfl)), heapTo _ fun b => ?_, liveTo β2 fun b hb => ?_⟩
      · show hp.getD b .dead = _
        rw [hpg b]
        have hmg := (mergeH_get (looks (S j) o) 0 (S j).heap m.heap hlen).2 b
        rw [Nat.zero_add] at hmg
        have hs1h : (S (j + 1)).heap.getD b .dead = (mergeH (looks (S j) o) 0 (S j).heap m.heap).getD b .dead := by rw [hs1]
        by_cases hbw : b ∈ f.wr
        · rw [if_pos hbw, hs1h, hmg]
          rw [hwrm, List.mem_append, news_mem] at hbw
          have hnot : ¬ (b < (S j).heap.length ∧ ¬ b ∈ looks (S j) o) := by
            rintro ⟨h1, h2⟩
            rcases hbw with h3 | h3
            · exact h2 h3
            · omega
          rw [if_neg hnot]
          by_cases hin : In b = true
          · rw [if_pos hin]
          · rw [if_neg hin]
            have hin' : ¬ ((b ∈ looks (S j) o ∧ b < (S j).heap.length) ∨ ((S j).heap.length ≤ b ∧ b < m.heap.length)) := by simpa [In] using hin
            have hlk : b ∈ looks (S j) o := by
              rcases hbw with h3 | h3
              · exact h3
              · exact absurd (.inr h3) hin'
            have hge : (S j).heap.length ≤ b := by
              rcases Nat.lt_or_ge b (S j).heap.length with h | h
              · exact absurd (.inl ⟨hlk, h⟩) hin'
              · exact h
            have hge2 : m.heap.length ≤ b := by
              rcases Nat.lt_or_ge b m.heap.length with h | h
              · exact absurd (.inr ⟨hge, h⟩) hin'
              · exact h
            rw [rblk b (by rw [hrd]; exact hlk)]
            simp [List.getD, List.getElem?_eq_none hge, List.getElem?_eq_none hge2]
        · rw [if_neg hbw]
          rw [hwrm, List.mem_append, news_mem] at hbw
          have hin : ¬ In b = true := by
            simp only [In, decide_eq_true_eq]
            rintro (h1 | h1)
            · exact hbw (.inl h1.1)
            · exact hbw (.inr h1)
          rw [if_neg hin]
      · rcases hl2 b hb with h1 | h1
        · exact .inl h1
        · rw [hm1]; exact .inr h1
    · -- it writes nothing
      have hwr' : writes (T.mask (S j).heap.length (tmpsOf o) (looks (S j) o)) o = false := by
        cases hq : writes (T.mask (S j).heap.length (tmpsOf o) (looks (S j) o)) o with
        | false => rfl
        | true => rw [hmask] at hq; rw [writes_mask hq] at hwr; cases hwr
      rw [evOp_quiet P G hwr' hdf] at hm
      obtain ⟨x, ⟨y, hy, hrun⟩, hmx⟩ := evT_sound hmini hm
      simp at hmx
      refine wp_value hrun ?_
      have hyy : V F w β x y := hy.mono (sub_ext (fun _ h => h) w) (show (β.mask (S j).heap.length (looks (S j) o)).Le β from fun b hb => ⟨hb.1, rfl, rfl⟩)
      obtain ⟨p1, p2, p3, p4, p5⟩ := put_env T o.dst x
      refine hK F β (T.put o.dst x) _ _ ⟨hM.rel.put o.dst hyy, p1.trans hM.env, by rw [p2]; exact hM.heap, p3.trans hM.gl, p4.trans hM.np, ⟨p5.1.trans hM.df.1, p5.2.trans hM.df.2⟩, envTo _ fun t => ?_, heapTo _ fun b => ?_, liveTo β fun b hb => .inl hb⟩
      · by_cases hdt : o.dst = some t
        · rw [if_pos hdt, hs1]
          have hmg : m.get (o.dst.getD 0) = if t < T.env.length then x else .undef := by
            rw [← hmx, hdt]
            show ((T.mask _ _ _).put (some t) x).get t = _
            rw [put_get_eq]
            have hl : (T.mask (S j).heap.length (tmpsOf o) (looks (S j) o)).env.length = T.env.length := (maskE_get _ _ 0 _).1
            rw [hl]
            split
            · rfl
            · rename_i h; exact get_out (by rw [hl]; omega)
          have he := hM.env.trans (hsame j).1.symm
          by_cases hlt : t < T.env.length
          · have : m.get (o.dst.getD 0) = x := by rw [hmg, if_pos hlt]
            rw [this]; exact put_same he hdt
          · rw [get_out (by rw [p1]; omega), get_out (by rw [(put_env (S j) o.dst _).1]; omega)]
        · rw [if_neg hdt]; exact put_get_ne T hdt _
      · rw [p2]
        have : f.wr = [] := by show (fs.getD j ⟨[], []⟩).wr = []; rw [hf]
        rw [this, if_neg (by simp)]
end
end Go.Proofs.YtgfifnadfmaolaaGreatDoor
