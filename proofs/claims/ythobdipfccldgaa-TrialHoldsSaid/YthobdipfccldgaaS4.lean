/- The soundness of the abstract evaluator, part 4: operations that write or make memory; regions. -/
import Derived.Test.YthobdipfccldgaaS3
import Derived.Laws.CopyRow
import Derived.Maps.AppendAt
namespace Go.Proofs.Ythobdipfccldgaa
open Go.RowKit
set_option linter.unusedVariables false
set_option linter.unusedSimpArgs false
section
variable {P : Program} {GL : List AV} {G : Gam} {w0 : World} {F0 F : Nat → Prop} {β : Gh} {st : St} {a : Act} {w : World} {m : Nat}
theorem ph_eq {β β' : Gh} {b : Nat} (h : β'.b b = β.b b ∧ β'.v b = β.v b) (k : Blk) : ph β' b k = ph β b k := by cases k <;> simp [ph, h.1, h.2]
/-- One own block made or turned. -/
theorem Rel.step (h : Rel w0 F0 F β st a w) (n : Nat) {hp : List Blk} {β' : Gh} {F' : Nat → Prop} {w' : World} (hE : Ext F F' w w') (hm : st.heap.length ≤ hp.length)
    (hβ : ∀ b, b < st.heap.length → β'.b b = β.b b ∧ β'.v b = β.v b) (hbel : Below w0.heap.size w0 w') (hfb : ∀ b, F' b → b < w'.heap.size) (hfo : ∀ b, F' b → F0 b ∨ w0.heap.size ≤ b)
    (hold : ∀ b k, b ≠ n → hp[b]? = some k → st.heap[b]? = some k)
    (hkeep : ∀ b k p, b ≠ n → st.heap[b]? = some k → ph β b k = some p → w'.heap[p]? = w.heap[p]? ∧ ¬ F' p)
    (hnew : ∀ k, hp[n]? = some k → BlkOk w0.heap.size F' w' β' hp.length n k ∧ ∀ p, ph β' n k = some p → w0.heap.size ≤ p ∧ p < w'.heap.size ∧ ¬ F' p ∧ ∀ c kc, c ≠ n → st.heap[c]? = some kc → ph β c kc ≠ some p) :
    Rel w0 F0 F' β' { st with heap := hp } a w' := by
  have hlt : ∀ {b k}, st.heap[b]? = some k → b < st.heap.length := fun hb => (List.getElem?_eq_some_iff.1 hb).1
  refine ⟨h.len, fun t => (h.env t).mono hE hm hβ, fun g => (h.gl g).mono hE (Nat.le_refl _) (fun b hb => absurd hb (Nat.not_lt_zero _)), h.defers, hbel, hfb, hfo, fun b k hb => ?_, fun b k p hb hp' => ?_, fun b c kb kc p hb hc hpb hpc => ?_, fun b k p hb hp' => ?_⟩
  · by_cases hbn : b = n
    · subst hbn; exact (hnew k hb).1
    · have hb' := hold b k hbn hb
      exact (h.blk b k hb').mono hE hm hβ (hlt hb') (fun p hp' _ => (hkeep b k p hbn hb' hp').1)
  · by_cases hbn : b = n
    · subst hbn; obtain ⟨h1, h2, _⟩ := (hnew k hb).2 p hp'; exact ⟨h1, h2⟩
    · have hb' := hold b k hbn hb
      rw [ph_eq (hβ b (hlt hb'))] at hp'
      obtain ⟨h1, h2⟩ := h.lo b k p hb' hp'
      exact ⟨h1, Nat.lt_of_lt_of_le h2 hE.size⟩
  · by_cases hbn : b = n <;> by_cases hcn : c = n
    · omega
    · subst hbn
      have hc' := hold c kc hcn hc
      rw [ph_eq (hβ c (hlt hc'))] at hpc
      exact absurd hpc (((hnew kb hb).2 p hpb).2.2.2 c kc hcn hc')
    · subst hcn
      have hb' := hold b kb hbn hb
      rw [ph_eq (hβ b (hlt hb'))] at hpb
      exact absurd hpb (((hnew kc hc).2 p hpc).2.2.2 b kb hbn hb')
    · have hb' := hold b kb hbn hb
      have hc' := hold c kc hcn hc
      rw [ph_eq (hβ b (hlt hb'))] at hpb
      rw [ph_eq (hβ c (hlt hc'))] at hpc
      exact h.inj b c kb kc p hb' hc' hpb hpc
  · by_cases hbn : b = n
    · subst hbn; exact ((hnew k hb).2 p hp').2.2.1
    · have hb' := hold b k hbn hb
      rw [ph_eq (hβ b (hlt hb'))] at hp'
      exact (hkeep b k p hbn hb' hp').2
theorem heap_get_push {hp : List Blk} {k k' : Blk} {b : Nat} (hb : b ≠ hp.length) (h : (hp ++ [k])[b]? = some k') : hp[b]? = some k' := by
  by_cases hlt : b < hp.length
  · rwa [List.getElem?_append_left hlt] at h
  · have := (List.getElem?_eq_some_iff.1 h).1
    simp at this; omega
theorem heap_get_new {hp : List Blk} {k k' : Blk} (h : (hp ++ [k])[hp.length]? = some k') : k' = k := by simpa using h.symm
theorem heap_get_set {hp : List Blk} {k k' : Blk} {b n : Nat} (hb : b ≠ n) (h : (hp.set n k)[b]? = some k') : hp[b]? = some k' := by rwa [List.getElem?_set, if_neg (fun e => hb e.symm)] at h
theorem heap_get_set_same {hp : List Blk} {k k' : Blk} {n : Nat} (h : (hp.set n k)[n]? = some k') : k' = k := by
  rw [List.getElem?_set, if_pos rfl] at h
  split at h <;> simp_all
/-- A new box. -/
theorem Rel.alloc (h : Rel w0 F0 F β st a w) {cs : List AV} {ys : Array Value} (T : TypeId) (hl : ys.size = cs.length) (hc : ∀ j, j < cs.length → V1 F w β st.heap.length (cs.getD j .undef) (ys.getD j undef)) :
    ∃ β' : Gh, β'.b st.heap.length = w.heap.size ∧ Rel w0 F0 F β' { st with heap := st.heap ++ [.cells cs] } a (w.alloc (.cells ys T)) := by
  have hE : Ext F F w (w.alloc (.cells ys T)) := ⟨by simp, fun b hF hb => ⟨hF, Below.heap_alloc _ _ _ hb⟩⟩
  let β' : Gh := ⟨fun b => if b = st.heap.length then w.heap.size else β.b b, β.v⟩
  have hβ : ∀ b, b < st.heap.length → β'.b b = β.b b ∧ β'.v b = β.v b := fun b hb => ⟨by show (if b = st.heap.length then _ else _) = _; rw [if_neg (by omega)], rfl⟩
  have hn : β'.b st.heap.length = w.heap.size := by show (if _ then _ else _) = _; rw [if_pos rfl]
  have hm : st.heap.length ≤ (st.heap ++ [Blk.cells cs]).length := by simp
  refine ⟨β', hn, h.step st.heap.length hE hm hβ (h.below.alloc h.below.size _) (fun b hF => by have := h.fb b hF; simp; omega) h.fo (fun b k hb hk => heap_get_push hb hk)
    (fun b k p hb hk hp => ⟨Below.heap_alloc _ _ _ (h.lo b k p hk hp).2, h.sep b k p hk hp⟩) (fun k hk => ?_)⟩
  obtain rfl := heap_get_new hk
  refine ⟨⟨ys, T, by rw [hn]; exact heap_alloc_new w _, hl, fun j hj => (hc j hj).mono hE hm hβ⟩, fun p hp => ?_⟩
  have : p = w.heap.size := by simp only [ph, hn, Option.some.injEq] at hp; exact hp.symm
  subst this
  refine ⟨h.below.size, by simp, fun hF => by have := h.fb _ hF; omega, fun c kc _ hc' hpc => by have := (h.lo c kc _ hc' hpc).2; omega⟩
theorem upd_getD {l vs : List Value} {o : Nat} (h : o + vs.length ≤ l.length) (k : Nat) (d : Value) : (l.take o ++ vs ++ l.drop (o + vs.length)).getD k d = if o ≤ k ∧ k < o + vs.length then vs.getD (k - o) d else l.getD k d := by
  simp only [List.getD]
  by_cases hr : o ≤ k ∧ k < o + vs.length
  · rw [if_pos hr, List.append_assoc, List.getElem?_append_right (by simp; omega), List.getElem?_append_left (by simp; omega)]
    congr 2
    simp; omega
  · rw [if_neg hr]
    congr 1
    by_cases hjo : k < o
    · rw [List.append_assoc, List.getElem?_append_left (by simp; omega), List.getElem?_take, if_pos hjo]
    · rw [List.getElem?_append_right (by simp; omega), List.getElem?_drop]
      simp only [List.length_append, List.length_take]
      congr 1; omega
/-- A box written. -/
theorem Rel.store (h : Rel w0 F0 F β st a w) {b off : Nat} {cs xs cs' : List AV} {vs : List Value} (hb : st.heap[b]? = some (.cells cs)) (hw : wr cs off xs = some cs') (hne : xs ≠ []) (hl : vs.length = xs.length)
    (hc : ∀ j, j < xs.length → V1 F w β st.heap.length (xs.getD j .undef) (vs.getD j undef)) (h1 : ∀ v ∈ vs, v.oneCell' = true) (P : Program) :
    ∃ w', (storeCells ⟨β.b b, off, none⟩ vs).run P w = .ok () w' ∧ Rel w0 F0 F β { st with heap := st.heap.set b (.cells cs') } a w' := by
  have hlt : b < st.heap.length := (List.getElem?_eq_some_iff.1 hb).1
  obtain ⟨ys, T, g1, g2, g3⟩ := h.blk b _ hb
  obtain ⟨k1, k2, k3⟩ := wr_spec hw
  have k2 : off + xs.length ≤ cs.length := by rcases k2 with k2 | k2; exact absurd k2 hne; exact k2
  have hrun := run_storeCells_at P (β.b b) off T vs 0 ys w g1 (by omega) h1
  simp only [Nat.add_zero] at hrun
  refine ⟨_, hrun, ?_⟩
  generalize hw' : w.setRow (β.b b) _ = w'
  have hbk : ∀ k, k ≠ β.b b → w'.heap[k]? = w.heap[k]? := fun k hk => by rw [← hw']; exact setRow_other w _ k _ hk
  have hsz : w'.heap.size = w.heap.size := by rw [← hw']; simp
  have hpb : ph β b (.cells cs) = some (β.b b) := rfl
  have hE : Ext F F w w' := ⟨by omega, fun k hF hk => ⟨hF, hbk k (fun e => h.sep b _ _ hb hpb (e ▸ hF))⟩⟩
  have hrow : w'.heap[β.b b]? = some (.cells (ys.toList.take off ++ vs ++ ys.toList.drop (off + vs.length)).toArray T (0, 0)) := by rw [← hw']; exact setRow_heap w _ ys _ T _ g1
  have hlen : (st.heap.set b (Blk.cells cs')).length = st.heap.length := by simp
  have hβ : ∀ m c, c < m → β.b c = β.b c ∧ β.v c = β.v c := fun _ _ _ => ⟨rfl, rfl⟩
  have hbel : Below w0.heap.size w0 w' := by
    refine h.below.trans ⟨?_, ?_, ?_, by omega, fun k hk => hbk k (fun e => by have := (h.lo b _ _ hb hpb).1; omega)⟩ <;> rw [← hw'] <;> rfl
  refine h.step b hE (by rw [hlen]; exact Nat.le_refl _) (hβ _) hbel (fun b hF => by rw [hsz]; exact h.fb b hF) h.fo (fun c k hc' hk => heap_get_set hc' hk)
    (fun c k p hcb hk hp => ⟨hbk p (fun e => hcb (h.inj c b k _ _ hk hb hp (by rw [hpb, e]))), h.sep c k p hk hp⟩) (fun k hk => ?_)
  obtain rfl := heap_get_set_same hk
  refine ⟨⟨_, T, hrow, by simp; omega, fun j hj => ?_⟩, fun p hp => ?_⟩
  · have hv : V1 F w β st.heap.length (cs'.getD j .undef) ((ys.toList.take off ++ vs ++ ys.toList.drop (off + vs.length)).toArray.getD j undef) := by
      rw [k3 j, Array.getD_eq_getD_getElem?, List.getElem?_toArray, ← List.getD_eq_getElem?_getD, upd_getD (by simp; omega)]
      by_cases hr : off ≤ j ∧ j < off + xs.length
      · rw [if_pos hr, if_pos (by omega)]
        exact hc (j - off) (by omega)
      · rw [if_neg hr, if_neg (by omega)]
        have := g3 j (by omega)
        have e : ys.toList.getD j undef = ys.getD j undef := by rw [List.getD_eq_getElem?_getD, Array.getElem?_toList, Array.getD_eq_getD_getElem?]
        rw [e]
        exact this
    exact hv.mono hE (by rw [hlen]; exact Nat.le_refl _) (hβ _)
  · have : p = β.b b := by simp only [ph, Option.some.injEq] at hp; exact hp.symm
    subst this
    obtain ⟨q1, q2⟩ := h.lo b _ _ hb hpb
    exact ⟨q1, by omega, h.sep b _ _ hb hpb, fun c kc hcb hk hp' => hcb (h.inj c b kc _ _ hk hb hp' hpb)⟩
/-- A block that is looked at no more. -/
theorem Rel.kill (h : Rel w0 F0 F β st a w) (b : Nat) : Rel w0 F0 F β { st with heap := st.heap.set b .dead } a w := by
  refine h.step b ⟨Nat.le_refl _, fun k hF _ => ⟨hF, rfl⟩⟩ (by simp) (fun _ _ => ⟨rfl, rfl⟩) h.below h.fb h.fo (fun c k hc' hk => heap_get_set hc' hk) (fun c k p _ hk hp => ⟨rfl, h.sep c k p hk hp⟩) (fun k hk => ?_)
  obtain rfl := heap_get_set_same hk
  exact ⟨trivial, fun p hp => by simp [ph] at hp⟩
/-- A wider F: blocks that no own block lies in. -/
theorem Rel.wider (h : Rel w0 F0 F β st a w) {F' : Nat → Prop} (hs : ∀ k, F k → F' k) (hfb : ∀ b, F' b → b < w.heap.size) (hfo : ∀ b, F' b → F0 b ∨ w0.heap.size ≤ b) (hsep : ∀ b k p, st.heap[b]? = some k → ph β b k = some p → ¬ F' p) : Rel w0 F0 F' β st a w :=
  h.step st.heap.length (hp := st.heap) ⟨Nat.le_refl _, fun k hF _ => ⟨hs k hF, rfl⟩⟩ (Nat.le_refl _) (fun _ _ => ⟨rfl, rfl⟩) h.below hfb hfo (fun c k _ hk => hk) (fun c k p _ hk hp => ⟨rfl, hsep c k p hk hp⟩) (fun k hk => by simp at hk)
/-- What a called function has made is at hand. -/
theorem Rel.called (h : Rel w0 F0 F β st a w) {w' : World} (hb : Below w.heap.size w w') : Rel w0 F0 (fun b => F b ∨ (w.heap.size ≤ b ∧ b < w'.heap.size)) β st a w' := by
  refine (h.later hb).wider (fun k hk => .inl hk) (fun b hF => ?_) (fun b hF => ?_) (fun b k p hk hp hF => ?_)
  · rcases hF with hF | hF
    · exact (h.later hb).fb b hF
    · exact hF.2
  · rcases hF with hF | hF
    · exact h.fo b hF
    · right; have := h.below.size; omega
  · rcases hF with hF | hF
    · exact h.sep b k p hk hp hF
    · have := (h.lo b k p hk hp).2; omega
theorem Rel.called' (h : Rel w0 F0 F β st a w) {w' : World} (hb : Below w.heap.size w w') {F' : Nat → Prop} (h1 : ∀ b, F b → F' b) (h2 : ∀ b, F' b → F b ∨ (w.heap.size ≤ b ∧ b < w'.heap.size)) : Rel w0 F0 F' β st a w' := by
  have hc := h.called hb
  refine (h.later hb).wider h1 (fun b hF => hc.fb b (h2 b hF)) (fun b hF => hc.fo b (h2 b hF)) (fun b k p hk hp hF => hc.sep b k p hk hp (h2 p hF))
/-! ### Own rows handed on -/
structure Frz (w0 : World) (F0 F : Nat → Prop) (β : Gh) (st : St) (a : Act) (w : World) (F1 : Nat → Prop) (st1 : St) : Prop where
  rel : Rel w0 F0 F1 β st1 a w
  sub : ∀ k, F k → F1 k
  len : st1.heap.length = st.heap.length
  gl : st1.gl = st.gl
  arr : ∀ (b : Nat) (e : TypeId) (t : Ty) (xs : List t.T), st1.heap[b]? = some (Blk.arr e t xs) → st.heap[b]? = some (Blk.arr e t xs)
  sup : ∀ k, F1 k → F k ∨ ∃ c kc, st.heap[c]? = some kc ∧ ph β c kc = some k
  blk : ∀ c kc p, st1.heap[c]? = some kc → ph β c kc = some p → ∃ kc0, st.heap[c]? = some kc0 ∧ ph β c kc0 = some p
theorem Frz.refl (h : Rel w0 F0 F β st a w) : Frz w0 F0 F β st a w F st := ⟨h, fun _ hk => hk, rfl, rfl, fun _ _ _ _ hb => hb, fun k hk => .inl hk, fun c kc p h1 h2 => ⟨kc, h1, h2⟩⟩
theorem Frz.trans {F1 F2 : Nat → Prop} {st1 st2 : St} (h : Frz w0 F0 F β st a w F1 st1) (h' : Frz w0 F0 F1 β st1 a w F2 st2) : Frz w0 F0 F β st a w F2 st2 :=
  ⟨h'.rel, fun k hk => h'.sub k (h.sub k hk), h'.len.trans h.len, h'.gl.trans h.gl, fun b e t xs hb => h.arr b e t xs (h'.arr b e t xs hb),
  fun k hk => by
    rcases h'.sup k hk with hk | ⟨c, kc, h1, h2⟩
    · exact h.sup k hk
    · obtain ⟨kc0, h3, h4⟩ := h.blk c kc k h1 h2
      exact .inr ⟨c, kc0, h3, h4⟩,
  fun c kc p h1 h2 => by
    obtain ⟨k1, h3, h4⟩ := h'.blk c kc p h1 h2
    exact h.blk c k1 p h3 h4⟩
theorem sub_ext {F F1 : Nat → Prop} (hs : ∀ k, F k → F1 k) (w : World) : Ext F F1 w w := ⟨Nat.le_refl _, fun k hF _ => ⟨hs k hF, rfl⟩⟩
theorem frz1_sound (h : Rel w0 F0 F β st a w) {x y : AV} {st1 : St} (hs : st.frz1 x = some (y, st1)) : ∃ F1, Frz w0 F0 F β st a w F1 st1 ∧ ∀ m v, V F w β m x v → D F1 w y v := by
  unfold St.frz1 at hs
  split at hs
  · simp at hs; obtain ⟨rfl, rfl⟩ := hs
    exact ⟨F, .refl h, fun m v hv => by rw [V_v hv]; exact .v _⟩
  · simp at hs; obtain ⟨rfl, rfl⟩ := hs
    exact ⟨F, .refl h, fun m v hv => V_sl hv⟩
  · rename_i b
    split at hs
    · rename_i e t xs hb
      simp at hs; obtain ⟨rfl, rfl⟩ := hs
      have hsub : ∀ k, F k → Fo F (β.v b) k := fun k hk => .inl hk
      have hd : D (Fo F (β.v b)) w (.sl t xs) (β.v b) := arr_D (h.blk b _ hb) hsub (fun k hk => .inr hk)
      have hph : ∀ {p}, (β.v b).ownBlock = some p → ph β b (.arr e t xs) = some p := fun hp => hp
      refine ⟨Fo F (β.v b), ⟨?_, hsub, by simp, rfl, fun c e' t' xs' hc => ?_, fun k hk => ?_, fun c kc p h1 h2 => ?_⟩, fun m v hv => ?_⟩
      · refine h.step b (sub_ext hsub w) (by simp) (fun _ _ => ⟨rfl, rfl⟩) h.below (fun k hk => ?_) (fun k hk => ?_) (fun c k hc' hk => heap_get_set hc' hk) (fun c k p hcb hk hp => ⟨rfl, fun hF => ?_⟩) (fun k hk => ?_)
        · rcases hk with hk | hk
          · exact h.fb k hk
          · exact (h.lo b _ k hb (hph hk)).2
        · rcases hk with hk | hk
          · exact h.fo k hk
          · exact .inr (h.lo b _ k hb (hph hk)).1
        · rcases hF with hF | hF
          · exact h.sep c k p hk hp hF
          · exact hcb (h.inj c b k _ p hk hb hp (hph hF))
        · obtain rfl := heap_get_set_same hk
          exact ⟨hd, fun p hp => by simp [ph] at hp⟩
      · by_cases hcb : c = b
        · subst hcb
          have := heap_get_set_same hc
          cases this
        · exact heap_get_set hcb hc
      · rcases hk with hk | hk
        · exact .inl hk
        · exact .inr ⟨b, _, hb, hph hk⟩
      · by_cases hcb : c = b
        · subst hcb
          have := heap_get_set_same h1
          subst this
          simp [ph] at h2
        · exact ⟨kc, heap_get_set hcb h1, h2⟩
      · obtain ⟨_, rfl, _⟩ := V_own hv
        exact hd
    · rename_i t xs hb
      simp at hs; obtain ⟨rfl, rfl⟩ := hs
      exact ⟨F, .refl h, fun m v hv => by obtain ⟨_, rfl, _⟩ := V_own hv; exact h.blk b _ hb⟩
    · cases hs
  · cases hs
theorem same_β {β : Gh} : ∀ m b, b < m → β.b b = β.b b ∧ β.v b = β.v b := fun _ _ _ => ⟨rfl, rfl⟩
theorem frzs_sound : ∀ {cs cs' : List AV} {F : Nat → Prop} {st st1 : St}, Rel w0 F0 F β st a w → st.frzs cs = some (cs', st1) → ∃ F1, Frz w0 F0 F β st a w F1 st1 ∧ cs'.length = cs.length ∧ ∀ (m : Nat) (Y : Nat → Value), (∀ j, j < cs.length → V1 F w β m (cs.getD j .undef) (Y j)) → ∀ j, j < cs.length → D F1 w (cs'.getD j .undef) (Y j)
  | [], cs', F, st, st1, h, hs => by
    simp [St.frzs] at hs
    obtain ⟨rfl, rfl⟩ := hs
    exact ⟨F, .refl h, rfl, fun _ _ _ j hj => by simp at hj⟩
  | c :: cs, cs', F, st, st2, h, hs => by
    simp only [St.frzs] at hs
    split at hs
    · rename_i y st1 hy
      split at hs
      · rename_i ys st2' hys
        simp at hs; obtain ⟨rfl, rfl⟩ := hs
        obtain ⟨F1, z1, d1⟩ := frz1_sound h hy
        obtain ⟨F2, z2, l2, d2⟩ := frzs_sound z1.rel hys
        refine ⟨F2, z1.trans z2, by simp [l2], fun m Y hY j hj => ?_⟩
        cases j with
        | zero => simpa using (d1 m _ (.of1 (hY 0 (by simp)))).mono (sub_ext z2.sub w)
        | succ j =>
          have := d2 m (fun j => Y (j + 1)) (fun j hj => (by simpa using hY (j + 1) (by simpa using hj) : V1 F w β m (cs.getD j .undef) (Y (j + 1))).mono (sub_ext z1.sub w) (Nat.le_refl _) (same_β m)) j (by simpa using hj)
          simpa using this
      · cases hs
    · cases hs
theorem frz_sound (h : Rel w0 F0 F β st a w) {x y : AV} {st1 : St} (hs : st.frz x = some (y, st1)) : ∃ F1, Frz w0 F0 F β st a w F1 st1 ∧ ∀ m v, V F w β m x v → D F1 w y v := by
  unfold St.frz at hs
  split at hs
  · rename_i cs
    split at hs
    · rename_i ys st1' hy
      simp at hs; obtain ⟨rfl, rfl⟩ := hs
      obtain ⟨F1, z1, l1, d1⟩ := frzs_sound h hy
      refine ⟨F1, z1, fun m v hv => ?_⟩
      obtain ⟨zs, rfl, hl, hc⟩ := V_agg hv
      exact .agg _ _ (by omega) fun j hj => d1 m (fun j => zs.getD j undef) hc j (by omega)
    · cases hs
  · exact frz1_sound h hs
theorem frzArgs_sound : ∀ {l : List AV} {as : List AV} {F : Nat → Prop} {st st1 : St}, Rel w0 F0 F β st a w → st.frzArgs l = some (as, st1) → ∃ F1, Frz w0 F0 F β st a w F1 st1 ∧ as.length = l.length ∧ ∀ (m : Nat) (Y : Nat → Value), (∀ j, j < l.length → V F w β m (l.getD j .undef) (Y j)) → ∀ j, j < l.length → D F1 w (as.getD j .undef) (Y j)
  | [], cs', F, st, st1, h, hs => by
    simp [St.frzArgs] at hs
    obtain ⟨rfl, rfl⟩ := hs
    exact ⟨F, .refl h, rfl, fun _ _ _ j hj => by simp at hj⟩
  | c :: cs, cs', F, st, st2, h, hs => by
    simp only [St.frzArgs] at hs
    split at hs
    · rename_i y st1 hy
      split at hs
      · rename_i ys st2' hys
        simp at hs; obtain ⟨rfl, rfl⟩ := hs
        obtain ⟨F1, z1, d1⟩ := frz_sound h hy
        obtain ⟨F2, z2, l2, d2⟩ := frzArgs_sound z1.rel hys
        refine ⟨F2, z1.trans z2, by simp [l2], fun m Y hY j hj => ?_⟩
        cases j with
        | zero => simpa using (d1 m _ (hY 0 (by simp))).mono (sub_ext z2.sub w)
        | succ j =>
          have := d2 m (fun j => Y (j + 1)) (fun j hj => (by simpa using hY (j + 1) (by simpa using hj) : V F w β m (cs.getD j .undef) (Y (j + 1))).mono (sub_ext z1.sub w) (Nat.le_refl _) (same_β m)) j (by simpa using hj)
          simpa using this
      · cases hs
    · cases hs
theorem zero_info {t : TypeId} {z : List AV} (h : zeroOf P t = some z) : ∃ i zv, P.info? t = some i ∧ i.zero = some zv ∧ z = zv.cells.toList.map .v := by
  unfold zeroOf at h
  split at h
  · rename_i i hi
    split at h
    · rename_i zv hz
      simp at h; exact ⟨i, zv, hi, hz, h.symm⟩
    · cases h
  · cases h
/-! ### Elements and their cells -/
def Fits (F : Nat → Prop) (w : World) (cs ds : List AV) : Prop := ∀ j y, j < cs.length → D F w (cs.getD j .undef) y → D F w (ds.getD j .undef) y
theorem Fits.nil {ds : List AV} : Fits F w [] ds := fun j y hj => by simp at hj
theorem Fits.cons {c d : AV} {cs ds : List AV} (h1 : ∀ y, D F w c y → D F w d y) (h2 : Fits F w cs ds) : Fits F w (c :: cs) (d :: ds) := fun j y hj hd => by
  cases j with
  | zero => exact h1 y hd
  | succ j => exact h2 j y (by simpa using hj) hd
theorem slOf_D {t : Ty} {c : AV} {xs : List t.T} (h : slOf t c = some xs) (y : Value) (hd : D F w c y) : D F w (.sl t xs) y := by
  unfold slOf at h
  split at h
  · rename_i t' ys
    split at h
    · rename_i e _
      subst e
      simp at h; subst h
      exact hd
    · cases h
  · rename_i A n c'
    split at h
    · simp at h; subst h
      cases hd
      exact .sl0 t A c'
    · cases h
  · cases h
theorem dec_fits {t : Ty} {cs : List AV} {x : t.T} (h : t.dec cs = some x) : cs.length = t.sz ∧ Fits F w cs (t.enc x) := by
  cases t
  · simp only [Ty.dec] at h
    split at h
    · split at h
      · cases h
        rename_i e
        subst e
        exact ⟨rfl, Fits.cons (fun y hd => hd) Fits.nil⟩
      · cases h
    · cases h
  · simp only [Ty.dec] at h
    split at h
    · cases h
      exact ⟨rfl, Fits.cons (fun y hd => hd) Fits.nil⟩
    · cases h
  · simp only [Ty.dec] at h
    split at h
    · cases h
      exact ⟨rfl, Fits.cons (fun y hd => hd) Fits.nil⟩
    · cases h
  · simp only [Ty.dec] at h
    split at h
    · exact ⟨rfl, Fits.cons (fun y hd => slOf_D h y hd) Fits.nil⟩
    · cases h
  · simp only [Ty.dec] at h
    split at h
    · cases h
      refine ⟨rfl, ?_⟩
      repeat (first | exact Fits.nil | refine Fits.cons (fun y hd => by first | exact hd | exact slOf_D (by assumption) y hd) ?_)
    · cases h
  · simp only [Ty.dec] at h
    split at h
    · cases h
      refine ⟨rfl, ?_⟩
      repeat (first | exact Fits.nil | refine Fits.cons (fun y hd => by first | exact hd | exact slOf_D (by assumption) y hd) ?_)
    · cases h
  · simp only [Ty.dec] at h
    split at h
    · cases h
      refine ⟨rfl, ?_⟩
      repeat (first | exact Fits.nil | refine Fits.cons (fun y hd => by first | exact hd | exact slOf_D (by assumption) y hd) ?_)
    · cases h
  · simp only [Ty.dec] at h
    split at h
    · cases h
      refine ⟨rfl, ?_⟩
      repeat (first | exact Fits.nil | refine Fits.cons (fun y hd => by first | exact hd | exact slOf_D (by assumption) y hd) ?_)
    · cases h
theorem enc_cells (t : Ty) (x : t.T) : cell1s (t.enc x) = true := by cases t <;> rfl
theorem sz_le (t : Ty) : t.sz ≤ 4096 := by cases t <;> simp [Ty.sz]
theorem enc_one {t : Ty} {x : t.T} {j : Nat} {y : Value} (hj : j < t.sz) (h : D F w ((t.enc x).getD j .undef) y) : y.oneCell' = true :=
  (cell1_one (β := ⟨fun _ => 0, fun _ => undef⟩) (m := 0) (.inl h) (cell1s_all (enc_cells t x) j (by rw [enc_len]; exact hj))).2
theorem decAll_fits {t : Ty} : ∀ {n : Nat} {cs : List AV} {xs : List t.T}, decAll t n cs = some xs → xs.length = n ∧ cs.length = n * t.sz ∧ ∀ i j, i < n → j < t.sz → ∀ y, D F w (cs.getD (i * t.sz + j) .undef) y → D F w ((t.enc (nth xs i)).getD j .undef) y
  | 0, cs, xs, h => by
    cases cs with
    | nil => simp [decAll] at h; subst h; exact ⟨rfl, by simp, fun i j hi => by omega⟩
    | cons => simp [decAll] at h
  | n + 1, cs, xs, h => by
    simp only [decAll] at h
    split at h
    · rename_i x xs' hx hxs
      simp at h; subst h
      obtain ⟨h1, h2, h3⟩ := decAll_fits hxs
      obtain ⟨k1, k2⟩ := dec_fits (F := F) (w := w) hx
      have hsz := sz_pos t
      have hlen : cs.length = (n + 1) * t.sz := by
        simp at k1 h2
        rw [Nat.add_mul, Nat.one_mul]; omega
      refine ⟨by simp [h1], hlen, fun i j hi hj y hd => ?_⟩
      cases i with
      | zero =>
        have := k2 j y (by omega) (by
          have e : (cs.take t.sz).getD j .undef = cs.getD j .undef := by simp [List.getD, List.getElem?_take, hj]
          rw [e]; simpa using hd)
        simpa [nth] using this
      | succ i =>
        have := h3 i j (by omega) hj y (by
          have e : (cs.drop t.sz).getD (i * t.sz + j) .undef = cs.getD ((i + 1) * t.sz + j) .undef := by
            simp only [List.getD, List.getElem?_drop]
            congr 2
            rw [Nat.add_mul]; omega
          rw [e]; exact hd)
        simpa [nth] using this
    · cases h
/-! ### Rows made -/
theorem owns_slice {w : World} {base e size : Nat} {v : Value} {n : Nat} {xs : List Value} (h : w.ownsRow base e size v n xs) : ∃ A c, v = .slice A n c := by
  rcases h.2 with ⟨rfl, rfl⟩ | ⟨g, cap, cur, rfl, _⟩
  · exact ⟨_, _, rfl⟩
  · exact ⟨_, _, rfl⟩
theorem owns_lt {w : World} {base e size : Nat} {v : Value} {n : Nat} {xs : List Value} (h : w.ownsRow base e size v n xs) {p : Nat} (hp : v.ownBlock = some p) : base ≤ p ∧ p < w.heap.size := by
  rcases h.2 with ⟨rfl, rfl⟩ | ⟨g, cap, cur, rfl, hb, hh, _⟩
  · cases hp
  · have : g = p := by simpa [Value.ownBlock] using hp
    subst this
    exact ⟨hb, (Array.getElem?_eq_some_iff.1 hh).1⟩
theorem Rel.pushRow (h : Rel w0 F0 F β st a w) {e : TypeId} {ty : Ty} {xs : List ty.T} {Vs : List Value} {v : Value} {w' : World} {row : Option Nat}
    (hown : w'.ownsRow w0.heap.size e ty.sz v xs.length Vs) (hgrow : w.grownBy w' row) (hlen : xs.length * 1 ≤ 140737488355328)
    (hrow : ∀ p, row = some p → w0.heap.size ≤ p ∧ ¬ F p ∧ ∀ c kc, st.heap[c]? = some kc → ph β c kc ≠ some p)
    (hat : ∀ p, v.ownBlock = some p → row = some p ∨ w.heap.size ≤ p)
    (hD : ∀ i j, i < xs.length → j < ty.sz → D F w ((ty.enc (nth xs i)).getD j .undef) (Vs.getD (i * ty.sz + j) undef)) (d : Option Nat) :
    ∃ β' : Gh, Rel w0 F0 F β' (st.push (.arr e ty xs) d) (a.put d v) w' ∧ (∀ b, b < st.heap.length → β'.b b = β.b b ∧ β'.v b = β.v b) ∧ β'.v st.heap.length = v := by
  have hE : Ext F F w w' := ⟨hgrow.size, fun b hF hb => ⟨hF, hgrow.block b hb (fun e => (hrow b e.symm).2.1 hF)⟩⟩
  let β' : Gh := ⟨β.b, fun b => if b = st.heap.length then v else β.v b⟩
  have hβ : ∀ b, b < st.heap.length → β'.b b = β.b b ∧ β'.v b = β.v b := fun b hb => ⟨rfl, by show (if b = st.heap.length then _ else _) = _; rw [if_neg (by omega)]⟩
  have hn : β'.v st.heap.length = v := by show (if _ then _ else _) = _; rw [if_pos rfl]
  have hm : st.heap.length ≤ (st.heap ++ [Blk.arr e ty xs]).length := by simp
  have hbel : Below w0.heap.size w0 w' := h.below.trans ⟨hgrow.os, hgrow.tape, hgrow.output, hgrow.size, fun k hk => hgrow.block k (Nat.lt_of_lt_of_le hk h.below.size) (fun e => by have := (hrow k e.symm).1; omega)⟩
  have hR : Rel w0 F0 F β' { st with heap := st.heap ++ [.arr e ty xs] } a w' := by
    refine h.step st.heap.length hE hm hβ hbel (fun b hF => Nat.lt_of_lt_of_le (h.fb b hF) hgrow.size) h.fo (fun b k hb hk => heap_get_push hb hk)
      (fun b k p hb hk hp => ⟨hgrow.block p (h.lo b k p hk hp).2 (fun e => (hrow p e.symm).2.2 b k hk hp), h.sep b k p hk hp⟩) (fun k hk => ?_)
    obtain rfl := heap_get_new hk
    refine ⟨⟨Vs, by rw [hn]; exact hown, hlen, fun i j hi hj => (hD i j hi hj).mono hE⟩, fun p hp => ?_⟩
    have hp' : v.ownBlock = some p := by simpa only [ph, hn] using hp
    obtain ⟨q1, q2⟩ := owns_lt hown hp'
    rcases hat p hp' with hr | hr
    · obtain ⟨r1, r2, r3⟩ := hrow p hr
      exact ⟨q1, q2, r2, fun c kc _ hc hpc => r3 c kc hc hpc⟩
    · exact ⟨q1, q2, fun hF => by have := h.fb _ hF; omega, fun c kc _ hc hpc => by have := (h.lo c kc _ hc hpc).2; omega⟩
  refine ⟨β', hR.put d (x := .own st.heap.length) (.of1 (.inr (.inr ⟨_, rfl, by simp, hn.symm, ?_⟩))), hβ, hn⟩
  obtain ⟨A, c, hA⟩ := owns_slice hown
  exact ⟨A, _, c, hA⟩
theorem put_gl (st : St) (d : Option Nat) (x : AV) : (st.put d x).gl = st.gl := by cases d <;> rfl
theorem push_gl (st : St) (k : Blk) (d : Option Nat) : (st.push k d).gl = st.gl := put_gl _ _ _
theorem wp_value {o : Oper} {y : Value} {w' : World} {next : Act → World → Prop} {Q : Exit → Act → World → Prop} (hrun : (execOp a.eval o).run P w = .ok (.value y) w') (hn : next (a.put o.dst y) w') : o.wp P a w next Q := by
  unfold Oper.wp; rw [hrun]; exact hn
theorem made_getD (z : Array Value) (n k : Nat) (hk : k < n) (hz : 0 < z.size) : (madeCells z n).toList.getD k undef = z.getD (k % z.size) undef := by
  have hm : k % z.size < z.size := Nat.mod_lt _ hz
  simp [madeCells, List.getD, hk, getElem!_def, hm, Array.getD]
theorem make_sound (h : Rel w0 F0 F β st a w) {o : Oper} {t e : TypeId} {l c : Operand} (hop : o.op = .makeSlice t l c) (hu : P.underlying t = some (.slice e)) {n : Int} (hl : st.ev l = .v (.int .i64 n)) (hc : st.ev c = .v (.int .i64 n)) {ty : Ty} {z : List AV} {i : TypeInfo}
    (hz : zeroOf P e = some z) (hi : P.info? e = some i) {x : ty.T} (hx : ty.dec z = some x) (hs : i.size = ty.sz) (hb : 0 < i.bytes) (h0 : 0 ≤ n) (hle : n.toNat * i.bytes ≤ 140737488355328) {next : Act → World → Prop} {Q : Exit → Act → World → Prop}
    (hk : ∀ a' w' β', Rel w0 F0 F β' (st.push (.arr e ty (List.replicate n.toNat x)) o.dst) a' w' → next a' w') : o.wp P a w next Q := by
  obtain ⟨i', zv, hi', hzv, rfl⟩ := zero_info hz
  obtain rfl : i = i' := by rw [hi] at hi'; simpa using hi'
  obtain ⟨d1, d2⟩ := dec_fits (F := F) (w := w) hx
  have hzs : zv.cells.size = ty.sz := by simpa using d1
  have hn1 : n.toNat ≤ n.toNat * i.bytes := Nat.le_mul_of_pos_right _ hb
  obtain ⟨w', hrun, hown, hgrow⟩ := run_make_full (P := P) w w0.heap.size t e i zv ty.sz hu hi hzv hs .i64 .i64 n.toNat (by rw [Nat.mul_comm]; omega) (by simp only [maxLen]; omega) h.below.size
  have hl' : a.eval l = .int .i64 n := by have := h.ev l; rw [hl] at this; exact V_v this
  have hc' : a.eval c = .int .i64 n := by have := h.ev c; rw [hc] at this; exact V_v this
  obtain ⟨β', hR, _⟩ := h.pushRow (row := none) (xs := List.replicate n.toNat x) (by simpa using hown) hgrow (by simp; omega) (fun p hp => by cases hp) (fun p hp => by right; simp [Value.ownBlock] at hp; omega) (fun i j hi' hj => by
      have hi'' : i < n.toNat := by simpa using hi'
      rw [made_getD _ _ _ (idx_lt hi'' hj) (by rw [hzs]; exact sz_pos ty), hzs, Nat.mul_comm i, Nat.mul_add_mod, Nat.mod_eq_of_lt hj]
      have e : nth (List.replicate n.toNat x) i = x := by simp [nth, List.getD, hi'']
      rw [e]
      refine d2 j _ (by rw [d1]; exact hj) ?_
      have hj' : j < zv.cells.size := by omega
      simp only [List.getD, List.getElem?_map, Array.getElem?_toList, hj', Array.getElem?_eq_getElem, Option.map_some, Option.getD_some, Array.getD, dite_true]
      exact .v _) o.dst
  refine wp_value (w' := w') (y := .slice (some ⟨w.heap.size, 0, none⟩) n.toNat n.toNat) ?_ (hk _ _ _ hR)
  rw [Int.toNat_of_nonneg h0] at hrun
  simp [execOp, hop, hl', hc', Sem.run_bind, hrun]
theorem lit_sound (h : Rel w0 F0 F β st a w) {o : Oper} {t e : TypeId} {len : Nat} {parts : Array (Nat × Operand)} (hop : o.op = .buildSlice t len parts) (hu : P.underlying t = some (.slice e)) {ty : Ty} {z cs zs : List AV} {i : TypeInfo} {st1 : St} {xs : List ty.T}
    (hz : zeroOf P e = some z) (hi : P.info? e = some i) (hs : i.size = ty.sz) (hle : len ≤ 4096) (hf : fillAV (fun j => some (j * i.size, i.size)) (List.replicate len z).flatten (evParts st parts.toList) = some cs) (hzr : st.frzs cs = some (zs, st1)) (hd : decAll ty len zs = some xs)
    (hzl : z.length = ty.sz) {next : Act → World → Prop} {Q : Exit → Act → World → Prop}
    (hk : ∀ a' w' F' β', Rel w0 F0 F' β' (st1.push (.arr e ty xs) o.dst) a' w' → st1.gl = st.gl → next a' w') : o.wp P a w next Q := by
  obtain ⟨i', zv, hi', hzv, rfl⟩ := zero_info hz
  obtain rfl : i = i' := by rw [hi] at hi'; simpa using hi'
  have hzs : zv.cells.size = ty.sz := by simpa using hzl
  have hsp := sz_pos ty
  have hfl : (List.replicate len (zv.cells.toList.map AV.v)).flatten.length = len * ty.sz := by simp [hzs]
  have hfg : ∀ j, j < len * ty.sz → (List.replicate len (zv.cells.toList.map AV.v)).flatten.getD j .undef = .v (zv.cells.getD (j % ty.sz) undef) := by
    clear hf hle hd hop
    induction len with
    | zero => intro j hj; simp at hj
    | succ n ih =>
      intro j hj
      simp only [List.replicate_succ, List.flatten_cons, List.getD]
      by_cases hjs : j < ty.sz
      · rw [List.getElem?_append_left (by simp; omega), Nat.mod_eq_of_lt hjs]
        simp [show j < zv.cells.size by omega, Array.getD]
      · rw [List.getElem?_append_right (by simp; omega)]
        have := ih (by simp [hzs]) (j - ty.sz) (by rw [Nat.add_mul, Nat.one_mul] at hj; omega)
        simp only [List.getD] at this
        simp only [List.length_map, Array.length_toList, hzs]
        rw [this, ← Nat.mod_eq_sub_mod (by omega)]
  obtain ⟨ys, q1, q2, q3⟩ := fill_sound h _ parts.toList _ cs (madeCells zv.cells (len * ty.sz)) (by rw [hfl, size_madeCells]) (fun j hj => by
    rw [hfl] at hj
    rw [hfg j hj]
    have := made_getD zv.cells (len * ty.sz) j hj (by omega)
    have e : (madeCells zv.cells (len * ty.sz)).getD j undef = zv.cells.getD (j % ty.sz) undef := by
      rw [← hzs, ← this]; simp [List.getD, Array.getD_eq_getD_getElem?]
      rw [hzs]
    rw [e]
    exact .inl (.v _)) hf
  obtain ⟨F1, z1, zl, zd⟩ := frzs_sound h hzr
  obtain ⟨x1, x2, x3⟩ := decAll_fits (F := F1) (w := w) hd
  have hysz : ys.size = len * ty.sz := by omega
  have hown : (w.alloc (.cells ys e)).ownsRow w0.heap.size e ty.sz (.slice (some ⟨w.heap.size, 0, none⟩) len len) xs.length ys.toList := by
    rw [x1]
    exact ⟨by simpa using hysz, .inr ⟨w.heap.size, len, ys, rfl, h.below.size, heap_alloc_new w _, Nat.le_refl _, Nat.le_trans hle (by decide), hysz, List.take_of_length_le (by simp [hysz])⟩⟩
  obtain ⟨β', hR, _⟩ := z1.rel.pushRow (row := none) hown (World.grownBy_alloc w _ none) (by omega) (fun p hp => by cases hp) (fun p hp => .inr (Nat.le_of_eq (by simpa [Value.ownBlock] using hp))) (fun i j hi' hj => by
      refine x3 i j (by omega) hj _ ?_
      have hij := idx_lt (show i < len by omega) hj
      have := zd st.heap.length (fun j => ys.getD j undef) q3 (i * ty.sz + j) (by omega)
      simpa [List.getD, Array.getD_eq_getD_getElem?] using this) o.dst
  refine wp_value (w' := w.alloc (.cells ys e)) (y := .slice (some ⟨w.heap.size, 0, none⟩) len len) ?_ (hk _ _ _ _ hR z1.gl)
  have hsm : ¬ 2 ^ 24 < len * ty.sz := by
    have := sz_le ty
    have := Nat.mul_le_mul hle this
    omega
  have q1' : Instr.fill (fun j => some (j * ty.sz, ty.sz)) (madeCells zv.cells (len * ty.sz)) (parts.toList.map fun p => (p.1, a.eval p.2)) = some ys := by rw [hs] at q1; exact q1
  have q1'' : Instr.fill (fun j => some (j * ty.sz, ty.sz)) ((Array.range (len * ty.sz)).map (zv.cells[· % zv.cells.size]!)) (parts.map fun (i, x) => (i, a.eval x)).toList = some ys := by
    rw [Array.toList_map]; exact q1'
  have hfin : ∀ z0 : Array Value, (len * ty.sz ≠ 0 → z0 = zv.cells) → Instr.fill (fun j => some (j * ty.sz, ty.sz)) ((Array.range (len * ty.sz)).map (z0[· % z0.size]!)) (parts.map fun (i, x) => (i, a.eval x)).toList = some ys := by
    intro z0 hz0
    by_cases hl0 : len * ty.sz = 0
    · rw [hl0] at q1'' ⊢
      rw [show Array.range 0 = #[] from rfl] at q1'' ⊢
      simpa using q1''
    · rw [hz0 hl0]; exact q1''
  simp only [execOp, hop, Instr.buildSlice, Sem.run_bind, run_underlying hu w, Result.andThen_ok, run_sizeOf hi w, hs, if_neg hsm]
  by_cases hl0 : len * ty.sz = 0
  · have := hfin #[] (fun h => absurd hl0 h)
    rw [if_pos hl0]
    simp only [Sem.run_bind, Sem.run_pure, Result.andThen_ok, this]
    simp [newRow, newObj, Sem.run, Sem.run_bind]
  · have hzr : (zeroValue e).run P w = .ok zv w := by simp [zeroValue, typeInfo, hi, hzv, Sem.run_bind, run_program]
    have := hfin zv.cells (fun _ => rfl)
    rw [if_neg hl0]
    simp only [Sem.run_bind, hzr, Sem.run_pure, Result.andThen_ok, this]
    simp [newRow, newObj, Sem.run, Sem.run_bind]
theorem app_sound (h : Rel w0 F0 F β st a w) {o : Oper} {t e : TypeId} {s x : Operand} (hop : o.op = .call { callee := .builtin .append, args := #[s, x], argTypes := #[t, t] }) (hu : P.underlying t = some (.slice e)) {ty : Ty} {i : TypeInfo}
    (hi : P.info? e = some i) (hs : i.size = ty.sz) (hb : 0 < i.bytes) {zv : Value} (hzv : i.zero = some zv) (hzs : zv.cells.size = ty.sz) {xs ys : List ty.T} {st1 : St} (h1 : st.base e ty (st.ev s) = some (xs, st1)) (h2 : st1.src ty (st.ev x) = some ys)
    (hle : (xs.length + ys.length) * i.bytes ≤ 140737488355328) {next : Act → World → Prop} {Q : Exit → Act → World → Prop}
    (hk : ∀ a' w' β', Rel w0 F0 F β' (st1.push (.arr e ty (xs ++ ys)) o.dst) a' w' → st1.gl = st.gl → next a' w') : o.wp P a w next Q := by
  -- what is added to
  have hbase : ∃ Vs, w.ownsRow w0.heap.size e ty.sz (a.eval s) xs.length Vs ∧ (∀ i j, i < xs.length → j < ty.sz → D F w ((ty.enc (nth xs i)).getD j .undef) (Vs.getD (i * ty.sz + j) undef)) ∧ Rel w0 F0 F β st1 a w ∧ st1.gl = st.gl ∧
      (∀ p, (a.eval s).ownBlock = some p → w0.heap.size ≤ p ∧ ¬ F p ∧ ∀ c kc, st1.heap[c]? = some kc → ph β c kc ≠ some p) := by
    have hv := h.ev s
    unfold St.base at h1
    split at h1
    · rename_i b hse
      rw [hse] at hv
      obtain ⟨_, hvy, _⟩ := V_own hv
      split at h1
      · rename_i e' t' xs' hb'
        split at h1
        · rename_i xs1 he hx
          simp at h1; obtain ⟨rfl, rfl⟩ := h1
          have he' : e' = e := Nat.eq_of_beq_eq_true he
          subst he'
          unfold castL at hx
          split at hx
          · rename_i e1 _
            subst e1
            simp at hx; subst hx
            obtain ⟨Vs, g1, g2, g3⟩ := h.blk b _ hb'
            rw [hvy]
            refine ⟨Vs, g1, g3, h.kill b, rfl, fun p hp => ?_⟩
            have hp' : ph β b (.arr e' t' xs') = some p := hp
            refine ⟨(h.lo b _ p hb' hp').1, h.sep b _ p hb' hp', fun c kc hc hpc => ?_⟩
            by_cases hcb : c = b
            · subst hcb
              have := heap_get_set_same hc
              subst this
              simp [ph] at hpc
            · exact hcb (h.inj c b kc _ p (heap_get_set hcb hc) hb' hpc hp')
          · cases hx
        · cases h1
      · cases h1
    · rename_i hse
      rw [hse] at hv
      simp at h1; obtain ⟨rfl, rfl⟩ := h1
      rw [V_v hv]
      exact ⟨[], World.ownsRow_nil w _ e ty.sz, fun i j hi => by simp at hi, h, rfl, fun p hp => by simp [Value.ownBlock] at hp⟩
    · cases h1
  obtain ⟨Vs, hown, hD1, hR1, hgl, hsepv⟩ := hbase
  -- what is read
  have hsrc : ∃ (A : Option Addr) (c : Nat) (news : List Value), a.eval x = .slice A ys.length c ∧ news.length = ys.length * ty.sz ∧ (A = none → ys.length = 0) ∧ (∀ ad, A = some ad → ∀ j u, news[j]? = some u → w.cell? (ad.add j) = some u) ∧
      (∀ i j, i < ys.length → j < ty.sz → D F w ((ty.enc (nth ys i)).getD j .undef) (news.getD (i * ty.sz + j) undef)) := by
    have hv : V F w β st.heap.length (st.ev x) (a.eval x) := h.ev x
    have fromD : ∀ v, D F w (.sl ty ys) v → ∃ (A : Option Addr) (c : Nat) (news : List Value), v = .slice A ys.length c ∧ news.length = ys.length * ty.sz ∧ (A = none → ys.length = 0) ∧ (∀ ad, A = some ad → ∀ j u, news[j]? = some u → w.cell? (ad.add j) = some u) ∧
      (∀ i j, i < ys.length → j < ty.sz → D F w ((ty.enc (nth ys i)).getD j .undef) (news.getD (i * ty.sz + j) undef)) := by
      intro v hd
      cases hd with
      | sl0 _ A c => exact ⟨A, c, [], rfl, by simp, fun _ => rfl, fun ad _ j u hj => by simp at hj, fun i j hi => by simp at hi⟩
      | sl _ _ b o c Y hF hb' hl hcap hc hd =>
        refine ⟨_, c, (List.range (ys.length * ty.sz)).map fun k => Y (k / ty.sz) (k % ty.sz), rfl, by simp, (fun hA => by cases hA), fun ad hA j u hj => ?_, fun i j hi' hj => ?_⟩
        · cases hA
          have hjl : j < ys.length * ty.sz := by
            have := (List.getElem?_eq_some_iff.1 hj).1
            simpa using this
          simp [hjl] at hj
          subst hj
          rw [add_lit]
          have := hc (j / ty.sz) (j % ty.sz) (Nat.div_lt_of_lt_mul (by rw [Nat.mul_comm]; exact hjl)) (Nat.mod_lt _ (sz_pos ty))
          rw [Nat.mul_comm, Nat.div_add_mod] at this
          exact this
        · have hij := idx_lt hi' hj
          have e1 : ((List.range (ys.length * ty.sz)).map fun k => Y (k / ty.sz) (k % ty.sz)).getD (i * ty.sz + j) undef = Y i j := by
            have hd1 : (i * ty.sz + j) / ty.sz = i := by rw [Nat.mul_comm, Nat.mul_add_div (sz_pos ty), Nat.div_eq_of_lt hj]; rfl
            have hd2 : (i * ty.sz + j) % ty.sz = j := by rw [Nat.mul_comm, Nat.mul_add_mod, Nat.mod_eq_of_lt hj]
            simp [List.getD, hij, hd1, hd2]
          rw [e1]
          exact hd i j hi' hj
    unfold St.src at h2
    split at h2
    · rename_i t' xs' hxe
      rw [hxe] at hv
      unfold castL at h2
      split at h2
      · rename_i e1 _
        subst e1
        simp at h2; subst h2
        exact fromD _ (V_sl hv)
      · cases h2
    · rename_i b hxe
      rw [hxe] at hv
      obtain ⟨_, hvy, _⟩ := V_own hv
      split at h2
      · rename_i e' t' xs' hb'
        unfold castL at h2
        split at h2
        · rename_i e1 _
          subst e1
          simp at h2; subst h2
          obtain ⟨Ws, g1, g2, g3⟩ := hR1.blk b _ hb'
          obtain ⟨A, c, hA⟩ := owns_slice g1
          refine ⟨A, c, Ws, by rw [hvy, hA], g1.1, fun hA0 => ?_, fun ad hA1 j u hj => ?_, g3⟩
          · rcases g1.2 with ⟨_, h0⟩ | ⟨g, cap, cur, hv', _⟩
            · exact h0
            · rw [hA, hA0] at hv'; cases hv'
          · rcases g1.2 with ⟨hv', _⟩ | ⟨g, cap, cur, hv', _⟩
            · rw [hA, hA1] at hv'; cases hv'
            · obtain ⟨_, hcell⟩ := own_cells g1 hv'
              rw [hA, hA1] at hv'
              cases hv'
              have hjl : j < xs'.length * t'.sz := by rw [← g1.1]; exact (List.getElem?_eq_some_iff.1 hj).1
              rw [add_lit, Nat.zero_add, hcell j hjl, List.getD_eq_getElem?_getD, hj]
              rfl
        · cases h2
      · rename_i t' xs' hb'
        unfold castL at h2
        split at h2
        · rename_i e1 _
          subst e1
          simp at h2; subst h2
          rw [hvy]
          exact fromD _ (hR1.blk b _ hb')
        · cases h2
      · cases h2
    · rename_i c hxe
      rw [hxe] at hv
      simp at h2; subst h2
      rw [V_v hv]
      exact fromD _ (.sl0 ty none c)
    · cases h2
  obtain ⟨A, c, news, hx, hnl, hA0, hA1, hD2⟩ := hsrc
  have hmb : xs.length + ys.length ≤ (xs.length + ys.length) * i.bytes := Nat.le_mul_of_pos_right _ hb
  have h1c : ∀ u ∈ news, u.oneCell' = true := fun u hu => by
    obtain ⟨k, hk', rfl⟩ := List.getElem_of_mem hu
    have hsp := sz_pos ty
    have hkl : k < ys.length * ty.sz := by omega
    have hq : k / ty.sz < ys.length := Nat.div_lt_of_lt_mul (by rw [Nat.mul_comm]; exact hkl)
    have := enc_one (Nat.mod_lt k hsp) (hD2 (k / ty.sz) (k % ty.sz) hq (Nat.mod_lt k hsp))
    rw [Nat.mul_comm, Nat.div_add_mod, List.getD_eq_getElem?_getD, List.getElem?_eq_getElem hk'] at this
    exact this
  have hrun : ∃ v' w', (Builtin.append_ #[t, t] o.type #[a.eval s, a.eval x]).run P w = .ok v' w' ∧ w'.ownsRow w0.heap.size e ty.sz v' (xs.length + ys.length) (Vs ++ news) ∧ w.grownBy w' (a.eval s).ownBlock ∧ (v'.ownBlock = (a.eval s).ownBlock ∨ v'.ownBlock = some w.heap.size) := by
    rw [hx]
    cases A with
    | some ad =>
      obtain ⟨v', w', r1, r2, r3, _, r5⟩ := run_append_own_at (P := P) w w0.heap.size t o.type e i zv ty.sz i.bytes hu hi hzv hs rfl hzs (sz_pos ty) _ _ Vs hown ad ys.length c news hnl (hA1 ad rfl) h1c (by simp only [maxLen]; omega) hle h.below.size
      exact ⟨v', w', r1, r2, r3, r5⟩
    | none =>
      have h0 := hA0 rfl
      have hn0 : news = [] := List.eq_nil_of_length_eq_zero (by rw [hnl, h0, Nat.zero_mul])
      refine ⟨a.eval s, w, ?_, by simpa [h0, hn0] using hown, World.grownBy.refl _ _, .inl rfl⟩
      rw [h0]
      rcases hown.2 with ⟨hv, hn⟩ | ⟨g, cap, cur, hv, _, _, hnc, _⟩
      · rw [hv]; simp [Builtin.append_, run_underlying hu, sizeOf, typeInfo, hi, Builtin.lenOf, Builtin.firstCells]
      · rw [hv]; simp [Builtin.append_, run_underlying hu, sizeOf, typeInfo, hi, Builtin.lenOf, Builtin.firstCells, hnc, storeCells]
  obtain ⟨v', w', r1, r2, r3, r4⟩ := hrun
  obtain ⟨β', hR, _⟩ := hR1.pushRow (xs := xs ++ ys) (by simpa using r2) r3 (by simp; omega) hsepv (fun p hp => by
    rcases r4 with r4 | r4
    · exact .inl (r4 ▸ hp)
    · right; rw [r4] at hp; simp at hp; omega) (fun i' j hi' hj => by
      have hVl := hown.1
      by_cases hlt : i' < xs.length
      · have e1 : nth (xs ++ ys) i' = nth xs i' := by simp [nth, List.getD, List.getElem?_append_left hlt]
        have e2 : (Vs ++ news).getD (i' * ty.sz + j) undef = Vs.getD (i' * ty.sz + j) undef := by
          simp only [List.getD]; rw [List.getElem?_append_left (by rw [hVl]; exact idx_lt hlt hj)]
        rw [e1, e2]; exact hD1 i' j hlt hj
      · have e1 : nth (xs ++ ys) i' = nth ys (i' - xs.length) := by simp [nth, List.getD, List.getElem?_append_right (Nat.le_of_not_lt hlt)]
        have e3 : i' * ty.sz + j = xs.length * ty.sz + ((i' - xs.length) * ty.sz + j) := by
          rw [← Nat.add_assoc, ← Nat.add_mul, Nat.add_sub_cancel' (Nat.le_of_not_lt hlt)]
        have e2 : (Vs ++ news).getD (i' * ty.sz + j) undef = news.getD ((i' - xs.length) * ty.sz + j) undef := by
          simp only [List.getD]; rw [List.getElem?_append_right (by rw [hVl, e3]; omega), hVl, e3, Nat.add_sub_cancel_left]
        rw [e1, e2]; exact hD2 _ j (by simp at hi'; omega) hj) o.dst
  refine wp_value (w' := w') (y := v') ?_ (hk _ _ _ hR hgl)
  simp [execOp, hop, resolve, invoke, builtin, Sem.run_bind, r1]
/-! ### Rows handed over -/
theorem owns_base {w : World} {base base' e size : Nat} {v : Value} {n : Nat} {xs : List Value} (h : w.ownsRow base e size v n xs) (hb : base' ≤ base) : w.ownsRow base' e size v n xs := by
  refine ⟨h.1, ?_⟩
  rcases h.2 with h2 | ⟨g, cap, cur, hv, hg, hr⟩
  · exact .inl h2
  · exact .inr ⟨g, cap, cur, hv, by omega, hr⟩
theorem D_not_fr {x : AV} {y : Value} (h : D F w x y) : isFr x = false := by cases h <;> rfl
theorem take1_same {st : St} {x : AV} (h : isFr x = false) : st.take1 x = (x, st) := by cases x <;> first | rfl | cases h
theorem takes_sound {base : Nat} (hw0 : w0.heap.size ≤ base) : ∀ (cs : List AV) (Y : Nat → Value) (β : Gh) (st : St), Rel w0 F0 F β st a w → Drs base F w cs Y →
    (∀ j p, j < cs.length → isFr (cs.getD j .undef) = true → (Y j).ownBlock = some p → ∀ c k, st.heap[c]? = some k → ph β c k ≠ some p) →
    ∃ β' : Gh, Rel w0 F0 F β' (st.takes cs).2 a w ∧ (∀ b, b < st.heap.length → β'.b b = β.b b ∧ β'.v b = β.v b) ∧ st.heap.length ≤ (st.takes cs).2.heap.length ∧ (st.takes cs).2.gl = st.gl ∧ (st.takes cs).1.length = cs.length ∧
      ∀ j, j < cs.length → V1 F w β' (st.takes cs).2.heap.length ((st.takes cs).1.getD j .undef) (Y j)
  | [], Y, β, st, h, hd, hf => ⟨β, h, fun _ _ => ⟨rfl, rfl⟩, Nat.le_refl _, rfl, rfl, fun j hj => by simp at hj⟩
  | c :: cs, Y, β, st, h, hd, hf => by
    have hd0 := hd.1 0 (by simp)
    have hrest : Drs base F w cs (fun j => Y (j + 1)) := ⟨fun j hj => by simpa using hd.1 (j + 1) (by simpa using hj), fun i j p hij hj h1 h2 => hd.2 (i + 1) (j + 1) p (by omega) (by simpa using hj) (by simpa using h1) (by simpa using h2)⟩
    rcases hd0 with hd0 | ⟨e, t, xs, hc, Vs, hown, hlen, hD, hnF⟩
    · have hns : isFr c = false := D_not_fr (by simpa using hd0)
      obtain ⟨β', r1, r2, r3, r4, r5, r6⟩ := takes_sound hw0 cs (fun j => Y (j + 1)) β st h hrest (fun j p hj h1 h2 => hf (j + 1) p (by simpa using hj) (by simpa using h1) h2)
      have e1 : st.takes (c :: cs) = (c :: (st.takes cs).1, (st.takes cs).2) := by simp only [St.takes, take1_same hns]
      rw [e1]
      refine ⟨β', r1, r2, r3, r4, by simp [r5], fun j hj => ?_⟩
      cases j with
      | zero => exact .inl (by simpa using hd0)
      | succ j => simpa using r6 j (by simpa using hj)
    · have hc' : c = .fr e t xs := by simpa using hc
      subst hc'
      obtain ⟨β1, hR, q2, q3⟩ := h.pushRow (row := (Y 0).ownBlock) (owns_base hown hw0) (World.grownBy.refl _ _) hlen (fun p hp => ⟨by have := (owns_lt hown hp).1; omega, hnF p hp, fun c k hc => hf 0 p (by simp) (by simp [isFr]) hp c k hc⟩) (fun p hp => .inl hp) hD none
      have hst : (st.push (.arr e t xs) none) = { st with heap := st.heap ++ [.arr e t xs] } := rfl
      rw [hst] at hR
      have hln : ({ st with heap := st.heap ++ [.arr e t xs] } : St).heap.length = st.heap.length + 1 := by simp
      obtain ⟨β', r1, r2, r3, r4, r5, r6⟩ := takes_sound hw0 cs (fun j => Y (j + 1)) β1 _ hR hrest (fun j p hj h1 h2 c k hc hp => by
        by_cases hcl : c < st.heap.length
        · have hc' : st.heap[c]? = some k := by
            have := hc
            rw [List.getElem?_append_left hcl] at this
            exact this
          rw [ph_eq (q2 c hcl)] at hp
          exact hf (j + 1) p (by simpa using hj) (by simpa using h1) h2 c k hc' hp
        · have hcm : c = st.heap.length := by
            have := (List.getElem?_eq_some_iff.1 hc).1
            simp at this; omega
          subst hcm
          have hk := heap_get_new hc
          subst hk
          have hp' : (Y 0).ownBlock = some p := by simpa only [ph, q3] using hp
          exact hd.2 0 (j + 1) p (by omega) (by simpa using hj) (by simp [isFr]) (by simpa using h1) hp' h2)
      have e1 : st.takes (.fr e t xs :: cs) = (.own st.heap.length :: (({ st with heap := st.heap ++ [.arr e t xs] } : St).takes cs).1, (({ st with heap := st.heap ++ [.arr e t xs] } : St).takes cs).2) := by simp only [St.takes, St.take1]
      rw [e1]
      refine ⟨β', r1, fun b hb => ?_, by have := r3; rw [hln] at this; exact Nat.le_of_succ_le this, r4, by simp [r5], fun j hj => ?_⟩
      · have h1 := r2 b (by rw [hln]; omega)
        have h2 := q2 b hb
        exact ⟨h1.1.trans h2.1, h1.2.trans h2.2⟩
      · cases j with
        | zero =>
          refine .inr (.inr ⟨st.heap.length, by simp, by rw [hln] at r3; exact r3, ?_, ?_⟩)
          · rw [(r2 _ (by rw [hln]; omega)).2, q3]
          · obtain ⟨A, cc, hA⟩ := owns_slice hown
            exact ⟨A, _, cc, hA⟩
        | succ j => simpa using r6 j (by simpa using hj)
theorem takeR_sound {base : Nat} (hw0 : w0.heap.size ≤ base) (h : Rel w0 F0 F β st a w) (hlo : ∀ c k p, st.heap[c]? = some k → ph β c k = some p → p < base) {r : AV} {y : Value} (hd : Dr base F w r y) (d : Option Nat) :
    ∃ β' : Gh, Rel w0 F0 F β' ((st.takeR r).2.put d (st.takeR r).1) (a.put d y) w ∧ ((st.takeR r).2.put d (st.takeR r).1).gl = st.gl := by
  have many : ∀ cs ys, r = .tup cs → y = .tuple ys → ys.size = cs.length → Drs base F w cs (fun j => ys.getD j undef) → ∃ β' : Gh, Rel w0 F0 F β' ((st.takeR r).2.put d (st.takeR r).1) (a.put d y) w ∧ ((st.takeR r).2.put d (st.takeR r).1).gl = st.gl := by
    rintro cs ys rfl rfl hl hds
    obtain ⟨β', r1, r2, r3, r4, r5, r6⟩ := takes_sound hw0 cs _ β st h hds (fun j p hj h1 h2 c k hc hp => by
      rcases hds.1 j hj with hx | ⟨e, t, xs, hx, Vs, hown, _⟩
      · rw [D_not_fr hx] at h1; cases h1
      · have := (owns_lt hown h2).1
        have := hlo c k p hc hp
        omega)
    have e1 : st.takeR (.tup cs) = (.tup (st.takes cs).1, (st.takes cs).2) := rfl
    rw [e1]
    exact ⟨β', r1.put d (.inr (.inr (.inr (.inr (.inr ⟨_, _, rfl, rfl, by rw [r5]; exact hl, fun j hj => r6 j (by rw [r5] at hj; exact hj)⟩))))), by rw [put_gl]; exact r4⟩
  rcases hd with (hd | ⟨e, t, xs, rfl, hO⟩) | ⟨cs, ys, h1, h2, h3, h4⟩
  · by_cases htup : ∃ cs, r = .tup cs
    · obtain ⟨cs, rfl⟩ := htup
      cases hd with
      | tup _ ys hl hc => exact many cs ys rfl rfl hl ⟨fun j hj => .inl (hc j hj), fun i j p hij hj h1 => by rw [D_not_fr (hc i (by omega))] at h1; cases h1⟩
    · have e1 : st.takeR r = (r, st) := by
        cases r <;> first | rfl | exact absurd ⟨_, rfl⟩ htup | cases hd
      rw [e1]
      exact ⟨β, h.put d (.ofD hd), put_gl _ _ _⟩
  · obtain ⟨β', r1, r2, r3, r4, r5, r6⟩ := takes_sound hw0 [.fr e t xs] (fun _ => y) β st h ⟨fun j hj => by
        have : j = 0 := by simpa using hj
        subst this
        exact .inr ⟨e, t, xs, by simp, hO⟩, fun i j p hij hj => by simp at hj; omega⟩ (fun j p hj h1 h2 c k hc hp => by
      obtain ⟨Vs, hown, _⟩ := hO
      have := (owns_lt hown h2).1
      have := hlo c k p hc hp
      omega)
    have e1 : st.takeR (.fr e t xs) = (.own st.heap.length, { st with heap := st.heap ++ [.arr e t xs] }) := rfl
    have e2 : st.takes [.fr e t xs] = ([.own st.heap.length], { st with heap := st.heap ++ [.arr e t xs] }) := rfl
    rw [e2] at r1 r6 r4
    rw [e1]
    exact ⟨β', r1.put d (.of1 (by simpa using r6 0 (by simp))), by rw [put_gl]⟩
  · exact many cs ys h1 h2 h3 h4
theorem storeEl_sound (h : Rel w0 F0 F β st a w) {o : Oper} {t e : TypeId} {ad x : Operand} (hop : o.op = .store t ad x) {b sz i off : Nat} (hb : st.ev ad = .oel b sz i off) {L zs cs' : List AV} (hne : L ≠ []) (hL : (st.ev x).cells = some L) {ty : Ty} {ys : List ty.T} (hr : st.heap[b]? = some (.arr e ty ys))
    (hsz : L.length = P.cellsOf t) (hs : ty.sz = sz) {st1 : St} (hz : st.frzs L = some (zs, st1)) {e2 : TypeId} {t2 : Ty} {ys2 : List t2.T} (hr1 : st1.heap[b]? = some (.arr e2 t2 ys2)) (hw : wr (ty.enc (nth ys i)) off zs = some cs') {y : ty.T} (hd : ty.dec cs' = some y) {next : Act → World → Prop} {Q : Exit → Act → World → Prop}
    (hk : ∀ a' w' F', Rel w0 F0 F' β (({ st1 with heap := st1.heap.set b (.arr e ty (ys.set i y)) } : St).put o.dst .undef) a' w' → st1.gl = st.gl → next a' w') : o.wp P a w next Q := by
  have hv := h.ev ad; rw [hb] at hv
  obtain ⟨p, n, c, hbm, hvb, hin, hp⟩ := V_oel hv
  obtain ⟨F1, z1, zl, zd⟩ := frzs_sound h hz
  have hr1' : st1.heap[b]? = some (.arr e ty ys) := by
    have := z1.arr _ _ _ _ hr1
    rw [hr] at this
    rw [hr1]; exact this.symm
  clear hr1
  obtain ⟨Vs, hown, hlen, hD⟩ := z1.rel.blk b _ hr1'
  obtain ⟨g1, g2⟩ := V_cells (h.ev x) hL
  obtain ⟨k1, k2, k3⟩ := wr_spec hw
  rw [enc_len] at k1
  have hzl : zs.length = L.length := zl
  have hzn : zs ≠ [] := fun e => hne (List.eq_nil_of_length_eq_zero (by rw [← hzl, e]; rfl))
  have k2 : off + zs.length ≤ ty.sz := by rcases k2 with k2 | k2; exact absurd k2 hzn; rw [enc_len] at k2; exact k2
  have hpos : 0 < L.length := List.length_pos_iff.2 hne
  obtain ⟨it, hit, hits⟩ := info_of hsz.symm hpos
  rcases hown.2 with ⟨hvn, _⟩ | ⟨g, cap, cur, hvg, hg, hh, hnc, hcm, hcs, htk⟩
  · rw [hvb] at hvn; cases hvn
  rw [hvb] at hvg
  simp only [Value.slice.injEq, Option.some.injEq, Addr.mk.injEq, true_and, and_true] at hvg
  obtain ⟨rfl, rfl, rfl⟩ := hvg
  let vs := (a.eval x).cells.toList
  have hvl : vs.length = L.length := by simpa [vs] using g1
  have hvd : ∀ j, j < L.length → D F1 w (zs.getD j .undef) (vs.getD j undef) := fun j hj => by
    have := zd st.heap.length (fun j => (a.eval x).cells.getD j undef) (fun j hj => (g2 j hj).1) j hj
    simpa [vs, List.getD, Array.getD_eq_getD_getElem?] using this
  have hone : ∀ v ∈ vs, v.oneCell' = true := fun v hv => by
    obtain ⟨j, hj, rfl⟩ := List.getElem_of_mem hv
    have hj' : j < (a.eval x).cells.size := by simpa [vs] using hj
    have := (g2 j (by omega)).2
    simpa [vs, Array.getD, hj'] using this
  have hfit : i * ty.sz + ty.sz ≤ ys.length * ty.sz := by rw [← Nat.succ_mul]; exact Nat.mul_le_mul_right _ hin
  have hcapl : ys.length * ty.sz ≤ c * ty.sz := Nat.mul_le_mul_right _ hnc
  have hrun := run_storeCells_at P p (i * ty.sz + off) e vs 0 cur w hh (by omega) hone
  simp only [Nat.add_zero] at hrun
  generalize hw' : w.setRow p _ = w' at hrun
  have hbk : ∀ k, k ≠ p → w'.heap[k]? = w.heap[k]? := fun k hk => by rw [← hw']; exact setRow_other w _ k _ hk
  have hszw : w'.heap.size = w.heap.size := by rw [← hw']; simp
  have hpb : ph β b (.arr e ty ys) = some p := by simp [ph, hvb, Value.ownBlock]
  have hR1 := z1.rel
  have hE : Ext F1 F1 w w' := ⟨by omega, fun k hF hk => ⟨hF, hbk k (fun e => hR1.sep b _ _ hr1' hpb (e ▸ hF))⟩⟩
  have hrow : w'.heap[p]? = some (.cells (cur.toList.take (i * ty.sz + off) ++ vs ++ cur.toList.drop (i * ty.sz + off + vs.length)).toArray e (0, 0)) := by rw [← hw']; exact setRow_heap w _ cur _ e _ hh
  have hlen' : (st1.heap.set b (Blk.arr e ty (ys.set i y))).length = st1.heap.length := by simp
  have hbel : Below w0.heap.size w0 w' := by
    refine hR1.below.trans ⟨?_, ?_, ?_, by omega, fun k hk => hbk k (fun e => by have := (hR1.lo b _ _ hr1' hpb).1; omega)⟩ <;> rw [← hw'] <;> rfl
  have hRel : Rel w0 F0 F1 β { st1 with heap := st1.heap.set b (.arr e ty (ys.set i y)) } a w' := by
    refine hR1.step b hE (by rw [hlen']; exact Nat.le_refl _) (same_β _) hbel (fun b hF => by rw [hszw]; exact hR1.fb b hF) hR1.fo (fun c k hc' hk => heap_get_set hc' hk)
      (fun c k q hcb hk hq => ⟨hbk q (fun e => hcb (hR1.inj c b k _ _ hk hr1' hq (by rw [hpb, e]))), hR1.sep c k q hk hq⟩) (fun k hk => ?_)
    obtain rfl := heap_get_set_same hk
    refine ⟨⟨(cur.toList.take (i * ty.sz + off) ++ vs ++ cur.toList.drop (i * ty.sz + off + vs.length)).take (ys.length * ty.sz), ?_, by simpa using hlen, fun i' j hi' hj => ?_⟩, fun q hq => ?_⟩
    · rw [List.length_set, hvb]
      refine ⟨by simp; omega, .inr ⟨p, c, _, rfl, hg, hrow, hnc, hcm, by simp; omega, by simp⟩⟩
    · have hi'' : i' < ys.length := by simpa using hi'
      have hij := idx_lt hi'' hj
      have e0 : ((cur.toList.take (i * ty.sz + off) ++ vs ++ cur.toList.drop (i * ty.sz + off + vs.length)).take (ys.length * ty.sz)).getD (i' * ty.sz + j) undef =
          if i * ty.sz + off ≤ i' * ty.sz + j ∧ i' * ty.sz + j < i * ty.sz + off + vs.length then vs.getD (i' * ty.sz + j - (i * ty.sz + off)) undef else Vs.getD (i' * ty.sz + j) undef := by
        rw [← htk]
        have := upd_getD (l := cur.toList) (vs := vs) (o := i * ty.sz + off) (by simp; omega) (i' * ty.sz + j) undef
        simp only [List.getD, List.getElem?_take, if_pos hij] at this ⊢
        exact this
      rw [e0]
      refine D.mono hE ?_
      by_cases hii : i' = i
      · subst hii
        have e1 : nth (ys.set i' y) i' = y := by simp [nth, List.getD, hi'']
        rw [e1]
        refine (dec_fits hd).2 j _ (by omega) ?_
        rw [k3 j]
        by_cases hr : off ≤ j ∧ j < off + zs.length
        · rw [if_pos hr, if_pos (by omega)]
          have := hvd (j - off) (by omega)
          rwa [show i' * ty.sz + j - (i' * ty.sz + off) = j - off by omega]
        · rw [if_neg hr, if_neg (by omega)]
          exact hD i' j hi'' hj
      · have e1 : nth (ys.set i y) i' = nth ys i' := by simp [nth, List.getD, List.getElem?_set, show ¬ i = i' from fun e => hii e.symm]
        rw [e1, if_neg]
        · exact hD i' j hi'' hj
        · rintro ⟨q1, q2⟩
          rcases Nat.lt_or_gt_of_ne hii with hlt | hgt
          · have := Nat.mul_le_mul_right ty.sz (Nat.succ_le_of_lt hlt)
            rw [Nat.succ_mul] at this
            omega
          · have := Nat.mul_le_mul_right ty.sz (Nat.succ_le_of_lt hgt)
            rw [Nat.succ_mul] at this
            omega
    · have hq' : q = p := by
        have : ph β b (.arr e ty ys) = some q := hq
        rw [hpb] at this
        simpa using this.symm
      subst hq'
      obtain ⟨q1, q2⟩ := hR1.lo b _ _ hr1' hpb
      exact ⟨q1, by omega, hR1.sep b _ _ hr1' hpb, fun c kc hcb hk hp' => hcb (hR1.inj c b kc _ _ hk hr1' hp' hpb)⟩
  have hg1' : (a.eval x).cells.size = it.size := by rw [g1, hits]
  have hrun' : (execOp a.eval o).run P w = .ok .skip w' := by
    subst hs
    simp [execOp, hop, hp, Instr.storeAt, Instr.sureAddr, storeVar, Sem.run_bind, run_sizeOf hit w, hg1', vs] at hrun ⊢
    simp [hrun]
  unfold Oper.wp
  rw [hrun', Oper.upon_skip]
  exact hk _ _ _ (hRel.put o.dst (.inl rfl)) z1.gl
theorem evOp_sound (hG : GOk P GL G) (h : Rel w0 F0 F β st a w) (hgl : st.gl = GL) {o : Oper} {k : St → Option AV} {r : AV} (hr : evOp P G st o k = some r) {next : Act → World → Prop} {Q : Exit → Act → World → Prop}
    (hk : ∀ st' a' w' F' β', Rel w0 F0 F' β' st' a' w' → st'.gl = GL → k st' = some r → next a' w') : o.wp P a w next Q := by
  have ref_put : ∀ {cs : List AV} {ys : Array Value} (T : TypeId) {v : Value}, ys.size = cs.length → (∀ j, j < cs.length → V1 F w β st.heap.length (cs.getD j .undef) (ys.getD j undef)) →
      k (({ st with heap := st.heap ++ [.cells cs] } : St).put o.dst (.ref st.heap.length 0)) = some r → (execOp a.eval o).run P w = .ok (.value (.pointer (some ⟨w.heap.size, 0, none⟩))) (w.alloc (.cells ys T)) → o.wp P a w next Q := by
    intro cs ys T v hl hc hkk hrun
    obtain ⟨β', hn, hR⟩ := h.alloc T hl hc
    exact wp_value hrun (hk _ _ _ _ _ (hR.put o.dst (x := .ref st.heap.length 0) (.of1 (.inr (.inl ⟨_, _, rfl, by simp, by rw [hn]⟩)))) (by rw [put_gl]; exact hgl) hkk)
  have telling : evT P G st o (fun x => k (st.put o.dst x)) = some r → o.wp P a w next Q := fun hr => by
    obtain ⟨x, ht, hkx⟩ := evT_sound hG h hgl hr
    exact wp_tellsQ h ht fun a' w' hR => hk _ _ _ _ _ hR (by rw [put_gl]; exact hgl) hkx
  unfold evOp at hr
  split at hr
  · rename_i t x hop
    split at hr
    · rename_i cs hcs
      obtain ⟨h1, h2⟩ := V_cells (h.ev x) hcs
      exact ref_put t (v := a.eval x) h1 (fun j hj => (h2 j hj).1) hr (by simp [execOp, hop, Instr.box, newVar, newRow, newObj, Sem.run, Sem.run_bind])
    · cases hr
  · rename_i t hop
    split at hr
    · rename_i z hz
      obtain ⟨i, zv, hi, hzv, rfl⟩ := zero_info hz
      refine ref_put t (ys := zv.cells) (v := zv) (by simp) (fun j hj => ?_) hr ?_
      · have hj' : j < zv.cells.size := by simpa using hj
        simp only [List.getD, List.getElem?_map, Array.getElem?_toList, hj', Array.getElem?_eq_getElem, Option.map_some, Option.getD_some, Array.getD, dite_true]
        exact .inl (.v _)
      · simp [execOp, hop, Instr.alloc, zeroValue, typeInfo, hi, hzv, newVar, newRow, newObj, Sem.run, Sem.run_bind, run_program]
    · cases hr
  · rename_i t ad x hop
    split at hr
    · rename_i b off x0 xs hb hxs
      split at hr
      · rename_i cs hcs hsz
        split at hr
        · rename_i cs' hw
          have hv := h.ev ad; rw [hb] at hv
          obtain ⟨hbm, hp⟩ := V_ref hv
          obtain ⟨g1, g2⟩ := V_cells (h.ev x) hxs
          have hsz' : (x0 :: xs).length = P.cellsOf t := Nat.eq_of_beq_eq_true hsz
          obtain ⟨i, hi, his⟩ := info_of hsz'.symm (by simp)
          have hgd : ∀ j, j < (x0 :: xs).length → (a.eval x).cells.toList.getD j undef = (a.eval x).cells.getD j undef := fun j hj => by
            simp [List.getD, Array.getD, show j < (a.eval x).cells.size by omega]
          obtain ⟨w', hrun, hR⟩ := h.store hcs hw (by simp) (vs := (a.eval x).cells.toList) (by simpa using g1) (fun j hj => by rw [hgd j hj]; exact (g2 j hj).1) (fun v hv => by
            obtain ⟨j, hj, rfl⟩ := List.getElem_of_mem hv
            have hj' : j < (a.eval x).cells.size := by simpa using hj
            have := (g2 j (by omega)).2
            simpa [Array.getD, hj'] using this) P
          have hrun' : (execOp a.eval o).run P w = .ok .skip w' := by
            simp [execOp, hop, hp, Instr.storeAt, Instr.sureAddr, storeVar, Sem.run_bind, run_sizeOf hi w, his, g1, hrun]
          unfold Oper.wp
          rw [hrun', Oper.upon_skip]
          exact hk _ _ _ _ _ (hR.put o.dst (.inl rfl)) (by rw [put_gl]; exact hgl) hr
        · cases hr
      · cases hr
    · rename_i b sz i off x0 xs hb hxs
      split at hr
      · rename_i e ty ys hrw hsz
        split at hr
        · rename_i zs st1 hs hz
          split at hr
          · rename_i e2 t2 ys2 cs' hr1 hw
            split at hr
            · rename_i y hd
              exact storeEl_sound h hop hb (by simp) hxs hrw (Nat.eq_of_beq_eq_true hsz) (Nat.eq_of_beq_eq_true hs) hz hr1 hw hd fun a' w' F' hR hg => hk _ _ _ _ _ hR (by rw [put_gl]; exact hg.trans hgl) hr
            · cases hr
          · cases hr
        · cases hr
      · cases hr
    · cases hr
  · rename_i t l c hop
    split at hr
    · rename_i e n m hu hl hc
      split at hr
      · rename_i ty z i hty hz hi
        split at hr
        · rename_i x bt hx hs hb
          cases hcd : (decide (n = m) && decide (0 ≤ n) && leB (n.toNat * i.bytes) 140737488355328) with
          | false => rw [hcd] at hr; cases hr
          | true =>
            rw [hcd] at hr
            simp only [Bool.and_eq_true, decide_eq_true_eq, leB, Nat.ble_eq] at hcd
            obtain ⟨⟨rfl, h0⟩, hle⟩ := hcd
            exact make_sound h hop hu hl hc hz hi hx (Nat.eq_of_beq_eq_true hs) (by omega) h0 hle fun a' w' β' hR => hk _ _ _ _ _ hR (by rw [push_gl]; exact hgl) hr
        · cases hr
      · cases hr
    · cases hr
  · rename_i t len parts hop
    split at hr
    · rename_i e hu
      split at hr
      · rename_i ty z i hty hz hi
        split at hr
        · rename_i cs hs hle hf
          split at hr
          · rename_i zs st1 hzr
            split at hr
            · rename_i xs hd
              simp only [Bool.and_eq_true] at hs
              exact lit_sound h hop hu hz hi (Nat.eq_of_beq_eq_true hs.1) (Nat.le_of_ble_eq_true hle) hf hzr hd (Nat.eq_of_beq_eq_true hs.2) fun a' w' F' β' hR hg => hk _ _ _ _ _ hR (by rw [push_gl]; exact hg.trans hgl) hr
            · cases hr
          · cases hr
        · cases hr
      · cases hr
    · cases hr
  · rename_i args tys hop
    split at hr
    · rename_i s x t t' hx ht
      split at hr
      · rename_i e hu
        split at hr
        · rename_i ty z i hty hz hi
          split at hr
          · rename_i bt xs st1 htt hs hb h1
            split at hr
            · rename_i ys h2
              cases hcd : leB ((xs.length + ys.length) * i.bytes) 140737488355328 with
              | false => rw [hcd] at hr; cases hr
              | true =>
                rw [hcd] at hr
                simp only [leB, Nat.ble_eq] at hcd
                simp only [Bool.and_eq_true] at hs
                have e1 : args = #[s, x] := by apply Array.ext'; simpa using hx
                have e2 : tys = #[t, t'] := by apply Array.ext'; simpa using ht
                have e3 : t = t' := Nat.eq_of_beq_eq_true htt
                subst e1 e2 e3
                obtain ⟨i', zv, hi', hzv, rfl⟩ := zero_info hz
                obtain rfl : i = i' := by rw [hi] at hi'; simpa using hi'
                exact app_sound h hop hu hi (Nat.eq_of_beq_eq_true hs.1) (by omega) hzv (by simpa using Nat.eq_of_beq_eq_true hs.2) h1 h2 hcd fun a' w' β' hR hg => hk _ _ _ _ _ hR (by rw [push_gl]; exact hg.trans hgl) hr
            · cases hr
          · cases hr
        · cases hr
      · cases hr
    · cases hr
  · rename_i t x lo hi hop
    split at hr
    · rename_i b hx
      split at hr
      · rename_i ty xs st1 e hz hu
        split at hr
        · rename_i l hh hlo hhi hs
          cases hin : inS l hh xs.length with
          | false => rw [hin] at hr; cases hr
          | true =>
            rw [hin] at hr
            obtain ⟨F1, z1, zd⟩ := frz1_sound h hz
            have hv := h.ev x; rw [hx] at hv
            have hd := zd _ _ hv
            obtain ⟨y, hy, hrun⟩ := slice_sound (P := P) hu (Nat.eq_of_beq_eq_true hs) hd (bnd_sound h hlo) (bnd_sound h hhi) hin
            refine wp_value (w' := w) (y := y) ?_ (hk _ _ _ _ _ (z1.rel.put o.dst (.ofD hy)) (by rw [put_gl]; exact z1.gl.trans hgl) hr)
            simp [execOp, hop, Sem.run_bind, hrun w]
        · cases hr
      · cases hr
    · exact telling hr
  · rename_i f args tys hop
    split at hr
    · rename_i as has
      split at hr
      · rename_i c x hg
        obtain ⟨⟨fn, hfn, hne, hbody⟩, _⟩ := hG f as _ hg
        split at hr
        · rename_i z hz
          cases c with
          | false => cases hr
          | true =>
          have hc := call_sound hG h hgl has hg (Below.refl _ _)
          unfold Oper.wp
          rw [run_call hop hfn hne hbody w, Oper.upon_enter]
          refine hc.mono fun e w'' ⟨y, he, hb, F', _, _, hd⟩ => ?_
          subst he
          rw [flatR_Dr hd hz]
          exact hk _ _ _ _ _ ((h.later hb).put o.dst (.ofD (flat_D hz))) (by rw [put_gl]; exact hgl) hr
        · split at hr
          · rename_i as' st1 hfz
            split at hr
            · rename_i c' r' hg'
              cases c' with
              | false => revert hr; cases st1.takeR r'; intro hr; cases hr
              | true =>
              obtain ⟨F1, z1, zl, zd⟩ := frzArgs_sound h hfz
              have hc := (hG f as' _ hg').2 rfl F1 w (args.toList.map a.eval) z1.rel.fb (fun β' g => by
                rw [← hgl, ← z1.gl]
                exact (z1.rel.gl g).mono ⟨Nat.le_refl _, fun k hk _ => ⟨hk, rfl⟩⟩ (Nat.le_refl _) (fun b hb => absurd hb (Nat.not_lt_zero _))) (by simp at zl; simp [zl]) (fun j hj => by
                have hj' : j < args.toList.length := by simp at zl; simp; omega
                have := zd st.heap.length (fun j => (args.toList.map a.eval).getD j undef) (fun j hj => by
                  have hj' : j < args.toList.length := by simpa using hj
                  have e1 : (args.toList.map st.ev).getD j .undef = st.ev args.toList[j] := by simp [List.getD, show j < args.size by simpa using hj']
                  have e2 : (args.toList.map a.eval).getD j undef = a.eval args.toList[j] := by simp [List.getD, show j < args.size by simpa using hj']
                  rw [e1, e2]; exact h.ev _) j (by simpa using hj')
                exact this)
              have hA : (args.map a.eval) = ((args.toList.map a.eval).toArray) := by apply Array.ext'; simp
              unfold Oper.wp
              rw [run_call hop hfn hne hbody w, Oper.upon_enter, hA]
              refine hc.mono fun e w'' ⟨y, he, hb, F', hs1, hs2, hd⟩ => ?_
              subst he
              obtain ⟨β', hR, hg2⟩ := takeR_sound h.below.size (z1.rel.called' hb hs1 hs2) (fun c k p h1 h2 => (z1.rel.lo c k p h1 h2).2) hd o.dst
              refine hk _ _ _ _ _ hR (hg2.trans (z1.gl.trans hgl)) ?_
              rcases htk : st1.takeR r' with ⟨x, st2⟩
              rw [htk] at hr
              exact hr
            · cases hr
          · cases hr
      · cases hr
    · cases hr
  · exact telling hr
theorem wanted_of (h : Rel w0 F0 F β st a w) {l : List Oper} {o : Oper} {j d : Nat} {want t : Bool} (hg : o.guard = some (j, want)) (hd : (l[j]?).bind (·.dst) = some d) (hs : st.get d = .v (.bool t)) : Region.wanted o (yielded l.toArray a.tmps) = (t == want) := by
  have := slot_bool h hs
  simp only [Region.wanted, hg, yielded, List.getElem?_toArray, hd, Option.bind_some, this]
  cases t <;> cases want <;> rfl
theorem evOps_sound (hG : GOk P GL G) (l : List Oper) {Q : Exit → Act → World → Prop} {k : St → Option AV} {r : AV} (hk : ∀ st' a' w' F' β', Rel w0 F0 F' β' st' a' w' → st'.gl = GL → k st' = some r → Q .normal a' w') :
    ∀ (rest : List Oper) (F : Nat → Prop) (β : Gh) (st : St) (a : Act) (w : World), Rel w0 F0 F β st a w → st.gl = GL → evOps P G l rest st k = some r → wpList P l.toArray Q rest a w
  | [], F, β, st, a, w, h, hgl, hr => wpList_nil (hk _ _ _ _ _ h hgl hr)
  | o :: rest, F, β, st, a, w, h, hgl, hr => by
    have ih := evOps_sound hG l hk rest
    refine wpList_step fun K hK => ?_
    simp only [evOps] at hr
    split at hr
    · rename_i hg
      rw [if_pos (by simp [Region.wanted, hg])]
      exact evOp_sound hG h hgl hr fun st' a' w' F' β' hR hgl' hk' => hK _ _ (ih F' β' st' a' w' hR hgl' hk')
    · rename_i j want hg
      split at hr
      · rename_i d hd
        split at hr
        · rename_i t hs
          have hw := wanted_of h hg hd hs
          have hsame : ∀ t', t = t' → st.set d (.v (.bool t')) = st := fun t' e => set_get (by rw [hs, e])
          have go : (cond (t == want) (evOp P G (st.set d (.v (.bool want))) o fun st => evOps P G l rest st k) (evOps P G l rest ((st.set d (.v (.bool (!want)))).put o.dst .undef) k)) = some r := by
            cases want <;> cases t <;> exact hr
          rw [hw]
          cases hq : (t == want) with
          | true =>
            rw [hq] at go
            have e : t = want := by simpa using hq
            rw [hsame want e, cond_true] at go
            rw [if_pos rfl]
            exact evOp_sound hG h hgl go fun st' a' w' F' β' hR hgl' hk' => hK _ _ (ih F' β' st' a' w' hR hgl' hk')
          | false =>
            rw [hq] at go
            have e : t = !want := by cases t <;> cases want <;> simp_all
            rw [hsame (!want) e, cond_false] at go
            rw [if_neg (by simp)]
            exact hK _ _ (ih F β _ _ w (undef_put h o.dst) (by rw [put_gl]; exact hgl) go)
        · cases hr
      · cases hr
theorem evOpsD_sound (hG : GOk P GL G) (l : List Oper) {k : St → Option AV} {r : AV} (w : World) {Q : Act → Prop} (F : Nat → Prop) (β : Gh) (hk : ∀ st' a', Rel w0 F0 F β st' a' w → st'.gl = GL → k st' = some r → Q a') :
    ∀ (rest : List Oper) (st : St) (a : Act), Rel w0 F0 F β st a w → st.gl = GL → evOpsD P G l rest st k = some r → wpQuiet P l.toArray (Below w.heap.size w) Q rest a
  | [], st, a, h, hgl, hr => wpQuiet_nil (hk _ _ h hgl hr)
  | o :: rest, st, a, h, hgl, hr => by
    have ih := evOpsD_sound hG l w F β hk rest
    refine wpQuiet_step fun K hK => ?_
    simp only [evOpsD] at hr
    have run : (evT P G st o fun x => evOpsD P G l rest (st.put o.dst x) k) = some r → o.quiet P a (Below w.heap.size w) K := by
      intro hr
      obtain ⟨x, ⟨y, hy, hq⟩, hkx⟩ := evT_sound hG h hgl hr
      exact ⟨y, hq, hK _ (ih _ _ (h.put o.dst hy) (by rw [put_gl]; exact hgl) hkx)⟩
    split at hr
    · rename_i hg
      rw [if_pos (by simp [Region.wanted, hg])]
      exact run hr
    · rename_i j want hg
      split at hr
      · rename_i d hd
        split at hr
        · rename_i t hs
          have hw := wanted_of h hg hd hs
          have hsame : ∀ t', t = t' → st.set d (.v (.bool t')) = st := fun t' e => set_get (by rw [hs, e])
          have go : (cond (t == want) (evT P G (st.set d (.v (.bool want))) o fun x => evOpsD P G l rest ((st.set d (.v (.bool want))).put o.dst x) k) (evOpsD P G l rest ((st.set d (.v (.bool (!want)))).put o.dst .undef) k)) = some r := by
            cases want <;> cases t <;> exact hr
          rw [hw]
          cases hq : (t == want) with
          | true =>
            rw [hq] at go
            have e : t = want := by simpa using hq
            rw [hsame want e, cond_true] at go
            rw [if_pos rfl]
            exact run go
          | false =>
            rw [hq] at go
            have e : t = !want := by cases t <;> cases want <;> simp_all
            rw [hsame (!want) e, cond_false] at go
            rw [if_neg (by simp)]
            exact hK _ (ih _ _ (undef_put h o.dst) (by rw [put_gl]; exact hgl) go)
        · cases hr
      · cases hr
end
end Go.Proofs.Ythobdipfccldgaa
