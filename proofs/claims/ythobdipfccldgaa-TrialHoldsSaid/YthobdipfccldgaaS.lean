/- The soundness of the abstract evaluator, part 1: data, states, quiet operations. -/
import Derived.Test.YthobdipfccldgaaE
import Derived.Laws.Rows
import Derived.Laws.Slices
import Derived.OwnWalk
import Derived.Below
import Derived.RowKit3
namespace Go.Proofs.Ythobdipfccldgaa
open Go.RowKit
set_option linter.unusedVariables false
set_option linter.unusedSimpArgs false
/-- What is at hand of w in w': all blocks that F speaks of are as they were, and F' speaks of them. -/
structure Ext (F F' : Nat → Prop) (w w' : World) : Prop where
  size : w.heap.size ≤ w'.heap.size
  block : ∀ b, F b → b < w.heap.size → F' b ∧ w'.heap[b]? = w.heap[b]?
theorem Ext.below {F : Nat → Prop} {w w' : World} (h : Below w.heap.size w w') : Ext F F w w' := ⟨h.size, fun b hF hb => ⟨hF, h.block b hb⟩⟩
/-- An abstract value that leads to lists alone, and the value. F: which blocks the lists lie in. -/
inductive D (F : Nat → Prop) (w : World) : AV → Value → Prop
  | v (x : Value) : D F w (.v x) x
  | agg (cs : List AV) (ys : Array Value) (hl : ys.size = cs.length) (h : ∀ j, j < cs.length → D F w (cs.getD j .undef) (ys.getD j undef)) : D F w (.agg cs) (.agg ys)
  | tup (cs : List AV) (ys : Array Value) (hl : ys.size = cs.length) (h : ∀ j, j < cs.length → D F w (cs.getD j .undef) (ys.getD j undef)) : D F w (.tup cs) (.tuple ys)
  | sl0 (t : Ty) (A : Option Addr) (c : Nat) : D F w (.sl t []) (.slice A 0 c)
  | sl (t : Ty) (xs : List t.T) (b o c : Nat) (Y : Nat → Nat → Value) (hF : F b) (hb : b < w.heap.size) (hl : xs.length ≤ 140737488355328) (hcap : xs.length ≤ c)
      (hc : ∀ i j, i < xs.length → j < t.sz → w.cell? ⟨b, o + (i * t.sz + j), none⟩ = some (Y i j))
      (h : ∀ i j, i < xs.length → j < t.sz → D F w ((t.enc (nth xs i)).getD j .undef) (Y i j)) : D F w (.sl t xs) (.slice (some ⟨b, o, none⟩) xs.length c)
theorem D.mono {F F' : Nat → Prop} {w w' : World} (hE : Ext F F' w w') {x : AV} {y : Value} (h : D F w x y) : D F' w' x y := by
  induction h with
  | v x => exact .v x
  | agg cs ys hl _ ih => exact .agg cs ys hl ih
  | tup cs ys hl _ ih => exact .tup cs ys hl ih
  | sl0 t A c => exact .sl0 t A c
  | sl t xs b o c Y hF hb hl hcap hc _ ih =>
    obtain ⟨h1, h2⟩ := hE.block b hF hb
    exact .sl t xs b o c Y h1 (Nat.lt_of_lt_of_le hb hE.size) hl hcap (fun i j hi hj => (World.cell?_of_block (w := w) h2).trans (hc i j hi hj)) ih
theorem enc_len (t : Ty) (x : t.T) : (t.enc x).length = t.sz := by cases t <;> rfl
/-- Where the own blocks lie; an own row's slice. -/
structure Gh where
  b : Nat → Nat
  v : Nat → Value
/-- One cell. -/
def V1 (F : Nat → Prop) (w : World) (β : Gh) (m : Nat) (x : AV) (y : Value) : Prop := D F w x y ∨ (∃ b off, x = .ref b off ∧ b < m ∧ y = .pointer (some ⟨β.b b, off, none⟩)) ∨ ∃ b, x = .own b ∧ b < m ∧ y = β.v b ∧ ∃ A n c, y = .slice A n c
/-- A slot. -/
def V (F : Nat → Prop) (w : World) (β : Gh) (m : Nat) (x : AV) (y : Value) : Prop :=
  x = .undef ∨ V1 F w β m x y ∨
  (∃ cs ys, x = .agg cs ∧ y = .agg ys ∧ ys.size = cs.length ∧ ∀ j, j < cs.length → V1 F w β m (cs.getD j .undef) (ys.getD j undef)) ∨
  (∃ b sz i off p n c, x = .oel b sz i off ∧ b < m ∧ β.v b = .slice (some ⟨p, 0, none⟩) n c ∧ i < n ∧ y = .pointer (some ⟨p, i * sz + off, none⟩)) ∨
  (∃ t xs i off b o, ∃ Y : Nat → Value, x = .el t xs i off ∧ i < xs.length ∧ y = .pointer (some ⟨b, o + off, none⟩) ∧ F b ∧ b < w.heap.size ∧ (∀ j, j < t.sz → w.cell? ⟨b, o + j, none⟩ = some (Y j)) ∧ ∀ j, j < t.sz → D F w ((t.enc (nth xs i)).getD j .undef) (Y j)) ∨
  ∃ cs ys, x = .tup cs ∧ y = .tuple ys ∧ ys.size = cs.length ∧ ∀ j, j < cs.length → V1 F w β m (cs.getD j .undef) (ys.getD j undef)
theorem V1.mono {F F' : Nat → Prop} {w w' : World} {β β' : Gh} {m m' : Nat} (hE : Ext F F' w w') (hm : m ≤ m') (hβ : ∀ b, b < m → β'.b b = β.b b ∧ β'.v b = β.v b) {x : AV} {y : Value} (h : V1 F w β m x y) : V1 F' w' β' m' x y := by
  rcases h with h | ⟨b, off, rfl, hb, rfl⟩ | ⟨b, rfl, hb, rfl, hs⟩
  · exact .inl (h.mono hE)
  · exact .inr (.inl ⟨b, off, rfl, Nat.lt_of_lt_of_le hb hm, by rw [(hβ b hb).1]⟩)
  · exact .inr (.inr ⟨b, rfl, Nat.lt_of_lt_of_le hb hm, by rw [(hβ b hb).2], hs⟩)
theorem V.mono {F F' : Nat → Prop} {w w' : World} {β β' : Gh} {m m' : Nat} (hE : Ext F F' w w') (hm : m ≤ m') (hβ : ∀ b, b < m → β'.b b = β.b b ∧ β'.v b = β.v b) {x : AV} {y : Value} (h : V F w β m x y) : V F' w' β' m' x y := by
  rcases h with h | h | ⟨cs, ys, rfl, rfl, hl, h⟩ | ⟨b, sz, i, off, p, n, c, rfl, hb, hv, hi, rfl⟩ | ⟨t, xs, i, off, b, o, Y, rfl, hi, rfl, hF, hb, hc, h⟩ | ⟨cs, ys, rfl, rfl, hl, h⟩
  · exact .inl h
  · exact .inr (.inl (h.mono hE hm hβ))
  · exact .inr (.inr (.inl ⟨cs, ys, rfl, rfl, hl, fun j hj => (h j hj).mono hE hm hβ⟩))
  · exact .inr (.inr (.inr (.inl ⟨b, sz, i, off, p, n, c, rfl, Nat.lt_of_lt_of_le hb hm, by rw [(hβ b hb).2]; exact hv, hi, rfl⟩)))
  · obtain ⟨h1, h2⟩ := hE.block b hF hb
    exact .inr (.inr (.inr (.inr (.inl ⟨t, xs, i, off, b, o, Y, rfl, hi, rfl, h1, Nat.lt_of_lt_of_le hb hE.size, fun j hj => (World.cell?_of_block (w := w) h2).trans (hc j hj), fun j hj => (h j hj).mono hE⟩))))
  · exact .inr (.inr (.inr (.inr (.inr ⟨cs, ys, rfl, rfl, hl, fun j hj => (h j hj).mono hE hm hβ⟩))))
theorem V.of1 {F : Nat → Prop} {w : World} {β : Gh} {m : Nat} {x : AV} {y : Value} (h : V1 F w β m x y) : V F w β m x y := .inr (.inl h)
theorem V.ofD {F : Nat → Prop} {w : World} {β : Gh} {m : Nat} {x : AV} {y : Value} (h : D F w x y) : V F w β m x y := .inr (.inl (.inl h))
/-- The machine's block of an own one. -/
def ph (β : Gh) (b : Nat) : Blk → Option Nat
  | .cells _ => some (β.b b)
  | .arr _ _ _ => (β.v b).ownBlock
  | _ => none
/-- What lies in an own block. -/
def BlkOk (base : Nat) (F : Nat → Prop) (w : World) (β : Gh) (m b : Nat) : Blk → Prop
  | .cells cs => ∃ ys T, w.heap[β.b b]? = some (.cells ys T (0, 0)) ∧ ys.size = cs.length ∧ ∀ j, j < cs.length → V1 F w β m (cs.getD j .undef) (ys.getD j undef)
  | .arr e t xs => ∃ Vs : List Value, w.ownsRow base e t.sz (β.v b) xs.length Vs ∧ xs.length * 1 ≤ 140737488355328 ∧ ∀ i j, i < xs.length → j < t.sz → D F w ((t.enc (nth xs i)).getD j .undef) (Vs.getD (i * t.sz + j) undef)
  | .ro t xs => D F w (.sl t xs) (β.v b)
  | .dead => True
/-- A state and the machine's. -/
structure Rel (w0 : World) (F0 F : Nat → Prop) (β : Gh) (st : St) (a : Act) (w : World) : Prop where
  len : st.env.length = a.tmps.size
  env : ∀ t, V F w β st.heap.length (st.get t) (a.tmps.getD t undef)
  gl : ∀ g, V F w β 0 (st.gl.getD g .undef) (.pointer (some ⟨g, 0, none⟩))
  defers : a.defers = []
  below : Below w0.heap.size w0 w
  fb : ∀ b, F b → b < w.heap.size
  fo : ∀ b, F b → F0 b ∨ w0.heap.size ≤ b
  blk : ∀ b k, st.heap[b]? = some k → BlkOk w0.heap.size F w β st.heap.length b k
  lo : ∀ b k p, st.heap[b]? = some k → ph β b k = some p → w0.heap.size ≤ p ∧ p < w.heap.size
  inj : ∀ b c kb kc p, st.heap[b]? = some kb → st.heap[c]? = some kc → ph β b kb = some p → ph β c kc = some p → b = c
  sep : ∀ b k p, st.heap[b]? = some k → ph β b k = some p → ¬ F p
/-- The same in a later world, under a wider F. -/
theorem BlkOk.mono {base : Nat} {F F' : Nat → Prop} {w w' : World} {β β' : Gh} {m m' b : Nat} {k : Blk} (h : BlkOk base F w β m b k) (hE : Ext F F' w w') (hm : m ≤ m') (hβ : ∀ b, b < m → β'.b b = β.b b ∧ β'.v b = β.v b) (hb : b < m)
    (hp : ∀ p, ph β b k = some p → p < w.heap.size → w'.heap[p]? = w.heap[p]?) : BlkOk base F' w' β' m' b k := by
  cases k with
  | cells cs =>
    obtain ⟨ys, T, h1, h2, h3⟩ := h
    exact ⟨ys, T, by rw [(hβ b hb).1, hp _ rfl (Array.getElem?_eq_some_iff.1 h1).1]; exact h1, h2, fun j hj => (h3 j hj).mono hE hm hβ⟩
  | arr e t xs =>
    obtain ⟨Vs, h1, h2, h3⟩ := h
    refine ⟨Vs, ?_, h2, fun i j hi hj => (h3 i j hi hj).mono hE⟩
    rw [(hβ b hb).2]
    refine ⟨h1.1, ?_⟩
    rcases h1.2 with h0 | ⟨g, cap, cur, hv, hg, hh, hr⟩
    · exact .inl h0
    · exact .inr ⟨g, cap, cur, hv, hg, by rw [hp g (by simp [ph, hv, Value.ownBlock]) (Array.getElem?_eq_some_iff.1 hh).1]; exact hh, hr⟩
  | ro t xs =>
    have : D F w (.sl t xs) (β.v b) := h
    show D F' w' (.sl t xs) (β'.v b)
    rw [(hβ b hb).2]
    exact this.mono hE
  | dead => trivial
theorem comp_run {α : Type} {P : Program} : ∀ {s : Sem α} {a : α}, comp P s = some a → ∀ w, s.run P w = .ok a w
  | .pure x, a, h, w => by simp [comp] at h; subst h; rfl
  | .program k, a, h, w => by simp only [comp] at h; simp only [Sem.run]; exact comp_run h w
  | .mark _ k, a, h, w => by simp only [comp] at h; simp only [Sem.run]; exact comp_run h w
  | .load .., _, h, _ | .store .., _, h, _ | .new .., _, h, _ | .shape .., _, h, _ | .freeze .., _, h, _ | .frozen .., _, h, _ | .getObj .., _, h, _ | .setObj .., _, h, _ | .choose .., _, h, _ | .sys .., _, h, _ | .halt .., _, h, _ => by simp [comp] at h
section
variable {F : Nat → Prop} {w : World} {β : Gh} {m : Nat}
theorem D_ofVal (x : Value) : D F w (ofVal x) x := by
  unfold ofVal
  split
  · rename_i cs
    refine .agg _ _ (by simp) fun j hj => ?_
    have hj' : j < cs.size := by simpa using hj
    simp [List.getD, Array.getD, hj']
    exact .v _
  · exact .v _
theorem D_ofConst (x : Value) : D F w (ofConst x) x := D_ofVal x
theorem V1_val1 {x : AV} {y z : Value} (h : V1 F w β m x y) (hx : x.val1 = some z) : y = z := by
  cases x <;> simp [AV.val1] at hx
  subst hx
  rcases h with h | ⟨b, off, h, _⟩ | ⟨b, h, _⟩
  · cases h; rfl
  · cases h
  · cases h
theorem val1s_some : ∀ {cs : List AV} {zs : List Value}, val1s cs = some zs → zs.length = cs.length ∧ ∀ j, j < cs.length → (cs.getD j .undef).val1 = some (zs.getD j undef)
  | [], zs, h => by simp [val1s] at h; subst h; simp
  | c :: cs, zs, h => by
    simp only [val1s] at h
    split at h
    · rename_i v vs hv hvs
      simp at h; subst h
      obtain ⟨h1, h2⟩ := val1s_some hvs
      refine ⟨by simp [h1], fun j hj => ?_⟩
      cases j with
      | zero => simpa using hv
      | succ j => simpa using h2 j (by simpa using hj)
    · cases h
theorem agg_of {cs : List AV} {ys : Array Value} (hl : ys.size = cs.length) (h : ∀ j, j < cs.length → V1 F w β m (cs.getD j .undef) (ys.getD j undef)) {zs : List Value} (hz : val1s cs = some zs) : ys = zs.toArray := by
  obtain ⟨h1, h2⟩ := val1s_some hz
  apply Array.ext
  · simp [h1, hl]
  · intro j hj hj'
    have hc : j < cs.length := by omega
    have := V1_val1 (h j hc) (h2 j hc)
    simpa [List.getD, Array.getD, hj, show j < zs.length by omega] using this
theorem V_val {x : AV} {y z : Value} (h : V F w β m x y) (hx : x.val = some z) : y = z := by
  rcases h with rfl | h | ⟨cs, ys, rfl, rfl, hl, h⟩ | ⟨b, sz, i, off, p, n, c, rfl, _⟩ | ⟨t, xs, i, off, b, o, Y, rfl, _⟩ | ⟨cs, ys, rfl, _⟩
  · simp [AV.val] at hx
  · rcases h with h | ⟨b, off, rfl, _⟩ | ⟨b, rfl, _⟩
    · cases h with
      | v => simp [AV.val] at hx; exact hx
      | agg cs ys hl h =>
        simp only [AV.val] at hx
        split at hx
        · rename_i zs hz
          simp at hx; subst hx
          rw [agg_of (β := ⟨fun _ => 0, fun _ => undef⟩) (m := 0) hl (fun j hj => .inl (h j hj)) hz]
        · cases hx
      | tup => simp [AV.val] at hx
      | sl0 => simp [AV.val] at hx
      | sl => simp [AV.val] at hx
    · simp [AV.val] at hx
    · simp [AV.val] at hx
  · simp only [AV.val] at hx
    split at hx
    · rename_i zs hz
      simp at hx; subst hx
      rw [agg_of hl h hz]
    · cases hx
  · simp [AV.val] at hx
  · simp [AV.val] at hx
  · simp [AV.val] at hx
end
section
variable {w0 : World} {F0 F : Nat → Prop} {β : Gh} {st : St} {a : Act} {w : World}
theorem Rel.ev (h : Rel w0 F0 F β st a w) (x : Operand) : V F w β st.heap.length (st.ev x) (a.eval x) := by
  cases x with
  | tmp t => exact h.env t
  | const v => exact .ofD (D_ofConst v)
  | global g => exact (h.gl g).mono ⟨Nat.le_refl _, fun b hF _ => ⟨hF, rfl⟩⟩ (Nat.zero_le _) (fun _ _ => ⟨rfl, rfl⟩)
  | func f => exact .ofD (.v _)
/-- A later world of the same state. -/
theorem Rel.later (h : Rel w0 F0 F β st a w) {w' : World} (hb : Below w.heap.size w w') : Rel w0 F0 F β st a w' := by
  have hE : Ext F F w w' := .below hb
  have hr : ∀ m b, b < m → β.b b = β.b b ∧ β.v b = β.v b := fun _ _ _ => ⟨rfl, rfl⟩
  refine ⟨h.len, fun t => (h.env t).mono hE (Nat.le_refl _) (hr _), fun g => (h.gl g).mono hE (Nat.le_refl _) (hr _), h.defers, h.below.trans (hb.mono h.below.size), fun b hF => Nat.lt_of_lt_of_le (h.fb b hF) hb.size, h.fo, fun b k hbk => ?_,
    fun b k p hbk hp => ⟨(h.lo b k p hbk hp).1, Nat.lt_of_lt_of_le (h.lo b k p hbk hp).2 hb.size⟩, h.inj, h.sep⟩
  exact (h.blk b k hbk).mono hE (Nat.le_refl _) (hr _) (List.getElem?_eq_some_iff.1 hbk).1 (fun p _ hlt => hb.block p hlt)
end
end Go.Proofs.Ythobdipfccldgaa
