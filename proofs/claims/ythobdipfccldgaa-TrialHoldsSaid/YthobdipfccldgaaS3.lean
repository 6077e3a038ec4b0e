/- The soundness of the abstract evaluator, part 3: operations, regions. -/
import Derived.Test.YthobdipfccldgaaS2
namespace Go.Proofs.Ythobdipfccldgaa
open Go.RowKit
set_option linter.unusedVariables false
set_option linter.unusedSimpArgs false
/-- A function's answer at these arguments. -/
def GlOk (GL : List AV) (F : Nat → Prop) (w : World) : Prop := ∀ (β : Gh) (g : Nat), V F w β 0 (GL.getD g .undef) (.pointer (some ⟨g, 0, none⟩))
/-- A new row of its own, handed over. -/
def Own1 (base : Nat) (F : Nat → Prop) (w : World) (e : TypeId) (t : Ty) (xs : List t.T) (y : Value) : Prop :=
  ∃ Vs, w.ownsRow base e t.sz y xs.length Vs ∧ xs.length * 1 ≤ 140737488355328 ∧ (∀ i j, i < xs.length → j < t.sz → D F w ((t.enc (nth xs i)).getD j .undef) (Vs.getD (i * t.sz + j) undef)) ∧ ∀ p, y.ownBlock = some p → ¬ F p
def isFr : AV → Bool
  | .fr _ _ _ => true
  | _ => false
def Dr1 (base : Nat) (F : Nat → Prop) (w : World) (x : AV) (y : Value) : Prop := D F w x y ∨ ∃ e t xs, x = .fr e t xs ∧ Own1 base F w e t xs y
/-- Results that are handed over one by one. -/
def Drs (base : Nat) (F : Nat → Prop) (w : World) (cs : List AV) (Y : Nat → Value) : Prop :=
  (∀ j, j < cs.length → Dr1 base F w (cs.getD j .undef) (Y j)) ∧ ∀ i j p, i < j → j < cs.length → isFr (cs.getD i .undef) = true → isFr (cs.getD j .undef) = true → (Y i).ownBlock = some p → (Y j).ownBlock ≠ some p
def Dr (base : Nat) (F : Nat → Prop) (w : World) (x : AV) (y : Value) : Prop :=
  Dr1 base F w x y ∨ ∃ cs ys, x = .tup cs ∧ y = .tuple ys ∧ ys.size = cs.length ∧ Drs base F w cs (fun j => ys.getD j undef)
def Okay (P : Program) (GL : List AV) (f : FuncId) (args : List AV) (r : AV) : Prop :=
  ∀ (F : Nat → Prop) (w : World) (vs : List Value), (∀ b, F b → b < w.heap.size) → GlOk GL F w → vs.length = args.length → (∀ j, j < args.length → D F w (args.getD j .undef) (vs.getD j undef)) →
    Calls P f vs.toArray w fun e w' => ∃ y, e = .returned y ∧ Below w.heap.size w w' ∧ ∃ F' : Nat → Prop, (∀ b, F b → F' b) ∧ (∀ b, F' b → F b ∨ (w.heap.size ≤ b ∧ b < w'.heap.size)) ∧ Dr w.heap.size F' w' r y
def GOk (P : Program) (GL : List AV) (G : Gam) : Prop := ∀ f args r, G f args = some r → (∃ fn, P.funcs[f]? = some fn ∧ (fn.name == "runtime.NumGoroutine") = false ∧ fn.body.isNone = false) ∧ (r.1 = true → Okay P GL f args r.2)
section
variable {P : Program} {GL : List AV} {G : Gam} {w0 : World} {F0 F : Nat → Prop} {β : Gh} {st : St} {a : Act} {w : World} {m : Nat}
def TellsQ (P : Program) (F : Nat → Prop) (β : Gh) (m : Nat) (o : Oper) (a : Act) (w : World) (x : AV) : Prop := ∃ y, V F w β m x y ∧ ∀ w', Below w.heap.size w w' → o.quietAt P a (Below w.heap.size w) w' y
theorem tells_q {o : Oper} {r : AV} (h : Tells P F β m o a w r) : TellsQ P F β m o a w r := by
  obtain ⟨y, hy, hr⟩ := h
  exact ⟨y, hy, fun w' hw' => by unfold Oper.quietAt; rw [hr w' hw']; exact ⟨rfl, rfl⟩⟩
/-- An own row's slice as data: its block let in. -/
def Fo (F : Nat → Prop) (v : Value) (b : Nat) : Prop := F b ∨ v.ownBlock = some b
theorem arr_D {base : Nat} {e : TypeId} {ty : Ty} {xs : List ty.T} {b : Nat} {F' : Nat → Prop} (h : BlkOk base F w β m b (.arr e ty xs)) (hF : ∀ k, F k → F' k) (ho : ∀ k, (β.v b).ownBlock = some k → F' k) : D F' w (.sl ty xs) (β.v b) := by
  obtain ⟨Vs, h1, h2, h3⟩ := h
  have hE : Ext F F' w w := ⟨Nat.le_refl _, fun k hk _ => ⟨hF k hk, rfl⟩⟩
  rcases h1.2 with ⟨hv, hn⟩ | ⟨g, cap, cur, hv, hg, hh, hnc, hcm, hcs, htk⟩
  · have : xs = [] := List.eq_nil_of_length_eq_zero hn
    subst this
    rw [hv]; exact .sl0 ty none 0
  · obtain ⟨_, hcell⟩ := own_cells h1 hv
    have hg' : F' g := ho g (by rw [hv]; rfl)
    rw [hv]
    refine .sl ty xs g 0 cap (fun i j => Vs.getD (i * ty.sz + j) undef) hg' (Array.getElem?_eq_some_iff.1 hh).1 (by omega) hnc (fun i j hi hj => ?_) (fun i j hi hj => (h3 i j hi hj).mono hE)
    rw [Nat.zero_add]
    exact hcell _ (idx_lt hi hj)
/-- F with all own rows let in. -/
def Fall (F : Nat → Prop) (β : Gh) (st : St) (k : Nat) : Prop := F k ∨ ∃ b e t xs, st.heap[b]? = some (.arr e t xs) ∧ (β.v b).ownBlock = some k
theorem snap1_sound (hR : Rel w0 F0 F β st a w) {x x' : AV} {y : Value} (h : V F w β m x y) (hs : st.snap1 x = some x') : D (Fall F β st) w x' y := by
  have hE : Ext F (Fall F β st) w w := ⟨Nat.le_refl _, fun k hk _ => ⟨.inl hk, rfl⟩⟩
  unfold St.snap1 at hs
  split at hs
  · simp at hs; subst hs; rw [V_v h]; exact .v _
  · simp at hs; subst hs; exact (V_sl h).mono hE
  · rename_i b
    obtain ⟨_, rfl, _⟩ := V_own h
    split at hs
    · rename_i e t xs hb
      simp at hs; subst hs
      exact arr_D (hR.blk b _ hb) (fun k hk => .inl hk) (fun k hk => .inr ⟨b, e, t, xs, hb, hk⟩)
    · rename_i t xs hb
      simp at hs; subst hs
      exact (show D F w (.sl t xs) (β.v b) from hR.blk b _ hb).mono hE
    · cases hs
  · cases hs
theorem Fall_fb (hR : Rel w0 F0 F β st a w) : ∀ k, Fall F β st k → k < w.heap.size := by
  rintro k (hk | ⟨b, e, t, xs, hb, hk⟩)
  · exact hR.fb k hk
  · exact (hR.lo b _ k hb hk).2
theorem snaps_sound : ∀ {cs cs' : List AV}, st.snaps cs = some cs' → cs'.length = cs.length ∧ ∀ j, j < cs.length → st.snap1 (cs.getD j .undef) = some (cs'.getD j .undef)
  | [], cs', h => by simp [St.snaps] at h; subst h; simp
  | c :: cs, cs', h => by
    simp only [St.snaps] at h
    split at h
    · rename_i y ys hy hys
      simp at h; subst h
      obtain ⟨h1, h2⟩ := snaps_sound hys
      refine ⟨by simp [h1], fun j hj => ?_⟩
      cases j with
      | zero => simpa using hy
      | succ j => simpa using h2 j (by simpa using hj)
    · cases h
theorem snap_sound (hR : Rel w0 F0 F β st a w) {x x' : AV} {y : Value} (h : V F w β m x y) (hs : st.snap x = some x') : D (Fall F β st) w x' y := by
  unfold St.snap at hs
  split at hs
  · rename_i cs
    obtain ⟨ys, rfl, hl, hc⟩ := V_agg h
    split at hs
    · rename_i cs' hcs
      simp at hs; subst hs
      obtain ⟨h1, h2⟩ := snaps_sound hcs
      exact .agg _ _ (by rw [hl, h1]) fun j hj => snap1_sound hR (.of1 (hc j (by omega))) (h2 j (by omega))
    · cases hs
  · exact snap1_sound hR h hs
theorem snapArgs_sound : ∀ {l : List Operand} {as : List AV}, st.snapArgs (l.map st.ev) = some as → as.length = l.length ∧ ∀ j o, l[j]? = some o → st.snap (st.ev o) = some (as.getD j .undef)
  | [], as, h => by simp [St.snapArgs] at h; subst h; simp
  | x :: l, as, h => by
    simp only [List.map_cons, St.snapArgs] at h
    split at h
    · rename_i y ys hy hys
      simp at h; subst h
      obtain ⟨h1, h2⟩ := snapArgs_sound hys
      refine ⟨by simp [h1], fun j o ho => ?_⟩
      cases j with
      | zero => simp at ho; subst ho; simpa using hy
      | succ j => simpa using h2 j o (by simpa using ho)
    · cases h
theorem sz_pos (t : Ty) : 0 < t.sz := by cases t <;> simp [Ty.sz]
theorem info_of {e : TypeId} {n : Nat} (h : P.cellsOf e = n) (hn : 0 < n) : ∃ i, P.info? e = some i ∧ i.size = n := by
  unfold Program.cellsOf at h
  cases hq : P.info? e with
  | none => simp [hq] at h; omega
  | some i => simp [hq] at h; exact ⟨i, rfl, h⟩
theorem inR_iff {i : Int} {n : Nat} : inR i n = true ↔ 0 ≤ i ∧ i < n := by simp [inR]
theorem indexAddr_sound {t e : TypeId} {ty : Ty} {xs : List ty.T} {n : Int} {k : IntKind} {v : Value} (hu : P.underlying t = some (.slice e)) (hs : P.cellsOf e = ty.sz) (hin : inR n xs.length = true) (hv : D F w (.sl ty xs) v) :
    ∃ y, V F w β m (.el ty xs n.toNat 0) y ∧ ∀ w', (Instr.indexAt t v (.int k n)).run P w' = .ok y w' := by
  obtain ⟨i, hi, hsz⟩ := info_of hs (sz_pos ty)
  obtain ⟨h0, h1⟩ := inR_iff.1 hin
  cases hv with
  | sl0 => simp at h1; omega
  | sl _ _ b o c Y hF hb hl hcap hc h =>
    refine ⟨.pointer (some ⟨b, o + n.toNat * ty.sz + 0, none⟩), .inr (.inr (.inr (.inr (.inl ⟨ty, xs, n.toNat, 0, b, o + n.toNat * ty.sz, Y n.toNat, rfl, by omega, rfl, hF, hb, fun j hj => ?_, fun j hj => h _ _ (by omega) hj⟩)))), fun w' => ?_⟩
    · rw [Nat.add_assoc]; exact hc _ _ (by omega) hj
    · have h1' : n < (xs.length : Int) := h1
      simp [Instr.indexAt, asIntOf, Sem.run_bind, run_underlying hu w', h0, h1', run_sizeOf hi w', hsz, add_lit]
theorem indexOwn_sound {base : Nat} {t e e' : TypeId} {ty : Ty} {xs : List ty.T} {n : Int} {k : IntKind} {b : Nat} (hu : P.underlying t = some (.slice e)) (hs : P.cellsOf e = ty.sz) (hin : inR n xs.length = true) (hb : b < m) (hk : BlkOk base F w β m b (.arr e' ty xs)) :
    ∃ y, V F w β m (.oel b ty.sz n.toNat 0) y ∧ ∀ w', (Instr.indexAt t (β.v b) (.int k n)).run P w' = .ok y w' := by
  obtain ⟨i, hi, hsz⟩ := info_of hs (sz_pos ty)
  obtain ⟨h0, h1⟩ := inR_iff.1 hin
  obtain ⟨Vs, ho, _, _⟩ := hk
  rcases ho.2 with ⟨hv, hn⟩ | ⟨g, cap, cur, hv, hg, hh, hr⟩
  · omega
  · refine ⟨.pointer (some ⟨g, n.toNat * ty.sz + 0, none⟩), .inr (.inr (.inr (.inl ⟨b, ty.sz, n.toNat, 0, g, xs.length, cap, rfl, hb, hv, by omega, rfl⟩))), fun w' => ?_⟩
    have h1' : n < (xs.length : Int) := h1
    simp [hv, Instr.indexAt, asIntOf, Sem.run_bind, run_underlying hu w', h0, h1', run_sizeOf hi w', hsz, add_lit]
theorem byte_at (s : ByteArray) (n : Int) (h : inR n s.size = true) : ∃ b, s[n.toNat]? = some b ∧ ((b.toNat : Nat) : Int) = (((s.data.getD n.toNat 0).toNat : Nat) : Int) := by
  obtain ⟨h0, h1⟩ := inR_iff.1 h
  have hlt : n.toNat < s.size := by omega
  have hlt' : n.toNat < s.data.size := hlt
  refine ⟨s[n.toNat], by rw [getElem?_pos s n.toNat hlt], ?_⟩
  rw [show s.data.getD n.toNat 0 = s.data[n.toNat] from by rw [Array.getD_eq_getD_getElem?, Array.getElem?_eq_getElem hlt']; rfl]
  rfl
theorem inS_iff {l h : Int} {n : Nat} : inS l h n = true ↔ 0 ≤ l ∧ l ≤ h ∧ h ≤ n := by simp [inS, and_assoc]
def Bd (x : Option Value) (d : Nat) (n : Int) : Prop := (x = none ∧ n = d) ∨ ∃ k, x = some (.int k n)
theorem bnd_sound (h : Rel w0 F0 F β st a w) {x : Option Operand} {d : Nat} {n : Int} (hb : bnd st x d = some n) : Bd (x.map a.eval) d n := by
  unfold bnd at hb
  cases x with
  | none => simp at hb; exact .inl ⟨rfl, hb.symm⟩
  | some x =>
    have hv := h.ev x
    simp only at hb
    split at hb
    · rename_i k n' hx
      simp at hb; subst hb
      rw [hx] at hv
      exact .inr ⟨k, by rw [Option.map_some, V_v hv]⟩
    · cases hb
theorem run_bounds {isS : Bool} {len cap : Nat} {lo hi : Option Value} {l h : Int} (hlo : Bd lo 0 l) (hhi : Bd hi len h) (h0 : 0 ≤ l) (h1 : l ≤ h) (h2 : h ≤ len) (hc : len ≤ cap) (w' : World) :
    (Instr.sliceBounds isS len cap lo hi none).run P w' = .ok (l.toNat, h.toNat, cap) w' := by
  have hh : 0 ≤ h := by omega
  have hcap : h ≤ (cap : Int) := by omega
  have hlh : l ≤ (h.toNat : Int) := by omega
  rcases hlo with ⟨rfl, rfl⟩ | ⟨k1, rfl⟩ <;> rcases hhi with ⟨rfl, rfl⟩ | ⟨k2, rfl⟩
  · simp [Instr.sliceBounds]
  · simp [Instr.sliceBounds, Instr.sliceBound, asIntOf, Sem.run_bind, hh, hcap]
  · simp [Instr.sliceBounds, Instr.sliceBound, asIntOf, Sem.run_bind, h0, h1]
  · simp [Instr.sliceBounds, Instr.sliceBound, asIntOf, Sem.run_bind, hh, hcap, h0, hlh]
    intro hc; omega
theorem slice_sound {t e : TypeId} {ty : Ty} {xs : List ty.T} {v : Value} {lo hi : Option Value} {l h : Int} (hu : P.underlying t = some (.slice e)) (hs : P.cellsOf e = ty.sz) (hv : D F w (.sl ty xs) v) (hlo : Bd lo 0 l) (hhi : Bd hi xs.length h) (hin : inS l h xs.length = true) :
    ∃ y, D F w (.sl ty ((xs.take h.toNat).drop l.toNat)) y ∧ ∀ w', (Instr.sliceAt t v lo hi none).run P w' = .ok y w' := by
  obtain ⟨h0, h1, h2⟩ := inS_iff.1 hin
  obtain ⟨i, hi', hsz⟩ := info_of hs (sz_pos ty)
  have hlen : ((xs.take h.toNat).drop l.toNat).length = h.toNat - l.toNat := by simp; omega
  have run : ∀ A c, xs.length ≤ c → ∀ w', (Instr.sliceAt t (.slice A xs.length c) lo hi none).run P w' = .ok (.slice (if c = l.toNat then A else A.map (·.add (l.toNat * ty.sz))) (h.toNat - l.toNat) (c - l.toNat)) w' := by
    intro A c hc w'
    simp [Instr.sliceAt, Instr.slice, Sem.run_bind, run_underlying hu w', run_bounds (P := P) hlo hhi h0 h1 h2 hc w', run_sizeOf hi' w', hsz]
  cases hv with
  | sl0 _ A c =>
    have hl0 : l.toNat = 0 := by simp at h2; omega
    have hh0 : h.toNat = 0 := by simp at h2; omega
    refine ⟨_, ?_, run A c (Nat.zero_le _)⟩
    rw [hl0, hh0]
    exact .sl0 ty _ _
  | sl _ _ b o c Y hF hb hl hcap hc hd =>
    refine ⟨_, ?_, run _ c hcap⟩
    by_cases he : h.toNat = l.toNat
    · have : (xs.take h.toNat).drop l.toNat = [] := List.eq_nil_of_length_eq_zero (by rw [hlen]; omega)
      rw [this, show h.toNat - l.toNat = 0 by omega]
      exact .sl0 ty _ _
    · rw [if_neg (by omega), ← hlen]
      simp only [Option.map_some, add_lit]
      have hnth : ∀ i, i < h.toNat - l.toNat → nth ((xs.take h.toNat).drop l.toNat) i = nth xs (l.toNat + i) := fun i hi => by
        simp [nth, List.getD, List.getElem?_drop, List.getElem?_take, show l.toNat + i < h.toNat by omega]
      refine .sl ty _ b (o + l.toNat * ty.sz) (c - l.toNat) (fun i j => Y (l.toNat + i) j) hF hb (by rw [hlen]; omega) (by rw [hlen]; omega) (fun i j hi hj => ?_) (fun i j hi hj => ?_)
      · rw [hlen] at hi
        have := hc (l.toNat + i) j (by omega) hj
        rw [← this]
        congr 2
        rw [Nat.add_mul]; omega
      · rw [hlen] at hi
        rw [hnth i hi]
        exact hd _ _ (by omega) hj
theorem call_sound (hG : GOk P GL G) (h : Rel w0 F0 F β st a w) (hgl : st.gl = GL) {args : Array Operand} {f : FuncId} {as : List AV} {r : AV} (hs : st.snapArgs (args.toList.map st.ev) = some as) (hg : G f as = some (true, r)) {w' : World} (hw' : Below w.heap.size w w') :
    Calls P f (args.map a.eval) w' fun e w'' => ∃ y, e = .returned y ∧ Below w'.heap.size w' w'' ∧ ∃ F' : Nat → Prop, (∀ b, Fall F β st b → F' b) ∧ (∀ b, F' b → Fall F β st b ∨ (w'.heap.size ≤ b ∧ b < w''.heap.size)) ∧ Dr w'.heap.size F' w'' r y := by
  obtain ⟨h1, h2⟩ := snapArgs_sound hs
  have h' := h.later hw'
  have hA : (args.map a.eval) = ((args.toList.map a.eval).toArray) := by apply Array.ext'; simp
  rw [hA]
  refine (hG f as _ hg).2 rfl (Fall F β st) w' _ (Fall_fb h') (fun β' g => ?_) (by simp [h1]) fun j hj => ?_
  · rw [← hgl]
    exact (h'.gl g).mono ⟨Nat.le_refl _, fun k hk _ => ⟨.inl hk, rfl⟩⟩ (Nat.le_refl _) (fun b hb => absurd hb (Nat.not_lt_zero _))
  have hj' : j < args.toList.length := by omega
  have hd := snap_sound h' (h'.ev (args.toList[j])) (h2 j _ (List.getElem?_eq_getElem hj'))
  have hj'' : j < args.size := by simpa using hj'
  simpa [List.getD, hj', hj''] using hd
theorem vals_map (h : Rel w0 F0 F β st a w) : ∀ {l : List Operand} {vs : List Value}, vals (l.map st.ev) = some vs → l.map a.eval = vs
  | [], vs, hv => by simp [vals] at hv; subst hv; rfl
  | x :: l, vs, hv => by
    simp only [List.map_cons, vals] at hv
    split at hv
    · rename_i y ys hy hys
      simp at hv; subst hv
      rw [List.map_cons, V_val (h.ev x) hy, vals_map h hys]
    · cases hv
theorem val_D {x : AV} {z : Value} (h : x.val = some z) : D F w x z := by
  cases x <;> simp [AV.val] at h
  · subst h; exact .v _
  · rename_i cs
    split at h
    · rename_i vs hvs
      simp at h; subst h
      obtain ⟨h1, h2⟩ := val1s_some hvs
      refine .agg _ _ (by simp [h1]) fun j hj => ?_
      have := h2 j hj
      cases hc : cs.getD j .undef <;> simp only [hc, AV.val1] at this <;> try (cases this; done)
      rename_i q
      simp at this
      have hq : vs.toArray.getD j undef = q := by simpa [List.getD, Array.getD, show j < vs.length by omega] using this.symm
      rw [hq]; exact .v _
    · cases h
theorem vals_some : ∀ {vs : List AV} {l : List Value}, vals vs = some l → l.length = vs.length ∧ ∀ j, j < vs.length → (vs.getD j .undef).val = some (l.getD j undef)
  | [], l, h => by simp [vals] at h; subst h; simp
  | c :: cs, l, h => by
    simp only [vals] at h
    split at h
    · rename_i v vs' hv hvs
      simp at h; subst h
      obtain ⟨h1, h2⟩ := vals_some hvs
      refine ⟨by simp [h1], fun j hj => ?_⟩
      cases j with
      | zero => simpa using hv
      | succ j => simpa using h2 j (by simpa using hj)
    · cases h
theorem flat_D {x : AV} {z : Value} (h : flatR x = some z) : D F w x z := by
  unfold flatR at h
  split at h
  · rename_i vs
    split at h
    · rename_i l hl
      simp at h; subst h
      obtain ⟨h1, h2⟩ := vals_some hl
      refine .tup _ _ (by simp [h1]) fun j hj => ?_
      have := val_D (F := F) (w := w) (h2 j hj)
      simpa [List.getD, Array.getD, show j < l.length by omega] using this
    · cases h
  · exact val_D h
theorem flatR_D {r : AV} {y z : Value} (h : D F w r y) (hf : flatR r = some z) : y = z := by
  unfold flatR at hf
  split at hf
  · rename_i vs
    cases h with
    | tup _ ys hl hc =>
      split at hf
      · rename_i l hv
        simp at hf; subst hf
        obtain ⟨h1, h2⟩ := vals_some hv
        congr 1
        apply Array.ext
        · simp [hl, h1]
        · intro j hj hj'
          have := V_val (β := ⟨fun _ => 0, fun _ => undef⟩) (m := 0) (.ofD (hc j (by omega))) (h2 j (by omega))
          simpa [List.getD, Array.getD, hj, show j < l.length by omega] using this
      · cases hf
  · exact V_val (β := ⟨fun _ => 0, fun _ => undef⟩) (m := 0) (.ofD h) hf
theorem flatR_Dr {base : Nat} {r : AV} {y z : Value} (h : Dr base F w r y) (hf : flatR r = some z) : y = z := by
  rcases h with (h | ⟨e, t, xs, rfl, _⟩) | ⟨cs, ys, rfl, rfl, hl, h, _⟩
  · exact flatR_D h hf
  · simp [flatR, AV.val] at hf
  · refine flatR_D (F := F) (w := w) (.tup cs ys hl fun j hj => ?_) hf
    rcases h j hj with h | ⟨e, t, xs, hx, _⟩
    · exact h
    · exfalso
      simp only [flatR] at hf
      split at hf
      · rename_i l hv
        have := (vals_some hv).2 j hj
        rw [hx] at this
        simp [AV.val] at this
      · cases hf
theorem run_call {o : Oper} {f : FuncId} {args : Array Operand} {tys : Array TypeId} (hop : o.op = .call { callee := .value (.func f), args, argTypes := tys }) {fn : Func} (hfn : P.funcs[f]? = some fn) (hne : (fn.name == "runtime.NumGoroutine") = false) (hb : fn.body.isNone = false) (w' : World) :
    (execOp a.eval o).run P w' = .ok (.enter f (args.map a.eval)) w' := by
  have hne' : ¬ fn.name = "runtime.NumGoroutine" := by simpa using hne
  have hb' : ¬ fn.body = none := fun e => by rw [e] at hb; cases hb
  simp [execOp, hop, resolve, Act.eval, Deferred.ofValue, invoke, callFunc, Sem.run_bind, run_program, hfn, hne', hb']
theorem evT_sound (hG : GOk P GL G) (h : Rel w0 F0 F β st a w) (hgl : st.gl = GL) {o : Oper} {k : AV → Option AV} {r : AV} (hr : evT P G st o k = some r) : ∃ x, TellsQ P F β st.heap.length o a w x ∧ k x = some r := by
  unfold evT at hr
  split at hr
  · rename_i c x y hop
    split at hr
    · rename_i t hc
      have hv := h.ev c; rw [hc] at hv
      have hv := V_v hv
      cases t
      · exact ⟨st.ev y, tells_q ⟨_, h.ev y, fun w' _ => by simp [execOp, hop, hv, asBool]⟩, hr⟩
      · exact ⟨st.ev x, tells_q ⟨_, h.ev x, fun w' _ => by simp [execOp, hop, hv, asBool]⟩, hr⟩
    · cases hr
  · rename_i t x i hop
    split at hr
    · rename_i e ty xs kd n hu hx hi
      split at hr
      · rename_i hs
        have hv := h.ev x; rw [hx] at hv
        have hiv := h.ev i; rw [hi] at hiv
        cases hin : inR n xs.length with
        | false => rw [hin] at hr; cases hr
        | true =>
          rw [hin] at hr
          obtain ⟨y, hy, hrun⟩ := indexAddr_sound (P := P) (F := F) (w := w) (β := β) (m := st.heap.length) (k := kd) hu (Nat.eq_of_beq_eq_true hs) hin (V_sl hv)
          exact ⟨_, tells_q ⟨y, hy, fun w' _ => by simp [execOp, hop, V_v hiv, Sem.run_bind, hrun w']⟩, hr⟩
      · cases hr
    · rename_i e b kd n hu hx hi
      have hv := h.ev x; rw [hx] at hv
      have hiv := h.ev i; rw [hi] at hiv
      obtain ⟨hbm, hvy, _⟩ := V_own hv
      split at hr
      · rename_i e' ty xs hb
        split at hr
        · rename_i hs
          cases hin : inR n xs.length with
          | false => rw [hin] at hr; cases hr
          | true =>
            rw [hin] at hr
            obtain ⟨y, hy, hrun⟩ := indexOwn_sound (P := P) (F := F) (w := w) (β := β) (m := st.heap.length) (k := kd) hu (Nat.eq_of_beq_eq_true hs) hin hbm (h.blk b _ hb)
            exact ⟨_, tells_q ⟨y, hy, fun w' _ => by simp [execOp, hop, hvy, V_v hiv, Sem.run_bind, hrun w']⟩, hr⟩
        · cases hr
      · rename_i ty xs hb
        split at hr
        · rename_i hs
          cases hin : inR n xs.length with
          | false => rw [hin] at hr; cases hr
          | true =>
            rw [hin] at hr
            obtain ⟨y, hy, hrun⟩ := indexAddr_sound (P := P) (F := F) (w := w) (β := β) (m := st.heap.length) (k := kd) hu (Nat.eq_of_beq_eq_true hs) hin (show D F w (.sl ty xs) (β.v b) from h.blk b _ hb)
            exact ⟨_, tells_q ⟨y, hy, fun w' _ => by simp [execOp, hop, hvy, V_v hiv, Sem.run_bind, hrun w']⟩, hr⟩
        · cases hr
      · cases hr
    · cases hr
  · rename_i t x i hop
    split at hr
    · rename_i s kd n hu hx hi
      have hv := h.ev x; rw [hx] at hv
      have hiv := h.ev i; rw [hi] at hiv
      cases hin : inR n s.size with
      | false => rw [hin] at hr; cases hr
      | true =>
        rw [hin] at hr
        obtain ⟨b, hb, he⟩ := byte_at s n hin
        have h0 := (inR_iff.1 hin).1
        exact ⟨_, tells_q ⟨_, .ofD (.v _), fun w' _ => by simp [execOp, hop, V_v hiv, V_v hv, Instr.index, asIntOf, Sem.run_bind, run_underlying hu w', h0, hb, he]⟩, hr⟩
    · cases hr
  · rename_i t x lo hi hop
    split at hr
    · rename_i ty xs hx
      have hv := h.ev x; rw [hx] at hv
      split at hr
      · rename_i e l hh hu hlo hhi
        split at hr
        · rename_i hs
          cases hin : inS l hh xs.length with
          | false => rw [hin] at hr; cases hr
          | true =>
            rw [hin] at hr
            obtain ⟨y, hy, hrun⟩ := slice_sound (P := P) hu (Nat.eq_of_beq_eq_true hs) (V_sl hv) (bnd_sound h hlo) (bnd_sound h hhi) hin
            exact ⟨_, tells_q ⟨y, .ofD hy, fun w' _ => by simp [execOp, hop, Sem.run_bind, hrun w']⟩, hr⟩
        · cases hr
      · cases hr
    · rename_i s hx
      have hv := h.ev x; rw [hx] at hv
      split at hr
      · rename_i l hh hu hlo hhi
        cases hin : inS l hh s.size with
        | false => rw [hin] at hr; cases hr
        | true =>
          rw [hin] at hr
          obtain ⟨h0, h1, h2⟩ := inS_iff.1 hin
          refine ⟨_, tells_q ⟨_, .ofD (.v _), fun w' _ => ?_⟩, hr⟩
          simp [execOp, hop, V_v hv, Instr.sliceAt, Instr.slice, Sem.run_bind, run_underlying hu w', run_bounds (P := P) (bnd_sound h hlo) (bnd_sound h hhi) h0 h1 h2 (Nat.le_refl _) w']
      · cases hr
    · cases hr
  · rename_i args tys hop
    split at hr
    · rename_i x t hx ht
      split at hr
      · rename_i y hy
        have e1 : args = #[x] := by apply Array.ext'; simpa using hx
        have e2 : tys = #[t] := by apply Array.ext'; simpa using ht
        subst e1 e2
        refine ⟨y, tells_q ?_, hr⟩
        have hv := h.ev x
        unfold evLen at hy
        split at hy
        · rename_i ty xs hxe
          rw [hxe] at hv
          obtain ⟨A, c, hA⟩ := D_slice (V_sl hv)
          split at hy
          · rename_i e hu
            simp at hy; subst hy
            exact ⟨_, .ofD (.v _), fun w' _ => by simp [execOp, hop, resolve, invoke, builtin, Builtin.len_, Sem.run_bind, run_underlying hu w', hA, goInt]⟩
          · cases hy
        · rename_i b hxe
          rw [hxe] at hv
          obtain ⟨hbm, hvy, _⟩ := V_own hv
          split at hy
          · rename_i e e' ty xs hu hb
            simp at hy; subst hy
            have hd : D (Fo F (β.v b)) w (.sl ty xs) (β.v b) := arr_D (h.blk b _ hb) (fun k hk => .inl hk) (fun k hk => .inr hk)
            obtain ⟨A, c, hA⟩ := D_slice hd
            exact ⟨_, .ofD (.v _), fun w' _ => by simp [execOp, hop, resolve, invoke, builtin, Builtin.len_, Sem.run_bind, run_underlying hu w', hvy, hA, goInt]⟩
          · rename_i e ty xs hu hb
            simp at hy; subst hy
            obtain ⟨A, c, hA⟩ := D_slice (show D F w (.sl ty xs) (β.v b) from h.blk b _ hb)
            exact ⟨_, .ofD (.v _), fun w' _ => by simp [execOp, hop, resolve, invoke, builtin, Builtin.len_, Sem.run_bind, run_underlying hu w', hvy, hA, goInt]⟩
          · cases hy
        · rename_i z hxe
          rw [hxe] at hv
          cases hc : comp P (Builtin.len_ #[t] 0 #[z]) with
          | none => simp [hc] at hy
          | some q =>
            simp [hc] at hy; subst hy
            have hl : ∀ ty, Builtin.len_ #[t] ty #[z] = Builtin.len_ #[t] 0 #[z] := fun _ => rfl
            exact ⟨q, .ofD (D_ofVal q), fun w' _ => by simp [execOp, hop, resolve, invoke, builtin, Sem.run_bind, V_v hv, hl, comp_run hc w']⟩
        · cases hy
      · cases hr
    · cases hr
  · rename_i args tys hop
    split at hr
    · rename_i vs hvs
      split at hr
      · rename_i q hq
        refine ⟨_, tells_q ⟨q, .ofD (D_ofVal q), fun w' _ => ?_⟩, hr⟩
        have hA : args.map a.eval = vs.toArray := by
          have := vals_map h hvs
          apply Array.ext'
          simpa using this
        simp [execOp, hop, resolve, invoke, builtin, Sem.run_bind, hA, comp_run hq w']
      · cases hr
    · cases hr
  · rename_i args tys hop
    split at hr
    · rename_i vs hvs
      split at hr
      · rename_i q hq
        refine ⟨_, tells_q ⟨q, .ofD (D_ofVal q), fun w' _ => ?_⟩, hr⟩
        have hA : args.map a.eval = vs.toArray := by
          have := vals_map h hvs
          apply Array.ext'
          simpa using this
        simp [execOp, hop, resolve, invoke, builtin, Sem.run_bind, hA, comp_run hq w']
      · cases hr
    · cases hr
  · rename_i f args tys hop
    split at hr
    · rename_i as has
      split at hr
      · rename_i c x hg
        split at hr
        · rename_i z hz
          obtain ⟨⟨fn, hfn, hne, hbody⟩, _⟩ := hG f as _ hg
          cases c with
          | false => cases hr
          | true =>
          refine ⟨x, ⟨z, ?_, fun w' hw' => ?_⟩, hr⟩
          · exact .ofD (flat_D hz)
          · have hc := call_sound hG h hgl has hg hw'
            unfold Oper.quietAt
            rw [run_call hop hfn hne hbody w']
            exact ⟨rfl, hc.mono fun e w'' ⟨y, he, hb, F', _, _, hd⟩ => ⟨by rw [he, flatR_Dr hd hz], hw'.trans (hb.mono hw'.size)⟩⟩
        · cases hr
      · cases hr
    · cases hr
  · rename_i hq
    split at hr
    · rename_i x hx
      exact ⟨x, tells_q (evQ_sound h hx), hr⟩
    · cases hr
/-! ### A slot written -/
theorem get_set (st : St) (d t : Nat) (x : AV) : (st.set d x).get t = if t = d ∧ d < st.env.length then x else st.get t := by
  unfold St.get St.set
  simp only [List.getD, List.getElem?_set]
  by_cases h : d = t
  · subst h
    by_cases h' : d < st.env.length
    · simp [h']
    · simp [h', List.getElem?_eq_none (Nat.le_of_not_lt h')]
  · simp [h, show ¬ t = d from fun e => h e.symm]
theorem Rel.put (h : Rel w0 F0 F β st a w) (d : Option Nat) {x : AV} {y : Value} (hxy : V F w β st.heap.length x y) : Rel w0 F0 F β (st.put d x) (a.put d y) w := by
  cases d with
  | none => exact h
  | some d =>
    refine ⟨?_, fun t => ?_, h.gl, h.defers, h.below, h.fb, h.fo, h.blk, h.lo, h.inj, h.sep⟩
    · simp [St.put, St.set, Act.put, h.len]
    · show V F w β st.heap.length ((st.set d x).get t) _
      rw [get_set]
      simp only [Act.put, Array.getD_eq_getD_getElem?, Array.getElem?_setIfInBounds]
      by_cases ht : t = d
      · subst ht
        by_cases hd : t < st.env.length
        · have hd' : t < a.tmps.size := by rw [← h.len]; exact hd
          simp only [hd, and_self, if_true, hd', Option.getD_some]
          exact hxy
        · have hd' : ¬ t < a.tmps.size := by rw [← h.len]; exact hd
          simp only [hd, and_false, if_false, hd', if_true, Option.getD_none]
          have := h.env t
          rw [Array.getD_eq_getD_getElem?, Array.getElem?_eq_none (by omega)] at this
          exact this
      · rw [if_neg (fun e => ht e.1), if_neg (fun e => ht e.symm)]
        have := h.env t
        rwa [Array.getD_eq_getD_getElem?] at this
theorem set_get {st : St} {d : Nat} {x : AV} (h : st.get d = x) : st.set d x = st := by
  subst h
  unfold St.set St.get
  have : st.env.set d (st.env.getD d .undef) = st.env := by
    by_cases hd : d < st.env.length
    · simp [List.getD, hd]
    · rw [List.set_eq_of_length_le (Nat.le_of_not_lt hd)]
  rw [this]
theorem slot_bool (h : Rel w0 F0 F β st a w) {d : Nat} {t : Bool} (hd : st.get d = .v (.bool t)) : a.tmps[d]? = some (.bool t) := by
  have hv := h.env d
  rw [hd] at hv
  have := V_v hv
  rw [Array.getD_eq_getD_getElem?] at this
  cases hq : a.tmps[d]? with
  | none => rw [hq] at this; simp [undef] at this
  | some z => rw [hq] at this; simpa using this
theorem undef_put (h : Rel w0 F0 F β st a w) (d : Option Nat) : Rel w0 F0 F β (st.put d .undef) (a.put d undef) w := h.put d (.inl rfl)
/-- A quiet operation carried out. -/
theorem wp_tellsQ (h : Rel w0 F0 F β st a w) {o : Oper} {x : AV} (ht : TellsQ P F β st.heap.length o a w x) {next : Act → World → Prop} {Q : Exit → Act → World → Prop}
    (hk : ∀ a' w', Rel w0 F0 F β (st.put o.dst x) a' w' → next a' w') : o.wp P a w next Q := by
  obtain ⟨y, hy, hq⟩ := ht
  refine Oper.wp_of_quiet (C := Below w.heap.size w) (K := fun a' => a' = a.put o.dst y) (Below.refl _ _) (fun a' w' hw' he => ?_) ⟨y, hq, rfl⟩
  subst he
  exact hk _ _ (((h.put o.dst hy).later hw'))
end
end Go.Proofs.Ythobdipfccldgaa
