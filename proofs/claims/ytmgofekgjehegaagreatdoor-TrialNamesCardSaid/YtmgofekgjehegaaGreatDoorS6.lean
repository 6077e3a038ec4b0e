/- The soundness of the abstract evaluator, part 6: rows made, appended to, written. -/
import Derived.Test.YtmgofekgjehegaaGreatDoorS5
namespace Go.Proofs.YtmgofekgjehegaaGreatDoor
open Go.RowKit
set_option linter.unusedVariables false
set_option linter.unusedSimpArgs false
section
variable {P : Program} {B : Bs} {F : Nat → Prop} {β : Gh} {st : St} {a : Act} {w : World}
theorem al_push (st : St) (k : Blk) (d : Option Nat) : Al st (st.push k d) := by cases d <;> exact ⟨rfl, rfl, by simp [St.push, St.put, St.set]⟩
theorem made_getD (z : Array Value) (n k : Nat) (hk : k < n) (hz : 0 < z.size) : (madeCells z n).toList.getD k undef = z.getD (k % z.size) undef := by
  have hm : k % z.size < z.size := Nat.mod_lt _ hz
  simp [madeCells, List.getD, hk, getElem!_def, hm, Array.getD]
theorem make_sound (h : Rel B F β st a w) {o : Oper} {t e : TypeId} {l c : Operand} (hop : o.op = .makeSlice t l c) (hu : P.underlying t = some (.slice e)) {n : Int} (hl : st.ev l = .v (.int .i64 n)) (hc : st.ev c = .v (.int .i64 n)) {ty : Ty} {z : List AV} {i : TypeInfo}
    (hz : zeroOf P e = some z) (hi : P.info? e = some i) {x : ty.T} (hx : ty.dec z = some x) (hs : i.size = ty.sz) (hb : 0 < i.bytes) (h0 : 0 ≤ n) (hle : n.toNat * i.bytes ≤ 140737488355328) {next : Act → World → Prop} {Q : Exit → Act → World → Prop}
    (hk : ∀ u w' β', Rel B F β' (st.push (.arr e ty (List.replicate n.toNat x)) o.dst) (a.put o.dst u) w' → next (a.put o.dst u) w') : o.wp P a w next Q := by
  obtain ⟨i', zv, hi', hzv, rfl⟩ := zero_info hz
  obtain rfl : i = i' := by rw [hi] at hi'; simpa using hi'
  obtain ⟨d1, d2⟩ := dec_fits (F := F) (w := w) (β := Gh.nil) hx
  have hzs : zv.cells.size = ty.sz := by simpa using d1
  have hn1 : n.toNat ≤ n.toNat * i.bytes := Nat.le_mul_of_pos_right _ hb
  obtain ⟨w', hrun, hown, hgrow⟩ := run_make_full (P := P) w 0 t e i zv ty.sz hu hi hzv hs .i64 .i64 n.toNat (by rw [Nat.mul_comm]; omega) (by simp only [maxLen]; omega) (Nat.zero_le _)
  have hl' : a.eval l = .int .i64 n := by have := h.ev l; rw [hl] at this; exact V_v this
  have hc' : a.eval c = .int .i64 n := by have := h.ev c; rw [hc] at this; exact V_v this
  obtain ⟨β', hR, _⟩ := h.pushRow (row := none) (xs := List.replicate n.toNat x) (by simpa using hown) hgrow (by simp; omega) (fun p hp => by cases hp) (fun p hp => by right; simp [Value.ownBlock] at hp; omega) (fun i j hi' hj => by
      have hi'' : i < n.toNat := by simpa using hi'
      rw [made_getD _ _ _ (idx_lt hi'' hj) (by rw [hzs]; exact sz_pos ty), hzs, Nat.mul_comm i, Nat.mul_add_mod, Nat.mod_eq_of_lt hj]
      have e : nth (List.replicate n.toNat x) i = x := by simp [nth, List.getD, hi'']
      rw [e]
      refine d2 j _ (by rw [d1]; exact hj) ?_
      have hj' : j < zv.cells.size := by omega
      simp only [List.getD, List.getElem?_map, Array.getElem?_toList, hj', Array.getElem?_eq_getElem, Option.map_some, Option.getD_some, Array.getD, dite_true]
      exact .v _) o.dst
  refine wp_value (w' := w') (y := .slice (some ⟨w.heap.size, 0, none⟩) n.toNat n.toNat) ?_ (hk _ _ _ hR)
  rw [Int.toNat_of_nonneg h0] at hrun
  simp [execOp, hop, hl', hc', Sem.run_bind, hrun]
theorem lit_sound (h : Rel B F β st a w) {o : Oper} {t e : TypeId} {len : Nat} {parts : Array (Nat × Operand)} (hop : o.op = .buildSlice t len parts) (hu : P.underlying t = some (.slice e)) {ty : Ty} {z cs zs : List AV} {i : TypeInfo} {st1 : St} {xs : List ty.T}
    (hz : zeroOf P e = some z) (hi : P.info? e = some i) (hs : i.size = ty.sz) (hle : len ≤ 4096) (hf : fillAV (fun j => some (j * i.size, i.size)) (List.replicate len z).flatten (evParts st parts.toList) = some cs) (hzr : st.frzs cs = some (zs, st1)) (hd : decAll ty len zs = some xs)
    (hzl : z.length = ty.sz) {next : Act → World → Prop} {Q : Exit → Act → World → Prop}
    (hk : ∀ u w' F' β', Rel B F' β' (st1.push (.arr e ty xs) o.dst) (a.put o.dst u) w' → Al st st1 → next (a.put o.dst u) w') : o.wp P a w next Q := by
  obtain ⟨i', zv, hi', hzv, rfl⟩ := zero_info hz
  obtain rfl : i = i' := by rw [hi] at hi'; simpa using hi'
  have hzs : zv.cells.size = ty.sz := by simpa using hzl
  have hsp := sz_pos ty
  have hfl : (List.replicate len (zv.cells.toList.map AV.v)).flatten.length = len * ty.sz := by simp [hzs]
  have hfg : ∀ j, j < len * ty.sz → (List.replicate len (zv.cells.toList.map AV.v)).flatten.getD j .undef = .v (zv.cells.getD (j % ty.sz) undef) := by
    clear hf hle hd hop
    induction len with
    | zero => intro j hj; simp at hj
    | succ n ih =>
      intro j hj
      simp only [List.replicate_succ, List.flatten_cons, List.getD]
      by_cases hjs : j < ty.sz
      · rw [List.getElem?_append_left (by simp; omega), Nat.mod_eq_of_lt hjs]
        simp [show j < zv.cells.size by omega, Array.getD]
      · rw [List.getElem?_append_right (by simp; omega)]
        have := ih (by simp [hzs]) (j - ty.sz) (by rw [Nat.add_mul, Nat.one_mul] at hj; omega)
        simp only [List.getD] at this
        simp only [List.length_map, Array.length_toList, hzs]
        rw [this, ← Nat.mod_eq_sub_mod (by omega)]
  obtain ⟨ys, q1, q2, q3⟩ := fill_sound h _ parts.toList _ cs (madeCells zv.cells (len * ty.sz)) (by rw [hfl, size_madeCells]) (fun j hj => by
    rw [hfl] at hj
    rw [hfg j hj]
    have := made_getD zv.cells (len * ty.sz) j hj (by omega)
    have e : (madeCells zv.cells (len * ty.sz)).getD j undef = zv.cells.getD (j % ty.sz) undef := by
      rw [← hzs, ← this]; simp [List.getD, Array.getD_eq_getD_getElem?]
      rw [hzs]
    rw [e]
    exact .v _) hf
  obtain ⟨F1, β1, z1, zl, zd⟩ := frzs_sound h hzr
  obtain ⟨x1, x2, x3⟩ := decAll_fits (F := F1) (w := w) (β := Gh.nil) hd
  have hysz : ys.size = len * ty.sz := by omega
  have hown : (w.alloc (.cells ys e)).ownsRow 0 e ty.sz (.slice (some ⟨w.heap.size, 0, none⟩) len len) xs.length ys.toList := by
    rw [x1]
    exact ⟨by simpa using hysz, .inr ⟨w.heap.size, len, ys, rfl, Nat.zero_le _, heap_alloc_new w _, Nat.le_refl _, Nat.le_trans hle (by decide), hysz, List.take_of_length_le (by simp [hysz])⟩⟩
  obtain ⟨β', hR, _⟩ := z1.rel.pushRow (row := none) hown (World.grownBy_alloc w _ none) (by omega) (fun p hp => by cases hp) (fun p hp => .inr (Nat.le_of_eq (by simpa [Value.ownBlock] using hp))) (fun i j hi' hj => by
      refine x3 i j (by omega) hj _ ?_
      have hij := idx_lt (show i < len by omega) hj
      have := zd (fun j => ys.getD j undef) q3 (i * ty.sz + j) (by omega)
      simpa [List.getD, Array.getD_eq_getD_getElem?] using this) o.dst
  refine wp_value (w' := w.alloc (.cells ys e)) (y := .slice (some ⟨w.heap.size, 0, none⟩) len len) ?_ (hk _ _ _ _ hR z1.al)
  have hsm : ¬ 2 ^ 24 < len * ty.sz := by
    have := sz_le ty
    have := Nat.mul_le_mul hle this
    omega
  have q1' : Instr.fill (fun j => some (j * ty.sz, ty.sz)) (madeCells zv.cells (len * ty.sz)) (parts.toList.map fun p => (p.1, a.eval p.2)) = some ys := by rw [hs] at q1; exact q1
  have q1'' : Instr.fill (fun j => some (j * ty.sz, ty.sz)) ((Array.range (len * ty.sz)).map (zv.cells[· % zv.cells.size]!)) (parts.map fun (i, x) => (i, a.eval x)).toList = some ys := by
    rw [Array.toList_map]; exact q1'
  have hfin : ∀ z0 : Array Value, (len * ty.sz ≠ 0 → z0 = zv.cells) → Instr.fill (fun j => some (j * ty.sz, ty.sz)) ((Array.range (len * ty.sz)).map (z0[· % z0.size]!)) (parts.map fun (i, x) => (i, a.eval x)).toList = some ys := by
    intro z0 hz0
    by_cases hl0 : len * ty.sz = 0
    · rw [hl0] at q1'' ⊢
      rw [show Array.range 0 = #[] from rfl] at q1'' ⊢
      simpa using q1''
    · rw [hz0 hl0]; exact q1''
  simp only [execOp, hop, Instr.buildSlice, Sem.run_bind, run_underlying hu w, Result.andThen_ok, run_sizeOf hi w, hs, if_neg hsm]
  by_cases hl0 : len * ty.sz = 0
  · have := hfin #[] (fun h => absurd hl0 h)
    rw [if_pos hl0]
    simp only [Sem.run_bind, Sem.run_pure, Result.andThen_ok, this]
    simp [newRow, newObj, Sem.run, Sem.run_bind]
  · have hzr : (zeroValue e).run P w = .ok zv w := by simp [zeroValue, typeInfo, hi, hzv, Sem.run_bind, run_program]
    have := hfin zv.cells (fun _ => rfl)
    rw [if_neg hl0]
    simp only [Sem.run_bind, hzr, Sem.run_pure, Result.andThen_ok, this]
    simp [newRow, newObj, Sem.run, Sem.run_bind]
theorem app_sound (h : Rel B F β st a w) {o : Oper} {t e : TypeId} {s x : Operand} (hop : o.op = .call { callee := .builtin .append, args := #[s, x], argTypes := #[t, t] }) (hu : P.underlying t = some (.slice e)) {ty : Ty} {i : TypeInfo}
    (hi : P.info? e = some i) (hs : i.size = ty.sz) (hb : 0 < i.bytes) {zv : Value} (hzv : i.zero = some zv) (hzs : zv.cells.size = ty.sz) {xs ys : List ty.T} {st1 : St} (h1 : st.base e ty (st.ev s) = some (xs, st1)) (h2 : st1.src ty (st.ev x) = some ys)
    (hle : (xs.length + ys.length) * i.bytes ≤ 140737488355328) {next : Act → World → Prop} {Q : Exit → Act → World → Prop}
    (hk : ∀ u w' β', Rel B F β' (st1.push (.arr e ty (xs ++ ys)) o.dst) (a.put o.dst u) w' → Al st st1 → next (a.put o.dst u) w') : o.wp P a w next Q := by
  -- what is added to
  have hbase : ∃ Vs, w.ownsRow 0 e ty.sz (a.eval s) xs.length Vs ∧ (∀ i j, i < xs.length → j < ty.sz → D F w ((ty.enc (nth xs i)).getD j .undef) (Vs.getD (i * ty.sz + j) undef)) ∧ Rel B F β st1 a w ∧ Al st st1 ∧
      (∀ p, (a.eval s).ownBlock = some p → (B.M p ∨ B.w.heap.size ≤ p) ∧ ¬ F p ∧ ∀ b k s', st1.heap[b]? = some k → β.o p = some (b, s') → k = .dead) := by
    have hv := h.ev s
    unfold St.base at h1
    split at h1
    · rename_i b hse
      rw [hse] at hv
      obtain ⟨_, hvy, _⟩ := V_own hv
      split at h1
      · rename_i e' t' xs' hb'
        split at h1
        · rename_i xs1 he hx
          simp at h1; obtain ⟨rfl, rfl⟩ := h1
          have he' : e' = e := Nat.eq_of_beq_eq_true he
          subst he'
          unfold castL at hx
          split at hx
          · rename_i e1 _
            subst e1
            simp at hx; subst hx
            obtain ⟨Vs, g1, g2, g4, g3⟩ := h.heap.blk b _ hb'
            rw [hvy]
            refine ⟨Vs, g1, g3, h.kill b, ⟨rfl, rfl, by simp⟩, fun p hp => ?_⟩
            have hp' := g4 p hp
            refine ⟨h.lo p _ hp', h.heap.sep p _ hp', fun c kc s' hc hpc => ?_⟩
            rw [hp'] at hpc
            simp at hpc
            obtain ⟨rfl, _⟩ := hpc
            exact heap_get_set_same hc
          · cases hx
        · cases h1
      · cases h1
    · rename_i hse
      rw [hse] at hv
      simp at h1; obtain ⟨rfl, rfl⟩ := h1
      rw [V_v hv]
      exact ⟨[], World.ownsRow_nil w _ e ty.sz, fun i j hi => by simp at hi, h, .refl _, fun p hp => by simp [Value.ownBlock] at hp⟩
    · cases h1
  obtain ⟨Vs, hown, hD1, hR1, hgl, hsepv⟩ := hbase
  -- what is read
  have hsrc : ∃ (A : Option Addr) (c : Nat) (news : List Value), a.eval x = .slice A ys.length c ∧ news.length = ys.length * ty.sz ∧ (A = none → ys.length = 0) ∧ (∀ ad, A = some ad → ∀ j u, news[j]? = some u → w.cell? (ad.add j) = some u) ∧
      (∀ i j, i < ys.length → j < ty.sz → D F w ((ty.enc (nth ys i)).getD j .undef) (news.getD (i * ty.sz + j) undef)) := by
    have hv : V F w β (st.ev x) (a.eval x) := h.ev x
    have fromD : ∀ v, D F w (.sl ty ys) v → ∃ (A : Option Addr) (c : Nat) (news : List Value), v = .slice A ys.length c ∧ news.length = ys.length * ty.sz ∧ (A = none → ys.length = 0) ∧ (∀ ad, A = some ad → ∀ j u, news[j]? = some u → w.cell? (ad.add j) = some u) ∧
      (∀ i j, i < ys.length → j < ty.sz → D F w ((ty.enc (nth ys i)).getD j .undef) (news.getD (i * ty.sz + j) undef)) := by
      intro v hd
      cases hd with
      | sl0 _ A c => exact ⟨A, c, [], rfl, by simp, fun _ => rfl, fun ad _ j u hj => by simp at hj, fun i j hi => by simp at hi⟩
      | sl _ _ b o c Y hF hb' hl hcap hc hd =>
        refine ⟨_, c, (List.range (ys.length * ty.sz)).map fun k => Y (k / ty.sz) (k % ty.sz), rfl, by simp, (fun hA => by cases hA), fun ad hA j u hj => ?_, fun i j hi' hj => ?_⟩
        · cases hA
          have hjl : j < ys.length * ty.sz := by
            have := (List.getElem?_eq_some_iff.1 hj).1
            simpa using this
          simp [hjl] at hj
          subst hj
          rw [add_lit]
          have := hc (j / ty.sz) (j % ty.sz) (Nat.div_lt_of_lt_mul (by rw [Nat.mul_comm]; exact hjl)) (Nat.mod_lt _ (sz_pos ty))
          rw [Nat.mul_comm, Nat.div_add_mod] at this
          exact this
        · have hij := idx_lt hi' hj
          have e1 : ((List.range (ys.length * ty.sz)).map fun k => Y (k / ty.sz) (k % ty.sz)).getD (i * ty.sz + j) undef = Y i j := by
            have hd1 : (i * ty.sz + j) / ty.sz = i := by rw [Nat.mul_comm, Nat.mul_add_div (sz_pos ty), Nat.div_eq_of_lt hj]; rfl
            have hd2 : (i * ty.sz + j) % ty.sz = j := by rw [Nat.mul_comm, Nat.mul_add_mod, Nat.mod_eq_of_lt hj]
            simp [List.getD, hij, hd1, hd2]
          rw [e1]
          exact hd i j hi' hj
    unfold St.src at h2
    split at h2
    · rename_i t' xs' hxe
      rw [hxe] at hv
      unfold castL at h2
      split at h2
      · rename_i e1 _
        subst e1
        simp at h2; subst h2
        exact fromD _ (sl_D hv)
      · cases h2
    · rename_i b hxe
      rw [hxe] at hv
      obtain ⟨_, hvy, _⟩ := V_own hv
      split at h2
      · rename_i e' t' xs' hb'
        unfold castL at h2
        split at h2
        · rename_i e1 _
          subst e1
          simp at h2; subst h2
          obtain ⟨Ws, g1, g2, _, g3⟩ := hR1.heap.blk b _ hb'
          obtain ⟨A, c, hA⟩ := owns_slice g1
          refine ⟨A, c, Ws, by rw [hvy, hA], g1.1, fun hA0 => ?_, fun ad hA1 j u hj => ?_, g3⟩
          · rcases g1.2 with ⟨_, h0⟩ | ⟨g, cap, cur, hv', _⟩
            · exact h0
            · rw [hA, hA0] at hv'; cases hv'
          · rcases g1.2 with ⟨hv', _⟩ | ⟨g, cap, cur, hv', _⟩
            · rw [hA, hA1] at hv'; cases hv'
            · obtain ⟨_, hcell⟩ := own_cells g1 hv'
              rw [hA, hA1] at hv'
              cases hv'
              have hjl : j < xs'.length * t'.sz := by rw [← g1.1]; exact (List.getElem?_eq_some_iff.1 hj).1
              rw [add_lit, Nat.zero_add, hcell j hjl, List.getD_eq_getElem?_getD, hj]
              rfl
        · cases h2
      · rename_i t' xs' hb'
        unfold castL at h2
        split at h2
        · rename_i e1 _
          subst e1
          simp at h2; subst h2
          rw [hvy]
          exact fromD _ (hR1.heap.blk b _ hb')
        · cases h2
      · cases h2
    · rename_i c hxe
      rw [hxe] at hv
      simp at h2; subst h2
      rw [V_v hv]
      exact fromD _ (.sl0 ty none c)
    · cases h2
  obtain ⟨A, c, news, hx, hnl, hA0, hA1, hD2⟩ := hsrc
  have hmb : xs.length + ys.length ≤ (xs.length + ys.length) * i.bytes := Nat.le_mul_of_pos_right _ hb
  have h1c : ∀ u ∈ news, u.oneCell' = true := fun u hu => by
    obtain ⟨k, hk', rfl⟩ := List.getElem_of_mem hu
    have hsp := sz_pos ty
    have hkl : k < ys.length * ty.sz := by omega
    have hq : k / ty.sz < ys.length := Nat.div_lt_of_lt_mul (by rw [Nat.mul_comm]; exact hkl)
    have := enc_one (β := Gh.nil) (Nat.mod_lt k hsp) (hD2 (k / ty.sz) (k % ty.sz) hq (Nat.mod_lt k hsp))
    rw [Nat.mul_comm, Nat.div_add_mod, List.getD_eq_getElem?_getD, List.getElem?_eq_getElem hk'] at this
    exact this
  have hrun : ∃ v' w', (Builtin.append_ #[t, t] o.type #[a.eval s, a.eval x]).run P w = .ok v' w' ∧ w'.ownsRow 0 e ty.sz v' (xs.length + ys.length) (Vs ++ news) ∧ w.grownBy w' (a.eval s).ownBlock ∧ (v'.ownBlock = (a.eval s).ownBlock ∨ v'.ownBlock = some w.heap.size) := by
    rw [hx]
    cases A with
    | some ad =>
      obtain ⟨v', w', r1, r2, r3, _, r5⟩ := run_append_own_at (P := P) w 0 t o.type e i zv ty.sz i.bytes hu hi hzv hs rfl hzs (sz_pos ty) _ _ Vs hown ad ys.length c news hnl (hA1 ad rfl) h1c (by simp only [maxLen]; omega) hle (Nat.zero_le _)
      exact ⟨v', w', r1, r2, r3, r5⟩
    | none =>
      have h0 := hA0 rfl
      have hn0 : news = [] := List.eq_nil_of_length_eq_zero (by rw [hnl, h0, Nat.zero_mul])
      refine ⟨a.eval s, w, ?_, by simpa [h0, hn0] using hown, World.grownBy.refl _ _, .inl rfl⟩
      rw [h0]
      rcases hown.2 with ⟨hv, hn⟩ | ⟨g, cap, cur, hv, _, _, hnc, _⟩
      · rw [hv]; simp [Builtin.append_, run_underlying hu, sizeOf, typeInfo, hi, Builtin.lenOf, Builtin.firstCells]
      · rw [hv]; simp [Builtin.append_, run_underlying hu, sizeOf, typeInfo, hi, Builtin.lenOf, Builtin.firstCells, hnc, storeCells]
  obtain ⟨v', w', r1, r2, r3, r4⟩ := hrun
  obtain ⟨β', hR, _⟩ := hR1.pushRow (xs := xs ++ ys) (by simpa using r2) r3 (by simp; omega) hsepv (fun p hp => by
    rcases r4 with r4 | r4
    · exact .inl (r4 ▸ hp)
    · right; rw [r4] at hp; simp at hp; omega) (fun i' j hi' hj => by
      have hVl := hown.1
      by_cases hlt : i' < xs.length
      · have e1 : nth (xs ++ ys) i' = nth xs i' := by simp [nth, List.getD, List.getElem?_append_left hlt]
        have e2 : (Vs ++ news).getD (i' * ty.sz + j) undef = Vs.getD (i' * ty.sz + j) undef := by
          simp only [List.getD]; rw [List.getElem?_append_left (by rw [hVl]; exact idx_lt hlt hj)]
        rw [e1, e2]; exact hD1 i' j hlt hj
      · have e1 : nth (xs ++ ys) i' = nth ys (i' - xs.length) := by simp [nth, List.getD, List.getElem?_append_right (Nat.le_of_not_lt hlt)]
        have e3 : i' * ty.sz + j = xs.length * ty.sz + ((i' - xs.length) * ty.sz + j) := by
          rw [← Nat.add_assoc, ← Nat.add_mul, Nat.add_sub_cancel' (Nat.le_of_not_lt hlt)]
        have e2 : (Vs ++ news).getD (i' * ty.sz + j) undef = news.getD ((i' - xs.length) * ty.sz + j) undef := by
          simp only [List.getD]; rw [List.getElem?_append_right (by rw [hVl, e3]; omega), hVl, e3, Nat.add_sub_cancel_left]
        rw [e1, e2]; exact hD2 _ j (by simp at hi'; omega) hj) o.dst
  refine wp_value (w' := w') (y := v') ?_ (hk _ _ _ hR hgl)
  simp [execOp, hop, resolve, invoke, builtin, Sem.run_bind, r1]
theorem storeEl_sound (h : Rel B F β st a w) {o : Oper} {t e : TypeId} {ad x : Operand} (hop : o.op = .store t ad x) {b sz i off : Nat} (hb : st.ev ad = .oel b sz i off) {L zs cs' : List AV} (hne : L ≠ []) (hL : (st.ev x).cells = some L) {ty : Ty} {ys : List ty.T} (hr : st.heap[b]? = some (.arr e ty ys))
    (hsz : L.length = P.cellsOf t) (hs : ty.sz = sz) {st1 : St} (hz : st.frzs L = some (zs, st1)) {e2 : TypeId} {t2 : Ty} {ys2 : List t2.T} (hr1 : st1.heap[b]? = some (.arr e2 t2 ys2)) (hw : wr (ty.enc (nth ys i)) off zs = some cs') {y : ty.T} (hd : ty.dec cs' = some y) {next : Act → World → Prop} {Q : Exit → Act → World → Prop}
    (hk : ∀ u w' F' β', Rel B F' β' (({ st1 with heap := st1.heap.set b (.arr e ty (ys.set i y)) } : St).put o.dst .undef) (a.put o.dst u) w' → Al st st1 → next (a.put o.dst u) w') : o.wp P a w next Q := by
  have hv := h.ev ad; rw [hb] at hv
  obtain ⟨p, n, c, hbm, hvb, hin, hp⟩ := V_oel hv
  obtain ⟨F1, β1, z1, zl, zd⟩ := frzs_sound h hz
  have hr1' : st1.heap[b]? = some (.arr e ty ys) := by
    have := z1.arr _ _ _ _ hr1
    rw [hr] at this
    rw [hr1]; exact this.symm
  clear hr1
  obtain ⟨Vs, hown, hlen, hob, hD⟩ := z1.rel.heap.blk b _ hr1'
  have hvb : β1.v b = .slice (some ⟨p, 0, none⟩) n c := by rw [z1.v]; exact hvb
  obtain ⟨g1, g2⟩ := V_cells (h.ev x) hL
  obtain ⟨k1, k2, k3⟩ := wr_spec hw
  rw [enc_len] at k1
  have hzl : zs.length = L.length := zl
  have hzn : zs ≠ [] := fun e => hne (List.eq_nil_of_length_eq_zero (by rw [← hzl, e]; rfl))
  have k2 : off + zs.length ≤ ty.sz := by rcases k2 with k2 | k2; exact absurd k2 hzn; rw [enc_len] at k2; exact k2
  have hpos : 0 < L.length := List.length_pos_iff.2 hne
  obtain ⟨it, hit, hits⟩ := info_of hsz.symm hpos
  rcases hown.2 with ⟨hvn, _⟩ | ⟨g, cap, cur, hvg, hg, hh, hnc, hcm, hcs, htk⟩
  · rw [hvb] at hvn; cases hvn
  rw [hvb] at hvg
  simp only [Value.slice.injEq, Option.some.injEq, Addr.mk.injEq, true_and, and_true] at hvg
  obtain ⟨rfl, rfl, rfl⟩ := hvg
  let vs := (a.eval x).cells.toList
  have hvl : vs.length = L.length := by simpa [vs] using g1
  have hvd : ∀ j, j < L.length → D F1 w (zs.getD j .undef) (vs.getD j undef) := fun j hj => by
    have := zd (fun j => (a.eval x).cells.getD j undef) (fun j hj => (g2 j hj).1) j hj
    simpa [vs, List.getD, Array.getD_eq_getD_getElem?] using this
  have hone : ∀ v ∈ vs, v.oneCell' = true := fun v hv => by
    obtain ⟨j, hj, rfl⟩ := List.getElem_of_mem hv
    have hj' : j < (a.eval x).cells.size := by simpa [vs] using hj
    have := (g2 j (by omega)).2
    simpa [vs, Array.getD, hj'] using this
  have hfit : i * ty.sz + ty.sz ≤ ys.length * ty.sz := by rw [← Nat.succ_mul]; exact Nat.mul_le_mul_right _ hin
  have hcapl : ys.length * ty.sz ≤ c * ty.sz := Nat.mul_le_mul_right _ hnc
  have hrun := run_storeCells_at P p (i * ty.sz + off) e vs 0 cur w hh (by omega) hone
  simp only [Nat.add_zero] at hrun
  generalize hw' : w.setRow p _ = w' at hrun
  have hbk : ∀ k, k ≠ p → w'.heap[k]? = w.heap[k]? := fun k hk => by rw [← hw']; exact setRow_other w _ k _ hk
  have hszw : w'.heap.size = w.heap.size := by rw [← hw']; simp
  have hpb : β1.o p = some (b, none) := hob p (by simp [hvb, Value.ownBlock])
  have hR1 := z1.rel
  have hrow : w'.heap[p]? = some (.cells (cur.toList.take (i * ty.sz + off) ++ vs ++ cur.toList.drop (i * ty.sz + off + vs.length)).toArray e (0, 0)) := by rw [← hw']; exact setRow_heap w _ cur _ e _ hh
  have hlt := (List.getElem?_eq_some_iff.1 hr1').1
  have hRel : Rel B F1 β1 { st1 with heap := st1.heap.set b (.arr e ty (ys.set i y)) } a w' := by
    refine hR1.write hlt hpb (by rw [← hw']; rfl) (by rw [← hw']; rfl) (by rw [← hw']; rfl) hszw hbk fun hE => ?_
    refine ⟨(cur.toList.take (i * ty.sz + off) ++ vs ++ cur.toList.drop (i * ty.sz + off + vs.length)).take (ys.length * ty.sz), ?_, by simpa using hlen, hob, fun i' j hi' hj => ?_⟩
    · rw [List.length_set, hvb]
      refine ⟨by simp; omega, .inr ⟨p, c, _, rfl, hg, hrow, hnc, hcm, by simp; omega, by simp⟩⟩
    · have hi'' : i' < ys.length := by simpa using hi'
      have hij := idx_lt hi'' hj
      have e0 : ((cur.toList.take (i * ty.sz + off) ++ vs ++ cur.toList.drop (i * ty.sz + off + vs.length)).take (ys.length * ty.sz)).getD (i' * ty.sz + j) undef =
          if i * ty.sz + off ≤ i' * ty.sz + j ∧ i' * ty.sz + j < i * ty.sz + off + vs.length then vs.getD (i' * ty.sz + j - (i * ty.sz + off)) undef else Vs.getD (i' * ty.sz + j) undef := by
        rw [← htk]
        have := upd_getD (l := cur.toList) (vs := vs) (o := i * ty.sz + off) (by simp; omega) (i' * ty.sz + j) undef
        simp only [List.getD, List.getElem?_take, if_pos hij] at this ⊢
        exact this
      rw [e0]
      refine D.mono hE ?_
      by_cases hii : i' = i
      · subst hii
        have e1 : nth (ys.set i' y) i' = y := by simp [nth, List.getD, hi'']
        rw [e1]
        refine (dec_fits (β := Gh.nil) hd).2 j _ (by omega) ?_
        rw [k3 j]
        by_cases hr : off ≤ j ∧ j < off + zs.length
        · rw [if_pos hr, if_pos (by omega)]
          have := hvd (j - off) (by omega)
          rwa [show i' * ty.sz + j - (i' * ty.sz + off) = j - off by omega]
        · rw [if_neg hr, if_neg (by omega)]
          exact hD i' j hi'' hj
      · have e1 : nth (ys.set i y) i' = nth ys i' := by simp [nth, List.getD, List.getElem?_set, show ¬ i = i' from fun e => hii e.symm]
        rw [e1, if_neg]
        · exact hD i' j hi'' hj
        · rintro ⟨q1, q2⟩
          rcases Nat.lt_or_gt_of_ne hii with hlt | hgt
          · have := Nat.mul_le_mul_right ty.sz (Nat.succ_le_of_lt hlt)
            rw [Nat.succ_mul] at this
            omega
          · have := Nat.mul_le_mul_right ty.sz (Nat.succ_le_of_lt hgt)
            rw [Nat.succ_mul] at this
            omega
  have hg1' : (a.eval x).cells.size = it.size := by rw [g1, hits]
  have hrun' : (execOp a.eval o).run P w = .ok .skip w' := by
    subst hs
    simp [execOp, hop, hp, Instr.storeAt, Instr.sureAddr, storeVar, Sem.run_bind, run_sizeOf hit w, hg1', vs] at hrun ⊢
    simp [hrun]
  unfold Oper.wp
  rw [hrun', Oper.upon_skip]
  exact hk _ _ _ _ (hRel.put o.dst (.undef _)) z1.al
end
end Go.Proofs.YtmgofekgjehegaaGreatDoor
