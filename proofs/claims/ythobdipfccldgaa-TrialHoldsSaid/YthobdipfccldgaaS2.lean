/- The soundness of the abstract evaluator, part 2: operations that neither write nor make memory. -/
import Derived.Test.YthobdipfccldgaaS
import Derived.Laws.Slices
import Derived.Laws.Small
import Derived.Laws.StructEq
import Derived.ChangeKeysEq
import Derived.WalkKit
namespace Go.Proofs.Ythobdipfccldgaa
open Go.RowKit
set_option linter.unusedVariables false
set_option linter.unusedSimpArgs false
section
variable {P : Program} {F : Nat → Prop} {w : World} {β : Gh} {m : Nat}
theorem aggSize_none {t : TypeId} (h : aggSize P t = some none) (w' : World) : (isAgg t).run P w' = .ok false w' := by
  unfold aggSize at h
  cases hu : P.underlying t with
  | none => simp [hu] at h
  | some d =>
    rw [hu] at h
    unfold isAgg
    rw [Sem.run_bind, run_underlying hu w']
    cases d <;> simp at h ⊢
theorem aggSize_some {t : TypeId} {n : Nat} (h : aggSize P t = some (some n)) : (∀ w' : World, (isAgg t).run P w' = .ok true w') ∧ ∃ i, P.info? t = some i ∧ i.size = n := by
  unfold aggSize at h
  cases hu : P.underlying t with
  | none => simp [hu] at h
  | some d =>
    rw [hu] at h
    refine ⟨fun w' => ?_, ?_⟩
    · unfold isAgg
      rw [Sem.run_bind, run_underlying hu w']
      cases d <;> simp at h ⊢
    · cases d <;> simp at h
      · exact h
      · exact h
theorem run_sizeOf {t : TypeId} {i : TypeInfo} (h : P.info? t = some i) (w' : World) : (sizeOf t).run P w' = .ok i.size w' := by simp [sizeOf, typeInfo, h, Sem.run_bind, run_program]
theorem run_load1 {w' : World} {a : Addr} {y : Value} (h : w'.cell? a = some y) : (load a).run P w' = .ok y w' := by simp [load, Sem.run, h]
theorem rd_sound {t : TypeId} {cs : List AV} {off : Nat} {r : AV} (h : rd P t cs off = some r) (b o : Nat) (Y : Nat → Value) (hV : ∀ j, j < cs.length → V1 F w β m (cs.getD j .undef) (Y j)) :
    ∃ y, V F w β m r y ∧ ∀ w' : World, (∀ j, j < cs.length → w'.cell? ⟨b, o + j, none⟩ = some (Y j)) → (loadVar t ⟨b, o + off, none⟩).run P w' = .ok y w' := by
  unfold rd at h
  split at h
  · rename_i ha
    obtain ⟨hlt, rfl⟩ := List.getElem?_eq_some_iff.1 h
    refine ⟨Y off, .of1 (by simpa [List.getD, hlt] using hV off hlt), fun w' hc => ?_⟩
    simp only [loadVar, Sem.run_bind, aggSize_none ha w', Result.andThen_ok, Bool.false_eq_true, if_false]
    exact run_load1 (hc off hlt)
  · rename_i n ha
    split at h
    · rename_i hle
      have hle' : off + n ≤ cs.length := Nat.le_of_ble_eq_true hle
      simp at h; subst h
      obtain ⟨hagg, i, hi, hn⟩ := aggSize_some ha
      have hlen : ((List.range n).map fun j => Y (off + j)).length = n := by simp
      refine ⟨.agg ((List.range n).map fun j => Y (off + j)).toArray, .inr (.inr (.inl ⟨_, _, rfl, rfl, by simp; omega, fun j hj => ?_⟩)), fun w' hc => ?_⟩
      · have hj' : j < n := by simp at hj; omega
        have := hV (off + j) (by omega)
        simpa [List.getD, Array.getD, hj', show off + j < cs.length by omega, List.getElem?_take] using this
      · have hl := run_loadCells_list (P := P) w' ⟨b, o + off, none⟩ ((List.range n).map fun j => Y (off + j)) (fun j v hv => by
          have hj : j < n := by
            rcases Nat.lt_or_ge j n with h | h
            · exact h
            · simp [List.getElem?_eq_none (show ((List.range n).map fun j => Y (off + j)).length ≤ j by simp; exact h)] at hv
          simp [hj] at hv
          rw [show (⟨b, o + off, none⟩ : Addr).add j = ⟨b, o + (off + j), none⟩ by unfold Addr.add; split <;> simp_all [Nat.add_assoc]]
          rw [← hv]; exact hc _ (by omega))
        rw [hlen] at hl
        simp only [loadVar, Sem.run_bind, hagg w', Result.andThen_ok, if_true, run_sizeOf hi w', hn, hl, Sem.run_pure]
    · cases h
  · cases h
theorem part_sound {t : TypeId} {cs : List AV} {ys : Array Value} {off : Nat} {r : AV} (h : rd P t cs off = some r) (hl : ys.size = cs.length) (hV : ∀ j, j < cs.length → V1 F w β m (cs.getD j .undef) (ys.getD j undef)) :
    ∃ y, V F w β m r y ∧ ∀ w' : World, (part t ys off).run P w' = .ok y w' := by
  unfold rd at h
  split at h
  · rename_i ha
    obtain ⟨hlt, rfl⟩ := List.getElem?_eq_some_iff.1 h
    have hlt' : off < ys.size := by omega
    refine ⟨ys[off], .of1 (by simpa [List.getD, Array.getD, hlt, hlt'] using hV off hlt), fun w' => ?_⟩
    simp [part, Sem.run_bind, aggSize_none ha w', hlt']
  · rename_i n ha
    split at h
    · rename_i hle
      have hle' : off + n ≤ cs.length := Nat.le_of_ble_eq_true hle
      simp at h; subst h
      obtain ⟨hagg, i, hi, hn⟩ := aggSize_some ha
      refine ⟨.agg (ys.extract off (off + n)), .inr (.inr (.inl ⟨_, _, rfl, rfl, by simp; omega, fun j hj => ?_⟩)), fun w' => ?_⟩
      · have hj' : j < n := by simp at hj; omega
        have := hV (off + j) (by omega)
        simpa [List.getD, Array.getD, hj', show off + j < cs.length by omega, List.getElem?_take, show off + j < ys.size by omega, show j < min (off + n) ys.size - off by omega] using this
      · simp [part, Sem.run_bind, hagg w', run_sizeOf hi w', hn]
    · cases h
  · cases h
theorem V_el {t : Ty} {xs : List t.T} {i off : Nat} {y : Value} (h : V F w β m (.el t xs i off) y) :
    ∃ b o, ∃ Y : Nat → Value, i < xs.length ∧ y = .pointer (some ⟨b, o + off, none⟩) ∧ F b ∧ b < w.heap.size ∧ (∀ j, j < t.sz → w.cell? ⟨b, o + j, none⟩ = some (Y j)) ∧ ∀ j, j < t.sz → D F w ((t.enc (nth xs i)).getD j .undef) (Y j) := by
  rcases h with h | h | ⟨cs, ys, h, _⟩ | ⟨b, sz, i, off, p, n, c, h, _⟩ | ⟨t', xs', i', off', b, o, Y, he, hi, hy, hr⟩ | ⟨cs2, ys2, he, _⟩
  · cases h
  · rcases h with h | ⟨b, off, h, _⟩ | ⟨b, h, _⟩ <;> cases h
  · cases h
  · cases h
  · cases he
    exact ⟨b, o, Y, hi, hy, hr⟩
  · cases he
theorem V_ref {b off : Nat} {y : Value} (h : V F w β m (.ref b off) y) : b < m ∧ y = .pointer (some ⟨β.b b, off, none⟩) := by
  rcases h with h | h | ⟨cs, ys, h, _⟩ | ⟨b, sz, i, off, p, n, c, h, _⟩ | ⟨t', xs', i', off', b, o, Y, he, _⟩ | ⟨cs2, ys2, he, hy2, hl2, h2⟩
  · cases h
  · rcases h with h | ⟨b', off', h, hb, hy⟩ | ⟨b, h, _⟩
    · cases h
    · cases h; exact ⟨hb, hy⟩
    · cases h
  · cases h
  · cases h
  · cases he
  · cases he
theorem V_own {b : Nat} {y : Value} (h : V F w β m (.own b) y) : b < m ∧ y = β.v b ∧ ∃ A n c, y = .slice A n c := by
  rcases h with h | h | ⟨cs, ys, h, _⟩ | ⟨b, sz, i, off, p, n, c, h, _⟩ | ⟨t', xs', i', off', b, o, Y, he, _⟩ | ⟨cs2, ys2, he, hy2, hl2, h2⟩
  · cases h
  · rcases h with h | ⟨b', off', h, _⟩ | ⟨b, h, hb, hy, hs⟩
    · cases h
    · cases h
    · cases h; exact ⟨hb, hy, hs⟩
  · cases h
  · cases h
  · cases he
  · cases he
theorem V_oel {b sz i off : Nat} {y : Value} (h : V F w β m (.oel b sz i off) y) : ∃ p n c, b < m ∧ β.v b = .slice (some ⟨p, 0, none⟩) n c ∧ i < n ∧ y = .pointer (some ⟨p, i * sz + off, none⟩) := by
  rcases h with h | h | ⟨cs, ys, h, _⟩ | ⟨b, sz, i, off, p, n, c, h, hb, hv, hi, hy⟩ | ⟨t', xs', i', off', b, o, Y, he, _⟩ | ⟨cs2, ys2, he, hy2, hl2, h2⟩
  · cases h
  · rcases h with h | ⟨b', off', h, _⟩ | ⟨b, h, _⟩ <;> cases h
  · cases h
  · cases h; exact ⟨p, n, c, hb, hv, hi, hy⟩
  · cases he
  · cases he
theorem V_agg {cs : List AV} {y : Value} (h : V F w β m (.agg cs) y) : ∃ ys, y = .agg ys ∧ ys.size = cs.length ∧ ∀ j, j < cs.length → V1 F w β m (cs.getD j .undef) (ys.getD j undef) := by
  rcases h with h | h | ⟨cs', ys, he, hy, hl, h⟩ | ⟨b, sz, i, off, p, n, c, h, _⟩ | ⟨t', xs', i', off', b, o, Y, he, _⟩ | ⟨cs2, ys2, he, hy2, hl2, h2⟩
  · cases h
  · rcases h with h | ⟨b', off', h, _⟩ | ⟨b, h, _⟩
    · cases h with | agg _ ys hl h => exact ⟨ys, rfl, hl, fun j hj => .inl (h j hj)⟩
    · cases h
    · cases h
  · cases he; exact ⟨ys, hy, hl, h⟩
  · cases h
  · cases he
  · cases he
theorem V_tup {cs : List AV} {y : Value} (h : V F w β m (.tup cs) y) : ∃ ys, y = .tuple ys ∧ ys.size = cs.length ∧ ∀ j, j < cs.length → V1 F w β m (cs.getD j .undef) (ys.getD j undef) := by
  rcases h with h | h | ⟨cs', ys, he, hy, hl, h⟩ | ⟨b, sz, i, off, p, n, c, h, _⟩ | ⟨t', xs', i', off', b, o, Y, he, _⟩ | ⟨cs2, ys2, he, hy2, hl2, h2⟩
  · cases h
  · rcases h with h | ⟨b', off', h, _⟩ | ⟨b, h, _⟩
    · cases h with | tup _ ys hl h => exact ⟨ys, rfl, hl, fun j hj => .inl (h j hj)⟩
    · cases h
    · cases h
  · cases he
  · cases h
  · cases he
  · cases he; exact ⟨ys2, hy2, hl2, h2⟩
theorem V_v {x y : Value} (h : V F w β m (.v x) y) : y = x := V_val h rfl
theorem V_sl {t : Ty} {xs : List t.T} {y : Value} (h : V F w β m (.sl t xs) y) : D F w (.sl t xs) y := by
  rcases h with h | h | ⟨cs', ys, he, hy, hl, h⟩ | ⟨b, sz, i, off, p, n, c, h, _⟩ | ⟨t', xs', i', off', b, o, Y, he, _⟩ | ⟨cs2, ys2, he, hy2, hl2, h2⟩
  · cases h
  · rcases h with h | ⟨b', off', h, _⟩ | ⟨b, h, _⟩
    · exact h
    · cases h
    · cases h
  · cases he
  · cases h
  · cases he
  · cases he
theorem D_slice {t : Ty} {xs : List t.T} {y : Value} (h : D F w (.sl t xs) y) : ∃ A c, y = .slice A xs.length c := by
  cases h with
  | sl0 _ A c => exact ⟨A, c, rfl⟩
  | sl _ _ b o c => exact ⟨_, c, rfl⟩
theorem add_lit (b o n : Nat) : (⟨b, o, none⟩ : Addr).add n = ⟨b, o + n, none⟩ := by unfold Addr.add; split <;> simp_all
end
/-- A reading of the memory at hand. -/
theorem cell_later {w w' : World} (hb : Below w.heap.size w w') {p : Addr} {y : Value} (h : w.cell? p = some y) : w'.cell? p = some y := (hb.cell (World.block_lt_of_cell? w p h)).trans h
theorem idx_lt {i n j s : Nat} (hi : i < n) (hj : j < s) : i * s + j < n * s := by
  have : (i + 1) * s ≤ n * s := Nat.mul_le_mul_right s hi
  rw [Nat.add_mul] at this
  omega
theorem own_cells {w : World} {base e size : Nat} {v : Value} {n p n' c : Nat} {xs : List Value} (h : w.ownsRow base e size v n xs) (hv : v = .slice (some ⟨p, 0, none⟩) n' c) : n' = n ∧ ∀ j, j < n * size → w.cell? ⟨p, j, none⟩ = some (xs.getD j undef) := by
  subst hv
  refine ⟨?_, fun j hj => ?_⟩
  · rcases h.2 with ⟨h0, _⟩ | ⟨g, cap, cur, h0, _⟩
    · cases h0
    · cases h0; rfl
  · have := h.cells (g := p) rfl j (xs.getD j undef) (by rw [List.getD_eq_getElem?_getD, List.getElem?_eq_getElem (by rw [h.1]; exact hj)]; rfl)
    rwa [add_lit, Nat.zero_add] at this
section
variable {P : Program} {w0 : World} {F0 F : Nat → Prop} {β : Gh} {st : St} {a : Act} {w : World}
/-- What a quiet operation answers, in each later world alike. -/
def Tells (P : Program) (F : Nat → Prop) (β : Gh) (m : Nat) (o : Oper) (a : Act) (w : World) (r : AV) : Prop := ∃ y, V F w β m r y ∧ ∀ w', Below w.heap.size w w' → (execOp a.eval o).run P w' = .ok (.value y) w'
theorem load_sound (h : Rel w0 F0 F β st a w) {t : TypeId} {x r : AV} {v : Value} (hx : V F w β st.heap.length x v) (hr : st.load P t x = some r) :
    ∃ y, V F w β st.heap.length r y ∧ ∀ w', Below w.heap.size w w' → (Instr.loadAt t v).run P w' = .ok y w' := by
  unfold St.load at hr
  split at hr
  · rename_i b off
    obtain ⟨hb, rfl⟩ := V_ref hx
    split at hr
    · rename_i cs hcs
      obtain ⟨ys, T, h1, h2, h3⟩ := h.blk b _ hcs
      obtain ⟨y, hy, hrun⟩ := rd_sound (P := P) hr (β.b b) 0 (fun j => ys.getD j undef) h3
      refine ⟨y, hy, fun w' hw' => ?_⟩
      have := hrun w' fun j hj => cell_later hw' (by rw [Nat.zero_add, cell_of_row w (β.b b) j ys T (0, 0) h1]; simp [Array.getD, show j < ys.size by omega])
      simpa [Instr.loadAt, Instr.sureAddr, Sem.run_bind] using this
    · cases hr
  · rename_i ty xs i off
    obtain ⟨b, o, Y, hi, rfl, hF, hb, hc, hD⟩ := V_el hx
    obtain ⟨y, hy, hrun⟩ := rd_sound (P := P) (β := β) (m := st.heap.length) hr b o Y (fun j hj => .inl (hD j (by rwa [enc_len] at hj)))
    refine ⟨y, hy, fun w' hw' => ?_⟩
    have := hrun w' fun j hj => cell_later hw' (hc j (by rwa [enc_len] at hj))
    simpa [Instr.loadAt, Instr.sureAddr, Sem.run_bind] using this
  · rename_i b sz i off
    obtain ⟨p, n, c, hb, hv, hi, rfl⟩ := V_oel hx
    split at hr
    · rename_i e ty xs hk
      split at hr
      · rename_i hsz
        have hsz' := Nat.eq_of_beq_eq_true hsz
        obtain ⟨Vs, ho, _, hd⟩ := h.blk b _ hk
        obtain ⟨hn, hcell⟩ := own_cells ho hv
        subst hn
        obtain ⟨y, hy, hrun⟩ := rd_sound (P := P) (β := β) (m := st.heap.length) hr p (i * sz) (fun j => Vs.getD (i * ty.sz + j) undef) (fun j hj => .inl (hd i j hi (by rwa [enc_len] at hj)))
        refine ⟨y, hy, fun w' hw' => ?_⟩
        have := hrun w' fun j hj => by
          rw [enc_len] at hj
          rw [← hsz']
          exact cell_later hw' (hcell _ (idx_lt hi hj))
        simpa [Instr.loadAt, Instr.sureAddr, Sem.run_bind] using this
      · cases hr
    · cases hr
  · cases hr
theorem fieldAddr_sound {s : TypeId} {f : Nat} {fl : Field} (hf : fieldOf P s f = some fl) {n : Nat} (hs : P.cellsOf fl.type = n + 1) {x r : AV} {v : Value} (hx : V F w β st.heap.length x v) (hr : x.add fl.offset = some r) :
    ∃ y, V F w β st.heap.length r y ∧ ∀ w', (Instr.fieldAt s v f).run P w' = .ok y w' := by
  unfold fieldOf at hf
  split at hf
  · rename_i fs hu
    have hi : ∃ i, P.info? fl.type = some i ∧ i.size = n + 1 := by
      unfold Program.cellsOf at hs
      cases hq : P.info? fl.type with
      | none => simp [hq] at hs
      | some i => simp [hq] at hs; exact ⟨i, rfl, hs⟩
    obtain ⟨i, hi, hin⟩ := hi
    have key : ∀ b o (w' : World), (Instr.fieldAt s (.pointer (some ⟨b, o, none⟩)) f).run P w' = .ok (.pointer (some ⟨b, o + fl.offset, none⟩)) w' := by
      intro b o w'
      simp [Instr.fieldAt, Sem.run_bind, run_underlying hu w', hf, Instr.sureAddr, fieldPlace, run_sizeOf hi w', hin, add_lit]
    cases x <;> simp [AV.add] at hr
    · subst hr
      obtain ⟨hb, rfl⟩ := V_ref hx
      exact ⟨_, .of1 (.inr (.inl ⟨_, _, rfl, hb, rfl⟩)), fun w' => key _ _ w'⟩
    · subst hr
      obtain ⟨b, o, Y, hi', rfl, hrest⟩ := V_el hx
      exact ⟨_, .inr (.inr (.inr (.inr (.inl ⟨_, _, _, _, b, o, Y, rfl, hi', rfl, hrest⟩)))), fun w' => by rw [key]; simp [Nat.add_assoc]⟩
    · subst hr
      obtain ⟨p, n', c, hb, hv, hi', rfl⟩ := V_oel hx
      exact ⟨_, .inr (.inr (.inr (.inl ⟨_, _, _, _, p, n', c, rfl, hb, hv, hi', rfl⟩))), fun w' => by rw [key]; simp [Nat.add_assoc]⟩
  · cases hf
theorem cell1_one {x : AV} {y : Value} {m : Nat} (h : V1 F w β m x y) (hx : cell1 x = true) : y.cells = #[y] ∧ y.oneCell' = true := by
  rcases h with h | ⟨b, off, rfl, _, rfl⟩ | ⟨b, rfl, _, hy, A, n, c, rfl⟩
  · cases h with
    | v z => cases y <;> simp [cell1] at hx <;> simp [Value.cells, Value.oneCell']
    | agg => simp [cell1] at hx
    | tup => simp [cell1] at hx
    | sl0 => simp [Value.cells, Value.oneCell']
    | sl => simp [Value.cells, Value.oneCell']
  · simp [Value.cells, Value.oneCell']
  · simp [Value.cells, Value.oneCell']
theorem cell1s_all : ∀ {cs : List AV}, cell1s cs = true → ∀ j, j < cs.length → cell1 (cs.getD j .undef) = true
  | [], _, j, hj => by simp at hj
  | c :: cs, h, j, hj => by
    simp only [cell1s] at h
    split at h
    · rename_i h1
      cases j with
      | zero => simpa using h1
      | succ j => simpa using cell1s_all h j (by simpa using hj)
    · cases h
/-- A value's cells, one by one. -/
theorem V_cells {x : AV} {y : Value} {cs : List AV} {m : Nat} (h : V F w β m x y) (hc : x.cells = some cs) : y.cells.size = cs.length ∧ ∀ j, j < cs.length → V1 F w β m (cs.getD j .undef) (y.cells.getD j undef) ∧ (y.cells.getD j undef).oneCell' = true := by
  have one : ∀ z : AV, cell1 z = true → V1 F w β m z y → y.cells.size = [z].length ∧ ∀ j, j < [z].length → V1 F w β m ([z].getD j .undef) (y.cells.getD j undef) ∧ (y.cells.getD j undef).oneCell' = true := by
    intro z hz hv
    obtain ⟨h1, h2⟩ := cell1_one hv hz
    rw [h1]
    refine ⟨rfl, fun j hj => ?_⟩
    obtain rfl : j = 0 := by simpa using hj
    exact ⟨hv, h2⟩
  have fin : ∀ z : AV, (match cell1 z with | true => some [z] | false => none) = some cs → V1 F w β m z y → y.cells.size = cs.length ∧ ∀ j, j < cs.length → V1 F w β m (cs.getD j .undef) (y.cells.getD j undef) ∧ (y.cells.getD j undef).oneCell' = true := by
    intro z hz hv
    split at hz
    · rename_i h1; simp at hz; subst hz; exact one z h1 hv
    · cases hz
  rcases h with rfl | h | ⟨cs', ys, rfl, rfl, hl, h⟩ | ⟨b, sz, i, off, p, n, c, rfl, _⟩ | ⟨t, xs, i, off, b, o, Y, rfl, _⟩ | ⟨cs2, ys2, rfl, _⟩
  · simp [AV.cells, cell1] at hc
  · rcases h with h | ⟨b, off, rfl, hb, rfl⟩ | ⟨b, rfl, hb, hy, hs⟩
    · cases h with
      | v => exact fin (.v y) hc (.inl (.v y))
      | agg cs' ys hl h =>
        simp only [AV.cells] at hc
        split at hc
        · rename_i h1
          simp at hc; subst hc
          exact ⟨hl, fun j hj => ⟨.inl (h j hj), (cell1_one (β := β) (m := m) (.inl (h j hj)) (cell1s_all h1 j hj)).2⟩⟩
        · cases hc
      | tup => simp [AV.cells, cell1] at hc
      | sl0 t A c => exact fin (.sl t []) hc (.inl (.sl0 t A c))
      | sl t xs b o c Y hF hb hl hcap hcc h => exact fin (.sl t xs) hc (.inl (.sl t xs b o c Y hF hb hl hcap hcc h))
    · exact fin (.ref b off) hc (.inr (.inl ⟨b, off, rfl, hb, rfl⟩))
    · exact fin (.own b) hc (.inr (.inr ⟨b, rfl, hb, hy, hs⟩))
  · simp only [AV.cells] at hc
    split at hc
    · rename_i h1
      simp at hc; subst hc
      exact ⟨hl, fun j hj => ⟨h j hj, (cell1_one (h j hj) (cell1s_all h1 j hj)).2⟩⟩
    · cases hc
  · simp [AV.cells, cell1] at hc
  · simp [AV.cells, cell1] at hc
  · simp [AV.cells, cell1] at hc
theorem wr_spec : ∀ {cs : List AV} {off : Nat} {xs cs' : List AV}, wr cs off xs = some cs' → cs'.length = cs.length ∧ (xs = [] ∨ off + xs.length ≤ cs.length) ∧ ∀ j, cs'.getD j .undef = if off ≤ j ∧ j < off + xs.length then xs.getD (j - off) .undef else cs.getD j .undef
  | cs, off, [], cs', h => by
    simp [wr] at h; subst h
    exact ⟨rfl, .inl rfl, fun j => by rw [if_neg (by simp)]⟩
  | c :: cs, 0, x :: xs, cs', h => by
    simp only [wr] at h
    split at h
    · rename_i r hr
      simp at h; subst h
      obtain ⟨h1, h2, h3⟩ := wr_spec hr
      refine ⟨by simp [h1], .inr (by rcases h2 with rfl | h2 <;> simp <;> omega), fun j => ?_⟩
      cases j with
      | zero => simp
      | succ j =>
        have := h3 j
        simp only [List.getD_cons_succ, Nat.sub_zero, Nat.zero_le, true_and, List.length_cons] at this ⊢
        rw [this]
        by_cases hj : j < 0 + xs.length
        · rw [if_pos hj, if_pos (by omega)]
        · rw [if_neg hj, if_neg (by omega)]
    · cases h
  | c :: cs, n + 1, x :: xs, cs', h => by
    simp only [wr] at h
    split at h
    · rename_i r hr
      simp at h; subst h
      obtain ⟨h1, h2, h3⟩ := wr_spec hr
      refine ⟨by simp [h1], .inr (by rcases h2 with h2 | h2 <;> simp at h2 ⊢ <;> omega), fun j => ?_⟩
      cases j with
      | zero => simp
      | succ j =>
        have := h3 j
        simp only [List.getD_cons_succ]
        rw [this]
        by_cases hj : n ≤ j ∧ j < n + (x :: xs).length
        · rw [if_pos hj, if_pos (by omega), show j + 1 - (n + 1) = j - n by omega]
        · rw [if_neg hj, if_neg (by omega)]
    · cases h
  | [], 0, x :: xs, cs', h => by simp [wr] at h
  | [], n + 1, x :: xs, cs', h => by simp [wr] at h
theorem fold_set (l : List Value) : ∀ (k off : Nat) (ys : Array Value), ((l.zipIdx k).foldl (fun cs (p : Value × Nat) => cs.setIfInBounds (off + p.2) p.1) ys).size = ys.size ∧
    ∀ j, j < ys.size → ((l.zipIdx k).foldl (fun cs (p : Value × Nat) => cs.setIfInBounds (off + p.2) p.1) ys).getD j undef = if off + k ≤ j ∧ j < off + k + l.length then l.getD (j - (off + k)) undef else ys.getD j undef := by
  induction l with
  | nil => intro k off ys; exact ⟨rfl, fun j hj => by rw [if_neg (by simp)]; rfl⟩
  | cons x l ih =>
    intro k off ys
    obtain ⟨h1, h2⟩ := ih (k + 1) off (ys.setIfInBounds (off + k) x)
    simp only [List.zipIdx_cons, List.foldl_cons]
    refine ⟨by rw [h1]; simp, fun j hj => ?_⟩
    rw [h2 j (by simpa using hj)]
    by_cases hjk : j = off + k
    · subst hjk
      rw [if_neg (by omega), if_pos (by simp)]
      simp [Array.getD, hj]
    · by_cases hr : off + (k + 1) ≤ j ∧ j < off + (k + 1) + l.length
      · rw [if_pos hr, if_pos (by simp; omega), show j - (off + k) = (j - (off + (k + 1))) + 1 by omega]
        rfl
      · rw [if_neg hr, if_neg (by simp; omega)]
        simp [Array.getD, hj, Array.getElem_setIfInBounds, show ¬ off + k = j by omega]
theorem comp_value {s : Sem Value} {r : AV} (h : (comp P s).map ofVal = some r) : ∃ y, V F w β st.heap.length r y ∧ ∀ w' : World, (do pure (Next.value (← s)) : Sem Next).run P w' = .ok (.value y) w' := by
  cases hc : comp P s with
  | none => simp [hc] at h
  | some y =>
    simp [hc] at h; subst h
    exact ⟨y, .ofD (D_ofVal y), fun w' => by simp [Sem.run_bind, comp_run hc w']⟩
theorem evParts_map (h : Rel w0 F0 F β st a w) : ∀ (l : List (Nat × Operand)), (evParts st l).length = l.length ∧ ∀ (j i : Nat) (x : AV), (evParts st l)[j]? = some (i, x) → ∃ o : Operand, l[j]? = some (i, o) ∧ V F w β st.heap.length x (a.eval o)
  | [] => by simp [evParts]
  | (i, o) :: r => by
    obtain ⟨h1, h2⟩ := evParts_map h r
    refine ⟨by simp [evParts, h1], fun j i' x hx => ?_⟩
    cases j with
    | zero => simp [evParts] at hx; obtain ⟨rfl, rfl⟩ := hx; exact ⟨o, by simp, h.ev o⟩
    | succ j => simp [evParts] at hx; simpa using h2 j i' x hx
theorem fill_sound (h : Rel w0 F0 F β st a w) (place : Nat → Option (Nat × Nat)) : ∀ (l : List (Nat × Operand)) (cs cs' : List AV) (ys : Array Value), ys.size = cs.length → (∀ j, j < cs.length → V1 F w β st.heap.length (cs.getD j .undef) (ys.getD j undef)) →
    fillAV place cs (evParts st l) = some cs' → ∃ ys', Instr.fill place ys (l.map fun p => (p.1, a.eval p.2)) = some ys' ∧ ys'.size = cs'.length ∧ ∀ j, j < cs'.length → V1 F w β st.heap.length (cs'.getD j .undef) (ys'.getD j undef)
  | [], cs, cs', ys, hl, hc, hf => by simp [evParts, fillAV] at hf; subst hf; exact ⟨ys, rfl, hl, hc⟩
  | (i, o) :: l, cs, cs', ys, hl, hc, hf => by
    simp only [evParts, fillAV] at hf
    split at hf
    · rename_i off size hp
      split at hf
      · rename_i xs hxs
        split at hf
        · rename_i cs1 e1 e2 hw
          obtain ⟨g1, g2⟩ := V_cells (h.ev o) hxs
          obtain ⟨k1, k2, k3⟩ := wr_spec hw
          have e1' : xs.length = size := Nat.eq_of_beq_eq_true e1
          have e2' : off + xs.length ≤ cs.length := Nat.le_of_ble_eq_true e2
          obtain ⟨f1, f2⟩ := fold_set (a.eval o).cells.toList 0 off ys
          have := fill_sound h place l cs1 cs' ((a.eval o).cells.zipIdx.foldl (fun cs (p : Value × Nat) => cs.setIfInBounds (off + p.2) p.1) ys) (by
              rw [← Array.foldl_toList, Array.toList_zipIdx]; rw [f1, hl, k1]) (fun j hj => by
              rw [← Array.foldl_toList, Array.toList_zipIdx, f2 j (by omega), k3 j]
              simp only [Nat.add_zero, Array.length_toList, g1]
              by_cases hr : off ≤ j ∧ j < off + xs.length
              · rw [if_pos hr, if_pos hr]
                have := (g2 (j - off) (by omega)).1
                simpa [List.getD, Array.getD, show j - off < (a.eval o).cells.size by omega] using this
              · rw [if_neg hr, if_neg hr]
                exact hc j (by omega)) hf
          obtain ⟨ys', q1, q2, q3⟩ := this
          refine ⟨ys', ?_, q2, q3⟩
          simp only [List.map_cons, Instr.fill, hp, g1, e1']
          rw [if_neg (by simp; omega)]
          exact q1
        · cases hf
      · cases hf
    · cases hf
theorem part_run {t : TypeId} {cs : Array Value} {off : Nat} {v : Value} (h : partV P t cs off = some v) (w' : World) : (part t cs off).run P w' = .ok v w' := by
  unfold partV at h
  unfold part
  split at h
  · rename_i ha
    simp [Sem.run_bind, aggSize_none ha w', h]
  · rename_i n ha
    obtain ⟨h1, i, hi, hs⟩ := aggSize_some ha
    simp at h; subst h
    simp [Sem.run_bind, h1 w', run_sizeOf hi w', hs]
  · cases h
theorem eqV_sound : ∀ (d : Nat) (t : TypeId) (x y : Value) (b : Bool), eqV P d t x y = some b → ∀ w' : World, (Op.equalIn d t x y).run P w' = .ok b w'
  | 0, t, x, y, b, h, w' => by simp [eqV] at h
  | d + 1, t, x, y, b, h, w' => by
    have ih := eqV_sound d
    simp only [eqV] at h
    split at h
    · rename_i hu; simp at h; subst h; exact run_equalIn_bool w' d t _ _ hu
    · rename_i hu
      split at h
      · rename_i e _
        subst e
        simp at h; subst h; exact run_equalIn_int w' d t _ _ _ _ hu
      · cases h
    · rename_i hu; simp at h; subst h; exact run_equalIn_string w' d t _ _ hu
    · rename_i fs xs ys hu
      split at h
      · rename_i hp
        have hf : P.fieldsOf t = fs := by simp [Program.fieldsOf, hu]
        rw [run_equalIn_struct (P := P) w' d t xs ys (by rw [hf]; exact hu) hp, hf]
        revert h
        generalize fs.toList = l
        revert b
        induction l with
        | nil => intro b h; simp [eqFs] at h; subst h; simp [Op.eqFields]
        | cons fl r ihl =>
          intro b h
          simp only [eqFs] at h
          split at h
          · rename_i hn
            have hn' : ¬ fl.name ≠ "_" := by simpa using hn
            rw [Op.eqFields, if_neg hn']
            exact ihl b h
          · rename_i hn
            have hn' : fl.name ≠ "_" := by simpa using hn
            split at h
            · rename_i va vb ha hb
              split at h
              · rename_i p q hp' hq
                simp at h; subst h
                have hr := ihl q hq
                simp only [Op.eqFields, if_pos hn', Sem.run_bind, part_run ha w', part_run hb w', ih _ _ _ _ hp' w', Result.andThen_ok]
                cases p
                · simp
                · simpa using hr
              · cases h
            · cases h
      · cases h
    · rename_i n e xs ys hu
      split at h
      · rename_i i hi
        have hc : P.cellsOf e = i.size := by simp [Program.cellsOf, hi]
        rw [run_equalIn_array w' d xs ys hu hi, hc]
        revert h
        generalize List.range n = l
        revert b
        induction l with
        | nil => intro b h; simp [eqIs] at h; subst h; simp [Op.eqItems]
        | cons j r ihl =>
          intro b h
          simp only [eqIs] at h
          split at h
          · rename_i va vb ha hb
            split at h
            · rename_i p q hp' hq
              simp at h; subst h
              have hr := ihl q hq
              simp only [Op.eqItems, Sem.run_bind, part_run ha w', part_run hb w', ih _ _ _ _ hp' w', Result.andThen_ok]
              cases p
              · simp
              · simpa using hr
            · cases h
          · cases h
      · cases h
    · cases h
theorem evQ_sound (h : Rel w0 F0 F β st a w) {o : Oper} {r : AV} (hr : evQ P st o = some r) : Tells P F β st.heap.length o a w r := by
  unfold evQ at hr
  unfold Tells execOp
  split at hr
  · rename_i x hop
    simp at hr; subst hr
    exact ⟨_, h.ev x, fun w' _ => by simp [hop]⟩
  · rename_i x hop
    simp at hr; subst hr
    exact ⟨_, h.ev x, fun w' _ => by simp [hop]⟩
  · rename_i t x hop
    obtain ⟨y, hy, hrun⟩ := load_sound h (h.ev x) hr
    exact ⟨y, hy, fun w' hw' => by simp [hop, Sem.run_bind, hrun w' hw']⟩
  · rename_i x hop
    have hv := h.ev x
    split at hr
    · rename_i b off he
      simp at hr; subst hr
      rw [he] at hv
      obtain ⟨hb, hy⟩ := V_ref hv
      exact ⟨_, .of1 (.inr (.inl ⟨b, off, rfl, hb, rfl⟩)), fun w' _ => by simp [hop, hy]⟩
    · rename_i t xs i off he
      simp at hr; subst hr
      rw [he] at hv
      have hv' := hv
      obtain ⟨b, o', Y, hi, hy, hrest⟩ := V_el hv
      exact ⟨_, hv', fun w' _ => by simp [hop, hy]⟩
    · cases hr
  · rename_i op t x y u hop
    split at hr
    · rename_i xs ys hx hy
      have hrun : ∀ (op : BinOp) (w' : World), P.eqGuardType P.depth t = false → (eqGuard op t x y (a.eval x) (a.eval y)).run P w' = .ok () w' := fun op w' hg => by
        rw [V_val (h.ev x) hx, V_val (h.ev y) hy]
        exact run_eqGuard_agg (P := P) w' op t x y xs ys hg
      split at hr
      · rename_i b hg hb
        simp at hr; subst hr
        refine ⟨.bool b, .ofD (.v _), fun w' _ => ?_⟩
        have h1 := hrun .eql w' hg
        simp only [hop, Sem.run_bind, h1, Result.andThen_ok]
        rw [V_val (h.ev x) hx, V_val (h.ev y) hy, run_eql_struct w', eqV_sound _ _ _ _ _ hb w']
        rfl
      · rename_i b hg hb
        simp at hr; subst hr
        refine ⟨.bool (!b), .ofD (.v _), fun w' _ => ?_⟩
        have h1 := hrun .neq w' hg
        simp only [hop, Sem.run_bind, h1, Result.andThen_ok]
        rw [V_val (h.ev x) hx, V_val (h.ev y) hy, run_neq_struct w', eqV_sound _ _ _ _ _ hb w']
        rfl
      · cases hr
    · rename_i vx vy _ hx hy
      obtain ⟨z, hz, hrun⟩ := comp_value (F := F) (w := w) (β := β) (st := st) hr
      refine ⟨z, hz, fun w' _ => ?_⟩
      have := hrun w'
      rw [← V_val (h.ev x) hx, ← V_val (h.ev y) hy] at this
      simpa [hop] using this
    · cases hr
  · rename_i op t x hop
    split at hr
    · rename_i vx hx
      obtain ⟨z, hz, hrun⟩ := comp_value (F := F) (w := w) (β := β) (st := st) hr
      refine ⟨z, hz, fun w' _ => ?_⟩
      have := hrun w'
      rw [← V_val (h.ev x) hx] at this
      simpa [hop] using this
    · cases hr
  · rename_i s d x hop
    split at hr
    · rename_i vx hx
      obtain ⟨z, hz, hrun⟩ := comp_value (F := F) (w := w) (β := β) (st := st) hr
      refine ⟨z, hz, fun w' _ => ?_⟩
      have := hrun w'
      rw [← V_val (h.ev x) hx] at this
      simpa [hop] using this
    · cases hr
  · rename_i s x f hop
    split at hr
    · rename_i fl hf
      split at hr
      · cases hr
      · rename_i n hs
        obtain ⟨y, hy, hrun⟩ := fieldAddr_sound hf hs (h.ev x) hr
        exact ⟨y, hy, fun w' _ => by simp [hop, Sem.run_bind, hrun w']⟩
    · cases hr
  · rename_i s x f hop
    split at hr
    · rename_i fl cs hf hx
      have hv := h.ev x
      rw [hx] at hv
      obtain ⟨ys, hy, hl, hc⟩ := V_agg hv
      obtain ⟨y, hV, hrun⟩ := part_sound (P := P) hr hl hc
      unfold fieldOf at hf
      split at hf
      · rename_i fs hu
        exact ⟨y, hV, fun w' _ => by simp [hop, hy, Instr.field, Sem.run_bind, run_underlying hu w', hf, asAgg, hrun w']⟩
      · cases hf
    · cases hr
  · rename_i x i hop
    split at hr
    · rename_i vs hx
      have hv := h.ev x
      rw [hx] at hv
      obtain ⟨ys, hy, hl, hc⟩ := V_tup hv
      obtain ⟨hlt, rfl⟩ := List.getElem?_eq_some_iff.1 hr
      have hlt' : i < ys.size := by omega
      have hd := hc i hlt
      simp only [List.getD, Array.getD, List.getElem?_eq_getElem hlt, hlt', dite_true, Option.getD_some] at hd
      exact ⟨ys[i], .of1 hd, fun w' _ => by simp [hop, hy, Instr.extract, hlt']⟩
    · cases hr
  · rename_i t parts hop
    split at hr
    · rename_i pl z hp hz
      cases hf : fillAV pl z (evParts st parts.toList) with
      | none => simp [hf] at hr
      | some cs' =>
        simp [hf] at hr; subst hr
        unfold zeroOf at hz
        split at hz
        · rename_i it hi
          split at hz
          · rename_i zv hzv
            simp at hz; subst hz
            obtain ⟨ys', q1, q2, q3⟩ := fill_sound h pl parts.toList _ cs' zv.cells (by simp) (fun j hj => by
              have hj' : j < zv.cells.size := by simpa using hj
              simp only [List.getD, List.getElem?_map, Array.getElem?_toList, hj', Array.getElem?_eq_getElem, Option.map_some, Option.getD_some, Array.getD, dite_true]
              exact .inl (.v _)) hf
            refine ⟨.agg ys', .inr (.inr (.inl ⟨_, _, rfl, rfl, q2, q3⟩)), fun w' _ => ?_⟩
            have hb : P.built t (parts.map fun (i, x) => (i, a.eval x)).toList = some ys' := by
              unfold Program.built
              unfold placeOf at hp
              cases hu : P.underlying t with
              | none => simp [hu] at hp
              | some d =>
                cases d <;> simp [hu] at hp
                · rename_i n e
                  cases hie : P.info? e with
                  | none => simp [hie] at hp
                  | some ie =>
                    simp [hie] at hp; subst hp
                    simp only [hi, hu, hzv, hie]
                    simpa using q1
                · rename_i fields
                  cases hm : fields.toList.mapM (fun f => (P.info? f.type).map fun i => (f.offset, i.size)) with
                  | none => simp [hm] at hp
                  | some places =>
                    simp [hm] at hp; subst hp
                    simp only [hi, hu, hzv, hm]
                    simpa using q1
            simp [hop, Sem.run_bind, run_build w' t _ ys' hb]
          · cases hz
        · cases hz
    · cases hr
  · cases hr
end
end Go.Proofs.Ythobdipfccldgaa
