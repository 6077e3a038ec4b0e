/- The soundness of the abstract evaluator, part 2: operations that neither write nor make memory. -/
import Derived.Test.YtgfifnadfmaolaaGreatDoorS
import Derived.Laws.Slices
import Derived.Laws.Small
import Derived.Laws.StructEq
import Derived.ChangeKeysEq
import Derived.WalkKit
namespace Go.Proofs.YtgfifnadfmaolaaGreatDoor
open Go.RowKit
set_option linter.unusedVariables false
set_option linter.unusedSimpArgs false
section
variable {P : Program} {F : Nat → Prop} {w : World} {β : Gh}
theorem aggSize_none {t : TypeId} (h : aggSize P t = some none) (w' : World) : (isAgg t).run P w' = .ok false w' := by
  unfold aggSize at h
  cases hu : P.underlying t with
  | none => simp [hu] at h
  | some d =>
    rw [hu] at h
    unfold isAgg
    rw [Sem.run_bind, run_underlying hu w']
    cases d <;> simp at h ⊢
theorem aggSize_some {t : TypeId} {n : Nat} (h : aggSize P t = some (some n)) : (∀ w' : World, (isAgg t).run P w' = .ok true w') ∧ ∃ i, P.info? t = some i ∧ i.size = n := by
  unfold aggSize at h
  cases hu : P.underlying t with
  | none => simp [hu] at h
  | some d =>
    rw [hu] at h
    refine ⟨fun w' => ?_, ?_⟩
    · unfold isAgg
      rw [Sem.run_bind, run_underlying hu w']
      cases d <;> simp at h ⊢
    · cases d <;> simp at h
      · exact h
      · exact h
theorem run_sizeOf {t : TypeId} {i : TypeInfo} (h : P.info? t = some i) (w' : World) : (sizeOf t).run P w' = .ok i.size w' := by simp [sizeOf, typeInfo, h, Sem.run_bind, run_program]
theorem run_load1 {w' : World} {a : Addr} {y : Value} (h : w'.cell? a = some y) : (load a).run P w' = .ok y w' := by simp [load, Sem.run, h]
theorem rd_sound {t : TypeId} {cs : List AV} {off : Nat} {r : AV} (h : rd P t cs off = some r) (b o : Nat) (Y : Nat → Value) (hV : ∀ j, j < cs.length → V F w β (cs.getD j .undef) (Y j)) :
    ∃ y, V F w β r y ∧ ∀ w' : World, (∀ j, j < cs.length → w'.cell? ⟨b, o + j, none⟩ = some (Y j)) → (loadVar t ⟨b, o + off, none⟩).run P w' = .ok y w' := by
  unfold rd at h
  split at h
  · rename_i ha
    obtain ⟨hlt, rfl⟩ := List.getElem?_eq_some_iff.1 h
    refine ⟨Y off, (by simpa [List.getD, hlt] using hV off hlt), fun w' hc => ?_⟩
    simp only [loadVar, Sem.run_bind, aggSize_none ha w', Result.andThen_ok, Bool.false_eq_true, if_false]
    exact run_load1 (hc off hlt)
  · rename_i n ha
    split at h
    · rename_i hle
      have hle' : off + n ≤ cs.length := Nat.le_of_ble_eq_true hle
      simp at h; subst h
      obtain ⟨hagg, i, hi, hn⟩ := aggSize_some ha
      have hlen : ((List.range n).map fun j => Y (off + j)).length = n := by simp
      refine ⟨.agg ((List.range n).map fun j => Y (off + j)).toArray, .agg _ _ (by simp; omega) fun j hj => ?_, fun w' hc => ?_⟩
      · have hj' : j < n := by simp at hj; omega
        have := hV (off + j) (by omega)
        simpa [List.getD, Array.getD, hj', show off + j < cs.length by omega, List.getElem?_take] using this
      · have hl := run_loadCells_list (P := P) w' ⟨b, o + off, none⟩ ((List.range n).map fun j => Y (off + j)) (fun j v hv => by
          have hj : j < n := by
            rcases Nat.lt_or_ge j n with h | h
            · exact h
            · simp [List.getElem?_eq_none (show ((List.range n).map fun j => Y (off + j)).length ≤ j by simp; exact h)] at hv
          simp [hj] at hv
          rw [show (⟨b, o + off, none⟩ : Addr).add j = ⟨b, o + (off + j), none⟩ by unfold Addr.add; split <;> simp_all [Nat.add_assoc]]
          rw [← hv]; exact hc _ (by omega))
        rw [hlen] at hl
        simp only [loadVar, Sem.run_bind, hagg w', Result.andThen_ok, if_true, run_sizeOf hi w', hn, hl, Sem.run_pure]
    · cases h
  · cases h
theorem part_sound {t : TypeId} {cs : List AV} {ys : Array Value} {off : Nat} {r : AV} (h : rd P t cs off = some r) (hl : ys.size = cs.length) (hV : ∀ j, j < cs.length → V F w β (cs.getD j .undef) (ys.getD j undef)) :
    ∃ y, V F w β r y ∧ ∀ w' : World, (part t ys off).run P w' = .ok y w' := by
  unfold rd at h
  split at h
  · rename_i ha
    obtain ⟨hlt, rfl⟩ := List.getElem?_eq_some_iff.1 h
    have hlt' : off < ys.size := by omega
    refine ⟨ys[off], (by simpa [List.getD, Array.getD, hlt, hlt'] using hV off hlt), fun w' => ?_⟩
    simp [part, Sem.run_bind, aggSize_none ha w', hlt']
  · rename_i n ha
    split at h
    · rename_i hle
      have hle' : off + n ≤ cs.length := Nat.le_of_ble_eq_true hle
      simp at h; subst h
      obtain ⟨hagg, i, hi, hn⟩ := aggSize_some ha
      refine ⟨.agg (ys.extract off (off + n)), .agg _ _ (by simp; omega) fun j hj => ?_, fun w' => ?_⟩
      · have hj' : j < n := by simp at hj; omega
        have := hV (off + j) (by omega)
        simpa [List.getD, Array.getD, hj', show off + j < cs.length by omega, List.getElem?_take, show off + j < ys.size by omega, show j < min (off + n) ys.size - off by omega] using this
      · simp [part, Sem.run_bind, hagg w', run_sizeOf hi w', hn]
    · cases h
  · cases h
theorem V_ref {b off : Nat} {y : Value} (h : V F w β (.ref b off) y) : β.l b ∧ y = .pointer (some ⟨β.b b, off, none⟩) := by cases h; exact ⟨by assumption, rfl⟩
theorem V_own {b : Nat} {y : Value} (h : V F w β (.own b) y) : β.l b ∧ y = β.v b ∧ ∃ A n c, y = .slice A n c := by cases h; exact ⟨by assumption, rfl, _, _, _, by assumption⟩
theorem V_oel {b sz i off : Nat} {y : Value} (h : V F w β (.oel b sz i off) y) : ∃ p n c, β.l b ∧ β.v b = .slice (some ⟨p, 0, none⟩) n c ∧ i < n ∧ y = .pointer (some ⟨p, i * sz + off, none⟩) := by
  cases h; exact ⟨_, _, _, by assumption, by assumption, by assumption, rfl⟩
theorem V_rex {b o0 m i d : Nat} {t : Ty} {y : Value} (h : V F w β (.rex b o0 t m i d) y) : β.l b ∧ i < m ∧ y = .pointer (some ⟨β.b b, o0 + i * t.sz + d, none⟩) := by cases h; exact ⟨by assumption, by assumption, rfl⟩
theorem V_vw {b sz o n : Nat} {y : Value} (h : V F w β (.vw b sz o n) y) : ∃ p N c c', β.l b ∧ β.v b = .slice (some ⟨p, 0, none⟩) N c ∧ o + n ≤ N ∧ n ≤ c' ∧ y = .slice (some ⟨p, o * sz, none⟩) n c' := by
  cases h; exact ⟨_, _, _, _, by assumption, by assumption, by assumption, by assumption, rfl⟩
theorem V_agg {cs : List AV} {y : Value} (h : V F w β (.agg cs) y) : ∃ ys, y = .agg ys ∧ ys.size = cs.length ∧ ∀ j, j < cs.length → V F w β (cs.getD j .undef) (ys.getD j undef) := by
  cases h; exact ⟨_, rfl, by assumption, by assumption⟩
theorem V_tup {cs : List AV} {y : Value} (h : V F w β (.tup cs) y) : ∃ ys, y = .tuple ys ∧ ys.size = cs.length ∧ ∀ j, j < cs.length → V F w β (cs.getD j .undef) (ys.getD j undef) := by
  cases h; exact ⟨_, rfl, by assumption, by assumption⟩
theorem V_slice {t : Ty} {xs : List t.T} {y : Value} (h : V F w β (.sl t xs) y) : ∃ A c, y = .slice A xs.length c := by
  cases h with
  | sl0 _ A c => exact ⟨A, c, rfl⟩
  | sl _ _ b o c => exact ⟨_, c, rfl⟩
theorem sl_D {t : Ty} {xs : List t.T} {y : Value} (h : V F w β (.sl t xs) y) : D F w (.sl t xs) y := h.toD (.sl _ _)
theorem V_el {t : Ty} {xs : List t.T} {i off : Nat} {y : Value} (h : V F w β (.el t xs i off) y) :
    ∃ b o, ∃ Y : Nat → Value, i < xs.length ∧ y = .pointer (some ⟨b, o + off, none⟩) ∧ F b ∧ b < w.heap.size ∧ (∀ j, j < t.sz → w.cell? ⟨b, o + j, none⟩ = some (Y j)) ∧ ∀ j, j < t.sz → V F w β ((t.enc (nth xs i)).getD j .undef) (Y j) := by
  cases h; exact ⟨_, _, _, by assumption, rfl, by assumption, by assumption, by assumption, by assumption⟩
theorem V_op {t : Ty} {x : t.T} {y : Value} (h : V F w β (.op t (some x)) y) :
    ∃ b o, ∃ Y : Nat → Value, y = .pointer (some ⟨b, o, none⟩) ∧ F b ∧ b < w.heap.size ∧ (∀ j, j < t.sz → w.cell? ⟨b, o + j, none⟩ = some (Y j)) ∧ ∀ j, j < t.sz → V F w β ((t.enc x).getD j .undef) (Y j) := by
  cases h; exact ⟨_, _, _, rfl, by assumption, by assumption, by assumption, by assumption⟩
theorem op_el {t : Ty} {x : t.T} {y : Value} (h : V F w β (.op t (some x)) y) : V F w β (.el t [x] 0 0) y := by
  obtain ⟨b, o, Y, rfl, hF, hb, hc, hd⟩ := V_op h
  exact .el t [x] 0 0 b o Y (by simp) hF hb hc hd
theorem add_lit (b o n : Nat) : (⟨b, o, none⟩ : Addr).add n = ⟨b, o + n, none⟩ := by unfold Addr.add; split <;> simp_all
end
theorem idx_lt {i n j s : Nat} (hi : i < n) (hj : j < s) : i * s + j < n * s := by
  have : (i + 1) * s ≤ n * s := Nat.mul_le_mul_right s hi
  rw [Nat.add_mul] at this
  omega
theorem own_cells {w : World} {base e size : Nat} {v : Value} {n p n' c : Nat} {xs : List Value} (h : w.ownsRow base e size v n xs) (hv : v = .slice (some ⟨p, 0, none⟩) n' c) : n' = n ∧ ∀ j, j < n * size → w.cell? ⟨p, j, none⟩ = some (xs.getD j undef) := by
  subst hv
  refine ⟨?_, fun j hj => ?_⟩
  · rcases h.2 with ⟨h0, _⟩ | ⟨g, cap, cur, h0, _⟩
    · cases h0
    · cases h0; rfl
  · have := h.cells (g := p) rfl j (xs.getD j undef) (by rw [List.getD_eq_getElem?_getD, List.getElem?_eq_getElem (by rw [h.1]; exact hj)]; rfl)
    rwa [add_lit, Nat.zero_add] at this
section
variable {P : Program} {B : Bs} {F : Nat → Prop} {β : Gh} {st : St} {a : Act} {w : World}
theorem maskC_len (cols : List (Nat × TypeId)) : ∀ (k : Nat) (l : List AV), (maskC cols k l).length = l.length
  | _, [] => rfl
  | k, x :: r => by simp [maskC, maskC_len cols (k + 1) r]
theorem maskC_get (cols : List (Nat × TypeId)) : ∀ (k : Nat) (l : List AV) (j : Nat), (maskC cols k l).getD j .undef = match colOf cols (k + j) with | some _ => .undef | none => l.getD j .undef
  | k, [], j => by simp [maskC]; split <;> rfl
  | k, x :: r, 0 => by simp [maskC]; rfl
  | k, x :: r, j + 1 => by
    have := maskC_get cols (k + 1) r j
    simp only [maskC, List.getD_cons_succ]
    rw [this, show k + 1 + j = k + (j + 1) by omega]
theorem load_sound (h : HOk F w β st.heap) {t : TypeId} {x r : AV} {v : Value} (hx : V F w β x v) (hr : st.load P t x = some r) :
    ∃ y, V F w β r y ∧ (Instr.loadAt t v).run P w = .ok y w := by
  unfold St.load at hr
  split at hr
  · rename_i b off
    obtain ⟨hb, rfl⟩ := V_ref hx
    split at hr
    · rename_i e cs hcs
      obtain ⟨ys, T, h1, h2, _, h3⟩ := h.blk b _ hcs
      obtain ⟨y, hy, hrun⟩ := rd_sound (P := P) hr (β.b b) 0 (fun j => ys.getD j undef) h3
      refine ⟨y, hy, ?_⟩
      have := hrun w fun j hj => by rw [Nat.zero_add, cell_of_row w (β.b b) j ys T (0, 0) h1]; simp [Array.getD, show j < ys.size by omega]
      simpa [Instr.loadAt, Instr.sureAddr, Sem.run_bind] using this
    · rename_i ty x hcs
      have hd : D F w (.op ty (some x)) (.pointer (some ⟨β.b b, 0, none⟩)) := h.blk b _ hcs
      obtain ⟨b', o, Y, he, hF, hb, hc, hD⟩ := V_op hd
      cases he
      obtain ⟨y, hy, hrun⟩ := rd_sound (P := P) (β := β) hr (β.b b) 0 Y (fun j hj => (hD j (by rwa [enc_len] at hj)).ofD)
      refine ⟨y, hy, ?_⟩
      have := hrun w fun j hj => hc j (by rwa [enc_len] at hj)
      simpa [Instr.loadAt, Instr.sureAddr, Sem.run_bind] using this
    · cases hr
  · rename_i ty x
    obtain ⟨b, o, Y, rfl, hF, hb, hc, hD⟩ := V_op hx
    obtain ⟨y, hy, hrun⟩ := rd_sound (P := P) hr b o Y (fun j hj => hD j (by rwa [enc_len] at hj))
    refine ⟨y, hy, ?_⟩
    have := hrun w fun j hj => hc j (by rwa [enc_len] at hj)
    simpa [Instr.loadAt, Instr.sureAddr, Sem.run_bind] using this
  · rename_i ty xs i off
    obtain ⟨b, o, Y, hi, rfl, hF, hb, hc, hD⟩ := V_el hx
    obtain ⟨y, hy, hrun⟩ := rd_sound (P := P) hr b o Y (fun j hj => hD j (by rwa [enc_len] at hj))
    refine ⟨y, hy, ?_⟩
    have := hrun w fun j hj => hc j (by rwa [enc_len] at hj)
    simpa [Instr.loadAt, Instr.sureAddr, Sem.run_bind] using this
  · rename_i b sz i off
    obtain ⟨p, n, c, hb, hv, hi, rfl⟩ := V_oel hx
    split at hr
    · rename_i e ty cols hole xs hk
      split at hr
      · rename_i hsz
        have hsz' := Nat.eq_of_beq_eq_true hsz
        obtain ⟨Vs, ho, _, _, hd⟩ := h.blk b _ hk
        obtain ⟨hn, hcell⟩ := own_cells ho hv
        subst hn
        obtain ⟨y, hy, hrun⟩ := rd_sound (P := P) (β := β) hr p (i * sz) (fun j => Vs.getD (i * ty.sz + j) undef) (fun j hj => by
          rw [maskC_len, enc_len] at hj
          rw [maskC_get, Nat.zero_add]
          cases hc : colOf cols j with
          | none => exact ((hd i j hi hj).toD hc).ofD
          | some _ => exact .undef _)
        refine ⟨y, hy, ?_⟩
        have := hrun w fun j hj => by
          rw [maskC_len, enc_len] at hj
          rw [← hsz']
          exact hcell _ (idx_lt hi hj)
        simpa [Instr.loadAt, Instr.sureAddr, Sem.run_bind] using this
      · cases hr
    · cases hr
  · cases hr
theorem fieldAddr_sound {s : TypeId} {f : Nat} {fl : Field} (hf : fieldOf P s f = some fl) {n : Nat} (hs : P.cellsOf fl.type = n + 1) {x r : AV} {v : Value} (hx : V F w β x v) (hr : x.add fl.offset = some r) :
    ∃ y, V F w β r y ∧ (Instr.fieldAt s v f).run P w = .ok y w := by
  unfold fieldOf at hf
  split at hf
  · rename_i fs hu
    have hi : ∃ i, P.info? fl.type = some i ∧ i.size = n + 1 := by
      unfold Program.cellsOf at hs
      cases hq : P.info? fl.type with
      | none => simp [hq] at hs
      | some i => simp [hq] at hs; exact ⟨i, rfl, hs⟩
    obtain ⟨i, hi, hin⟩ := hi
    have key : ∀ b o (w' : World), (Instr.fieldAt s (.pointer (some ⟨b, o, none⟩)) f).run P w' = .ok (.pointer (some ⟨b, o + fl.offset, none⟩)) w' := by
      intro b o w'
      simp [Instr.fieldAt, Sem.run_bind, run_underlying hu w', hf, Instr.sureAddr, fieldPlace, run_sizeOf hi w', hin, add_lit]
    unfold AV.add at hr
    split at hr
    · simp at hr; subst hr
      obtain ⟨hb, rfl⟩ := V_ref hx
      exact ⟨_, .ref _ _ hb, key _ _ w⟩
    · simp at hr; subst hr
      obtain ⟨b, o, Y, hi', rfl, hF, hb, hc, hd⟩ := V_el hx
      exact ⟨_, .el _ _ _ _ b o Y hi' hF hb hc hd, by rw [key]; simp [Nat.add_assoc]⟩
    · simp at hr; subst hr
      obtain ⟨p, n', c, hb, hv, hi', rfl⟩ := V_oel hx
      exact ⟨_, .oel _ _ _ _ p n' c hb hv hi', by rw [key]; simp [Nat.add_assoc]⟩
    · simp at hr; subst hr
      obtain ⟨hb, hi', rfl⟩ := V_rex hx
      exact ⟨_, .rex _ _ _ _ _ _ hb hi', by rw [key]; simp [Nat.add_assoc]⟩
    · simp at hr; subst hr
      obtain ⟨b, o, Y, hi', rfl, hF, hb, hc, hd⟩ := V_el (op_el hx)
      exact ⟨_, .el _ _ _ _ b o Y hi' hF hb hc hd, by rw [key]; simp⟩
    · cases hr
  · cases hf
theorem out_fn (c : Clo) : c.out = .v .nilFunc ∨ ∃ f as cs, c.out = .fn f as cs := by cases c <;> first | exact .inl rfl | exact .inr ⟨_, _, _, rfl⟩
theorem cell1_one {x : AV} {y : Value} (h : V F w β x y) (hx : cell1 x = true) : y.cells = #[y] ∧ y.oneCell' = true := by
  cases h with
  | v z => cases y <;> simp [cell1] at hx <;> simp [Value.cells, Value.oneCell']
  | own b hb A n c hv => rw [hv]; simp [Value.cells, Value.oneCell']
  | clo c y h =>
    rcases out_fn c with e | ⟨f, as, cs, e⟩
    · rw [e] at h; cases h; simp [Value.cells, Value.oneCell']
    · rw [e] at h; cases h; simp [Value.cells, Value.oneCell']
  | undef => simp [cell1] at hx
  | agg => simp [cell1] at hx
  | tup => simp [cell1] at hx
  | _ => simp [Value.cells, Value.oneCell']
theorem cell1s_all : ∀ {cs : List AV}, cell1s cs = true → ∀ j, j < cs.length → cell1 (cs.getD j .undef) = true
  | [], _, j, hj => by simp at hj
  | c :: cs, h, j, hj => by
    simp only [cell1s] at h
    split at h
    · rename_i h1
      cases j with
      | zero => simpa using h1
      | succ j => simpa using cell1s_all h j (by simpa using hj)
    · cases h
theorem V_cells {x : AV} {y : Value} {cs : List AV} (h : V F w β x y) (hc : x.cells = some cs) : y.cells.size = cs.length ∧ ∀ j, j < cs.length → V F w β (cs.getD j .undef) (y.cells.getD j undef) ∧ (y.cells.getD j undef).oneCell' = true := by
  unfold AV.cells at hc
  split at hc
  · rename_i cs'
    obtain ⟨ys, rfl, hl, h⟩ := V_agg h
    split at hc
    · rename_i h1
      simp at hc; subst hc
      exact ⟨hl, fun j hj => ⟨h j hj, (cell1_one (h j hj) (cell1s_all h1 j hj)).2⟩⟩
    · cases hc
  · split at hc
    · rename_i h1
      simp at hc; subst hc
      obtain ⟨g1, g2⟩ := cell1_one h h1
      rw [g1]
      refine ⟨rfl, fun j hj => ?_⟩
      obtain rfl : j = 0 := by simpa using hj
      exact ⟨h, g2⟩
    · cases hc
theorem wr_spec : ∀ {cs : List AV} {off : Nat} {xs cs' : List AV}, wr cs off xs = some cs' → cs'.length = cs.length ∧ (xs = [] ∨ off + xs.length ≤ cs.length) ∧ ∀ j, cs'.getD j .undef = if off ≤ j ∧ j < off + xs.length then xs.getD (j - off) .undef else cs.getD j .undef
  | cs, off, [], cs', h => by
    simp [wr] at h; subst h
    exact ⟨rfl, .inl rfl, fun j => by rw [if_neg (by simp)]⟩
  | c :: cs, 0, x :: xs, cs', h => by
    simp only [wr] at h
    split at h
    · rename_i r hr
      simp at h; subst h
      obtain ⟨h1, h2, h3⟩ := wr_spec hr
      refine ⟨by simp [h1], .inr (by rcases h2 with rfl | h2 <;> simp <;> omega), fun j => ?_⟩
      cases j with
      | zero => simp
      | succ j =>
        have := h3 j
        simp only [List.getD_cons_succ, Nat.sub_zero, Nat.zero_le, true_and, List.length_cons] at this ⊢
        rw [this]
        by_cases hj : j < 0 + xs.length
        · rw [if_pos hj, if_pos (by omega)]
        · rw [if_neg hj, if_neg (by omega)]
    · cases h
  | c :: cs, n + 1, x :: xs, cs', h => by
    simp only [wr] at h
    split at h
    · rename_i r hr
      simp at h; subst h
      obtain ⟨h1, h2, h3⟩ := wr_spec hr
      refine ⟨by simp [h1], .inr (by rcases h2 with h2 | h2 <;> simp at h2 ⊢ <;> omega), fun j => ?_⟩
      cases j with
      | zero => simp
      | succ j =>
        have := h3 j
        simp only [List.getD_cons_succ]
        rw [this]
        by_cases hj : n ≤ j ∧ j < n + (x :: xs).length
        · rw [if_pos hj, if_pos (by omega), show j + 1 - (n + 1) = j - n by omega]
        · rw [if_neg hj, if_neg (by omega)]
    · cases h
  | [], 0, x :: xs, cs', h => by simp [wr] at h
  | [], n + 1, x :: xs, cs', h => by simp [wr] at h
theorem fold_set (l : List Value) : ∀ (k off : Nat) (ys : Array Value), ((l.zipIdx k).foldl (fun cs (p : Value × Nat) => cs.setIfInBounds (off + p.2) p.1) ys).size = ys.size ∧
    ∀ j, j < ys.size → ((l.zipIdx k).foldl (fun cs (p : Value × Nat) => cs.setIfInBounds (off + p.2) p.1) ys).getD j undef = if off + k ≤ j ∧ j < off + k + l.length then l.getD (j - (off + k)) undef else ys.getD j undef := by
  induction l with
  | nil => intro k off ys; exact ⟨rfl, fun j hj => by rw [if_neg (by simp)]; rfl⟩
  | cons x l ih =>
    intro k off ys
    obtain ⟨h1, h2⟩ := ih (k + 1) off (ys.setIfInBounds (off + k) x)
    simp only [List.zipIdx_cons, List.foldl_cons]
    refine ⟨by rw [h1]; simp, fun j hj => ?_⟩
    rw [h2 j (by simpa using hj)]
    by_cases hjk : j = off + k
    · subst hjk
      rw [if_neg (by omega), if_pos (by simp)]
      simp [Array.getD, hj]
    · by_cases hr : off + (k + 1) ≤ j ∧ j < off + (k + 1) + l.length
      · rw [if_pos hr, if_pos (by simp; omega), show j - (off + k) = (j - (off + (k + 1))) + 1 by omega]
        rfl
      · rw [if_neg hr, if_neg (by simp; omega)]
        simp [Array.getD, hj, Array.getElem_setIfInBounds, show ¬ off + k = j by omega]
theorem comp_value {s : Sem Value} {r : AV} (h : (comp P s).map ofVal = some r) : ∃ y, V F w β r y ∧ (do pure (Next.value (← s)) : Sem Next).run P w = .ok (.value y) w := by
  cases hc : comp P s with
  | none => simp [hc] at h
  | some y =>
    simp [hc] at h; subst h
    exact ⟨y, D_ofVal y, by simp [Sem.run_bind, comp_run hc w]⟩
theorem fill_sound (h : Rel B F β st a w) (place : Nat → Option (Nat × Nat)) : ∀ (l : List (Nat × Operand)) (cs cs' : List AV) (ys : Array Value), ys.size = cs.length → (∀ j, j < cs.length → V F w β (cs.getD j .undef) (ys.getD j undef)) →
    fillAV place cs (evParts st l) = some cs' → ∃ ys', Instr.fill place ys (l.map fun p => (p.1, a.eval p.2)) = some ys' ∧ ys'.size = cs'.length ∧ ∀ j, j < cs'.length → V F w β (cs'.getD j .undef) (ys'.getD j undef)
  | [], cs, cs', ys, hl, hc, hf => by simp [evParts, fillAV] at hf; subst hf; exact ⟨ys, rfl, hl, hc⟩
  | (i, o) :: l, cs, cs', ys, hl, hc, hf => by
    simp only [evParts, fillAV] at hf
    split at hf
    · rename_i off size hp
      split at hf
      · rename_i xs hxs
        split at hf
        · rename_i cs1 e1 e2 hw
          obtain ⟨g1, g2⟩ := V_cells (h.ev o) hxs
          obtain ⟨k1, k2, k3⟩ := wr_spec hw
          have e1' : xs.length = size := Nat.eq_of_beq_eq_true e1
          have e2' : off + xs.length ≤ cs.length := Nat.le_of_ble_eq_true e2
          obtain ⟨f1, f2⟩ := fold_set (a.eval o).cells.toList 0 off ys
          have := fill_sound h place l cs1 cs' ((a.eval o).cells.zipIdx.foldl (fun cs (p : Value × Nat) => cs.setIfInBounds (off + p.2) p.1) ys) (by
              rw [← Array.foldl_toList, Array.toList_zipIdx]; rw [f1, hl, k1]) (fun j hj => by
              rw [← Array.foldl_toList, Array.toList_zipIdx, f2 j (by omega), k3 j]
              simp only [Nat.add_zero, Array.length_toList, g1]
              by_cases hr : off ≤ j ∧ j < off + xs.length
              · rw [if_pos hr, if_pos hr]
                have := (g2 (j - off) (by omega)).1
                simpa [List.getD, Array.getD, show j - off < (a.eval o).cells.size by omega] using this
              · rw [if_neg hr, if_neg hr]
                exact hc j (by omega)) hf
          obtain ⟨ys', q1, q2, q3⟩ := this
          refine ⟨ys', ?_, q2, q3⟩
          simp only [List.map_cons, Instr.fill, hp, g1, e1']
          rw [if_neg (by simp; omega)]
          exact q1
        · cases hf
      · cases hf
    · cases hf
theorem part_run {t : TypeId} {cs : Array Value} {off : Nat} {v : Value} (h : partV P t cs off = some v) (w' : World) : (part t cs off).run P w' = .ok v w' := by
  unfold partV at h
  unfold part
  split at h
  · rename_i ha
    simp [Sem.run_bind, aggSize_none ha w', h]
  · rename_i n ha
    obtain ⟨h1, i, hi, hs⟩ := aggSize_some ha
    simp at h; subst h
    simp [Sem.run_bind, h1 w', run_sizeOf hi w', hs]
  · cases h
theorem eqV_sound : ∀ (d : Nat) (t : TypeId) (x y : Value) (b : Bool), eqV P d t x y = some b → ∀ w' : World, (Op.equalIn d t x y).run P w' = .ok b w'
  | 0, t, x, y, b, h, w' => by simp [eqV] at h
  | d + 1, t, x, y, b, h, w' => by
    have ih := eqV_sound d
    simp only [eqV] at h
    split at h
    · rename_i hu; simp at h; subst h; exact run_equalIn_bool w' d t _ _ hu
    · rename_i hu
      split at h
      · rename_i e _
        subst e
        simp at h; subst h; exact run_equalIn_int w' d t _ _ _ _ hu
      · cases h
    · rename_i hu; simp at h; subst h; exact run_equalIn_string w' d t _ _ hu
    · rename_i fs xs ys hu
      split at h
      · rename_i hp
        have hf : P.fieldsOf t = fs := by simp [Program.fieldsOf, hu]
        rw [run_equalIn_struct (P := P) w' d t xs ys (by rw [hf]; exact hu) hp, hf]
        revert h
        generalize fs.toList = l
        revert b
        induction l with
        | nil => intro b h; simp [eqFs] at h; subst h; simp [Op.eqFields]
        | cons fl r ihl =>
          intro b h
          simp only [eqFs] at h
          split at h
          · rename_i hn
            have hn' : ¬ fl.name ≠ "_" := by simpa using hn
            rw [Op.eqFields, if_neg hn']
            exact ihl b h
          · rename_i hn
            have hn' : fl.name ≠ "_" := by simpa using hn
            split at h
            · rename_i va vb ha hb
              split at h
              · rename_i p q hp' hq
                simp at h; subst h
                have hr := ihl q hq
                simp only [Op.eqFields, if_pos hn', Sem.run_bind, part_run ha w', part_run hb w', ih _ _ _ _ hp' w', Result.andThen_ok]
                cases p
                · simp
                · simpa using hr
              · cases h
            · cases h
      · cases h
    · rename_i n e xs ys hu
      split at h
      · rename_i i hi
        have hc : P.cellsOf e = i.size := by simp [Program.cellsOf, hi]
        rw [run_equalIn_array w' d xs ys hu hi, hc]
        revert h
        generalize List.range n = l
        revert b
        induction l with
        | nil => intro b h; simp [eqIs] at h; subst h; simp [Op.eqItems]
        | cons j r ihl =>
          intro b h
          simp only [eqIs] at h
          split at h
          · rename_i va vb ha hb
            split at h
            · rename_i p q hp' hq
              simp at h; subst h
              have hr := ihl q hq
              simp only [Op.eqItems, Sem.run_bind, part_run ha w', part_run hb w', ih _ _ _ _ hp' w', Result.andThen_ok]
              cases p
              · simp
              · simpa using hr
            · cases h
          · cases h
      · cases h
    · cases h
theorem eqIn_nil (d : Nat) {t e : TypeId} (p : Option Addr) (hu : P.underlying t = some (.pointer e)) : (Op.equalIn (d + 1) t (.pointer p) (.pointer none)).run P w = .ok p.isNone w ∧ (Op.equalIn (d + 1) t (.pointer none) (.pointer p)).run P w = .ok p.isNone w := by
  constructor
  · unfold Op.equalIn; rw [Sem.run_bind, run_underlying hu w]; cases p <;> rfl
  · unfold Op.equalIn; rw [Sem.run_bind, run_underlying hu w]; cases p <;> rfl
theorem bin_nil {t e : TypeId} (p : Option Addr) (hu : P.underlying t = some (.pointer e)) :
    (binOp .eql t (.pointer p) (.pointer none)).run P w = .ok (.bool p.isNone) w ∧ (binOp .eql t (.pointer none) (.pointer p)).run P w = .ok (.bool p.isNone) w ∧
    (binOp .neq t (.pointer p) (.pointer none)).run P w = .ok (.bool (!p.isNone)) w ∧ (binOp .neq t (.pointer none) (.pointer p)).run P w = .ok (.bool (!p.isNone)) w := by
  obtain ⟨h1, h2⟩ := eqIn_nil (P := P) (w := w) 9999 p hu
  have e1 : (Op.equal t (.pointer p) (.pointer none)).run P w = .ok p.isNone w := h1
  have e2 : (Op.equal t (.pointer none) (.pointer p)).run P w = .ok p.isNone w := h2
  refine ⟨?_, ?_, ?_, ?_⟩ <;> simp only [binOp] <;> simp [e1, e2]
theorem nilEq_sound {op : BinOp} {t : TypeId} {x r : AV} {v : Value} (hx : V F w β x v) (hr : nilEq P op t x = some r) :
    ∃ y, V F w β r y ∧ (binOp op t v (.pointer none)).run P w = .ok y w ∧ (binOp op t (.pointer none) v).run P w = .ok y w ∧ ∃ p, v = .pointer p := by
  have key : ∀ b, x.isNil = some b → ∃ p, v = .pointer p ∧ b = p.isNone := by
    intro b hb
    unfold AV.isNil at hb
    split at hb
    · cases hb; obtain ⟨_, rfl⟩ := V_ref hx; exact ⟨_, rfl, rfl⟩
    · cases hb; obtain ⟨_, _, _, _, rfl, _⟩ := V_el hx; exact ⟨_, rfl, rfl⟩
    · cases hb; obtain ⟨_, _, _, _, _, _, rfl⟩ := V_oel hx; exact ⟨_, rfl, rfl⟩
    · cases hb; obtain ⟨_, _, rfl⟩ := V_rex hx; exact ⟨_, rfl, rfl⟩
    · rename_i t' z
      cases hb
      cases z with
      | none => cases hx; exact ⟨_, rfl, rfl⟩
      | some z => obtain ⟨_, _, _, rfl, _⟩ := V_op hx; exact ⟨_, rfl, rfl⟩
    · cases hb
  unfold nilEq at hr
  split at hr
  · rename_i e b hu hb
    cases hr
    obtain ⟨p, rfl, rfl⟩ := key b hb
    exact ⟨_, .v _, (bin_nil p hu).1, (bin_nil p hu).2.1, p, rfl⟩
  · rename_i e b hu hb
    cases hr
    obtain ⟨p, rfl, rfl⟩ := key b hb
    exact ⟨_, .v _, (bin_nil p hu).2.2.1, (bin_nil p hu).2.2.2, p, rfl⟩
  · cases hr
theorem evs_getD (h : Rel B F β st a w) (l : List Operand) : ∀ j, j < (l.map st.ev).length → V F w β ((l.map st.ev).getD j .undef) ((l.map a.eval).getD j undef) := fun j hj => by
  have hj' : j < l.length := by simpa using hj
  have := h.ev l[j]
  simpa [List.getD, hj'] using this
def Tells (P : Program) (F : Nat → Prop) (β : Gh) (o : Oper) (a : Act) (w : World) (r : AV) : Prop := ∃ y, V F w β r y ∧ (execOp a.eval o).run P w = .ok (.value y) w
theorem evQ_sound (h : Rel B F β st a w) {o : Oper} {r : AV} (hr : evQ P st o = some r) : Tells P F β o a w r := by
  unfold evQ at hr
  unfold Tells execOp
  split at hr
  · rename_i x hop
    simp at hr; subst hr
    exact ⟨_, h.ev x, by simp [hop]⟩
  · rename_i x hop
    simp at hr; subst hr
    exact ⟨_, h.ev x, by simp [hop]⟩
  · rename_i t x hop
    obtain ⟨y, hy, hrun⟩ := load_sound h.heap (h.ev x) hr
    exact ⟨y, hy, by simp [hop, Sem.run_bind, hrun]⟩
  · rename_i op t x y u hop
    split at hr
    · rename_i xs ys hx hy
      have hrun : ∀ (op : BinOp) (w' : World), P.eqGuardType P.depth t = false → (eqGuard op t x y (a.eval x) (a.eval y)).run P w' = .ok () w' := fun op w' hg => by
        rw [V_val (h.ev x) hx, V_val (h.ev y) hy]
        exact run_eqGuard_agg (P := P) w' op t x y xs ys hg
      split at hr
      · rename_i b hg hb
        simp at hr; subst hr
        refine ⟨.bool b, .v _, ?_⟩
        have h1 := hrun .eql w hg
        simp only [hop, Sem.run_bind, h1, Result.andThen_ok]
        rw [V_val (h.ev x) hx, V_val (h.ev y) hy, run_eql_struct w, eqV_sound _ _ _ _ _ hb w]
        rfl
      · rename_i b hg hb
        simp at hr; subst hr
        refine ⟨.bool (!b), .v _, ?_⟩
        have h1 := hrun .neq w hg
        simp only [hop, Sem.run_bind, h1, Result.andThen_ok]
        rw [V_val (h.ev x) hx, V_val (h.ev y) hy, run_neq_struct w, eqV_sound _ _ _ _ _ hb w]
        rfl
      · cases hr
    · rename_i vx vy _ hx hy
      obtain ⟨z, hz, hrun⟩ := comp_value (F := F) (w := w) (β := β) hr
      refine ⟨z, hz, ?_⟩
      rw [← V_val (h.ev x) hx, ← V_val (h.ev y) hy] at hrun
      simpa [hop] using hrun
    · rename_i hx hy
      obtain ⟨z, hz, hrun, _, p, hp⟩ := nilEq_sound (P := P) (h.ev x) hr
      have hv := V_val (h.ev y) hy
      refine ⟨z, hz, ?_⟩
      rw [hp] at hrun
      simp [hop, hv, hp, eqGuard, Sem.run_bind, hrun]
    · rename_i hx hy
      obtain ⟨z, hz, _, hrun, p, hp⟩ := nilEq_sound (P := P) (h.ev y) hr
      have hv := V_val (h.ev x) hx
      refine ⟨z, hz, ?_⟩
      rw [hp] at hrun
      simp [hop, hv, hp, eqGuard, Sem.run_bind, hrun]
    · cases hr
  · rename_i op t x hop
    split at hr
    · rename_i vx hx
      obtain ⟨z, hz, hrun⟩ := comp_value (F := F) (w := w) (β := β) hr
      refine ⟨z, hz, ?_⟩
      rw [← V_val (h.ev x) hx] at hrun
      simpa [hop] using hrun
    · cases hr
  · rename_i s d x hop
    split at hr
    · rename_i vx hx
      obtain ⟨z, hz, hrun⟩ := comp_value (F := F) (w := w) (β := β) hr
      refine ⟨z, hz, ?_⟩
      rw [← V_val (h.ev x) hx] at hrun
      simpa [hop] using hrun
    · cases hr
  · rename_i s x f hop
    split at hr
    · rename_i fl hf
      split at hr
      · cases hr
      · rename_i n hs
        obtain ⟨y, hy, hrun⟩ := fieldAddr_sound hf hs (h.ev x) hr
        exact ⟨y, hy, by simp [hop, Sem.run_bind, hrun]⟩
    · cases hr
  · rename_i s x f hop
    split at hr
    · rename_i fl cs hf hx
      have hv := h.ev x
      rw [hx] at hv
      obtain ⟨ys, hy, hl, hc⟩ := V_agg hv
      obtain ⟨y, hV, hrun⟩ := part_sound (P := P) hr hl hc
      unfold fieldOf at hf
      split at hf
      · rename_i fs hu
        exact ⟨y, hV, by simp [hop, hy, Instr.field, Sem.run_bind, run_underlying hu w, hf, asAgg, hrun w]⟩
      · cases hf
    · cases hr
  · rename_i x i hop
    split at hr
    · rename_i vs hx
      have hv := h.ev x
      rw [hx] at hv
      obtain ⟨ys, hy, hl, hc⟩ := V_tup hv
      obtain ⟨hlt, rfl⟩ := List.getElem?_eq_some_iff.1 hr
      have hlt' : i < ys.size := by omega
      have hd := hc i hlt
      simp only [List.getD, Array.getD, List.getElem?_eq_getElem hlt, hlt', dite_true, Option.getD_some] at hd
      exact ⟨ys[i], hd, by simp [hop, hy, Instr.extract, hlt']⟩
    · cases hr
  · rename_i t parts hop
    split at hr
    · rename_i pl z hp hz
      cases hf : fillAV pl z (evParts st parts.toList) with
      | none => simp [hf] at hr
      | some cs' =>
        simp [hf] at hr; subst hr
        unfold zeroOf at hz
        split at hz
        · rename_i it hi
          split at hz
          · rename_i zv hzv
            simp at hz; subst hz
            obtain ⟨ys', q1, q2, q3⟩ := fill_sound h pl parts.toList _ cs' zv.cells (by simp) (fun j hj => by
              have hj' : j < zv.cells.size := by simpa using hj
              simp only [List.getD, List.getElem?_map, Array.getElem?_toList, hj', Array.getElem?_eq_getElem, Option.map_some, Option.getD_some, Array.getD, dite_true]
              exact .v _) hf
            refine ⟨.agg ys', .agg _ _ q2 q3, ?_⟩
            have hb : P.built t (parts.map fun (i, x) => (i, a.eval x)).toList = some ys' := by
              unfold Program.built
              unfold placeOf at hp
              cases hu : P.underlying t with
              | none => simp [hu] at hp
              | some d =>
                cases d <;> simp [hu] at hp
                · rename_i n e
                  cases hie : P.info? e with
                  | none => simp [hie] at hp
                  | some ie =>
                    simp [hie] at hp; subst hp
                    simp only [hi, hu, hzv, hie]
                    simpa using q1
                · rename_i fields
                  cases hm : fields.toList.mapM (fun f => (P.info? f.type).map fun i => (f.offset, i.size)) with
                  | none => simp [hm] at hp
                  | some places =>
                    simp [hm] at hp; subst hp
                    simp only [hi, hu, hzv, hm]
                    simpa using q1
            simp [hop, Sem.run_bind, run_build w t _ ys' hb]
          · cases hz
        · cases hz
    · cases hr
  · rename_i f fi ca hop
    simp at hr; subst hr
    refine ⟨.func f (fi.map a.eval) (ca.map a.eval), .fn _ _ _ _ _ (by simp) (by simp) (fun j hj => ?_) (fun j hj => ?_), by simp [hop, Instr.makeFunc]⟩
    · have := evs_getD h fi.toList j (by simpa using hj)
      simpa [Array.getD_eq_getD_getElem?, List.getD] using this
    · have := evs_getD h ca.toList j (by simpa using hj)
      simpa [Array.getD_eq_getD_getElem?, List.getD] using this
  · rename_i t x hop
    split at hr
    · cases hr
    · rename_i d hni hu
      simp at hr; subst hr
      refine ⟨.iface t (a.eval x), .ifc _ _ _ (h.ev x), ?_⟩
      cases d <;> simp [hop, Instr.makeInterface, Sem.run_bind, run_underlying hu w] <;> first | rfl | exact absurd rfl (hni _)
    · cases hr
  · cases hr
/-! ### Lengths, places, cuts -/
theorem sz_pos (t : Ty) : 0 < t.sz := by cases t <;> simp [Ty.sz]
theorem info_of {e : TypeId} {n : Nat} (h : P.cellsOf e = n) (hn : 0 < n) : ∃ i, P.info? e = some i ∧ i.size = n := by
  unfold Program.cellsOf at h
  cases hq : P.info? e with
  | none => simp [hq] at h; omega
  | some i => simp [hq] at h; exact ⟨i, rfl, h⟩
theorem inR_iff {i : Int} {n : Nat} : inR i n = true ↔ 0 ≤ i ∧ i < n := by simp [inR]
theorem indexAddr_sound {t e : TypeId} {ty : Ty} {xs : List ty.T} {n : Int} {k : IntKind} {v : Value} (hu : P.underlying t = some (.slice e)) (hs : P.cellsOf e = ty.sz) (hin : inR n xs.length = true) (hv : V F w β (.sl ty xs) v) :
    ∃ y, V F w β (.el ty xs n.toNat 0) y ∧ (Instr.indexAt t v (.int k n)).run P w = .ok y w := by
  obtain ⟨i, hi, hsz⟩ := info_of hs (sz_pos ty)
  obtain ⟨h0, h1⟩ := inR_iff.1 hin
  cases hv with
  | sl0 => simp at h1; omega
  | sl _ _ b o c Y hF hb hl hcap hc h =>
    refine ⟨.pointer (some ⟨b, o + n.toNat * ty.sz + 0, none⟩), .el _ _ _ _ b (o + n.toNat * ty.sz) (Y n.toNat) (by omega) hF hb (fun j hj => ?_) (fun j hj => h _ _ (by omega) hj), ?_⟩
    · rw [Nat.add_assoc]; exact hc _ _ (by omega) hj
    · have h1' : n < (xs.length : Int) := h1
      simp [Instr.indexAt, asIntOf, Sem.run_bind, run_underlying hu w, h0, h1', run_sizeOf hi w, hsz, add_lit]
theorem indexOwn_sound {t e e' : TypeId} {ty : Ty} {xs : List ty.T} {n : Int} {k : IntKind} {b : Nat} {cols : List (Nat × TypeId)} {hole : Option (Nat × Nat)} (hu : P.underlying t = some (.slice e)) (hs : P.cellsOf e = ty.sz) (hin : inR n xs.length = true) (hb : β.l b) (hk : BlkOk F w β b (.row e' ty cols hole xs)) :
    ∃ y, V F w β (.oel b ty.sz n.toNat 0) y ∧ (Instr.indexAt t (β.v b) (.int k n)).run P w = .ok y w := by
  obtain ⟨i, hi, hsz⟩ := info_of hs (sz_pos ty)
  obtain ⟨h0, h1⟩ := inR_iff.1 hin
  obtain ⟨Vs, ho, _, _⟩ := hk
  rcases ho.2 with ⟨hv, hn⟩ | ⟨g, cap, cur, hv, hg, hh, hr⟩
  · omega
  · refine ⟨.pointer (some ⟨g, n.toNat * ty.sz + 0, none⟩), .oel b ty.sz n.toNat 0 g xs.length cap hb hv (by omega), ?_⟩
    have h1' : n < (xs.length : Int) := h1
    simp [hv, Instr.indexAt, asIntOf, Sem.run_bind, run_underlying hu w, h0, h1', run_sizeOf hi w, hsz, add_lit]
theorem indexRex_sound {t e : TypeId} {ty : Ty} {b off m : Nat} {n : Int} {k : IntKind} {v : Value} (hu : P.underlying t = some (.array m e)) (hs : P.cellsOf e = ty.sz) (hin : inR n m = true) (hv : V F w β (.ref b off) v) :
    ∃ y, V F w β (.rex b off ty m n.toNat 0) y ∧ (Instr.indexAt t v (.int k n)).run P w = .ok y w := by
  obtain ⟨i, hi, hsz⟩ := info_of hs (sz_pos ty)
  obtain ⟨h0, h1⟩ := inR_iff.1 hin
  obtain ⟨hb, rfl⟩ := V_ref hv
  have h1' : n < (m : Int) := h1
  refine ⟨.pointer (some ⟨β.b b, off + n.toNat * ty.sz + 0, none⟩), .rex b off ty m n.toNat 0 hb (by omega), ?_⟩
  simp [Instr.indexAt, asIntOf, Sem.run_bind, run_underlying hu w, Instr.sureAddr, h0, h1', run_sizeOf hi w, hsz, add_lit]
theorem indexVw_sound {t e : TypeId} {b sz o m : Nat} {n : Int} {k : IntKind} {v : Value} (hu : P.underlying t = some (.slice e)) (hs : P.cellsOf e = sz) (hsz0 : 0 < sz) (hin : inR n m = true) (hv : V F w β (.vw b sz o m) v) :
    ∃ y, V F w β (.oel b sz (o + n.toNat) 0) y ∧ (Instr.indexAt t v (.int k n)).run P w = .ok y w := by
  obtain ⟨i, hi, hsz⟩ := info_of hs hsz0
  obtain ⟨h0, h1⟩ := inR_iff.1 hin
  obtain ⟨p, N, c, c', hb, hv', hn, hc, rfl⟩ := V_vw hv
  refine ⟨.pointer (some ⟨p, (o + n.toNat) * sz + 0, none⟩), .oel b sz (o + n.toNat) 0 p N c hb hv' (by omega), ?_⟩
  have h1' : n < (m : Int) := h1
  simp [Instr.indexAt, asIntOf, Sem.run_bind, run_underlying hu w, h0, h1', run_sizeOf hi w, hsz, add_lit, Nat.add_mul]
theorem byte_at (s : ByteArray) (n : Int) (h : inR n s.size = true) : ∃ b, s[n.toNat]? = some b ∧ ((b.toNat : Nat) : Int) = (((s.data.getD n.toNat 0).toNat : Nat) : Int) := by
  obtain ⟨h0, h1⟩ := inR_iff.1 h
  have hlt : n.toNat < s.size := by omega
  have hlt' : n.toNat < s.data.size := hlt
  refine ⟨s[n.toNat], by rw [getElem?_pos s n.toNat hlt], ?_⟩
  rw [show s.data.getD n.toNat 0 = s.data[n.toNat] from by rw [Array.getD_eq_getD_getElem?, Array.getElem?_eq_getElem hlt']; rfl]
  rfl
theorem inS_iff {l h : Int} {n : Nat} : inS l h n = true ↔ 0 ≤ l ∧ l ≤ h ∧ h ≤ n := by simp [inS, and_assoc]
def Bd (x : Option Value) (d : Nat) (n : Int) : Prop := (x = none ∧ n = d) ∨ ∃ k, x = some (.int k n)
theorem bnd_sound (h : Rel B F β st a w) {x : Option Operand} {d : Nat} {n : Int} (hb : bnd st x d = some n) : Bd (x.map a.eval) d n := by
  unfold bnd at hb
  cases x with
  | none => simp at hb; exact .inl ⟨rfl, hb.symm⟩
  | some x =>
    have hv := h.ev x
    simp only at hb
    split at hb
    · rename_i k n' hx
      simp at hb; subst hb
      rw [hx] at hv
      exact .inr ⟨k, by rw [Option.map_some, V_v hv]⟩
    · cases hb
theorem run_bounds {isS : Bool} {len cap : Nat} {lo hi : Option Value} {l h : Int} (hlo : Bd lo 0 l) (hhi : Bd hi len h) (h0 : 0 ≤ l) (h1 : l ≤ h) (h2 : h ≤ len) (hc : len ≤ cap) (w' : World) :
    (Instr.sliceBounds isS len cap lo hi none).run P w' = .ok (l.toNat, h.toNat, cap) w' := by
  have hh : 0 ≤ h := by omega
  have hcap : h ≤ (cap : Int) := by omega
  have hlh : l ≤ (h.toNat : Int) := by omega
  rcases hlo with ⟨rfl, rfl⟩ | ⟨k1, rfl⟩ <;> rcases hhi with ⟨rfl, rfl⟩ | ⟨k2, rfl⟩
  · simp [Instr.sliceBounds]
  · simp [Instr.sliceBounds, Instr.sliceBound, asIntOf, Sem.run_bind, hh, hcap]
  · simp [Instr.sliceBounds, Instr.sliceBound, asIntOf, Sem.run_bind, h0, h1]
  · simp [Instr.sliceBounds, Instr.sliceBound, asIntOf, Sem.run_bind, hh, hcap, h0, hlh]
    intro hc; omega
theorem slice_sound {t e : TypeId} {ty : Ty} {xs : List ty.T} {v : Value} {lo hi : Option Value} {l h : Int} (hu : P.underlying t = some (.slice e)) (hs : P.cellsOf e = ty.sz) (hv : V F w β (.sl ty xs) v) (hlo : Bd lo 0 l) (hhi : Bd hi xs.length h) (hin : inS l h xs.length = true) :
    ∃ y, V F w β (.sl ty ((xs.take h.toNat).drop l.toNat)) y ∧ ∀ w', (Instr.sliceAt t v lo hi none).run P w' = .ok y w' := by
  obtain ⟨h0, h1, h2⟩ := inS_iff.1 hin
  obtain ⟨i, hi', hsz⟩ := info_of hs (sz_pos ty)
  have hlen : ((xs.take h.toNat).drop l.toNat).length = h.toNat - l.toNat := by simp; omega
  have run : ∀ A c, xs.length ≤ c → ∀ w', (Instr.sliceAt t (.slice A xs.length c) lo hi none).run P w' = .ok (.slice (if c = l.toNat then A else A.map (·.add (l.toNat * ty.sz))) (h.toNat - l.toNat) (c - l.toNat)) w' := by
    intro A c hc w'
    simp [Instr.sliceAt, Instr.slice, Sem.run_bind, run_underlying hu w', run_bounds (P := P) hlo hhi h0 h1 h2 hc w', run_sizeOf hi' w', hsz]
  cases hv with
  | sl0 _ A c =>
    have hl0 : l.toNat = 0 := by simp at h2; omega
    have hh0 : h.toNat = 0 := by simp at h2; omega
    refine ⟨_, ?_, run A c (Nat.zero_le _)⟩
    rw [hl0, hh0]
    exact .sl0 ty _ _
  | sl _ _ b o c Y hF hb hl hcap hc hd =>
    refine ⟨_, ?_, run _ c hcap⟩
    by_cases he : h.toNat = l.toNat
    · have : (xs.take h.toNat).drop l.toNat = [] := List.eq_nil_of_length_eq_zero (by rw [hlen]; omega)
      rw [this, show h.toNat - l.toNat = 0 by omega]
      exact .sl0 ty _ _
    · rw [if_neg (by omega), ← hlen]
      simp only [Option.map_some, add_lit]
      have hnth : ∀ i, i < h.toNat - l.toNat → nth ((xs.take h.toNat).drop l.toNat) i = nth xs (l.toNat + i) := fun i hi => by
        simp [nth, List.getD, List.getElem?_drop, List.getElem?_take, show l.toNat + i < h.toNat by omega]
      refine .sl ty _ b (o + l.toNat * ty.sz) (c - l.toNat) (fun i j => Y (l.toNat + i) j) hF hb (by rw [hlen]; omega) (by rw [hlen]; omega) (fun i j hi hj => ?_) (fun i j hi hj => ?_)
      · rw [hlen] at hi
        have := hc (l.toNat + i) j (by omega) hj
        rw [← this]
        congr 2
        rw [Nat.add_mul]; omega
      · rw [hlen] at hi
        rw [hnth i hi]
        exact hd _ _ (by omega) hj
theorem vals_map (h : Rel B F β st a w) : ∀ {l : List Operand} {vs : List Value}, vals (l.map st.ev) = some vs → l.map a.eval = vs
  | [], vs, hv => by simp [vals] at hv; subst hv; rfl
  | x :: l, vs, hv => by
    simp only [List.map_cons, vals] at hv
    split at hv
    · rename_i y ys hy hys
      simp at hv; subst hv
      rw [List.map_cons, V_val (h.ev x) hy, vals_map h hys]
    · cases hv
end
end Go.Proofs.YtgfifnadfmaolaaGreatDoor
