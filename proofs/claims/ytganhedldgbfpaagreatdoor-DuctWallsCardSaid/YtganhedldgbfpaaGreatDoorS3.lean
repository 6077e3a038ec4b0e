import Derived.Test.YtganhedldgbfpaaGreatDoorS
import Derived.Laws.Slices
import Derived.Laws.Small
import Derived.Laws.StructEq
import Derived.ChangeKeysEq
import Derived.WalkKit
set_option linter.unusedVariables false
set_option linter.unusedSimpArgs false
noncomputable section
namespace Go.Proofs.YtganhedldgbfpaaGreatDoor
open Go.RowKit
section
variable {P : Program} {F : Nat -> Prop} {w : World} {β : Gh}
theorem zc7 {t : TypeId} (h : zgs P t = some none) (w' : World) : (isAgg t).run P w' = .ok false w' := by
 unfold zgs at h
 cases hu : P.underlying t with
 | none => simp [hu] at h
 | some d =>
  rw [hu] at h
  unfold isAgg
  rw [Sem.run_bind, run_underlying hu w']
  cases d <;> simp at h ⊢
theorem zc8 {t : TypeId} {n : Nat} (h : zgs P t = some (some n)) : (∀ w' : World, (isAgg t).run P w' = .ok true w') /\ ∃ i, P.info? t = some i /\ i.size = n := by
 unfold zgs at h
 cases hu : P.underlying t with
 | none => simp [hu] at h
 | some d =>
  rw [hu] at h
  refine ⟨fun w' => ?_, ?_⟩
  . unfold isAgg
    rw [Sem.run_bind, run_underlying hu w']
    cases d <;> simp at h ⊢
  . cases d <;> simp at h
    . exact h
    . exact h
theorem zat {t : TypeId} {i : TypeInfo} (h : P.info? t = some i) (w' : World) : (sizeOf t).run P w' = .ok i.size w' := by simp [sizeOf, typeInfo, h, Sem.run_bind, run_program]
theorem zy8 {w' : World} {a : Addr} {y : Value} (h : w'.cell? a = some y) : (load a).run P w' = .ok y w' := by simp [load, Sem.run, h]
theorem zdI {t : TypeId} {cs : List AV} {off : Nat} {r : AV} (h : rd P t cs off = some r) (b o : Nat) (Y : Nat -> Value) (hV : ∀ j, j < cs.length -> V F w β (cs.getD j .undef) (Y j)) :
 ∃ y, V F w β r y /\ ∀ w' : World, (∀ j, j < cs.length -> w'.cell? ⟨b, o + j, none⟩ = some (Y j)) -> (loadVar t ⟨b, o + off, none⟩).run P w' = .ok y w' := by
 unfold rd at h
 split at h
 . rename_i ha
   obtain ⟨hlt, rfl⟩ := List.getElem?_eq_some_iff.1 h
   refine ⟨Y off, (by simpa [List.getD, hlt] using hV off hlt), fun w' hc => ?_⟩
   simp only [loadVar, Sem.run_bind, zc7 ha w', Result.andThen_ok, Bool.false_eq_true, if_false]
   exact zy8 (hc off hlt)
 . rename_i n ha
   split at h
   . rename_i hle
     have hle' : off + n <= cs.length := Nat.le_of_ble_eq_true hle
     simp at h; subst h
     obtain ⟨hagg, i, hi, hn⟩ := zc8 ha
     have hlen : ((List.range n).map fun j => Y (off + j)).length = n := by simp
     refine ⟨.agg ((List.range n).map fun j => Y (off + j)).toArray, .agg _ _ (by simp; omega) fun j hj => ?_, fun w' hc => ?_⟩
     . have hj' : j < n := by simp at hj; omega
       have := hV (off + j) (by omega)
       simpa [List.getD, Array.getD, hj', show off + j < cs.length by omega, List.getElem?_take] using this
     . have hl := run_loadCells_list (P := P) w' ⟨b, o + off, none⟩ ((List.range n).map fun j => Y (off + j)) (fun j v hv => by
        have hj : j < n := by
         rcases Nat.lt_or_ge j n with h | h
         . exact h
         . simp [List.getElem?_eq_none (show ((List.range n).map fun j => Y (off + j)).length <= j by simp; exact h)] at hv
        simp [hj] at hv
        rw [show (⟨b, o + off, none⟩ : Addr).add j = ⟨b, o + (off + j), none⟩ by unfold Addr.add; split <;> simp_all [Nat.add_assoc]]
        rw [← hv]; exact hc _ (by omega))
       rw [hlen] at hl
       simp only [loadVar, Sem.run_bind, hagg w', Result.andThen_ok, if_true, zat hi w', hn, hl, Sem.run_pure]
   . cases h
 . cases h
theorem zvk {t : TypeId} {cs : List AV} {ys : Array Value} {off : Nat} {r : AV} (h : rd P t cs off = some r) (hl : ys.size = cs.length) (hV : ∀ j, j < cs.length -> V F w β (cs.getD j .undef) (ys.getD j undef)) :
 ∃ y, V F w β r y /\ ∀ w' : World, (part t ys off).run P w' = .ok y w' := by
 unfold rd at h
 split at h
 . rename_i ha
   obtain ⟨hlt, rfl⟩ := List.getElem?_eq_some_iff.1 h
   have hlt' : off < ys.size := by omega
   refine ⟨ys[off], (by simpa [List.getD, Array.getD, hlt, hlt'] using hV off hlt), fun w' => ?_⟩
   simp [part, Sem.run_bind, zc7 ha w', hlt']
 . rename_i n ha
   split at h
   . rename_i hle
     have hle' : off + n <= cs.length := Nat.le_of_ble_eq_true hle
     simp at h; subst h
     obtain ⟨hagg, i, hi, hn⟩ := zc8 ha
     refine ⟨.agg (ys.extract off (off + n)), .agg _ _ (by simp; omega) fun j hj => ?_, fun w' => ?_⟩
     . have hj' : j < n := by simp at hj; omega
       have := hV (off + j) (by omega)
       simpa [List.getD, Array.getD, hj', show off + j < cs.length by omega, List.getElem?_take, show off + j < ys.size by omega, show j < min (off + n) ys.size - off by omega] using this
     . simp [part, Sem.run_bind, hagg w', zat hi w', hn]
   . cases h
 . cases h
theorem zgU {b off : Nat} {y : Value} (h : V F w β (.ref b off) y) : β.l b /\ y = .pointer (some ⟨β.b b, off, none⟩) := by cases h; exact ⟨by assumption, rfl⟩
theorem zdq {b : Nat} {y : Value} (h : V F w β (.own b) y) : β.l b /\ y = β.v b /\ ∃ A n c, y = .slice A n c := by cases h; exact ⟨by assumption, rfl, _, _, _, by assumption⟩
theorem zlo {b sz i off : Nat} {y : Value} (h : V F w β (.oel b sz i off) y) : ∃ p n c, β.l b /\ β.v b = .slice (some ⟨p, 0, none⟩) n c /\ i < n /\ y = .pointer (some ⟨p, i * sz + off, none⟩) := by
 cases h; exact ⟨_, _, _, by assumption, by assumption, by assumption, rfl⟩
theorem zsV {b o0 m i d : Nat} {t : Ty} {y : Value} (h : V F w β (.rex b o0 t m i d) y) : β.l b /\ i < m /\ y = .pointer (some ⟨β.b b, o0 + i * t.sz + d, none⟩) := by cases h; exact ⟨by assumption, by assumption, rfl⟩
theorem zIt {b sz o n : Nat} {y : Value} (h : V F w β (.vw b sz o n) y) : ∃ A c', β.l b /\ n <= c' /\ y = .slice A n c' /\ (0 < n -> ∃ p N c, β.v b = .slice (some ⟨p, 0, none⟩) N c /\ o + n <= N /\ A = some ⟨p, o * sz, none⟩) := by
 cases h; exact ⟨_, _, by assumption, by assumption, rfl, by assumption⟩
theorem zln {cs : List AV} {y : Value} (h : V F w β (.agg cs) y) : ∃ ys, y = .agg ys /\ ys.size = cs.length /\ ∀ j, j < cs.length -> V F w β (cs.getD j .undef) (ys.getD j undef) := by
 cases h; exact ⟨_, rfl, by assumption, by assumption⟩
theorem zHq {cs : List AV} {y : Value} (h : V F w β (.tup cs) y) : ∃ ys, y = .tuple ys /\ ys.size = cs.length /\ ∀ j, j < cs.length -> V F w β (cs.getD j .undef) (ys.getD j undef) := by
 cases h; exact ⟨_, rfl, by assumption, by assumption⟩
theorem zvU {t : Ty} {xs : List t.T} {y : Value} (h : V F w β (.sl t xs) y) : ∃ A c, y = .slice A xs.length c := by
 cases h with
 | sl0 _ A c => exact ⟨A, c, rfl⟩
 | sl _ _ b o c => exact ⟨_, c, rfl⟩
theorem sl_D {t : Ty} {xs : List t.T} {y : Value} (h : V F w β (.sl t xs) y) : D F w (.sl t xs) y := h.toD (.sl _ _)
theorem zuP {t : Ty} {xs : List t.T} {i off : Nat} {y : Value} (h : V F w β (.el t xs i off) y) :
 ∃ b o, ∃ Y : Nat -> Value, i < xs.length /\ y = .pointer (some ⟨b, o + off, none⟩) /\ F b /\ b < w.heap.size /\ (∀ j, j < t.sz -> w.cell? ⟨b, o + j, none⟩ = some (Y j)) /\ ∀ j, j < t.sz -> V F w β ((t.enc (nth xs i)).getD j .undef) (Y j) := by
 cases h; exact ⟨_, _, _, by assumption, rfl, by assumption, by assumption, by assumption, by assumption⟩
theorem zzL {t : Ty} {x : t.T} {y : Value} (h : V F w β (.op t (some x)) y) :
 ∃ b o, ∃ Y : Nat -> Value, y = .pointer (some ⟨b, o, none⟩) /\ F b /\ b < w.heap.size /\ (∀ j, j < t.sz -> w.cell? ⟨b, o + j, none⟩ = some (Y j)) /\ ∀ j, j < t.sz -> V F w β ((t.enc x).getD j .undef) (Y j) := by
 cases h; exact ⟨_, _, _, rfl, by assumption, by assumption, by assumption, by assumption⟩
theorem zH9 {t : Ty} {x : t.T} {y : Value} (h : V F w β (.op t (some x)) y) : V F w β (.el t [x] 0 0) y := by
 obtain ⟨b, o, Y, rfl, hF, hb, hc, hd⟩ := zzL h
 exact .el t [x] 0 0 b o Y (by simp) hF hb hc hd
theorem add_lit (b o n : Nat) : (⟨b, o, none⟩ : Addr).add n = ⟨b, o + n, none⟩ := by unfold Addr.add; split <;> simp_all
end
theorem zbr {i n j s : Nat} (hi : i < n) (hj : j < s) : i * s + j < n * s := by
 have : (i + 1) * s <= n * s := Nat.mul_le_mul_right s hi
 rw [Nat.add_mul] at this
 omega
theorem zbF {w : World} {base e size : Nat} {v : Value} {n p n' c : Nat} {xs : List Value} (h : w.ownsRow base e size v n xs) (hv : v = .slice (some ⟨p, 0, none⟩) n' c) : n' = n /\ ∀ j, j < n * size -> w.cell? ⟨p, j, none⟩ = some (xs.getD j undef) := by
 subst hv
 refine ⟨?_, fun j hj => ?_⟩
 . rcases h.2 with ⟨h0, _⟩ | ⟨g, cap, cur, h0, _⟩
   . cases h0
   . cases h0; rfl
 . have := h.cells (g := p) rfl j (xs.getD j undef) (by rw [List.getD_eq_getElem?_getD, List.getElem?_eq_getElem (by rw [h.1]; exact hj)]; rfl)
   rwa [add_lit, Nat.zero_add] at this
section
variable {P : Program} {B : Bs} {F : Nat -> Prop} {β : Gh} {st : St} {a : Act} {w : World}
theorem zjy (cols : List (Nat × TypeId)) : ∀ (k : Nat) (l : List AV), (zkx cols k l).length = l.length
 | _, [] => rfl
 | k, x :: r => by simp [zkx, zjy cols (k + 1) r]
theorem zo1 (cols : List (Nat × TypeId)) : ∀ (k : Nat) (l : List AV) (j : Nat), (zkx cols k l).getD j .undef = match zag cols (k + j) with | some _ => .undef | none => l.getD j .undef
 | k, [], j => by simp [zkx]; split <;> rfl
 | k, x :: r, 0 => by simp [zkx]; rfl
 | k, x :: r, j + 1 => by
  have := zo1 cols (k + 1) r j
  simp only [zkx, List.getD_cons_succ]
  rw [this, show k + 1 + j = k + (j + 1) by omega]
theorem zmE (h : HOk F w β st.heap) {t : TypeId} {x r : AV} {v : Value} (hx : V F w β x v) (hr : st.load P t x = some r) :
 ∃ y, V F w β r y /\ (Instr.loadAt t v).run P w = .ok y w := by
 unfold St.load at hr
 split at hr
 . rename_i b off
   obtain ⟨hb, rfl⟩ := zgU hx
   split at hr
   . rename_i e cs hcs
     obtain ⟨ys, T, h1, h2, _, h3⟩ := h.blk b _ hcs
     obtain ⟨y, hy, hrun⟩ := zdI (P := P) hr (β.b b) 0 (fun j => ys.getD j undef) h3
     refine ⟨y, hy, ?_⟩
     have := hrun w fun j hj => by rw [Nat.zero_add, cell_of_row w (β.b b) j ys T (0, 0) h1]; simp [Array.getD, show j < ys.size by omega]
     simpa [Instr.loadAt, Instr.sureAddr, Sem.run_bind] using this
   . rename_i ty x hcs
     have hd : D F w (.op ty (some x)) (.pointer (some ⟨β.b b, 0, none⟩)) := h.blk b _ hcs
     obtain ⟨b', o, Y, he, hF, hb, hc, hD⟩ := zzL hd
     cases he
     obtain ⟨y, hy, hrun⟩ := zdI (P := P) (β := β) hr (β.b b) 0 Y (fun j hj => (hD j (by rwa [zab] at hj)).ofD)
     refine ⟨y, hy, ?_⟩
     have := hrun w fun j hj => hc j (by rwa [zab] at hj)
     simpa [Instr.loadAt, Instr.sureAddr, Sem.run_bind] using this
   . cases hr
 . rename_i ty x
   obtain ⟨b, o, Y, rfl, hF, hb, hc, hD⟩ := zzL hx
   obtain ⟨y, hy, hrun⟩ := zdI (P := P) hr b o Y (fun j hj => hD j (by rwa [zab] at hj))
   refine ⟨y, hy, ?_⟩
   have := hrun w fun j hj => hc j (by rwa [zab] at hj)
   simpa [Instr.loadAt, Instr.sureAddr, Sem.run_bind] using this
 . rename_i ty xs i off
   obtain ⟨b, o, Y, hi, rfl, hF, hb, hc, hD⟩ := zuP hx
   obtain ⟨y, hy, hrun⟩ := zdI (P := P) hr b o Y (fun j hj => hD j (by rwa [zab] at hj))
   refine ⟨y, hy, ?_⟩
   have := hrun w fun j hj => hc j (by rwa [zab] at hj)
   simpa [Instr.loadAt, Instr.sureAddr, Sem.run_bind] using this
 . rename_i b sz i off
   obtain ⟨p, n, c, hb, hv, hi, rfl⟩ := zlo hx
   split at hr
   . rename_i e ty cols hole xs hk
     split at hr
     . rename_i hsz
       have hsz' := Nat.eq_of_beq_eq_true hsz
       obtain ⟨Vs, ho, _, _, hd⟩ := h.blk b _ hk
       obtain ⟨hn, hcell⟩ := zbF ho hv
       subst hn
       obtain ⟨y, hy, hrun⟩ := zdI (P := P) (β := β) hr p (i * sz) (fun j => Vs.getD (i * ty.sz + j) undef) (fun j hj => by
        rw [zjy, zab] at hj
        rw [zo1, Nat.zero_add]
        cases hc : zag cols j with
        | none => exact ((hd i j hi hj).toD hc).ofD
        | some _ => exact .undef _)
       refine ⟨y, hy, ?_⟩
       have := hrun w fun j hj => by
        rw [zjy, zab] at hj
        rw [← hsz']
        exact hcell _ (zbr hi hj)
       simpa [Instr.loadAt, Instr.sureAddr, Sem.run_bind] using this
     . cases hr
   . cases hr
 . cases hr
theorem zk0 {s : TypeId} {f : Nat} {fl : Field} (hf : zhN P s f = some fl) {n : Nat} (hs : P.cellsOf fl.type = n + 1) {x r : AV} {v : Value} (hx : V F w β x v) (hr : x.add fl.offset = some r) :
 ∃ y, V F w β r y /\ (Instr.fieldAt s v f).run P w = .ok y w := by
 unfold zhN at hf
 split at hf
 . rename_i fs hu
   have hi : ∃ i, P.info? fl.type = some i /\ i.size = n + 1 := by
    unfold Program.cellsOf at hs
    cases hq : P.info? fl.type with
    | none => simp [hq] at hs
    | some i => simp [hq] at hs; exact ⟨i, rfl, hs⟩
   obtain ⟨i, hi, hin⟩ := hi
   have key : ∀ b o (w' : World), (Instr.fieldAt s (.pointer (some ⟨b, o, none⟩)) f).run P w' = .ok (.pointer (some ⟨b, o + fl.offset, none⟩)) w' := by
    intro b o w'
    simp [Instr.fieldAt, Sem.run_bind, run_underlying hu w', hf, Instr.sureAddr, fieldPlace, zat hi w', hin, add_lit]
   unfold AV.add at hr
   split at hr
   . simp at hr; subst hr
     obtain ⟨hb, rfl⟩ := zgU hx
     exact ⟨_, .ref _ _ hb, key _ _ w⟩
   . simp at hr; subst hr
     obtain ⟨b, o, Y, hi', rfl, hF, hb, hc, hd⟩ := zuP hx
     exact ⟨_, .el _ _ _ _ b o Y hi' hF hb hc hd, by rw [key]; simp [Nat.add_assoc]⟩
   . simp at hr; subst hr
     obtain ⟨p, n', c, hb, hv, hi', rfl⟩ := zlo hx
     exact ⟨_, .oel _ _ _ _ p n' c hb hv hi', by rw [key]; simp [Nat.add_assoc]⟩
   . simp at hr; subst hr
     obtain ⟨hb, hi', rfl⟩ := zsV hx
     exact ⟨_, .rex _ _ _ _ _ _ hb hi', by rw [key]; simp [Nat.add_assoc]⟩
   . simp at hr; subst hr
     obtain ⟨b, o, Y, hi', rfl, hF, hb, hc, hd⟩ := zuP (zH9 hx)
     exact ⟨_, .el _ _ _ _ b o Y hi' hF hb hc hd, by rw [key]; simp⟩
   . cases hr
 . cases hf
theorem zL5 (c : Clo) : c.out = .v .nilFunc ∨ ∃ f as cs, c.out = .fn f as cs := by cases c <;> first | exact .inl rfl | exact .inr ⟨_, _, _, rfl⟩
theorem ziJ {x : AV} {y : Value} (h : V F w β x y) (hx : zkg x = true) : y.cells = #[y] /\ y.oneCell' = true := by
 cases h with
 | v z => cases y <;> simp [zkg] at hx <;> simp [Value.cells, Value.oneCell']
 | own b hb A n c hv => rw [hv]; simp [Value.cells, Value.oneCell']
 | clo c y h =>
  rcases zL5 c with e | ⟨f, as, cs, e⟩
  . rw [e] at h; cases h; simp [Value.cells, Value.oneCell']
  . rw [e] at h; cases h; simp [Value.cells, Value.oneCell']
 | undef => simp [zkg] at hx
 | agg => simp [zkg] at hx
 | tup => simp [zkg] at hx
 | _ => simp [Value.cells, Value.oneCell']
theorem zg8 : ∀ {cs : List AV}, zlu cs = true -> ∀ j, j < cs.length -> zkg (cs.getD j .undef) = true
 | [], _, j, hj => by simp at hj
 | c :: cs, h, j, hj => by
  simp only [zlu] at h
  split at h
  . rename_i h1
    cases j with
    | zero => simpa using h1
    | succ j => simpa using zg8 h j (by simpa using hj)
  . cases h
theorem zgp {x : AV} {y : Value} {cs : List AV} (h : V F w β x y) (hc : x.cells = some cs) : y.cells.size = cs.length /\ ∀ j, j < cs.length -> V F w β (cs.getD j .undef) (y.cells.getD j undef) /\ (y.cells.getD j undef).oneCell' = true := by
 unfold AV.cells at hc
 split at hc
 . rename_i cs'
   obtain ⟨ys, rfl, hl, h⟩ := zln h
   split at hc
   . rename_i h1
     simp at hc; subst hc
     exact ⟨hl, fun j hj => ⟨h j hj, (ziJ (h j hj) (zg8 h1 j hj)).2⟩⟩
   . cases hc
 . split at hc
   . rename_i h1
     simp at hc; subst hc
     obtain ⟨g1, g2⟩ := ziJ h h1
     rw [g1]
     refine ⟨rfl, fun j hj => ?_⟩
     obtain rfl : j = 0 := by simpa using hj
     exact ⟨h, g2⟩
   . cases hc
theorem zdg : ∀ {cs : List AV} {off : Nat} {xs cs' : List AV}, wr cs off xs = some cs' -> cs'.length = cs.length /\ (xs = [] ∨ off + xs.length <= cs.length) /\ ∀ j, cs'.getD j .undef = if off <= j /\ j < off + xs.length then xs.getD (j - off) .undef else cs.getD j .undef
 | cs, off, [], cs', h => by
  simp [wr] at h; subst h
  exact ⟨rfl, .inl rfl, fun j => by rw [if_neg (by simp)]⟩
 | c :: cs, 0, x :: xs, cs', h => by
  simp only [wr] at h
  split at h
  . rename_i r hr
    simp at h; subst h
    obtain ⟨h1, h2, h3⟩ := zdg hr
    refine ⟨by simp [h1], .inr (by rcases h2 with rfl | h2 <;> simp <;> omega), fun j => ?_⟩
    cases j with
    | zero => simp
    | succ j =>
     have := h3 j
     simp only [List.getD_cons_succ, Nat.sub_zero, Nat.zero_le, true_and, List.length_cons] at this ⊢
     rw [this]
     by_cases hj : j < 0 + xs.length
     . rw [if_pos hj, if_pos (by omega)]
     . rw [if_neg hj, if_neg (by omega)]
  . cases h
 | c :: cs, n + 1, x :: xs, cs', h => by
  simp only [wr] at h
  split at h
  . rename_i r hr
    simp at h; subst h
    obtain ⟨h1, h2, h3⟩ := zdg hr
    refine ⟨by simp [h1], .inr (by rcases h2 with h2 | h2 <;> simp at h2 ⊢ <;> omega), fun j => ?_⟩
    cases j with
    | zero => simp
    | succ j =>
     have := h3 j
     simp only [List.getD_cons_succ]
     rw [this]
     by_cases hj : n <= j /\ j < n + (x :: xs).length
     . rw [if_pos hj, if_pos (by omega), show j + 1 - (n + 1) = j - n by omega]
     . rw [if_neg hj, if_neg (by omega)]
  . cases h
 | [], 0, x :: xs, cs', h => by simp [wr] at h
 | [], n + 1, x :: xs, cs', h => by simp [wr] at h
theorem zAv (l : List Value) : ∀ (k off : Nat) (ys : Array Value), ((l.zipIdx k).foldl (fun cs (p : Value × Nat) => cs.setIfInBounds (off + p.2) p.1) ys).size = ys.size /\
 ∀ j, j < ys.size -> ((l.zipIdx k).foldl (fun cs (p : Value × Nat) => cs.setIfInBounds (off + p.2) p.1) ys).getD j undef = if off + k <= j /\ j < off + k + l.length then l.getD (j - (off + k)) undef else ys.getD j undef := by
 induction l with
 | nil => intro k off ys; exact ⟨rfl, fun j hj => by rw [if_neg (by simp)]; rfl⟩
 | cons x l ih =>
  intro k off ys
  obtain ⟨h1, h2⟩ := ih (k + 1) off (ys.setIfInBounds (off + k) x)
  simp only [List.zipIdx_cons, List.foldl_cons]
  refine ⟨by rw [h1]; simp, fun j hj => ?_⟩
  rw [h2 j (by simpa using hj)]
  by_cases hjk : j = off + k
  . subst hjk
    rw [if_neg (by omega), if_pos (by simp)]
    simp [Array.getD, hj]
  . by_cases hr : off + (k + 1) <= j /\ j < off + (k + 1) + l.length
    . rw [if_pos hr, if_pos (by simp; omega), show j - (off + k) = (j - (off + (k + 1))) + 1 by omega]
      rfl
    . rw [if_neg hr, if_neg (by simp; omega)]
      simp [Array.getD, hj, Array.getElem_setIfInBounds, show ¬ off + k = j by omega]
theorem zha {s : Sem Value} {r : AV} (h : (zfv P s).map zh5 = some r) : ∃ y, V F w β r y /\ (do pure (Next.value (← s)) : Sem Next).run P w = .ok (.value y) w := by
 cases hc : zfv P s with
 | none => simp [hc] at h
 | some y =>
  simp [hc] at h; subst h
  exact ⟨y, zhE y, by simp [Sem.run_bind, zei hc w]⟩
theorem zhd (h : Rel B F β st a w) (place : Nat -> Option (Nat × Nat)) : ∀ (l : List (Nat × Operand)) (cs cs' : List AV) (ys : Array Value), ys.size = cs.length -> (∀ j, j < cs.length -> V F w β (cs.getD j .undef) (ys.getD j undef)) ->
 zfU place cs (zdS st l) = some cs' -> ∃ ys', Instr.fill place ys (l.map fun p => (p.1, a.eval p.2)) = some ys' /\ ys'.size = cs'.length /\ ∀ j, j < cs'.length -> V F w β (cs'.getD j .undef) (ys'.getD j undef)
 | [], cs, cs', ys, hl, hc, hf => by simp [zdS, zfU] at hf; subst hf; exact ⟨ys, rfl, hl, hc⟩
 | (i, o) :: l, cs, cs', ys, hl, hc, hf => by
  simp only [zdS, zfU] at hf
  split at hf
  . rename_i off size hp
    split at hf
    . rename_i xs hxs
      split at hf
      . rename_i cs1 e1 e2 hw
        obtain ⟨g1, g2⟩ := zgp (h.ev o) hxs
        obtain ⟨k1, k2, k3⟩ := zdg hw
        have e1' : xs.length = size := Nat.eq_of_beq_eq_true e1
        have e2' : off + xs.length <= cs.length := Nat.le_of_ble_eq_true e2
        obtain ⟨f1, f2⟩ := zAv (a.eval o).cells.toList 0 off ys
        have := zhd h place l cs1 cs' ((a.eval o).cells.zipIdx.foldl (fun cs (p : Value × Nat) => cs.setIfInBounds (off + p.2) p.1) ys) (by
         rw [← Array.foldl_toList, Array.toList_zipIdx]; rw [f1, hl, k1]) (fun j hj => by
         rw [← Array.foldl_toList, Array.toList_zipIdx, f2 j (by omega), k3 j]
         simp only [Nat.add_zero, Array.length_toList, g1]
         by_cases hr : off <= j /\ j < off + xs.length
         . rw [if_pos hr, if_pos hr]
           have := (g2 (j - off) (by omega)).1
           simpa [List.getD, Array.getD, show j - off < (a.eval o).cells.size by omega] using this
         . rw [if_neg hr, if_neg hr]
           exact hc j (by omega)) hf
        obtain ⟨ys', q1, q2, q3⟩ := this
        refine ⟨ys', ?_, q2, q3⟩
        simp only [List.map_cons, Instr.fill, hp, g1, e1']
        rw [if_neg (by simp; omega)]
        exact q1
      . cases hf
    . cases hf
  . cases hf
theorem zh7 {t : TypeId} {cs : Array Value} {off : Nat} {v : Value} (h : zo7 P t cs off = some v) (w' : World) : (part t cs off).run P w' = .ok v w' := by
 unfold zo7 at h
 unfold part
 split at h
 . rename_i ha
   simp [Sem.run_bind, zc7 ha w', h]
 . rename_i n ha
   obtain ⟨h1, i, hi, hs⟩ := zc8 ha
   simp at h; subst h
   simp [Sem.run_bind, h1 w', zat hi w', hs]
 . cases h
theorem zjo : ∀ (d : Nat) (t : TypeId) (x y : Value) (b : Bool), eqV P d t x y = some b -> ∀ w' : World, (Op.equalIn d t x y).run P w' = .ok b w'
 | 0, t, x, y, b, h, w' => by simp [eqV] at h
 | d + 1, t, x, y, b, h, w' => by
  have ih := zjo d
  simp only [eqV] at h
  split at h
  . rename_i hu; simp at h; subst h; exact run_equalIn_bool w' d t _ _ hu
  . rename_i hu
    split at h
    . rename_i e _
      subst e
      simp at h; subst h; exact run_equalIn_int w' d t _ _ _ _ hu
    . cases h
  . rename_i hu; simp at h; subst h; exact run_equalIn_string w' d t _ _ hu
  . rename_i fs xs ys hu
    split at h
    . rename_i hp
      have hf : P.fieldsOf t = fs := by simp [Program.fieldsOf, hu]
      rw [run_equalIn_struct (P := P) w' d t xs ys (by rw [hf]; exact hu) hp, hf]
      revert h
      generalize fs.toList = l
      revert b
      induction l with
      | nil => intro b h; simp [zAn] at h; subst h; simp [Op.eqFields]
      | cons fl r ihl =>
       intro b h
       simp only [zAn] at h
       split at h
       . rename_i hn
         have hn' : ¬ fl.name ≠ "_" := by simpa using hn
         rw [Op.eqFields, if_neg hn']
         exact ihl b h
       . rename_i hn
         have hn' : fl.name ≠ "_" := by simpa using hn
         split at h
         . rename_i va vb ha hb
           split at h
           . rename_i p q hp' hq
             simp at h; subst h
             have hr := ihl q hq
             simp only [Op.eqFields, if_pos hn', Sem.run_bind, zh7 ha w', zh7 hb w', ih _ _ _ _ hp' w', Result.andThen_ok]
             cases p
             . simp
             . simpa using hr
           . cases h
         . cases h
    . cases h
  . rename_i n e xs ys hu
    split at h
    . rename_i i hi
      have hc : P.cellsOf e = i.size := by simp [Program.cellsOf, hi]
      rw [run_equalIn_array w' d xs ys hu hi, hc]
      revert h
      generalize List.range n = l
      revert b
      induction l with
      | nil => intro b h; simp [zD4] at h; subst h; simp [Op.eqItems]
      | cons j r ihl =>
       intro b h
       simp only [zD4] at h
       split at h
       . rename_i va vb ha hb
         split at h
         . rename_i p q hp' hq
           simp at h; subst h
           have hr := ihl q hq
           simp only [Op.eqItems, Sem.run_bind, zh7 ha w', zh7 hb w', ih _ _ _ _ hp' w', Result.andThen_ok]
           cases p
           . simp
           . simpa using hr
         . cases h
       . cases h
    . cases h
  . cases h
theorem zAo (d : Nat) {t e : TypeId} (p : Option Addr) (hu : P.underlying t = some (.pointer e)) : (Op.equalIn (d + 1) t (.pointer p) (.pointer none)).run P w = .ok p.isNone w /\ (Op.equalIn (d + 1) t (.pointer none) (.pointer p)).run P w = .ok p.isNone w := by
 constructor
 . unfold Op.equalIn; rw [Sem.run_bind, run_underlying hu w]; cases p <;> rfl
 . unfold Op.equalIn; rw [Sem.run_bind, run_underlying hu w]; cases p <;> rfl
theorem zk8 {t e : TypeId} (p : Option Addr) (hu : P.underlying t = some (.pointer e)) :
 (binOp .eql t (.pointer p) (.pointer none)).run P w = .ok (.bool p.isNone) w /\ (binOp .eql t (.pointer none) (.pointer p)).run P w = .ok (.bool p.isNone) w /\
 (binOp .neq t (.pointer p) (.pointer none)).run P w = .ok (.bool (!p.isNone)) w /\ (binOp .neq t (.pointer none) (.pointer p)).run P w = .ok (.bool (!p.isNone)) w := by
 obtain ⟨h1, h2⟩ := zAo (P := P) (w := w) 9999 p hu
 have e1 : (Op.equal t (.pointer p) (.pointer none)).run P w = .ok p.isNone w := h1
 have e2 : (Op.equal t (.pointer none) (.pointer p)).run P w = .ok p.isNone w := h2
 refine ⟨?_, ?_, ?_, ?_⟩ <;> simp only [binOp] <;> simp [e1, e2]
theorem zkB {op : BinOp} {t : TypeId} {x r : AV} {v : Value} (hx : V F w β x v) (hr : zwg P op t x = some r) :
 ∃ y, V F w β r y /\ (binOp op t v (.pointer none)).run P w = .ok y w /\ (binOp op t (.pointer none) v).run P w = .ok y w /\ ∃ p, v = .pointer p := by
 have key : ∀ b, x.isNil = some b -> ∃ p, v = .pointer p /\ b = p.isNone := by
  intro b hb
  unfold AV.isNil at hb
  split at hb
  . cases hb; obtain ⟨_, rfl⟩ := zgU hx; exact ⟨_, rfl, rfl⟩
  . cases hb; obtain ⟨_, _, _, _, rfl, _⟩ := zuP hx; exact ⟨_, rfl, rfl⟩
  . cases hb; obtain ⟨_, _, _, _, _, _, rfl⟩ := zlo hx; exact ⟨_, rfl, rfl⟩
  . cases hb; obtain ⟨_, _, rfl⟩ := zsV hx; exact ⟨_, rfl, rfl⟩
  . rename_i t' z
    cases hb
    cases z with
    | none => cases hx; exact ⟨_, rfl, rfl⟩
    | some z => obtain ⟨_, _, _, rfl, _⟩ := zzL hx; exact ⟨_, rfl, rfl⟩
  . cases hb
 unfold zwg at hr
 split at hr
 . rename_i e b hu hb
   cases hr
   obtain ⟨p, rfl, rfl⟩ := key b hb
   exact ⟨_, .v _, (zk8 p hu).1, (zk8 p hu).2.1, p, rfl⟩
 . rename_i e b hu hb
   cases hr
   obtain ⟨p, rfl, rfl⟩ := key b hb
   exact ⟨_, .v _, (zk8 p hu).2.2.1, (zk8 p hu).2.2.2, p, rfl⟩
 . cases hr
theorem zeo (h : Rel B F β st a w) (l : List Operand) : ∀ j, j < (l.map st.ev).length -> V F w β ((l.map st.ev).getD j .undef) ((l.map a.eval).getD j undef) := fun j hj => by
 have hj' : j < l.length := by simpa using hj
 have := h.ev l[j]
 simpa [List.getD, hj'] using this
def zvT (P : Program) (F : Nat -> Prop) (β : Gh) (o : Oper) (a : Act) (w : World) (r : AV) : Prop := ∃ y, V F w β r y /\ (execOp a.eval o).run P w = .ok (.value y) w
theorem zgu (h : Rel B F β st a w) {o : Oper} {r : AV} (hr : evQ P st o = some r) : zvT P F β o a w r := by
 unfold evQ at hr
 unfold zvT execOp
 split at hr
 . rename_i x hop
   simp at hr; subst hr
   exact ⟨_, h.ev x, by simp [hop]⟩
 . rename_i x hop
   simp at hr; subst hr
   exact ⟨_, h.ev x, by simp [hop]⟩
 . rename_i t x hop
   obtain ⟨y, hy, hrun⟩ := zmE h.heap (h.ev x) hr
   exact ⟨y, hy, by simp [hop, Sem.run_bind, hrun]⟩
 . rename_i op t x y u hop
   split at hr
   . rename_i xs ys hx hy
     have hrun : ∀ (op : BinOp) (w' : World), P.eqGuardType P.depth t = false -> (eqGuard op t x y (a.eval x) (a.eval y)).run P w' = .ok () w' := fun op w' hg => by
      rw [zeb (h.ev x) hx, zeb (h.ev y) hy]
      exact run_eqGuard_agg (P := P) w' op t x y xs ys hg
     split at hr
     . rename_i b hg hb
       simp at hr; subst hr
       refine ⟨.bool b, .v _, ?_⟩
       have h1 := hrun .eql w hg
       simp only [hop, Sem.run_bind, h1, Result.andThen_ok]
       rw [zeb (h.ev x) hx, zeb (h.ev y) hy, run_eql_struct w, zjo _ _ _ _ _ hb w]
       rfl
     . rename_i b hg hb
       simp at hr; subst hr
       refine ⟨.bool (!b), .v _, ?_⟩
       have h1 := hrun .neq w hg
       simp only [hop, Sem.run_bind, h1, Result.andThen_ok]
       rw [zeb (h.ev x) hx, zeb (h.ev y) hy, run_neq_struct w, zjo _ _ _ _ _ hb w]
       rfl
     . cases hr
   . rename_i vx vy _ hx hy
     obtain ⟨z, hz, hrun⟩ := zha (F := F) (w := w) (β := β) hr
     refine ⟨z, hz, ?_⟩
     rw [← zeb (h.ev x) hx, ← zeb (h.ev y) hy] at hrun
     simpa [hop] using hrun
   . rename_i hx hy
     obtain ⟨z, hz, hrun, _, p, hp⟩ := zkB (P := P) (h.ev x) hr
     have hv := zeb (h.ev y) hy
     refine ⟨z, hz, ?_⟩
     rw [hp] at hrun
     simp [hop, hv, hp, eqGuard, Sem.run_bind, hrun]
   . rename_i hx hy
     obtain ⟨z, hz, _, hrun, p, hp⟩ := zkB (P := P) (h.ev y) hr
     have hv := zeb (h.ev x) hx
     refine ⟨z, hz, ?_⟩
     rw [hp] at hrun
     simp [hop, hv, hp, eqGuard, Sem.run_bind, hrun]
   . cases hr
 . rename_i op t x hop
   split at hr
   . rename_i vx hx
     obtain ⟨z, hz, hrun⟩ := zha (F := F) (w := w) (β := β) hr
     refine ⟨z, hz, ?_⟩
     rw [← zeb (h.ev x) hx] at hrun
     simpa [hop] using hrun
   . cases hr
 . rename_i s d x hop
   split at hr
   . rename_i vx hx
     obtain ⟨z, hz, hrun⟩ := zha (F := F) (w := w) (β := β) hr
     refine ⟨z, hz, ?_⟩
     rw [← zeb (h.ev x) hx] at hrun
     simpa [hop] using hrun
   . cases hr
 . rename_i s x f hop
   split at hr
   . rename_i fl hf
     split at hr
     . cases hr
     . rename_i n hs
       obtain ⟨y, hy, hrun⟩ := zk0 hf hs (h.ev x) hr
       exact ⟨y, hy, by simp [hop, Sem.run_bind, hrun]⟩
   . cases hr
 . rename_i s x f hop
   split at hr
   . rename_i fl cs hf hx
     have hv := h.ev x
     rw [hx] at hv
     obtain ⟨ys, hy, hl, hc⟩ := zln hv
     obtain ⟨y, hV, hrun⟩ := zvk (P := P) hr hl hc
     unfold zhN at hf
     split at hf
     . rename_i fs hu
       exact ⟨y, hV, by simp [hop, hy, Instr.field, Sem.run_bind, run_underlying hu w, hf, asAgg, hrun w]⟩
     . cases hf
   . cases hr
 . rename_i x i hop
   split at hr
   . rename_i vs hx
     have hv := h.ev x
     rw [hx] at hv
     obtain ⟨ys, hy, hl, hc⟩ := zHq hv
     obtain ⟨hlt, rfl⟩ := List.getElem?_eq_some_iff.1 hr
     have hlt' : i < ys.size := by omega
     have hd := hc i hlt
     simp only [List.getD, Array.getD, List.getElem?_eq_getElem hlt, hlt', dite_true, Option.getD_some] at hd
     exact ⟨ys[i], hd, by simp [hop, hy, Instr.extract, hlt']⟩
   . cases hr
 . rename_i t parts hop
   split at hr
   . rename_i pl z hp hz
     cases hf : zfU pl z (zdS st parts.toList) with
     | none => simp [hf] at hr
     | some cs' =>
      simp [hf] at hr; subst hr
      unfold zcD at hz
      split at hz
      . rename_i it hi
        split at hz
        . rename_i zv hzv
          simp at hz; subst hz
          obtain ⟨ys', q1, q2, q3⟩ := zhd h pl parts.toList _ cs' zv.cells (by simp) (fun j hj => by
           have hj' : j < zv.cells.size := by simpa using hj
           simp only [List.getD, List.getElem?_map, Array.getElem?_toList, hj', Array.getElem?_eq_getElem, Option.map_some, Option.getD_some, Array.getD, dite_true]
           exact .v _) hf
          refine ⟨.agg ys', .agg _ _ q2 q3, ?_⟩
          have hb : P.built t (parts.map fun (i, x) => (i, a.eval x)).toList = some ys' := by
           unfold Program.built
           unfold zwi at hp
           cases hu : P.underlying t with
           | none => simp [hu] at hp
           | some d =>
            cases d <;> simp [hu] at hp
            . rename_i n e
              cases hie : P.info? e with
              | none => simp [hie] at hp
              | some ie =>
               simp [hie] at hp; subst hp
               simp only [hi, hu, hzv, hie]
               simpa using q1
            . rename_i fields
              cases hm : fields.toList.mapM (fun f => (P.info? f.type).map fun i => (f.offset, i.size)) with
              | none => simp [hm] at hp
              | some places =>
               simp [hm] at hp; subst hp
               simp only [hi, hu, hzv, hm]
               simpa using q1
          simp [hop, Sem.run_bind, run_build w t _ ys' hb]
        . cases hz
      . cases hz
   . cases hr
 . rename_i f fi ca hop
   simp at hr; subst hr
   refine ⟨.func f (fi.map a.eval) (ca.map a.eval), .fn _ _ _ _ _ (by simp) (by simp) (fun j hj => ?_) (fun j hj => ?_), by simp [hop, Instr.makeFunc]⟩
   . have := zeo h fi.toList j (by simpa using hj)
     simpa [Array.getD_eq_getD_getElem?, List.getD] using this
   . have := zeo h ca.toList j (by simpa using hj)
     simpa [Array.getD_eq_getD_getElem?, List.getD] using this
 . rename_i t x hop
   split at hr
   . cases hr
   . rename_i d hni hu
     simp at hr; subst hr
     refine ⟨.iface t (a.eval x), .ifc _ _ _ (h.ev x), ?_⟩
     cases d <;> simp [hop, Instr.makeInterface, Sem.run_bind, run_underlying hu w] <;> first | rfl | exact absurd rfl (hni _)
   . cases hr
 . cases hr
theorem zaX (t : Ty) : 0 < t.sz := by cases t <;> simp [Ty.sz]
theorem zcH {e : TypeId} {n : Nat} (h : P.cellsOf e = n) (hn : 0 < n) : ∃ i, P.info? e = some i /\ i.size = n := by
 unfold Program.cellsOf at h
 cases hq : P.info? e with
 | none => simp [hq] at h; omega
 | some i => simp [hq] at h; exact ⟨i, rfl, h⟩
theorem inR_iff {i : Int} {n : Nat} : zU i n = true ↔ 0 <= i /\ i < n := by simp [zU]
theorem zfo {t e : TypeId} {ty : Ty} {xs : List ty.T} {n : Int} {k : IntKind} {v : Value} (hu : P.underlying t = some (.slice e)) (hs : P.cellsOf e = ty.sz) (hin : zU n xs.length = true) (hv : V F w β (.sl ty xs) v) :
 ∃ y, V F w β (.el ty xs n.toNat 0) y /\ (Instr.indexAt t v (.int k n)).run P w = .ok y w := by
 obtain ⟨i, hi, hsz⟩ := zcH hs (zaX ty)
 obtain ⟨h0, h1⟩ := inR_iff.1 hin
 cases hv with
 | sl0 => simp at h1; omega
 | sl _ _ b o c Y hF hb hl hcap hc h =>
  refine ⟨.pointer (some ⟨b, o + n.toNat * ty.sz + 0, none⟩), .el _ _ _ _ b (o + n.toNat * ty.sz) (Y n.toNat) (by omega) hF hb (fun j hj => ?_) (fun j hj => h _ _ (by omega) hj), ?_⟩
  . rw [Nat.add_assoc]; exact hc _ _ (by omega) hj
  . have h1' : n < (xs.length : Int) := h1
    simp [Instr.indexAt, asIntOf, Sem.run_bind, run_underlying hu w, h0, h1', zat hi w, hsz, add_lit]
theorem zmt {t e e' : TypeId} {ty : Ty} {xs : List ty.T} {n : Int} {k : IntKind} {b : Nat} {cols : List (Nat × TypeId)} {hole : za9} (hu : P.underlying t = some (.slice e)) (hs : P.cellsOf e = ty.sz) (hin : zU n xs.length = true) (hb : β.l b) (hk : BlkOk F w β b (.row e' ty cols hole xs)) :
 ∃ y, V F w β (.oel b ty.sz n.toNat 0) y /\ (Instr.indexAt t (β.v b) (.int k n)).run P w = .ok y w := by
 obtain ⟨i, hi, hsz⟩ := zcH hs (zaX ty)
 obtain ⟨h0, h1⟩ := inR_iff.1 hin
 obtain ⟨Vs, ho, _, _⟩ := hk
 rcases ho.2 with ⟨hv, hn⟩ | ⟨g, cap, cur, hv, hg, hh, hr⟩
 . omega
 . refine ⟨.pointer (some ⟨g, n.toNat * ty.sz + 0, none⟩), .oel b ty.sz n.toNat 0 g xs.length cap hb hv (by omega), ?_⟩
   have h1' : n < (xs.length : Int) := h1
   simp [hv, Instr.indexAt, asIntOf, Sem.run_bind, run_underlying hu w, h0, h1', zat hi w, hsz, add_lit]
theorem zmu {t e : TypeId} {ty : Ty} {b off m : Nat} {n : Int} {k : IntKind} {v : Value} (hu : P.underlying t = some (.array m e)) (hs : P.cellsOf e = ty.sz) (hin : zU n m = true) (hv : V F w β (.ref b off) v) :
 ∃ y, V F w β (.rex b off ty m n.toNat 0) y /\ (Instr.indexAt t v (.int k n)).run P w = .ok y w := by
 obtain ⟨i, hi, hsz⟩ := zcH hs (zaX ty)
 obtain ⟨h0, h1⟩ := inR_iff.1 hin
 obtain ⟨hb, rfl⟩ := zgU hv
 have h1' : n < (m : Int) := h1
 refine ⟨.pointer (some ⟨β.b b, off + n.toNat * ty.sz + 0, none⟩), .rex b off ty m n.toNat 0 hb (by omega), ?_⟩
 simp [Instr.indexAt, asIntOf, Sem.run_bind, run_underlying hu w, Instr.sureAddr, h0, h1', zat hi w, hsz, add_lit]
theorem zob {t e : TypeId} {b sz o m : Nat} {n : Int} {k : IntKind} {v : Value} (hu : P.underlying t = some (.slice e)) (hs : P.cellsOf e = sz) (hsz0 : 0 < sz) (hin : zU n m = true) (hv : V F w β (.vw b sz o m) v) :
 ∃ y, V F w β (.oel b sz (o + n.toNat) 0) y /\ (Instr.indexAt t v (.int k n)).run P w = .ok y w := by
 obtain ⟨i, hi, hsz⟩ := zcH hs hsz0
 obtain ⟨h0, h1⟩ := inR_iff.1 hin
 obtain ⟨A, c', hb, hc, rfl, hA⟩ := zIt hv
 obtain ⟨p, N, c, hv', hn, rfl⟩ := hA (by omega)
 refine ⟨.pointer (some ⟨p, (o + n.toNat) * sz + 0, none⟩), .oel b sz (o + n.toNat) 0 p N c hb hv' (by omega), ?_⟩
 have h1' : n < (m : Int) := h1
 simp [Instr.indexAt, asIntOf, Sem.run_bind, run_underlying hu w, h0, h1', zat hi w, hsz, add_lit, Nat.add_mul]
theorem zDX (s : ByteArray) (n : Int) (h : zU n s.size = true) : ∃ b, s[n.toNat]? = some b /\ ((b.toNat : Nat) : Int) = (((s.data.getD n.toNat 0).toNat : Nat) : Int) := by
 obtain ⟨h0, h1⟩ := inR_iff.1 h
 have hlt : n.toNat < s.size := by omega
 have hlt' : n.toNat < s.data.size := hlt
 refine ⟨s[n.toNat], by rw [getElem?_pos s n.toNat hlt], ?_⟩
 rw [show s.data.getD n.toNat 0 = s.data[n.toNat] from by rw [Array.getD_eq_getD_getElem?, Array.getElem?_eq_getElem hlt']; rfl]
 rfl
theorem inS_iff {l h : Int} {n : Nat} : inS l h n = true ↔ 0 <= l /\ l <= h /\ h <= n := by simp [inS, and_assoc]
def Bd (x : Option Value) (d : Nat) (n : Int) : Prop := (x = none /\ n = d) ∨ ∃ k, x = some (.int k n)
theorem zb4 (h : Rel B F β st a w) {x : Option Operand} {d : Nat} {n : Int} (hb : bnd st x d = some n) : Bd (x.map a.eval) d n := by
 unfold bnd at hb
 cases x with
 | none => simp at hb; exact .inl ⟨rfl, hb.symm⟩
 | some x =>
  have hv := h.ev x
  simp only at hb
  split at hb
  . rename_i k n' hx
    simp at hb; subst hb
    rw [hx] at hv
    exact .inr ⟨k, by rw [Option.map_some, V_v hv]⟩
  . cases hb
theorem zhp {isS : Bool} {len cap : Nat} {lo hi : Option Value} {l h : Int} (hlo : Bd lo 0 l) (hhi : Bd hi len h) (h0 : 0 <= l) (h1 : l <= h) (h2 : h <= len) (hc : len <= cap) (w' : World) :
 (Instr.sliceBounds isS len cap lo hi none).run P w' = .ok (l.toNat, h.toNat, cap) w' := by
 have hh : 0 <= h := by omega
 have hcap : h <= (cap : Int) := by omega
 have hlh : l <= (h.toNat : Int) := by omega
 rcases hlo with ⟨rfl, rfl⟩ | ⟨k1, rfl⟩ <;> rcases hhi with ⟨rfl, rfl⟩ | ⟨k2, rfl⟩
 . simp [Instr.sliceBounds]
 . simp [Instr.sliceBounds, Instr.sliceBound, asIntOf, Sem.run_bind, hh, hcap]
 . simp [Instr.sliceBounds, Instr.sliceBound, asIntOf, Sem.run_bind, h0, h1]
 . simp [Instr.sliceBounds, Instr.sliceBound, asIntOf, Sem.run_bind, hh, hcap, h0, hlh]
   intro hc; omega
theorem zkG {t e : TypeId} {ty : Ty} {xs : List ty.T} {v : Value} {lo hi : Option Value} {l h : Int} (hu : P.underlying t = some (.slice e)) (hs : P.cellsOf e = ty.sz) (hv : V F w β (.sl ty xs) v) (hlo : Bd lo 0 l) (hhi : Bd hi xs.length h) (hin : inS l h xs.length = true) :
 ∃ y, V F w β (.sl ty ((xs.take h.toNat).drop l.toNat)) y /\ ∀ w', (Instr.sliceAt t v lo hi none).run P w' = .ok y w' := by
 obtain ⟨h0, h1, h2⟩ := inS_iff.1 hin
 obtain ⟨i, hi', hsz⟩ := zcH hs (zaX ty)
 have hlen : ((xs.take h.toNat).drop l.toNat).length = h.toNat - l.toNat := by simp; omega
 have run : ∀ A c, xs.length <= c -> ∀ w', (Instr.sliceAt t (.slice A xs.length c) lo hi none).run P w' = .ok (.slice (if c = l.toNat then A else A.map (·.add (l.toNat * ty.sz))) (h.toNat - l.toNat) (c - l.toNat)) w' := by
  intro A c hc w'
  simp [Instr.sliceAt, Instr.slice, Sem.run_bind, run_underlying hu w', zhp (P := P) hlo hhi h0 h1 h2 hc w', zat hi' w', hsz]
 cases hv with
 | sl0 _ A c =>
  have hl0 : l.toNat = 0 := by simp at h2; omega
  have hh0 : h.toNat = 0 := by simp at h2; omega
  refine ⟨_, ?_, run A c (Nat.zero_le _)⟩
  rw [hl0, hh0]
  exact .sl0 ty _ _
 | sl _ _ b o c Y hF hb hl hcap hc hd =>
  refine ⟨_, ?_, run _ c hcap⟩
  by_cases he : h.toNat = l.toNat
  . have : (xs.take h.toNat).drop l.toNat = [] := List.eq_nil_of_length_eq_zero (by rw [hlen]; omega)
    rw [this, show h.toNat - l.toNat = 0 by omega]
    exact .sl0 ty _ _
  . rw [if_neg (by omega), ← hlen]
    simp only [Option.map_some, add_lit]
    have hnth : ∀ i, i < h.toNat - l.toNat -> nth ((xs.take h.toNat).drop l.toNat) i = nth xs (l.toNat + i) := fun i hi => by
     simp [nth, List.getD, List.getElem?_drop, List.getElem?_take, show l.toNat + i < h.toNat by omega]
    refine .sl ty _ b (o + l.toNat * ty.sz) (c - l.toNat) (fun i j => Y (l.toNat + i) j) hF hb (by rw [hlen]; omega) (by rw [hlen]; omega) (fun i j hi hj => ?_) (fun i j hi hj => ?_)
    . rw [hlen] at hi
      have := hc (l.toNat + i) j (by omega) hj
      rw [← this]
      congr 2
      rw [Nat.add_mul]; omega
    . rw [hlen] at hi
      rw [hnth i hi]
      exact hd _ _ (by omega) hj
theorem zn3 (h : Rel B F β st a w) : ∀ {l : List Operand} {vs : List Value}, zzu (l.map st.ev) = some vs -> l.map a.eval = vs
 | [], vs, hv => by simp [zzu] at hv; subst hv; rfl
 | x :: l, vs, hv => by
  simp only [List.map_cons, zzu] at hv
  split at hv
  . rename_i y ys hy hys
    simp at hv; subst hv
    rw [List.map_cons, zeb (h.ev x) hy, zn3 h hys]
  . cases hv
end
section
variable {F : Nat -> Prop} {w : World} {β : Gh}
def Fits (F : Nat -> Prop) (w : World) (β : Gh) (cs ds : List AV) : Prop := ∀ j y, j < cs.length -> V F w β (cs.getD j .undef) y -> V F w β (ds.getD j .undef) y
theorem Fits.nil {ds : List AV} : Fits F w β [] ds := fun j y hj => by simp at hj
theorem Fits.cons {c d : AV} {cs ds : List AV} (h1 : ∀ y, V F w β c y -> V F w β d y) (h2 : Fits F w β cs ds) : Fits F w β (c :: cs) (d :: ds) := fun j y hj hd => by
 cases j with
 | zero => exact h1 y hd
 | succ j => exact h2 j y (by simpa using hj) hd
def Vs (F : Nat -> Prop) (w : World) (β : Gh) (cs : List AV) (Y : Nat -> Value) : Prop := ∀ j, j < cs.length -> V F w β (cs.getD j .undef) (Y j)
theorem Vs.nil {Y : Nat -> Value} : Vs F w β [] Y := fun j hj => by simp at hj
theorem Vs.cons {c : AV} {cs : List AV} {Y : Nat -> Value} (h1 : V F w β c (Y 0)) (h2 : Vs F w β cs fun j => Y (j + 1)) : Vs F w β (c :: cs) Y := fun j hj => by
 cases j with
 | zero => exact h1
 | succ j => exact h2 j (by simpa using hj)
theorem zao {t : Ty} {c : AV} {xs : List t.T} (h : za2 t c = some xs) {y : Value} (hd : V F w β c y) : V F w β (.sl t xs) y := by
 unfold za2 at h
 split at h
 . rename_i t' ys
   split at h
   . rename_i e _
     subst e
     simp at h; subst h
     exact hd
   . cases h
 . rename_i A n c'
   split at h
   . simp at h; subst h
     cases hd
     exact .sl0 t A c'
   . cases h
 . cases h
theorem zZ {t : Ty} {c : AV} {x : Option t.T} (h : zde t c = some x) {y : Value} (hd : V F w β c y) : V F w β (.op t x) y := by
 unfold zde at h
 split at h
 . rename_i t' ys
   split at h
   . rename_i e _
     subst e
     simp at h; subst h
     exact hd
   . cases h
 . rename_i t' xs i
   split at h
   . rename_i e _
     subst e
     simp at h; subst h
     obtain ⟨b, o, Y, hi, rfl, hF, hb, hc, hd⟩ := zuP hd
     exact .op _ _ b o Y hF hb hc hd
   . cases h
 . cases h; cases hd; exact .op0 t
 . cases h
theorem zz5 {cs : List AV} {x : Clo} (h : zuT cs = some x) {ys : Array Value} (hl : ys.size = cs.length) (hv : Vs F w β cs fun j => ys.getD j undef) : V F w β x.out (.func (.func 124) #[] ys) := by
 unfold zuT at h
 split at h
 . split at h
   . cases h
     exact .fn _ _ _ _ _ rfl hl Vs.nil (Vs.cons (zZ (by assumption) (hv 0 (by simp))) Vs.nil)
   . cases h
 . cases h
theorem zz6 {cs : List AV} {x : Clo} (h : zuU cs = some x) {ys : Array Value} (hl : ys.size = cs.length) (hv : Vs F w β cs fun j => ys.getD j undef) : V F w β x.out (.func (.func 127) #[] ys) := by
 unfold zuU at h
 split at h
 . split at h
   . cases h
     exact .fn _ _ _ _ _ rfl hl Vs.nil (Vs.cons (zZ (by assumption) (hv 0 (by simp))) Vs.nil)
   . cases h
 . cases h
theorem zz7 {cs : List AV} {x : Clo} (h : zuV cs = some x) {ys : Array Value} (hl : ys.size = cs.length) (hv : Vs F w β cs fun j => ys.getD j undef) : V F w β x.out (.func (.func 128) #[] ys) := by
 unfold zuV at h
 split at h
 . split at h
   . cases h
     exact .fn _ _ _ _ _ rfl hl Vs.nil (Vs.cons (zZ (by assumption) (hv 0 (by simp))) Vs.nil)
   . cases h
 . cases h
theorem zz8 {cs : List AV} {x : Clo} (h : zuW cs = some x) {ys : Array Value} (hl : ys.size = cs.length) (hv : Vs F w β cs fun j => ys.getD j undef) : V F w β x.out (.func (.func 129) #[] ys) := by
 unfold zuW at h
 split at h
 . split at h
   . cases h
     exact .fn _ _ _ _ _ rfl hl Vs.nil (Vs.cons (zZ (by assumption) (hv 0 (by simp))) Vs.nil)
   . cases h
 . cases h
theorem zz9 {cs : List AV} {x : Clo} (h : zuX cs = some x) {ys : Array Value} (hl : ys.size = cs.length) (hv : Vs F w β cs fun j => ys.getD j undef) : V F w β x.out (.func (.func 130) #[] ys) := by
 unfold zuX at h
 split at h
 . split at h
   . cases h
     exact .fn _ _ _ _ _ rfl hl Vs.nil (Vs.cons (zZ (by assumption) (hv 0 (by simp))) Vs.nil)
   . cases h
 . cases h
theorem zAa {cs : List AV} {x : Clo} (h : zuY cs = some x) {ys : Array Value} (hl : ys.size = cs.length) (hv : Vs F w β cs fun j => ys.getD j undef) : V F w β x.out (.func (.func 131) #[] ys) := by
 unfold zuY at h
 split at h
 . split at h
   . cases h
     exact .fn _ _ _ _ _ rfl hl Vs.nil (Vs.cons (zZ (by assumption) (hv 0 (by simp))) (Vs.cons (zZ (by assumption) (hv 1 (by simp))) Vs.nil))
   . cases h
 . cases h
theorem zAb {cs : List AV} {x : Clo} (h : zuZ cs = some x) {ys : Array Value} (hl : ys.size = cs.length) (hv : Vs F w β cs fun j => ys.getD j undef) : V F w β x.out (.func (.func 133) #[] ys) := by
 unfold zuZ at h
 split at h
 . split at h
   . cases h
     exact .fn _ _ _ _ _ rfl hl Vs.nil (Vs.cons (zZ (by assumption) (hv 0 (by simp))) (Vs.cons (zZ (by assumption) (hv 1 (by simp))) Vs.nil))
   . cases h
 . cases h
theorem zAc {cs : List AV} {x : Clo} (h : zu0 cs = some x) {ys : Array Value} (hl : ys.size = cs.length) (hv : Vs F w β cs fun j => ys.getD j undef) : V F w β x.out (.func (.func 135) #[] ys) := by
 unfold zu0 at h
 split at h
 . split at h
   . cases h
     exact .fn _ _ _ _ _ rfl hl Vs.nil (Vs.cons (zZ (by assumption) (hv 0 (by simp))) (Vs.cons (zZ (by assumption) (hv 1 (by simp))) Vs.nil))
   . cases h
 . cases h
theorem zAd {cs : List AV} {x : Clo} (h : zu1 cs = some x) {ys : Array Value} (hl : ys.size = cs.length) (hv : Vs F w β cs fun j => ys.getD j undef) : V F w β x.out (.func (.func 137) #[] ys) := by
 unfold zu1 at h
 split at h
 . split at h
   . cases h
     exact .fn _ _ _ _ _ rfl hl Vs.nil (Vs.cons (zZ (by assumption) (hv 0 (by simp))) Vs.nil)
   . cases h
 . cases h
theorem zad {c : AV} {x : Clo} (h : zs4 c = some x) {y : Value} (hv : V F w β c y) : V F w β (.clo x) y := by
 unfold zs4 at h
 split at h
 . cases h; exact hv
 . rename_i f cap
   cases hv with | fn _ _ _ ya yc hla hlc ha hc =>
   have e0 : ya = #[] := by apply Array.eq_empty_of_size_eq_zero; simpa using hla
   subst e0
   split at h
   . rename_i e; have e := Nat.eq_of_beq_eq_true e; subst e; exact .clo _ _ (zz5 h hlc hc)
   split at h
   . rename_i e; have e := Nat.eq_of_beq_eq_true e; subst e; exact .clo _ _ (zz6 h hlc hc)
   split at h
   . rename_i e; have e := Nat.eq_of_beq_eq_true e; subst e; exact .clo _ _ (zz7 h hlc hc)
   split at h
   . rename_i e; have e := Nat.eq_of_beq_eq_true e; subst e; exact .clo _ _ (zz8 h hlc hc)
   split at h
   . rename_i e; have e := Nat.eq_of_beq_eq_true e; subst e; exact .clo _ _ (zz9 h hlc hc)
   split at h
   . rename_i e; have e := Nat.eq_of_beq_eq_true e; subst e; exact .clo _ _ (zAa h hlc hc)
   split at h
   . rename_i e; have e := Nat.eq_of_beq_eq_true e; subst e; exact .clo _ _ (zAb h hlc hc)
   split at h
   . rename_i e; have e := Nat.eq_of_beq_eq_true e; subst e; exact .clo _ _ (zAc h hlc hc)
   split at h
   . rename_i e; have e := Nat.eq_of_beq_eq_true e; subst e; exact .clo _ _ (zAd h hlc hc)
   cases h
 . cases h; exact .clo _ _ hv
 . cases h
theorem za0 {t : Ty} {cs : List AV} {x : t.T} (h : t.dec cs = some x) : cs.length = t.sz /\ Fits F w β cs (t.enc x) := by
 cases t
 . simp only [Ty.dec] at h
   split at h
   . split at h
     . cases h
       rename_i e
       subst e
       exact ⟨rfl, Fits.cons (fun y hd => hd) Fits.nil⟩
     . cases h
   . cases h
 . simp only [Ty.dec] at h
   split at h
   . cases h
     exact ⟨rfl, Fits.cons (fun y hd => hd) Fits.nil⟩
   . cases h
 . simp only [Ty.dec] at h
   split at h
   . cases h
     exact ⟨rfl, Fits.cons (fun y hd => hd) Fits.nil⟩
   . cases h
 . simp only [Ty.dec] at h
   split at h
   . exact ⟨rfl, Fits.cons (fun y hd => zad h hd) Fits.nil⟩
   . cases h
 . simp only [Ty.dec] at h
   split at h
   . exact ⟨rfl, Fits.cons (fun y hd => zao h hd) Fits.nil⟩
   . cases h
 . simp only [Ty.dec] at h
   split at h
   . exact ⟨rfl, Fits.cons (fun y hd => zZ h hd) Fits.nil⟩
   . cases h
 . simp only [Ty.dec] at h
   split at h
   . cases h
     refine ⟨rfl, ?_⟩
     repeat (first | exact Fits.nil | refine Fits.cons (fun y hd => by first | exact hd | exact zao (by assumption) hd | exact zZ (by assumption) hd | exact zad (by assumption) hd) ?_)
   . cases h
 . simp only [Ty.dec] at h
   split at h
   . cases h
     refine ⟨rfl, ?_⟩
     repeat (first | exact Fits.nil | refine Fits.cons (fun y hd => by first | exact hd | exact zao (by assumption) hd | exact zZ (by assumption) hd | exact zad (by assumption) hd) ?_)
   . cases h
 . simp only [Ty.dec] at h
   split at h
   . cases h
     refine ⟨rfl, ?_⟩
     repeat (first | exact Fits.nil | refine Fits.cons (fun y hd => by first | exact hd | exact zao (by assumption) hd | exact zZ (by assumption) hd | exact zad (by assumption) hd) ?_)
   . cases h
 . simp only [Ty.dec] at h
   split at h
   . split at h
     . cases h
       refine ⟨rfl, ?_⟩
       repeat (first | exact Fits.nil | refine Fits.cons (fun y hd => by first | exact hd | exact zao (by assumption) hd | exact zZ (by assumption) hd | exact zad (by assumption) hd) ?_)
     . cases h
   . cases h
 . simp only [Ty.dec] at h
   split at h
   . cases h
     refine ⟨rfl, ?_⟩
     repeat (first | exact Fits.nil | refine Fits.cons (fun y hd => by first | exact hd | exact zao (by assumption) hd | exact zZ (by assumption) hd | exact zad (by assumption) hd) ?_)
   . cases h
 . simp only [Ty.dec] at h
   split at h
   . split at h
     . cases h
       refine ⟨rfl, ?_⟩
       repeat (first | exact Fits.nil | refine Fits.cons (fun y hd => by first | exact hd | exact zao (by assumption) hd | exact zZ (by assumption) hd | exact zad (by assumption) hd) ?_)
     . cases h
   . cases h
 . simp only [Ty.dec] at h
   split at h
   . split at h
     . cases h
       refine ⟨rfl, ?_⟩
       repeat (first | exact Fits.nil | refine Fits.cons (fun y hd => by first | exact hd | exact zao (by assumption) hd | exact zZ (by assumption) hd | exact zad (by assumption) hd) ?_)
     . cases h
   . cases h
 . simp only [Ty.dec] at h
   split at h
   . split at h
     . cases h
       refine ⟨rfl, ?_⟩
       repeat (first | exact Fits.nil | refine Fits.cons (fun y hd => by first | exact hd | exact zao (by assumption) hd | exact zZ (by assumption) hd | exact zad (by assumption) hd) ?_)
     . cases h
   . cases h
 . simp only [Ty.dec] at h
   split at h
   . split at h
     . cases h
       refine ⟨rfl, ?_⟩
       repeat (first | exact Fits.nil | refine Fits.cons (fun y hd => by first | exact hd | exact zao (by assumption) hd | exact zZ (by assumption) hd | exact zad (by assumption) hd) ?_)
     . cases h
   . cases h
 . simp only [Ty.dec] at h
   split at h
   . cases h
     refine ⟨rfl, ?_⟩
     repeat (first | exact Fits.nil | refine Fits.cons (fun y hd => by first | exact hd | exact zao (by assumption) hd | exact zZ (by assumption) hd | exact zad (by assumption) hd) ?_)
   . cases h
 . simp only [Ty.dec] at h
   split at h
   . split at h
     . cases h
       refine ⟨rfl, ?_⟩
       repeat (first | exact Fits.nil | refine Fits.cons (fun y hd => by first | exact hd | exact zao (by assumption) hd | exact zZ (by assumption) hd | exact zad (by assumption) hd) ?_)
     . cases h
   . cases h
 . simp only [Ty.dec] at h
   split at h
   . split at h
     . cases h
       refine ⟨rfl, ?_⟩
       repeat (first | exact Fits.nil | refine Fits.cons (fun y hd => by first | exact hd | exact zao (by assumption) hd | exact zZ (by assumption) hd | exact zad (by assumption) hd) ?_)
     . cases h
   . cases h
 . simp only [Ty.dec] at h
   split at h
   . split at h
     . cases h
       refine ⟨rfl, ?_⟩
       repeat (first | exact Fits.nil | refine Fits.cons (fun y hd => by first | exact hd | exact zao (by assumption) hd | exact zZ (by assumption) hd | exact zad (by assumption) hd) ?_)
     . cases h
   . cases h
 . simp only [Ty.dec] at h
   split at h
   . split at h
     . cases h
       refine ⟨rfl, ?_⟩
       repeat (first | exact Fits.nil | refine Fits.cons (fun y hd => by first | exact hd | exact zao (by assumption) hd | exact zZ (by assumption) hd | exact zad (by assumption) hd) ?_)
     . cases h
   . cases h
 . simp only [Ty.dec] at h
   split at h
   . split at h
     . cases h
       refine ⟨rfl, ?_⟩
       repeat (first | exact Fits.nil | refine Fits.cons (fun y hd => by first | exact hd | exact zao (by assumption) hd | exact zZ (by assumption) hd | exact zad (by assumption) hd) ?_)
     . cases h
   . cases h
 . simp only [Ty.dec] at h
   split at h
   . split at h
     . cases h
       refine ⟨rfl, ?_⟩
       repeat (first | exact Fits.nil | refine Fits.cons (fun y hd => by first | exact hd | exact zao (by assumption) hd | exact zZ (by assumption) hd | exact zad (by assumption) hd) ?_)
     . cases h
   . cases h
 . simp only [Ty.dec] at h
   split at h
   . split at h
     . cases h
       refine ⟨rfl, ?_⟩
       repeat (first | exact Fits.nil | refine Fits.cons (fun y hd => by first | exact hd | exact zao (by assumption) hd | exact zZ (by assumption) hd | exact zad (by assumption) hd) ?_)
     . cases h
   . cases h
 . simp only [Ty.dec] at h
   split at h
   . split at h
     . cases h
       refine ⟨rfl, ?_⟩
       repeat (first | exact Fits.nil | refine Fits.cons (fun y hd => by first | exact hd | exact zao (by assumption) hd | exact zZ (by assumption) hd | exact zad (by assumption) hd) ?_)
     . cases h
   . cases h
 . simp only [Ty.dec] at h
   split at h
   . split at h
     . cases h
       refine ⟨rfl, ?_⟩
       repeat (first | exact Fits.nil | refine Fits.cons (fun y hd => by first | exact hd | exact zao (by assumption) hd | exact zZ (by assumption) hd | exact zad (by assumption) hd) ?_)
     . cases h
   . cases h
 . simp only [Ty.dec] at h
   split at h
   . split at h
     . cases h
       refine ⟨rfl, ?_⟩
       repeat (first | exact Fits.nil | refine Fits.cons (fun y hd => by first | exact hd | exact zao (by assumption) hd | exact zZ (by assumption) hd | exact zad (by assumption) hd) ?_)
     . cases h
   . cases h
 . simp only [Ty.dec] at h
   split at h
   . cases h
     refine ⟨rfl, ?_⟩
     repeat (first | exact Fits.nil | refine Fits.cons (fun y hd => by first | exact hd | exact zao (by assumption) hd | exact zZ (by assumption) hd | exact zad (by assumption) hd) ?_)
   . cases h
 . simp only [Ty.dec] at h
   split at h
   . split at h
     . cases h
       refine ⟨rfl, ?_⟩
       repeat (first | exact Fits.nil | refine Fits.cons (fun y hd => by first | exact hd | exact zao (by assumption) hd | exact zZ (by assumption) hd | exact zad (by assumption) hd) ?_)
     . cases h
   . cases h
 . simp only [Ty.dec] at h
   split at h
   . split at h
     . cases h
       refine ⟨rfl, ?_⟩
       repeat (first | exact Fits.nil | refine Fits.cons (fun y hd => by first | exact hd | exact zao (by assumption) hd | exact zZ (by assumption) hd | exact zad (by assumption) hd) ?_)
     . cases h
   . cases h
 . simp only [Ty.dec] at h
   split at h
   . cases h
     refine ⟨rfl, ?_⟩
     repeat (first | exact Fits.nil | refine Fits.cons (fun y hd => by first | exact hd | exact zao (by assumption) hd | exact zZ (by assumption) hd | exact zad (by assumption) hd) ?_)
   . cases h
 . simp only [Ty.dec] at h
   split at h
   . cases h
     refine ⟨rfl, ?_⟩
     repeat (first | exact Fits.nil | refine Fits.cons (fun y hd => by first | exact hd | exact zao (by assumption) hd | exact zZ (by assumption) hd | exact zad (by assumption) hd) ?_)
   . cases h
 . simp only [Ty.dec] at h
   split at h
   . split at h
     . cases h
       refine ⟨rfl, ?_⟩
       repeat (first | exact Fits.nil | refine Fits.cons (fun y hd => by first | exact hd | exact zao (by assumption) hd | exact zZ (by assumption) hd | exact zad (by assumption) hd) ?_)
     . cases h
   . cases h
 . simp only [Ty.dec] at h
   split at h
   . cases h
     refine ⟨rfl, ?_⟩
     repeat (first | exact Fits.nil | refine Fits.cons (fun y hd => by first | exact hd | exact zao (by assumption) hd | exact zZ (by assumption) hd | exact zad (by assumption) hd) ?_)
   . cases h
 . simp only [Ty.dec] at h
   split at h
   . split at h
     . cases h
       refine ⟨rfl, ?_⟩
       repeat (first | exact Fits.nil | refine Fits.cons (fun y hd => by first | exact hd | exact zao (by assumption) hd | exact zZ (by assumption) hd | exact zad (by assumption) hd) ?_)
     . cases h
   . cases h
 . simp only [Ty.dec] at h
   split at h
   . cases h
     refine ⟨rfl, ?_⟩
     repeat (first | exact Fits.nil | refine Fits.cons (fun y hd => by first | exact hd | exact zao (by assumption) hd | exact zZ (by assumption) hd | exact zad (by assumption) hd) ?_)
   . cases h
 . simp only [Ty.dec] at h
   split at h
   . cases h
     refine ⟨rfl, ?_⟩
     repeat (first | exact Fits.nil | refine Fits.cons (fun y hd => by first | exact hd | exact zao (by assumption) hd | exact zZ (by assumption) hd | exact zad (by assumption) hd) ?_)
   . cases h
 . simp only [Ty.dec] at h
   split at h
   . split at h
     . cases h
       refine ⟨rfl, ?_⟩
       repeat (first | exact Fits.nil | refine Fits.cons (fun y hd => by first | exact hd | exact zao (by assumption) hd | exact zZ (by assumption) hd | exact zad (by assumption) hd) ?_)
     . cases h
   . cases h
 . simp only [Ty.dec] at h
   split at h
   . split at h
     . cases h
       refine ⟨rfl, ?_⟩
       repeat (first | exact Fits.nil | refine Fits.cons (fun y hd => by first | exact hd | exact zao (by assumption) hd | exact zZ (by assumption) hd | exact zad (by assumption) hd) ?_)
     . cases h
   . cases h
def zJ5 : AV -> Bool
 | .v (.int _ _) => true
 | .v (.bool _) => true
 | .v (.string _) => true
 | _ => false
def kp (c d : AV) : Prop := (∀ (t : Ty) (ys : List t.T), c = .sl t ys -> d = .sl t ys) /\ (zaW c = true -> ∃ t : Ty, d = .sl t []) /\ (zJ5 c = true -> d = c)
def Keep (cs ds : List AV) : Prop := ∀ j, j < cs.length -> kp (cs.getD j .undef) (ds.getD j .undef)
theorem Keep.nil : Keep [] [] := fun j hj => by simp at hj
theorem Keep.cons {c d : AV} {cs ds : List AV} (h1 : kp c d) (h2 : Keep cs ds) : Keep (c :: cs) (d :: ds) := fun j hj => by
 cases j with
 | zero => simpa using h1
 | succ j => simpa using h2 j (by simpa using hj)
theorem zbw {c : AV} (h : (match c with | .v (.slice _ _ _) => true | .sl _ _ => true | _ => false) = false) : kp c c := by
 refine ⟨fun t ys e => (by subst e; cases h), fun e => ?_, fun _ => rfl⟩
 unfold zaW at e
 split at e
 . cases h
 . cases e
theorem zaS {t : Ty} {c : AV} {xs : List t.T} (h : za2 t c = some xs) : kp c (.sl t xs) := by
 unfold za2 at h
 split at h
 . split at h
   . rename_i e _
     subst e
     simp at h; subst h
     exact ⟨fun t' ys e => e, fun e => (by cases e), fun e => (by cases e)⟩
   . cases h
 . split at h
   . cases h
     exact ⟨fun t' ys e => (by cases e), fun _ => ⟨_, rfl⟩, fun e => (by cases e)⟩
   . cases h
 . cases h
theorem zaR {t : Ty} {c : AV} {x : Option t.T} (h : zde t c = some x) : kp c (.op t x) := by
 refine ⟨fun t' ys e => (by subst e; cases h), fun e => ?_, fun e => by unfold zJ5 at e; split at e <;> first | (cases h; done) | (cases e; done)⟩
 unfold zaW at e
 split at e
 . cases h
 . cases e
theorem zan {c : AV} {x : Clo} (h : zs4 c = some x) : kp c (.clo x) := by
 refine ⟨fun t' ys e => (by subst e; cases h), fun e => ?_, fun e => by unfold zJ5 at e; split at e <;> first | (cases h; done) | (cases e; done)⟩
 unfold zaW at e
 split at e
 . cases h
 . cases e
theorem zek {t : Ty} {cs : List AV} {x : t.T} (h : t.dec cs = some x) : Keep cs (t.enc x) := by
 cases t
 . simp only [Ty.dec] at h
   split at h
   . split at h
     . cases h
       rename_i e
       subst e
       exact Keep.cons (zbw rfl) Keep.nil
     . cases h
   . cases h
 . simp only [Ty.dec] at h
   split at h
   . cases h
     exact Keep.cons (zbw rfl) Keep.nil
   . cases h
 . simp only [Ty.dec] at h
   split at h
   . cases h
     exact Keep.cons (zbw rfl) Keep.nil
   . cases h
 . simp only [Ty.dec] at h
   split at h
   . exact Keep.cons (zan h) Keep.nil
   . cases h
 . simp only [Ty.dec] at h
   split at h
   . exact Keep.cons (zaS h) Keep.nil
   . cases h
 . simp only [Ty.dec] at h
   split at h
   . exact Keep.cons (zaR h) Keep.nil
   . cases h
 . simp only [Ty.dec] at h
   split at h
   . cases h
     repeat (first | exact Keep.nil | refine Keep.cons (by first | exact zbw rfl | exact zaS (by assumption) | exact zaR (by assumption) | exact zan (by assumption)) ?_)
   . cases h
 . simp only [Ty.dec] at h
   split at h
   . cases h
     repeat (first | exact Keep.nil | refine Keep.cons (by first | exact zbw rfl | exact zaS (by assumption) | exact zaR (by assumption) | exact zan (by assumption)) ?_)
   . cases h
 . simp only [Ty.dec] at h
   split at h
   . cases h
     repeat (first | exact Keep.nil | refine Keep.cons (by first | exact zbw rfl | exact zaS (by assumption) | exact zaR (by assumption) | exact zan (by assumption)) ?_)
   . cases h
 . simp only [Ty.dec] at h
   split at h
   . split at h
     . cases h
       repeat (first | exact Keep.nil | refine Keep.cons (by first | exact zbw rfl | exact zaS (by assumption) | exact zaR (by assumption) | exact zan (by assumption)) ?_)
     . cases h
   . cases h
 . simp only [Ty.dec] at h
   split at h
   . cases h
     repeat (first | exact Keep.nil | refine Keep.cons (by first | exact zbw rfl | exact zaS (by assumption) | exact zaR (by assumption) | exact zan (by assumption)) ?_)
   . cases h
 . simp only [Ty.dec] at h
   split at h
   . split at h
     . cases h
       repeat (first | exact Keep.nil | refine Keep.cons (by first | exact zbw rfl | exact zaS (by assumption) | exact zaR (by assumption) | exact zan (by assumption)) ?_)
     . cases h
   . cases h
 . simp only [Ty.dec] at h
   split at h
   . split at h
     . cases h
       repeat (first | exact Keep.nil | refine Keep.cons (by first | exact zbw rfl | exact zaS (by assumption) | exact zaR (by assumption) | exact zan (by assumption)) ?_)
     . cases h
   . cases h
 . simp only [Ty.dec] at h
   split at h
   . split at h
     . cases h
       repeat (first | exact Keep.nil | refine Keep.cons (by first | exact zbw rfl | exact zaS (by assumption) | exact zaR (by assumption) | exact zan (by assumption)) ?_)
     . cases h
   . cases h
 . simp only [Ty.dec] at h
   split at h
   . split at h
     . cases h
       repeat (first | exact Keep.nil | refine Keep.cons (by first | exact zbw rfl | exact zaS (by assumption) | exact zaR (by assumption) | exact zan (by assumption)) ?_)
     . cases h
   . cases h
 . simp only [Ty.dec] at h
   split at h
   . cases h
     repeat (first | exact Keep.nil | refine Keep.cons (by first | exact zbw rfl | exact zaS (by assumption) | exact zaR (by assumption) | exact zan (by assumption)) ?_)
   . cases h
 . simp only [Ty.dec] at h
   split at h
   . split at h
     . cases h
       repeat (first | exact Keep.nil | refine Keep.cons (by first | exact zbw rfl | exact zaS (by assumption) | exact zaR (by assumption) | exact zan (by assumption)) ?_)
     . cases h
   . cases h
 . simp only [Ty.dec] at h
   split at h
   . split at h
     . cases h
       repeat (first | exact Keep.nil | refine Keep.cons (by first | exact zbw rfl | exact zaS (by assumption) | exact zaR (by assumption) | exact zan (by assumption)) ?_)
     . cases h
   . cases h
 . simp only [Ty.dec] at h
   split at h
   . split at h
     . cases h
       repeat (first | exact Keep.nil | refine Keep.cons (by first | exact zbw rfl | exact zaS (by assumption) | exact zaR (by assumption) | exact zan (by assumption)) ?_)
     . cases h
   . cases h
 . simp only [Ty.dec] at h
   split at h
   . split at h
     . cases h
       repeat (first | exact Keep.nil | refine Keep.cons (by first | exact zbw rfl | exact zaS (by assumption) | exact zaR (by assumption) | exact zan (by assumption)) ?_)
     . cases h
   . cases h
 . simp only [Ty.dec] at h
   split at h
   . split at h
     . cases h
       repeat (first | exact Keep.nil | refine Keep.cons (by first | exact zbw rfl | exact zaS (by assumption) | exact zaR (by assumption) | exact zan (by assumption)) ?_)
     . cases h
   . cases h
 . simp only [Ty.dec] at h
   split at h
   . split at h
     . cases h
       repeat (first | exact Keep.nil | refine Keep.cons (by first | exact zbw rfl | exact zaS (by assumption) | exact zaR (by assumption) | exact zan (by assumption)) ?_)
     . cases h
   . cases h
 . simp only [Ty.dec] at h
   split at h
   . split at h
     . cases h
       repeat (first | exact Keep.nil | refine Keep.cons (by first | exact zbw rfl | exact zaS (by assumption) | exact zaR (by assumption) | exact zan (by assumption)) ?_)
     . cases h
   . cases h
 . simp only [Ty.dec] at h
   split at h
   . split at h
     . cases h
       repeat (first | exact Keep.nil | refine Keep.cons (by first | exact zbw rfl | exact zaS (by assumption) | exact zaR (by assumption) | exact zan (by assumption)) ?_)
     . cases h
   . cases h
 . simp only [Ty.dec] at h
   split at h
   . split at h
     . cases h
       repeat (first | exact Keep.nil | refine Keep.cons (by first | exact zbw rfl | exact zaS (by assumption) | exact zaR (by assumption) | exact zan (by assumption)) ?_)
     . cases h
   . cases h
 . simp only [Ty.dec] at h
   split at h
   . split at h
     . cases h
       repeat (first | exact Keep.nil | refine Keep.cons (by first | exact zbw rfl | exact zaS (by assumption) | exact zaR (by assumption) | exact zan (by assumption)) ?_)
     . cases h
   . cases h
 . simp only [Ty.dec] at h
   split at h
   . cases h
     repeat (first | exact Keep.nil | refine Keep.cons (by first | exact zbw rfl | exact zaS (by assumption) | exact zaR (by assumption) | exact zan (by assumption)) ?_)
   . cases h
 . simp only [Ty.dec] at h
   split at h
   . split at h
     . cases h
       repeat (first | exact Keep.nil | refine Keep.cons (by first | exact zbw rfl | exact zaS (by assumption) | exact zaR (by assumption) | exact zan (by assumption)) ?_)
     . cases h
   . cases h
 . simp only [Ty.dec] at h
   split at h
   . split at h
     . cases h
       repeat (first | exact Keep.nil | refine Keep.cons (by first | exact zbw rfl | exact zaS (by assumption) | exact zaR (by assumption) | exact zan (by assumption)) ?_)
     . cases h
   . cases h
 . simp only [Ty.dec] at h
   split at h
   . cases h
     repeat (first | exact Keep.nil | refine Keep.cons (by first | exact zbw rfl | exact zaS (by assumption) | exact zaR (by assumption) | exact zan (by assumption)) ?_)
   . cases h
 . simp only [Ty.dec] at h
   split at h
   . cases h
     repeat (first | exact Keep.nil | refine Keep.cons (by first | exact zbw rfl | exact zaS (by assumption) | exact zaR (by assumption) | exact zan (by assumption)) ?_)
   . cases h
 . simp only [Ty.dec] at h
   split at h
   . split at h
     . cases h
       repeat (first | exact Keep.nil | refine Keep.cons (by first | exact zbw rfl | exact zaS (by assumption) | exact zaR (by assumption) | exact zan (by assumption)) ?_)
     . cases h
   . cases h
 . simp only [Ty.dec] at h
   split at h
   . cases h
     repeat (first | exact Keep.nil | refine Keep.cons (by first | exact zbw rfl | exact zaS (by assumption) | exact zaR (by assumption) | exact zan (by assumption)) ?_)
   . cases h
 . simp only [Ty.dec] at h
   split at h
   . split at h
     . cases h
       repeat (first | exact Keep.nil | refine Keep.cons (by first | exact zbw rfl | exact zaS (by assumption) | exact zaR (by assumption) | exact zan (by assumption)) ?_)
     . cases h
   . cases h
 . simp only [Ty.dec] at h
   split at h
   . cases h
     repeat (first | exact Keep.nil | refine Keep.cons (by first | exact zbw rfl | exact zaS (by assumption) | exact zaR (by assumption) | exact zan (by assumption)) ?_)
   . cases h
 . simp only [Ty.dec] at h
   split at h
   . cases h
     repeat (first | exact Keep.nil | refine Keep.cons (by first | exact zbw rfl | exact zaS (by assumption) | exact zaR (by assumption) | exact zan (by assumption)) ?_)
   . cases h
 . simp only [Ty.dec] at h
   split at h
   . split at h
     . cases h
       repeat (first | exact Keep.nil | refine Keep.cons (by first | exact zbw rfl | exact zaS (by assumption) | exact zaR (by assumption) | exact zan (by assumption)) ?_)
     . cases h
   . cases h
 . simp only [Ty.dec] at h
   split at h
   . split at h
     . cases h
       repeat (first | exact Keep.nil | refine Keep.cons (by first | exact zbw rfl | exact zaS (by assumption) | exact zaR (by assumption) | exact zan (by assumption)) ?_)
     . cases h
   . cases h
theorem zyH (t : Ty) (x : t.T) : zlu (t.enc x) = true := by cases t <;> rfl
theorem zRp (t : Ty) : t.sz <= 4096 := by induction t <;> simp [Ty.sz]
theorem zv2 {t : Ty} {x : t.T} {j : Nat} {y : Value} (hj : j < t.sz) (h : V F w β ((t.enc x).getD j .undef) y) : y.oneCell' = true :=
 (ziJ h (zg8 (zyH t x) j (by rw [zab]; exact hj))).2
theorem zcN {t : Ty} : ∀ {n : Nat} {cs : List AV} {xs : List t.T}, zcq t n cs = some xs -> xs.length = n /\ cs.length = n * t.sz /\ ∀ i j, i < n -> j < t.sz -> ∀ y, V F w β (cs.getD (i * t.sz + j) .undef) y -> V F w β ((t.enc (nth xs i)).getD j .undef) y
 | 0, cs, xs, h => by
  cases cs with
  | nil => simp [zcq] at h; subst h; exact ⟨rfl, by simp, fun i j hi => by omega⟩
  | cons => simp [zcq] at h
 | n + 1, cs, xs, h => by
  simp only [zcq] at h
  split at h
  . rename_i x xs' hx hxs
    simp at h; subst h
    obtain ⟨h1, h2, h3⟩ := zcN hxs
    obtain ⟨k1, k2⟩ := za0 (F := F) (w := w) (β := β) hx
    have hsz := zaX t
    have hlen : cs.length = (n + 1) * t.sz := by
     simp at k1 h2
     rw [Nat.add_mul, Nat.one_mul]; omega
    refine ⟨by simp [h1], hlen, fun i j hi hj y hd => ?_⟩
    cases i with
    | zero =>
     have := k2 j y (by omega) (by
      have e : (cs.take t.sz).getD j .undef = cs.getD j .undef := by simp [List.getD, List.getElem?_take, hj]
      rw [e]; simpa using hd)
     simpa [nth] using this
    | succ i =>
     have := h3 i j (by omega) hj y (by
      have e : (cs.drop t.sz).getD (i * t.sz + j) .undef = cs.getD ((i + 1) * t.sz + j) .undef := by
       simp only [List.getD, List.getElem?_drop]
       congr 2
       rw [Nat.add_mul]; omega
      rw [e]; exact hd)
     simpa [nth] using this
  . cases h
end
section
variable {P : Program} {B : Bs} {F : Nat -> Prop} {β : Gh} {st : St} {a : Act} {w : World}
theorem zBf {F' : Nat -> Prop} {e : TypeId} {ty : Ty} {xs : List ty.T} {v : Value} {Vs : List Value} (h1 : w.ownsRow 0 e ty.sz v xs.length Vs) (hl : xs.length <= 140737488355328) (ho : ∀ k, v.ownBlock = some k -> F' k)
 (h3 : ∀ i j, i < xs.length -> j < ty.sz -> D F' w ((ty.enc (nth xs i)).getD j .undef) (Vs.getD (i * ty.sz + j) undef)) : D F' w (.sl ty xs) v := by
 rcases h1.2 with ⟨hv, hn⟩ | ⟨g, cap, cur, hv, hg, hh, hnc, hcm, hcs, htk⟩
 . have : xs = [] := List.eq_nil_of_length_eq_zero hn
   subst this
   rw [hv]; exact .sl0 ty none 0
 . obtain ⟨_, hcell⟩ := zbF h1 hv
   have hg' : F' g := ho g (by rw [hv]; rfl)
   rw [hv]
   refine .sl ty xs g 0 cap (fun i j => Vs.getD (i * ty.sz + j) undef) hg' (Array.getElem?_eq_some_iff.1 hh).1 hl hnc (fun i j hi hj => ?_) (fun i j hi hj => h3 i j hi hj)
   rw [Nat.zero_add]
   exact hcell _ (zbr hi hj)
theorem CellOk.whole {F' : Nat -> Prop} {b i j : Nat} {cols : List (Nat × TypeId)} {x : AV} {v : Value} (h : CellOk F w β b cols [] i j x v) (hF : ∀ k, F k -> F' k) (ho : ∀ k s, β.o k = some (b, s) -> F' k) : D F' w x v := by
 unfold CellOk at h
 split at h
 . exact h.wide hF
 . rcases h.2 with h | ⟨t, ys, Vs, rfl, h2, h3, h4, h5⟩
   . exact (zo5 h).elim
   . exact zBf h2 h3 (fun k hk => ho k _ (h4 k hk)) fun k m hk hm => (h5 k m hk hm).wide hF
theorem zHs {F' : Nat -> Prop} {e : TypeId} {ty : Ty} {cols : List (Nat × TypeId)} {xs : List ty.T} {b : Nat} (h : BlkOk F w β b (.row e ty cols [] xs)) (hF : ∀ k, F k -> F' k) (ho : ∀ k s, β.o k = some (b, s) -> F' k) : D F' w (.sl ty xs) (β.v b) := by
 obtain ⟨Vs, h1, hl, h2, h3⟩ := h
 exact zBf h1 hl (fun k hk => ho k _ (h2 k hk)) fun i j hi hj => (h3 i j hi hj).whole hF ho
theorem zy3 {e : TypeId} {ty : Ty} {cols : List (Nat × TypeId)} {hole : za9} {xs : List ty.T} {b : Nat} (h : BlkOk F w β b (.row e ty cols hole xs)) : ∃ A c, β.v b = .slice A xs.length c := by
 obtain ⟨Vs, h1, _⟩ := h
 rcases h1.2 with ⟨hv, hn⟩ | ⟨g, cap, cur, hv, _⟩
 . exact ⟨_, _, hv.trans (by rw [hn])⟩
 . exact ⟨_, _, hv⟩
theorem zyP {t : TypeId} {cs : List AV} {ys : Array Value} {o : Nat} {r : AV} (h : rd P t cs 0 = some r) (hl : o + cs.length <= ys.size) (hV : ∀ j, j < cs.length -> V F w β (cs.getD j .undef) (ys.getD (o + j) undef)) :
 ∃ y, V F w β r y /\ (part t ys o).run P w = .ok y w := by
 have hs : (ys.extract o (o + cs.length)).size = cs.length := by simp; omega
 have hg : ∀ j, j < cs.length -> (ys.extract o (o + cs.length)).getD j undef = ys.getD (o + j) undef := fun j hj => by
  simp [Array.getD, show j < min (o + cs.length) ys.size - o by omega, show o + j < ys.size by omega]
 unfold rd at h
 split at h
 . rename_i ha
   obtain ⟨hlt, rfl⟩ := List.getElem?_eq_some_iff.1 h
   refine ⟨ys.getD o undef, by simpa [List.getD, hlt] using hV 0 hlt, ?_⟩
   have : o < ys.size := by omega
   simp [part, Sem.run_bind, zc7 ha w, this, Array.getD]
 . rename_i n ha
   split at h
   . rename_i hle
     have hle' : 0 + n <= cs.length := Nat.le_of_ble_eq_true hle
     simp at h; subst h
     obtain ⟨hagg, i, hi, hn⟩ := zc8 ha
     refine ⟨.agg (ys.extract o (o + n)), .agg _ _ (by simp; omega) fun j hj => ?_, ?_⟩
     . have hj' : j < n := by simp at hj; omega
       have := hV j (by omega)
       simpa [List.getD, Array.getD, hj', show o + j < ys.size by omega, List.getElem?_take, show j < min (o + n) ys.size - o by omega] using this
     . simp [part, Sem.run_bind, hagg w, zat hi w, hn]
   . cases h
 . cases h
theorem zty (h : Rel B F β st a w) {t : TypeId} {x : Operand} {r : AV} (hr : zAp P st t (st.ev x) = some r) : ∃ y, V F w β r y /\ ∀ ty, (Builtin.len_ #[t] ty #[a.eval x]).run P w = .ok y w := by
 have hv := h.ev x
 unfold zAp at hr
 split at hr
 . rename_i ty xs hxe
   rw [hxe] at hv
   obtain ⟨A, c, hA⟩ := zvU hv
   split at hr
   . rename_i e hu
     simp at hr; subst hr
     exact ⟨_, .v _, fun ty => by simp [Builtin.len_, Sem.run_bind, run_underlying hu w, hA, goInt]⟩
   . cases hr
 . rename_i b hxe
   rw [hxe] at hv
   obtain ⟨hbm, hvy, _⟩ := zdq hv
   split at hr
   . rename_i e e' ty cols hole xs hu hb
     simp at hr; subst hr
     obtain ⟨A, c, hA⟩ := zy3 (h.heap.blk b _ hb)
     exact ⟨_, .v _, fun ty => by simp [Builtin.len_, Sem.run_bind, run_underlying hu w, hvy, hA, goInt]⟩
   . rename_i e ty xs hu hb
     simp at hr; subst hr
     obtain ⟨A, c, hA⟩ := zvU (show D F w (.sl ty xs) (β.v b) from h.heap.blk b _ hb)
     exact ⟨_, .v _, fun ty => by simp [Builtin.len_, Sem.run_bind, run_underlying hu w, hvy, hA, goInt]⟩
   . cases hr
 . rename_i b sz o n hxe
   rw [hxe] at hv
   obtain ⟨A, c', _, _, hy, _⟩ := zIt hv
   split at hr
   . rename_i e hu
     simp at hr; subst hr
     exact ⟨_, .v _, fun ty => by simp [Builtin.len_, Sem.run_bind, run_underlying hu w, hy, goInt]⟩
   . cases hr
 . rename_i z hxe
   rw [hxe] at hv
   cases hc : zfv P (Builtin.len_ #[t] 0 #[z]) with
   | none => simp [hc] at hr
   | some q =>
    simp [hc] at hr; subst hr
    have hl : ∀ ty, Builtin.len_ #[t] ty #[z] = Builtin.len_ #[t] 0 #[z] := fun _ => rfl
    exact ⟨q, zhE q, fun ty => by rw [V_v hv, hl, zei hc w]⟩
 . cases hr
theorem ztN (h : HOk F w β st.heap) {t : TypeId} {b o0 : Nat} {ty : Ty} {m i d : Nat} {r : AV} {v : Value} (hx : V F w β (.rex b o0 ty m i d) v) (hr : st.loadX P t b o0 ty m i d = some r) :
 ∃ y, V F w β r y /\ (Instr.loadAt t v).run P w = .ok y w := by
 unfold St.loadX at hr
 obtain ⟨hb, hi, rfl⟩ := zsV hx
 split at hr
 . rename_i e cs hcs
   split at hr
   . rename_i xs hxs
     obtain ⟨ys, T, h1, h2, _, h3⟩ := h.blk b _ hcs
     obtain ⟨d1, d2, d3⟩ := zcN (F := F) (w := w) (β := β) hxs
     have hlen : o0 + m * ty.sz <= cs.length ∨ m * ty.sz = 0 := by
      simp only [List.length_take, List.length_drop] at d2; omega
     have hmp : 0 < m * ty.sz := Nat.mul_pos (by omega) (zaX ty)
     have hlen' : o0 + m * ty.sz <= cs.length := by omega
     obtain ⟨y, hy, hrun⟩ := zdI (P := P) hr (β.b b) (o0 + i * ty.sz) (fun j => ys.getD (o0 + (i * ty.sz + j)) undef) (fun j hj => by
      rw [zab] at hj
      have hij := zbr hi hj
      refine d3 i j hi hj _ ?_
      have e0 : ((cs.drop o0).take (m * ty.sz)).getD (i * ty.sz + j) .undef = cs.getD (o0 + (i * ty.sz + j)) .undef := by simp [List.getD, List.getElem?_take, hij]
      rw [e0]
      exact h3 _ (by omega))
     refine ⟨y, hy, ?_⟩
     have := hrun w fun j hj => by
      rw [zab] at hj
      have hij := zbr hi hj
      rw [Nat.add_assoc, cell_of_row w (β.b b) (o0 + (i * ty.sz + j)) ys T (0, 0) h1]; simp [Array.getD, show o0 + (i * ty.sz + j) < ys.size by omega]
     simpa [Instr.loadAt, Instr.sureAddr, Sem.run_bind] using this
   . cases hr
 . cases hr
theorem zoh {t e : TypeId} (ad : Addr) (m c : Nat) (hu : P.underlying t = some (.slice e)) :
 (binOp .eql t (.slice (some ad) m c) (.slice none 0 0)).run P w = .ok (.bool false) w /\ (binOp .neq t (.slice (some ad) m c) (.slice none 0 0)).run P w = .ok (.bool true) w := by
 have h1 : (Op.equalIn 10000 t (.slice (some ad) m c) (.slice none 0 0)).run P w = .ok false w := by
  unfold Op.equalIn; rw [Sem.run_bind, run_underlying hu w]; rfl
 have e1 : (Op.equal t (.slice (some ad) m c) (.slice none 0 0)).run P w = .ok false w := h1
 refine ⟨?_, ?_⟩ <;> simp only [binOp] <;> simp [e1]
theorem zws {t : Ty} {xs : List t.T} {v : Value} (h : V F w β (.sl t xs) v) (hne : xs ≠ []) : ∃ ad m c, v = .slice (some ad) m c := by
 cases h with
 | sl0 => exact absurd rfl hne
 | sl _ _ b o c Y => exact ⟨_, _, _, rfl⟩
theorem zAR {nm : String} {t : TypeId} {x : AV} {y : Value} (h : V F w β (.fn (.method nm) [.ifc t x] []) y) : ∃ z, y = .func (.method nm) #[.iface t z] #[] := by
 cases h with
 | fn _ _ _ ya yc hla hlc ha hc =>
  have h0 := ha 0 (by simp)
  have hya : ∃ u, ya = #[u] := by
   match ya, hla with
   | ⟨[u]⟩, _ => exact ⟨u, rfl⟩
  obtain ⟨u, rfl⟩ := hya
  have hyc : yc = #[] := by apply Array.eq_empty_of_size_eq_zero; simpa using hlc
  subst hyc
  have h0 : V F w β (.ifc t x) u := by simpa using h0
  cases h0 with
  | ifc _ _ z _ => exact ⟨z, rfl⟩
theorem zqC {t : TypeId} {nm : String} {f : FuncId} (hm : zcP P t nm = some f) {z : Value} {w' : World} : (nilAhead (P.types.size + Made.depth) t z nm).run P w' = .ok (some false) w' := by
 unfold zcP at hm
 split at hm
 . rename_i i fs hi hu
   split at hm
   . rename_i m hfind
     split at hm
     . rename_i f' hp hfn
       have hp' : m.path = #[] := by simpa using hp
       have hd : P.types.size + Made.depth = (P.types.size + (Made.depth - 1)) + 1 := by
        have : 0 < Made.depth := by decide
        omega
       rw [hd]
       simp [nilAhead, typeInfo, Sem.run_bind, run_program, hi, hfind, hp', followBlind, hfn, run_underlying hu w']
     . cases hm
   . cases hm
 . cases hm
theorem zoN {α : Type} (h : Rel B F β st a w) {o : Oper} {k : AV -> Option α} {r : α} (hr : evT P st o k = some r) : ∃ x, zvT P F β o a w x /\ k x = some r := by
 unfold evT at hr
 unfold zvT execOp
 split at hr
 . rename_i c x y hop
   split at hr
   . rename_i t hc
     have hv := h.ev c; rw [hc] at hv
     have hv := V_v hv
     cases t
     . exact ⟨st.ev y, ⟨_, h.ev y, by simp [hop, hv, asBool]⟩, hr⟩
     . exact ⟨st.ev x, ⟨_, h.ev x, by simp [hop, hv, asBool]⟩, hr⟩
   . cases hr
 . rename_i x hop
   have hv := h.ev x
   split at hr
   . rename_i b off he
     rw [he] at hv
     obtain ⟨hb, hy⟩ := zgU hv
     exact ⟨_, ⟨_, .ref b off hb, by simp [hop, hy]⟩, hr⟩
   . rename_i t xs i off he
     rw [he] at hv
     have hv' := hv
     obtain ⟨b, o', Y, hi, hy, hrest⟩ := zuP hv
     exact ⟨_, ⟨_, hv', by simp [hop, hy]⟩, hr⟩
   . rename_i b sz i off he
     rw [he] at hv
     have hv' := hv
     obtain ⟨p, n, c, _, _, _, hy⟩ := zlo hv
     exact ⟨_, ⟨_, hv', by simp [hop, hy]⟩, hr⟩
   . rename_i b o0 ty m i d he
     rw [he] at hv
     have hv' := hv
     obtain ⟨_, _, hy⟩ := zsV hv
     exact ⟨_, ⟨_, hv', by simp [hop, hy]⟩, hr⟩
   . rename_i f fa fc he
     rw [he] at hv
     have hf : ∃ ya yc, a.eval x = .func (.func f) ya yc := by
      generalize a.eval x = q at hv
      cases hv
      exact ⟨_, _, rfl⟩
     obtain ⟨ya, yc, hy⟩ := hf
     exact ⟨_, ⟨_, hv, by simp [hop, hy]⟩, hr⟩
   . rename_i nm t z he
     rw [he] at hv
     split at hr
     . rename_i f hm
       obtain ⟨u, hy⟩ := zAR hv
       exact ⟨_, ⟨_, hv, by simp [hop, hy, Sem.run_bind, run_program, zqC hm]⟩, hr⟩
     . cases hr
   . rename_i t y he
     rw [he] at hv
     cases y with
     | none => cases hr
     | some y =>
      have hv' := zH9 hv
      obtain ⟨b, o', Y, hy, _⟩ := zzL hv
      exact ⟨_, ⟨_, hv', by simp [hop, hy]⟩, hr⟩
   . cases hr
 . rename_i t x i hop
   split at hr
   . rename_i e ty xs kd n hu hx hi
     split at hr
     . rename_i hs
       have hv := h.ev x; rw [hx] at hv
       have hiv := h.ev i; rw [hi] at hiv
       cases hin : zU n xs.length with
       | false => rw [hin] at hr; cases hr
       | true =>
        rw [hin] at hr
        obtain ⟨y, hy, hrun⟩ := zfo (P := P) (k := kd) hu (Nat.eq_of_beq_eq_true hs) hin hv
        exact ⟨_, ⟨y, hy, by simp [hop, V_v hiv, Sem.run_bind, hrun]⟩, hr⟩
     . cases hr
   . rename_i e b kd n hu hx hi
     have hv := h.ev x; rw [hx] at hv
     have hiv := h.ev i; rw [hi] at hiv
     obtain ⟨hbm, hvy, _⟩ := zdq hv
     split at hr
     . rename_i e' ty cols hole xs hb
       split at hr
       . rename_i hs
         cases hin : zU n xs.length with
         | false => rw [hin] at hr; cases hr
         | true =>
          rw [hin] at hr
          obtain ⟨y, hy, hrun⟩ := zmt (P := P) (k := kd) hu (Nat.eq_of_beq_eq_true hs) hin hbm (h.heap.blk b _ hb)
          exact ⟨_, ⟨y, hy, by simp [hop, hvy, V_v hiv, Sem.run_bind, hrun]⟩, hr⟩
       . cases hr
     . rename_i ty xs hb
       split at hr
       . rename_i hs
         cases hin : zU n xs.length with
         | false => rw [hin] at hr; cases hr
         | true =>
          rw [hin] at hr
          obtain ⟨y, hy, hrun⟩ := zfo (P := P) (k := kd) hu (Nat.eq_of_beq_eq_true hs) hin (show D F w (.sl ty xs) (β.v b) from h.heap.blk b _ hb)
          exact ⟨_, ⟨y, hy.ofD, by simp [hop, hvy, V_v hiv, Sem.run_bind, hrun]⟩, hr⟩
       . cases hr
     . cases hr
   . rename_i e b sz o' m kd n hu hx hi
     have hv := h.ev x; rw [hx] at hv
     have hiv := h.ev i; rw [hi] at hiv
     split at hr
     . rename_i hs
       cases hin : zU n m with
       | false => rw [hin] at hr; cases hr
       | true =>
        rw [hin] at hr
        simp only [Bool.and_eq_true] at hs
        obtain ⟨y, hy, hrun⟩ := zob (P := P) (k := kd) hu (Nat.eq_of_beq_eq_true hs.1) (by simpa using hs.2) hin hv
        exact ⟨_, ⟨y, hy, by simp [hop, V_v hiv, Sem.run_bind, hrun]⟩, hr⟩
     . cases hr
   . rename_i m e b off kd n hu hx hi
     have hv := h.ev x; rw [hx] at hv
     have hiv := h.ev i; rw [hi] at hiv
     split at hr
     . rename_i ty hty
       split at hr
       . rename_i hs
         cases hin : zU n m with
         | false => rw [hin] at hr; cases hr
         | true =>
          rw [hin] at hr
          obtain ⟨y, hy, hrun⟩ := zmu (P := P) (k := kd) hu (Nat.eq_of_beq_eq_true hs) hin hv
          exact ⟨_, ⟨y, hy, by simp [hop, V_v hiv, Sem.run_bind, hrun]⟩, hr⟩
       . cases hr
     . cases hr
   . cases hr
 . rename_i t x i hop
   split at hr
   . rename_i s kd n hu hx hi
     have hv := h.ev x; rw [hx] at hv
     have hiv := h.ev i; rw [hi] at hiv
     cases hin : zU n s.size with
     | false => rw [hin] at hr; cases hr
     | true =>
      rw [hin] at hr
      obtain ⟨b, hb, he⟩ := zDX s n hin
      have h0 := (inR_iff.1 hin).1
      exact ⟨_, ⟨_, .v _, by simp [hop, V_v hiv, V_v hv, Instr.index, asIntOf, Sem.run_bind, run_underlying hu w, h0, hb, he]⟩, hr⟩
   . rename_i m e cs kd n hu hx hi
     have hv := h.ev x; rw [hx] at hv
     have hiv := h.ev i; rw [hi] at hiv
     split at hr
     . rename_i ty hty
       split at hr
       . rename_i xs hxs
         split at hr
         . rename_i r' hrd hs
           cases hin : zU n m with
           | false => rw [hin] at hr; cases hr
           | true =>
            rw [hin] at hr
            obtain ⟨ys, hy, hl, hc⟩ := zln hv
            obtain ⟨d1, d2, d3⟩ := zcN (F := F) (w := w) (β := β) hxs
            obtain ⟨h0, h1⟩ := inR_iff.1 hin
            have hs' := Nat.eq_of_beq_eq_true hs
            have hn : n.toNat < m := by omega
            have hext : ∀ j, j < ty.sz -> V F w β ((ty.enc (nth xs n.toNat)).getD j .undef) (ys.getD (n.toNat * ty.sz + j) undef) := fun j hj => d3 n.toNat j hn hj _ (hc _ (by rw [d2]; exact zbr hn hj))
            obtain ⟨z, hz, hrun⟩ := zyP (P := P) (w := w) (o := n.toNat * ty.sz) hrd (by rw [hl, d2, zab, ← Nat.succ_mul]; exact Nat.mul_le_mul_right _ hn) (fun j hj => hext j (by rwa [zab] at hj))
            obtain ⟨i', hi', hsz⟩ := zcH hs' (zaX ty)
            exact ⟨_, ⟨z, hz, by
             have h1' : n < (m : Int) := h1
             simp [hop, V_v hiv, hy, Instr.index, asIntOf, asAgg, Sem.run_bind, run_underlying hu w, h0, h1', zat hi' w, hsz, hrun]⟩, hr⟩
         . cases hr
       . cases hr
     . cases hr
   . cases hr
 . rename_i t x lo hi hop
   split at hr
   . rename_i ty xs hx
     have hv := h.ev x; rw [hx] at hv
     split at hr
     . rename_i e l hh hu hlo hhi
       split at hr
       . rename_i hs
         cases hin : inS l hh xs.length with
         | false => rw [hin] at hr; cases hr
         | true =>
          rw [hin] at hr
          obtain ⟨y, hy, hrun⟩ := zkG (P := P) hu (Nat.eq_of_beq_eq_true hs) hv (zb4 h hlo) (zb4 h hhi) hin
          exact ⟨_, ⟨y, hy, by simp [hop, Sem.run_bind, hrun w]⟩, hr⟩
       . cases hr
     . cases hr
   . rename_i s hx
     have hv := h.ev x; rw [hx] at hv
     split at hr
     . rename_i l hh hu hlo hhi
       cases hin : inS l hh s.size with
       | false => rw [hin] at hr; cases hr
       | true =>
        rw [hin] at hr
        obtain ⟨h0, h1, h2⟩ := inS_iff.1 hin
        refine ⟨_, ⟨_, .v _, ?_⟩, hr⟩
        simp [hop, V_v hv, Instr.sliceAt, Instr.slice, Sem.run_bind, run_underlying hu w, zhp (P := P) (zb4 h hlo) (zb4 h hhi) h0 h1 h2 (Nat.le_refl _) w]
     . cases hr
   . cases hr
 . rename_i args tys hop
   split at hr
   . rename_i x t hx ht
     split at hr
     . rename_i y hy
       have e1 : args = #[x] := by apply Array.ext'; simpa using hx
       have e2 : tys = #[t] := by apply Array.ext'; simpa using ht
       subst e1 e2
       obtain ⟨z, hz, hrun⟩ := zty h hy
       exact ⟨y, ⟨z, hz, by simp [hop, resolve, invoke, builtin, Sem.run_bind, hrun]⟩, hr⟩
     . cases hr
   . cases hr
 . rename_i args tys hop
   split at hr
   . rename_i vs hvs
     split at hr
     . rename_i q hq
       refine ⟨_, ⟨q, zhE q, ?_⟩, hr⟩
       have hA : args.map a.eval = vs.toArray := by
        have := zn3 h hvs
        apply Array.ext'
        simpa using this
       simp [hop, resolve, invoke, builtin, Sem.run_bind, hA, zei hq w]
     . cases hr
   . cases hr
 . rename_i args tys hop
   split at hr
   . rename_i vs hvs
     split at hr
     . rename_i q hq
       refine ⟨_, ⟨q, zhE q, ?_⟩, hr⟩
       have hA : args.map a.eval = vs.toArray := by
        have := zn3 h hvs
        apply Array.ext'
        simpa using this
       simp [hop, resolve, invoke, builtin, Sem.run_bind, hA, zei hq w]
     . cases hr
   . cases hr
 . rename_i op t x y ty' hop
   split at hr
   . rename_i ty xs hx hy
     have hvx := h.ev x; rw [hx] at hvx
     have hvy := V_v (by have := h.ev y; rwa [hy] at this)
     split at hr
     . rename_i e hu
       cases hz : Nat.beq xs.length 0 with
       | true => rw [hz] at hr; cases hr
       | false =>
        rw [hz] at hr
        obtain ⟨ad, m, c, hva⟩ := zws hvx (fun e => by subst e; cases hz)
        exact ⟨_, ⟨_, .v _, by simp [hop, hvy, hva, eqGuard, Sem.run_bind, (zoh ad m c hu).1]⟩, hr⟩
     . rename_i e hu
       cases hz : Nat.beq xs.length 0 with
       | true => rw [hz] at hr; cases hr
       | false =>
        rw [hz] at hr
        obtain ⟨ad, m, c, hva⟩ := zws hvx (fun e => by subst e; cases hz)
        exact ⟨_, ⟨_, .v _, by simp [hop, hvy, hva, eqGuard, Sem.run_bind, (zoh ad m c hu).2]⟩, hr⟩
     . cases hr
   . rename_i ka m kb n hx hy
     have hvx := V_v (by have := h.ev x; rwa [hx] at this)
     have hvy := V_v (by have := h.ev y; rwa [hy] at this)
     split at hr
     . rename_i hd hk
       have hk := of_decide_eq_true hk
       subst hk
       cases hz : decide (n = 0) with
       | true => rw [hz] at hr; cases hr
       | false =>
        rw [hz] at hr
        have hz := of_decide_eq_false hz
        refine ⟨_, ⟨_, .v _, ?_⟩, hr⟩
        cases op <;> first | (cases hd; done) | simp [hop, hvx, hvy, eqGuard, Sem.run_bind, binOp, Op.intDiv, hz, dv]
     . split at hr
       . rename_i x' hx'
         exact ⟨x', zgu h hx', hr⟩
       . cases hr
   . split at hr
     . rename_i x' hx'
       exact ⟨x', zgu h hx', hr⟩
     . cases hr
 . rename_i t ad hop
   split at hr
   . rename_i b o0 ty m i d he
     split at hr
     . rename_i x hx
       have hv := h.ev ad; rw [he] at hv
       obtain ⟨y, hy, hrun⟩ := ztN h.heap hv hx
       exact ⟨x, ⟨y, hy, by simp [hop, Sem.run_bind, hrun]⟩, hr⟩
     . cases hr
   . split at hr
     . rename_i x hx
       exact ⟨x, zgu h hx, hr⟩
     . cases hr
 . rename_i hq
   split at hr
   . rename_i x hx
     exact ⟨x, zgu h hx, hr⟩
   . cases hr
end
end Go.Proofs.YtganhedldgbfpaaGreatDoor
end
