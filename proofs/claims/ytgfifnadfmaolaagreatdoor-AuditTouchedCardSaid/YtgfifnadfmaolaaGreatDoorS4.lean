/- The soundness of the abstract evaluator, part 4: slots and own blocks written; own blocks handed on as data. -/
import Derived.Test.YtgfifnadfmaolaaGreatDoorS3
import Derived.Laws.CopyRow
import Derived.Maps.AppendAt
namespace Go.Proofs.YtgfifnadfmaolaaGreatDoor
open Go.RowKit
set_option linter.unusedVariables false
set_option linter.unusedSimpArgs false
def Al (st st' : St) : Prop := st'.gl = st.gl ∧ st'.np = st.np ∧ st.heap.length ≤ st'.heap.length
theorem Al.refl (st : St) : Al st st := ⟨rfl, rfl, Nat.le_refl _⟩
theorem Al.trans {a b c : St} (h : Al a b) (k : Al b c) : Al a c := ⟨k.1.trans h.1, k.2.1.trans h.2.1, Nat.le_trans h.2.2 k.2.2⟩
theorem al_put (st : St) (d : Option Nat) (x : AV) : Al st (st.put d x) := by cases d <;> exact ⟨rfl, rfl, Nat.le_refl _⟩
theorem get_set (st : St) (d t : Nat) (x : AV) : (st.set d x).get t = if t = d ∧ d < st.env.length then x else st.get t := by
  unfold St.get St.set
  simp only [List.getD, List.getElem?_set]
  by_cases h : d = t
  · subst h
    by_cases h' : d < st.env.length
    · simp [h']
    · simp [h', List.getElem?_eq_none (Nat.le_of_not_lt h')]
  · simp [h, show ¬ t = d from fun e => h e.symm]
theorem set_get {st : St} {d : Nat} {x : AV} (h : st.get d = x) : st.set d x = st := by
  subst h
  unfold St.set St.get
  have : st.env.set d (st.env.getD d .undef) = st.env := by
    by_cases hd : d < st.env.length
    · simp [List.getD, hd]
    · rw [List.set_eq_of_length_le (Nat.le_of_not_lt hd)]
  rw [this]
section
variable {P : Program} {B : Bs} {F : Nat → Prop} {β : Gh} {st : St} {a : Act} {w : World}
theorem Rel.put (h : Rel B F β st a w) (d : Option Nat) {x : AV} {y : Value} (hxy : V F w β x y) : Rel B F β (st.put d x) (a.put d y) w := by
  cases d with
  | none => exact h
  | some d =>
    refine ⟨?_, fun t => ?_, h.gl, h.df, h.kept, h.fo, h.fi, h.lo, h.per, h.bn, h.nw, h.hn, h.heap⟩
    · simp [St.put, St.set, Act.put, h.len]
    · show V F w β ((st.set d x).get t) _
      rw [get_set]
      simp only [Act.put, Array.getD_eq_getD_getElem?, Array.getElem?_setIfInBounds]
      by_cases ht : t = d
      · subst ht
        by_cases hd : t < st.env.length
        · have hd' : t < a.tmps.size := by rw [← h.len]; exact hd
          simp only [hd, and_self, if_true, hd', Option.getD_some]
          exact hxy
        · have hd' : ¬ t < a.tmps.size := by rw [← h.len]; exact hd
          simp only [hd, and_false, if_false, hd', if_true, Option.getD_none]
          have := h.env t
          rw [Array.getD_eq_getD_getElem?, Array.getElem?_eq_none (by omega)] at this
          exact this
      · rw [if_neg (fun e => ht e.1), if_neg (fun e => ht e.symm)]
        have := h.env t
        rwa [Array.getD_eq_getD_getElem?] at this
theorem slot_bool (h : Rel B F β st a w) {d : Nat} {t : Bool} (hd : st.get d = .v (.bool t)) : a.tmps[d]? = some (.bool t) := by
  have hv := h.env d
  rw [hd] at hv
  have := V_v hv
  rw [Array.getD_eq_getD_getElem?] at this
  cases hq : a.tmps[d]? with
  | none => rw [hq] at this; simp [undef] at this
  | some z => rw [hq] at this; simpa using this
theorem wp_value {o : Oper} {y : Value} {w' : World} {next : Act → World → Prop} {Q : Exit → Act → World → Prop} (hrun : (execOp a.eval o).run P w = .ok (.value y) w') (hn : next (a.put o.dst y) w') : o.wp P a w next Q := by
  unfold Oper.wp; rw [hrun]; exact hn
theorem Rel.heapTo (h : Rel B F β st a w) {F' : Nat → Prop} {β' : Gh} {hp : List Blk} {w' : World} (hE : Ext F F' w w') (hβ : β.Le β') (hk : Keeps B.M B.w w') (hfo : ∀ p, F' p → B.F p ∨ B.M p ∨ B.w.heap.size ≤ p) (hF : ∀ p, F p → F' p)
    (hlo : ∀ p κ, β'.o p = some κ → B.M p ∨ B.w.heap.size ≤ p) (hnw : ∀ b, β'.l b → β.l b ∨ st.heap.length ≤ b) (hln : st.heap.length ≤ hp.length) (hh : HOk F' w' β' hp) : Rel B F' β' { st with heap := hp } a w' :=
  ⟨h.len, fun t => (h.env t).mono hE hβ, fun g => (h.gl g).mono hE, h.df.imp fun _ _ hv => hv.mono hE hβ, hk, hfo, fun p hp => hF p (h.fi p hp), hlo, h.per.trans hβ, h.bn, fun b hb => (by
    rcases hnw b hb with h1 | h1
    · exact h.nw b h1
    · exact .inr (Nat.le_trans h.hn h1)), Nat.le_trans h.hn hln, hh⟩
theorem HOk.step {hp : List Blk} (h : HOk F w β hp) (n : Nat) {hp' : List Blk} {β' : Gh} {F' : Nat → Prop} {w' : World} (hE : Ext F F' w w') (hβ : β.Le β') (hfb : ∀ p, F' p → p < w'.heap.size) (hlt : ∀ p κ, β'.o p = some κ → p < w'.heap.size) (hsep : ∀ p κ, β'.o p = some κ → ¬ F' p)
    (hlive : ∀ b, β'.l b → b < hp'.length) (hold : ∀ b k, b ≠ n → hp'[b]? = some k → hp[b]? = some k)
    (hkeep : ∀ b k, b ≠ n → hp[b]? = some k → k ≠ .dead → (β'.b b = β.b b ∧ β'.v b = β.v b) ∧ ∀ p s, β.o p = some (b, s) → β'.o p = some (b, s) ∧ w'.heap[p]? = w.heap[p]?)
    (hnew : ∀ k, hp'[n]? = some k → BlkOk F' w' β' n k) : HOk F' w' β' hp' := by
  refine ⟨hfb, fun b k hb => ?_, hlt, hsep, hlive⟩
  by_cases hbn : b = n
  · subst hbn; exact hnew k hb
  · have hb' := hold b k hbn hb
    by_cases hd : k = .dead
    · subst hd; trivial
    obtain ⟨q1, q2⟩ := hkeep b k hbn hb' hd
    exact (h.blk b k hb').mono hE hβ q1 q2
theorem heap_get_push {hp : List Blk} {k k' : Blk} {b : Nat} (hb : b ≠ hp.length) (h : (hp ++ [k])[b]? = some k') : hp[b]? = some k' := by
  by_cases hlt : b < hp.length
  · rwa [List.getElem?_append_left hlt] at h
  · have := (List.getElem?_eq_some_iff.1 h).1
    simp at this; omega
theorem heap_get_new {hp : List Blk} {k k' : Blk} (h : (hp ++ [k])[hp.length]? = some k') : k' = k := by simpa using h.symm
theorem heap_get_set {hp : List Blk} {k k' : Blk} {b n : Nat} (hb : b ≠ n) (h : (hp.set n k)[b]? = some k') : hp[b]? = some k' := by rwa [List.getElem?_set, if_neg (fun e => hb e.symm)] at h
theorem heap_get_set_same {hp : List Blk} {k k' : Blk} {n : Nat} (h : (hp.set n k)[n]? = some k') : k' = k := by
  rw [List.getElem?_set, if_pos rfl] at h
  split at h <;> simp_all
def Gh.box (β : Gh) (n p : Nat) : Gh := ⟨fun b => if b = n then p else β.b b, β.v, fun q => if q = p then some (n, none) else β.o q, fun b => b = n ∨ β.l b⟩
def Gh.row (β : Gh) (n : Nat) (v : Value) (T : Nat → Option (Nat × Nat)) : Gh := ⟨β.b, fun b => if b = n then v else β.v b, fun q => if v.ownBlock = some q then some (n, none) else match T q with | some s => some (n, some s) | none => β.o q, fun b => b = n ∨ β.l b⟩
def Gh.free (β : Gh) (b : Nat) : Gh := ⟨β.b, β.v, fun q => match β.o q with | some (c, s) => if c = b then none else some (c, s) | none => none, β.l⟩
theorem free_o {β : Gh} {b p : Nat} {κ : Nat × Option (Nat × Nat)} : (β.free b).o p = some κ ↔ β.o p = some κ ∧ κ.1 ≠ b := by
  simp only [Gh.free]
  cases hq : β.o p with
  | none => simp
  | some κ' =>
    obtain ⟨c, s⟩ := κ'
    by_cases hc : c = b
    · subst hc; simp
      rintro rfl; simp
    · simp only [if_neg hc, Option.some.injEq]
      constructor
      · rintro rfl; exact ⟨rfl, hc⟩
      · exact fun h => h.1
theorem Gh.free_le (β : Gh) (b : Nat) : β.Le (β.free b) := fun c hc => ⟨hc, rfl, rfl⟩
theorem Gh.box_le {β : Gh} {n p : Nat} (hn : ¬ β.l n) : β.Le (β.box n p) := fun b hb => ⟨.inr hb, by simp only [Gh.box]; rw [if_neg (fun (e : b = n) => hn (e ▸ hb))], rfl⟩
theorem Gh.row_le {β : Gh} {n : Nat} {v : Value} {T : Nat → Option (Nat × Nat)} (hn : ¬ β.l n) : β.Le (β.row n v T) := fun b hb => ⟨.inr hb, rfl, by simp only [Gh.row]; rw [if_neg (fun (e : b = n) => hn (e ▸ hb))]⟩
theorem live_not {hp : List Blk} (h : HOk F w β hp) : ¬ β.l hp.length := fun hl => Nat.lt_irrefl _ (h.live _ hl)
theorem HOk.alloc {hp : List Blk} (h : HOk F w β hp) {e : TypeId} {cs : List AV} {ys : Array Value} (T : TypeId) (hl : ys.size = cs.length) (hc : ∀ j, j < cs.length → V F w β (cs.getD j .undef) (ys.getD j undef)) :
    HOk F (w.alloc (.cells ys T)) (β.box hp.length w.heap.size) (hp ++ [.cells e cs]) := by
  have hE : Ext F F w (w.alloc (.cells ys T)) := ⟨by simp, fun b hF hb => ⟨hF, Below.heap_alloc _ _ _ hb⟩⟩
  have hβ := Gh.box_le (p := w.heap.size) (live_not h)
  refine h.step hp.length hE hβ (fun p hF => by have := h.fb p hF; simp; omega) (fun p κ hp' => ?_) (fun p κ hp' hF => ?_) (fun b hb => ?_) (fun b k hb hk => heap_get_push hb hk) (fun b k hb hk _ => ⟨⟨by simp only [Gh.box]; rw [if_neg hb], rfl⟩, fun p s hp' => ?_⟩) (fun k hk => ?_)
  · simp only [Gh.box] at hp'
    split at hp'
    · subst p; simp
    · have := h.lt p κ hp'; simp; omega
  · simp only [Gh.box] at hp'
    split at hp'
    · have := h.fb _ hF; omega
    · exact h.sep p κ hp' hF
  · rcases hb with rfl | hb
    · simp
    · have := h.live b hb; simp; omega
  · have := h.lt p _ hp'
    refine ⟨by simp only [Gh.box]; rw [if_neg (by omega)]; exact hp', Below.heap_alloc _ _ _ this⟩
  · obtain rfl := heap_get_new hk
    have hb : (β.box hp.length w.heap.size).b hp.length = w.heap.size := by simp [Gh.box]
    exact ⟨ys, T, by rw [hb]; exact heap_alloc_new w _, hl, by rw [hb]; simp [Gh.box], fun j hj => (hc j hj).mono hE hβ⟩
theorem Rel.alloc (h : Rel B F β st a w) {e : TypeId} {cs : List AV} {ys : Array Value} (T : TypeId) (hl : ys.size = cs.length) (hc : ∀ j, j < cs.length → V F w β (cs.getD j .undef) (ys.getD j undef)) (d : Option Nat) :
    Rel B F (β.box st.heap.length w.heap.size) (({ st with heap := st.heap ++ [.cells e cs] } : St).put d (.ref st.heap.length 0)) (a.put d (.pointer (some ⟨w.heap.size, 0, none⟩))) (w.alloc (.cells ys T)) := by
  have hE : Ext F F w (w.alloc (.cells ys T)) := ⟨by simp, fun b hF hb => ⟨hF, Below.heap_alloc _ _ _ hb⟩⟩
  have hbl : Below w.heap.size w (w.alloc (.cells ys T)) := (Below.refl _ _).alloc (Nat.le_refl _) _
  have h1 := h.heapTo (hp := st.heap ++ [.cells e cs]) hE (Gh.box_le (live_not h.heap)) (h.kept.trans (.of_below (M := fun _ => False) hbl) (fun _ h => h) (fun _ h => h.elim)) h.fo (fun _ h => h) (fun p κ hp => by
    simp only [Gh.box] at hp
    split at hp
    · subst p; exact .inr h.kept.size
    · exact h.lo p κ hp) (fun b hb => by
    rcases hb with rfl | hb
    · exact .inr (Nat.le_refl _)
    · exact .inl hb) (by simp) (h.heap.alloc T hl hc)
  refine h1.put d ?_
  have hb : (β.box st.heap.length w.heap.size).b st.heap.length = w.heap.size := by simp [Gh.box]
  have := V.ref (F := F) (w := w.alloc (.cells ys T)) (β := β.box st.heap.length w.heap.size) st.heap.length 0 (.inl rfl)
  rwa [hb] at this
theorem upd_getD {l vs : List Value} {o : Nat} (h : o + vs.length ≤ l.length) (k : Nat) (d : Value) : (l.take o ++ vs ++ l.drop (o + vs.length)).getD k d = if o ≤ k ∧ k < o + vs.length then vs.getD (k - o) d else l.getD k d := by
  simp only [List.getD]
  by_cases hr : o ≤ k ∧ k < o + vs.length
  · rw [if_pos hr, List.append_assoc, List.getElem?_append_right (by simp; omega), List.getElem?_append_left (by simp; omega)]
    congr 2
    simp; omega
  · rw [if_neg hr]
    congr 1
    by_cases hjo : k < o
    · rw [List.append_assoc, List.getElem?_append_left (by simp; omega), List.getElem?_take, if_pos hjo]
    · rw [List.getElem?_append_right (by simp; omega), List.getElem?_drop]
      simp only [List.length_append, List.length_take]
      congr 1; omega
theorem Rel.write (h : Rel B F β st a w) {b p : Nat} {s : Option (Nat × Nat)} (hb : b < st.heap.length) (ho : β.o p = some (b, s)) {k' : Blk} {w' : World} (hos : w'.os = w.os) (htp : w'.tape = w.tape) (hou : w'.output = w.output) (hsz : w'.heap.size = w.heap.size) (hbk : ∀ q, q ≠ p → w'.heap[q]? = w.heap[q]?)
    (hnew : Ext F F w w' → BlkOk F w' β b k') : Rel B F β { st with heap := st.heap.set b k' } a w' := by
  have hE : Ext F F w w' := ⟨by omega, fun q hF hq => ⟨hF, hbk q (fun e => h.heap.sep p _ ho (e ▸ hF))⟩⟩
  refine h.heapTo hE (.refl _) ⟨hos.trans h.kept.os, htp.trans h.kept.tape, hou.trans h.kept.output, by have := h.kept.size; omega, fun q hq hn => ?_⟩ h.fo (fun _ h => h) h.lo (fun _ hb => .inl hb) (by simp) ?_
  · rw [hbk q (fun e => ?_)]
    · exact h.kept.block q hq hn
    · subst e
      rcases h.lo q _ ho with hm | hm
      · exact hn hm
      · omega
  · refine h.heap.step b hE (.refl _) (fun q hF => by rw [hsz]; exact h.heap.fb q hF) (fun q κ hq => by rw [hsz]; exact h.heap.lt q κ hq) h.heap.sep (fun c hc => by rw [List.length_set]; exact h.heap.live c hc) (fun c k hc' hk => heap_get_set hc' hk)
      (fun c _ hcb _ _ => ⟨⟨rfl, rfl⟩, fun q s' hq => ⟨hq, hbk q (fun e => ?_)⟩⟩) (fun k hk => ?_)
    · subst e
      rw [ho] at hq
      simp at hq
      exact hcb hq.1.symm
    · obtain rfl := heap_get_set_same hk
      exact hnew hE
end
end Go.Proofs.YtgfifnadfmaolaaGreatDoor
