/- Rounds of a range over a function, the caller's side: a round is walked as a callee to which the caller's own blocks are lent; pieces of code one by one. -/
import Derived.Test.YtgfifnadfmaolaaGreatDoorRG
import Derived.Test.YtgfifnadfmaolaaGreatDoorG
namespace Go.Proofs.YtgfifnadfmaolaaGreatDoor
open Go.RowKit
set_option linter.unusedVariables false
set_option linter.unusedSimpArgs false
theorem owns_cells {w : World} {e sz n : Nat} {v : Value} {Vs : List Value} (h : w.ownsRow 0 e sz v n Vs) {p : Nat} (hp : v.ownBlock = some p) : ∃ o : Obj, w.heap[p]? = some o ∧ o.isCells = true := by
  rcases h.2 with ⟨h0, _⟩ | ⟨g, cap, cur, hv, _, hh, _⟩
  · rw [h0] at hp; cases hp
  · rw [hv] at hp
    cases hp
    exact ⟨_, hh, rfl⟩
open Classical in
noncomputable def Gh.purge (β : Gh) (w : World) : Gh := ⟨β.b, β.v, fun p => if (∃ o : Obj, w.heap[p]? = some o ∧ o.isCells = true) then β.o p else none, β.l⟩
theorem purge_le (β : Gh) (w : World) : β.Le (β.purge w) := fun b h => ⟨h, rfl, rfl⟩
theorem purge_o {β : Gh} {w : World} {p : Nat} {κ : Nat × Option (Nat × Nat)} (h : (β.purge w).o p = some κ) : (∃ o : Obj, w.heap[p]? = some o ∧ o.isCells = true) ∧ β.o p = some κ := by
  simp only [Gh.purge] at h
  split at h
  · rename_i hc; exact ⟨hc, h⟩
  · cases h
theorem purge_keep {β : Gh} {w : World} {p : Nat} {κ : Nat × Option (Nat × Nat)} (hc : ∃ o : Obj, w.heap[p]? = some o ∧ o.isCells = true) (h : β.o p = some κ) : (β.purge w).o p = some κ := by
  simp only [Gh.purge, if_pos hc, h]
theorem purge_V {F : Nat → Prop} {w W : World} {β : Gh} {x : AV} {y : Value} (h : V F w β x y) : V F w (β.purge W) x y := h.mono (sub_ext (fun _ h => h) w) (purge_le β W)
theorem purge_cell {F : Nat → Prop} {w : World} {β : Gh} {b i j : Nat} {cols : List (Nat × TypeId)} {hole : Option (Nat × Nat)} {x : AV} {v : Value} (h : CellOk F w β b cols hole i j x v) : CellOk F w (β.purge w) b cols hole i j x v := by
  unfold CellOk at h ⊢
  split at h
  · exact h
  · rcases h with h | ⟨t, ys, Vs, h1, h2, h3, h4, h5⟩
    · exact .inl h
    · exact .inr ⟨t, ys, Vs, h1, h2, h3, fun p hp => purge_keep (owns_cells h2 hp) (h4 p hp), h5⟩
theorem purge_blk {F : Nat → Prop} {w : World} {β : Gh} {b : Nat} {k : Blk} (h : BlkOk F w β b k) : BlkOk F w (β.purge w) b k := by
  cases k with
  | cells e cs =>
    obtain ⟨ys, T, h1, h2, h3, h4⟩ := h
    exact ⟨ys, T, h1, h2, purge_keep ⟨_, h1, rfl⟩ h3, fun j hj => purge_V (h4 j hj)⟩
  | row e t cols hole xs =>
    obtain ⟨Vs, h1, h2, h3, h4⟩ := h
    exact ⟨Vs, h1, h2, fun p hp => purge_keep (owns_cells h1 hp) (h3 p hp), fun i j hi hj => purge_cell (h4 i j hi hj)⟩
  | ro t xs => exact h
  | rob t x => exact h
  | dead => trivial
theorem Rel.purge {B : Bs} {F : Nat → Prop} {β : Gh} {st : St} {a : Act} {w : World} (h : Rel B F β st a w) : Rel B F (β.purge w) st a w :=
  ⟨h.len, fun t => purge_V (h.env t), h.gl, h.df.imp fun _ _ hv => purge_V hv, h.kept, h.fo, h.fi, fun p κ hp => h.lo p κ (purge_o hp).2, h.per.trans (purge_le β w), h.bn, h.nw, h.hn,
    ⟨h.heap.fb, fun b k hk => purge_blk (h.heap.blk b k hk), fun p κ hp => h.heap.lt p κ (purge_o hp).2, fun p κ hp => h.heap.sep p κ (purge_o hp).2, h.heap.live⟩⟩
theorem keepsOthers_of {M : Nat → Prop} {w w' : World} (h : Keeps M w w') (hM : ∀ p, M p → ∃ o : Obj, w.heap[p]? = some o ∧ o.isCells = true) : KeepsOthers w w' :=
  ⟨h.size, fun k o hk ho => (h.block k (Array.getElem?_eq_some_iff.1 hk).1 fun hm => by
    obtain ⟨o', h1, h2⟩ := hM k hm
    rw [hk] at h1
    cases h1
    rw [ho] at h2
    cases h2).trans hk⟩
theorem Rel.as {B : Bs} {F : Nat → Prop} {β : Gh} {st st' : St} {a : Act} {w : World} (h : Rel B F β st a w) (he : st'.env = st.env) (hh : st'.heap = st.heap) (hg : st'.gl = st.gl) (hn : st'.np = st.np) (hd : st'.df = st.df) : Rel B F β st' a w := by
  obtain ⟨e, hp, g, n, d, q⟩ := st
  obtain ⟨e', hp', g', n', d', q'⟩ := st'
  obtain rfl : e' = e := he
  obtain rfl : hp' = hp := hh
  obtain rfl : g' = g := hg
  obtain rfl : n' = n := hn
  obtain rfl : d' = d := hd
  exact ⟨h.len, h.env, h.gl, h.df, h.kept, h.fo, h.fi, h.lo, h.per, h.bn, h.nw, h.hn, h.heap⟩
theorem Rel.forget {B : Bs} {F : Nat → Prop} {β : Gh} {st : St} {a : Act} {w : World} (h : Rel B F β st a w) {e : List AV} (hl : e.length = st.env.length) (he : ∀ t, e.getD t .undef = .undef ∨ e.getD t .undef = st.env.getD t .undef) : Rel B F β { st with env := e } a w :=
  ⟨hl.trans h.len, fun t => by
    rcases he t with q | q
    · rw [show St.get { st with env := e } t = .undef from q]; exact .undef _
    · rw [show St.get { st with env := e } t = st.get t from q]; exact h.env t, h.gl, h.df, h.kept, h.fo, h.fi, h.lo, h.per, h.bn, h.nw, h.hn, h.heap⟩
theorem Rel.noDf {B : Bs} {F : Nat → Prop} {β : Gh} {st : St} {a : Act} {w : World} (h : Rel B F β st a w) (hd : st.df = []) : Rel B F β st { a with defers := [] } w :=
  ⟨h.len, h.env, h.gl, by rw [hd]; trivial, h.kept, h.fo, h.fi, h.lo, h.per, h.bn, h.nw, h.hn, h.heap⟩
theorem Rel.round {B : Bs} {F : Nat → Prop} {β : Gh} {st : St} {a : Act} {w : World} (h : Rel B F β st a w) {ids : List Nat} (hn : ids.Nodup) (hd : st.df = []) (hb : ∀ j, j < ids.length → β.l (ids.getD j 0) → True) : Rel (entB w F (β.sub ids)) F (β.sub ids) { st.sub ids with np := ids.length } { a with defers := [] } w := by
  refine ⟨by simp [St.sub, h.len], fun t => ?_, h.gl, ?_, .refl _ _, fun p hp => .inl hp, fun p hp => hp, fun p κ hp => .inl (by show (β.sub ids).o p ≠ none; rw [hp]; simp), .refl _, fun j hj => hj.1, fun b hb => .inl hb, by simp [St.sub, subHeap], h.heap.sub hn⟩
  · have := sub_V (ids := ids) 9 (h.env t)
    have e : (st.sub ids).get t = (st.get t).mapB (idx ids) 9 := getD_map (f := AV.mapB (idx ids) 9) rfl
    show V F w (β.sub ids) ((st.sub ids).get t) _
    rw [e]; exact this
  · show DfOk F w (β.sub ids) (st.df.map _) []
    rw [hd]; trivial
theorem give_aft {w0 : World} {F0 : Nat → Prop} {β0 : Gh} {F : Nat → Prop} {β : Gh} {st : St} {a : Act} {w : World} (h : Rel (entB w0 F0 β0) F β st a w) {an : Ans} (hg : give st [] = some an) : Aft F0 w0 β0 st.np an (.tuple #[]) w ∧ st.np ≤ an.hp.length := by
  unfold give at hg
  generalize reach st.heap 4000 (List.range st.np) (rootsH (st.heap.take st.np) ++ rootsL []) = ids at hg
  dsimp only at hg
  split at hg
  · rename_i n1 n2
    simp at hg; subst hg
    have hn := nodupB_iff.1 n1
    have hR := h.sub hn (Nat.eq_of_beq_eq_true n2)
    exact ⟨⟨F, β.sub ids, hR.kept, hR.fi, hR.fo, hR.lo, hR.per, hR.nw, hR.heap, sub_V 9 (.tup [] #[] rfl fun j hj => by simp at hj)⟩, hR.hn⟩
  · cases hg
def kGive : Kn
  | .normal, st => give st []
  | _, _ => none
section
variable {P : Program} {GL : List AV} {G : Gam} {B : Bs} {F : Nat → Prop} {β : Gh} {st : St} {a : Act} {w : World}
theorem round_sound {H : Hint} {J : Jmp} (hG : GOk P GL G) {lo n : Nat} {body : Code} {l : Nat} (ho : okIn H body = true) {ids : List Nat} (hn : ids.Nodup) (hlt : ∀ b, b ∈ ids → b < st.heap.length) (h : Rel B F β st a w) (hgl : st.gl = GL)
    {st1 : St} {a1 : Act} (hR1 : Rel (entB w F ((β.purge w).sub ids)) F ((β.purge w).sub ids) st1 a1 w) (hg1 : st1.gl = GL) (hn1 : st1.np = ids.length) {an : Ans} (run : ev P G H J l body kGive st1 = some an)
    {Q : Exit → Act → World → Prop} (hQ : ¬ LetsOut Q) (hk : ∀ a' w' F' β', KeepsOthers w w' → Rel B F' β' (st.adopt ids an.hp) a w' → Q .normal a' w') : body.wpIn (Fence.wide.inRound lo) n P Q a1 w := by
  refine ev_soundIn (B := entB w F ((β.purge w).sub ids)) (N := ids.length) (k := kGive) hG body l ho Q hQ (fun e st2 a2 w2 F2 β2 hR2 hgn hk2 => ?_) st1 a1 w F _ hR1 ⟨hg1, hn1⟩ run
  cases e with
  | normal =>
    obtain ⟨ha, hl⟩ := give_aft hR2 hk2
    rw [hgn.2] at ha hl
    obtain ⟨F', β', hR', _⟩ := h.purge.adopt hn hlt hl ha
    refine hk a2 w2 F' β' (keepsOthers_of hR2.kept fun p hp => ?_) hR'
    have hp' : ((β.purge w).sub ids).o p ≠ none := hp
    cases hq : ((β.purge w).sub ids).o p with
    | none => exact absurd hq hp'
    | some κ =>
      obtain ⟨b, h1, _⟩ := sub_o.1 hq
      exact (purge_o h1).1
  | exit id => cases hk2
  | ret => cases hk2
def kCap (keep ids : List Nat) : Kn
  | .normal, st => match st.df with
    | [] => some ⟨.tup (({ st with env := clearAt (fgt keep st.env.length 0) 0 st.env } : St).sub ids).env, (({ st with env := clearAt (fgt keep st.env.length 0) 0 st.env } : St).sub ids).heap⟩
    | _ => none
  | _, _ => none
theorem cap_rel (h : Rel B F β st a w) {N : Nat} (hgl : st.gl = GL) (hnp : st.np = N) {keep ids : List Nat} (hn : nodupB ids = true) (hi : St.head.idxs ids N = N) {e : List AV} {hp : List Blk} (hk : kCap keep ids .normal st = some ⟨.tup e, hp⟩) : ∃ β' q, Rel B F β' ⟨e, hp, GL, N, [], q⟩ a w := by
  simp only [kCap] at hk
  split at hk
  · rename_i hd
    simp at hk
    obtain ⟨c1, c2⟩ := clearAt_get (fgt keep st.env.length 0) 0 st.env
    have h1 := (h.forget (e := clearAt (fgt keep st.env.length 0) 0 st.env) c1 c2).sub (nodupB_iff.1 hn) (by show St.head.idxs ids st.np = st.np; rw [hnp]; exact hi)
    exact ⟨_, st.dp, h1.as hk.1.symm hk.2.symm hgl.symm hnp.symm (by show [] = st.df.map _; rw [hd]; rfl)⟩
  · cases hk
theorem stage {H : Hint} (hG : GOk P GL G) {N : Nat} {c : Code} {l : Nat} (ho : okL H l c = true) (hl : labels H l c = []) (h : Rel B F β st a w) (hgl : st.gl = GL) (hnp : st.np = N) {keep ids : List Nat} (hn : nodupB ids = true) (hi : St.head.idxs ids N = N) {e : List AV} {hp : List Blk}
    (run : ev P G H (fun _ _ => none) l c (kCap keep ids) st = some ⟨.tup e, hp⟩) {X : Act → World → Prop} {Q : Exit → Act → World → Prop} (hX : ∀ a' w' F' β' q, Rel B F' β' ⟨e, hp, GL, N, [], q⟩ a' w' → X a' w') : c.wp P (Exit.then X Q) a w := by
  refine ev_sound hG (fun _ _ _ => none) (fun _ _ => rfl) c l ho 1 (fun _ => kCap keep ids) (Exit.then X Q) (fun n _ ex st' a' w' F' β' hR hgn hk => ?_) (fun at_ hat => by
    have := hasLoop_mem H at_ l c hat
    rw [hl] at this
    cases this) 0 (by omega) st a w F β h ⟨hgl, hnp⟩ run
  cases ex with
  | normal =>
    obtain ⟨β2, q, hR2⟩ := cap_rel hR hgn.1 hgn.2 hn hi hk
    exact hX a' w' F' β2 q hR2
  | exit id => cases hk
  | ret => cases hk
end
def Act.on (a : Act) (ds : List Deferred) : Act := { a with defers := a.defers ++ ds }
end Go.Proofs.YtgfifnadfmaolaaGreatDoor
