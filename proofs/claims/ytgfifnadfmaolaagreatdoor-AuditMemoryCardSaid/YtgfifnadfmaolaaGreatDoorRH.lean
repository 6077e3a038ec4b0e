import Derived.Test.YtgfifnadfmaolaaGreatDoorRG
import Derived.Test.YtgfifnadfmaolaaGreatDoorP4
set_option linter.unusedVariables false
set_option linter.unusedSimpArgs false
noncomputable section
namespace Go.Proofs.YtgfifnadfmaolaaGreatDoor
open Go.RowKit
open Classical in
theorem Rel.as {B : Bs} {F : Nat -> Prop} {β : Gh} {st st' : St} {a : Act} {w : World} (h : Rel B F β st a w) (he : st'.env = st.env) (hh : st'.heap = st.heap) (hg : st'.gl = st.gl) (hn : st'.np = st.np) (hd : st'.df = st.df) : Rel B F β st' a w := by
 obtain ⟨e, hp, g, n, d, q⟩ := st
 obtain ⟨e', hp', g', n', d', q'⟩ := st'
 obtain rfl : e' = e := he
 obtain rfl : hp' = hp := hh
 obtain rfl : g' = g := hg
 obtain rfl : n' = n := hn
 obtain rfl : d' = d := hd
 exact ⟨h.len, h.env, h.gl, h.df, h.kept, h.fo, h.fi, h.lo, h.per, h.bn, h.nw, h.hn, h.heap⟩
theorem Rel.forget {B : Bs} {F : Nat -> Prop} {β : Gh} {st : St} {a : Act} {w : World} (h : Rel B F β st a w) {e : List AV} (hl : e.length = st.env.length) (he : ∀ t, e.getD t .undef = .undef ∨ e.getD t .undef = st.env.getD t .undef) : Rel B F β { st with env := e } a w :=
 ⟨hl.trans h.len, fun t => by
  rcases he t with q | q
  . rw [show St.get { st with env := e } t = .undef from q]; exact .undef _
  . rw [show St.get { st with env := e } t = st.get t from q]; exact h.env t, h.gl, h.df, h.kept, h.fo, h.fi, h.lo, h.per, h.bn, h.nw, h.hn, h.heap⟩
theorem Rel.round {B : Bs} {F : Nat -> Prop} {β : Gh} {st : St} {a : Act} {w : World} (h : Rel B F β st a w) {ids : List Nat} (hn : ids.Nodup) (hd : st.df = []) (hb : ∀ j, j < ids.length -> β.l (ids.getD j 0) -> True) : Rel (zl2 w F (β.sub ids)) F (β.sub ids) { st.sub ids with np := ids.length } { a with defers := [] } w := by
 refine ⟨by simp [St.sub, h.len], fun t => ?_, h.gl, ?_, .refl _ _, fun p hp => .inl hp, fun p hp => hp, fun p κ hp => .inl (by show (β.sub ids).o p ≠ none; rw [hp]; simp), .refl _, fun j hj => hj.1, fun b hb => .inl hb, by simp [St.sub, zbs], h.heap.sub hn⟩
 . have := zyd (ids := ids) 9 (h.env t)
   have e : (st.sub ids).get t = (st.get t).mapB (idx ids) 9 := ztn (f := AV.mapB (idx ids) 9) rfl
   show V F w (β.sub ids) ((st.sub ids).get t) _
   rw [e]; exact this
 . show DfOk F w (β.sub ids) (st.df.map _) []
   rw [hd]; trivial
section
variable {P : Program} {GL : List AV} {G : Gam} {B : Bs} {F : Nat -> Prop} {β : Gh} {st : St} {a : Act} {w : World}
def zen (keep ids : List Nat) : Kn
 | .normal, st => match st.df with
  | [] => some ⟨.tup (({ st with env := zbQ (z7 keep st.env.length 0) 0 st.env } : St).sub ids).env, (({ st with env := zbQ (z7 keep st.env.length 0) 0 st.env } : St).sub ids).heap⟩
  | _ => none
 | _, _ => none
theorem zv3 (h : Rel B F β st a w) {N : Nat} (hgl : st.gl = GL) (hnp : st.np = N) {keep ids : List Nat} (hn : ze4 ids = true) (hi : St.head.idxs ids N = N) {e : List AV} {hp : List Blk} (hk : zen keep ids .normal st = some ⟨.tup e, hp⟩) : ∃ β' q, Rel B F β' ⟨e, hp, GL, N, [], q⟩ a w := by
 simp only [zen] at hk
 split at hk
 . rename_i hd
   simp at hk
   obtain ⟨c1, c2⟩ := zfI (z7 keep st.env.length 0) 0 st.env
   have h1 := (h.forget (e := zbQ (z7 keep st.env.length 0) 0 st.env) c1 c2).sub (nodupB_iff.1 hn) (by show St.head.idxs ids st.np = st.np; rw [hnp]; exact hi)
   exact ⟨_, st.dp, h1.as hk.1.symm hk.2.symm hgl.symm hnp.symm (by show [] = st.df.map _; rw [hd]; rfl)⟩
 . cases hk
theorem stage {H : zS} (hG : GOk P GL G) {N : Nat} {c : Code} {l : Nat} (ho : okL H l c = true) (hl : zaY H l c = []) (h : Rel B F β st a w) (hgl : st.gl = GL) (hnp : st.np = N) {keep ids : List Nat} (hn : ze4 ids = true) (hi : St.head.idxs ids N = N) {e : List AV} {hp : List Blk}
 (run : ev P G H (fun _ _ => none) l c (zen keep ids) st = some ⟨.tup e, hp⟩) {X : Act -> World -> Prop} {Q : Exit -> Act -> World -> Prop} (hX : ∀ a' w' F' β' q, Rel B F' β' ⟨e, hp, GL, N, [], q⟩ a' w' -> X a' w') : c.wp P (Exit.then X Q) a w := by
 refine zth hG (fun _ _ _ => none) (fun _ _ => rfl) c l ho 1 (fun _ => zen keep ids) (Exit.then X Q) (fun n _ ex st' a' w' F' β' hR hgn hk => ?_) (fun at_ hat => by
  have := zfS H at_ l c hat
  rw [hl] at this
  cases this) 0 (by omega) st a w F β h ⟨hgl, hnp⟩ run
 cases ex with
 | normal =>
  obtain ⟨β2, q, hR2⟩ := zv3 hR hgn.1 hgn.2 hn hi hk
  exact hX a' w' F' β2 q hR2
 | exit id => cases hk
 | ret => cases hk
end
def Act.on (a : Act) (ds : List Deferred) : Act := { a with defers := a.defers ++ ds }
end Go.Proofs.YtgfifnadfmaolaaGreatDoor
end
