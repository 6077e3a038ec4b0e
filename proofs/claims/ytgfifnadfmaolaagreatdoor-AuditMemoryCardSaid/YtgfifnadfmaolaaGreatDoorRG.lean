import Derived.Test.YtgfifnadfmaolaaGreatDoorR
import Derived.RangeFuncFrom
set_option linter.unusedVariables false
set_option linter.unusedSimpArgs false
noncomputable section
namespace Go.Proofs.YtgfifnadfmaolaaGreatDoor
open Go.RowKit
structure CellsAs (w w' : World) : Prop where
 size : w.heap.size <= w'.heap.size
 block : ∀ (p : Nat) (c : Array Value) (e : TypeId) (k : Nat × Nat), w.heap[p]? = some (Obj.cells c e k) -> w'.heap[p]? = some (Obj.cells c e k)
theorem CellsAs.cell {w w' : World} (h : CellsAs w w') {a : Addr} {y : Value} (hy : w.cell? a = some y) : w'.cell? a = some y := by
 unfold World.cell? at hy ⊢
 split at hy
 . rename_i c e k hb
   rw [h.block _ _ _ _ hb]
   exact hy
 . cases hy
theorem CellsAs.of_grownBy {w w' : World} {row : Option Nat} (hg : w.grownBy w' row) (hr : ∀ r, row = some r -> ∃ o : Obj, w.heap[r]? = some o /\ o.isCells = false) : CellsAs w w' :=
 ⟨hg.size, fun p c e k hp => by
  rw [hg.block p (Array.getElem?_eq_some_iff.1 hp).1 fun hne => by
   obtain ⟨o, ho, hc⟩ := hr p hne.symm
   rw [hp] at ho
   cases ho
   cases hc]
  exact hp⟩
theorem CellsAs.owns {w w' : World} (hE : CellsAs w w') {e sz n : Nat} {v : Value} {Vs : List Value} (h : w.ownsRow 0 e sz v n Vs) : w'.ownsRow 0 e sz v n Vs := by
 refine ⟨h.1, ?_⟩
 rcases h.2 with h0 | ⟨g, cap, cur, hv, hg, hh, hr⟩
 . exact .inl h0
 . exact .inr ⟨g, cap, cur, hv, hg, hE.block _ _ _ _ hh, hr⟩
theorem V.cells {F : Nat -> Prop} {w w' : World} {β : Gh} (hE : CellsAs w w') {x : AV} {y : Value} (h : V F w β x y) : V F w' β x y := by
 induction h with
 | undef y => exact .undef y
 | v x => exact .v x
 | agg cs ys hl _ ih => exact .agg cs ys hl ih
 | tup cs ys hl _ ih => exact .tup cs ys hl ih
 | sl0 t A c => exact .sl0 t A c
 | sl t xs b o c Y hF hb hl hcap hc _ ih => exact .sl t xs b o c Y hF (Nat.lt_of_lt_of_le hb hE.size) hl hcap (fun i j hi hj => hE.cell (hc i j hi hj)) ih
 | op0 t => exact .op0 t
 | op t x b o Y hF hb hc _ ih => exact .op t x b o Y hF (Nat.lt_of_lt_of_le hb hE.size) (fun j hj => hE.cell (hc j hj)) ih
 | el t xs i off b o Y hi hF hb hc _ ih => exact .el t xs i off b o Y hi hF (Nat.lt_of_lt_of_le hb hE.size) (fun j hj => hE.cell (hc j hj)) ih
 | ref b off hb => exact .ref b off hb
 | own b hb A n c hv => exact .own b hb A n c hv
 | oel b sz i off p n c hb hv hi => exact .oel b sz i off p n c hb hv hi
 | rex b o0 t m i d hb hi => exact .rex b o0 t m i d hb hi
 | vw b sz o n c' A hb hc hv => exact .vw b sz o n c' A hb hc hv
 | fn f as cs ya yc hla hlc _ _ iha ihc => exact .fn f as cs ya yc hla hlc iha ihc
 | clo c y _ ih => exact .clo c y ih
 | ifc t x y _ ih => exact .ifc t x y ih
theorem CellOk.cells {F : Nat -> Prop} {w w' : World} {β : Gh} (hE : CellsAs w w') {b i j : Nat} {cols : List (Nat × TypeId)} {hole : Option (Nat × Nat)} {x : AV} {v : Value} (h : CellOk F w β b cols hole i j x v) : CellOk F w' β b cols hole i j x v := by
 unfold CellOk at h ⊢
 split at h
 . exact V.cells hE h
 . rcases h with h | ⟨t, ys, Vs, h1, h2, h3, h4, h5⟩
   . exact .inl h
   . exact .inr ⟨t, ys, Vs, h1, hE.owns h2, h3, h4, fun k m hk hm => V.cells hE (h5 k m hk hm)⟩
theorem BlkOk.cells {F : Nat -> Prop} {w w' : World} {β : Gh} (hE : CellsAs w w') {b : Nat} {k : Blk} (h : BlkOk F w β b k) : BlkOk F w' β b k := by
 cases k with
 | cells e cs =>
  obtain ⟨ys, T, h1, h2, h3, h4⟩ := h
  exact ⟨ys, T, hE.block _ _ _ _ h1, h2, h3, fun j hj => (h4 j hj).cells hE⟩
 | row e t cols hole xs =>
  obtain ⟨Vs, h1, h2, h3, h4⟩ := h
  exact ⟨Vs, hE.owns h1, h2, h3, fun i j hi hj => (h4 i j hi hj).cells hE⟩
 | ro t xs => exact V.cells hE (show D F w (.sl t xs) (β.v b) from h)
 | rob t x => exact V.cells hE (show D F w (.op t (some x)) (.pointer (some ⟨β.b b, 0, none⟩)) from h)
 | dead => trivial
theorem Rel.grownBy {B : Bs} {F : Nat -> Prop} {β : Gh} {st : St} {a : Act} {w w' : World} {row : Option Nat} (h : Rel B F β st a w) (hg : w.grownBy w' row) (hr : ∀ r, row = some r -> B.w.heap.size <= r /\ ∃ o : Obj, w.heap[r]? = some o /\ o.isCells = false) : Rel B F β st a w' := by
 have hE : CellsAs w w' := .of_grownBy hg fun r e => (hr r e).2
 have hv : ∀ {x y}, V F w β x y -> V F w' β x y := fun h => V.cells hE h
 exact ⟨h.len, fun t => hv (h.env t), fun g => V.cells hE (h.gl g), h.df.imp fun _ _ => hv,
  ⟨hg.os.trans h.kept.os, hg.tape.trans h.kept.tape, hg.output.trans h.kept.output, Nat.le_trans h.kept.size hg.size, fun p hp hn => by
   rw [hg.block p (Nat.lt_of_lt_of_le hp h.kept.size) fun e => by have := (hr p e.symm).1; omega]
   exact h.kept.block p hp hn⟩,
  h.fo, h.fi, h.lo, h.per, h.bn, h.nw, h.hn,
  ⟨fun p hF => Nat.lt_of_lt_of_le (h.heap.fb p hF) hg.size, fun b k hk => (h.heap.blk b k hk).cells hE, fun p κ hp => Nat.lt_of_lt_of_le (h.heap.lt p κ hp) hg.size, h.heap.sep, h.heap.live⟩⟩
end Go.Proofs.YtgfifnadfmaolaaGreatDoor
end
