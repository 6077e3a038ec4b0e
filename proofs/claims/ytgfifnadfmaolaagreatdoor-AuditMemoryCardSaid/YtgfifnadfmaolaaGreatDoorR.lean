import Derived.Test.YtgfifnadfmaolaaGreatDoorSF
import Derived.RangeFuncOwn
import Derived.RangeFuncMany
import Derived.RangeFuncCalls
import Derived.RangeFuncLeaves
import Derived.TacticsIn
set_option linter.unusedVariables false
set_option linter.unusedSimpArgs false
noncomputable section
namespace Go.Proofs.YtgfifnadfmaolaaGreatDoor
open Go.RowKit
theorem zz0 {n : Nat} {P : Program} {lo : Nat} {row : String} {args : Array Value} {w : World} {R : Value -> World -> Prop} (h : Rows P row args w R) : RowsIn (Fence.wide.inRound lo) n P row args w R := fun c cs _ => by
 obtain ⟨v, w', r, s⟩ := h c cs
 exact ⟨v, w', r, stepsIn_wide.2 s⟩
theorem zGs {P : Program} {o : Oper} {a : Act} {w : World} {next next' : Act -> World -> Prop} {Q : Exit -> Act -> World -> Prop} {n : Nat} (hn : ∀ a w, next a w -> next' a w) (h : o.wp P a w next Q) : o.wpIn Fence.wide n P a w next' Q := by
 refine ⟨fun f _ => trivial, ?_⟩
 show o.uponIn Fence.wide n P a next' Q ((execOp a.eval o).run P w)
 unfold Oper.wp at h
 generalize (execOp a.eval o).run P w = res at *
 unfold Oper.upon at h
 unfold Oper.uponIn
 split at h
 . exact hn _ _ h
 . exact hn _ _ h
 . exact hn _ _ h
 . dsimp only
   refine ⟨fun hh => by simp [Fence.wide] at hh, CallsIn.mono ((callsIn_wide (n := n - 1)).2 h) fun e w' he => ?_⟩
   cases e with
   | returned v => exact hn _ _ he
   | panicked ch => exact he
   | outgrown => exact he
 . dsimp only
   exact ⟨fun hh => by simp [Fence.wide] at hh, RowsIn.mono (zz0 (lo := 0) h) fun v w' he => hn _ _ he⟩
 . exact h
 . exact h.elim
section
variable {P : Program} {GL : List AV} {G : Gam} {B : Bs}
theorem zJP {α : Type} (hG : GOk P GL G) (l : List Oper) {Q : Exit -> Act -> World -> Prop} {k : St -> Option α} {r : α} {n : Nat} (N : Nat) (more : List Oper) (hk : ∀ st' a' w' F' β', Rel B F' β' st' a' w' -> st'.gl = GL -> st'.np = N -> k st' = some r -> wpListIn Fence.wide n P l.toArray Q more a' w') :
 ∀ (rest : List Oper) (F : Nat -> Prop) (β : Gh) (st : St) (a : Act) (w : World), Rel B F β st a w -> st.gl = GL -> st.np = N -> zbD P G l rest st k = some r -> wpListIn Fence.wide n P l.toArray Q (rest ++ more) a w
 | [], F, β, st, a, w, h, hgl, hnp, hr => hk _ _ _ _ _ h hgl hnp hr
 | o :: rest, F, β, st, a, w, h, hgl, hnp, hr => by
  have ih := zJP hG l N more hk rest
  rw [List.cons_append]
  refine wpListIn_step fun K hK => ?_
  simp only [zbD] at hr
  split at hr
  . rename_i hg
    rw [if_pos (by simp [Region.wanted, hg])]
    exact zGs hK (zdR hG l h hgl hr fun st' a' w' F' β' hR hA _ hk' => ih F' β' st' a' w' hR (hA.1.trans hgl) (hA.2.1.trans hnp) hk')
  . rename_i j want hg
    split at hr
    . rename_i d hd
      split at hr
      . rename_i t hs
        have hw := zgH h hg hd hs
        have hsame : ∀ t', t = t' -> st.set d (.v (.bool t')) = st := fun t' e => zkZ (by rw [hs, e])
        have go : (cond (t == want) (zl4 P G l (st.set d (.v (.bool want))) o fun st => zbD P G l rest st k) (zbD P G l rest ((st.set d (.v (.bool (!want)))).put o.dst zcp) k)) = some r := by
         cases want <;> cases t <;> exact hr
        rw [hw]
        cases hq : (t == want) with
        | true =>
         rw [hq] at go
         have e : t = want := by simpa using hq
         rw [hsame want e, cnT] at go
         rw [if_pos rfl]
         exact zGs hK (zdR hG l h hgl go fun st' a' w' F' β' hR hA _ hk' => ih F' β' st' a' w' hR (hA.1.trans hgl) (hA.2.1.trans hnp) hk')
        | false =>
         rw [hq] at go
         have e : t = !want := by cases t <;> cases want <;> simp_all
         rw [hsame (!want) e, cnF] at go
         rw [if_neg (by simp)]
         have hA := zbq st o.dst zcp
         exact ⟨fun f _ => trivial, hK _ _ (ih F β _ _ w (zf4 h o.dst) (hA.1.trans hgl) (hA.2.1.trans hnp) go)⟩
      . rename_i q hs
        rw [zhx h hg hd hs, if_neg (by simp)]
        have hA := zbq st o.dst zcp
        exact ⟨fun f _ => trivial, hK _ _ (ih F β _ _ w (zf4 h o.dst) (hA.1.trans hgl) (hA.2.1.trans hnp) hr)⟩
      . cases hr
    . cases hr
end
end Go.Proofs.YtgfifnadfmaolaaGreatDoor
end
