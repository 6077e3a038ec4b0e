/- Rounds of a range over a function: what the evaluator shows of code without loops holds in a round's frame, too. -/
import Derived.Test.YtgfifnadfmaolaaGreatDoorSF
import Derived.RangeFuncOwn
import Derived.RangeFuncMany
import Derived.RangeFuncCalls
import Derived.RangeFuncLeaves
import Derived.TacticsIn
namespace Go.Proofs.YtgfifnadfmaolaaGreatDoor
open Go.RowKit
set_option linter.unusedVariables false
set_option linter.unusedSimpArgs false
theorem rowsIn_of {n : Nat} {P : Program} {lo : Nat} {row : String} {args : Array Value} {w : World} {R : Value → World → Prop} (h : Rows P row args w R) : RowsIn (Fence.wide.inRound lo) n P row args w R := fun c cs _ => by
  obtain ⟨v, w', r, s⟩ := h c cs
  exact ⟨v, w', r, stepsIn_wide.2 s⟩
theorem callsIn_of {n : Nat} {P : Program} {lo : Nat} {f : FuncId} {args : Array Value} {w : World} {R : Ending → World → Prop} (h : Calls P f args w R) : CallsIn (Fence.wide.inRound lo) n P f args w R := (callsIn_wide (n := n)).2 h
theorem op_in {P : Program} {o : Oper} {a : Act} {w : World} {next next' : Act → World → Prop} {Q : Exit → Act → World → Prop} {lo n : Nat} (hd : ∀ c, o.op ≠ .defer c) (hn : ∀ a w, next a w → next' a w) (h : o.wp P a w next Q) : o.wpIn (Fence.wide.inRound lo) n P a w next' Q := by
  refine ⟨fun f _ => trivial, ?_⟩
  show o.uponIn (Fence.wide.inRound lo) n P a next' Q ((o.semAt (some lo) a.eval).run P w)
  rw [Oper.semAt_some lo _ _ hd]
  unfold Oper.wp at h
  generalize (execOp a.eval o).run P w = res at *
  unfold Oper.upon at h
  unfold Oper.uponIn
  split at h
  · exact hn _ _ h
  · exact hn _ _ h
  · exact hn _ _ h
  · dsimp only
    refine ⟨fun hh => by simp [Fence.wide, Fence.inRound] at hh, CallsIn.mono (callsIn_of h) fun e w' he => ?_⟩
    cases e with
    | returned v => exact hn _ _ he
    | panicked ch => exact he
    | outgrown => exact he
  · dsimp only
    exact ⟨fun hh => by simp [Fence.wide, Fence.inRound] at hh, RowsIn.mono (rowsIn_of h) fun v w' he => hn _ _ he⟩
  · exact h
  · exact h.elim
def noDefer (o : Oper) : Bool := match o.op with | .defer _ => false | _ => true
theorem noDefer_ne {o : Oper} (h : noDefer o = true) : ∀ c, o.op ≠ .defer c := fun c e => by unfold noDefer at h; rw [e] at h; cases h
theorem list_in {P : Program} {ops : Array Oper} {Q : Exit → Act → World → Prop} {lo n : Nat} (hQ : ¬ LetsOut Q) : ∀ (l : List Oper), l.all noDefer = true → ∀ a w, wpList P ops Q l a w → wpListIn (Fence.wide.inRound lo) n P ops Q l a w
  | [], _, _, _, h => h
  | o :: l, hd, a, w, h => by
    rw [List.all_cons, Bool.and_eq_true] at hd
    unfold wpList at h
    unfold wpListIn
    split at h
    · rename_i hw
      rw [if_pos hw]
      rcases h with h | h
      · exact op_in (noDefer_ne hd.1) (fun a w => list_in hQ l hd.2 a w) h
      · exact absurd h.2 hQ
    · rename_i hw
      rw [if_neg hw]
      exact ⟨fun f _ => trivial, list_in hQ l hd.2 _ _ h⟩
theorem op_w {P : Program} {o : Oper} {a : Act} {w : World} {next next' : Act → World → Prop} {Q : Exit → Act → World → Prop} {n : Nat} (hn : ∀ a w, next a w → next' a w) (h : o.wp P a w next Q) : o.wpIn Fence.wide n P a w next' Q := by
  refine ⟨fun f _ => trivial, ?_⟩
  show o.uponIn Fence.wide n P a next' Q ((execOp a.eval o).run P w)
  unfold Oper.wp at h
  generalize (execOp a.eval o).run P w = res at *
  unfold Oper.upon at h
  unfold Oper.uponIn
  split at h
  · exact hn _ _ h
  · exact hn _ _ h
  · exact hn _ _ h
  · dsimp only
    refine ⟨fun hh => by simp [Fence.wide] at hh, CallsIn.mono ((callsIn_wide (n := n - 1)).2 h) fun e w' he => ?_⟩
    cases e with
    | returned v => exact hn _ _ he
    | panicked ch => exact he
    | outgrown => exact he
  · dsimp only
    exact ⟨fun hh => by simp [Fence.wide] at hh, RowsIn.mono (rowsIn_of (lo := 0) h) fun v w' he => hn _ _ he⟩
  · exact h
  · exact h.elim
def okIn (H : Hint) : Code → Bool
  | .skip => true
  | .region id ops false => !(H.cut id) && ops.toList.all noDefer
  | .seq a b => okIn H a && okIn H b
  | .cond _ a b => okIn H a && okIn H b
  | .block _ c => okIn H c
  | .exit _ => true
  | .ret => true
  | _ => false
section
variable {P : Program} {GL : List AV} {G : Gam} {B : Bs}
theorem letsOut_then {X : Act → World → Prop} {Q : Exit → Act → World → Prop} (h : ¬ LetsOut Q) : ¬ LetsOut (Exit.then X Q) := fun ⟨a, w, q⟩ => h ⟨a, w, q⟩
theorem letsOut_blk {id : Nat} {Q : Exit → Act → World → Prop} (h : ¬ LetsOut Q) : ¬ LetsOut (Exit.inBlock id Q) := fun ⟨a, w, q⟩ => h ⟨a, w, q⟩
theorem ev_soundIn {H : Hint} {J : Jmp} (hG : GOk P GL G) {N : Nat} {r : Ans} {lo n : Nat} : ∀ (c : Code) (l : Nat), okIn H c = true → ∀ (k : Kn) (Q : Exit → Act → World → Prop), ¬ LetsOut Q → Mt B GL N r k Q →
    ∀ st a w F β, Rel B F β st a w → (st.gl = GL ∧ st.np = N) → ev P G H J l c k st = some r → c.wpIn (Fence.wide.inRound lo) n P Q a w := by
  intro c
  induction c with
  | skip => intro l _ k Q _ hk st a w F β h hgl hr; exact wpIn_skip (hk .normal st a w F β h hgl hr)
  | region id ops draw =>
    intro l ho k Q hQ hk st a w F β h hgl hr
    cases draw with
    | true => cases ho
    | false =>
      simp only [okIn, Bool.and_eq_true, Bool.not_eq_true'] at ho
      simp only [ev, ho.1] at hr
      refine wpIn_region_list (list_in hQ _ ho.2 _ _ ?_)
      have := evOps_sound hG ops.toList (Q := Q) (k := k .normal) N (fun st' a' w' F' β' hR hgl' hnp' hk' => hk .normal st' a' w' F' β' hR ⟨hgl', hnp'⟩ hk') ops.toList F β st a w h hgl.1 hgl.2 hr
      simpa using this
  | seq x y ihx ihy =>
    intro l ho k Q hQ hk st a w F β h hgl hr
    simp only [okIn, Bool.and_eq_true] at ho
    refine wpIn_seq (ihx l ho.1 (seqK (ev P G H J l y k) k) _ (letsOut_then hQ) (fun e st a w F β hR hgl hk' => ?_) st a w F β h hgl hr)
    cases e with
    | normal => exact ihy l ho.2 k Q hQ hk st a w F β hR hgl hk'
    | exit id => exact hk (.exit id) st a w F β hR hgl hk'
    | ret => exact hk .ret st a w F β hR hgl hk'
  | cond c x y ihx ihy =>
    intro l ho k Q hQ hk st a w F β h hgl hr
    simp only [okIn, Bool.and_eq_true] at ho
    simp only [ev] at hr
    split at hr
    · rename_i t hc
      have hv := h.ev c; rw [hc] at hv
      have hset : st.setOp c t = st := by
        unfold St.setOp
        split
        · exact set_get hc
        · rfl
      cases t with
      | true =>
        rw [hset] at hr
        exact wpIn_cond_true (V_v hv) (ihx l ho.1 k Q hQ hk st a w F β h hgl hr)
      | false =>
        rw [hset] at hr
        exact wpIn_cond_false (V_v hv) (ihy l ho.2 k Q hQ hk st a w F β h hgl hr)
    · cases hr
  | block id c ih =>
    intro l ho k Q hQ hk st a w F β h hgl hr
    exact wpIn_block (ih id ho (inBlk id k) _ (letsOut_blk hQ) (inBlk_mt hk) st a w F β h hgl hr)
  | exit id => intro l _ k Q _ hk st a w F β h hgl hr; exact wpIn_exit (hk (.exit id) st a w F β h hgl hr)
  | ret => intro l _ k Q _ hk st a w F β h hgl hr; exact wpIn_ret (hk .ret st a w F β h hgl hr)
  | loop => intro l ho; cases ho
  | rangeFunc => intro l ho; cases ho
  | scope => intro l ho; cases ho
  | label => intro l ho; cases ho
  | goto => intro l ho; cases ho
  | refuse => intro l ho; cases ho
theorem ops_w {α : Type} (hG : GOk P GL G) (l : List Oper) {Q : Exit → Act → World → Prop} {k : St → Option α} {r : α} {n : Nat} (N : Nat) (more : List Oper) (hk : ∀ st' a' w' F' β', Rel B F' β' st' a' w' → st'.gl = GL → st'.np = N → k st' = some r → wpListIn Fence.wide n P l.toArray Q more a' w') :
    ∀ (rest : List Oper) (F : Nat → Prop) (β : Gh) (st : St) (a : Act) (w : World), Rel B F β st a w → st.gl = GL → st.np = N → evOps P G l rest st k = some r → wpListIn Fence.wide n P l.toArray Q (rest ++ more) a w
  | [], F, β, st, a, w, h, hgl, hnp, hr => hk _ _ _ _ _ h hgl hnp hr
  | o :: rest, F, β, st, a, w, h, hgl, hnp, hr => by
    have ih := ops_w hG l N more hk rest
    rw [List.cons_append]
    refine wpListIn_step fun K hK => ?_
    simp only [evOps] at hr
    split at hr
    · rename_i hg
      rw [if_pos (by simp [Region.wanted, hg])]
      exact op_w hK (evOp_sound hG h hgl hr fun st' a' w' F' β' hR hA _ hk' => ih F' β' st' a' w' hR (hA.1.trans hgl) (hA.2.1.trans hnp) hk')
    · rename_i j want hg
      split at hr
      · rename_i d hd
        split at hr
        · rename_i t hs
          have hw := wanted_of h hg hd hs
          have hsame : ∀ t', t = t' → st.set d (.v (.bool t')) = st := fun t' e => set_get (by rw [hs, e])
          have go : (cond (t == want) (evOp P G (st.set d (.v (.bool want))) o fun st => evOps P G l rest st k) (evOps P G l rest ((st.set d (.v (.bool (!want)))).put o.dst skipV) k)) = some r := by
            cases want <;> cases t <;> exact hr
          rw [hw]
          cases hq : (t == want) with
          | true =>
            rw [hq] at go
            have e : t = want := by simpa using hq
            rw [hsame want e, cond_true] at go
            rw [if_pos rfl]
            exact op_w hK (evOp_sound hG h hgl go fun st' a' w' F' β' hR hA _ hk' => ih F' β' st' a' w' hR (hA.1.trans hgl) (hA.2.1.trans hnp) hk')
          | false =>
            rw [hq] at go
            have e : t = !want := by cases t <;> cases want <;> simp_all
            rw [hsame (!want) e, cond_false] at go
            rw [if_neg (by simp)]
            have hA := al_put st o.dst skipV
            exact ⟨fun f _ => trivial, hK _ _ (ih F β _ _ w (skip_put h o.dst) (hA.1.trans hgl) (hA.2.1.trans hnp) go)⟩
        · rename_i q hs
          rw [wanted_not h hg hd hs, if_neg (by simp)]
          have hA := al_put st o.dst skipV
          exact ⟨fun f _ => trivial, hK _ _ (ih F β _ _ w (skip_put h o.dst) (hA.1.trans hgl) (hA.2.1.trans hnp) hr)⟩
        · cases hr
      · cases hr
end
end Go.Proofs.YtgfifnadfmaolaaGreatDoor
