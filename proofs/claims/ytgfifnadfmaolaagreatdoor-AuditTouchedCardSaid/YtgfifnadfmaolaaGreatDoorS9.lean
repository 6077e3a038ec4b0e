/- The soundness of the abstract evaluator, part 9: operations; regions in the order of the text. -/
import Derived.Test.YtgfifnadfmaolaaGreatDoorS8
namespace Go.Proofs.YtgfifnadfmaolaaGreatDoor
open Go.RowKit
set_option linter.unusedVariables false
set_option linter.unusedSimpArgs false
section
variable {P : Program} {GL : List AV} {G : Gam} {B : Bs} {F : Nat → Prop} {β : Gh} {st : St} {a : Act} {w : World}
theorem al_heap (st : St) (hp : List Blk) (h : st.heap.length ≤ hp.length) : Al st { st with heap := hp } := ⟨rfl, rfl, h⟩
theorem al_df (st : St) (l : List (FuncId × List AV)) : Al st { st with df := l } := ⟨rfl, rfl, Nat.le_refl _⟩
theorem put_V {F' : Nat → Prop} {w' : World} {β' : Gh} {st' : St} (h : Rel B F' β' st' a w') (d : Option Nat) (y : Value) : Rel B F' β' (st'.put d .undef) (a.put d y) w' := h.put d (.undef y)
theorem evOp_sound {α : Type} (hG : GOk P GL G) (h : Rel B F β st a w) (hgl : st.gl = GL) {o : Oper} {k : St → Option α} {r : α} (hr : evOp P G st o k = some r) {next : Act → World → Prop} {Q : Exit → Act → World → Prop}
    (hk : ∀ st' a' w' F' β', Rel B F' β' st' a' w' → Al st st' → (isDefer o = false → ∃ y, a' = a.put o.dst y) → k st' = some r → next a' w') : o.wp P a w next Q := by
  have val : ∀ {st' : St} {w' : World} {F' : Nat → Prop} {β' : Gh} {y : Value}, Rel B F' β' st' (a.put o.dst y) w' → Al st st' → k st' = some r → next (a.put o.dst y) w' := fun hR hA hkk => hk _ _ _ _ _ hR hA (fun _ => ⟨_, rfl⟩) hkk
  have telling : evT P st o (fun x => k (st.put o.dst x)) = some r → o.wp P a w next Q := fun hr => by
    obtain ⟨x, ⟨y, hy, hrun⟩, hkx⟩ := evT_sound h hr
    exact wp_value hrun (val (h.put o.dst hy) (al_put _ _ _) hkx)
  unfold evOp at hr
  split at hr
  · rename_i t ad hop
    split at hr
    · rename_i b sz i off hb
      unfold evTake at hr
      split at hr
      · rename_i e ty cols hole xs hrw
        split at hr
        · rename_i e' hc
          split at hr
          · rename_i e2 t' ys hs hu hx
            split at hr
            · rename_i he ha
              have he' := Nat.eq_of_beq_eq_true he
              subst he'
              exact take_sound h hop hb hrw hc (Nat.eq_of_beq_eq_true hs) ha hx fun u w' β' hR => val hR (Al.trans (al_heap _ _ (by simp)) (al_put _ _ _)) hr
            · cases hr
          · cases hr
        · exact telling hr
      · exact telling hr
    · exact telling hr
  · rename_i t x hop
    split at hr
    · rename_i cs hcs
      obtain ⟨h1, h2⟩ := V_cells (h.ev x) hcs
      have hR := h.alloc (e := t) t h1 (fun j hj => (h2 j hj).1) o.dst
      exact wp_value (w' := w.alloc (.cells (a.eval x).cells t)) (by simp [execOp, hop, Instr.box, newVar, newRow, newObj, Sem.run, Sem.run_bind]) (val hR (Al.trans (al_heap _ _ (by simp)) (al_put _ _ _)) hr)
    · cases hr
  · rename_i t hop
    split at hr
    · rename_i z hz
      obtain ⟨i, zv, hi, hzv, rfl⟩ := zero_info hz
      have hR := h.alloc (e := t) (cs := zv.cells.toList.map AV.v) (ys := zv.cells) t (by simp) (fun j hj => (by
        have hj' : j < zv.cells.size := by simpa using hj
        simp only [List.getD, List.getElem?_map, Array.getElem?_toList, hj', Array.getElem?_eq_getElem, Option.map_some, Option.getD_some, Array.getD, dite_true]
        exact .v _)) o.dst
      exact wp_value (w' := w.alloc (.cells zv.cells t)) (by simp [execOp, hop, Instr.alloc, zeroValue, typeInfo, hi, hzv, newVar, newRow, newObj, Sem.run, Sem.run_bind, run_program]) (val hR (Al.trans (al_heap _ _ (by simp)) (al_put _ _ _)) hr)
    · cases hr
  · rename_i t ad x hop
    split at hr
    · rename_i b off x0 xs hb hxs
      split at hr
      · rename_i e cs hcs hsz
        split at hr
        · rename_i cs' hw
          have hv := h.ev ad; rw [hb] at hv
          obtain ⟨hbm, hp⟩ := V_ref hv
          obtain ⟨g1, g2⟩ := V_cells (h.ev x) hxs
          have hsz' : (x0 :: xs).length = P.cellsOf t := Nat.eq_of_beq_eq_true hsz
          obtain ⟨i, hi, his⟩ := info_of hsz'.symm (by simp)
          obtain ⟨w', hrun, hR⟩ := h.store hcs hw (by simp) (vs := (a.eval x).cells.toList) (by simpa using g1) (fun j hj => by rw [toL_getD]; exact (g2 j hj).1) (fun v hv => by
            obtain ⟨j, hj, rfl⟩ := List.getElem_of_mem hv
            have hj' : j < (a.eval x).cells.size := by simpa using hj
            have := (g2 j (by omega)).2
            simpa [Array.getD, hj'] using this) P
          have hrun' : (execOp a.eval o).run P w = .ok .skip w' := by
            simp [execOp, hop, hp, Instr.storeAt, Instr.sureAddr, storeVar, Sem.run_bind, run_sizeOf hi w, his, g1, hrun]
          unfold Oper.wp
          rw [hrun', Oper.upon_skip]
          exact val (put_V hR o.dst undef) (Al.trans (al_heap _ _ (by simp)) (al_put _ _ _)) hr
        · cases hr
      · cases hr
    · rename_i b sz i off x0 xs hb hxs
      split at hr
      · rename_i e ty cols hole ys hrw hsz
        unfold evStoreD at hr
        split at hr
        · rename_i e' hc
          split at hr
          · rename_i n i' off'
            split at hr
            · rename_i e2 t' zs hn hs
              split at hr
              · rename_i cs' he hw
                split at hr
                · rename_i y hd
                  cases hii : Nat.beq i i' with
                  | false => rw [hii] at hr; cases hr
                  | true =>
                    rw [hii] at hr
                    simp only [Bool.and_eq_true] at hs
                    have h1 := Nat.eq_of_beq_eq_true hii
                    have h2 := Nat.eq_of_beq_eq_true hs.1
                    have h3 := Nat.eq_of_beq_eq_true he
                    subst h1; subst h2; subst h3
                    exact storeSub_sound h hop hb hxs hrw hn hc (Nat.eq_of_beq_eq_true hsz) (Nat.eq_of_beq_eq_true hs.2) hw hd fun u w' β' hR => val hR (Al.trans (al_heap _ _ (by simp)) (al_put _ _ _)) hr
                · cases hr
              · cases hr
            · cases hr
          · cases hr
        · rename_i hc
          split at hr
          · rename_i zs st1 hs hz
            split at hr
            · rename_i e2 t2 cols2 hole2 ys2 cs' hr1 hw
              split at hr
              · rename_i y hd
                simp only [Bool.and_eq_true] at hs
                exact storeEl_sound h hop hb (by simp) hxs hrw (Nat.eq_of_beq_eq_true hsz) (Nat.eq_of_beq_eq_true hs.2) hs.1 hz hr1 hw hd fun u w' F' β' hR hA => val hR (hA.trans (Al.trans (al_heap _ _ (by simp)) (al_put _ _ _))) hr
              · cases hr
            · cases hr
          · cases hr
      · cases hr
    · rename_i b o0 ty m i d x0 xs hb hxs
      split at hr
      · rename_i e cs hcs hsz
        unfold evStoreX at hr
        split at hr
        · rename_i ys zs st1 hys hz
          split at hr
          · rename_i e2 c2 cs' hr1 hw
            split at hr
            · rename_i y hd
              split at hr
              · rename_i cs2 hw2
                exact storeX_sound h hop hb (by simp) hxs hcs (Nat.eq_of_beq_eq_true hsz) hys hz hr1 hw hd hw2 fun u w' F' β' hR hA => val hR (hA.trans (Al.trans (al_heap _ _ (by simp)) (al_put _ _ _))) hr
              · cases hr
            · cases hr
          · cases hr
        · cases hr
      · cases hr
    · cases hr
  · rename_i t l c hop
    split at hr
    · rename_i e n m hu hl hc
      split at hr
      · rename_i ty z i hty hz hi
        split at hr
        · rename_i x bt hx hs hb
          cases hcd : (decide (n = m) && decide (0 ≤ n) && leB (n.toNat * i.bytes) 140737488355328) with
          | false => rw [hcd] at hr; cases hr
          | true =>
            rw [hcd] at hr
            simp only [Bool.and_eq_true, decide_eq_true_eq, leB, Nat.ble_eq] at hcd
            obtain ⟨⟨rfl, h0⟩, hle⟩ := hcd
            simp only [Bool.and_eq_true] at hs
            exact make_sound h hop hu hl hc hz hi hx (Nat.eq_of_beq_eq_true hs.1) (by omega) h0 hle hs.2 fun u w' β' hR => val hR (al_push _ _ _) hr
        · cases hr
      · cases hr
    · cases hr
  · rename_i t len parts hop
    split at hr
    · rename_i e hu
      split at hr
      · rename_i ty z i hty hz hi
        split at hr
        · rename_i cs hs hle hf
          split at hr
          · rename_i zs st1 hzr
            split at hr
            · rename_i xs hd hcl
              simp only [Bool.and_eq_true] at hs
              exact lit_sound h hop hu hz hi (Nat.eq_of_beq_eq_true hs.1) (Nat.le_of_ble_eq_true hle) hf hzr hd (Nat.eq_of_beq_eq_true hs.2) hcl fun u w' F' β' hR hA => val hR (hA.trans (al_push _ _ _)) hr
            · cases hr
          · cases hr
        · cases hr
      · cases hr
    · cases hr
  · rename_i args tys hop
    split at hr
    · rename_i s x t t' hx ht
      split at hr
      · rename_i e hu
        split at hr
        · rename_i ty z i hty hz hi
          split at hr
          · rename_i bt xs st1 htt hs hb h1
            split at hr
            · rename_i hdp
              rw [hdp] at h1
              split at hr
              · rename_i ys h2
                cases hcd : leB ((xs.length + ys.length) * i.bytes) 140737488355328 with
                | false => rw [hcd] at hr; cases hr
                | true =>
                  rw [hcd] at hr
                  simp only [leB, Nat.ble_eq] at hcd
                  simp only [Bool.and_eq_true] at hs
                  have e1 : args = #[s, x] := by apply Array.ext'; simpa using hx
                  have e2 : tys = #[t, t'] := by apply Array.ext'; simpa using ht
                  have e3 : t = t' := Nat.eq_of_beq_eq_true htt
                  subst e1 e2 e3
                  obtain ⟨i', zv, hi', hzv, rfl⟩ := zero_info hz
                  obtain rfl : i = i' := by rw [hi] at hi'; simpa using hi'
                  exact app_sound h hop hu hi (Nat.eq_of_beq_eq_true hs.1) (by omega) hzv (by simpa using Nat.eq_of_beq_eq_true hs.2) h1 h2 hcd fun u w' β' hR hA => val hR (hA.trans (al_push _ _ _)) hr
              · cases hr
            · rename_i c cols hdp
              rw [hdp] at h1
              split at hr
              · rename_i ys st2 h2
                cases hcd : leB ((xs.length + ys.length) * i.bytes) 140737488355328 with
                | false => rw [hcd] at hr; cases hr
                | true =>
                  rw [hcd] at hr
                  simp only [leB, Nat.ble_eq] at hcd
                  simp only [Bool.and_eq_true] at hs
                  have e1 : args = #[s, x] := by apply Array.ext'; simpa using hx
                  have e2 : tys = #[t, t'] := by apply Array.ext'; simpa using ht
                  have e3 : t = t' := Nat.eq_of_beq_eq_true htt
                  subst e1 e2 e3
                  obtain ⟨i', zv, hi', hzv, rfl⟩ := zero_info hz
                  obtain rfl : i = i' := by rw [hi] at hi'; simpa using hi'
                  exact appD_sound h hop hu hi (Nat.eq_of_beq_eq_true hs.1) (by omega) hzv (by simpa using Nat.eq_of_beq_eq_true hs.2) h1 h2 hcd fun u w' β' hR hA => val hR (hA.trans (al_push _ _ _)) hr
              · cases hr
          · rename_i bt xs st1 htt hs hb h1
            split at hr
            · rename_i kn kq n x0 hu' hxe hdp hx0
              rw [hdp] at h1
              cases hcd : (decide (0 < n) && leB ((xs.length + n.toNat) * i.bytes) 140737488355328) with
              | false => rw [hcd] at hr; cases hr
              | true =>
                rw [hcd] at hr
                simp only [Bool.and_eq_true, decide_eq_true_eq, leB, Nat.ble_eq] at hcd
                simp only [Bool.and_eq_true] at hs
                have e1 : args = #[s, x] := by apply Array.ext'; simpa using hx
                have e2 : tys = #[t, t'] := by apply Array.ext'; simpa using ht
                subst e1 e2
                exact app_zero h hop hu hu' hz hi hx0 (Nat.eq_of_beq_eq_true hs.1) (by omega) h1 hxe hcd.1 hcd.2 fun u w' β' hR hA => val hR (hA.trans (al_push _ _ _)) hr
            · cases hr
          · cases hr
        · cases hr
      · cases hr
    · cases hr
  · rename_i t x lo hi hop
    split at hr
    · rename_i b hx
      split at hr
      · rename_i ty xs st1 e hz hu
        split at hr
        · rename_i l hh hlo hhi hs
          cases hin : inS l hh xs.length with
          | false => rw [hin] at hr; cases hr
          | true =>
            rw [hin] at hr
            obtain ⟨F1, β1, z1, zd⟩ := frz1_sound h hz
            have hv := h.ev x; rw [hx] at hv
            have hd := zd _ hv
            obtain ⟨y, hy, hrun⟩ := slice_sound (P := P) hu (Nat.eq_of_beq_eq_true hs) hd (bnd_sound h hlo) (bnd_sound h hhi) hin
            exact wp_value (w' := w) (y := y) (by simp [execOp, hop, Sem.run_bind, hrun w]) (val (z1.rel.put o.dst hy) (z1.al.trans (al_put _ _ _)) hr)
        · cases hr
      · cases hr
    · exact telling hr
  · rename_i c args tys hop
    split at hr
    · rename_i f as ht
      have hent : Ent P F w β (a.eval c) (args.map a.eval) f as := target_ent (h.ev c) (by simp) (fun j hj => by
        have := evs_getD h args.toList j hj
        have e : (args.map a.eval).getD j undef = (args.toList.map a.eval).getD j undef := by rw [← toL_getD, Array.toList_map]
        rw [e]; exact this) ht
      obtain ⟨n, us, e1, e2⟩ := evCall_sound (C := Calls P) (fun h hr => h.mono hr) hG h hgl hr hent
      unfold Oper.wp
      have hrun : (execOp a.eval o).run P w = .ok (.enter n us.toArray) w := by
        have := e1 w
        simp only [Sem.run_bind] at this
        simp only [execOp, hop, resolve, Sem.run_bind]
        exact this
      rw [hrun, Oper.upon_enter]
      refine e2.mono fun e w' ⟨z, hz, F', β', x, st', hR, hA, _, _, hv, hkk⟩ => ?_
      subst hz
      exact val (hR.put o.dst hv) (hA.trans (al_put _ _ _)) hkk
    · cases hr
  · rename_i c args tys hop
    split at hr
    · rename_i f as fn fi ca ht hfe
      have hv := h.ev c; rw [hfe] at hv ht
      have hfun : ∃ ya yc, a.eval c = .func (.func fn) ya yc ∧ ya.size = fi.length ∧ yc.size = ca.length ∧ (∀ j, j < fi.length → V F w β (fi.getD j .undef) (ya.getD j undef)) ∧ (∀ j, j < ca.length → V F w β (ca.getD j .undef) (yc.getD j undef)) := by
        generalize a.eval c = q at hv
        cases hv
        exact ⟨_, _, rfl, by assumption, by assumption, by assumption, by assumption⟩
      obtain ⟨ya, yc, hy, g1, g2, g3, g4⟩ := hfun
      simp [target] at ht
      obtain ⟨rfl, rfl⟩ := ht
      unfold Oper.wp
      have hrun : (execOp a.eval o).run P w = .ok (.defer ⟨.fn (.func fn) yc, ya ++ args.map a.eval⟩) w := by
        simp [execOp, hop, resolve, hy, Deferred.ofValue, Sem.run_bind]
      rw [hrun, Oper.upon_defer]
      have hR : Rel B F β ({ st with df := (fn, fi ++ (List.map st.ev args.toList ++ ca)) :: st.df } : St) { a with defers := ⟨.fn (.func fn) yc, ya ++ args.map a.eval⟩ :: a.defers } w := by
        refine ⟨h.len, h.env, h.gl, ?_, h.kept, h.fo, h.fi, h.lo, h.per, h.bn, h.nw, h.hn, h.heap⟩
        refine ⟨⟨yc, rfl, by simp [g1, g2], ?_⟩, h.df⟩
        have e : ∀ j, ((ya ++ args.map a.eval) ++ yc).getD j undef = (ya.toList ++ ((args.toList.map a.eval) ++ yc.toList)).getD j undef := fun j => by rw [← toL_getD]; congr 1; simp
        intro j hj
        rw [e]
        exact Vs_append (by simpa using g1) (fun j hj => by rw [toL_getD]; exact g3 j hj) (Vs_append (by simp) (fun j hj => evs_getD h args.toList j hj) (fun j hj => by rw [toL_getD]; exact g4 j hj)) j (by simpa using hj)
      exact hk _ _ _ _ _ (hR.put o.dst (.undef _)) (Al.trans (al_df _ _) (al_put _ _ _)) (fun hd => by simp [isDefer, hop] at hd) hr
    · cases hr
  · exact telling hr
theorem wanted_of (h : Rel B F β st a w) {l : List Oper} {o : Oper} {j d : Nat} {want t : Bool} (hg : o.guard = some (j, want)) (hd : (l[j]?).bind (·.dst) = some d) (hs : st.get d = .v (.bool t)) : Region.wanted o (yielded l.toArray a.tmps) = (t == want) := by
  have := slot_bool h hs
  simp only [Region.wanted, hg, yielded, List.getElem?_toArray, hd, Option.bind_some, this]
  cases t <;> cases want <;> rfl
theorem skip_put (h : Rel B F β st a w) (d : Option Nat) : Rel B F β (st.put d skipV) (a.put d undef) w := h.put d (.v _)
theorem wanted_not (h : Rel B F β st a w) {l : List Oper} {o : Oper} {j d : Nat} {want : Bool} {q : Array Value} (hg : o.guard = some (j, want)) (hd : (l[j]?).bind (·.dst) = some d) (hs : st.get d = .v (.tuple q)) : Region.wanted o (yielded l.toArray a.tmps) = false := by
  have hv := h.env d
  rw [hs] at hv
  have := V_v hv
  rw [Array.getD_eq_getD_getElem?] at this
  simp only [Region.wanted, hg, yielded, List.getElem?_toArray, hd, Option.bind_some]
  cases hq : a.tmps[d]? with
  | none => rfl
  | some z => rw [hq] at this; simp at this; subst this; rfl
theorem evOps_sound {α : Type} (hG : GOk P GL G) (l : List Oper) {Q : Exit → Act → World → Prop} {k : St → Option α} {r : α} (N : Nat) (hk : ∀ st' a' w' F' β', Rel B F' β' st' a' w' → st'.gl = GL → st'.np = N → k st' = some r → Q .normal a' w') :
    ∀ (rest : List Oper) (F : Nat → Prop) (β : Gh) (st : St) (a : Act) (w : World), Rel B F β st a w → st.gl = GL → st.np = N → evOps P G l rest st k = some r → wpList P l.toArray Q rest a w
  | [], F, β, st, a, w, h, hgl, hnp, hr => wpList_nil (hk _ _ _ _ _ h hgl hnp hr)
  | o :: rest, F, β, st, a, w, h, hgl, hnp, hr => by
    have ih := evOps_sound hG l N hk rest
    refine wpList_step fun K hK => ?_
    simp only [evOps] at hr
    split at hr
    · rename_i hg
      rw [if_pos (by simp [Region.wanted, hg])]
      exact evOp_sound hG h hgl hr fun st' a' w' F' β' hR hA _ hk' => hK _ _ (ih F' β' st' a' w' hR (hA.1.trans hgl) (hA.2.1.trans hnp) hk')
    · rename_i j want hg
      split at hr
      · rename_i d hd
        split at hr
        · rename_i t hs
          have hw := wanted_of h hg hd hs
          have hsame : ∀ t', t = t' → st.set d (.v (.bool t')) = st := fun t' e => set_get (by rw [hs, e])
          have go : (cond (t == want) (evOp P G (st.set d (.v (.bool want))) o fun st => evOps P G l rest st k) (evOps P G l rest ((st.set d (.v (.bool (!want)))).put o.dst skipV) k)) = some r := by
            cases want <;> cases t <;> exact hr
          rw [hw]
          cases hq : (t == want) with
          | true =>
            rw [hq] at go
            have e : t = want := by simpa using hq
            rw [hsame want e, cond_true] at go
            rw [if_pos rfl]
            exact evOp_sound hG h hgl go fun st' a' w' F' β' hR hA _ hk' => hK _ _ (ih F' β' st' a' w' hR (hA.1.trans hgl) (hA.2.1.trans hnp) hk')
          | false =>
            rw [hq] at go
            have e : t = !want := by cases t <;> cases want <;> simp_all
            rw [hsame (!want) e, cond_false] at go
            rw [if_neg (by simp)]
            have hA := al_put st o.dst skipV
            exact hK _ _ (ih F β _ _ w (skip_put h o.dst) (hA.1.trans hgl) (hA.2.1.trans hnp) go)
        · rename_i q hs
          rw [wanted_not h hg hd hs, if_neg (by simp)]
          have hA := al_put st o.dst skipV
          exact hK _ _ (ih F β _ _ w (skip_put h o.dst) (hA.1.trans hgl) (hA.2.1.trans hnp) hr)
        · cases hr
      · cases hr
end
end Go.Proofs.YtgfifnadfmaolaaGreatDoor
