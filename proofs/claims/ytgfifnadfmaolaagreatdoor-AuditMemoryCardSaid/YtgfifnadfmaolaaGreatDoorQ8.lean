import Derived.Test.YtgfifnadfmaolaaGreatDoorQ1
import Derived.Test.YtgfifnadfmaolaaGreatDoorRH
import Derived.Maps.Own
import Derived.Maps.Views
set_option linter.unusedVariables false
set_option linter.unusedSimpArgs false
noncomputable section
open Go.IntKind (i64 u32)
namespace Go.Proofs.YtgfifnadfmaolaaGreatDoor
open Go.RowKit
noncomputable def zqg (m : Option MemMemory) : List Int -> List Int -> Bool
 | _, [] => true
 | met, t :: r => (!met.any fun x => decide (x = t)) && zdA m t && zqg m (t :: met) r
noncomputable def zfo (m : Option MemMemory) (root : Int) (l : List Int) : Bool := zqg m [root] l && zdA m root
def zoL (a : Int) : Bool := (Lit.int .i64 a).wf
noncomputable def zjY (m : Option MemMemory) (root : Int) (l : List Int) : Bool := zgg m && zoL root && l.all zoL && Nat.ble l.length 100000
namespace Plc
def pcL : Code -> Code
 | .seq a _ => a
 | .block _ c => c
 | .loop c => c
 | c => c
def pcR : Code -> Code
 | .seq _ b => b
 | c => c
def zOk : Code -> Array Oper
 | .region _ ops _ => ops
 | _ => #[]
noncomputable def q0 : Code := ziC Tryz.f124
noncomputable def qX : Code := pcL q0
noncomputable def qO1 : Array Oper := zOk (pcL (pcR q0))
noncomputable def qR2 : Code := pcL (pcL (pcR (pcR q0)))
noncomputable def qL : Code := pcL (pcL (pcR (pcL (pcR (pcR q0)))))
noncomputable def qR3 : Code := pcL qL
noncomputable def qB : Code := pcL (pcL (pcR (pcR qL)))
noncomputable def qR4 : Code := pcL qB
noncomputable def qO5 : Array Oper := zOk (pcL (pcL (pcR qB)))
noncomputable def qR6 : Code := match pcR (pcL (pcR qB)) with | .cond _ a _ => pcL a | c => c
noncomputable def qO7 : Array Oper := zOk (pcR (pcR qB))
noncomputable def qR8 : Code := pcR (pcR (pcR qL))
noncomputable def qR9 : Code := pcL (pcR (pcR (pcR q0)))
theorem zUK : Tryz.f124.body = some (.seq qX (.seq (.region 1 qO1 false) (.seq (.seq qR2 (.block 0 (.loop (.seq qR3 (.seq (.cond (.tmp 16) .skip (.exit 0)) (.seq (.block 1 (.seq qR4 (.seq (.seq (.region 5 qO5 false) (.cond (.tmp 28) (.seq qR6 .ret) .skip)) (.region 7 qO7 false)))) qR8)))))) (.seq qR9 .ret)))) := by kernel_rfl
noncomputable def qa (i : Nat) : Oper := qO1.getD i default
noncomputable def qb (i : Nat) : Oper := qO5.getD i default
noncomputable def qc (i : Nat) : Oper := qO7.getD i default
theorem zOq : qO1.toList = qa 0 :: ([qa 1] ++ qa 2 :: ([qa 3, qa 4] ++ [])) := by kernel_rfl
theorem zOr : qO5.toList = [qb 0, qb 1] ++ qb 2 :: ([qb 3, qb 4, qb 5, qb 6, qb 7, qb 8, qb 9] ++ []) := by kernel_rfl
theorem zOs : qO7.toList = [qc 0, qc 1] ++ [qc 2] := by kernel_rfl
theorem qa0 : (qa 0).op = .makeMap 247 none /\ (qa 0).guard = none /\ (qa 0).dst = some 10 := ⟨by kernel_rfl, by kernel_rfl, by kernel_rfl⟩
theorem qa2 : (qa 2).op = .insert 247 (.tmp 10) (.tmp 11) (.const (.int .i64 1)) /\ (qa 2).guard = none /\ (qa 2).dst = none := ⟨by kernel_rfl, by kernel_rfl, by kernel_rfl⟩
theorem qb2 : (qb 2).op = .lookup 247 (.tmp 19) (.tmp 20) false /\ (qb 2).guard = none /\ (qb 2).dst = some 21 := ⟨by kernel_rfl, by kernel_rfl, by kernel_rfl⟩
theorem qc2 : (qc 2).op = .mapUpdate 247 (.tmp 29) (.tmp 30) (.const (.int .i64 1)) /\ (qc 2).guard = none /\ (qc 2).dst = none := ⟨by kernel_rfl, by kernel_rfl, by kernel_rfl⟩
theorem zPy : Pr.underlying 247 = some (.map 3 3) := by kernel_rfl
theorem u3 : Pr.underlying 3 = some (.int .i64) := by kernel_rfl
theorem zMz : Maps.Keyed Pr 3 := Maps.int_keyed u3
def HQ : zS := ⟨fun _ => false, fun _ => ⟨[], []⟩, [], G0, zc7⟩
abbrev eQ (m : Option MemMemory) (root : Int) (l : List Int) (e : List (Nat × AV)) : List (Nat × AV) := (0, .op .sMemMemory m) :: (1, .v (.int .i64 root)) :: (2, .sl (.i .i64) l) :: e
abbrev stQ (e : List (Nat × AV)) : St := ⟨mkE e 35 0, [], GL, 0, [], zc7⟩
abbrev vI (n : Int) : AV := .v (.int .i64 n)
abbrev vM (b : Nat) : AV := .v (.map (some b))
abbrev eH (m : Option MemMemory) (root : Int) (l : List Int) (B : Nat) (n k : Int) (e : List (Nat × AV)) : List (Nat × AV) := eQ m root l ((7, vM B) :: (13, .sl (.i .i64) l) :: (14, vI n) :: (15, vI k) :: e)
section
variable (m : Option MemMemory) (root : Int) (l : List Int) (B : Nat) (n k t : Int)
theorem rX : ev Pr GQ1 HQ (fun _ _ => none) 0 qX (zen [0, 1, 2] []) (stQ (eQ m root l [])) = some ⟨.tup (stQ (eQ m root l [])).env, []⟩ := by kernel_rfl
theorem rA1 : zbD Pr GQ1 qO1.toList [qa 1] (stQ ((10, vM B) :: eQ m root l [])) (zen [0, 1, 2, 10, 11] [] .normal) = some ⟨.tup (stQ (eQ m root l [(10, vM B), (11, vI root)])).env, []⟩ := by kernel_rfl
theorem rA3 : zbD Pr GQ1 qO1.toList [qa 3, qa 4] (stQ (eQ m root l [(10, vM B), (11, vI root)])) (zen [0, 1, 2, 7] [] .normal) = some ⟨.tup (stQ (eQ m root l [(7, vM B)])).env, []⟩ := by kernel_rfl
theorem rR2 : ev Pr GQ1 HQ (fun _ _ => none) 0 qR2 (zen [0, 1, 2, 7, 13, 14, 15] []) (stQ (eQ m root l [(7, vM B)])) = some ⟨.tup (stQ (eH m root l B l.length 0 [])).env, []⟩ := by kernel_rfl
theorem rR3 : ev Pr GQ1 HQ (fun _ _ => none) 0 qR3 (zen [0, 1, 2, 7, 13, 14, 15, 16] []) (stQ (eH m root l B n k [])) = some ⟨.tup (stQ (eH m root l B n k [(16, .v (.bool (decide (k < n))))])).env, []⟩ := by kernel_rfl
theorem rR4 (b : Bool) : ev Pr GQ1 HQ (fun _ _ => none) 0 qR4 (zen [0, 1, 2, 7, 9, 13, 14, 15] []) (stQ (eH m root l B n k [(16, .v (.bool b))])) = cond (zN k l.length) (some ⟨.tup (stQ (eH m root l B n k [(9, vI (zx l k.toNat))])).env, []⟩) none := by kernel_rfl
theorem rB0 : zbD Pr GQ1 qO5.toList [qb 0, qb 1] (stQ (eH m root l B n k [(9, vI t)])) (zen [0, 1, 2, 7, 9, 13, 14, 15, 19, 20] [] .normal) = some ⟨.tup (stQ (eH m root l B n k [(9, vI t), (19, vM B), (20, vI t)])).env, []⟩ := by kernel_rfl
theorem rB3 : zbD Pr GQ1 qO5.toList [qb 3, qb 4, qb 5, qb 6, qb 7, qb 8, qb 9] (stQ ((21, vI 1) :: eH m root l B n k [(9, vI t), (19, vM B), (20, vI t)])) (zen [0, 1, 2, 7, 9, 13, 14, 15, 28] [] .normal) = some ⟨.tup (stQ (eH m root l B n k [(9, vI t), (28, .v (.bool true))])).env, []⟩ := by kernel_rfl
theorem rB3' : zbD Pr GQ1 qO5.toList [qb 3, qb 4, qb 5, qb 6, qb 7, qb 8, qb 9] (stQ ((21, vI 0) :: eH m root l B n k [(9, vI t), (19, vM B), (20, vI t)])) (zen [0, 1, 2, 7, 9, 13, 14, 15, 28] [] .normal) = cond (zge m t) (some ⟨.tup (stQ (eH m root l B n k [(9, vI t), (28, .v (.bool (!zdA m t)))])).env, []⟩) none := by kernel_rfl
theorem rR6 (b : Bool) : ev Pr GQ1 HQ (fun _ _ => none) 0 qR6 (zen [6] []) (stQ (eH m root l B n k [(9, vI t), (28, .v (.bool b))])) = some ⟨.tup (stQ [(6, .v (.bool false))]).env, []⟩ := by kernel_rfl
theorem rC0 (b : Bool) : zbD Pr GQ1 qO7.toList [qc 0, qc 1] (stQ (eH m root l B n k [(9, vI t), (28, .v (.bool b))])) (zen [0, 1, 2, 7, 13, 14, 15, 29, 30] [] .normal) = some ⟨.tup (stQ (eH m root l B n k [(29, vM B), (30, vI t)])).env, []⟩ := by kernel_rfl
theorem rR8 : ev Pr GQ1 HQ (fun _ _ => none) 0 qR8 (zen [0, 1, 2, 7, 13, 14, 15] []) (stQ (eH m root l B n k [(29, vM B), (30, vI t)])) = some ⟨.tup (stQ (eH m root l B n (i64.wrap (k + 1)) [])).env, []⟩ := by kernel_rfl
theorem rR9 (b : Bool) : ev Pr GQ1 HQ (fun _ _ => none) 0 qR9 (zen [6] []) (stQ (eH m root l B n k [(16, .v (.bool b))])) = cond (zge m root) (some ⟨.tup (stQ [(6, .v (.bool (zdA m root)))]).env, []⟩) none := by kernel_rfl
end
theorem okQ : (okL HQ 0 qX = true /\ zaY HQ 0 qX = []) /\ (okL HQ 0 qR2 = true /\ zaY HQ 0 qR2 = []) /\ (okL HQ 0 qR3 = true /\ zaY HQ 0 qR3 = []) /\ (okL HQ 0 qR4 = true /\ zaY HQ 0 qR4 = []) /\ (okL HQ 0 qR6 = true /\ zaY HQ 0 qR6 = []) /\ (okL HQ 0 qR8 = true /\ zaY HQ 0 qR8 = []) /\ (okL HQ 0 qR9 = true /\ zaY HQ 0 qR9 = []) :=
 ⟨⟨by kernel_rfl, by kernel_rfl⟩, ⟨by kernel_rfl, by kernel_rfl⟩, ⟨by kernel_rfl, by kernel_rfl⟩, ⟨by kernel_rfl, by kernel_rfl⟩, ⟨by kernel_rfl, by kernel_rfl⟩, ⟨by kernel_rfl, by kernel_rfl⟩, ⟨by kernel_rfl, by kernel_rfl⟩⟩
theorem zh6 (l : List (Nat × AV)) : ∀ (n i t : Nat), (mkE l n i).getD t .undef = if t < n then lk l (i + t) else .undef
 | 0, i, t => by simp [mkE]
 | n + 1, i, t => by
  cases t with
  | zero => simp [mkE]
  | succ t =>
   have := zh6 l n (i + 1) t
   simp only [mkE, List.getD_cons_succ, this]
   rw [show i + 1 + t = i + (t + 1) by omega]
   by_cases h : t < n <;> simp [h]
theorem zmq (l : List (Nat × AV)) : ∀ (n i : Nat), (mkE l n i).length = n
 | 0, _ => rfl
 | n + 1, i => by simp [mkE, zmq l n (i + 1)]
def zoG : AV -> Bool
 | .undef => true
 | .v _ => true
 | .sl _ _ => true
 | .op _ _ => true
 | _ => false
theorem zu1 {x : AV} (h : zoG x = true) : zcI x := by
 cases x <;> first | (cases h; done) | constructor
structure PS (e : List (Nat × AV)) (F : Nat -> Prop) (a : Act) (w : World) : Prop where
 len : a.tmps.size = 35
 env : ∀ t, D F w ((mkE e 35 0).getD t .undef) (a.tmps.getD t undef)
 gl : GlOk GL F w
 df : a.defers = []
 fb : ∀ p, F p -> p < w.heap.size
theorem PS.rel {e : List (Nat × AV)} {F : Nat -> Prop} {a : Act} {w : World} (h : PS e F a w) : Rel (zl2 w F Gh.nil) F Gh.nil (stQ e) a w :=
 ⟨(zmq _ _ _).trans h.len.symm, h.env, h.gl, by rw [h.df]; trivial, .refl _ _, fun p hp => .inl hp, fun p hp => hp, fun p κ hp => (by simp [Gh.nil] at hp), .refl _, fun j hj => hj.elim, fun b hb => .inl hb, Nat.le_refl _,
   ⟨h.fb, fun b k hk => (by simp at hk), fun p κ hp => (by simp [Gh.nil] at hp), fun p κ hp => (by simp [Gh.nil] at hp), fun b hb => hb.elim⟩⟩
theorem PS.of_rel {e e' : List (Nat × AV)} {F F' : Nat -> Prop} {β : Gh} {q : TypeId -> List (Nat × TypeId)} {a' : Act} {w w' : World} (h : Rel (zl2 w F Gh.nil) F' β ⟨mkE e' 35 0, [], GL, 0, [], q⟩ a' w') (hf : (mkE e' 35 0).all zoG = true) : PS e' F' a' w' /\ Below w.heap.size w w' :=
 ⟨⟨h.len.symm.trans (zmq _ _ _), fun t => (h.env t).toD (zu1 (by
  show zoG ((mkE e' 35 0).getD t .undef) = true
  by_cases ht : t < (mkE e' 35 0).length
  . have := List.all_eq_true.1 hf _ (List.getElem_mem ht)
    simpa [List.getD, ht] using this
  . simp [List.getD, List.getElem?_eq_none (Nat.le_of_not_lt ht), zoG])), h.gl, zli h.df, h.heap.fb⟩,
  ⟨h.kept.os, h.kept.tape, h.kept.output, h.kept.size, fun k hk => h.kept.block k hk fun hq => hq rfl⟩⟩
theorem PS.turn {e : List (Nat × AV)} {F : Nat -> Prop} {a : Act} {w w' : World} {B : Nat} (h : PS e F a w) (hg : w.grownBy w' (some B)) (hm : ∃ o : Obj, w.heap[B]? = some o /\ o.isCells = false) : PS e F a w' := by
 have hE : CellsAs w w' := .of_grownBy hg fun r e => by cases e; exact hm
 exact ⟨h.len, fun t => V.cells hE (h.env t), fun g => V.cells hE (h.gl g), h.df, fun p hp => Nat.lt_of_lt_of_le (h.fb p hp) hg.size⟩
theorem PS.put {e : List (Nat × AV)} {F : Nat -> Prop} {a : Act} {w w' : World} (h : PS e F a w) (hb : Below w.heap.size w w') (d : Nat) (hd : d < 35) (v : Value) : PS ((d, .v v) :: e) F (a.put (some d) v) w' := by
 have hE : Ext F F w w' := Ext.below hb
 refine ⟨?_, fun t => ?_, fun g => (h.gl g).mono hE, h.df, fun p hp => Nat.lt_of_lt_of_le (h.fb p hp) hb.size⟩
 . show (a.tmps.setIfInBounds d v).size = 35
   rw [Array.size_setIfInBounds, h.len]
 . show D F w' ((mkE ((d, .v v) :: e) 35 0).getD t .undef) ((a.tmps.setIfInBounds d v).getD t undef)
   rw [zh6, Nat.zero_add]
   by_cases hdt : d = t
   . subst hdt
     rw [if_pos hd, Array.getD_eq_getD_getElem?, Array.getElem?_setIfInBounds_self_of_lt (by rw [h.len]; exact hd)]
     have : lk ((d, .v v) :: e) d = .v v := by simp [lk]
     rw [this]; exact .v _
   . have hl : lk ((d, .v v) :: e) t = lk e t := by
      simp only [lk]
      cases hb : Nat.beq d t with
      | false => rfl
      | true => exact absurd (Nat.eq_of_beq_eq_true hb) hdt
     rw [hl, Array.getD_eq_getD_getElem?, Array.getElem?_setIfInBounds_ne hdt, ← Array.getD_eq_getD_getElem?]
     have := h.env t
     rw [zh6, Nat.zero_add] at this
     exact this.mono hE
theorem PS.slot {e : List (Nat × AV)} {F : Nat -> Prop} {a : Act} {w : World} (h : PS e F a w) (t : Nat) {v : Value} (hv : (mkE e 35 0).getD t .undef = .v v) : a.eval (.tmp t) = v := by
 have := h.env t
 rw [hv] at this
 exact V_v this
theorem zcf {w w' : World} (h : Below w.heap.size w w') (row : Option Nat) : w.grownBy w' row := ⟨h.os, h.tape, h.output, h.size, fun k hk _ => h.block k hk⟩
section
variable {e e' : List (Nat × AV)} {F : Nat -> Prop} {a : Act} {w : World} {n : Nat} {Q : Exit -> Act -> World -> Prop}
theorem zhw {c : Code} (ho : okL HQ 0 c = true /\ zaY HQ 0 c = []) (h : PS e F a w) {keep : List Nat} (run : ev Pr GQ1 HQ (fun _ _ => none) 0 c (zen keep []) (stQ e) = some ⟨.tup (stQ e').env, []⟩) (hf : (mkE e' 35 0).all zoG = true) {X : Act -> World -> Prop}
 (hX : ∀ F' a' w', PS e' F' a' w' -> Below w.heap.size w w' -> X a' w') : c.wpIn Fence.wide n Pr (Exit.then X Q) a w :=
 wpIn_wide.2 (stage (H := HQ) zAs ho.1 ho.2 h.rel rfl rfl (keep := keep) (ids := []) rfl rfl run fun a' w' F' β' q hR => (PS.of_rel (e := e) hR hf).elim (hX F' a' w'))
theorem zzU {L : List Oper} (h : PS e F a w) {keep : List Nat} {rest more : List Oper} (run : zbD Pr GQ1 L rest (stQ e) (zen keep [] .normal) = some ⟨.tup (stQ e').env, []⟩) (hf : (mkE e' 35 0).all zoG = true)
 (hX : ∀ F' a' w', PS e' F' a' w' -> Below w.heap.size w w' -> wpListIn Fence.wide n Pr L.toArray Q more a' w') : wpListIn Fence.wide n Pr L.toArray Q (rest ++ more) a w :=
 zJP (n := n) zAs L (Q := Q) (k := zen keep [] .normal) 0 more (fun st' a' w' F' β' hR hgl hnp hk => by
  obtain ⟨β2, q, hR2⟩ := zv3 hR hgl hnp (keep := keep) (ids := []) rfl rfl hk
  exact (PS.of_rel (e := e) hR2 hf).elim (hX F' a' w')) rest F Gh.nil _ a w h.rel rfl rfl run
theorem zJI {ops : Array Oper} {o : Oper} (hg : o.guard = none) {rest : List Oper} {y : Value} {w' : World} (hrun : (execOp a.eval o).run Pr w = .ok (.value y) w') (h : wpListIn Fence.wide n Pr ops Q rest (a.put o.dst y) w') : wpListIn Fence.wide n Pr ops Q (o :: rest) a w := by
 refine wpListIn_step fun K hK => ?_
 rw [if_pos (by simp [Region.wanted, hg])]
 exact zGs hK (zaB hrun h)
theorem zJJ {ops : Array Oper} {o : Oper} (hg : o.guard = none) {rest : List Oper} {w' : World} (hrun : (execOp a.eval o).run Pr w = .ok .skip w') (h : wpListIn Fence.wide n Pr ops Q rest (a.put o.dst undef) w') : wpListIn Fence.wide n Pr ops Q (o :: rest) a w := by
 refine wpListIn_step fun K hK => ?_
 rw [if_pos (by simp [Region.wanted, hg])]
 refine zGs hK ?_
 unfold Oper.wp
 rw [hrun]
 exact h
theorem zB9 {id : Nat} {ops : Array Oper} {l : List Oper} (hl : ops.toList = l) (h : wpListIn Fence.wide n Pr ops.toList.toArray Q l a w) : (Code.region id ops false).wpIn Fence.wide n Pr Q a w :=
 wpIn_region_list (by rw [hl]; rw [Array.toArray_toList] at h; exact h)
end
def Met (D : DataW Unit) (met : List Int) : Prop := Maps.IsMap D /\ ∀ x : Int, D.atKey (.int .i64 x) (.lit (.int .i64 0)) = .lit (.int .i64 (if x ∈ met then 1 else 0))
theorem zGm : Met (.map []) [] := ⟨Maps.isMap_empty, fun x => by rfl⟩
theorem zwk {D : DataW Unit} {met : List Int} (h : Met D met) (x : Int) : Met (D.put (.int .i64 x) (.lit (.int .i64 1))) (x :: met) := by
 refine ⟨?_, fun y => ?_⟩
 . obtain ⟨es, rfl⟩ := h.1; exact ⟨_, rfl⟩
 . by_cases hy : y = x
   . subst hy
     rw [Maps.atKey_put_same h.1 (show WideAt.IsKeyLit (Lit.int .i64 y) from trivial)]; simp
   . rw [Maps.atKey_put_other (fun e => hy (by cases e; rfl)), h.2 y]
     simp [hy]
abbrev zKA (w : World) (B n : Nat) (D : DataW Unit) : Prop := w.ownsMap Pr 3 (plainElem Pr 3) B n D
theorem ztG {w : World} {B n : Nat} {D : DataW Unit} (h : zKA w B n D) : ∃ o : Obj, w.heap[B]? = some o /\ o.isCells = false := by
 obtain ⟨es, clock, hb, _⟩ := h
 exact ⟨_, hb, rfl⟩
theorem zu8 {a : Int} (h : zoL a = true) : keyOf Pr 3 (.int .i64 a) = some (.int .i64 a) := Maps.keyOf_int_mk u3 h
theorem ztE : plainElem (H := Unit) Pr 3 (.int .i64 1) = some (.lit (.int .i64 1), []) := plainElem_int u3 (by decide)
theorem zVE (w : World) : (zeroValue 3).run Pr w = .ok (.int .i64 0) w := by kernel_rfl
theorem zzX (m : Option MemMemory) (l met : List Int) {k : Nat} (hk : k < l.length) : zqg m met (l.drop k) = ((!met.any fun x => decide (x = zx l k)) && zdA m (zx l k) && zqg m (zx l k :: met) (l.drop (k + 1))) := by
 rw [List.drop_eq_getElem_cons hk]
 have : zx l k = l[k] := by simp [zx, List.getD, hk]
 rw [this]; rfl
theorem zpE {m : Option MemMemory} (h : zgg m = true) (t : Int) : zge m t = true := by
 unfold zge zmV ziU
 rw [h]
 cases decide (t >= 0) <;> rfl
theorem zv1 (met : List Int) (t : Int) : (met.any fun x => decide (x = t)) = decide (t ∈ met) := by
 induction met with
 | nil => rfl
 | cons x r ih =>
  simp only [List.any_cons, ih, List.mem_cons]
  by_cases h : x = t
  . simp [h]
  . have h2 : ¬ t = x := fun e => h e.symm
    simp [h, h2]
theorem oks124 (m : Option MemMemory) (root : Int) (l : List Int) (hc : zjY m root l = true) : Okay Pr GL 124 [.op .sMemMemory m, .v (.int .i64 root), .sl (.i .i64) l] [] ⟨.v (.bool (zfo m root l)), []⟩ := by
 simp only [zjY, Bool.and_eq_true, List.all_eq_true] at hc
 obtain ⟨⟨⟨hc1, hc2⟩, hc3⟩, hc4⟩ := hc
 have hlen : l.length <= 100000 := Nat.le_of_ble_eq_true hc4
 have hkey : ∀ k, k < l.length -> zoL (zx l k) = true := fun k hk => by
  have : zx l k = l[k] := by simp [zx, List.getD, hk]
  rw [this]; exact hc3 _ (List.getElem_mem hk)
 intro F0 W β0 vs hh hg hl hv
 refine calls_of_wp Tryz.func124 zUK ((wpIn_wide (n := 0)).1 ?_)
 have hnt : Tryz.f124.ntmps = 35 := by kernel_rfl
 have hP0 : PS (eQ m root l []) F0 { tmps := vs.toArray ++ Array.replicate (Tryz.f124.ntmps - vs.toArray.size) undef, defers := [] } W := by
  refine ⟨?_, fun t => ?_, hg, rfl, hh.fb⟩
  . have : vs.length = 3 := hl
    simp [hnt, this]
  . have hrel := zoD (dp := zc7) (fn := Tryz.f124) hh hg hl hv
    have := hrel.env t
    have e1 : (entry zc7 GL Tryz.f124 [.op .sMemMemory m, .v (.int .i64 root), .sl (.i .i64) l] []).get t = (mkE (eQ m root l []) 35 0).getD t .undef := by
     have : (entry zc7 GL Tryz.f124 [.op .sMemMemory m, .v (.int .i64 root), .sl (.i .i64) l] []).env = mkE (eQ m root l []) 35 0 := by kernel_rfl
     show (entry zc7 GL Tryz.f124 [.op .sMemMemory m, .v (.int .i64 root), .sl (.i .i64) l] []).env.getD t .undef = _
     rw [this]
    rw [e1] at this
    refine this.toD ?_
    rw [zh6]
    split
    . match t with
      | 0 => exact .op _ _
      | 1 => exact .v _
      | 2 => exact .sl _ _
      | t + 3 => simp only [Nat.zero_add]; exact .undef
    . exact .undef
 -- what is told zdW it
 have fin : ∀ {b : Bool} {F : Nat -> Prop} {a : Act} {w : World}, PS [(6, .v (.bool b))] F a w -> Below W.heap.size W w -> b = zfo m root l -> bodyPost Pr Tryz.f124 (fun e w' => ∃ y, e = .returned y /\ Aft F0 W β0 0 ⟨.v (.bool (zfo m root l)), []⟩ y w') .ret a w := fun {b F a w} hP hb hbe => by
  have h6 : a.tmps.getD 6 undef = .bool b := hP.slot 6 rfl
  have hA : Aft F0 W β0 0 ⟨.v (.bool (zfo m root l)), []⟩ (a.tmps.getD 6 undef) w := by
   rw [h6, hbe]
   exact ⟨F0, β0, Keeps.of_below hb, fun _ h => h, fun p hp => .inl hp, fun p κ hp => .inl (by rw [hp]; simp), .refl _, fun j hj => .inl hj, hh.later hb, .v _⟩
  exact ⟨hP.df, a.tmps.getD 6 undef, results_tmp (fn := Tryz.f124) (t := 6) (by kernel_rfl) a.tmps Pr w, a.tmps.getD 6 undef, rfl, hA⟩
 refine wpIn_seq (zhw okQ.1 hP0 (rX m root l) rfl fun F1 a1 w1 hP1 hb1 => ?_)
 refine wpIn_seq (zB9 zOq ?_)
 -- the map is made
 refine zJI qa0.2.1 (y := .map (some w1.heap.size)) (w' := w1.alloc (.map #[] 0)) (by simp [execOp, qa0.1, run_makeMap]) ?_
 have hal : Below w1.heap.size w1 (w1.alloc (.map #[] 0)) := by
  have := World.grownBy_alloc w1 (.map #[] 0) none
  exact ⟨this.os, this.tape, this.output, this.size, fun k hk => this.block k hk (by simp)⟩
 have hP2 := hP1.put hal 10 (by omega) (.map (some w1.heap.size))
 have hB0 : W.heap.size <= w1.heap.size := hb1.size
 generalize hBq : w1.heap.size = B at hP2 hB0
 rw [qa0.2.2]
 have ho2 : zKA (w1.alloc (.map #[] 0)) B 0 (.map []) := by rw [← hBq]; exact World.ownsMap_made w1 Pr 3 _
 have hb2 : Below W.heap.size W (w1.alloc (.map #[] 0)) := hb1.trans (hal.mono hb1.size)
 generalize w1.alloc (.map #[] 0) = w2 at hP2 ho2 hb2
 refine zzU hP2 (rA1 m root l B) rfl fun F3 a3 w3 hP3 hb3 => ?_
 have ho3 := ho2.kept (zcf hb3 none) (by simp)
 obtain ⟨w4, hrun4, ho4, hg4⟩ := World.ownsMap.update ho3 zMz zPy (show 0 < maxLen by decide) (zu8 hc2) ztE
 have e10 : a3.eval (.tmp 10) = .map (some B) := hP3.slot 10 rfl
 have e11 : a3.eval (.tmp 11) = .int .i64 root := hP3.slot 11 rfl
 have ec3 : a3.eval (.const (.int .i64 1)) = .int .i64 1 := rfl
 refine zJJ qa2.2.1 (w' := w4) (by simp [execOp, qa2.1, e10, e11, ec3, hrun4, Result.andThen]) ?_
 rw [qa2.2.2]
 have hP4 := hP3.turn hg4 (ztG ho3)
 have hb4 : Below W.heap.size W w4 := (hb2.trans (hb3.mono hb2.size)).trans ⟨hg4.os, hg4.tape, hg4.output, hg4.size, fun k hk => hg4.block k (Nat.lt_of_lt_of_le hk (Nat.le_trans hb2.size hb3.size)) (by simp; omega)⟩
 refine zzU hP4 (rA3 m root l B) rfl fun F5 a5 w5 hP5 hb5 => ?_
 have ho5 := World.ownsMap.kept ho4 (zcf hb5 none) (by simp)
 have hb5' := hb4.trans (hb5.mono hb4.size)
 have hm5 : Met ((DataW.map []).put (.int .i64 root) (.lit (.int .i64 1))) [root] := zwk zGm root
 show Code.wpIn _ _ _ _ _ _ _
 refine wpIn_seq (wpIn_seq (zhw okQ.2.1 hP5 (rR2 m root l B) rfl fun F6 a6 w6 hP6 hb6 => ?_))
 have ho6 := ho5.kept (zcf hb6 none) (by simp)
 have hb6' := hb5'.trans (hb6.mono hb5'.size)
 refine wpIn_block (wpIn_loop (fun a w => ∃ (F : Nat -> Prop) (k : Nat) (D : DataW Unit) (met : List Int), PS (eH m root l B l.length k []) F a w /\ zKA w B (k + 1) D /\ Met D met /\ Below W.heap.size W w /\ k <= l.length /\ zqg m met (l.drop k) = zqg m [root] l)
  (fun a w => match a.tmps.getD 15 undef with | .int _ k => l.length - k.toNat | _ => 0) ?start ?round)
 case start => exact ⟨F6, 0, _, _, hP6, ho6, hm5, hb6', Nat.zero_le _, rfl⟩
 case round =>
  rintro a7 w7 ⟨F7, k, D, met, hP7, ho7, hm7, hb7, hk7, hp7⟩
  have hk15 : a7.tmps.getD 15 undef = .int .i64 (k : Int) := hP7.slot 15 rfl
  refine wpIn_seq (zhw okQ.2.2.1 hP7 (rR3 m root l B l.length k) rfl fun F8 a8 w8 hP8 hb8 => ?_)
  have ho8 := ho7.kept (zcf hb8 none) (by simp)
  have hb8' := hb7.trans (hb8.mono hb7.size)
  have hc8 : a8.eval (.tmp 16) = .bool (decide ((k : Int) < (l.length : Int))) := hP8.slot 16 rfl
  by_cases hkl : k < l.length
  . have hlt : decide ((k : Int) < (l.length : Int)) = true := decide_eq_true (by omega)
    refine wpIn_seq (wpIn_cond_true (hc8.trans (by rw [hlt])) (wpIn_skip ?_))
    show Code.wpIn _ _ _ _ _ _ _
    refine wpIn_seq (wpIn_block ?_)
    have hr4 := rR4 m root l B l.length k (decide ((k : Int) < (l.length : Int)))
    rw [zm hkl, cnT] at hr4
    refine wpIn_seq (zhw okQ.2.2.2.1 hP8 hr4 rfl fun F9 a9 w9 hP9 hb9 => ?_)
    have ho9 := ho8.kept (zcf hb9 none) (by simp)
    have hb9' := hb8'.trans (hb9.mono hb8'.size)
    have hkt := hkey k hkl
    have hnk : ((k : Int)).toNat = k := zW k
    rw [hnk] at hP9
    have hst := zzX m l met hkl
    rw [hp7] at hst
    generalize zx l k = t at hP9 hkt hst
    refine wpIn_seq (wpIn_seq (zB9 zOr ?_))
    refine zzU hP9 (rB0 m root l B l.length k t) rfl fun F10 a10 w10 hP10 hb10 => ?_
    have ho10 := ho9.kept (zcf hb10 none) (by simp)
    have hb10' := hb9'.trans (hb10.mono hb9'.size)
    obtain ⟨c, hrunL, hat, _⟩ := World.ownsMap.lookup_int ho10 zMz zPy u3 (zVE w10) (zu8 hkt)
    rw [hm7.2 t] at hat
    have hcc : c = if t ∈ met then 1 else 0 := by cases hat; rfl
    have e19 : a10.eval (.tmp 19) = .map (some B) := hP10.slot 19 rfl
    have e20 : a10.eval (.tmp 20) = .int .i64 t := hP10.slot 20 rfl
    refine zJI qb2.2.1 (y := .int .i64 c) (w' := w10) (by simp [execOp, qb2.1, e19, e20, hrunL, Sem.run_bind]) ?_
    rw [qb2.2.2]
    have hP11 := hP10.put (Below.refl _ _) 21 (by omega) (.int .i64 c)
    -- false is told
    have no : ∀ {b : Bool} {F a w}, b = true -> PS (eH m root l B l.length k [(9, vI t), (28, .v (.bool b))]) F a w -> Below W.heap.size W w -> zfo m root l = false -> ∀ {X : Act -> World -> Prop} {Q : Exit -> Act -> World -> Prop}, (∀ a w, bodyPost Pr Tryz.f124 (fun e w' => ∃ y, e = .returned y /\ Aft F0 W β0 0 ⟨.v (.bool (zfo m root l)), []⟩ y w') .ret a w -> Q .ret a w) -> (Code.cond (.tmp 28) (.seq qR6 .ret) .skip).wpIn Fence.wide 0 Pr (Exit.then X Q) a w := fun {b F a w} hb hP hB hsp X Q hQ => by
     have h28 : a.eval (.tmp 28) = .bool b := hP.slot 28 rfl
     refine wpIn_cond_true (h28.trans (by rw [hb])) (wpIn_seq (zhw okQ.2.2.2.2.1 hP (rR6 m root l B l.length k t b) rfl fun F' a' w' hP' hb' => ?_))
     refine wpIn_ret ?_
     have := hQ a' w' (fin hP' (hB.trans (hb'.mono hB.size)) hsp.symm)
     simpa only [Exit.then] using this
    by_cases hmem : t ∈ met
    . rw [if_pos hmem] at hcc
      subst hcc
      refine zzU hP11 (rB3 m root l B l.length k t) rfl fun F12 a12 w12 hP12 hb12 => ?_
      show Code.wpIn _ _ _ _ _ _ _
      refine no rfl hP12 (hb10'.trans (hb12.mono hb10'.size)) ?_ fun a w h => ?_
      . rw [zv1, decide_eq_true hmem] at hst
        simp only [zfo, hst]; rfl
      . simpa only [Exit.then, Exit.inBlock, List.length_nil] using h
    . rw [if_neg hmem] at hcc
      subst hcc
      have hr := rB3' m root l B l.length k t
      rw [zpE hc1, cnT] at hr
      refine zzU hP11 hr rfl fun F12 a12 w12 hP12 hb12 => ?_
      show Code.wpIn _ _ _ _ _ _ _
      have hb12' := hb10'.trans (hb12.mono hb10'.size)
      have ho12 := ho10.kept (zcf hb12 none) (by simp)
      rw [zv1, decide_eq_false hmem] at hst
      cases hh122 : zdA m t with
      | false =>
       rw [hh122] at hP12 hst
       refine no rfl hP12 hb12' ?_ fun a w h => ?_
       . simp only [zfo, hst]; rfl
       . simpa only [Exit.then, Exit.inBlock, List.length_nil] using h
      | true =>
       rw [hh122] at hP12 hst
       have h28 : a12.eval (.tmp 28) = .bool false := hP12.slot 28 rfl
       refine wpIn_cond_false h28 (wpIn_skip ?_)
       show Code.wpIn _ _ _ _ _ _ _
       refine zB9 zOs ?_
       refine zzU hP12 (rC0 m root l B l.length k t false) rfl fun F13 a13 w13 hP13 hb13 => ?_
       have ho13 := ho12.kept (zcf hb13 none) (by simp)
       have hb13' := hb12'.trans (hb13.mono hb12'.size)
       obtain ⟨w14, hrun14, ho14, hg14⟩ := World.ownsMap.update ho13 zMz zPy (show k + 1 < maxLen by have : (100001 : Nat) < maxLen := (by decide); omega) (zu8 hkt) ztE
       have e29 : a13.eval (.tmp 29) = .map (some B) := hP13.slot 29 rfl
       have e30 : a13.eval (.tmp 30) = .int .i64 t := hP13.slot 30 rfl
       have ec13 : a13.eval (.const (.int .i64 1)) = .int .i64 1 := rfl
       refine zJJ qc2.2.1 (w' := w14) (by simp [execOp, qc2.1, e29, e30, ec13, hrun14, Result.andThen]) ?_
       rw [qc2.2.2]
       have hP14 := hP13.turn hg14 (ztG ho13)
       have hb14 : Below W.heap.size W w14 := hb13'.trans ⟨hg14.os, hg14.tape, hg14.output, hg14.size, fun k hk => hg14.block k (Nat.lt_of_lt_of_le hk hb13'.size) (by simp; omega)⟩
       show Code.wpIn _ _ _ _ _ _ _
       refine zhw okQ.2.2.2.2.2.1 hP14 (rR8 m root l B l.length k t) rfl fun F15 a15 w15 hP15 hb15 => ?_
       have hwr : i64.wrap ((k : Int) + 1) = ((k + 1 : Nat) : Int) := by rw [z9 _ (by omega) (by omega)]; omega
       rw [hwr] at hP15
       have hk15' : a15.tmps.getD 15 undef = .int .i64 ((k + 1 : Nat) : Int) := hP15.slot 15 rfl
       refine ⟨⟨F15, k + 1, _, t :: met, hP15, ho14.kept (zcf hb15 none) (by simp), zwk hm7 t, hb14.trans (hb15.mono hb14.size), hkl, ?_⟩, ?_⟩
       . rw [hst]; rfl
       . rw [hk15, hk15']
         show l.length - ((k + 1 : Nat) : Int).toNat < l.length - (k : Int).toNat
         omega
  . have hge : decide ((k : Int) < (l.length : Int)) = false := decide_eq_false (by omega)
    have hkl' : k = l.length := by omega
    refine wpIn_seq (wpIn_cond_false (hc8.trans (by rw [hge])) (wpIn_exit ?_))
    show Code.wpIn _ _ _ _ _ _ _
    have hr := rR9 m root l B l.length k (decide ((k : Int) < (l.length : Int)))
    rw [zpE hc1, cnT] at hr
    refine wpIn_seq (zhw okQ.2.2.2.2.2.2 hP8 hr rfl fun F9 a9 w9 hP9 hb9 => ?_)
    refine wpIn_ret ?_
    refine fin hP9 (hb8'.trans (hb9.mono hb8'.size)) ?_
    rw [hkl', List.drop_length] at hp7
    show _ = (zqg m [root] l && zdA m root)
    rw [← hp7]; rfl
end Plc
noncomputable def g124 := zJ (zH (zZ (.p .sMemMemory)) fun a0 => zH (zZ (.i .i64)) fun a1 => zH (zZ (.sl (.i .i64))) fun a2 => zI ((zjY a0 a1 a2), .v (.bool (zfo a0 a1 a2)), []))
theorem zFo : zD 124 g124 := zk (zB Tryz.func124 (by kernel_rfl) rfl) (zg fun x0 a0 h0 => zg fun x1 a1 h1 => zg fun x2 a2 h2 => zj fun hb => (Plc.oks124 a0 a1 a2 hb).ats (.cons (zp h0) (.cons (zp h1) (.cons (zp h2) .nil))))
noncomputable def GPL : Gam := zd2 [(124, g124)] GQ1
theorem zgN : GOk Pr GL GPL := zaH ⟨zFo, trivial⟩ zAs
abbrev R64 := Bulkheadref20Row × Int
def zPa (r : R64) : zT := ⟨.tup [.agg [(zf r.1.first), .sl (.sl (.i .u32)) r.1.messages, (avU r.1.lost)], (zf r.2)], []⟩
def H64 : zS := ⟨fun _ => false, fun _ => ⟨[], []⟩, [(.cell 0 1, .sl (.sl (.i .u32)))], G0, zc7⟩
noncomputable def zsM {R : Type} (ret : R64 -> R) (m : (List Int)) (at_1 : Int) (words : Int) (depth : Int) : Option R := cond (!(zmz m at_1 (ztL words depth))) (some (ret ((⟨0, [], 0⟩ : Bulkheadref20Row), 51))) (cond (zN at_1 m.length) ( cond (decide (((i64.wrap (zx m at_1.toNat)) : Int) > depth)) (some (ret ((⟨0, [], 0⟩ : Bulkheadref20Row), 201))) (cond (zht m (i64.wrap (at_1 + 1)) words depth 0 (i64.wrap (zx m at_1.toNat))) ( cond (!((zdz m (i64.wrap (at_1 + 1)) words depth 0 (i64.wrap (zx m at_1.toNat))).2)) (some (ret ((⟨0, [], 0⟩ : Bulkheadref20Row), 201))) (some (ret ((zdz m (i64.wrap (at_1 + 1)) words depth 0 (i64.wrap (zx m at_1.toNat))).1, 0)))) none)) none)
def zxh (m : (List Int)) (at_1 : Int) (words : Int) (depth : Int) : Option R64 := zsM id m at_1 words depth
def zvt (m : (List Int)) (at_1 : Int) (words : Int) (depth : Int) : R64 := (zxh m at_1 words depth).getD default
def zxV (m : (List Int)) (at_1 : Int) (words : Int) (depth : Int) : Bool := (zxh m at_1 words depth).isSome
theorem zT8 (m : (List Int)) (at_1 : Int) (words : Int) (depth : Int) (hc : zxV m at_1 words depth = true) : Okay Pr GL 64 [.sl (.i .u32) m, (zf at_1), (zf words), (zf depth)] [] (zPa (zvt m at_1 words depth)) := zy (H := H64) (ent := zsM id m at_1 words depth) (entA := zsM zPa m at_1 words depth) zgN zA Tryz.func64 rfl (by kernel_rfl) zPa (fun J => by kernel_rfl) (by simp only [zsM, zc, zt, zu, id]) hc
abbrev R65 := Int × Int
def zPb (r : R65) : zT := ⟨.tup [(zf r.1), (zf r.2)], []⟩
noncomputable def zsN {R : Type} (ret : R65 -> R) (m : (Option Bulkheadref05Memory)) (stage : Int) (words : Int) : Option R := cond (!(((zib m words) : Int) == 0)) (some (ret (0, (zib m words)))) (cond (zjW m stage (i64.wrap (2 + words))) ( cond (!(((zcO m stage (i64.wrap (2 + words))).2 : Int) == 0)) (some (ret (0, (zcO m stage (i64.wrap (2 + words))).2))) (cond (zgd ((zcO m stage (i64.wrap (2 + words))).1) 2) ( cond (!((zci ((zcO m stage (i64.wrap (2 + words))).1) 2).2)) (some (ret (0, 191))) (cond ((zci ((zcO m stage (i64.wrap (2 + words))).1) 2).1.there) (some (ret (1, 0))) (some (ret (0, 0))))) none)) none)
def zxi (m : (Option Bulkheadref05Memory)) (stage : Int) (words : Int) : Option R65 := zsN id m stage words
def zCn (m : (Option Bulkheadref05Memory)) (stage : Int) (words : Int) : R65 := (zxi m stage words).getD default
def zxW (m : (Option Bulkheadref05Memory)) (stage : Int) (words : Int) : Bool := (zxi m stage words).isSome
theorem zT9 (m : (Option Bulkheadref05Memory)) (stage : Int) (words : Int) (hc : zxW m stage words = true) : Okay Pr GL 65 [.op .sBulkheadref05Memory m, (zf stage), (zf words)] [] (zPb (zCn m stage words)) := zy (H := H57) (ent := zsN id m stage words) (entA := zsN zPb m stage words) zgN zA Tryz.func65 rfl (by kernel_rfl) zPb (fun J => by kernel_rfl) (by simp only [zsN, zc, zt, zu, id]) hc
abbrev R66 := Bulkheadref20Row × Int
def zPc (r : R66) : zT := ⟨.tup [.agg [(zf r.1.first), .sl (.sl (.i .u32)) r.1.messages, (avU r.1.lost)], (zf r.2)], []⟩
def H66 : zS := ⟨fun _ => false, fun _ => ⟨[], []⟩, [(.cell 0 1, .sl (.sl (.i .u32)))], G0, zc7⟩
noncomputable def zsO {R : Type} (ret : R66 -> R) (m : (List Int)) (at_1 : Int) (words : Int) (depth : Int) : Option R := cond (!(zmz m at_1 (ztM words depth))) (some (ret ((⟨0, [], 0⟩ : Bulkheadref20Row), 51))) (cond (zN at_1 m.length) ( cond (zN (i64.wrap (at_1 + 1)) m.length) ( cond (decide (((i64.wrap (zx m at_1.toNat)) : Int) >= depth)) (some (ret ((⟨0, [], 0⟩ : Bulkheadref20Row), 201))) (cond (decide (((i64.wrap (zx m ((i64.wrap (at_1 + 1)).toNat))) : Int) > depth)) (some (ret ((⟨0, [], 0⟩ : Bulkheadref20Row), 201))) (cond (((i64.wrap (zx m ((i64.wrap (at_1 + 1)).toNat))) : Int) == 0) (cond (!(((i64.wrap (zx m at_1.toNat)) : Int) == 0)) (some (ret ((⟨0, [], 0⟩ : Bulkheadref20Row), 201))) (cond (zht m (i64.wrap (at_1 + 3)) words depth (i64.wrap (zx m at_1.toNat)) (i64.wrap (zx m ((i64.wrap (at_1 + 1)).toNat)))) ( cond (!((zdz m (i64.wrap (at_1 + 3)) words depth (i64.wrap (zx m at_1.toNat)) (i64.wrap (zx m ((i64.wrap (at_1 + 1)).toNat)))).2)) (some (ret ((⟨0, [], 0⟩ : Bulkheadref20Row), 201))) (cond (zN (i64.wrap (at_1 + 2)) m.length) ( some (ret ((⟨(zdz m (i64.wrap (at_1 + 3)) words depth (i64.wrap (zx m at_1.toNat)) (i64.wrap (zx m ((i64.wrap (at_1 + 1)).toNat)))).1.first, (zdz m (i64.wrap (at_1 + 3)) words depth (i64.wrap (zx m at_1.toNat)) (i64.wrap (zx m ((i64.wrap (at_1 + 1)).toNat)))).1.messages, zx m ((i64.wrap (at_1 + 2)).toNat)⟩ : Bulkheadref20Row), 0))) none)) none)) (cond (zht m (i64.wrap (at_1 + 3)) words depth (i64.wrap (zx m at_1.toNat)) (i64.wrap (zx m ((i64.wrap (at_1 + 1)).toNat)))) ( cond (!((zdz m (i64.wrap (at_1 + 3)) words depth (i64.wrap (zx m at_1.toNat)) (i64.wrap (zx m ((i64.wrap (at_1 + 1)).toNat)))).2)) (some (ret ((⟨0, [], 0⟩ : Bulkheadref20Row), 201))) (cond (zN (i64.wrap (at_1 + 2)) m.length) ( some (ret ((⟨(zdz m (i64.wrap (at_1 + 3)) words depth (i64.wrap (zx m at_1.toNat)) (i64.wrap (zx m ((i64.wrap (at_1 + 1)).toNat)))).1.first, (zdz m (i64.wrap (at_1 + 3)) words depth (i64.wrap (zx m at_1.toNat)) (i64.wrap (zx m ((i64.wrap (at_1 + 1)).toNat)))).1.messages, zx m ((i64.wrap (at_1 + 2)).toNat)⟩ : Bulkheadref20Row), 0))) none)) none)))) none) none)
def zxj (m : (List Int)) (at_1 : Int) (words : Int) (depth : Int) : Option R66 := zsO id m at_1 words depth
def zvu (m : (List Int)) (at_1 : Int) (words : Int) (depth : Int) : R66 := (zxj m at_1 words depth).getD default
def zxX (m : (List Int)) (at_1 : Int) (words : Int) (depth : Int) : Bool := (zxj m at_1 words depth).isSome
theorem zUa (m : (List Int)) (at_1 : Int) (words : Int) (depth : Int) (hc : zxX m at_1 words depth = true) : Okay Pr GL 66 [.sl (.i .u32) m, (zf at_1), (zf words), (zf depth)] [] (zPc (zvu m at_1 words depth)) := zy (H := H66) (ent := zsO id m at_1 words depth) (entA := zsO zPc m at_1 words depth) zgN zA Tryz.func66 rfl (by kernel_rfl) zPc (fun J => by kernel_rfl) (by simp only [zsO, zc, zt, zu, id]) hc
abbrev R67 := (List Int) × Bool × Bool × Int × Bulkheadref05Memory
def zPd (r : R67) : zT := ⟨.tup [.sl (.i .u32) r.1, (zX r.2.1), (zX r.2.2.1), (zf r.2.2.2.1)], [.cells 147 [.sl (.i .u32) r.2.2.2.2.w]]⟩
def H67 : zS := ⟨fun _ => false, fun _ => ⟨[], []⟩, [(.slot 0, .sl (.i .u32))], G0, zc7⟩
noncomputable def zsP {R : Type} (ret : R67 -> R) (port : Int) (words : Int) (w : (List Int)) : Option R := cond (!(((zib (some (⟨w⟩ : Bulkheadref05Memory)) words) : Int) == 0)) (some (ret ([], false, false, (zib (some (⟨w⟩ : Bulkheadref05Memory)) words), (⟨w⟩ : Bulkheadref05Memory)))) (cond (zjW (some (⟨w⟩ : Bulkheadref05Memory)) port (i64.wrap (3 + words))) ( cond (!(((zcO (some (⟨w⟩ : Bulkheadref05Memory)) port (i64.wrap (3 + words))).2 : Int) == 0)) (some (ret ([], false, false, (zcO (some (⟨w⟩ : Bulkheadref05Memory)) port (i64.wrap (3 + words))).2, (⟨w⟩ : Bulkheadref05Memory)))) (cond (zgd ((zcO (some (⟨w⟩ : Bulkheadref05Memory)) port (i64.wrap (3 + words))).1) 3) ( cond (!((zci ((zcO (some (⟨w⟩ : Bulkheadref05Memory)) port (i64.wrap (3 + words))).1) 3).2)) (some (ret ([], false, false, 191, (⟨w⟩ : Bulkheadref05Memory)))) (some (ret ((zci ((zcO (some (⟨w⟩ : Bulkheadref05Memory)) port (i64.wrap (3 + words))).1) 3).1.message, (zci ((zcO (some (⟨w⟩ : Bulkheadref05Memory)) port (i64.wrap (3 + words))).1) 3).1.fresh, (zci ((zcO (some (⟨w⟩ : Bulkheadref05Memory)) port (i64.wrap (3 + words))).1) 3).1.there, 0, (⟨w⟩ : Bulkheadref05Memory))))) none)) none)
def zxk (port : Int) (words : Int) (w : (List Int)) : Option R67 := zsP id port words w
def ztS (port : Int) (words : Int) (w : (List Int)) : R67 := (zxk port words w).getD default
def zxY (port : Int) (words : Int) (w : (List Int)) : Bool := (zxk port words w).isSome
theorem zUb (port : Int) (words : Int) (w : (List Int)) (hc : zxY port words w = true) : Okay Pr GL 67 [.ref 0 0, (zf port), (zf words)] [.cells 147 [.sl (.i .u32) w]] (zPd (ztS port words w)) := zy (H := H67) (ent := zsP id port words w) (entA := zsP zPd port words w) zgN zA Tryz.func67 rfl (by kernel_rfl) zPd (fun J => by kernel_rfl) (by simp only [zsP, zc, zt, zu, id]) hc
abbrev R85 := Int × MemMemory
def zIh (r : R85) : zT := ⟨(zf r.1), [.cells 65 [.own 1], .arr 57 (.i .u32) r.2.words]⟩
inductive L85 where | l0 (x0 : Int) | l4 (x0 : Int) (x1 : List Int) (x2 : List Int) (x3 : List Int)
def zS8 : L85 -> Nat | .l0 _ => 0 | .l4 _ _ _ _ => 4
def H85 : zS := htt [] [(0, ⟨z7 [0, 1, 2, 3, 9, 34, 35, 36] 98 0, []⟩), (4, ⟨z7 [0, 1, 2, 3, 9, 14, 63, 64, 65] 98 0, []⟩)] []
noncomputable def st85 (root : Int) (tabs : (List Int)) (regions : (List Region)) (ws : List Int) : L85 -> St | .l0 x0 => stt [(0, .ref 0 0), (1, (zf root)), (2, .sl (.i .i64) tabs), (3, .sl .sRegion regions), (9, .fn (.func 158) [] [.ref 2 0]), (34, .sl .sRegion regions), (35, (zf regions.length)), (36, (zf x0))] 98 [.cells 65 [.own 1], .arr 57 (.i .u32) ws, .cells 245 (zav (.i .i64) 256 ((zf6 regions).1))] 2 | .l4 x0 x1 x2 x3 => stt [(0, .ref 0 0), (1, (zf root)), (2, .sl (.i .i64) tabs), (3, .sl .sRegion regions), (9, .fn (.func 158) [] [.ref 2 0]), (14, .own 3), (63, .sl (.i .i64) ((zgS (nrm (.i .i64) 256 ((zf6 regions).1))).1)), (64, (zf (((zgS (nrm (.i .i64) 256 ((zf6 regions).1))).1).length))), (65, (zf x0))] 98 [.cells 65 [.own 1], .arr 57 (.i .u32) x1, .cells 245 (zav (.i .i64) 256 x2), .arr 57 (.i .u32) x3] 2
noncomputable def zfF {R : Type} (ret : R85 -> R) (root : Int) (tabs : (List Int)) (regions : (List Region)) (ws : List Int) (j : L85 -> Option R) : L85 -> Option R | .l0 x0 =>let y1 := (⟨ws⟩ : MemMemory); let y3 := nrm (.i .i64) 256 ((zf6 regions).1); let y4 := zh regions x0.toNat; let y2 := i64.wrap ((i64.wrap (y4.frame + y4.pages)) - 1); let y5 := some y1;  cond (decide (x0 < regions.length)) (cond (zN x0 regions.length) ( cond (zge y5 y2) ( cond (!(zdA y5 y2)) (some (ret (95, y1))) (j (.l0 (i64.wrap (x0 + 1))))) none) none) (cond (zrg y3) ( cond (!((((zgS y3).1).length : Int) == tabs.length)) (some (ret (94, y1))) (cond (zjY y5 root tabs) ( cond (!(zfo y5 root tabs)) (some (ret (91, y1))) (cond (decide ((16 : Int) = 16) && decide (0 <= 16) && leB (16 * 4) 140737488355328) (j (.l4 0 ws ((zgS y3).2) (List.replicate 16 (0 : Int)))) none)) none)) none) | .l4 x0 x1 x2 x3 =>let y1 := (zgS (nrm (.i .i64) 256 ((zf6 regions).1))).1; let y3 := i64.wrap (root * 16); let y4 := zx y1 x0.toNat; let y5 := i64.wrap (zx tabs x0.toNat * 16); let y6 := nrm (.i .i64) 256 x2; let y2 := ztN regions y4 y6; let y7 := zN x0 tabs.length;  cond (decide (x0 < y1.length)) (cond (zN x0 y1.length) ( cond y7 ( cond (zN y4 x3.length) ( cond y7 ( cond (zrh regions y4 y6) ( cond (zjZ y5 (y2.1) x1) ( j (.l4 (i64.wrap (x0 + 1)) ((zkt y5 (y2.1) x1).2.words) (y2.2) (List.set x3 (y4.toNat) ((zks (zx tabs x0.toNat) 0).1)))) none) none) none) none) none) none) (cond (zjZ y3 x3 x1) (some (ret ((zkt y3 x3 x1).1, (zkt y3 x3 x1).2))) none)
noncomputable def zoy {R : Type} (ret : R85 -> R) (root : Int) (tabs : (List Int)) (regions : (List Region)) (ws : List Int) (j : L85 -> Option R) : Option R := cond (decide ((regions.length : Int) > 8)) (some (ret (2, (⟨ws⟩ : MemMemory)))) (cond (decide ((tabs.length : Int) > 16)) (some (ret (2, (⟨ws⟩ : MemMemory)))) (cond (zrf regions) (cond (!((zf6 regions).2)) (some (ret (95, (⟨ws⟩ : MemMemory)))) (j (.l0 0))) none))
theorem ct85 (root : Int) (tabs : (List Int)) (regions : (List Region)) (ws : List Int) (l : L85) : CT fun j => zfF id root tabs regions ws j l := by cases l <;> (dsimp only [zfF]; repeat (first | exact ctJ _ | exact ctK _ | apply ctC))
def zgU (root : Int) (tabs : (List Int)) (regions : (List Region)) (ws : List Int) : L85 -> Option R85 := lfp (zfF id root tabs regions ws)
theorem zis (root : Int) (tabs : (List Int)) (regions : (List Region)) (ws : List Int) (l : L85) : zgU root tabs regions ws l = zfF id root tabs regions ws (zgU root tabs regions ws) l := zL (ct85 root tabs regions ws) l
def zxx (root : Int) (tabs : (List Int)) (regions : (List Region)) (ws : List Int) : Option R85 := zoy id root tabs regions ws (zgU root tabs regions ws)
def ztV (root : Int) (tabs : (List Int)) (regions : (List Region)) (ws : List Int) : R85 := (zxx root tabs regions ws).getD default
def zx6 (root : Int) (tabs : (List Int)) (regions : (List Region)) (ws : List Int) : Bool := (zxx root tabs regions ws).isSome
theorem zUt (root : Int) (tabs : (List Int)) (regions : (List Region)) (ws : List Int) (hc : zx6 root tabs regions ws = true) : Okay Pr GL 85 [.ref 0 0, (zf root), .sl (.i .i64) tabs, .sl .sRegion regions] [.cells 65 [.own 1], .arr 57 (.i .u32) ws] (zIh (ztV root tabs regions ws)) := zG (H := H85) (bod := zfF id root tabs regions ws) (ent := zoy id root tabs regions ws) (bodA := zfF zIh root tabs regions ws) (entA := zoy zIh root tabs regions ws) zgN zA Tryz.func85 rfl (by kernel_rfl) zIh zS8 (st85 root tabs regions ws) (fun J l => by cases l <;> kernel_rfl) (fun J => by kernel_rfl) (fun s l => by cases l <;> simp only [zfF, zc, zt, zu, id]) (fun s => by simp only [zoy, zc, zt, zu, id]) (ct85 root tabs regions ws) (by dsimp only [zoy]; repeat (first | exact ctJ _ | exact ctK _ | apply ctC)) hc
abbrev zD5 := (List Int) × Int
def zC9 (r : zD5) : zT := ⟨.tup [.sl (.i .u32) r.1, (zf r.2)], []⟩
def H120 : zS := ⟨fun _ => false, fun _ => ⟨[], []⟩, [(.slot 0, .sl (.i .u32))], G0, zc7⟩
noncomputable def zlv {R : Type} (ret : zD5 -> R) (m : (Option MemMemory)) (at_1 : Int) (words : Int) (head : Int) : Option R := cond (zd8 m at_1 (i64.wrap (head + words))) ( cond (!(((z6 m at_1 (i64.wrap (head + words))).2 : Int) == 0)) (some (ret ([], (z6 m at_1 (i64.wrap (head + words))).2))) (cond (znd ((z6 m at_1 (i64.wrap (head + words))).1) head) ( cond (!((zkx ((z6 m at_1 (i64.wrap (head + words))).1) head).2)) (some (ret ([], 191))) (some (ret ((zkx ((z6 m at_1 (i64.wrap (head + words))).1) head).1, 0)))) none)) none
def zqF (m : (Option MemMemory)) (at_1 : Int) (words : Int) (head : Int) : Option zD5 := zlv id m at_1 words head
def zfn (m : (Option MemMemory)) (at_1 : Int) (words : Int) (head : Int) : zD5 := (zqF m at_1 words head).getD default
def zjX (m : (Option MemMemory)) (at_1 : Int) (words : Int) (head : Int) : Bool := (zqF m at_1 words head).isSome
theorem zNB (m : (Option MemMemory)) (at_1 : Int) (words : Int) (head : Int) (hc : zjX m at_1 words head = true) : Okay Pr GL 120 [.op .sMemMemory m, (zf at_1), (zf words), (zf head)] [] (zC9 (zfn m at_1 words head)) := zy (H := H120) (ent := zlv id m at_1 words head) (entA := zlv zC9 m at_1 words head) zgN zA Tryz.func120 rfl (by kernel_rfl) zC9 (fun J => by kernel_rfl) (by simp only [zlv, zc, zt, zu, id]) hc
abbrev zEp := Bool
def zDt (r : zEp) : zT := ⟨(zX r), []⟩
noncomputable def zlK {R : Type} (ret : zEp -> R) (f : QueueForm) (m : (Option MemMemory)) (at_2 : Int) (head : Int) : Option R := cond (zd8 m at_2 (zac f head)) (some (ret (((z6 m at_2 (zac f head)).2 : Int) == 0))) none
def zqU (f : QueueForm) (m : (Option MemMemory)) (at_2 : Int) (head : Int) : Option zEp := zlK id f m at_2 head
def zo9 (f : QueueForm) (m : (Option MemMemory)) (at_2 : Int) (head : Int) : zEp := (zqU f m at_2 head).getD default
def zj0 (f : QueueForm) (m : (Option MemMemory)) (at_2 : Int) (head : Int) : Bool := (zqU f m at_2 head).isSome
theorem zNV (f : QueueForm) (m : (Option MemMemory)) (at_2 : Int) (head : Int) (hc : zj0 f m at_2 head = true) : Okay Pr GL 152 [.agg [(zf f.words), (zf f.depth)], .op .sMemMemory m, (zf at_2), (zf head)] [] (zDt (zo9 f m at_2 head)) := zy (H := H57) (ent := zlK id f m at_2 head) (entA := zlK zDt f m at_2 head) zgN zA Tryz.func152 rfl (by kernel_rfl) zDt (fun J => by kernel_rfl) (by simp only [zlK, zc, zt, zu, id]) hc
abbrev zEq := QueueRow × Bool
def zDu (r : zEq) : zT := ⟨.tup [.agg [(avU r.1.first), (avU r.1.lost), .sl (.sl (.i .u32)) r.1.messages], (zX r.2)], []⟩
noncomputable def zlL {R : Type} (ret : zEq -> R) (f : QueueForm) (m : (Option MemMemory)) (at_2 : Int) : Option R := cond (zd8 m at_2 (zac f 1)) ( cond (inS 1 (((z6 m at_2 (zac f 1)).1).length) ((z6 m at_2 (zac f 1)).1).length) ( cond (zN 0 ((z6 m at_2 (zac f 1)).1).length) ( cond (zj1 f ((((z6 m at_2 (zac f 1)).1).take (((z6 m at_2 (zac f 1)).1).length : Int).toNat).drop 1) 0 (zx ((z6 m at_2 (zac f 1)).1) 0)) ( some (ret ((⟨0, 0, (zf7 f ((((z6 m at_2 (zac f 1)).1).take (((z6 m at_2 (zac f 1)).1).length : Int).toNat).drop 1) 0 (zx ((z6 m at_2 (zac f 1)).1) 0)).1⟩ : QueueRow), (zf7 f ((((z6 m at_2 (zac f 1)).1).take (((z6 m at_2 (zac f 1)).1).length : Int).toNat).drop 1) 0 (zx ((z6 m at_2 (zac f 1)).1) 0)).2))) none) none) none) none
def zqV (f : QueueForm) (m : (Option MemMemory)) (at_2 : Int) : Option zEq := zlL id f m at_2
def zkv (f : QueueForm) (m : (Option MemMemory)) (at_2 : Int) : zEq := (zqV f m at_2).getD default
def zrp (f : QueueForm) (m : (Option MemMemory)) (at_2 : Int) : Bool := (zqV f m at_2).isSome
theorem zNW (f : QueueForm) (m : (Option MemMemory)) (at_2 : Int) (hc : zrp f m at_2 = true) : Okay Pr GL 153 [.agg [(zf f.words), (zf f.depth)], .op .sMemMemory m, (zf at_2)] [] (zDu (zkv f m at_2)) := zy (H := H57) (ent := zlL id f m at_2) (entA := zlL zDu f m at_2) zgN zA Tryz.func153 rfl (by kernel_rfl) zDu (fun J => by kernel_rfl) (by simp only [zlL, zc, zt, zu, id]) hc
abbrev zEr := QueueRow × Bool
def zDv (r : zEr) : zT := ⟨.tup [.agg [(avU r.1.first), (avU r.1.lost), .sl (.sl (.i .u32)) r.1.messages], (zX r.2)], []⟩
noncomputable def zlM {R : Type} (ret : zEr -> R) (f : QueueForm) (m : (Option MemMemory)) (at_2 : Int) : Option R := cond (zd8 m at_2 (zac f 3)) ( cond (inS 3 (((z6 m at_2 (zac f 3)).1).length) ((z6 m at_2 (zac f 3)).1).length) ( cond (zN 0 ((z6 m at_2 (zac f 3)).1).length) ( cond (zN 1 ((z6 m at_2 (zac f 3)).1).length) ( cond (zj1 f ((((z6 m at_2 (zac f 3)).1).take (((z6 m at_2 (zac f 3)).1).length : Int).toNat).drop 3) (zx ((z6 m at_2 (zac f 3)).1) 0) (zx ((z6 m at_2 (zac f 3)).1) 1)) ( cond (zN 0 ((z6 m at_2 (zac f 3)).1).length) ( cond (zN 2 ((z6 m at_2 (zac f 3)).1).length) ( cond ((zf7 f ((((z6 m at_2 (zac f 3)).1).take (((z6 m at_2 (zac f 3)).1).length : Int).toNat).drop 3) (zx ((z6 m at_2 (zac f 3)).1) 0) (zx ((z6 m at_2 (zac f 3)).1) 1)).2) (cond (zN 1 ((z6 m at_2 (zac f 3)).1).length) ( cond (decide ((zx ((z6 m at_2 (zac f 3)).1) 1 : Int) > 0)) (some (ret ((⟨zx ((z6 m at_2 (zac f 3)).1) 0, zx ((z6 m at_2 (zac f 3)).1) 2, (zf7 f ((((z6 m at_2 (zac f 3)).1).take (((z6 m at_2 (zac f 3)).1).length : Int).toNat).drop 3) (zx ((z6 m at_2 (zac f 3)).1) 0) (zx ((z6 m at_2 (zac f 3)).1) 1)).1⟩ : QueueRow), true))) (cond (zN 0 ((z6 m at_2 (zac f 3)).1).length) ( some (ret ((⟨zx ((z6 m at_2 (zac f 3)).1) 0, zx ((z6 m at_2 (zac f 3)).1) 2, (zf7 f ((((z6 m at_2 (zac f 3)).1).take (((z6 m at_2 (zac f 3)).1).length : Int).toNat).drop 3) (zx ((z6 m at_2 (zac f 3)).1) 0) (zx ((z6 m at_2 (zac f 3)).1) 1)).1⟩ : QueueRow), ((zx ((z6 m at_2 (zac f 3)).1) 0 : Int) == 0)))) none)) none) (some (ret ((⟨zx ((z6 m at_2 (zac f 3)).1) 0, zx ((z6 m at_2 (zac f 3)).1) 2, (zf7 f ((((z6 m at_2 (zac f 3)).1).take (((z6 m at_2 (zac f 3)).1).length : Int).toNat).drop 3) (zx ((z6 m at_2 (zac f 3)).1) 0) (zx ((z6 m at_2 (zac f 3)).1) 1)).1⟩ : QueueRow), false)))) none) none) none) none) none) none) none
def zqW (f : QueueForm) (m : (Option MemMemory)) (at_2 : Int) : Option zEr := zlM id f m at_2
def zkw (f : QueueForm) (m : (Option MemMemory)) (at_2 : Int) : zEr := (zqW f m at_2).getD default
def zrq (f : QueueForm) (m : (Option MemMemory)) (at_2 : Int) : Bool := (zqW f m at_2).isSome
theorem zNX (f : QueueForm) (m : (Option MemMemory)) (at_2 : Int) (hc : zrq f m at_2 = true) : Okay Pr GL 154 [.agg [(zf f.words), (zf f.depth)], .op .sMemMemory m, (zf at_2)] [] (zDv (zkw f m at_2)) := zy (H := H57) (ent := zlM id f m at_2) (entA := zlM zDv f m at_2) zgN zA Tryz.func154 rfl (by kernel_rfl) zDv (fun J => by kernel_rfl) (by simp only [zlM, zc, zt, zu, id]) hc
def g64 := zJ (zH (zZ (.sl (.i .u32))) fun a0 => zH (zZ (.i .i64)) fun a1 => zH (zZ (.i .i64)) fun a2 => zH (zZ (.i .i64)) fun a3 => zI ((zxV a0 a1 a2 a3), .tup [.agg [(zf ((zvt a0 a1 a2 a3).1.first)), .sl (.sl (.i .u32)) ((zvt a0 a1 a2 a3).1.messages), (avU ((zvt a0 a1 a2 a3).1.lost))], (zf ((zvt a0 a1 a2 a3).2))], []))
theorem zLU : zD 64 g64 := zk (zB Tryz.func64 (by kernel_rfl) rfl) (zg fun x0 a0 h0 => zg fun x1 a1 h1 => zg fun x2 a2 h2 => zg fun x3 a3 h3 => zj fun hb => (zT8 a0 a1 a2 a3 hb).ats (.cons (zp h0) (.cons (zp h1) (.cons (zp h2) (.cons (zp h3) .nil)))))
def g65 := zJ (zH (zZ (.p .sBulkheadref05Memory)) fun a0 => zH (zZ (.i .i64)) fun a1 => zH (zZ (.i .i64)) fun a2 => zI ((zxW a0 a1 a2), .tup [(zf ((zCn a0 a1 a2).1)), (zf ((zCn a0 a1 a2).2))], []))
theorem zLV : zD 65 g65 := zk (zB Tryz.func65 (by kernel_rfl) rfl) (zg fun x0 a0 h0 => zg fun x1 a1 h1 => zg fun x2 a2 h2 => zj fun hb => (zT9 a0 a1 a2 hb).ats (.cons (zp h0) (.cons (zp h1) (.cons (zp h2) .nil))))
def g66 := zJ (zH (zZ (.sl (.i .u32))) fun a0 => zH (zZ (.i .i64)) fun a1 => zH (zZ (.i .i64)) fun a2 => zH (zZ (.i .i64)) fun a3 => zI ((zxX a0 a1 a2 a3), .tup [.agg [(zf ((zvu a0 a1 a2 a3).1.first)), .sl (.sl (.i .u32)) ((zvu a0 a1 a2 a3).1.messages), (avU ((zvu a0 a1 a2 a3).1.lost))], (zf ((zvu a0 a1 a2 a3).2))], []))
theorem zLW : zD 66 g66 := zk (zB Tryz.func66 (by kernel_rfl) rfl) (zg fun x0 a0 h0 => zg fun x1 a1 h1 => zg fun x2 a2 h2 => zg fun x3 a3 h3 => zj fun hb => (zUa a0 a1 a2 a3 hb).ats (.cons (zp h0) (.cons (zp h1) (.cons (zp h2) (.cons (zp h3) .nil)))))
def g67 (args : List AV) (hp : List Blk) : Option (Bool × AV × List Blk) :=
 match args, hp with
 | [.ref 0 0, .v (.int .i64 y0), .v (.int .i64 y1)], [.cells 147 [.sl (.i .u32) y2]] => some ((zxY y0 y1 y2), .tup [.sl (.i .u32) ((ztS y0 y1 y2).1), (zX ((ztS y0 y1 y2).2.1)), (zX ((ztS y0 y1 y2).2.2.1)), (zf ((ztS y0 y1 y2).2.2.2.1))], [.cells 147 [.sl (.i .u32) ((ztS y0 y1 y2).2.2.2.2.w)]])
 | _, _ => none
theorem zLX : zD 67 g67 := fun args hp b r hp' h hb => by
 unfold g67 at h
 split at h
 . cases h; exact ⟨zB Tryz.func67 (by kernel_rfl) rfl, zUb _ _ _ hb⟩
 . cases h
def g85 (args : List AV) (hp : List Blk) : Option (Bool × AV × List Blk) :=
 match args, hp with
 | [.ref 0 0, .v (.int .i64 y0), .sl (.i .i64) y1, .sl .sRegion y2], [.cells 65 [.own 1], .arr 57 (.i .u32) y3] => some ((zx6 y0 y1 y2 y3), (zf ((ztV y0 y1 y2 y3).1)), [.cells 65 [.own 1], .arr 57 (.i .u32) ((ztV y0 y1 y2 y3).2.words)])
 | _, _ => none
theorem zMf : zD 85 g85 := fun args hp b r hp' h hb => by
 unfold g85 at h
 split at h
 . cases h; exact ⟨zB Tryz.func85 (by kernel_rfl) rfl, zUt _ _ _ _ hb⟩
 . cases h
def g120 := zJ (zH (zZ (.p .sMemMemory)) fun a0 => zH (zZ (.i .i64)) fun a1 => zH (zZ (.i .i64)) fun a2 => zH (zZ (.i .i64)) fun a3 => zI ((zjX a0 a1 a2 a3), .tup [.sl (.i .u32) ((zfn a0 a1 a2 a3).1), (zf ((zfn a0 a1 a2 a3).2))], []))
theorem zFk : zD 120 g120 := zk (zB Tryz.func120 (by kernel_rfl) rfl) (zg fun x0 a0 h0 => zg fun x1 a1 h1 => zg fun x2 a2 h2 => zg fun x3 a3 h3 => zj fun hb => (zNB a0 a1 a2 a3 hb).ats (.cons (zp h0) (.cons (zp h1) (.cons (zp h2) (.cons (zp h3) .nil)))))
def g152 := zJ (zH (rdS .sQueueForm) fun a0 => zH (zZ (.p .sMemMemory)) fun a1 => zH (zZ (.i .i64)) fun a2 => zH (zZ (.i .i64)) fun a3 => zI ((zj0 a0 a1 a2 a3), (zX (zo9 a0 a1 a2 a3)), []))
theorem zFQ : zD 152 g152 := zk (zB Tryz.func152 (by kernel_rfl) rfl) (zg fun x0 a0 h0 => zg fun x1 a1 h1 => zg fun x2 a2 h2 => zg fun x3 a3 h3 => zj fun hb => (zNV a0 a1 a2 a3 hb).ats (.cons (zP h0) (.cons (zp h1) (.cons (zp h2) (.cons (zp h3) .nil)))))
def g153 := zJ (zH (rdS .sQueueForm) fun a0 => zH (zZ (.p .sMemMemory)) fun a1 => zH (zZ (.i .i64)) fun a2 => zI ((zrp a0 a1 a2), .tup [.agg [(avU ((zkv a0 a1 a2).1.first)), (avU ((zkv a0 a1 a2).1.lost)), .sl (.sl (.i .u32)) ((zkv a0 a1 a2).1.messages)], (zX ((zkv a0 a1 a2).2))], []))
theorem zFR : zD 153 g153 := zk (zB Tryz.func153 (by kernel_rfl) rfl) (zg fun x0 a0 h0 => zg fun x1 a1 h1 => zg fun x2 a2 h2 => zj fun hb => (zNW a0 a1 a2 hb).ats (.cons (zP h0) (.cons (zp h1) (.cons (zp h2) .nil))))
def g154 := zJ (zH (rdS .sQueueForm) fun a0 => zH (zZ (.p .sMemMemory)) fun a1 => zH (zZ (.i .i64)) fun a2 => zI ((zrq a0 a1 a2), .tup [.agg [(avU ((zkw a0 a1 a2).1.first)), (avU ((zkw a0 a1 a2).1.lost)), .sl (.sl (.i .u32)) ((zkw a0 a1 a2).1.messages)], (zX ((zkw a0 a1 a2).2))], []))
theorem zFS : zD 154 g154 := zk (zB Tryz.func154 (by kernel_rfl) rfl) (zg fun x0 a0 h0 => zg fun x1 a1 h1 => zg fun x2 a2 h2 => zj fun hb => (zNX a0 a1 a2 hb).ats (.cons (zP h0) (.cons (zp h1) (.cons (zp h2) .nil))))
noncomputable def GQ2 : Gam := zd2 [(64, g64), (65, g65), (66, g66), (67, g67), (85, g85), (120, g120), (152, g152), (153, g153), (154, g154)] GPL
theorem zj6 : GOk Pr GL GQ2 := zaH ⟨zLU, zLV, zLW, zLX, zMf, zFk, zFQ, zFR, zFS, trivial⟩ zgN
abbrev R33 := Bool
def zOZ (r : R33) : zT := ⟨(zX r), []⟩
noncomputable def zsz {R : Type} (ret : R33 -> R) (h_0 : Channel) (m : (List Int)) (at_2 : Int) : Option R := cond ((h_0.kind : Int) == 2) (cond (zxV m at_2 h_0.words h_0.depth) (some (ret (((zvt m at_2 h_0.words h_0.depth).2 : Int) == 0))) none) (cond (zxW (some (⟨m⟩ : Bulkheadref05Memory)) at_2 h_0.words) (some (ret (((zCn (some (⟨m⟩ : Bulkheadref05Memory)) at_2 h_0.words).2 : Int) == 0))) none)
def zw1 (h_0 : Channel) (m : (List Int)) (at_2 : Int) : Option R33 := zsz id h_0 m at_2
def zG6 (h_0 : Channel) (m : (List Int)) (at_2 : Int) : R33 := (zw1 h_0 m at_2).getD default
def zxH (h_0 : Channel) (m : (List Int)) (at_2 : Int) : Bool := (zw1 h_0 m at_2).isSome
theorem zTE (h_0 : Channel) (m : (List Int)) (at_2 : Int) (hc : zxH h_0 m at_2 = true) : Okay Pr GL 33 [.agg (Ty.enc .sChannel h_0), .sl (.i .u32) m, (zf at_2)] [] (zOZ (zG6 h_0 m at_2)) := zy (H := H57) (ent := zsz id h_0 m at_2) (entA := zsz zOZ h_0 m at_2) zj6 zA Tryz.func33 rfl (by kernel_rfl) zOZ (fun J => by kernel_rfl) (by simp only [zsz, zc, zt, zu, id]) hc
abbrev R34 := Bool
def zO0 (r : R34) : zT := ⟨(zX r), []⟩
noncomputable def zsA {R : Type} (ret : R34 -> R) (h_0 : Channel) (m : (List Int)) (at_2 : Int) : Option R := cond ((h_0.kind : Int) == 2) (cond (zxX m at_2 h_0.words h_0.depth) (some (ret (((zvu m at_2 h_0.words h_0.depth).2 : Int) == 0))) none) (cond (zxY at_2 h_0.words m) (some (ret (((ztS at_2 h_0.words m).2.2.2.1 : Int) == 0))) none)
def zw2 (h_0 : Channel) (m : (List Int)) (at_2 : Int) : Option R34 := zsA id h_0 m at_2
def zG7 (h_0 : Channel) (m : (List Int)) (at_2 : Int) : R34 := (zw2 h_0 m at_2).getD default
def zxI (h_0 : Channel) (m : (List Int)) (at_2 : Int) : Bool := (zw2 h_0 m at_2).isSome
theorem zTF (h_0 : Channel) (m : (List Int)) (at_2 : Int) (hc : zxI h_0 m at_2 = true) : Okay Pr GL 34 [.agg (Ty.enc .sChannel h_0), .sl (.i .u32) m, (zf at_2)] [] (zO0 (zG7 h_0 m at_2)) := zy (H := H57) (ent := zsA id h_0 m at_2) (entA := zsA zO0 h_0 m at_2) zj6 zA Tryz.func34 rfl (by kernel_rfl) zO0 (fun J => by kernel_rfl) (by simp only [zsA, zc, zt, zu, id]) hc
abbrev R41 := AuditFinder
def zHZ (r : R41) : zT := ⟨.tup [], [.cells 103 [(zf r.c.frames), (zf r.c.major), (zf r.c.kernel), (zf r.c.room), .sl (.sl .sWindow) r.c.cores, .sl .sPartition r.c.partitions, .sl .sChannel r.c.channels, (zf r.l.barrier), .sl .sPartitionPlace r.l.partitions, .sl .sChannelPlace r.l.channels, (zf r.l.end_), .op .sMemMemory r.m, .own 2], .dead, .arr 86 .sProblem r.out]⟩
inductive L41 where | l0 (x0 : Int) (x1 : Int) (x2 : Int) (x3 : Int) (x4 : Int) (x5 : List (List Window)) (x6 : List Partition) (x7 : List Channel) (x8 : Int) (x9 : List PartitionPlace) (x10 : List ChannelPlace) (x11 : Int) (x12 : Option MemMemory) (x13 : List Problem) | l4 (x0 : Int) (x1 : Int) (x2 : Int) (x3 : Int) (x4 : Int) (x5 : Int) (x6 : Int) (x7 : List (List Window)) (x8 : List Partition) (x9 : List Channel) (x10 : Int) (x11 : List PartitionPlace) (x12 : List ChannelPlace) (x13 : Int) (x14 : Option MemMemory) (x15 : List Problem) | l27 (x13 : Int) (x14 : Int) (x15 : Int) (x0 : Int) (x1 : Int) (x2 : Int) (x3 : Int) (x4 : List (List Window)) (x5 : List Partition) (x6 : List Channel) (x7 : Int) (x8 : List PartitionPlace) (x9 : List ChannelPlace) (x10 : Int) (x11 : Option MemMemory) (x12 : List Problem)
def zSQ : L41 -> Nat | .l0 _ _ _ _ _ _ _ _ _ _ _ _ _ _ => 0 | .l4 _ _ _ _ _ _ _ _ _ _ _ _ _ _ _ _ => 4 | .l27 _ _ _ _ _ _ _ _ _ _ _ _ _ _ _ _ => 27
def H41 : zS := htt [13] [(0, ⟨z7 [0, 1, 5, 50, 51, 52] 82 0, [(.box 0 12, .mv 86 .sProblem)]⟩), (4, ⟨z7 [0, 1, 5, 8, 50, 51, 52, 56] 82 0, [(.box 0 12, .mv 86 .sProblem)]⟩), (27, ⟨z7 [0, 1, 5, 8, 50, 51, 52, 56] 82 0, [(.box 0 12, .mv 86 .sProblem)]⟩)] [(.box 0 12, .mv 86 .sProblem)]
noncomputable def st41 (p : Int) (c : Config) (lay : Layout) (m : (Option MemMemory)) (out : List Problem) : L41 -> St | .l0 x0 x1 x2 x3 x4 x5 x6 x7 x8 x9 x10 x11 x12 x13 => stt [(0, .ref 0 0), (1, (zf p)), (5, .ref 3 0), (50, .own 5), (51, (zf ((([(zb lay.partitions p.toNat).root] : List Int) ++ (zb lay.partitions p.toNat).tables).length))), (52, (zf x0))] 82 [.cells 103 (avG x1 x2 x3 x4 x5 x6 x7 x8 x9 x10 x11 x12 2), .dead, .arr 86 .sProblem x13, .cells 65 [.own 4], .arr 57 (.i .u32) ((ztV ((zb lay.partitions p.toNat).root) ((zb lay.partitions p.toNat).tables) ((za c.partitions p.toNat).regions) ((zqm c.frames).1.words)).2.words), .arr 3 (.i .i64) (([(zb lay.partitions p.toNat).root] : List Int) ++ (zb lay.partitions p.toNat).tables)] 2 | .l4 x0 x1 x2 x3 x4 x5 x6 x7 x8 x9 x10 x11 x12 x13 x14 x15 => stt [(0, .ref 0 0), (1, (zf p)), (5, .ref 3 0), (8, (zf x0)), (50, .own 5), (51, (zf ((([(zb lay.partitions p.toNat).root] : List Int) ++ (zb lay.partitions p.toNat).tables).length))), (52, (zf x1)), (56, (zf x2))] 82 [.cells 103 (avG x3 x4 x5 x6 x7 x8 x9 x10 x11 x12 x13 x14 2), .dead, .arr 86 .sProblem x15, .cells 65 [.own 4], .arr 57 (.i .u32) ((ztV ((zb lay.partitions p.toNat).root) ((zb lay.partitions p.toNat).tables) ((za c.partitions p.toNat).regions) ((zqm c.frames).1.words)).2.words), .arr 3 (.i .i64) (([(zb lay.partitions p.toNat).root] : List Int) ++ (zb lay.partitions p.toNat).tables)] 2 | .l27 x13 x14 x15 x0 x1 x2 x3 x4 x5 x6 x7 x8 x9 x10 x11 x12 => stt [(0, .ref 0 0), (1, (zf p)), (5, .ref 3 0), (8, (zf x13)), (50, .own 5), (51, (zf ((([(zb lay.partitions p.toNat).root] : List Int) ++ (zb lay.partitions p.toNat).tables).length))), (52, (zf x14)), (56, (zf x15))] 82 [.cells 103 (avG x0 x1 x2 x3 x4 x5 x6 x7 x8 x9 x10 x11 2), .dead, .arr 86 .sProblem x12, .cells 65 [.own 4], .arr 57 (.i .u32) ((ztV ((zb lay.partitions p.toNat).root) ((zb lay.partitions p.toNat).tables) ((za c.partitions p.toNat).regions) ((zqm c.frames).1.words)).2.words), .arr 3 (.i .i64) (([(zb lay.partitions p.toNat).root] : List Int) ++ (zb lay.partitions p.toNat).tables)] 2
noncomputable def zfi {R : Type} (ret : R41 -> R) (p : Int) (c : Config) (lay : Layout) (m : (Option MemMemory)) (out : List Problem) (j : L41 -> Option R) : L41 -> Option R | .l0 x0 x1 x2 x3 x4 x5 x6 x7 x8 x9 x10 x11 x12 x13 =>let y2 := zb lay.partitions p.toNat; let y1 := (([y2.root] : List Int) ++ y2.tables);  cond (decide (x0 < y1.length)) (cond (zN x0 y1.length) ( j (.l4 (zx y1 x0.toNat) x0 0 x1 x2 x3 x4 x5 x6 x7 x8 x9 x10 x11 x12 x13)) none) (some (ret (⟨(⟨x1, x2, x3, x4, x5, x6, x7⟩ : Config), (⟨x8, x9, x10, x11⟩ : Layout), x12, x13⟩ : AuditFinder))) | .l4 x0 x1 x2 x3 x4 x5 x6 x7 x8 x9 x10 x11 x12 x13 x14 x15 =>let y2 := i64.wrap ((i64.wrap (16 * x0)) + x2); let y4 := (⟨x3, x4, x5, x6, x7, x8, x9⟩ : Config); let y5 := (⟨x10, x11, x12, x13⟩ : Layout); let y6 := zb lay.partitions p.toNat; let y3 := (ztV (y6.root) (y6.tables) ((za c.partitions p.toNat).regions) ((zqm c.frames).1.words)).2; let y7 := (⟨y4, y5, x14, x15⟩ : AuditFinder); let y8 := (⟨1, p, y2⟩ : Problem); let y1 := zcP [y8] y4 y5 x14 x15;  cond (decide (x2 < 16)) (cond (zgh (some y3) y2) ( cond (zdT (some y7) y2) ( cond (!(((zjA (some y3) y2).1 : Int) == (zii (some y7) y2))) (cond (zey [y8] y4 y5 x14 x15) ( j (.l27 x0 x1 x2 (y1.c.frames) (y1.c.major) (y1.c.kernel) (y1.c.room) (y1.c.cores) (y1.c.partitions) (y1.c.channels) (y1.l.barrier) (y1.l.partitions) (y1.l.channels) (y1.l.end_) (y1.m) (y1.out))) none) (j (.l27 x0 x1 x2 x3 x4 x5 x6 x7 x8 x9 x10 x11 x12 x13 x14 x15))) none) none) (j (.l0 (i64.wrap (x1 + 1)) x3 x4 x5 x6 x7 x8 x9 x10 x11 x12 x13 x14 x15)) | .l27 x13 x14 x15 x0 x1 x2 x3 x4 x5 x6 x7 x8 x9 x10 x11 x12 => j (.l4 x13 x14 (i64.wrap (x15 + 1)) x0 x1 x2 x3 x4 x5 x6 x7 x8 x9 x10 x11 x12)
noncomputable def zoj {R : Type} (ret : R41 -> R) (p : Int) (c : Config) (lay : Layout) (m : (Option MemMemory)) (out : List Problem) (j : L41 -> Option R) : Option R := cond (zN p lay.partitions.length) ( cond (zx5 c.frames) ( cond (zN p c.partitions.length) ( cond (zx6 ((zb lay.partitions p.toNat).root) ((zb lay.partitions p.toNat).tables) ((za c.partitions p.toNat).regions) ((zqm c.frames).1.words)) ( cond (leB ((([(zb lay.partitions p.toNat).root] : List Int).length + ((zb lay.partitions p.toNat).tables : List Int).length) * 8) 140737488355328) ( j (.l0 0 c.frames c.major c.kernel c.room c.cores c.partitions c.channels lay.barrier lay.partitions lay.channels lay.end_ m out)) none) none) none) none) none
theorem ct41 (p : Int) (c : Config) (lay : Layout) (m : (Option MemMemory)) (out : List Problem) (l : L41) : CT fun j => zfi id p c lay m out j l := by cases l <;> (dsimp only [zfi]; repeat (first | exact ctJ _ | exact ctK _ | apply ctC))
def zdF (p : Int) (c : Config) (lay : Layout) (m : (Option MemMemory)) (out : List Problem) : L41 -> Option R41 := lfp (zfi id p c lay m out)
theorem zga (p : Int) (c : Config) (lay : Layout) (m : (Option MemMemory)) (out : List Problem) (l : L41) : zdF p c lay m out l = zfi id p c lay m out (zdF p c lay m out) l := zL (ct41 p c lay m out) l
def zw9 (p : Int) (c : Config) (lay : Layout) (m : (Option MemMemory)) (out : List Problem) : Option R41 := zoj id p c lay m out (zdF p c lay m out)
def zgM (p : Int) (c : Config) (lay : Layout) (m : (Option MemMemory)) (out : List Problem) : R41 := (zw9 p c lay m out).getD default
def zxN (p : Int) (c : Config) (lay : Layout) (m : (Option MemMemory)) (out : List Problem) : Bool := (zw9 p c lay m out).isSome
theorem zTM (p : Int) (c : Config) (lay : Layout) (m : (Option MemMemory)) (out : List Problem) (hc : zxN p c lay m out = true) : Okay Pr GL 41 [.ref 0 0, (zf p)] [.cells 103 (avF c lay m 1), .arr 86 .sProblem out] (zHZ (zgM p c lay m out)) := zG (H := H41) (bod := zfi id p c lay m out) (ent := zoj id p c lay m out) (bodA := zfi zHZ p c lay m out) (entA := zoj zHZ p c lay m out) zj6 zA Tryz.func41 rfl (by kernel_rfl) zHZ zSQ (st41 p c lay m out) (fun J l => by cases l <;> kernel_rfl) (fun J => by kernel_rfl) (fun s l => by cases l <;> simp only [zfi, zc, zt, zu, id]) (fun s => by simp only [zoj, zc, zt, zu, id]) (ct41 p c lay m out) (by dsimp only [zoj]; repeat (first | exact ctJ _ | exact ctK _ | apply ctC)) hc
abbrev R81 := Int × Int
def zPo (r : R81) : zT := ⟨.tup [(zf r.1), (zf r.2)], []⟩
noncomputable def zs0 {R : Type} (ret : R81 -> R) (m : (Option MemMemory)) (stage : Int) (words : Int) : Option R := cond (!(((zid m words) : Int) == 0)) (some (ret (0, (zid m words)))) (cond (zjX m stage words 2) (some (ret ((mn (((zfn m stage words 2).1).length) 1), (zfn m stage words 2).2))) none)
def zxt (m : (Option MemMemory)) (stage : Int) (words : Int) : Option R81 := zs0 id m stage words
def zz9 (m : (Option MemMemory)) (stage : Int) (words : Int) : R81 := (zxt m stage words).getD default
def zus (m : (Option MemMemory)) (stage : Int) (words : Int) : Bool := (zxt m stage words).isSome
theorem zUp (m : (Option MemMemory)) (stage : Int) (words : Int) (hc : zus m stage words = true) : Okay Pr GL 81 [.op .sMemMemory m, (zf stage), (zf words)] [] (zPo (zz9 m stage words)) := zy (H := H57) (ent := zs0 id m stage words) (entA := zs0 zPo m stage words) zj6 zA Tryz.func81 rfl (by kernel_rfl) zPo (fun J => by kernel_rfl) (by simp only [zs0, zc, zt, zu, id]) hc
abbrev R83 := (List Int) × Bool × Bool × Int
def zPq (r : R83) : zT := ⟨.tup [.sl (.i .u32) r.1, (zX r.2.1), (zX r.2.2.1), (zf r.2.2.2)], []⟩
def H83 : zS := ⟨fun _ => false, fun _ => ⟨[], []⟩, [(.slot 0, .sl (.i .u32))], G0, zc7⟩
noncomputable def zs2 {R : Type} (ret : R83 -> R) (m : (Option MemMemory)) (port : Int) (words : Int) : Option R := cond (!(((zid m words) : Int) == 0)) (some (ret ([], false, false, (zid m words)))) (cond (zjX m port words 3) ( cond (!(((zfn m port words 3).2 : Int) == 0)) (some (ret ([], false, false, (zfn m port words 3).2))) (cond ((((zfn m port words 3).1).length : Int) == 0) (some (ret ([], false, false, (zfn m port words 3).2))) (cond (zgh m (i64.wrap (port + 1))) (some (ret ((zfn m port words 3).1, (((zjA m (i64.wrap (port + 1))).1 : Int) == 1), true, 0))) none))) none)
def zxv (m : (Option MemMemory)) (port : Int) (words : Int) : Option R83 := zs2 id m port words
def ztU (m : (Option MemMemory)) (port : Int) (words : Int) : R83 := (zxv m port words).getD default
def zut (m : (Option MemMemory)) (port : Int) (words : Int) : Bool := (zxv m port words).isSome
theorem zUr (m : (Option MemMemory)) (port : Int) (words : Int) (hc : zut m port words = true) : Okay Pr GL 83 [.op .sMemMemory m, (zf port), (zf words)] [] (zPq (ztU m port words)) := zy (H := H83) (ent := zs2 id m port words) (entA := zs2 zPq m port words) zj6 zA Tryz.func83 rfl (by kernel_rfl) zPq (fun J => by kernel_rfl) (by simp only [zs2, zc, zt, zu, id]) hc
abbrev zD2 := QueueRow × Int
def zC6 (r : zD2) : zT := ⟨.tup [.agg [(avU r.1.first), (avU r.1.lost), .sl (.sl (.i .u32)) r.1.messages], (zf r.2)], []⟩
def H117 : zS := ⟨fun _ => false, fun _ => ⟨[], []⟩, [(.cell 0 2, .sl (.sl (.i .u32)))], G0, zc7⟩
noncomputable def zlt {R : Type} (ret : zD2 -> R) (f : QueueForm) (m : (Option MemMemory)) (at_2 : Int) : Option R := cond (zj0 f m at_2 1) ( cond (!(zo9 f m at_2 1)) (some (ret ((⟨0, 0, []⟩ : QueueRow), 51))) (cond (zrp f m at_2) ( cond (!((zkv f m at_2).2)) (some (ret ((⟨0, 0, []⟩ : QueueRow), 201))) (some (ret ((zkv f m at_2).1, 0)))) none)) none
def zqD (f : QueueForm) (m : (Option MemMemory)) (at_2 : Int) : Option zD2 := zlt id f m at_2
def zkr (f : QueueForm) (m : (Option MemMemory)) (at_2 : Int) : zD2 := (zqD f m at_2).getD default
def zrd (f : QueueForm) (m : (Option MemMemory)) (at_2 : Int) : Bool := (zqD f m at_2).isSome
theorem zNy (f : QueueForm) (m : (Option MemMemory)) (at_2 : Int) (hc : zrd f m at_2 = true) : Okay Pr GL 117 [.agg [(zf f.words), (zf f.depth)], .op .sMemMemory m, (zf at_2)] [] (zC6 (zkr f m at_2)) := zy (H := H117) (ent := zlt id f m at_2) (entA := zlt zC6 f m at_2) zj6 zA Tryz.func117 rfl (by kernel_rfl) zC6 (fun J => by kernel_rfl) (by simp only [zlt, zc, zt, zu, id]) hc
abbrev zD3 := QueueForm × QueueRow × Int
def zC7 (r : zD3) : zT := ⟨.tup [.agg [(zf r.1.words), (zf r.1.depth)], .agg [(avU r.2.1.first), (avU r.2.1.lost), .sl (.sl (.i .u32)) r.2.1.messages], (zf r.2.2)], []⟩
def H118 : zS := ⟨fun _ => false, fun _ => ⟨[], []⟩, [(.cell 1 2, .sl (.sl (.i .u32)))], G0, zc7⟩
noncomputable def zlu {R : Type} (ret : zD3 -> R) (m : (Option MemMemory)) (at_1 : Int) (words : Int) (depth : Int) : Option R := cond (!(((zic m (⟨words, depth⟩ : QueueForm)) : Int) == 0)) (some (ret ((⟨words, depth⟩ : QueueForm), (⟨0, 0, []⟩ : QueueRow), (zic m (⟨words, depth⟩ : QueueForm))))) (cond (zj0 (⟨words, depth⟩ : QueueForm) m at_1 3) ( cond (!(zo9 (⟨words, depth⟩ : QueueForm) m at_1 3)) (some (ret ((⟨words, depth⟩ : QueueForm), (⟨0, 0, []⟩ : QueueRow), 51))) (cond (zrq (⟨words, depth⟩ : QueueForm) m at_1) ( cond (!((zkw (⟨words, depth⟩ : QueueForm) m at_1).2)) (some (ret ((⟨words, depth⟩ : QueueForm), (⟨0, 0, []⟩ : QueueRow), 201))) (some (ret ((⟨words, depth⟩ : QueueForm), (zkw (⟨words, depth⟩ : QueueForm) m at_1).1, 0)))) none)) none)
def zqE (m : (Option MemMemory)) (at_1 : Int) (words : Int) (depth : Int) : Option zD3 := zlu id m at_1 words depth
def zf5 (m : (Option MemMemory)) (at_1 : Int) (words : Int) (depth : Int) : zD3 := (zqE m at_1 words depth).getD default
def zre (m : (Option MemMemory)) (at_1 : Int) (words : Int) (depth : Int) : Bool := (zqE m at_1 words depth).isSome
theorem zNz (m : (Option MemMemory)) (at_1 : Int) (words : Int) (depth : Int) (hc : zre m at_1 words depth = true) : Okay Pr GL 118 [.op .sMemMemory m, (zf at_1), (zf words), (zf depth)] [] (zC7 (zf5 m at_1 words depth)) := zy (H := H118) (ent := zlu id m at_1 words depth) (entA := zlu zC7 m at_1 words depth) zj6 zA Tryz.func118 rfl (by kernel_rfl) zC7 (fun J => by kernel_rfl) (by simp only [zlu, zc, zt, zu, id]) hc
def g33 := zJ (zH (rdS .sChannel) fun a0 => zH (zZ (.sl (.i .u32))) fun a1 => zH (zZ (.i .i64)) fun a2 => zI ((zxH a0 a1 a2), (zX (zG6 a0 a1 a2)), []))
theorem zLq : zD 33 g33 := zk (zB Tryz.func33 (by kernel_rfl) rfl) (zg fun x0 a0 h0 => zg fun x1 a1 h1 => zg fun x2 a2 h2 => zj fun hb => (zTE a0 a1 a2 hb).ats (.cons (zP h0) (.cons (zp h1) (.cons (zp h2) .nil))))
def g34 := zJ (zH (rdS .sChannel) fun a0 => zH (zZ (.sl (.i .u32))) fun a1 => zH (zZ (.i .i64)) fun a2 => zI ((zxI a0 a1 a2), (zX (zG7 a0 a1 a2)), []))
theorem zLr : zD 34 g34 := zk (zB Tryz.func34 (by kernel_rfl) rfl) (zg fun x0 a0 h0 => zg fun x1 a1 h1 => zg fun x2 a2 h2 => zj fun hb => (zTF a0 a1 a2 hb).ats (.cons (zP h0) (.cons (zp h1) (.cons (zp h2) .nil))))
def g41 (args : List AV) (hp : List Blk) : Option (Bool × AV × List Blk) :=
 match args, hp with
 | [.ref 0 0, .v (.int .i64 y0)], [.cells 103 [.v (.int .i64 y1), .v (.int .i64 y2), .v (.int .i64 y3), .v (.int .i64 y4), .sl (.sl .sWindow) y5, .sl .sPartition y6, .sl .sChannel y7, .v (.int .i64 y8), .sl .sPartitionPlace y9, .sl .sChannelPlace y10, .v (.int .i64 y11), .op .sMemMemory y12, .own 1], .arr 86 .sProblem y13] => some ((zxN y0 (⟨y1, y2, y3, y4, y5, y6, y7⟩ : Config) (⟨y8, y9, y10, y11⟩ : Layout) y12 y13), .tup [], [.cells 103 [(zf ((zgM y0 (⟨y1, y2, y3, y4, y5, y6, y7⟩ : Config) (⟨y8, y9, y10, y11⟩ : Layout) y12 y13).c.frames)), (zf ((zgM y0 (⟨y1, y2, y3, y4, y5, y6, y7⟩ : Config) (⟨y8, y9, y10, y11⟩ : Layout) y12 y13).c.major)), (zf ((zgM y0 (⟨y1, y2, y3, y4, y5, y6, y7⟩ : Config) (⟨y8, y9, y10, y11⟩ : Layout) y12 y13).c.kernel)), (zf ((zgM y0 (⟨y1, y2, y3, y4, y5, y6, y7⟩ : Config) (⟨y8, y9, y10, y11⟩ : Layout) y12 y13).c.room)), .sl (.sl .sWindow) ((zgM y0 (⟨y1, y2, y3, y4, y5, y6, y7⟩ : Config) (⟨y8, y9, y10, y11⟩ : Layout) y12 y13).c.cores), .sl .sPartition ((zgM y0 (⟨y1, y2, y3, y4, y5, y6, y7⟩ : Config) (⟨y8, y9, y10, y11⟩ : Layout) y12 y13).c.partitions), .sl .sChannel ((zgM y0 (⟨y1, y2, y3, y4, y5, y6, y7⟩ : Config) (⟨y8, y9, y10, y11⟩ : Layout) y12 y13).c.channels), (zf ((zgM y0 (⟨y1, y2, y3, y4, y5, y6, y7⟩ : Config) (⟨y8, y9, y10, y11⟩ : Layout) y12 y13).l.barrier)), .sl .sPartitionPlace ((zgM y0 (⟨y1, y2, y3, y4, y5, y6, y7⟩ : Config) (⟨y8, y9, y10, y11⟩ : Layout) y12 y13).l.partitions), .sl .sChannelPlace ((zgM y0 (⟨y1, y2, y3, y4, y5, y6, y7⟩ : Config) (⟨y8, y9, y10, y11⟩ : Layout) y12 y13).l.channels), (zf ((zgM y0 (⟨y1, y2, y3, y4, y5, y6, y7⟩ : Config) (⟨y8, y9, y10, y11⟩ : Layout) y12 y13).l.end_)), .op .sMemMemory ((zgM y0 (⟨y1, y2, y3, y4, y5, y6, y7⟩ : Config) (⟨y8, y9, y10, y11⟩ : Layout) y12 y13).m), .own 2], .dead, .arr 86 .sProblem ((zgM y0 (⟨y1, y2, y3, y4, y5, y6, y7⟩ : Config) (⟨y8, y9, y10, y11⟩ : Layout) y12 y13).out)])
 | _, _ => none
theorem zLy : zD 41 g41 := fun args hp b r hp' h hb => by
 unfold g41 at h
 split at h
 . cases h; have q := zTM _ _ _ _ _ hb; exact ⟨zB Tryz.func41 (by kernel_rfl) rfl, q⟩
 . cases h
def g81 := zJ (zH (zZ (.p .sMemMemory)) fun a0 => zH (zZ (.i .i64)) fun a1 => zH (zZ (.i .i64)) fun a2 => zI ((zus a0 a1 a2), .tup [(zf ((zz9 a0 a1 a2).1)), (zf ((zz9 a0 a1 a2).2))], []))
theorem zMb : zD 81 g81 := zk (zB Tryz.func81 (by kernel_rfl) rfl) (zg fun x0 a0 h0 => zg fun x1 a1 h1 => zg fun x2 a2 h2 => zj fun hb => (zUp a0 a1 a2 hb).ats (.cons (zp h0) (.cons (zp h1) (.cons (zp h2) .nil))))
def g83 := zJ (zH (zZ (.p .sMemMemory)) fun a0 => zH (zZ (.i .i64)) fun a1 => zH (zZ (.i .i64)) fun a2 => zI ((zut a0 a1 a2), .tup [.sl (.i .u32) ((ztU a0 a1 a2).1), (zX ((ztU a0 a1 a2).2.1)), (zX ((ztU a0 a1 a2).2.2.1)), (zf ((ztU a0 a1 a2).2.2.2))], []))
theorem zMd : zD 83 g83 := zk (zB Tryz.func83 (by kernel_rfl) rfl) (zg fun x0 a0 h0 => zg fun x1 a1 h1 => zg fun x2 a2 h2 => zj fun hb => (zUr a0 a1 a2 hb).ats (.cons (zp h0) (.cons (zp h1) (.cons (zp h2) .nil))))
def g117 := zJ (zH (rdS .sQueueForm) fun a0 => zH (zZ (.p .sMemMemory)) fun a1 => zH (zZ (.i .i64)) fun a2 => zI ((zrd a0 a1 a2), .tup [.agg [(avU ((zkr a0 a1 a2).1.first)), (avU ((zkr a0 a1 a2).1.lost)), .sl (.sl (.i .u32)) ((zkr a0 a1 a2).1.messages)], (zf ((zkr a0 a1 a2).2))], []))
theorem zFh : zD 117 g117 := zk (zB Tryz.func117 (by kernel_rfl) rfl) (zg fun x0 a0 h0 => zg fun x1 a1 h1 => zg fun x2 a2 h2 => zj fun hb => (zNy a0 a1 a2 hb).ats (.cons (zP h0) (.cons (zp h1) (.cons (zp h2) .nil))))
def g118 := zJ (zH (zZ (.p .sMemMemory)) fun a0 => zH (zZ (.i .i64)) fun a1 => zH (zZ (.i .i64)) fun a2 => zH (zZ (.i .i64)) fun a3 => zI ((zre a0 a1 a2 a3), .tup [.agg [(zf ((zf5 a0 a1 a2 a3).1.words)), (zf ((zf5 a0 a1 a2 a3).1.depth))], .agg [(avU ((zf5 a0 a1 a2 a3).2.1.first)), (avU ((zf5 a0 a1 a2 a3).2.1.lost)), .sl (.sl (.i .u32)) ((zf5 a0 a1 a2 a3).2.1.messages)], (zf ((zf5 a0 a1 a2 a3).2.2))], []))
theorem zFi : zD 118 g118 := zk (zB Tryz.func118 (by kernel_rfl) rfl) (zg fun x0 a0 h0 => zg fun x1 a1 h1 => zg fun x2 a2 h2 => zg fun x3 a3 h3 => zj fun hb => (zNz a0 a1 a2 a3 hb).ats (.cons (zp h0) (.cons (zp h1) (.cons (zp h2) (.cons (zp h3) .nil)))))
noncomputable def GQ3 : Gam := zd2 [(33, g33), (34, g34), (41, g41), (81, g81), (83, g83), (117, g117), (118, g118)] GQ2
theorem znT : GOk Pr GL GQ3 := zaH ⟨zLq, zLr, zLy, zMb, zMd, zFh, zFi, trivial⟩ zj6
abbrev R13 := (List Problem) × Int
def zHH (r : R13) : zT := ⟨.tup [.own 0, (zf r.2)], [.arr 86 .sProblem r.1]⟩
inductive L13 where | l15 (x0 : List Problem) | l0 (x1 : Int) (x0 : List Problem) | l27 (x1 : Int) (x0 : List Problem) (x2 : Int) (x3 : Int) (x4 : Int) (x5 : Int) (x6 : List Int) | l4 (x1 : Int) (x0 : List Problem) | l19 (x1 : Int) (x0 : List Problem) | l45 (x1 : Int) (x0 : List Problem) (x2 : Int) (x3 : Int) (x4 : Int) (x5 : Int) (x6 : List DestPlace) | l49 (x1 : Int) (x0 : List Problem) (x2 : Int) (x3 : Int) (x4 : Int) (x5 : Int) (x6 : List DestPlace) | l8 (x2 : Int) (x1 : Int) (x0 : List Problem) (x3 : Int) (x4 : Int) (x5 : Int) (x6 : Int) (x7 : List DestPlace) | l53 (x1 : Int) (x2 : Int) (x0 : List Problem) (x3 : Int) (x4 : Int) (x5 : Int) (x6 : Int) (x7 : List DestPlace)
def zSy : L13 -> Nat | .l15 _ => 15 | .l0 _ _ => 0 | .l27 _ _ _ _ _ _ _ => 27 | .l4 _ _ => 4 | .l19 _ _ => 19 | .l45 _ _ _ _ _ _ _ => 45 | .l49 _ _ _ _ _ _ _ => 49 | .l8 _ _ _ _ _ _ _ _ => 8 | .l53 _ _ _ _ _ _ _ _ => 53
def H13 : zS := htt [7, 9, 13, 22, 24, 26] [(0, ⟨z7 [1, 2, 6, 8, 9] 171 0, []⟩), (4, ⟨z7 [1, 2, 6, 8, 12] 171 0, []⟩), (8, ⟨z7 [1, 2, 6, 8, 12, 13, 14] 171 0, []⟩), (15, ⟨z7 [1, 2, 6, 8] 171 0, [(.slot 8, .own 86 .sProblem)]⟩), (19, ⟨z7 [1, 2, 6, 8, 9] 171 0, []⟩), (27, ⟨z7 [1, 2, 6, 8, 9, 10] 171 0, []⟩), (45, ⟨z7 [1, 2, 6, 8, 12, 13] 171 0, []⟩), (49, ⟨z7 [1, 2, 6, 8, 12, 13] 171 0, []⟩), (53, ⟨z7 [1, 2, 6, 8, 12, 13, 14] 171 0, []⟩)] [(.slot 0, .own 86 .sProblem)]
noncomputable def st13 (c : Config) (m : (List Int)) : L13 -> St | .l15 x0 => stt [(1, .sl (.i .u32) m), (2, .ref 0 0), (6, .ref 1 0), (8, .own 2)] 171 [.cells 26 (Ty.enc .sConfig c), .cells 82 [(zf ((zal c).1.barrier)), .sl .sPartitionPlace ((zal c).1.partitions), .sl .sChannelPlace ((zal c).1.channels), (zf ((zal c).1.end_))], .arr 86 .sProblem x0] 0 | .l0 x1 x0 => stt [(1, .sl (.i .u32) m), (2, .ref 0 0), (6, .ref 1 0), (8, .own 2), (9, (zf x1))] 171 [.cells 26 (Ty.enc .sConfig c), .cells 82 [(zf ((zal c).1.barrier)), .sl .sPartitionPlace ((zal c).1.partitions), .sl .sChannelPlace ((zal c).1.channels), (zf ((zal c).1.end_))], .arr 86 .sProblem x0] 0 | .l27 x1 x0 x2 x3 x4 x5 x6 => stt [(1, .sl (.i .u32) m), (2, .ref 0 0), (6, .ref 1 0), (8, .own 2), (9, (zf x1)), (10, .ref 3 0)] 171 [.cells 26 (Ty.enc .sConfig c), .cells 82 [(zf ((zal c).1.barrier)), .sl .sPartitionPlace ((zal c).1.partitions), .sl .sChannelPlace ((zal c).1.channels), (zf ((zal c).1.end_))], .arr 86 .sProblem x0, .cells 89 [(zf x2), (zf x3), (zf x4), (zf x5), .sl (.i .i64) x6]] 0 | .l4 x1 x0 => stt [(1, .sl (.i .u32) m), (2, .ref 0 0), (6, .ref 1 0), (8, .own 2), (12, (zf x1))] 171 [.cells 26 (Ty.enc .sConfig c), .cells 82 [(zf ((zal c).1.barrier)), .sl .sPartitionPlace ((zal c).1.partitions), .sl .sChannelPlace ((zal c).1.channels), (zf ((zal c).1.end_))], .arr 86 .sProblem x0] 0 | .l19 x1 x0 => stt [(1, .sl (.i .u32) m), (2, .ref 0 0), (6, .ref 1 0), (8, .own 2), (9, (zf x1))] 171 [.cells 26 (Ty.enc .sConfig c), .cells 82 [(zf ((zal c).1.barrier)), .sl .sPartitionPlace ((zal c).1.partitions), .sl .sChannelPlace ((zal c).1.channels), (zf ((zal c).1.end_))], .arr 86 .sProblem x0] 0 | .l45 x1 x0 x2 x3 x4 x5 x6 => stt [(1, .sl (.i .u32) m), (2, .ref 0 0), (6, .ref 1 0), (8, .own 2), (12, (zf x1)), (13, .ref 3 0)] 171 [.cells 26 (Ty.enc .sConfig c), .cells 82 [(zf ((zal c).1.barrier)), .sl .sPartitionPlace ((zal c).1.partitions), .sl .sChannelPlace ((zal c).1.channels), (zf ((zal c).1.end_))], .arr 86 .sProblem x0, .cells 94 [(zf x2), (zf x3), (zf x4), (zf x5), .sl .sDestPlace x6]] 0 | .l49 x1 x0 x2 x3 x4 x5 x6 => stt [(1, .sl (.i .u32) m), (2, .ref 0 0), (6, .ref 1 0), (8, .own 2), (12, (zf x1)), (13, .ref 3 0)] 171 [.cells 26 (Ty.enc .sConfig c), .cells 82 [(zf ((zal c).1.barrier)), .sl .sPartitionPlace ((zal c).1.partitions), .sl .sChannelPlace ((zal c).1.channels), (zf ((zal c).1.end_))], .arr 86 .sProblem x0, .cells 94 [(zf x2), (zf x3), (zf x4), (zf x5), .sl .sDestPlace x6]] 0 | .l8 x2 x1 x0 x3 x4 x5 x6 x7 => stt [(1, .sl (.i .u32) m), (2, .ref 0 0), (6, .ref 1 0), (8, .own 2), (12, (zf x2)), (13, .ref 3 0), (14, (zf x1))] 171 [.cells 26 (Ty.enc .sConfig c), .cells 82 [(zf ((zal c).1.barrier)), .sl .sPartitionPlace ((zal c).1.partitions), .sl .sChannelPlace ((zal c).1.channels), (zf ((zal c).1.end_))], .arr 86 .sProblem x0, .cells 94 [(zf x3), (zf x4), (zf x5), (zf x6), .sl .sDestPlace x7]] 0 | .l53 x1 x2 x0 x3 x4 x5 x6 x7 => stt [(1, .sl (.i .u32) m), (2, .ref 0 0), (6, .ref 1 0), (8, .own 2), (12, (zf x1)), (13, .ref 3 0), (14, (zf x2))] 171 [.cells 26 (Ty.enc .sConfig c), .cells 82 [(zf ((zal c).1.barrier)), .sl .sPartitionPlace ((zal c).1.partitions), .sl .sChannelPlace ((zal c).1.channels), (zf ((zal c).1.end_))], .arr 86 .sProblem x0, .cells 94 [(zf x3), (zf x4), (zf x5), (zf x6), .sl .sDestPlace x7]] 0
noncomputable def zcK {R : Type} (ret : R13 -> R) (c : Config) (m : (List Int)) (j : L13 -> Option R) : L13 -> Option R | .l15 x0 => j (.l0 0 x0) | .l0 x1 x0 =>let y3 := (zal c).1.partitions; let y1 := zb y3 x1.toNat; let y2 := (⟨3, x1, y1.lock⟩ : Problem); let y4 := y1.lock;  cond (decide (x1 < c.partitions.length)) (cond (zN x1 y3.length) ( cond (zuo m y4) ( cond (decide (((zCh m y4) : Int) > 1)) (cond (leB (((x0 : List Problem).length + ([y2] : List Problem).length) * 24) 140737488355328) ( j (.l27 x1 ((x0 : List Problem) ++ [y2]) y4 (y1.save) (y1.state) (y1.root) (y1.tables))) none) (j (.l27 x1 x0 y4 (y1.save) (y1.state) (y1.root) (y1.tables)))) none) none) (j (.l4 0 x0)) | .l27 x1 x0 x2 x3 x4 x5 x6 =>let y1 := (⟨2, x1, (zCi c x1 x4 m)⟩ : Problem);  cond (zxG c x1 x4 m) ( cond (decide (((zCi c x1 x4 m) : Int) >= 0)) (cond (leB (((x0 : List Problem).length + ([y1] : List Problem).length) * 24) 140737488355328) (j (.l19 x1 ((x0 : List Problem) ++ [y1]))) none) (j (.l19 x1 x0))) none | .l4 x1 x0 =>let y4 := (zal c).1.channels; let y1 := ze y4 x1.toNat; let y2 := (⟨3, (i64.wrap (16 + x1)), y1.lock⟩ : Problem); let y3 := y1.lock;  cond (decide (x1 < c.channels.length)) (cond (zN x1 y4.length) ( cond (zuo m y3) ( cond (decide (((zCh m y3) : Int) > (u32.wrap c.cores.length))) (cond (leB (((x0 : List Problem).length + ([y2] : List Problem).length) * 24) 140737488355328) ( j (.l45 x1 ((x0 : List Problem) ++ [y2]) y3 (y1.stage) (y1.partition) (y1.port) (y1.dests))) none) (j (.l45 x1 x0 y3 (y1.stage) (y1.partition) (y1.port) (y1.dests)))) none) none) (cond (zxJ c ((zal c).1) m x0) (some (ret ((zG8 c ((zal c).1) m x0), 0))) none) | .l19 x1 x0 => j (.l0 (i64.wrap (x1 + 1)) x0) | .l45 x1 x0 x2 x3 x4 x5 x6 =>let y1 := zn c.channels x1.toNat; let y2 := (⟨5, x1, x3⟩ : Problem);  cond (zN x1 c.channels.length) ( cond (zxH y1 m x3) ( cond (!(zG6 y1 m x3)) (cond (leB (((x0 : List Problem).length + ([y2] : List Problem).length) * 24) 140737488355328) (j (.l49 x1 ((x0 : List Problem) ++ [y2]) x2 x3 x4 x5 x6)) none) (j (.l49 x1 x0 x2 x3 x4 x5 x6))) none) none | .l49 x1 x0 x2 x3 x4 x5 x6 => j (.l8 x1 0 x0 x2 x3 x4 x5 x6) | .l8 x2 x1 x0 x3 x4 x5 x6 x7 =>let y1 := zbe x7 x1.toNat; let y2 := zn c.channels x2.toNat; let y3 := (⟨6, x2, y1.at_⟩ : Problem);  cond (decide (x1 < x7.length)) (cond (zN x2 c.channels.length) ( cond (zN x1 x7.length) ( cond (zxI y2 m (y1.at_)) ( cond (!(zG7 y2 m (y1.at_))) (cond (zN x1 x7.length) ( cond (leB (((x0 : List Problem).length + ([y3] : List Problem).length) * 24) 140737488355328) (j (.l53 x2 x1 ((x0 : List Problem) ++ [y3]) x3 x4 x5 x6 x7)) none) none) (j (.l53 x2 x1 x0 x3 x4 x5 x6 x7))) none) none) none) (j (.l4 (i64.wrap (x2 + 1)) x0)) | .l53 x1 x2 x0 x3 x4 x5 x6 x7 => j (.l8 x1 (i64.wrap (x2 + 1)) x0 x3 x4 x5 x6 x7)
noncomputable def zlw {R : Type} (ret : R13 -> R) (c : Config) (m : (List Int)) (j : L13 -> Option R) : Option R := cond (znk c m) ( cond (!(zvl c m)) (some (ret ([], 1))) (cond (zkF c) ( cond (zN ((zal c).1.barrier) m.length) ( cond (decide (((i64.wrap (zx m (((zal c).1.barrier).toNat))) : Int) > c.cores.length)) (cond (leB ((([] : List Problem).length + ([(⟨4, (-1), (zal c).1.barrier⟩ : Problem)] : List Problem).length) * 24) 140737488355328) (j (.l15 (([] : List Problem) ++ [(⟨4, (-1), (zal c).1.barrier⟩ : Problem)]))) none) (cond (zN (i64.wrap ((zal c).1.barrier + 1)) m.length) ( cond (decide (((i64.wrap (zx m ((i64.wrap ((zal c).1.barrier + 1)).toNat))) : Int) > 1073741824)) (cond (leB ((([] : List Problem).length + ([(⟨4, (-1), (zal c).1.barrier⟩ : Problem)] : List Problem).length) * 24) 140737488355328) (j (.l15 (([] : List Problem) ++ [(⟨4, (-1), (zal c).1.barrier⟩ : Problem)]))) none) (j (.l15 []))) none)) none) none)) none
theorem ct13 (c : Config) (m : (List Int)) (l : L13) : CT fun j => zcK id c m j l := by cases l <;> (dsimp only [zcK]; repeat (first | exact ctJ _ | exact ctK _ | apply ctC))
def zaS (c : Config) (m : (List Int)) : L13 -> Option R13 := lfp (zcK id c m)
theorem zbo (c : Config) (m : (List Int)) (l : L13) : zaS c m l = zcK id c m (zaS c m) l := zL (ct13 c m) l
def zpu (c : Config) (m : (List Int)) : Option R13 := zlw id c m (zaS c m)
def zhn (c : Config) (m : (List Int)) : R13 := (zpu c m).getD default
def zxB (c : Config) (m : (List Int)) : Bool := (zpu c m).isSome
theorem zTl (c : Config) (m : (List Int)) (hc : zxB c m = true) : Okay Pr GL 13 [.agg (Ty.enc .sConfig c), .sl (.i .u32) m] [] (zHH (zhn c m)) := zG (H := H13) (bod := zcK id c m) (ent := zlw id c m) (bodA := zcK zHH c m) (entA := zlw zHH c m) znT zA Tryz.func13 rfl (by kernel_rfl) zHH zSy (st13 c m) (fun J l => by cases l <;> kernel_rfl) (fun J => by kernel_rfl) (fun s l => by cases l <;> simp only [zcK, zc, zt, zu, id]) (fun s => by simp only [zlw, zc, zt, zu, id]) (ct13 c m) (by dsimp only [zlw]; repeat (first | exact ctJ _ | exact ctK _ | apply ctC)) hc
abbrev R77 := Int × Int
def zPk (r : R77) : zT := ⟨.tup [(zf r.1), (zf r.2)], []⟩
noncomputable def zsW {R : Type} (ret : R77 -> R) (m : (Option MemMemory)) (stage : Int) (words : Int) (depth : Int) : Option R := cond (!(((zic m (⟨words, depth⟩ : QueueForm)) : Int) == 0)) (some (ret (0, (zic m (⟨words, depth⟩ : QueueForm))))) (cond (zrd (⟨words, depth⟩ : QueueForm) m stage) ( some (ret (((zkr (⟨words, depth⟩ : QueueForm) m stage).1.messages).length, (zkr (⟨words, depth⟩ : QueueForm) m stage).2))) none)
def zxp (m : (Option MemMemory)) (stage : Int) (words : Int) (depth : Int) : Option R77 := zsW id m stage words depth
def zz8 (m : (Option MemMemory)) (stage : Int) (words : Int) (depth : Int) : R77 := (zxp m stage words depth).getD default
def zuq (m : (Option MemMemory)) (stage : Int) (words : Int) (depth : Int) : Bool := (zxp m stage words depth).isSome
theorem zUl (m : (Option MemMemory)) (stage : Int) (words : Int) (depth : Int) (hc : zuq m stage words depth = true) : Okay Pr GL 77 [.op .sMemMemory m, (zf stage), (zf words), (zf depth)] [] (zPk (zz8 m stage words depth)) := zy (H := H57) (ent := zsW id m stage words depth) (entA := zsW zPk m stage words depth) znT zA Tryz.func77 rfl (by kernel_rfl) zPk (fun J => by kernel_rfl) (by simp only [zsW, zc, zt, zu, id]) hc
abbrev R79 := Int × Int × Int
def zPm (r : R79) : zT := ⟨.tup [(zf r.1), (avU r.2.1), (zf r.2.2)], []⟩
noncomputable def zsY {R : Type} (ret : R79 -> R) (m : (Option MemMemory)) (port : Int) (words : Int) (depth : Int) : Option R := cond (zre m port words depth) ( some (ret (((zf5 m port words depth).2.1.messages).length, (zf5 m port words depth).2.1.lost, (zf5 m port words depth).2.2))) none
def zxr (m : (Option MemMemory)) (port : Int) (words : Int) (depth : Int) : Option R79 := zsY id m port words depth
def zvw (m : (Option MemMemory)) (port : Int) (words : Int) (depth : Int) : R79 := (zxr m port words depth).getD default
def zur (m : (Option MemMemory)) (port : Int) (words : Int) (depth : Int) : Bool := (zxr m port words depth).isSome
theorem zUn (m : (Option MemMemory)) (port : Int) (words : Int) (depth : Int) (hc : zur m port words depth = true) : Okay Pr GL 79 [.op .sMemMemory m, (zf port), (zf words), (zf depth)] [] (zPm (zvw m port words depth)) := zy (H := H57) (ent := zsY id m port words depth) (entA := zsY zPm m port words depth) znT zA Tryz.func79 rfl (by kernel_rfl) zPm (fun J => by kernel_rfl) (by simp only [zsY, zc, zt, zu, id]) hc
abbrev R80 := Int
def zPn (r : R80) : zT := ⟨(zf r), []⟩
noncomputable def zsZ {R : Type} (ret : R80 -> R) (a : (Option AuditFinder)) (a_1 : ChannelPlace) (a_2 : Channel) : Option R := cond a.isSome ( cond (zus ((a.getD default).m) a_1.stage a_2.words) (some (ret ((zz9 ((a.getD default).m) a_1.stage a_2.words).2))) none) none
def zxs (a : (Option AuditFinder)) (a_1 : ChannelPlace) (a_2 : Channel) : Option R80 := zsZ id a a_1 a_2
def zCq (a : (Option AuditFinder)) (a_1 : ChannelPlace) (a_2 : Channel) : R80 := (zxs a a_1 a_2).getD default
def zx3 (a : (Option AuditFinder)) (a_1 : ChannelPlace) (a_2 : Channel) : Bool := (zxs a a_1 a_2).isSome
theorem zUo (a : (Option AuditFinder)) (a_1 : ChannelPlace) (a_2 : Channel) (hc : zx3 a a_1 a_2 = true) : Okay Pr GL 80 [.op (.p .sAuditFinder) (some a), .op .sChannelPlace (some a_1), .op .sChannel (some a_2)] [] (zPn (zCq a a_1 a_2)) := zy (H := H57) (ent := zsZ id a a_1 a_2) (entA := zsZ zPn a a_1 a_2) znT zA Tryz.func80 rfl (by kernel_rfl) zPn (fun J => by kernel_rfl) (by simp only [zsZ, zc, zt, zu, id]) hc
abbrev R82 := Int
def zPp (r : R82) : zT := ⟨(zf r), []⟩
noncomputable def zs1 {R : Type} (ret : R82 -> R) (n_0 : Int) (a : (Option AuditFinder)) (a_2 : Channel) : Option R := cond a.isSome (cond (zut ((a.getD default).m) n_0 a_2.words) (some (ret ((ztU ((a.getD default).m) n_0 a_2.words).2.2.2))) none) none
def zxu (n_0 : Int) (a : (Option AuditFinder)) (a_2 : Channel) : Option R82 := zs1 id n_0 a a_2
def zCr (n_0 : Int) (a : (Option AuditFinder)) (a_2 : Channel) : R82 := (zxu n_0 a a_2).getD default
def zx4 (n_0 : Int) (a : (Option AuditFinder)) (a_2 : Channel) : Bool := (zxu n_0 a a_2).isSome
theorem zUq (n_0 : Int) (a : (Option AuditFinder)) (a_2 : Channel) (hc : zx4 n_0 a a_2 = true) : Okay Pr GL 82 [(zf n_0), .op (.p .sAuditFinder) (some a), .op .sChannel (some a_2)] [] (zPp (zCr n_0 a a_2)) := zy (H := H57) (ent := zs1 id n_0 a a_2) (entA := zs1 zPp n_0 a a_2) znT zA Tryz.func82 rfl (by kernel_rfl) zPp (fun J => by kernel_rfl) (by simp only [zs1, zc, zt, zu, id]) hc
def g13 := zJ (zH (rdS .sConfig) fun a0 => zH (zZ (.sl (.i .u32))) fun a1 => zI ((zxB a0 a1), .tup [.own 0, (zf ((zhn a0 a1).2))], [.arr 86 .sProblem ((zhn a0 a1).1)]))
theorem zK6 : zD 13 g13 := zk (zB Tryz.func13 (by kernel_rfl) rfl) (zg fun x0 a0 h0 => zg fun x1 a1 h1 => zj fun hb => (zTl a0 a1 hb).ats (.cons (zP h0) (.cons (zp h1) .nil)))
def g77 := zJ (zH (zZ (.p .sMemMemory)) fun a0 => zH (zZ (.i .i64)) fun a1 => zH (zZ (.i .i64)) fun a2 => zH (zZ (.i .i64)) fun a3 => zI ((zuq a0 a1 a2 a3), .tup [(zf ((zz8 a0 a1 a2 a3).1)), (zf ((zz8 a0 a1 a2 a3).2))], []))
theorem zL7 : zD 77 g77 := zk (zB Tryz.func77 (by kernel_rfl) rfl) (zg fun x0 a0 h0 => zg fun x1 a1 h1 => zg fun x2 a2 h2 => zg fun x3 a3 h3 => zj fun hb => (zUl a0 a1 a2 a3 hb).ats (.cons (zp h0) (.cons (zp h1) (.cons (zp h2) (.cons (zp h3) .nil)))))
def g79 := zJ (zH (zZ (.p .sMemMemory)) fun a0 => zH (zZ (.i .i64)) fun a1 => zH (zZ (.i .i64)) fun a2 => zH (zZ (.i .i64)) fun a3 => zI ((zur a0 a1 a2 a3), .tup [(zf ((zvw a0 a1 a2 a3).1)), (avU ((zvw a0 a1 a2 a3).2.1)), (zf ((zvw a0 a1 a2 a3).2.2))], []))
theorem zL9 : zD 79 g79 := zk (zB Tryz.func79 (by kernel_rfl) rfl) (zg fun x0 a0 h0 => zg fun x1 a1 h1 => zg fun x2 a2 h2 => zg fun x3 a3 h3 => zj fun hb => (zUn a0 a1 a2 a3 hb).ats (.cons (zp h0) (.cons (zp h1) (.cons (zp h2) (.cons (zp h3) .nil)))))
def g80 := zJ (zH (rdP (.p .sAuditFinder)) fun a0 => zH (rdP .sChannelPlace) fun a1 => zH (rdP .sChannel) fun a2 => zI ((zx3 a0 a1 a2), (zf (zCq a0 a1 a2)), []))
theorem zMa : zD 80 g80 := zk (zB Tryz.func80 (by kernel_rfl) rfl) (zg fun x0 a0 h0 => zg fun x1 a1 h1 => zg fun x2 a2 h2 => zj fun hb => (zUo a0 a1 a2 hb).ats (.cons (zbE h0) (.cons (zbE h1) (.cons (zbE h2) .nil))))
def g82 := zJ (zH (zZ (.i .i64)) fun a0 => zH (rdP (.p .sAuditFinder)) fun a1 => zH (rdP .sChannel) fun a2 => zI ((zx4 a0 a1 a2), (zf (zCr a0 a1 a2)), []))
theorem zMc : zD 82 g82 := zk (zB Tryz.func82 (by kernel_rfl) rfl) (zg fun x0 a0 h0 => zg fun x1 a1 h1 => zg fun x2 a2 h2 => zj fun hb => (zUq a0 a1 a2 hb).ats (.cons (zp h0) (.cons (zbE h1) (.cons (zbE h2) .nil))))
noncomputable def GQ4 : Gam := zd2 [(13, g13), (77, g77), (79, g79), (80, g80), (82, g82)] GQ3
theorem zAt : GOk Pr GL GQ4 := zaH ⟨zK6, zL7, zL9, zMa, zMc, trivial⟩ znT
abbrev R76 := Int
def zPj (r : R76) : zT := ⟨(zf r), []⟩
noncomputable def zsV {R : Type} (ret : R76 -> R) (a : (Option AuditFinder)) (a_1 : ChannelPlace) (a_2 : Channel) : Option R := cond a.isSome ( cond (zuq ((a.getD default).m) a_1.stage a_2.words a_2.depth) (some (ret ((zz8 ((a.getD default).m) a_1.stage a_2.words a_2.depth).2))) none) none
def zxo (a : (Option AuditFinder)) (a_1 : ChannelPlace) (a_2 : Channel) : Option R76 := zsV id a a_1 a_2
def zCo (a : (Option AuditFinder)) (a_1 : ChannelPlace) (a_2 : Channel) : R76 := (zxo a a_1 a_2).getD default
def zx1 (a : (Option AuditFinder)) (a_1 : ChannelPlace) (a_2 : Channel) : Bool := (zxo a a_1 a_2).isSome
theorem zUk (a : (Option AuditFinder)) (a_1 : ChannelPlace) (a_2 : Channel) (hc : zx1 a a_1 a_2 = true) : Okay Pr GL 76 [.op (.p .sAuditFinder) (some a), .op .sChannelPlace (some a_1), .op .sChannel (some a_2)] [] (zPj (zCo a a_1 a_2)) := zy (H := H57) (ent := zsV id a a_1 a_2) (entA := zsV zPj a a_1 a_2) zAt zA Tryz.func76 rfl (by kernel_rfl) zPj (fun J => by kernel_rfl) (by simp only [zsV, zc, zt, zu, id]) hc
abbrev R78 := Int
def zPl (r : R78) : zT := ⟨(zf r), []⟩
noncomputable def zsX {R : Type} (ret : R78 -> R) (n_0 : Int) (a : (Option AuditFinder)) (a_2 : Channel) : Option R := cond a.isSome ( cond (zur ((a.getD default).m) n_0 a_2.words a_2.depth) (some (ret ((zvw ((a.getD default).m) n_0 a_2.words a_2.depth).2.2))) none) none
def zxq (n_0 : Int) (a : (Option AuditFinder)) (a_2 : Channel) : Option R78 := zsX id n_0 a a_2
def zCp (n_0 : Int) (a : (Option AuditFinder)) (a_2 : Channel) : R78 := (zxq n_0 a a_2).getD default
def zx2 (n_0 : Int) (a : (Option AuditFinder)) (a_2 : Channel) : Bool := (zxq n_0 a a_2).isSome
theorem zUm (n_0 : Int) (a : (Option AuditFinder)) (a_2 : Channel) (hc : zx2 n_0 a a_2 = true) : Okay Pr GL 78 [(zf n_0), .op (.p .sAuditFinder) (some a), .op .sChannel (some a_2)] [] (zPl (zCp n_0 a a_2)) := zy (H := H57) (ent := zsX id n_0 a a_2) (entA := zsX zPl n_0 a a_2) zAt zA Tryz.func78 rfl (by kernel_rfl) zPl (fun J => by kernel_rfl) (by simp only [zsX, zc, zt, zu, id]) hc
def g76 := zJ (zH (rdP (.p .sAuditFinder)) fun a0 => zH (rdP .sChannelPlace) fun a1 => zH (rdP .sChannel) fun a2 => zI ((zx1 a0 a1 a2), (zf (zCo a0 a1 a2)), []))
theorem zL6 : zD 76 g76 := zk (zB Tryz.func76 (by kernel_rfl) rfl) (zg fun x0 a0 h0 => zg fun x1 a1 h1 => zg fun x2 a2 h2 => zj fun hb => (zUk a0 a1 a2 hb).ats (.cons (zbE h0) (.cons (zbE h1) (.cons (zbE h2) .nil))))
def g78 := zJ (zH (zZ (.i .i64)) fun a0 => zH (rdP (.p .sAuditFinder)) fun a1 => zH (rdP .sChannel) fun a2 => zI ((zx2 a0 a1 a2), (zf (zCp a0 a1 a2)), []))
theorem zL8 : zD 78 g78 := zk (zB Tryz.func78 (by kernel_rfl) rfl) (zg fun x0 a0 h0 => zg fun x1 a1 h1 => zg fun x2 a2 h2 => zj fun hb => (zUm a0 a1 a2 hb).ats (.cons (zp h0) (.cons (zbE h1) (.cons (zbE h2) .nil))))
noncomputable def GQ5 : Gam := zd2 [(76, g76), (78, g78)] GQ4
theorem zIu : GOk Pr GL GQ5 := zaH ⟨zL6, zL8, trivial⟩ zAt
abbrev R40 := AuditFinder
def zHY (r : R40) : zT := ⟨.tup [], [.cells 103 [(zf r.c.frames), (zf r.c.major), (zf r.c.kernel), (zf r.c.room), .sl (.sl .sWindow) r.c.cores, .sl .sPartition r.c.partitions, .sl .sChannel r.c.channels, (zf r.l.barrier), .sl .sPartitionPlace r.l.partitions, .sl .sChannelPlace r.l.channels, (zf r.l.end_), .op .sMemMemory r.m, .own 2], .dead, .arr 86 .sProblem r.out]⟩
inductive L40 where | l15 | l1015 | l19 (x0 : Int) (x1 : Int) (x2 : Int) (x3 : Int) (x4 : List (List Window)) (x5 : List Partition) (x6 : List Channel) (x7 : Int) (x8 : List PartitionPlace) (x9 : List ChannelPlace) (x10 : Int) (x11 : Option MemMemory) (x12 : List Problem) | l1019 (x0 : Int) (x1 : Int) (x2 : Int) (x3 : Int) (x4 : List (List Window)) (x5 : List Partition) (x6 : List Channel) (x7 : Int) (x8 : List PartitionPlace) (x9 : List ChannelPlace) (x10 : Int) (x11 : Option MemMemory) (x12 : List Problem) | l0 (x13 : Int) (x0 : Int) (x1 : Int) (x2 : Int) (x3 : Int) (x4 : List (List Window)) (x5 : List Partition) (x6 : List Channel) (x7 : Int) (x8 : List PartitionPlace) (x9 : List ChannelPlace) (x10 : Int) (x11 : Option MemMemory) (x12 : List Problem) | l1000 (x13 : Int) (x0 : Int) (x1 : Int) (x2 : Int) (x3 : Int) (x4 : List (List Window)) (x5 : List Partition) (x6 : List Channel) (x7 : Int) (x8 : List PartitionPlace) (x9 : List ChannelPlace) (x10 : Int) (x11 : Option MemMemory) (x12 : List Problem) | l29 (x13 : Int) (x0 : Int) (x1 : Int) (x2 : Int) (x3 : Int) (x4 : List (List Window)) (x5 : List Partition) (x6 : List Channel) (x7 : Int) (x8 : List PartitionPlace) (x9 : List ChannelPlace) (x10 : Int) (x11 : Option MemMemory) (x12 : List Problem) | l1029 (x13 : Int) (x0 : Int) (x1 : Int) (x2 : Int) (x3 : Int) (x4 : List (List Window)) (x5 : List Partition) (x6 : List Channel) (x7 : Int) (x8 : List PartitionPlace) (x9 : List ChannelPlace) (x10 : Int) (x11 : Option MemMemory) (x12 : List Problem)
def zSP : L40 -> Nat | .l15 => 15 | .l1015 => 15 | .l19 _ _ _ _ _ _ _ _ _ _ _ _ _ => 19 | .l1019 _ _ _ _ _ _ _ _ _ _ _ _ _ => 19 | .l0 _ _ _ _ _ _ _ _ _ _ _ _ _ _ => 0 | .l1000 _ _ _ _ _ _ _ _ _ _ _ _ _ _ => 0 | .l29 _ _ _ _ _ _ _ _ _ _ _ _ _ _ => 29 | .l1029 _ _ _ _ _ _ _ _ _ _ _ _ _ _ => 29
def H40 : zS := htt [7, 9, 14] [(0, ⟨z7 [0, 1, 2, 7, 44, 45, 46] 63 0, []⟩), (15, ⟨z7 [0, 1, 2, 5, 6, 7] 63 0, []⟩), (19, ⟨z7 [0, 1, 2, 5, 7] 63 0, [(.box 0 12, .mv 86 .sProblem)]⟩), (29, ⟨z7 [0, 1, 2, 7, 44, 45, 46] 63 0, []⟩)] [(.box 0 12, .mv 86 .sProblem)]
noncomputable def st40 (hx : Int) (c : Config) (lay : Layout) (m : (Option MemMemory)) (out : List Problem) : L40 -> St | .l15 => stt [(0, .ref 0 0), (1, (zf hx)), (2, .ref 2 0), (5, .ref 3 0), (6, .fn (.func 80) [] [.ref 2 0, .ref 3 0, .ref 4 0]), (7, .fn (.func 82) [] [.ref 2 0, .ref 4 0])] 63 [.cells 103 (avF c lay m 1), .arr 86 .sProblem out, .cells 101 [.ref 0 0], .cells 94 (Ty.enc .sChannelPlace (ze lay.channels hx.toNat)), .cells 97 (Ty.enc .sChannel (zn c.channels hx.toNat))] 2 | .l1015 => stt [(0, .ref 0 0), (1, (zf hx)), (2, .ref 2 0), (5, .ref 3 0), (6, .fn (.func 76) [] [.ref 2 0, .ref 3 0, .ref 4 0]), (7, .fn (.func 78) [] [.ref 2 0, .ref 4 0])] 63 [.cells 103 (avF c lay m 1), .arr 86 .sProblem out, .cells 101 [.ref 0 0], .cells 94 (Ty.enc .sChannelPlace (ze lay.channels hx.toNat)), .cells 97 (Ty.enc .sChannel (zn c.channels hx.toNat))] 2 | .l19 x0 x1 x2 x3 x4 x5 x6 x7 x8 x9 x10 x11 x12 => stt [(0, .ref 0 0), (1, (zf hx)), (2, .ref 3 0), (5, .ref 4 0), (7, .fn (.func 82) [] [.ref 3 0, .ref 5 0])] 63 [.cells 103 (avG x0 x1 x2 x3 x4 x5 x6 x7 x8 x9 x10 x11 2), .dead, .arr 86 .sProblem x12, .cells 101 [.ref 0 0], .cells 94 (Ty.enc .sChannelPlace (ze lay.channels hx.toNat)), .cells 97 (Ty.enc .sChannel (zn c.channels hx.toNat))] 2 | .l1019 x0 x1 x2 x3 x4 x5 x6 x7 x8 x9 x10 x11 x12 => stt [(0, .ref 0 0), (1, (zf hx)), (2, .ref 3 0), (5, .ref 4 0), (7, .fn (.func 78) [] [.ref 3 0, .ref 5 0])] 63 [.cells 103 (avG x0 x1 x2 x3 x4 x5 x6 x7 x8 x9 x10 x11 2), .dead, .arr 86 .sProblem x12, .cells 101 [.ref 0 0], .cells 94 (Ty.enc .sChannelPlace (ze lay.channels hx.toNat)), .cells 97 (Ty.enc .sChannel (zn c.channels hx.toNat))] 2 | .l0 x13 x0 x1 x2 x3 x4 x5 x6 x7 x8 x9 x10 x11 x12 => stt [(0, .ref 0 0), (1, (zf hx)), (2, .ref 3 0), (7, .fn (.func 82) [] [.ref 3 0, .ref 4 0]), (44, .sl .sDestPlace ((ze lay.channels hx.toNat).dests)), (45, (zf (((ze lay.channels hx.toNat).dests).length))), (46, (zf x13))] 63 [.cells 103 (avG x0 x1 x2 x3 x4 x5 x6 x7 x8 x9 x10 x11 2), .dead, .arr 86 .sProblem x12, .cells 101 [.ref 0 0], .cells 97 (Ty.enc .sChannel (zn c.channels hx.toNat))] 2 | .l1000 x13 x0 x1 x2 x3 x4 x5 x6 x7 x8 x9 x10 x11 x12 => stt [(0, .ref 0 0), (1, (zf hx)), (2, .ref 3 0), (7, .fn (.func 78) [] [.ref 3 0, .ref 4 0]), (44, .sl .sDestPlace ((ze lay.channels hx.toNat).dests)), (45, (zf (((ze lay.channels hx.toNat).dests).length))), (46, (zf x13))] 63 [.cells 103 (avG x0 x1 x2 x3 x4 x5 x6 x7 x8 x9 x10 x11 2), .dead, .arr 86 .sProblem x12, .cells 101 [.ref 0 0], .cells 97 (Ty.enc .sChannel (zn c.channels hx.toNat))] 2 | .l29 x13 x0 x1 x2 x3 x4 x5 x6 x7 x8 x9 x10 x11 x12 => stt [(0, .ref 0 0), (1, (zf hx)), (2, .ref 3 0), (7, .fn (.func 82) [] [.ref 3 0, .ref 4 0]), (44, .sl .sDestPlace ((ze lay.channels hx.toNat).dests)), (45, (zf (((ze lay.channels hx.toNat).dests).length))), (46, (zf x13))] 63 [.cells 103 (avG x0 x1 x2 x3 x4 x5 x6 x7 x8 x9 x10 x11 2), .dead, .arr 86 .sProblem x12, .cells 101 [.ref 0 0], .cells 97 (Ty.enc .sChannel (zn c.channels hx.toNat))] 2 | .l1029 x13 x0 x1 x2 x3 x4 x5 x6 x7 x8 x9 x10 x11 x12 => stt [(0, .ref 0 0), (1, (zf hx)), (2, .ref 3 0), (7, .fn (.func 78) [] [.ref 3 0, .ref 4 0]), (44, .sl .sDestPlace ((ze lay.channels hx.toNat).dests)), (45, (zf (((ze lay.channels hx.toNat).dests).length))), (46, (zf x13))] 63 [.cells 103 (avG x0 x1 x2 x3 x4 x5 x6 x7 x8 x9 x10 x11 2), .dead, .arr 86 .sProblem x12, .cells 101 [.ref 0 0], .cells 97 (Ty.enc .sChannel (zn c.channels hx.toNat))] 2
noncomputable def zdq {R : Type} (ret : R40 -> R) (hx : Int) (c : Config) (lay : Layout) (m : (Option MemMemory)) (out : List Problem) (j : L40 -> Option R) : L40 -> Option R | .l15 =>let y2 := (⟨(⟨c.frames, c.major, c.kernel, c.room, c.cores, c.partitions, c.channels⟩ : Config), (⟨lay.barrier, lay.partitions, lay.channels, lay.end_⟩ : Layout), m, out⟩ : AuditFinder); let y3 := ze lay.channels hx.toNat; let y4 := (⟨5, hx, y3.stage⟩ : Problem); let y1 := zcP [y4] c lay m out; let y5 := zn c.channels hx.toNat;  cond (zx3 (some y2) y3 y5) ( cond (!(((zCq (some y2) y3 y5) : Int) == 0)) (cond (zey [y4] c lay m out) ( j (.l19 (y1.c.frames) (y1.c.major) (y1.c.kernel) (y1.c.room) (y1.c.cores) (y1.c.partitions) (y1.c.channels) (y1.l.barrier) (y1.l.partitions) (y1.l.channels) (y1.l.end_) (y1.m) (y1.out))) none) (j (.l19 c.frames c.major c.kernel c.room c.cores c.partitions c.channels lay.barrier lay.partitions lay.channels lay.end_ m out))) none | .l1015 =>let y2 := (⟨(⟨c.frames, c.major, c.kernel, c.room, c.cores, c.partitions, c.channels⟩ : Config), (⟨lay.barrier, lay.partitions, lay.channels, lay.end_⟩ : Layout), m, out⟩ : AuditFinder); let y3 := ze lay.channels hx.toNat; let y4 := (⟨5, hx, y3.stage⟩ : Problem); let y1 := zcP [y4] c lay m out; let y5 := zn c.channels hx.toNat;  cond (zx1 (some y2) y3 y5) ( cond (!(((zCo (some y2) y3 y5) : Int) == 0)) (cond (zey [y4] c lay m out) ( j (.l1019 (y1.c.frames) (y1.c.major) (y1.c.kernel) (y1.c.room) (y1.c.cores) (y1.c.partitions) (y1.c.channels) (y1.l.barrier) (y1.l.partitions) (y1.l.channels) (y1.l.end_) (y1.m) (y1.out))) none) (j (.l1019 c.frames c.major c.kernel c.room c.cores c.partitions c.channels lay.barrier lay.partitions lay.channels lay.end_ m out))) none | .l19 x0 x1 x2 x3 x4 x5 x6 x7 x8 x9 x10 x11 x12 => j (.l0 0 x0 x1 x2 x3 x4 x5 x6 x7 x8 x9 x10 x11 x12) | .l1019 x0 x1 x2 x3 x4 x5 x6 x7 x8 x9 x10 x11 x12 => j (.l1000 0 x0 x1 x2 x3 x4 x5 x6 x7 x8 x9 x10 x11 x12) | .l0 x13 x0 x1 x2 x3 x4 x5 x6 x7 x8 x9 x10 x11 x12 =>let y2 := (ze lay.channels hx.toNat).dests; let y4 := (⟨x0, x1, x2, x3, x4, x5, x6⟩ : Config); let y5 := zbe y2 x13.toNat; let y6 := (⟨x7, x8, x9, x10⟩ : Layout); let y3 := (⟨y4, y6, x11, x12⟩ : AuditFinder); let y7 := zn c.channels hx.toNat; let y8 := (⟨6, hx, y5.at_⟩ : Problem); let y1 := zcP [y8] y4 y6 x11 x12;  cond (decide (x13 < y2.length)) (cond (zN x13 y2.length) ( cond (zx4 (y5.at_) (some y3) y7) ( cond (!(((zCr (y5.at_) (some y3) y7) : Int) == 0)) (cond (zey [y8] y4 y6 x11 x12) ( j (.l29 x13 (y1.c.frames) (y1.c.major) (y1.c.kernel) (y1.c.room) (y1.c.cores) (y1.c.partitions) (y1.c.channels) (y1.l.barrier) (y1.l.partitions) (y1.l.channels) (y1.l.end_) (y1.m) (y1.out))) none) (j (.l29 x13 x0 x1 x2 x3 x4 x5 x6 x7 x8 x9 x10 x11 x12))) none) none) (some (ret y3)) | .l1000 x13 x0 x1 x2 x3 x4 x5 x6 x7 x8 x9 x10 x11 x12 =>let y2 := (ze lay.channels hx.toNat).dests; let y4 := (⟨x0, x1, x2, x3, x4, x5, x6⟩ : Config); let y5 := zbe y2 x13.toNat; let y6 := (⟨x7, x8, x9, x10⟩ : Layout); let y3 := (⟨y4, y6, x11, x12⟩ : AuditFinder); let y7 := zn c.channels hx.toNat; let y8 := (⟨6, hx, y5.at_⟩ : Problem); let y1 := zcP [y8] y4 y6 x11 x12;  cond (decide (x13 < y2.length)) (cond (zN x13 y2.length) ( cond (zx2 (y5.at_) (some y3) y7) ( cond (!(((zCp (y5.at_) (some y3) y7) : Int) == 0)) (cond (zey [y8] y4 y6 x11 x12) ( j (.l1029 x13 (y1.c.frames) (y1.c.major) (y1.c.kernel) (y1.c.room) (y1.c.cores) (y1.c.partitions) (y1.c.channels) (y1.l.barrier) (y1.l.partitions) (y1.l.channels) (y1.l.end_) (y1.m) (y1.out))) none) (j (.l1029 x13 x0 x1 x2 x3 x4 x5 x6 x7 x8 x9 x10 x11 x12))) none) none) (some (ret y3)) | .l29 x13 x0 x1 x2 x3 x4 x5 x6 x7 x8 x9 x10 x11 x12 => j (.l0 (i64.wrap (x13 + 1)) x0 x1 x2 x3 x4 x5 x6 x7 x8 x9 x10 x11 x12) | .l1029 x13 x0 x1 x2 x3 x4 x5 x6 x7 x8 x9 x10 x11 x12 => j (.l1000 (i64.wrap (x13 + 1)) x0 x1 x2 x3 x4 x5 x6 x7 x8 x9 x10 x11 x12)
noncomputable def zoi {R : Type} (ret : R40 -> R) (hx : Int) (c : Config) (lay : Layout) (m : (Option MemMemory)) (out : List Problem) (j : L40 -> Option R) : Option R := cond (zN hx c.channels.length) ( cond (zN hx lay.channels.length) (cond (((zn c.channels hx.toNat).kind : Int) == 1) (j (.l15)) (j (.l1015))) none) none
theorem ct40 (hx : Int) (c : Config) (lay : Layout) (m : (Option MemMemory)) (out : List Problem) (l : L40) : CT fun j => zdq id hx c lay m out j l := by cases l <;> (dsimp only [zdq]; repeat (first | exact ctJ _ | exact ctK _ | apply ctC))
def zbO (hx : Int) (c : Config) (lay : Layout) (m : (Option MemMemory)) (out : List Problem) : L40 -> Option R40 := lfp (zdq id hx c lay m out)
theorem zbP (hx : Int) (c : Config) (lay : Layout) (m : (Option MemMemory)) (out : List Problem) (l : L40) : zbO hx c lay m out l = zdq id hx c lay m out (zbO hx c lay m out) l := zL (ct40 hx c lay m out) l
def zw8 (hx : Int) (c : Config) (lay : Layout) (m : (Option MemMemory)) (out : List Problem) : Option R40 := zoi id hx c lay m out (zbO hx c lay m out)
def zgL (hx : Int) (c : Config) (lay : Layout) (m : (Option MemMemory)) (out : List Problem) : R40 := (zw8 hx c lay m out).getD default
def zxM (hx : Int) (c : Config) (lay : Layout) (m : (Option MemMemory)) (out : List Problem) : Bool := (zw8 hx c lay m out).isSome
theorem zTL (hx : Int) (c : Config) (lay : Layout) (m : (Option MemMemory)) (out : List Problem) (hc : zxM hx c lay m out = true) : Okay Pr GL 40 [.ref 0 0, (zf hx)] [.cells 103 (avF c lay m 1), .arr 86 .sProblem out] (zHY (zgL hx c lay m out)) := zG (H := H40) (bod := zdq id hx c lay m out) (ent := zoi id hx c lay m out) (bodA := zdq zHY hx c lay m out) (entA := zoi zHY hx c lay m out) zIu zA Tryz.func40 rfl (by kernel_rfl) zHY zSP (st40 hx c lay m out) (fun J l => by cases l <;> kernel_rfl) (fun J => by kernel_rfl) (fun s l => by cases l <;> simp only [zdq, zc, zt, zu, id]) (fun s => by simp only [zoi, zc, zt, zu, id]) (ct40 hx c lay m out) (by dsimp only [zoi]; repeat (first | exact ctJ _ | exact ctK _ | apply ctC)) hc
def g40 (args : List AV) (hp : List Blk) : Option (Bool × AV × List Blk) :=
 match args, hp with
 | [.ref 0 0, .v (.int .i64 y0)], [.cells 103 [.v (.int .i64 y1), .v (.int .i64 y2), .v (.int .i64 y3), .v (.int .i64 y4), .sl (.sl .sWindow) y5, .sl .sPartition y6, .sl .sChannel y7, .v (.int .i64 y8), .sl .sPartitionPlace y9, .sl .sChannelPlace y10, .v (.int .i64 y11), .op .sMemMemory y12, .own 1], .arr 86 .sProblem y13] => some ((zxM y0 (⟨y1, y2, y3, y4, y5, y6, y7⟩ : Config) (⟨y8, y9, y10, y11⟩ : Layout) y12 y13), .tup [], [.cells 103 [(zf ((zgL y0 (⟨y1, y2, y3, y4, y5, y6, y7⟩ : Config) (⟨y8, y9, y10, y11⟩ : Layout) y12 y13).c.frames)), (zf ((zgL y0 (⟨y1, y2, y3, y4, y5, y6, y7⟩ : Config) (⟨y8, y9, y10, y11⟩ : Layout) y12 y13).c.major)), (zf ((zgL y0 (⟨y1, y2, y3, y4, y5, y6, y7⟩ : Config) (⟨y8, y9, y10, y11⟩ : Layout) y12 y13).c.kernel)), (zf ((zgL y0 (⟨y1, y2, y3, y4, y5, y6, y7⟩ : Config) (⟨y8, y9, y10, y11⟩ : Layout) y12 y13).c.room)), .sl (.sl .sWindow) ((zgL y0 (⟨y1, y2, y3, y4, y5, y6, y7⟩ : Config) (⟨y8, y9, y10, y11⟩ : Layout) y12 y13).c.cores), .sl .sPartition ((zgL y0 (⟨y1, y2, y3, y4, y5, y6, y7⟩ : Config) (⟨y8, y9, y10, y11⟩ : Layout) y12 y13).c.partitions), .sl .sChannel ((zgL y0 (⟨y1, y2, y3, y4, y5, y6, y7⟩ : Config) (⟨y8, y9, y10, y11⟩ : Layout) y12 y13).c.channels), (zf ((zgL y0 (⟨y1, y2, y3, y4, y5, y6, y7⟩ : Config) (⟨y8, y9, y10, y11⟩ : Layout) y12 y13).l.barrier)), .sl .sPartitionPlace ((zgL y0 (⟨y1, y2, y3, y4, y5, y6, y7⟩ : Config) (⟨y8, y9, y10, y11⟩ : Layout) y12 y13).l.partitions), .sl .sChannelPlace ((zgL y0 (⟨y1, y2, y3, y4, y5, y6, y7⟩ : Config) (⟨y8, y9, y10, y11⟩ : Layout) y12 y13).l.channels), (zf ((zgL y0 (⟨y1, y2, y3, y4, y5, y6, y7⟩ : Config) (⟨y8, y9, y10, y11⟩ : Layout) y12 y13).l.end_)), .op .sMemMemory ((zgL y0 (⟨y1, y2, y3, y4, y5, y6, y7⟩ : Config) (⟨y8, y9, y10, y11⟩ : Layout) y12 y13).m), .own 2], .dead, .arr 86 .sProblem ((zgL y0 (⟨y1, y2, y3, y4, y5, y6, y7⟩ : Config) (⟨y8, y9, y10, y11⟩ : Layout) y12 y13).out)])
 | _, _ => none
theorem zLx : zD 40 g40 := fun args hp b r hp' h hb => by
 unfold g40 at h
 split at h
 . cases h; have q := zTL _ _ _ _ _ hb; exact ⟨zB Tryz.func40 (by kernel_rfl) rfl, q⟩
 . cases h
noncomputable def GQ6 : Gam := zd2 [(40, g40)] GQ5
theorem zIv : GOk Pr GL GQ6 := zaH ⟨zLx, trivial⟩ zIu
abbrev R14 := (List Problem) × Int
def zHI (r : R14) : zT := ⟨.tup [.own 0, (zf r.2)], [.arr 86 .sProblem r.1]⟩
inductive L14 where | l13 | l0 (x0 : Int) (x1 : Int) (x2 : Int) (x3 : Int) (x4 : Int) (x5 : List (List Window)) (x6 : List Partition) (x7 : List Channel) (x8 : Int) (x9 : List PartitionPlace) (x10 : List ChannelPlace) (x11 : Int) (x12 : Option MemMemory) (x13 : List Problem) | l4 (x0 : Int) (x1 : Int) (x2 : Int) (x3 : Int) (x4 : Int) (x5 : List (List Window)) (x6 : List Partition) (x7 : List Channel) (x8 : Int) (x9 : List PartitionPlace) (x10 : List ChannelPlace) (x11 : Int) (x12 : Option MemMemory) (x13 : List Problem) | l8 (x0 : Int) (x1 : Int) (x2 : Int) (x3 : Int) (x4 : Int) (x5 : List (List Window)) (x6 : List Partition) (x7 : List Channel) (x8 : Int) (x9 : List PartitionPlace) (x10 : List ChannelPlace) (x11 : Int) (x12 : Option MemMemory) (x13 : List Problem)
def zSz : L14 -> Nat | .l13 => 13 | .l0 _ _ _ _ _ _ _ _ _ _ _ _ _ _ => 0 | .l4 _ _ _ _ _ _ _ _ _ _ _ _ _ _ => 4 | .l8 _ _ _ _ _ _ _ _ _ _ _ _ _ _ => 8
def H14 : zS := htt [6] [(0, ⟨z7 [2, 7, 34, 35] 94 0, []⟩), (4, ⟨z7 [2, 7, 56, 57] 94 0, []⟩), (8, ⟨z7 [7, 82, 83] 94 0, []⟩), (13, ⟨z7 [2, 7] 94 0, [(.box 7 12, .own 86 .sProblem)]⟩)] [(.slot 0, .own 86 .sProblem)]
noncomputable def st14 (c : Config) (m : (Option MemMemory)) : L14 -> St | .l13 => stt [(2, .ref 0 0), (7, .ref 1 0)] 94 [.cells 26 (Ty.enc .sConfig c), .cells 103 [(zf c.frames), (zf c.major), (zf c.kernel), (zf c.room), .sl (.sl .sWindow) c.cores, .sl .sPartition c.partitions, .sl .sChannel c.channels, (zf ((zdB c).1.barrier)), .sl .sPartitionPlace ((zdB c).1.partitions), .sl .sChannelPlace ((zdB c).1.channels), (zf ((zdB c).1.end_)), .op .sMemMemory m, .own 2], .arr 86 .sProblem []] 0 | .l0 x0 x1 x2 x3 x4 x5 x6 x7 x8 x9 x10 x11 x12 x13 => stt [(2, .ref 0 0), (7, .ref 1 0), (34, (zf c.partitions.length)), (35, (zf x0))] 94 [.cells 26 (Ty.enc .sConfig c), .cells 103 (avG x1 x2 x3 x4 x5 x6 x7 x8 x9 x10 x11 x12 2), .arr 86 .sProblem x13] 0 | .l4 x0 x1 x2 x3 x4 x5 x6 x7 x8 x9 x10 x11 x12 x13 => stt [(2, .ref 0 0), (7, .ref 1 0), (56, (zf c.channels.length)), (57, (zf x0))] 94 [.cells 26 (Ty.enc .sConfig c), .cells 103 (avG x1 x2 x3 x4 x5 x6 x7 x8 x9 x10 x11 x12 2), .arr 86 .sProblem x13] 0 | .l8 x0 x1 x2 x3 x4 x5 x6 x7 x8 x9 x10 x11 x12 x13 => stt [(7, .ref 0 0), (82, (zf c.partitions.length)), (83, (zf x0))] 94 [.cells 103 (avG x1 x2 x3 x4 x5 x6 x7 x8 x9 x10 x11 x12 1), .arr 86 .sProblem x13] 0
noncomputable def zdN {R : Type} (ret : R14 -> R) (c : Config) (m : (Option MemMemory)) (j : L14 -> Option R) : L14 -> Option R | .l13 =>let y1 := zgJ c ((zdB c).1) m [];  cond (zxK c ((zdB c).1) m []) ( j (.l0 0 (y1.c.frames) (y1.c.major) (y1.c.kernel) (y1.c.room) (y1.c.cores) (y1.c.partitions) (y1.c.channels) (y1.l.barrier) (y1.l.partitions) (y1.l.channels) (y1.l.end_) (y1.m) (y1.out))) none | .l0 x0 x1 x2 x3 x4 x5 x6 x7 x8 x9 x10 x11 x12 x13 =>let y3 := (⟨x1, x2, x3, x4, x5, x6, x7⟩ : Config); let y4 := (zb x9 x0.toNat).lock; let y5 := (⟨x8, x9, x10, x11⟩ : Layout); let y1 := zft x0 y4 1 y3 y5 x12 x13; let y2 := zgK x0 (y1.c) (y1.l) (y1.m) (y1.out);  cond (decide (x0 < c.partitions.length)) (cond (zN x0 x9.length) ( cond (zpG x0 y4 1 y3 y5 x12 x13) ( cond (zxL x0 (y1.c) (y1.l) (y1.m) (y1.out)) ( j (.l0 (i64.wrap (x0 + 1)) (y2.c.frames) (y2.c.major) (y2.c.kernel) (y2.c.room) (y2.c.cores) (y2.c.partitions) (y2.c.channels) (y2.l.barrier) (y2.l.partitions) (y2.l.channels) (y2.l.end_) (y2.m) (y2.out))) none) none) none) (j (.l4 0 x1 x2 x3 x4 x5 x6 x7 x8 x9 x10 x11 x12 x13)) | .l4 x0 x1 x2 x3 x4 x5 x6 x7 x8 x9 x10 x11 x12 x13 =>let y3 := (⟨x1, x2, x3, x4, x5, x6, x7⟩ : Config); let y4 := (ze x10 x0.toNat).lock; let y5 := (⟨x8, x9, x10, x11⟩ : Layout); let y6 := i64.wrap (16 + x0); let y1 := zft y6 y4 c.cores.length y3 y5 x12 x13; let y2 := zgL x0 (y1.c) (y1.l) (y1.m) (y1.out);  cond (decide (x0 < c.channels.length)) (cond (zN x0 x10.length) ( cond (zpG y6 y4 c.cores.length y3 y5 x12 x13) ( cond (zxM x0 (y1.c) (y1.l) (y1.m) (y1.out)) ( j (.l4 (i64.wrap (x0 + 1)) (y2.c.frames) (y2.c.major) (y2.c.kernel) (y2.c.room) (y2.c.cores) (y2.c.partitions) (y2.c.channels) (y2.l.barrier) (y2.l.partitions) (y2.l.channels) (y2.l.end_) (y2.m) (y2.out))) none) none) none) (j (.l8 0 x1 x2 x3 x4 x5 x6 x7 x8 x9 x10 x11 x12 x13)) | .l8 x0 x1 x2 x3 x4 x5 x6 x7 x8 x9 x10 x11 x12 x13 =>let y2 := (⟨x1, x2, x3, x4, x5, x6, x7⟩ : Config); let y3 := (⟨x8, x9, x10, x11⟩ : Layout); let y1 := zgM x0 y2 y3 x12 x13;  cond (decide (x0 < c.partitions.length)) (cond (zxN x0 y2 y3 x12 x13) ( j (.l8 (i64.wrap (x0 + 1)) (y1.c.frames) (y1.c.major) (y1.c.kernel) (y1.c.room) (y1.c.cores) (y1.c.partitions) (y1.c.channels) (y1.l.barrier) (y1.l.partitions) (y1.l.channels) (y1.l.end_) (y1.m) (y1.out))) none) (some (ret (x13, 0)))
noncomputable def zke {R : Type} (ret : R14 -> R) (c : Config) (m : (Option MemMemory)) (j : L14 -> Option R) : Option R := cond (zpF c [m]) (cond (!(((zvn c [m]) : Int) == 0)) (some (ret ([], (zvn c [m])))) (cond (znm c) (j (.l13)) none)) none
theorem ct14 (c : Config) (m : (Option MemMemory)) (l : L14) : CT fun j => zdN id c m j l := by cases l <;> (dsimp only [zdN]; repeat (first | exact ctJ _ | exact ctK _ | apply ctC))
def zdC (c : Config) (m : (Option MemMemory)) : L14 -> Option R14 := lfp (zdN id c m)
theorem zdD (c : Config) (m : (Option MemMemory)) (l : L14) : zdC c m l = zdN id c m (zdC c m) l := zL (ct14 c m) l
def zkB (c : Config) (m : (Option MemMemory)) : Option R14 := zke id c m (zdC c m)
def zfs (c : Config) (m : (Option MemMemory)) : R14 := (zkB c m).getD default
def zkD (c : Config) (m : (Option MemMemory)) : Bool := (zkB c m).isSome
theorem zTm (c : Config) (m : (Option MemMemory)) (hc : zkD c m = true) : Okay Pr GL 14 [.agg (Ty.enc .sConfig c), .op .sMemMemory m] [] (zHI (zfs c m)) := zG (H := H14) (bod := zdN id c m) (ent := zke id c m) (bodA := zdN zHI c m) (entA := zke zHI c m) zIv zA Tryz.func14 rfl (by kernel_rfl) zHI zSz (st14 c m) (fun J l => by cases l <;> kernel_rfl) (fun J => by kernel_rfl) (fun s l => by cases l <;> simp only [zdN, zc, zt, zu, id]) (fun s => by simp only [zke, zc, zt, zu, id]) (ct14 c m) (by dsimp only [zke]; repeat (first | exact ctJ _ | exact ctK _ | apply ctC)) hc
def g14 := zJ (zH (rdS .sConfig) fun a0 => zH (zZ (.p .sMemMemory)) fun a1 => zI ((zkD a0 a1), .tup [.own 0, (zf ((zfs a0 a1).2))], [.arr 86 .sProblem ((zfs a0 a1).1)]))
theorem zK7 : zD 14 g14 := zk (zB Tryz.func14 (by kernel_rfl) rfl) (zg fun x0 a0 h0 => zg fun x1 a1 h1 => zj fun hb => (zTm a0 a1 hb).ats (.cons (zP h0) (.cons (zp h1) .nil)))
noncomputable def GQ7 : Gam := zd2 [(14, g14)] GQ6
theorem zQq : GOk Pr GL GQ7 := zaH ⟨zK7, trivial⟩ zIv
abbrev R4 := Bool
def to4 (r : R4) : zT := ⟨(zX r), []⟩
noncomputable def zA7 {R : Type} (ret : R4 -> R) (c : Config) (turns : (List Bulkheadlaw28Turn)) : Option R := cond (zHm c turns) ( cond (zxB c (sp5 c turns)) ( cond (zHo (sp5 c turns)) ( cond (zHn (sp8 (sp5 c turns))) ( cond (!(((sp7 (sp8 (sp5 c turns))).2 : Int) == 0)) (some (ret false)) (cond (zHp c) ( cond (zkD (sp9 c) ((sp7 (sp8 (sp5 c turns))).1)) ( cond (zkD (sp9 c) ((sp7 (sp8 (sp5 c turns))).1)) ( cond (!(((zfs (sp9 c) ((sp7 (sp8 (sp5 c turns))).1)).2 : Int) == (zhn c (sp5 c turns)).2)) (some (ret false)) (cond (znc ((zfs (sp9 c) ((sp7 (sp8 (sp5 c turns))).1)).1) ((zhn c (sp5 c turns)).1)) ( cond (!(zvk ((zfs (sp9 c) ((sp7 (sp8 (sp5 c turns))).1)).1) ((zhn c (sp5 c turns)).1))) (some (ret false)) (cond (!(((zfs (sp9 c) ((sp7 (sp8 (sp5 c turns))).1)).2 : Int) == (zhn c (sp5 c turns)).2)) (some (ret false)) (cond (znc ((zfs (sp9 c) ((sp7 (sp8 (sp5 c turns))).1)).1) ((zhn c (sp5 c turns)).1)) ( cond (!(zvk ((zfs (sp9 c) ((sp7 (sp8 (sp5 c turns))).1)).1) ((zhn c (sp5 c turns)).1))) (some (ret false)) (cond (zxC ((zfs (sp9 c) ((sp7 (sp8 (sp5 c turns))).1)).1)) ( cond (znc ((zfs (sp9 c) ((sp7 (sp8 (sp5 c turns))).1)).1) ((zhn c (sp5 c turns)).1)) ( cond (!(zvk ((zfs (sp9 c) ((sp7 (sp8 (sp5 c turns))).1)).1) ((zhn c (sp5 c turns)).1))) (some (ret false)) (cond (zkD (sp9 c) ((sp7 (sp8 (sp5 c turns))).1)) ( cond (!(((zfs (sp9 c) ((sp7 (sp8 (sp5 c turns))).1)).2 : Int) == (zhn c (sp5 c turns)).2)) (some (ret false)) (cond (znc ((zfs (sp9 c) ((sp7 (sp8 (sp5 c turns))).1)).1) ((zhn c (sp5 c turns)).1)) ( cond (!(zvk ((zfs (sp9 c) ((sp7 (sp8 (sp5 c turns))).1)).1) ((zhn c (sp5 c turns)).1))) (some (ret false)) (cond (zxD (sp9 c) c) ( cond (!(zG4 (sp9 c) c)) (some (ret false)) (cond (zkD (sp9 c) none) ( cond (((zfs (sp9 c) none).2 : Int) == 3) (cond (zxF ((sp7 (sp8 (sp5 c turns))).1)) ( cond (zxE (zCf ((sp7 (sp8 (sp5 c turns))).1)) (sp5 c turns)) (some (ret (zG5 (zCf ((sp7 (sp8 (sp5 c turns))).1)) (sp5 c turns)))) none) none) (some (ret false))) none)) none)) none)) none)) none) none)) none))) none)) none) none) none)) none) none) none) none
def zHh (c : Config) (turns : (List Bulkheadlaw28Turn)) : Option R4 := zA7 id c turns
def sp4 (c : Config) (turns : (List Bulkheadlaw28Turn)) : R4 := (zHh c turns).getD default
def zOO (c : Config) (turns : (List Bulkheadlaw28Turn)) : Bool := (zHh c turns).isSome
theorem oks4 (c : Config) (turns : (List Bulkheadlaw28Turn)) (hc : zOO c turns = true) : Okay Pr GL 4 [.agg (Ty.enc .sConfig c), .sl .sBulkheadlaw28Turn turns] [] (to4 (sp4 c turns)) := zy (H := H57) (ent := zA7 id c turns) (entA := zA7 to4 c turns) zQq zA Tryz.func4 rfl (by kernel_rfl) to4 (fun J => by kernel_rfl) (by simp only [zA7, zc, zt, zu, id]) hc
def g4 := zJ (zH (rdS .sConfig) fun a0 => zH (zZ (.sl .sBulkheadlaw28Turn)) fun a1 => zI ((zOO a0 a1), (zX (sp4 a0 a1)), []))
end Go.Proofs.YtgfifnadfmaolaaGreatDoor
end
