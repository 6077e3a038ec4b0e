/- Differ$1, the function that goes through the places at which two memories differ: its contract as an iterator, for every body that keeps the two memories. -/
import Derived.Test.YtgfifnadfmaolaaGreatDoorRH
import Derived.Test.YtgfifnadfmaolaaGreatDoorTE
import Derived.Test.YtgfifnadfmaolaaGreatDoorTH
import Derived.RangeFuncKeeps
namespace Go.Proofs.YtgfifnadfmaolaaGreatDoor
open Go.RowKit
set_option linter.unusedVariables false
set_option linter.unusedSimpArgs false
def cL : Code → Code
  | .seq a _ => a
  | .block _ c => c
  | .loop c => c
  | .rangeFunc _ _ a _ => a
  | c => c
def cR : Code → Code
  | .seq _ b => b
  | .rangeFunc _ _ _ b => b
  | c => c
def regOps : Code → Array Oper
  | .region _ ops _ => ops
  | _ => #[]
noncomputable def d0 : Code := bodyOf Tryz.f51
noncomputable def dX : Code := cL d0
noncomputable def dR1 : Code := cL (cR d0)
noncomputable def dL : Code := cL (cL (cR (cR d0)))
noncomputable def dR2 : Code := cL dL
noncomputable def dB : Code := cL (cL (cR (cR dL)))
noncomputable def dR3 : Code := cL dB
noncomputable def dO4 : Array Oper := regOps (cL (cR dB))
noncomputable def dR5 : Code := cR (cR (cR dL))
theorem d0_eq : Tryz.f51.body = some (.seq dX (.seq dR1 (.block 0 (.loop (.seq dR2 (.seq (.cond (.tmp 23) .skip (.exit 0)) (.seq (.block 1 (.seq dR3 (.seq (.region 4 dO4 false) (.cond (.tmp 34) .ret .skip)))) dR5))))))) := by kernel_rfl
noncomputable def dO (i : Nat) : Oper := dO4.getD i default
theorem dO4_eq : dO4.toList = [dO 0, dO 1, dO 2, dO 3, dO 4, dO 5, dO 6] ++ [dO 7, dO 8, dO 9] := by kernel_rfl
theorem dO7_op : (dO 7).op = .call { callee := .value (.tmp 30), args := #[.tmp 31], argTypes := #[3] } := by kernel_rfl
theorem dO7_g : (dO 7).guard = some (4, true) := by kernel_rfl
theorem dO7_d : (dO 7).dst = some 32 := by kernel_rfl
theorem dO4_d : (dO4.toList[4]?).bind (·.dst) = some 29 := by kernel_rfl
def Mems (m o : MemMemory) (b1 b2 : Nat) (w : World) : Prop := ∃ F : Nat → Prop, (∀ p, F p → p < w.heap.size) ∧ GlOk GL F w ∧ D F w (.op (.p .sMemMemory) (some (some m))) (.pointer (some ⟨b1, 0, none⟩)) ∧ D F w (.op (.p .sMemMemory) (some (some o))) (.pointer (some ⟨b2, 0, none⟩))
def hpD (m o : MemMemory) : List Blk := [.rob (.p .sMemMemory) (some m), .rob (.p .sMemMemory) (some o)]
def βD (b1 b2 : Nat) : Gh := ⟨fun j => match j with | 0 => b1 | _ => b2, fun _ => undef, fun _ => none, fun j => j < 2⟩
theorem hD {m o : MemMemory} {b1 b2 : Nat} {F : Nat → Prop} {w : World} (hb : ∀ p, F p → p < w.heap.size) (h1 : D F w (.op (.p .sMemMemory) (some (some m))) (.pointer (some ⟨b1, 0, none⟩))) (h2 : D F w (.op (.p .sMemMemory) (some (some o))) (.pointer (some ⟨b2, 0, none⟩))) : HOk F w (βD b1 b2) (hpD m o) :=
  ⟨hb, fun b k hk => (by
    match b, hk with
    | 0, hk => cases hk; exact h1
    | 1, hk => cases hk; exact h2
    | b + 2, hk => cases hk), fun p κ h => (by cases h), fun p κ h => (by cases h), fun b hb => hb⟩
abbrev stD (m o : MemMemory) (e : List (Nat × AV)) : St := ⟨mkE e 36 0, hpD m o, GL, 2, [], nodp⟩
abbrev eD (l : Nat) (e : List (Nat × AV)) : List (Nat × AV) := (0, .fn (.yield l) [] []) :: (1, .ref 0 0) :: (2, .ref 1 0) :: e
def H1 : Hint := ⟨fun _ => false, fun _ => ⟨[], []⟩, [], G0, nodp⟩
theorem runX (l : Nat) (m o : MemMemory) : ev Pr GM H1 (fun _ _ => none) 0 dX (kCap [0, 1, 2] [0, 1]) (stD m o (eD l [])) = some ⟨.tup (stD m o (eD l [])).env, hpD m o⟩ := by kernel_rfl
theorem runR1 (l : Nat) (m o : MemMemory) : ev Pr GM H1 (fun _ _ => none) 0 dR1 (kCap [0, 1, 2, 21, 22] [0, 1]) (stD m o (eD l [])) = some ⟨.tup (stD m o (eD l [(21, .v (.int .i64 (mx (m.words.length : Int) (o.words.length : Int)))), (22, .v (.int .i64 0))])).env, hpD m o⟩ := by kernel_rfl
theorem runR2 (l : Nat) (m o : MemMemory) (n k : Int) : ev Pr GM H1 (fun _ _ => none) 0 dR2 (kCap [0, 1, 2, 21, 22, 23] [0, 1]) (stD m o (eD l [(21, .v (.int .i64 n)), (22, .v (.int .i64 k))])) = some ⟨.tup (stD m o (eD l [(21, .v (.int .i64 n)), (22, .v (.int .i64 k)), (23, .v (.bool (decide (k < n))))])).env, hpD m o⟩ := by kernel_rfl
theorem runR3 (l : Nat) (m o : MemMemory) (n k : Int) (b : Bool) : ev Pr GM H1 (fun _ _ => none) 0 dR3 (kCap [0, 1, 2, 4, 21, 22] [0, 1]) (stD m o (eD l [(21, .v (.int .i64 n)), (22, .v (.int .i64 k)), (23, .v (.bool b))])) = some ⟨.tup (stD m o (eD l [(4, .v (.int .i64 k)), (21, .v (.int .i64 n)), (22, .v (.int .i64 k))])).env, hpD m o⟩ := by kernel_rfl
theorem runR4 (l : Nat) (m o : MemMemory) (n k : Int) : evOps Pr GM dO4.toList [dO 0, dO 1, dO 2, dO 3, dO 4, dO 5, dO 6] (stD m o (eD l [(4, .v (.int .i64 k)), (21, .v (.int .i64 n)), (22, .v (.int .i64 k))])) (kCap [0, 1, 2, 21, 22, 29, 30, 31] [0, 1] .normal) =
    cond (spc52 (some m) (some o) k) (cond (sp52 (some m) (some o) k)
      (some ⟨.tup (stD m o (eD l [(21, .v (.int .i64 n)), (22, .v (.int .i64 k)), (29, .v (.bool true)), (30, .fn (.yield l) [] []), (31, .v (.int .i64 k))])).env, hpD m o⟩)
      (some ⟨.tup (stD m o (eD l [(21, .v (.int .i64 n)), (22, .v (.int .i64 k)), (29, .v (.bool false)), (30, skipV), (31, skipV)])).env, hpD m o⟩)) none := by kernel_rfl
theorem runR4f (l : Nat) (m o : MemMemory) (n k : Int) : ev Pr GM H1 (fun _ _ => none) 0 (.region 4 dO4 false) (kCap [0, 1, 2, 21, 22, 34] [0, 1]) (stD m o (eD l [(4, .v (.int .i64 k)), (21, .v (.int .i64 n)), (22, .v (.int .i64 k))])) =
    cond (spc52 (some m) (some o) k) (cond (sp52 (some m) (some o) k) none
      (some ⟨.tup (stD m o (eD l [(21, .v (.int .i64 n)), (22, .v (.int .i64 k)), (34, .v (.bool false))])).env, hpD m o⟩)) none := by kernel_rfl
theorem runR4b (l : Nat) (n k : Int) (b : Bool) : evOps Pr G0 dO4.toList [dO 8, dO 9] ⟨mkE (eD l [(21, .v (.int .i64 n)), (22, .v (.int .i64 k)), (29, .v (.bool true)), (32, .v (.bool b))]) 36 0, [.dead, .dead], [], 2, [], nodp⟩ (kCap [0, 1, 2, 21, 22, 34] [0, 1] .normal) =
    some ⟨.tup (mkE (eD l [(21, .v (.int .i64 n)), (22, .v (.int .i64 k)), (34, .v (.bool (!b)))]) 36 0), [.dead, .dead]⟩ := by kernel_rfl
theorem runR5 (l : Nat) (m o : MemMemory) (n k : Int) (b : Bool) : ev Pr GM H1 (fun _ _ => none) 0 dR5 (kCap [0, 1, 2, 21, 22] [0, 1]) (stD m o (eD l [(21, .v (.int .i64 n)), (22, .v (.int .i64 k)), (34, .v (.bool b))])) = some ⟨.tup (stD m o (eD l [(21, .v (.int .i64 n)), (22, .v (.int .i64 (IntKind.i64.wrap (k + 1))))])).env, hpD m o⟩ := by kernel_rfl
def flatA : AV → Bool
  | .undef => true
  | .v _ => true
  | .ref j _ => Nat.blt j 2
  | .fn _ [] [] => true
  | _ => false
theorem V.flat {F F' : Nat → Prop} {w w' : World} {β β' : Gh} (hl : ∀ j, j < 2 → β'.l j ∧ β'.b j = β.b j) {x : AV} {y : Value} (h : V F w β x y) (hf : flatA x = true) : V F' w' β' x y := by
  unfold flatA at hf
  split at hf
  · exact .undef y
  · cases h; exact .v _
  · rename_i j off
    obtain ⟨hb, rfl⟩ := V_ref h
    obtain ⟨h1, h2⟩ := hl j (by simpa using hf)
    rw [← h2]; exact .ref j off h1
  · cases h with
    | fn f' l1 l2 ya yc hla hlc ha hc => exact .fn _ [] [] ya yc hla hlc (fun j hj => by simp at hj) (fun j hj => by simp at hj)
  · cases hf
theorem mkE_get (l : List (Nat × AV)) : ∀ (n i t : Nat), (mkE l n i).getD t .undef = if t < n then lk l (i + t) else .undef
  | 0, i, t => by simp [mkE]
  | n + 1, i, t => by
    cases t with
    | zero => simp [mkE]
    | succ t =>
      have := mkE_get l n (i + 1) t
      simp only [mkE, List.getD_cons_succ, this]
      rw [show i + 1 + t = i + (t + 1) by omega]
      by_cases h : t < n <;> simp [h]
theorem mkE_len (l : List (Nat × AV)) : ∀ (n i : Nat), (mkE l n i).length = n
  | 0, _ => rfl
  | n + 1, i => by simp [mkE, mkE_len l n (i + 1)]
theorem Rel.anew {B : Bs} {F F' : Nat → Prop} {β : Gh} {b1 b2 : Nat} {e : List AV} {hp hp' : List Blk} {gl gl' : List AV} {q : TypeId → List (Nat × TypeId)} {a a' : Act} {w w' : World} (h : Rel B F β ⟨e, hp, gl, 2, [], q⟩ a w) (hB : ∀ j, j < 2 → B.β.l j ∧ B.β.b j = (βD b1 b2).b j)
    (hh : HOk F' w' (βD b1 b2) hp') (hp2 : 2 ≤ hp'.length) (hg : ∀ g, D F' w' (gl'.getD g .undef) (.pointer (some ⟨g, 0, none⟩))) {e' : List AV} (hf : e'.all flatA = true) (hd : a'.defers = []) (hl : e'.length = a'.tmps.size) (he : ∀ t, e'.getD t .undef = e.getD t .undef ∧ a'.tmps.getD t undef = a.tmps.getD t undef ∨ e'.getD t .undef = .undef ∨ V F' w' (βD b1 b2) (e'.getD t .undef) (a'.tmps.getD t undef)) :
    Rel (entB w' F' (βD b1 b2)) F' (βD b1 b2) (⟨e', hp', gl', 2, [], nodp⟩ : St) a' w' := by
  refine ⟨hl, fun t => ?_, hg, by rw [hd]; trivial, .refl _ _, fun p hp => .inl hp, fun p hp => hp, fun p κ hp => (by cases hp), .refl _, fun j hj => hj, fun b hb => .inl hb, hp2, hh⟩
  show V F' w' (βD b1 b2) (e'.getD t .undef) _
  rcases he t with ⟨h1, h2⟩ | h1 | h1
  · have hv : V F w β (e.getD t .undef) (a.tmps.getD t undef) := h.env t
    rw [h1, h2]
    refine hv.flat (fun j hj => ?_) ?_
    · obtain ⟨q1, q2⟩ := hB j hj
      obtain ⟨_, r2, _⟩ := h.per j q1
      exact ⟨hj, by rw [r2, q2]⟩
    · rw [← h1]
      by_cases ht : t < e'.length
      · have := List.all_eq_true.1 hf _ (List.getElem_mem ht)
        simpa [List.getD, ht] using this
      · simp [List.getD, List.getElem?_eq_none (Nat.le_of_not_lt ht), flatA]
  · rw [h1]; exact .undef _
  · exact h1
theorem mems_mono {m o : MemMemory} {b1 b2 : Nat} {w w' : World} (h : Mems m o b1 b2 w) (hb : Below w.heap.size w w') : Mems m o b1 b2 w' := by
  obtain ⟨F, h1, h2, h3, h4⟩ := h
  have hE : Ext F F w w' := Ext.below hb
  exact ⟨F, fun p hp => Nat.lt_of_lt_of_le (h1 p hp) hb.size, fun g => (h2 g).mono hE, h3.mono hE, h4.mono hE⟩
abbrev Plc (c : Config) (m o : MemMemory) (N : Nat) := { i : Nat // i < N ∧ sp52 (some m) (some o) (i : Int) = true ∧ spc27 c (i : Int) = true }
open Classical in
noncomputable def plc (c : Config) (m o : MemMemory) (N : Nat) : Nat → List (Plc c m o N)
  | 0 => []
  | k + 1 => plc c m o N k ++ (if h : k < N ∧ sp52 (some m) (some o) (k : Int) = true ∧ spc27 c (k : Int) = true then [⟨k, h⟩] else [])
theorem plc_len (c : Config) (m o : MemMemory) (N : Nat) : ∀ k, (plc c m o N k).length ≤ k
  | 0 => Nat.le_refl _
  | k + 1 => by
    have := plc_len c m o N k
    simp only [plc, List.length_append]
    split <;> simp <;> omega
def encP {c : Config} {m o : MemMemory} {N : Nat} (x : Plc c m o N) : Array Value := #[.int .i64 (x.1 : Int)]
def KpM (m o : MemMemory) (b1 b2 : Nat) (A B : World) : Prop := Mems m o b1 b2 A → Mems m o b1 b2 B
theorem mx_nat (a b : Nat) : mx (a : Int) (b : Int) = ((max a b : Nat) : Int) := by rw [mx_eq]; omega
theorem okX : okL H1 0 dX = true ∧ labels H1 0 dX = [] := ⟨by kernel_rfl, by kernel_rfl⟩
theorem okR1 : okL H1 0 dR1 = true ∧ labels H1 0 dR1 = [] := ⟨by kernel_rfl, by kernel_rfl⟩
theorem okR2 : okL H1 0 dR2 = true ∧ labels H1 0 dR2 = [] := ⟨by kernel_rfl, by kernel_rfl⟩
theorem okR3 : okL H1 0 dR3 = true ∧ labels H1 0 dR3 = [] := ⟨by kernel_rfl, by kernel_rfl⟩
theorem okR4 : okL H1 0 (.region 4 dO4 false) = true ∧ labels H1 0 (.region 4 dO4 false) = [] := ⟨by kernel_rfl, by kernel_rfl⟩
theorem okR5 : okL H1 0 dR5 = true ∧ labels H1 0 dR5 = [] := ⟨by kernel_rfl, by kernel_rfl⟩
theorem stageD {c : Code} (ho : okL H1 0 c = true ∧ labels H1 0 c = []) {m o : MemMemory} {B : Bs} {F : Nat → Prop} {β : Gh} {e0 e : List AV} {q : TypeId → List (Nat × TypeId)} {a : Act} {w : World} (h : Rel B F β ⟨e0, hpD m o, GL, 2, [], q⟩ a w) {keep : List Nat} (run : ev Pr GM H1 (fun _ _ => none) 0 c (kCap keep [0, 1]) ⟨e0, hpD m o, GL, 2, [], nodp⟩ = some ⟨.tup e, hpD m o⟩)
    {n : Nat} {X : Act → World → Prop} {Q : Exit → Act → World → Prop} (hX : ∀ a' w' F' β' q, Rel B F' β' ⟨e, hpD m o, GL, 2, [], q⟩ a' w' → X a' w') : c.wpIn Fence.wide n Pr (Exit.then X Q) a w :=
  wpIn_wide.2 (stage (H := H1) GMok ho.1 ho.2 (h.as (st' := ⟨e0, hpD m o, GL, 2, [], nodp⟩) rfl rfl rfl rfl rfl) rfl rfl (keep := keep) (ids := [0, 1]) rfl rfl run hX)
theorem ent_l {b1 b2 : Nat} {w : World} {F : Nat → Prop} : ∀ j, j < 2 → (entB w F (βD b1 b2)).β.l j ∧ (entB w F (βD b1 b2)).β.b j = (βD b1 b2).b j := fun j hj => ⟨hj, rfl⟩
theorem Rel.rebase {m o : MemMemory} {b1 b2 : Nat} {w0 w : World} {F0 F : Nat → Prop} {β : Gh} {l : List (Nat × AV)} {q : TypeId → List (Nat × TypeId)} {a : Act} (h : Rel (entB w0 F0 (βD b1 b2)) F β ⟨mkE l 36 0, hpD m o, GL, 2, [], q⟩ a w) (hf : (mkE l 36 0).all flatA = true) : Rel (entB w F (βD b1 b2)) F (βD b1 b2) (stD m o l) a w := by
  have h1 : β.b 0 = b1 := (h.per 0 (show 0 < 2 by decide)).2.1
  have h2 : β.b 1 = b2 := (h.per 1 (show 1 < 2 by decide)).2.1
  have k1 : D F w (.op (.p .sMemMemory) (some (some m))) (.pointer (some ⟨b1, 0, none⟩)) := by have := h.heap.blk 0 _ rfl; rw [← h1]; exact this
  have k2 : D F w (.op (.p .sMemMemory) (some (some o))) (.pointer (some ⟨b2, 0, none⟩)) := by have := h.heap.blk 1 _ rfl; rw [← h2]; exact this
  exact h.anew ent_l (hD h.heap.fb k1 k2) (Nat.le_refl _) h.gl hf (dfok_nil h.df) h.len fun t => .inl ⟨rfl, rfl⟩
theorem mems_of {m o : MemMemory} {b1 b2 : Nat} {B F0 F w0 w} {β : Gh} {e : List AV} {q : TypeId → List (Nat × TypeId)} {a : Act} (h : Rel (entB w0 F0 (βD b1 b2)) F β ⟨e, hpD m o, GL, 2, [], q⟩ a w) (hB : B = 0) : Mems m o b1 b2 w := by
  have h1 : β.b 0 = b1 := (h.per 0 (show 0 < 2 by decide)).2.1
  have h2 : β.b 1 = b2 := (h.per 1 (show 1 < 2 by decide)).2.1
  exact ⟨F, h.heap.fb, h.gl, by have := h.heap.blk 0 _ rfl; rw [← h1]; exact this, by have := h.heap.blk 1 _ rfl; rw [← h2]; exact this⟩
theorem hDead {b1 b2 : Nat} {w : World} : HOk (fun _ => False) w (βD b1 b2) [.dead, .dead] :=
  ⟨fun _ h => h.elim, fun b k hk => (by
    match b, hk with
    | 0, hk => cases hk; trivial
    | 1, hk => cases hk; trivial
    | b + 2, hk => cases hk), fun p κ h => (by cases h), fun p κ h => (by cases h), fun b hb => hb⟩
theorem Rel.refill {m o : MemMemory} {b1 b2 : Nat} {w0 w : World} {F0 F : Nat → Prop} {β : Gh} {l : List (Nat × AV)} {hp : List Blk} {gl : List AV} {q : TypeId → List (Nat × TypeId)} {a : Act} (h : Rel (entB w0 F0 (βD b1 b2)) F β ⟨mkE l 36 0, hp, gl, 2, [], q⟩ a w) (hm : Mems m o b1 b2 w) (hf : (mkE l 36 0).all flatA = true) : ∃ F', Rel (entB w F' (βD b1 b2)) F' (βD b1 b2) (stD m o l) a w := by
  obtain ⟨F', h1, h2, h3, h4⟩ := hm
  exact ⟨F', h.anew ent_l (hD h1 h3 h4) (Nat.le_refl _) h2 hf (dfok_nil h.df) h.len fun t => .inl ⟨rfl, rfl⟩⟩
theorem differ_stops {c : Config} {m o : MemMemory} {N : Nat} (hN : N = max m.words.length o.words.length) (hs : N ≤ 100000) (hall : ∀ i, i < N → spc52 (some m) (some o) (i : Int) = true ∧ (sp52 (some m) (some o) (i : Int) = true → spc27 c (i : Int) = true))
    {b1 b2 n : Nat} {w : World} (hm : Mems m o b1 b2 w) : SeqStopsK Fence.wide n Pr 51 #[.pointer (some ⟨b1, 0, none⟩), .pointer (some ⟨b2, 0, none⟩)] (encP (c := c) (m := m) (o := o) (N := N)) (KpM m o b1 b2) (fun xs => xs = plc c m o N N) (fun _ => True) N w := by
  intro l J Jx W hbW hJ hJx hY h0
  obtain ⟨F, hF1, hF2, hF3, hF4⟩ := mems_mono hm hbW
  have hlab : ∀ c', labels H1 0 c' = labels H1 0 c' := fun _ => rfl
  have hJm : ∀ {F F' : Nat → Prop} {β' : Gh} {w1 w2 : World} {st : St} {a : Act} {s : List (Plc c m o N)}, Rel (entB w1 F (βD b1 b2)) F' β' st a w2 → 0 ≤ w1.heap.size → J s w1 → J s w2 := fun hR _ hj =>
    hJ _ _ _ none hj ⟨hR.kept.os, hR.kept.tape, hR.kept.output, hR.kept.size, fun k hk _ => hR.kept.block k hk fun hq => hq rfl⟩ (fun r e => by cases e)
  refine callsIn_of_wp Tryz.func51 d0_eq trivial ?_ rfl
  have hnt : Tryz.f51.ntmps = 36 := by kernel_rfl
  have hR0 : Rel (entB W F (βD b1 b2)) F (βD b1 b2) (stD m o (eD l [])) { tmps := (#[Value.func (.yield l) #[] #[]] ++ #[Value.pointer (some ⟨b1, 0, none⟩), Value.pointer (some ⟨b2, 0, none⟩)]) ++ Array.replicate (Tryz.f51.ntmps - (#[Value.func (.yield l) #[] #[]] ++ #[Value.pointer (some ⟨b1, 0, none⟩), Value.pointer (some ⟨b2, 0, none⟩)]).size) undef, defers := [] } W := by
    rw [hnt]
    generalize hR : Array.replicate (36 - (#[Value.func (.yield l) #[] #[]] ++ #[Value.pointer (some ⟨b1, 0, none⟩), Value.pointer (some ⟨b2, 0, none⟩)]).size) undef = R
    have hRs : R.size = 33 := by rw [← hR]; simp
    refine ⟨?_, fun t => ?_, hF2, trivial, .refl _ _, fun p hp => .inl hp, fun p hp => hp, fun p κ hp => (by cases hp), .refl _, fun j hj => hj, fun b hb => .inl hb, Nat.le_refl _, hD hF1 hF3 hF4⟩
    · show (mkE _ 36 0).length = _
      rw [mkE_len]; simp [hRs]
    · show V F W (βD b1 b2) ((mkE (eD l []) 36 0).getD t .undef) _
      rw [mkE_get]
      split
      · match t with
        | 0 => simp [lk, eD, Array.getD]; rw [if_pos (by omega)]; exact .fn _ [] [] #[] #[] rfl rfl (fun j hj => by simp at hj) (fun j hj => by simp at hj)
        | 1 => simp [lk, eD, Array.getD]; rw [if_pos (by omega)]; exact .ref (β := βD b1 b2) 0 0 (show 0 < 2 by decide)
        | 2 => simp [lk, eD, Array.getD]; rw [if_pos (by omega)]; exact .ref (β := βD b1 b2) 1 0 (show 1 < 2 by decide)
        | t + 3 => exact .undef _
      · exact .undef _
  have hBD : ∀ {w1 : World} {F1 : Nat → Prop}, ∀ j, j < 2 → (entB w1 F1 (βD b1 b2)).β.l j ∧ (entB w1 F1 (βD b1 b2)).β.b j = (βD b1 b2).b j := fun j hj => ⟨hj, rfl⟩
  -- the head
  refine wpIn_seq (stageD okX hR0 (runX l m o) fun a1 w1 F1 β1 q1 hR1 => ?_)
  refine wpIn_seq (stageD okR1 hR1 (runR1 l m o) fun a2 w2 F2 β2 q2 hR2 => ?_)
  have hj2 : J (plc c m o N 0) w2 := hJm hR2 (Nat.zero_le _) h0
  rw [mx_nat, ← hN] at hR2
  refine wpIn_block (wpIn_loop (fun a w => ∃ (F : Nat → Prop) (k : Nat), Rel (entB w F (βD b1 b2)) F (βD b1 b2) (stD m o (eD l [(21, .v (.int .i64 (N : Int))), (22, .v (.int .i64 (k : Int)))])) a w ∧ 0 ≤ w.heap.size ∧ k ≤ N ∧ J (plc c m o N k) w)
    (fun a w => match a.tmps.getD 22 undef with | .int _ k => N - k.toNat | _ => 0) ?start ?round)
  case start =>
    exact ⟨F2, 0, hR2.rebase rfl, Nat.zero_le _, Nat.zero_le _, hj2⟩
  case round =>
    rintro a3 w3 ⟨F3, k, hR3, hs3, hk, hj3⟩
    refine wpIn_seq (stageD okR2 hR3 (runR2 l m o N k) fun a4 w4 F4 β4 q4 hR4 => ?_)
    have hj4 := hJm hR4 hs3 hj3
    have hc4 : a4.eval (.tmp 23) = .bool (decide ((k : Int) < (N : Int))) := V_v (hR4.env 23)
    have hd4 : a4.defers = [] := dfok_nil hR4.df
    have hm3 : a3.tmps.getD 22 undef = .int .i64 (k : Int) := V_v (hR3.env 22)
    by_cases hkN : k < N
    · obtain ⟨u1, u2⟩ := hall k hkN
      -- behind the round's end
      have next : ∀ {F6 : Nat → Prop} {β6 : Gh} {q6 : TypeId → List (Nat × TypeId)} {B6 : World} {F0 : Nat → Prop} {a6 : Act} {w6 : World}, Rel (entB B6 F0 (βD b1 b2)) F6 β6 ⟨mkE (eD l [(21, .v (.int .i64 (N : Int))), (22, .v (.int .i64 (k : Int))), (34, .v (.bool false))]) 36 0, hpD m o, GL, 2, [], q6⟩ a6 w6 → 0 ≤ w6.heap.size → J (plc c m o N (k + 1)) w6 →
          dR5.wpIn Fence.wide n Pr (Exit.then (fun a' w' => (∃ (F : Nat → Prop) (k : Nat), Rel (entB w' F (βD b1 b2)) F (βD b1 b2) (stD m o (eD l [(21, .v (.int .i64 (N : Int))), (22, .v (.int .i64 (k : Int)))])) a' w' ∧ 0 ≤ w'.heap.size ∧ k ≤ N ∧ J (plc c m o N k) w') ∧
            (match a'.tmps.getD 22 undef with | .int _ k => N - k.toNat | _ => 0) < (match a3.tmps.getD 22 undef with | .int _ k => N - k.toNat | _ => 0)) (Exit.inBlock 0 (bodyPost Pr Tryz.f51 fun e W' => (∃ v, e = .returned v) ∧ ((∃ xs, xs = plc c m o N N ∧ J xs W') ∨ ∃ pre, True ∧ Jx pre W')))) a6 w6 := fun {F6 β6 q6 B6 F0 a6 w6} hR6 hs6 hj6 => by
        have hr6 := hR6.rebase rfl
        refine stageD okR5 hr6 (runR5 l m o N k false) fun a7 w7 F7 β7 q7 hR7 => ?_
        rw [wrap_succ k (show k < 4611686018427387904 by omega)] at hR7
        have hm7 : a7.tmps.getD 22 undef = .int .i64 ((k + 1 : Nat) : Int) := V_v (hR7.env 22)
        refine ⟨⟨F7, k + 1, hR7.rebase rfl, Nat.zero_le _, hkN, hJm hR7 hs6 hj6⟩, ?_⟩
        rw [hm3, hm7]
        show N - ((k + 1 : Nat) : Int).toNat < N - (k : Int).toNat
        omega
      refine wpIn_seq (wpIn_cond_true (hc4.trans (by rw [decide_eq_true (by omega)])) (wpIn_skip ?_))
      show Code.wpIn _ _ _ _ _ _ _
      refine wpIn_seq (wpIn_block ?_)
      refine wpIn_seq (stageD okR3 hR4 (runR3 l m o N k _) fun a5 w5 F5 β5 q5 hR5 => ?_)
      have hj5 := hJm hR5 hs3 hj3
      cases hu : sp52 (some m) (some o) (k : Int) with
      | false =>
        have hrun := runR4f l m o (N : Int) (k : Int)
        rw [u1, hu, cond_true, cond_false] at hrun
        refine wpIn_seq (stageD okR4 hR5 hrun fun a6 w6 F6 β6 q6 hR6 => ?_)
        have hc6 : a6.eval (.tmp 34) = .bool false := V_v (hR6.env 34)
        refine wpIn_cond_false hc6 (wpIn_skip ?_)
        have hj6 := hJm hR6 hs3 hj3
        refine next hR6 (Nat.zero_le _) ?_
        have : plc c m o N (k + 1) = plc c m o N k := by
          simp only [plc]
          rw [dif_neg (fun h => by rw [hu] at h; exact absurd h.2.1 (by simp)), List.append_nil]
        rw [this]; exact hj6
      | true =>
        have hrun := runR4 l m o (N : Int) (k : Int)
        rw [u1, hu, cond_true, cond_true] at hrun
        refine wpIn_seq (wpIn_region_list ?_)
        generalize hQ2 : Exit.then (Code.wpIn Fence.wide n Pr (Code.cond (Operand.tmp 34) Code.ret Code.skip) _) _ = Q2
        have hgo := ops_w (n := n) GMok dO4.toList (Q := Q2) (k := kCap [0, 1, 2, 21, 22, 29, 30, 31] [0, 1] .normal) 2 [dO 7, dO 8, dO 9] (fun st' a6 w6 F6 β6' hR6' hgl6 hnp6 hk6 => ?_) [dO 0, dO 1, dO 2, dO 3, dO 4, dO 5, dO 6] F5 β5 _ a5 w5 (hR5.as (st' := ⟨_, hpD m o, GL, 2, [], nodp⟩) rfl rfl rfl rfl rfl) rfl rfl hrun
        · rw [← dO4_eq, Array.toArray_toList] at hgo
          exact hgo
        · obtain ⟨β6, q6, hR6⟩ := cap_rel hR6' hgl6 hnp6 (keep := [0, 1, 2, 21, 22, 29, 30, 31]) (ids := [0, 1]) rfl rfl hk6
          have hj6 := hJm hR6 hs3 hj3
          have hm6 := mems_of hR6 rfl
          have hw6 : Region.wanted (dO 7) (yielded dO4.toList.toArray a6.tmps) = true := wanted_of hR6 dO7_g dO4_d rfl
          have hlen6 : a6.tmps.size = 36 := by have := hR6.len; rw [← this]; exact mkE_len _ _ _
          have hd6 : a6.defers = [] := dfok_nil hR6.df
          have h30 : a6.eval (.tmp 30) = .func (.yield l) #[] #[] := by
            have h : V F6 w6 β6 (.fn (.yield l) [] []) (a6.eval (.tmp 30)) := hR6.env 30
            generalize a6.eval (.tmp 30) = y at h
            cases h with
            | fn f' l1 l2 ya yc hla hlc ha hc =>
              have e1 : ya = #[] := Array.eq_empty_of_size_eq_zero hla
              have e2 : yc = #[] := Array.eq_empty_of_size_eq_zero hlc
              rw [e1, e2]
          have h31 : a6.eval (.tmp 31) = .int .i64 (k : Int) := V_v (hR6.env 31)
          obtain ⟨fn, tm, as_, bd, hy, hRd⟩ := hY (plc c m o N k) ⟨k, hkN, hu, u2 hu⟩ w6 hj6 (Nat.lt_of_le_of_lt (plc_len c m o N k) hkN)
          have hrun7 : (execOp a6.eval (dO 7)).run Pr w6 = .ok (.round l fn tm as_ bd) w6 := by
            simp only [encP] at hy
            simp [execOp, dO7_op, resolve, h30, h31, Deferred.ofValue, invoke, Sem.run_bind, hy]
          refine wpListIn_step fun K hK => ?_
          rw [if_pos hw6]
          refine ⟨fun f _ => trivial, ?_⟩
          show Oper.uponIn Fence.wide n Pr (dO 7) a6 K Q2 ((execOp a6.eval (dO 7)).run Pr w6)
          rw [hrun7, Oper.uponIn_round]
          refine ⟨fun hh => by simp [Fence.wide] at hh, hRd.mono ?_⟩
          have tail : ∀ (b : Bool) (w8 : World), (∀ a9 w9 F9 β9 q9, Rel (entB w8 (fun _ => False) (βD b1 b2)) F9 β9 ⟨mkE (eD l [(21, .v (.int .i64 (N : Int))), (22, .v (.int .i64 (k : Int))), (34, .v (.bool (!b)))]) 36 0, [.dead, .dead], [], 2, [], q9⟩ a9 w9 → Q2 .normal a9 w9) →
              wpListIn Fence.wide n Pr dO4.toList.toArray Q2 ([dO 8, dO 9] ++ []) (a6.put (dO 7).dst (.bool b)) w8 := fun b w8 hq => by
            rw [dO7_d]
            have hne : ∀ t, t ≠ 32 → (a6.put (some 32) (.bool b)).tmps.getD t undef = a6.tmps.getD t undef := fun t ht => by
              show (a6.tmps.setIfInBounds 32 (.bool b)).getD t undef = _
              rw [Array.getD_eq_getD_getElem?, Array.getD_eq_getD_getElem?, Array.getElem?_setIfInBounds_ne (fun e => ht e.symm)]
            have hR8 : Rel (entB w8 (fun _ => False) (βD b1 b2)) (fun _ => False) (βD b1 b2) ⟨mkE (eD l [(21, .v (.int .i64 (N : Int))), (22, .v (.int .i64 (k : Int))), (29, .v (.bool true)), (32, .v (.bool b))]) 36 0, [.dead, .dead], [], 2, [], nodp⟩ (a6.put (some 32) (.bool b)) w8 := by
              refine hR6.anew ent_l hDead (Nat.le_refl _) (fun g => .undef _) rfl hd6 ?_ fun t => ?_
              · rw [mkE_len]
                show 36 = (a6.tmps.setIfInBounds 32 (.bool b)).size
                rw [Array.size_setIfInBounds, hlen6]
              · show (mkE _ 36 0).getD t .undef = (mkE _ 36 0).getD t .undef ∧ _ ∨ _
                rw [mkE_get, mkE_get, Nat.zero_add]
                by_cases h32 : t = 32
                · subst h32
                  refine .inr (.inr ?_)
                  show V _ _ _ (.v (.bool b)) ((a6.tmps.setIfInBounds 32 (.bool b)).getD 32 undef)
                  rw [Array.getD_eq_getD_getElem?, Array.getElem?_setIfInBounds_self_of_lt (by omega)]
                  exact .v _
                · by_cases h30 : t = 30
                  · subst h30; exact .inr (.inl rfl)
                  · by_cases h31 : t = 31
                    · subst h31; exact .inr (.inl rfl)
                    · refine .inl ⟨?_, hne t h32⟩
                      have nb : ∀ j, t ≠ j → Nat.beq j t = false := fun j hj => by
                        cases hb : Nat.beq j t with
                        | false => rfl
                        | true => exact absurd (Nat.eq_of_beq_eq_true hb).symm hj
                      simp only [eD, lk, nb 32 h32, nb 30 h30, nb 31 h31]
            refine ops_w (n := n) (GL := []) G0ok dO4.toList (Q := Q2) (k := kCap [0, 1, 2, 21, 22, 34] [0, 1] .normal) 2 [] (fun st' a9' w9 F9 β9' hR9' hgl9 hnp9 hk9 => ?_) [dO 8, dO 9] _ _ _ _ w8 hR8 rfl rfl (runR4b l (N : Int) (k : Int) b)
            obtain ⟨β9, q9, hR9⟩ := cap_rel hR9' hgl9 hnp9 (keep := [0, 1, 2, 21, 22, 34]) (ids := [0, 1]) rfl rfl hk9
            exact hq a9' w9 F9 β9 q9 hR9
          have keep : ∀ {F9 : Nat → Prop} {β9 : Gh} {st : St} {a9 : Act} {w8 w9 : World}, Rel (entB w8 (fun _ => False) (βD b1 b2)) F9 β9 st a9 w9 → Below w8.heap.size w8 w9 := fun hR => ⟨hR.kept.os, hR.kept.tape, hR.kept.output, hR.kept.size, fun k hk => hR.kept.block k hk fun hq => hq rfl⟩
          rintro e w8 (⟨rfl, hj8, hkp⟩ | ⟨rfl, hx8⟩)
          · refine hK _ _ (tail true w8 fun a9 w9 F9 β9 q9 hR9 => ?_)
            have hm9 : Mems m o b1 b2 w9 := mems_mono (hkp hm6) (keep hR9)
            obtain ⟨F10, hR10⟩ := hR9.refill hm9 rfl
            have hc9 : a9.eval (.tmp 34) = .bool false := V_v (hR10.env 34)
            rw [← hQ2]
            refine wpIn_cond_false hc9 (wpIn_skip ?_)
            refine next hR10 ?_ ?_
            · exact Nat.zero_le _
            · have : plc c m o N (k + 1) = plc c m o N k ++ [⟨k, hkN, hu, u2 hu⟩] := by
                simp only [plc]
                rw [dif_pos ⟨hkN, hu, u2 hu⟩]
              rw [this]
              exact hJ _ _ _ none hj8 (by have := keep hR9; exact ⟨this.os, this.tape, this.output, this.size, fun k hk _ => this.block k hk⟩) (fun r e => by cases e)
          · refine hK _ _ (tail false w8 fun a9 w9 F9 β9 q9 hR9 => ?_)
            have hc9 : a9.eval (.tmp 34) = .bool true := V_v (hR9.env 34)
            rw [← hQ2]
            refine wpIn_cond_true hc9 (wpIn_ret ?_)
            have hx : bodyPost Pr Tryz.f51 (fun e W' => (∃ v, e = .returned v) ∧ ((∃ xs, xs = plc c m o N N ∧ J xs W') ∨ ∃ pre, True ∧ Jx pre W')) .ret a9 w9 := bodyPost_ret (results_none (by kernel_rfl) _ _ _) (dfok_nil hR9.df) ⟨⟨_, rfl⟩, .inr ⟨_, trivial, hJx _ _ _ none hx8 (by have := keep hR9; exact ⟨this.os, this.tape, this.output, this.size, fun k hk _ => this.block k hk⟩) (fun r e => by cases e)⟩⟩
            simpa only [Exit.then, Exit.inBlock] using hx
    · have hkN' : k = N := by omega
      subst hkN'
      refine wpIn_seq (wpIn_cond_false (hc4.trans (by rw [decide_eq_false (by omega)])) (wpIn_exit ?_))
      have hx : bodyPost Pr Tryz.f51 (fun e W' => (∃ v, e = .returned v) ∧ ((∃ xs, xs = plc c m o k k ∧ J xs W') ∨ ∃ pre, True ∧ Jx pre W')) .normal a4 w4 := bodyPost_end (results_none (by kernel_rfl) _ _ _) hd4 ⟨⟨_, rfl⟩, .inl ⟨_, rfl, hj4⟩⟩
      simpa only [Exit.then, Exit.inBlock, if_true] using hx
end Go.Proofs.YtgfifnadfmaolaaGreatDoor
