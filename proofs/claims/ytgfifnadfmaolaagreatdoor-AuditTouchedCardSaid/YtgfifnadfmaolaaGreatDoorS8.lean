/- The soundness of the abstract evaluator, part 8: what a callee has left is taken over; operations. -/
import Derived.Test.YtgfifnadfmaolaaGreatDoorS7
namespace Go.Proofs.YtgfifnadfmaolaaGreatDoor
open Go.RowKit
set_option linter.unusedVariables false
set_option linter.unusedSimpArgs false
def bk (ids : List Nat) (n j : Nat) : Nat := if j < ids.length then ids.getD j 0 else n + (j - ids.length)
theorem back_bk (ids : List Nat) (n j : Nat) : back ids n j = some (bk ids n j) := by
  unfold back bk
  by_cases h : j < ids.length
  · rw [if_pos h, show Nat.blt j ids.length = true by simpa using h]
    simp [List.getD, h]
  · rw [if_neg h, show Nat.blt j ids.length = false from by
      cases hb : Nat.blt j ids.length with
      | false => rfl
      | true => exact absurd (by simpa using hb) h]
theorem setAll_get : ∀ (ids : List Nat) (ks hp : List Blk), ids.Nodup → ks.length = ids.length → (∀ b, b ∈ ids → b < hp.length) → (setAll hp ids ks).length = hp.length ∧ ∀ c, (setAll hp ids ks)[c]? = match idx ids c with | some j => ks[j]? | none => hp[c]?
  | [], ks, hp, _, _, _ => by
    have : setAll hp [] ks = hp := by cases ks <;> rfl
    rw [this]
    exact ⟨rfl, fun c => rfl⟩
  | b :: ids, [], hp, _, hl, _ => by simp at hl
  | b :: ids, k :: ks, hp, hn, hl, hlt => by
    obtain ⟨hb, hn'⟩ := List.nodup_cons.1 hn
    obtain ⟨h1, h2⟩ := setAll_get ids ks (hp.set b k) hn' (by simpa using hl) (fun c hc => by simpa using hlt c (by simp [hc]))
    refine ⟨by simpa [setAll] using h1, fun c => ?_⟩
    simp only [setAll, h2 c, idx]
    cases hx : Nat.beq b c with
    | true =>
      have := Nat.eq_of_beq_eq_true hx
      subst this
      have hi : idx ids b = none := by
        cases hq : idx ids b with
        | none => rfl
        | some j =>
          obtain ⟨q1, q2⟩ := idx_some hq
          exact absurd (by rw [← q2]; simp [List.getD, q1]) hb
      have hlb := hlt b (by simp)
      simp [hi, hlb]
    | false =>
      have hne : b ≠ c := fun e => by subst e; simp at hx
      cases hi : idx ids c with
      | some j => simp
      | none => simp [List.getElem?_set, hne]
def Gh.adopt (β β' : Gh) (ids : List Nat) (n : Nat) : Gh :=
  ⟨fun c => match idx ids c with | some j => β'.b j | none => if c < n then β.b c else β'.b (c - n + ids.length),
   fun c => match idx ids c with | some j => β'.v j | none => if c < n then β.v c else β'.v (c - n + ids.length),
   fun p => match β'.o p with | some (j, s) => some (bk ids n j, s) | none => match β.o p with | some (c, s) => (match idx ids c with | some _ => none | none => some (c, s)) | none => none,
   fun c => β.l c ∨ ∃ j, β'.l j ∧ bk ids n j = c⟩
section
variable {P : Program} {GL : List AV} {G : Gam} {B : Bs} {F : Nat → Prop} {β : Gh} {st : St} {a : Act} {w : World}
theorem idx_ge {ids : List Nat} {n c : Nat} (hlt : ∀ b, b ∈ ids → b < n) (hc : n ≤ c) : idx ids c = none := by
  cases hq : idx ids c with
  | none => rfl
  | some j =>
    obtain ⟨q1, q2⟩ := idx_some hq
    have := hlt c (by rw [← q2]; simp [List.getD, q1])
    omega
theorem adopt_at {β' : Gh} {ids : List Nat} {n : Nat} (hn : ids.Nodup) (hlt : ∀ b, b ∈ ids → b < n) (j : Nat) : (β.adopt β' ids n).b (bk ids n j) = β'.b j ∧ (β.adopt β' ids n).v (bk ids n j) = β'.v j := by
  unfold Gh.adopt bk
  by_cases h : j < ids.length
  · rw [if_pos h]
    simp only [idx_getD hn h, and_self]
  · rw [if_neg h]
    have := idx_ge (c := n + (j - ids.length)) hlt (by omega)
    have e : n + (j - ids.length) - n + ids.length = j := by omega
    have e2 : ¬ n + (j - ids.length) < n := by omega
    simp only [this, if_neg e2, e, and_self]
theorem Rel.adopt (h : Rel B F β st a w) {ids : List Nat} (hn : ids.Nodup) (hlt : ∀ b, b ∈ ids → b < st.heap.length) {an : Ans} {y : Value} {w' : World} (hk : ids.length ≤ an.hp.length) (ha : Aft F w (β.sub ids) ids.length an y w') :
    ∃ F' β', Rel B F' β' (st.adopt ids an.hp) a w' ∧ V F' w' β' (an.r.mapB (back ids st.heap.length) 9) y := by
  obtain ⟨F', β', k1, k2, k3, k4, k5, k8, k6, k7⟩ := ha
  let n := st.heap.length
  let βM := β.adopt β' ids n
  have hsub : ∀ p, (β.sub ids).o p ≠ none → ∃ b s, β.o p = some (b, s) ∧ ∃ j, idx ids b = some j := fun p hp => by
    cases hq : (β.sub ids).o p with
    | none => exact absurd hq hp
    | some κ =>
      obtain ⟨b, h1, h2⟩ := sub_o.1 hq
      exact ⟨b, κ.2, h1, κ.1, h2⟩
  have hE : Ext F F' w w' := ⟨k1.size, fun p hF hp => ⟨k2 p hF, k1.block p hp fun hq => by
    obtain ⟨b, s, h1, _⟩ := hsub p hq
    exact h.heap.sep p _ h1 hF⟩⟩
  have hat := fun j => adopt_at (β := β) (β' := β') (n := n) hn hlt j
  have hle : β.Le βM := fun c hc => by
    have hcn := h.heap.live c hc
    refine ⟨.inl hc, ?_, ?_⟩
    · show (match idx ids c with | some j => β'.b j | none => if c < n then β.b c else _) = _
      cases hi : idx ids c with
      | none => simp only; rw [if_pos hcn]
      | some j =>
        obtain ⟨q1, q2⟩ := idx_some hi
        have := (k5 j ⟨q1, by rw [q2]; exact hc⟩).2.1
        simp only [Gh.sub, q2] at this
        exact this
    · show (match idx ids c with | some j => β'.v j | none => if c < n then β.v c else _) = _
      cases hi : idx ids c with
      | none => simp only; rw [if_pos hcn]
      | some j =>
        obtain ⟨q1, q2⟩ := idx_some hi
        have := (k5 j ⟨q1, by rw [q2]; exact hc⟩).2.2
        simp only [Gh.sub, q2] at this
        exact this
  have hmap : ∀ (m : Nat) {x : AV} {y : Value}, V F' w' β' x y → V F' w' βM (x.mapB (back ids n) m) y := fun m _ _ hv => mapB_V (fun b c hb hc => by
    rw [back_bk] at hc
    simp at hc
    subst hc
    exact ⟨.inr ⟨b, hb, rfl⟩, (hat b).1, (hat b).2⟩) m hv
  have hmaps : ∀ {cs : List AV} {Y : Nat → Value}, (∀ j, j < cs.length → V F' w' β' (cs.getD j .undef) (Y j)) → ∀ j, j < (cs.map (AV.mapB (back ids n) 9)).length → V F' w' βM ((cs.map (AV.mapB (back ids n) 9)).getD j .undef) (Y j) := fun {cs Y} hv j hj => by
    have hj' : j < cs.length := by simpa using hj
    have := hmap 9 (hv j hj')
    simpa [List.getD, hj'] using this
  have ho : ∀ p κ, βM.o p = some κ → (∃ j s, β'.o p = some (j, s) ∧ κ = (bk ids n j, s)) ∨ (β'.o p = none ∧ ∃ c s, β.o p = some (c, s) ∧ idx ids c = none ∧ κ = (c, s)) := fun p κ hp => by
    have hp' : (match β'.o p with | some (j, s) => some (bk ids n j, s) | none => match β.o p with | some (c, s) => (match idx ids c with | some _ => none | none => some (c, s)) | none => none) = some κ := hp
    cases hq : β'.o p with
    | some κ' =>
      obtain ⟨j, s⟩ := κ'
      rw [hq] at hp'
      simp at hp'
      exact .inl ⟨j, s, rfl, hp'.symm⟩
    | none =>
      rw [hq] at hp'
      simp only at hp'
      split at hp'
      · rename_i c s hc
        split at hp'
        · cases hp'
        · rename_i hi
          simp at hp'
          exact .inr ⟨rfl, c, s, hc, hi, hp'.symm⟩
      · cases hp'
  have hblk : ∀ j k, BlkOk F' w' β' j k → BlkOk F' w' βM (bk ids n j) (k.mapB (back ids n)) := fun j k hok => by
    have hoo : ∀ p s, β'.o p = some (j, s) → βM.o p = some (bk ids n j, s) := fun p s hp => by
      show (match β'.o p with | some (j, s) => some (bk ids n j, s) | none => _) = _
      rw [hp]
    cases k with
    | cells e cs =>
      obtain ⟨ys, T, h1, h2, h3, h4⟩ := hok
      exact ⟨ys, T, by rw [(hat j).1]; exact h1, by simpa using h2, by rw [(hat j).1]; exact hoo _ _ h3, hmaps h4⟩
    | row e t cols hole xs =>
      obtain ⟨Vs, h1, h2, h3, h4⟩ := hok
      exact ⟨Vs, by rw [(hat j).2]; exact h1, h2, fun p hp => by rw [(hat j).2] at hp; exact hoo _ _ (h3 p hp), fun i' j' hi' hj' => (h4 i' j' hi' hj').mono (sub_ext (fun _ h => h) w') fun p hp => ⟨hoo _ _ hp, rfl⟩⟩
    | ro t xs => show D F' w' _ _; rw [(hat j).2]; exact hok
    | rob t x => show D F' w' _ _; rw [(hat j).1]; exact hok
    | dead => trivial
  let s := back ids n
  obtain ⟨l1, l2⟩ := setAll_get ids ((an.hp.take ids.length).map (Blk.mapB s)) st.heap hn (by simp; omega) hlt
  have hheap : (st.adopt ids an.hp).heap = setAll st.heap ids ((an.hp.take ids.length).map (Blk.mapB s)) ++ (an.hp.drop ids.length).map (Blk.mapB s) := rfl
  have hHOk : HOk F' w' βM (st.adopt ids an.hp).heap := by
    refine ⟨k6.fb, fun c k hc => ?_, fun p κ hp => ?_, fun p κ hp hF => ?_, fun c hc => ?_⟩
    · rw [hheap] at hc
      by_cases hcn : c < n
      · rw [List.getElem?_append_left (by rw [l1]; exact hcn), l2 c] at hc
        cases hi : idx ids c with
        | some j =>
          rw [hi] at hc
          obtain ⟨q1, q2⟩ := idx_some hi
          simp [List.getElem?_map, List.getElem?_take, q1] at hc
          obtain ⟨k0, hk0, rfl⟩ := hc
          have := hblk j k0 (k6.blk j k0 hk0)
          rwa [show bk ids n j = c by unfold bk; rw [if_pos q1]; exact q2] at this
        | none =>
          rw [hi] at hc
          have hold := h.heap.blk c k hc
          refine hold.mono hE hle ⟨?_, ?_⟩ (fun p s' hp => ?_)
          · show (match idx ids c with | some j => β'.b j | none => if c < n then β.b c else _) = _
            rw [hi]; simp only; rw [if_pos hcn]
          · show (match idx ids c with | some j => β'.v j | none => if c < n then β.v c else _) = _
            rw [hi]; simp only; rw [if_pos hcn]
          · have hso : (β.sub ids).o p = none := by
              cases hq : (β.sub ids).o p with
              | none => rfl
              | some κ =>
                obtain ⟨b, h1, h2⟩ := sub_o.1 hq
                rw [hp] at h1
                simp at h1
                rw [← h1.1, hi] at h2
                cases h2
            have hpl := h.heap.lt p _ hp
            have hbo : β'.o p = none := by
              cases hq : β'.o p with
              | none => rfl
              | some κ =>
                rcases k4 p κ hq with h1 | h1
                · exact absurd hso h1
                · omega
            refine ⟨?_, k1.block p hpl (fun hq => hq hso)⟩
            show (match β'.o p with | some (j, s) => some (bk ids n j, s) | none => match β.o p with | some (c, s) => (match idx ids c with | some _ => none | none => some (c, s)) | none => none) = _
            rw [hbo, hp]; simp only; rw [hi]
      · rw [List.getElem?_append_right (by rw [l1]; exact Nat.le_of_not_lt hcn), l1] at hc
        simp [List.getElem?_map, List.getElem?_drop] at hc
        obtain ⟨k0, hk0, rfl⟩ := hc
        have := hblk _ k0 (k6.blk _ k0 hk0)
        rwa [show bk ids n (ids.length + (c - st.heap.length)) = c by unfold bk; rw [if_neg (by omega)]; omega] at this
    · rcases ho p κ hp with ⟨j, s', h1, _⟩ | ⟨_, c, s', h1, _⟩
      · exact k6.lt p _ h1
      · exact Nat.lt_of_lt_of_le (h.heap.lt p _ h1) k1.size
    · rcases ho p κ hp with ⟨j, s', h1, _⟩ | ⟨_, c, s', h1, hi, _⟩
      · exact k6.sep p _ h1 hF
      · rcases k3 p hF with h2 | h2 | h2
        · exact h.heap.sep p _ h1 h2
        · obtain ⟨b, s2, q1, j, q2⟩ := hsub p h2
          rw [h1] at q1
          simp at q1
          rw [← q1.1, hi] at q2
          cases q2
        · have := h.heap.lt p _ h1; omega
    · rw [hheap]
      simp only [List.length_append, l1, List.length_map, List.length_drop]
      rcases hc with hc | ⟨j, hj, rfl⟩
      · have := h.heap.live c hc; omega
      · have hjl := k6.live j hj
        unfold bk
        by_cases h' : j < ids.length
        · rw [if_pos h']
          have := hlt (ids.getD j 0) (by simp [List.getD, h'])
          omega
        · rw [if_neg h']; omega
  refine ⟨F', βM, ?_, hmap 9 k7⟩
  refine h.heapTo (hp := (st.adopt ids an.hp).heap) hE hle (h.kept.trans k1 (fun _ h => h) (fun p hp => ?_)) (fun p hp => ?_) k2 (fun p κ hp => ?_) (fun b hb => ?_) ?_ hHOk
  · obtain ⟨b, s', h1, _⟩ := hsub p hp
    exact h.lo p _ h1
  · rcases k3 p hp with h1 | h1 | h1
    · exact h.fo p h1
    · obtain ⟨b, s', h2, _⟩ := hsub p h1
      exact .inr (h.lo p _ h2)
    · exact .inr (.inr (Nat.le_trans h.kept.size h1))
  · rcases ho p κ hp with ⟨j, s', h1, _⟩ | ⟨_, c, s', h1, _⟩
    · rcases k4 p _ h1 with h2 | h2
      · obtain ⟨b, s2, h3, _⟩ := hsub p h2
        exact h.lo p _ h3
      · exact .inr (Nat.le_trans h.kept.size h2)
    · exact h.lo p _ h1
  · rcases hb with hb | ⟨j, hj, rfl⟩
    · exact .inl hb
    · unfold bk
      rcases k8 j hj with h1 | h1
      · rw [if_pos h1.1]; exact .inl h1.2
      · rw [if_neg (by omega)]; exact .inr (by omega)
  · rw [hheap, List.length_append, l1]; omega
/-! ### Own blocks lent as data -/
def Fall (F : Nat → Prop) (β : Gh) (p : Nat) : Prop := F p ∨ ∃ κ, β.o p = some κ
theorem mapO_some {f : AV → Option AV} : ∀ {cs cs' : List AV}, mapO f cs = some cs' → cs'.length = cs.length ∧ ∀ j, j < cs.length → f (cs.getD j .undef) = some (cs'.getD j .undef)
  | [], cs', h => by simp [mapO] at h; subst h; simp
  | c :: cs, cs', h => by
    simp only [mapO] at h
    split at h
    · rename_i y ys hy hys
      simp at h; subst h
      obtain ⟨h1, h2⟩ := mapO_some hys
      refine ⟨by simp [h1], fun j hj => ?_⟩
      cases j with
      | zero => simpa using hy
      | succ j => simpa using h2 j (by simpa using hj)
    · cases h
theorem snap_sound (hh : HOk F w β st.heap) : ∀ (n : Nat) {x x' : AV} {y : Value}, V F w β x y → st.snap n x = some x' → D (Fall F β) w x' y
  | 0, x, x', y, _, hs => by simp [St.snap] at hs
  | n + 1, x, x', y, h, hs => by
    have hw : ∀ {x : AV} {y : Value}, V F w β x y → Pure x → D (Fall F β) w x y := fun h hp => (h.toD hp).wide fun k hk => .inl hk
    have lst : ∀ {cs cs' : List AV} {Y : Nat → Value}, (∀ j, j < cs.length → V F w β (cs.getD j .undef) (Y j)) → mapO (st.snap n) cs = some cs' → cs'.length = cs.length ∧ ∀ j, j < cs'.length → D (Fall F β) w (cs'.getD j .undef) (Y j) := fun hv hm => by
      obtain ⟨h1, h2⟩ := mapO_some hm
      exact ⟨h1, fun j hj => snap_sound hh n (hv j (by omega)) (h2 j (by omega))⟩
    simp only [St.snap] at hs
    split at hs
    · simp at hs; subst hs; exact hw h (.v _)
    · simp at hs; subst hs; exact hw h (.sl _ _)
    · simp at hs; subst hs; exact hw h (.op _ _)
    · simp at hs; subst hs; exact hw h (.clo _)
    · rename_i t xs i
      simp at hs; subst hs
      obtain ⟨b, o, Y, hi, rfl, hF, hb, hc, hd⟩ := V_el (hw h (.el _ _ _ _))
      exact .op _ _ b o Y hF hb hc hd
    · rename_i b
      obtain ⟨_, rfl, _⟩ := V_own h
      split at hs
      · rename_i e t cols xs hb
        simp at hs; subst hs
        have hk := hh.blk b _ hb
        exact arr_D hk (fun k hk => .inl hk) (fun p s hp => .inr ⟨_, hp⟩)
      · rename_i t xs hb
        simp at hs; subst hs
        exact (show D F w (.sl t xs) (β.v b) from hh.blk b _ hb).wide fun k hk => .inl hk
      · cases hs
    · rename_i b
      obtain ⟨_, rfl⟩ := V_ref h
      split at hs
      · rename_i e cs hb
        split at hs
        · rename_i t cs' ht hcs
          split at hs
          · rename_i x' hd
            simp at hs; subst hs
            obtain ⟨ys, T, g1, g2, g3, g4⟩ := hh.blk b _ hb
            obtain ⟨l1, l2⟩ := lst g4 hcs
            obtain ⟨e1, e3⟩ := dec_fits (F := Fall F β) (w := w) (β := Gh.nil) hd
            refine .op t x' (β.b b) 0 (fun j => ys.getD j undef) (.inr ⟨_, g3⟩) (Array.getElem?_eq_some_iff.1 g1).1 (fun j hj => ?_) (fun j hj => e3 j _ (by omega) (l2 j (by omega)))
            have hj' : j < ys.size := by omega
            rw [Nat.zero_add, cell_of_row w (β.b b) j ys T (0, 0) g1]
            simp [Array.getD, hj']
          · cases hs
        · cases hs
      · rename_i t x' hb
        simp at hs; subst hs
        exact (show D F w (.op t (some x')) _ from hh.blk b _ hb).wide fun k hk => .inl hk
      · cases hs
    · split at hs
      · rename_i cs _ cs' hcs
        simp at hs; subst hs
        obtain ⟨ys, rfl, hl, hc⟩ := V_agg h
        obtain ⟨l1, l2⟩ := lst hc hcs
        exact .agg _ _ (by omega) l2
      · cases hs
    · split at hs
      · rename_i f fa fc _ _ a' c' ha hc'
        simp at hs; subst hs
        cases h with
        | fn _ _ _ ya yc hla hlc hva hvc =>
          obtain ⟨l1, l2⟩ := lst hva ha
          obtain ⟨l3, l4⟩ := lst hvc hc'
          exact .fn _ _ _ _ _ (by omega) (by omega) l2 l4
      · cases hs
    · split at hs
      · rename_i t x _ x'' hx
        simp at hs; subst hs
        cases h with
        | ifc _ _ _ h => exact .ifc _ _ _ (snap_sound hh n h hx)
      · cases hs
    · cases hs
theorem flat_enc {t : Ty} (h : t.flat = true) (x : t.T) : ∀ j, j < t.sz → ∃ v, (t.enc x).getD j .undef = .v v := by
  cases t <;> first | (simp [Ty.flat] at h; done) | skip
  all_goals
    intro j hj
    have hj' := hj
    simp only [Ty.sz] at hj'
    repeat (first | (exfalso; omega) | (cases j with
      | zero => exact ⟨_, rfl⟩
      | succ j => ?_))
    all_goals (exfalso; omega)
theorem blk_noF {F' : Nat → Prop} {w' : World} {β' : Gh} {b : Nat} {k : Blk} (h : BlkOk F' w' β' b k) (hk : k.noF = true) : BlkOk F w' β' b k := by
  cases k with
  | cells e cs =>
    obtain ⟨ys, T, h1, h2, h3, h4⟩ := h
    refine ⟨ys, T, h1, h2, h3, fun j hj => noF_V 9 (h4 j hj) ?_⟩
    have := List.all_eq_true.1 (show cs.all (AV.noF 9) = true from hk) (cs[j]) (List.getElem_mem hj)
    simpa [List.getD, hj] using this
  | row e t cols hole xs =>
    obtain ⟨Vs, h1, h2, h3, h4⟩ := h
    cases cols with
    | cons => simp [Blk.noF] at hk
    | nil =>
    refine ⟨Vs, h1, h2, h3, fun i j hi hj => .data rfl ?_⟩
    obtain ⟨v, hv⟩ := flat_enc (show t.flat = true from hk) (nth xs i) j hj
    have := (h4 i j hi hj).toD rfl
    rw [hv] at this ⊢
    rw [V_v this]
    exact .v _
  | ro t xs => simp [Blk.noF] at hk
  | rob t x => simp [Blk.noF] at hk
  | dead => trivial
/-! ### Calls -/
def Ent (P : Program) (F : Nat → Prop) (w : World) (β : Gh) (y : Value) (vs : Array Value) (f : Cal) (as : List AV) : Prop :=
  match f with
  | .f n => FnOk P n → Goes P F w β y vs n as
  | .c x => V F w β x.out y ∧ vs.size = as.length ∧ ∀ j, j < as.length → V F w β (as.getD j .undef) (vs.getD j undef)
theorem Ent.map {F1 : Nat → Prop} {w1 : World} {β1 : Gh} {y : Value} {vs : Array Value} {f : Cal} {as as' : List AV} (h : Ent P F w β y vs f as) (hl : as'.length = as.length)
    (hm : ∀ Y : Nat → Value, (∀ j, j < as.length → V F w β (as.getD j .undef) (Y j)) → ∀ j, j < as'.length → V F1 w1 β1 (as'.getD j .undef) (Y j)) (hp : ∀ {x : AV} {y : Value}, D F w x y → D F1 w1 x y) : Ent P F1 w1 β1 y vs f as' := by
  cases f with
  | f n =>
    intro hn
    obtain ⟨us, h1, h2, h3⟩ := h hn
    exact ⟨us, h1, h2.trans hl.symm, hm _ h3⟩
  | c x =>
    obtain ⟨h1, h2, h3⟩ := h
    exact ⟨(hp (h1.toD (out_pure x))).ofD, h2.trans hl.symm, hm (fun j => vs.getD j undef) h3⟩
theorem Ent.enter {C : FuncId → Array Value → World → (Ending → World → Prop) → Prop} {y : Value} {vs : Array Value} {f : Cal} {as : List AV} {hp : List Blk} {an : Ans} (h : Ent P F w β y vs f as) (ho : OkCG C P GL f as hp an) :
    ∃ (n : FuncId) (us : List Value) (as' : List AV), (∀ w' : World, (do let d ← Deferred.ofValue y vs; invoke d.target d.args : Sem Next).run P w' = .ok (.enter n us.toArray) w') ∧ us.length = as'.length ∧
      (∀ j, j < as'.length → V F w β (as'.getD j .undef) (us.getD j undef)) ∧ OkayG C GL n as' hp an := by
  cases f with
  | f n =>
    obtain ⟨h1, h2⟩ := ho
    obtain ⟨us, g1, g2, g3⟩ := h h1
    exact ⟨n, us, as, g1, g2, g3, h2⟩
  | c x =>
    obtain ⟨n, as', h1, h2, h3⟩ := ho
    obtain ⟨k1, k2, k3⟩ := h
    obtain ⟨us, g1, g2, g3⟩ := target_goes k1 k2 k3 h1 h2
    exact ⟨n, us, as', g1, g2, g3, h3⟩
theorem target_ent {fv : AV} {y : Value} {vs : Array Value} {args as : List AV} {f : Cal} (hf : V F w β fv y) (hl : vs.size = args.length) (hv : ∀ j, j < args.length → V F w β (args.getD j .undef) (vs.getD j undef)) (ht : target P fv args = some (f, as)) : Ent P F w β y vs f as := by
  cases f with
  | f n => exact fun hn => target_goes hf hl hv ht hn
  | c x =>
    obtain ⟨rfl, rfl⟩ := target_c ht
    cases hf with
    | clo _ _ h => exact ⟨h, hl, hv⟩
theorem GlOk.imp {F' : Nat → Prop} (h : GlOk GL F w) (hs : ∀ p, F p → F' p) : GlOk GL F' w := fun g => (h g).wide hs
def Behind (C : FuncId → Array Value → World → (Ending → World → Prop) → Prop) (P : Program) {α : Type} (B : Bs) (st : St) (a : Act) (w : World) (y : Value) (vs : Array Value) (k : AV → St → Option α) (r : α) : Prop :=
  ∃ (n : FuncId) (us : List Value), (∀ w' : World, (do let d ← Deferred.ofValue y vs; invoke d.target d.args : Sem Next).run P w' = .ok (.enter n us.toArray) w') ∧
    C n us.toArray w fun e w' => ∃ z, e = .returned z ∧ ∃ F' β' x st', Rel B F' β' st' a w' ∧ Al st st' ∧ st'.env = st.env ∧ st'.df = st.df ∧ V F' w' β' x z ∧ k x st' = some r
theorem al_adopt (st : St) (ids : List Nat) (hp : List Blk) (hn : ids.Nodup) (hlt : ∀ b, b ∈ ids → b < st.heap.length) (hk : ids.length ≤ hp.length) : Al st (st.adopt ids hp) := by
  refine ⟨rfl, rfl, ?_⟩
  obtain ⟨l1, _⟩ := setAll_get ids ((hp.take ids.length).map (Blk.mapB (back ids st.heap.length))) st.heap hn (by simp; omega) hlt
  show st.heap.length ≤ (setAll st.heap ids _ ++ _).length
  rw [List.length_append, l1]
  omega
theorem evCall_sound {C : FuncId → Array Value → World → (Ending → World → Prop) → Prop} (hC : ∀ {f args w R R'}, C f args w R → (∀ e w', R e w' → R' e w') → C f args w R') {α : Type} (hG : GOkG C P GL G) (h : Rel B F β st a w) (hgl : st.gl = GL) {f : Cal} {as : List AV} {k : AV → St → Option α} {r : α} (hr : evCall G st f as k = some r) {y : Value} {vs : Array Value} (he : Ent P F w β y vs f as) : Behind C P B st a w y vs k r := by
  unfold evCall at hr
  have hglk : GlOk GL F w := fun g => by rw [← hgl]; exact h.gl g
  split at hr
  · rename_i c rv hp hq
    cases c with
    | false => cases hr
    | true =>
    rw [cond_true] at hr
    split at hq
    · rename_i as1 has
      split at hq
      · rename_i c' r' hp' hg
        split at hq
        · rename_i hno
          simp at hq; obtain ⟨rfl, rfl, rfl⟩ := hq
          simp only [Bool.and_eq_true, List.all_eq_true] at hno
          obtain ⟨m1, m2⟩ := mapO_some has
          have hent : Ent P (Fall F β) w Gh.nil y vs f as1 := he.map m1 (fun Y hY j hj => snap_sound h.heap 9 (hY j (by omega)) (m2 j (by omega))) (fun hd => hd.wide fun p hp => .inl hp)
          obtain ⟨n, us, as', e1, e2, e3, e4⟩ := hent.enter (hG _ _ _ _ _ _ hg rfl)
          refine ⟨n, us, e1, ?_⟩
          have hH : HOk (Fall F β) w Gh.nil [] := ⟨fun p hp => by
            rcases hp with hp | ⟨κ, hp⟩
            · exact h.heap.fb p hp
            · exact h.heap.lt p κ hp, fun b k hb => by simp at hb, fun p κ hp => by simp [Gh.nil] at hp, fun p κ hp => by simp [Gh.nil] at hp, fun b hb => hb.elim⟩
          refine hC (e4 (Fall F β) w Gh.nil us hH (hglk.imp fun p hp => .inl hp) e2 e3) fun e w' ⟨z, hz, F', β', k1, k2, k3, k4, k5, k8, k6, k7⟩ => ⟨z, hz, ?_⟩
          have hF'' : ∀ p, F p → p < w'.heap.size := fun p hp => Nat.lt_of_lt_of_le (h.heap.fb p hp) k1.size
          have haft : Aft F w (β.sub []) 0 ⟨r', hp'⟩ z w' := by
            have hs : ∀ p, (β.sub []).o p = none := fun p => by
              cases hq : (β.sub []).o p with
              | none => rfl
              | some κ => obtain ⟨b, _, h2⟩ := sub_o.1 hq; simp [idx] at h2
            refine ⟨F, β', ⟨k1.os, k1.tape, k1.output, k1.size, fun p hp _ => k1.block p hp (fun h => h rfl)⟩, fun _ h => h, fun p hp => .inl hp, fun p κ hp => ?_, fun b hb => absurd hb.1 (Nat.not_lt_zero _), fun _ _ => .inr (Nat.zero_le _), ⟨hF'', fun b kb hb => ?_, k6.lt, fun p κ hp hF => ?_, k6.live⟩, noF_V 9 k7 hno.1⟩
            · rcases k4 p κ hp with h1 | h1
              · exact absurd rfl h1
              · exact .inr h1
            · exact blk_noF (k6.blk b kb hb) (hno.2 kb (List.mem_of_getElem? hb))
            · exact k6.sep p κ hp (k2 p (.inl hF))
          obtain ⟨F2, β2, q1, q2⟩ := h.adopt (ids := []) List.nodup_nil (fun b hb => by cases hb) (Nat.zero_le _) haft
          exact ⟨F2, β2, _, _, q1, al_adopt st [] hp' List.nodup_nil (fun b hb => by cases hb) (Nat.zero_le _), rfl, rfl, q2, hr⟩
        · cases hq
      · cases hq
    · cases hq
  · have pass : ∀ (as2 : List AV) (st2 : St) (F1 : Nat → Prop) (β1 : Gh), Frz B F β st a w F1 β1 st2 → as2.length = as.length →
        (∀ Y : Nat → Value, (∀ j, j < as.length → V F w β (as.getD j .undef) (Y j)) → ∀ j, j < as.length → V F1 w β1 (as2.getD j .undef) (Y j)) →
        evCall.evPass G st2 (reach st2.heap 4000 [] (rootsL as2)) f as2 k = some r → Behind C P B st a w y vs k r := fun as2 st2 F1 β1 z1 zl zd hr => by
      unfold evCall.evPass at hr
      generalize hids : reach st2.heap 4000 [] (rootsL as2) = ids at hr
      split at hr
      · rename_i c rv hp hok hg
        split at hr
        · rename_i hle
          cases c with
          | false => cases hr
          | true =>
          rw [cond_true] at hr
          simp only [Bool.and_eq_true, List.all_eq_true] at hok
          have hn := nodupB_iff.1 hok.1
          have hlt : ∀ b, b ∈ ids → b < st2.heap.length := fun b hb => by simpa using hok.2 b hb
          have hk := Nat.le_of_ble_eq_true hle
          have hent : Ent P F1 w (β1.sub ids) y vs f (as2.map (AV.mapB (idx ids) 9)) := he.map (by simpa using zl) (fun Y hY j hj => by
            have hj' : j < as2.length := by simpa using hj
            exact sub_Vs (fun j hj => zd Y hY j (by omega)) 9 j (by simpa [zl] using hj)) (fun hd => hd.wide z1.sub)
          obtain ⟨n, us, as', e1, e2, e3, e4⟩ := hent.enter (hG _ _ _ _ _ _ hg rfl)
          refine ⟨n, us, e1, ?_⟩
          refine hC (e4 F1 w (β1.sub ids) us (z1.rel.heap.sub hn) (fun g => (hglk g).wide z1.sub) e2 e3) fun e w' ⟨z, hz, ha⟩ => ⟨z, hz, ?_⟩
          rw [show (subHeap st2.heap ids).length = ids.length by simp [subHeap]] at ha
          obtain ⟨F2, β2, q1, q2⟩ := z1.rel.adopt hn hlt hk ha
          exact ⟨F2, β2, _, _, q1, z1.al.trans (al_adopt st2 ids hp hn hlt hk), z1.env, z1.df, q2, hr⟩
        · cases hr
      · cases hr
    split at hr
    · exact pass as st F β (Frz.refl h) rfl (fun Y hY => hY) hr
    · split at hr
      · rename_i as2 st2 hfz
        obtain ⟨F1, β1, z1, zl, zd⟩ := frzArgs_sound h hfz
        exact pass as2 st2 F1 β1 z1 zl zd hr
      · cases hr
end
end Go.Proofs.YtgfifnadfmaolaaGreatDoor
