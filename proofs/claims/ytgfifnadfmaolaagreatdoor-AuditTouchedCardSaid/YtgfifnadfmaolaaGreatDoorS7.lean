/- The soundness of the abstract evaluator, part 7: own blocks by other numbers; calls. -/
import Derived.Test.YtgfifnadfmaolaaGreatDoorS6
import Derived.Defers
namespace Go.Proofs.YtgfifnadfmaolaaGreatDoor
open Go.RowKit
set_option linter.unusedVariables false
set_option linter.unusedSimpArgs false
theorem hasN_iff {b : Nat} : ∀ {l : List Nat}, hasN b l = true ↔ b ∈ l
  | [] => by simp [hasN]
  | x :: r => by
    simp only [hasN, List.mem_cons]
    cases hx : Nat.beq x b with
    | true => have := Nat.eq_of_beq_eq_true hx; simp [this]
    | false =>
      have : b ≠ x := fun e => by subst e; simp at hx
      simp [this, hasN_iff (l := r)]
theorem nodupB_iff : ∀ {l : List Nat}, nodupB l = true ↔ l.Nodup
  | [] => by simp [nodupB]
  | x :: r => by
    simp only [nodupB, List.nodup_cons]
    cases hx : hasN x r with
    | true => have := hasN_iff.1 hx; simp [this]
    | false =>
      have : x ∉ r := fun h => by rw [hasN_iff.2 h] at hx; cases hx
      simp [this, nodupB_iff (l := r)]
theorem idx_some : ∀ {l : List Nat} {b j : Nat}, idx l b = some j → j < l.length ∧ l.getD j 0 = b
  | [], b, j, h => by simp [idx] at h
  | x :: r, b, j, h => by
    simp only [idx] at h
    split at h
    · rename_i hx
      simp at h; subst h
      exact ⟨by simp, by simpa using Nat.eq_of_beq_eq_true hx⟩
    · split at h
      · rename_i j' hj'
        simp at h; subst h
        obtain ⟨h1, h2⟩ := idx_some hj'
        exact ⟨by simpa using h1, by simpa using h2⟩
      · cases h
theorem idx_mem : ∀ {l : List Nat} {b : Nat}, b ∈ l → ∃ j, idx l b = some j
  | [], b, h => by cases h
  | x :: r, b, h => by
    simp only [idx]
    cases hx : Nat.beq x b with
    | true => exact ⟨0, rfl⟩
    | false =>
      have : b ∈ r := by
        rcases List.mem_cons.1 h with rfl | h
        · simp at hx
        · exact h
      obtain ⟨j, hj⟩ := idx_mem this
      exact ⟨j + 1, by simp [hj]⟩
theorem idx_getD {l : List Nat} (hn : l.Nodup) {j : Nat} (hj : j < l.length) : idx l (l.getD j 0) = some j := by
  have hm : l.getD j 0 ∈ l := by simp [List.getD, hj]
  obtain ⟨i, hi⟩ := idx_mem hm
  obtain ⟨h1, h2⟩ := idx_some hi
  have : i = j := by
    have e : l[i] = l[j] := by simpa [List.getD, h1, hj] using h2
    exact (List.getElem_inj hn).1 e
  rw [hi, this]
def Gh.sub (β : Gh) (ids : List Nat) : Gh :=
  ⟨fun j => β.b (ids.getD j 0), fun j => β.v (ids.getD j 0), fun p => match β.o p with | some (b, s) => (match idx ids b with | some j => some (j, s) | none => none) | none => none, fun j => j < ids.length ∧ β.l (ids.getD j 0)⟩
theorem sub_o {β : Gh} {ids : List Nat} {p : Nat} {κ : Nat × Option (Nat × Nat)} : (β.sub ids).o p = some κ ↔ ∃ b, β.o p = some (b, κ.2) ∧ idx ids b = some κ.1 := by
  simp only [Gh.sub]
  cases hq : β.o p with
  | none => simp
  | some κ' =>
    obtain ⟨b, s⟩ := κ'
    cases hi : idx ids b with
    | none => simp [hi]
    | some j =>
      simp [hi]
      constructor
      · rintro rfl; exact ⟨b, ⟨rfl, rfl⟩, hi⟩
      · rintro ⟨b', ⟨rfl, h2⟩, h3⟩
        rw [hi] at h3
        simp at h3
        ext <;> simp [h2, h3]
section
variable {P : Program} {GL : List AV} {G : Gam} {B : Bs} {F : Nat → Prop} {β : Gh} {st : St} {a : Act} {w : World}
theorem sub_V {ids : List Nat} (n : Nat) {x : AV} {y : Value} (h : V F w β x y) : V F w (β.sub ids) (x.mapB (idx ids) n) y :=
  mapB_V (fun b j hb hj => by
    obtain ⟨h1, h2⟩ := idx_some hj
    exact ⟨⟨h1, by rw [h2]; exact hb⟩, by simp [Gh.sub, ← h2], by simp [Gh.sub, ← h2]⟩) n h
theorem sub_Vs {ids : List Nat} {cs : List AV} {Y : Nat → Value} (h : ∀ j, j < cs.length → V F w β (cs.getD j .undef) (Y j)) (n : Nat) : ∀ j, j < (cs.map (AV.mapB (idx ids) n)).length → V F w (β.sub ids) ((cs.map (AV.mapB (idx ids) n)).getD j .undef) (Y j) := fun j hj => by
  have hj' : j < cs.length := by simpa using hj
  have := sub_V (ids := ids) n (h j hj')
  simpa [List.getD, hj'] using this
theorem subHeap_get {hp : List Blk} {ids : List Nat} {j : Nat} {k : Blk} (h : (subHeap hp ids)[j]? = some k) : j < ids.length ∧ k = (hp.getD (ids.getD j 0) .dead).mapB (idx ids) := by
  have hj : j < ids.length := by
    have := (List.getElem?_eq_some_iff.1 h).1
    simpa [subHeap] using this
  refine ⟨hj, ?_⟩
  simpa [subHeap, hj, List.getD, eq_comm] using h
theorem HOk.sub {hp : List Blk} (h : HOk F w β hp) {ids : List Nat} (hn : ids.Nodup) : HOk F w (β.sub ids) (subHeap hp ids) := by
  refine ⟨h.fb, fun j k hk => ?_, fun p κ hp' => ?_, fun p κ hp' => ?_, fun j hj => by simpa [subHeap] using hj.1⟩
  · obtain ⟨hj, rfl⟩ := subHeap_get hk
    generalize hb : ids.getD j 0 = b
    have hi : idx ids b = some j := by rw [← hb]; exact idx_getD hn hj
    cases hk0 : hp[b]? with
    | none => simp [List.getD, hk0]; trivial
    | some k0 =>
      have hk1 : hp.getD b .dead = k0 := by simp [List.getD, hk0]
      rw [hk1]
      have hok := h.blk b k0 hk0
      have hbb : (β.sub ids).b j = β.b b := by simp only [Gh.sub]; rw [hb]
      have hvv : (β.sub ids).v j = β.v b := by simp only [Gh.sub]; rw [hb]
      cases k0 with
      | cells e cs =>
        obtain ⟨ys, T, h1, h2, h3, h4⟩ := hok
        exact ⟨ys, T, by rw [hbb]; exact h1, by simpa using h2, by rw [hbb]; exact sub_o.2 ⟨b, h3, hi⟩, sub_Vs h4 9⟩
      | row e t cols hole xs =>
        obtain ⟨Vs, h1, h2, h3, h4⟩ := hok
        exact ⟨Vs, by rw [hvv]; exact h1, h2, fun p hp' => by rw [hvv] at hp'; exact sub_o.2 ⟨b, h3 p hp', hi⟩, fun i' j' hi' hj' => (h4 i' j' hi' hj').mono (sub_ext (fun _ h => h) w) fun p hp' => ⟨sub_o.2 ⟨b, hp', hi⟩, rfl⟩⟩
      | ro t xs => show D F w _ _; rw [hvv]; exact hok
      | rob t x => show D F w _ _; rw [hbb]; exact hok
      | dead => trivial
  · obtain ⟨b, h1, _⟩ := sub_o.1 hp'; exact h.lt p _ h1
  · obtain ⟨b, h1, _⟩ := sub_o.1 hp'; exact h.sep p _ h1
theorem idxs_get {ids : List Nat} : ∀ {n : Nat}, St.head.idxs ids n = n → ∀ j, j < n → j < ids.length ∧ ids.getD j 0 = j
  | 0, _, j, hj => by omega
  | n + 1, h, j, hj => by
    simp only [St.head.idxs] at h
    split at h
    · rename_i b hb
      split at h
      · rename_i he
        by_cases hjn : j = n
        · subst hjn
          have := Nat.eq_of_beq_eq_true he
          subst this
          exact ⟨(List.getElem?_eq_some_iff.1 hb).1, by simp [List.getD, hb]⟩
        · exact idxs_get (n := n) (by omega) j (by omega)
      · omega
    · omega
theorem getD_map {α β : Type} {f : α → β} {l : List α} {j : Nat} {d : α} {e : β} (hd : f d = e) : (l.map f).getD j e = f (l.getD j d) := by
  simp only [List.getD, List.getElem?_map]
  cases l[j]? <;> simp [hd]
theorem Rel.sub (h : Rel B F β st a w) {ids : List Nat} (hn : ids.Nodup) (hi : St.head.idxs ids st.np = st.np) : Rel B F (β.sub ids) (st.sub ids) a w := by
  refine ⟨by simp [St.sub, h.len], fun t => ?_, h.gl, ?_, h.kept, h.fo, h.fi, fun p κ hp => ?_, fun j hj => ?_, h.bn, fun j hj => ?_, ?_, h.heap.sub hn⟩
  · have := sub_V (ids := ids) 9 (h.env t)
    have e : (st.sub ids).get t = (st.get t).mapB (idx ids) 9 := getD_map (f := AV.mapB (idx ids) 9) rfl
    rw [e]; exact this
  · have key : ∀ {l : List (FuncId × List AV)} {ds : List Deferred}, DfOk F w β l ds → DfOk F w (β.sub ids) (l.map fun (f, as) => (f, as.map (AV.mapB (idx ids) 9))) ds := by
      intro l
      induction l with
      | nil => intro ds h; cases ds with | nil => trivial | cons => exact h.elim
      | cons x l ih =>
        intro ds h
        obtain ⟨f, as⟩ := x
        cases ds with
        | nil => exact h.elim
        | cons d ds =>
          obtain ⟨⟨cap, h1, h2, h3⟩, h4⟩ := h
          exact ⟨⟨cap, h1, by simpa using h2, sub_Vs h3 9⟩, ih h4⟩
    exact key h.df
  · obtain ⟨b, h1, _⟩ := sub_o.1 hp; exact h.lo p _ h1
  · obtain ⟨h1, h2, h3⟩ := h.per j hj
    obtain ⟨k1, k2⟩ := idxs_get hi j (h.bn j hj)
    exact ⟨⟨k1, by rw [k2]; exact h1⟩, by simp only [Gh.sub]; rw [k2]; exact h2, by simp only [Gh.sub]; rw [k2]; exact h3⟩
  · by_cases hjn : j < st.np
    · obtain ⟨k1, k2⟩ := idxs_get hi j hjn
      have := h.nw _ hj.2
      rw [k2] at this
      rcases this with h1 | h1
      · exact .inl h1
      · omega
    · exact .inr (Nat.le_of_not_lt hjn)
  · show st.np ≤ (subHeap st.heap ids).length
    simp only [subHeap, List.length_map]
    cases hnp : st.np with
    | zero => omega
    | succ n =>
      have := (idxs_get hi n (by omega)).1
      omega
/-! ### What functions answer -/
def GlOk (GL : List AV) (F : Nat → Prop) (w : World) : Prop := ∀ g, D F w (GL.getD g .undef) (.pointer (some ⟨g, 0, none⟩))
def Aft (F : Nat → Prop) (w : World) (β : Gh) (N : Nat) (an : Ans) (y : Value) (w' : World) : Prop :=
  ∃ (F' : Nat → Prop) (β' : Gh), Keeps (fun p => β.o p ≠ none) w w' ∧ (∀ p, F p → F' p) ∧ (∀ p, F' p → F p ∨ β.o p ≠ none ∨ w.heap.size ≤ p) ∧ (∀ p κ, β'.o p = some κ → β.o p ≠ none ∨ w.heap.size ≤ p) ∧
    β.Le β' ∧ (∀ j, β'.l j → β.l j ∨ N ≤ j) ∧ HOk F' w' β' an.hp ∧ V F' w' β' an.r y
def OkayG (C : FuncId → Array Value → World → (Ending → World → Prop) → Prop) (GL : List AV) (f : FuncId) (args : List AV) (hp : List Blk) (an : Ans) : Prop :=
  ∀ (F : Nat → Prop) (w : World) (β : Gh) (vs : List Value), HOk F w β hp → GlOk GL F w → vs.length = args.length → (∀ j, j < args.length → V F w β (args.getD j .undef) (vs.getD j undef)) →
    C f vs.toArray w fun e w' => ∃ y, e = .returned y ∧ Aft F w β hp.length an y w'
def Okay (P : Program) (GL : List AV) (f : FuncId) (args : List AV) (hp : List Blk) (an : Ans) : Prop := OkayG (Calls P) GL f args hp an
def CD (P : Program) (f : FuncId) (args : Array Value) (w : World) (R : Ending → World → Prop) : Prop := ∀ u, CallsD P f args u w fun e u' w' => u' = u ∧ R e w'
def FnOk (P : Program) (f : FuncId) : Prop := ∃ fn, P.funcs[f]? = some fn ∧ (fn.name == "runtime.NumGoroutine") = false ∧ fn.body.isNone = false
def OkCG (C : FuncId → Array Value → World → (Ending → World → Prop) → Prop) (P : Program) (GL : List AV) (c : Cal) (args : List AV) (hp : List Blk) (an : Ans) : Prop :=
  match c with
  | .f n => FnOk P n ∧ OkayG C GL n args hp an
  | .c x => ∃ n as, target P x.out args = some (.f n, as) ∧ FnOk P n ∧ OkayG C GL n as hp an
def GOkG (C : FuncId → Array Value → World → (Ending → World → Prop) → Prop) (P : Program) (GL : List AV) (G : Gam) : Prop := ∀ c args hp b r hp', G c args hp = some (b, r, hp') → b = true → OkCG C P GL c args hp ⟨r, hp'⟩
def OkC (P : Program) (GL : List AV) (c : Cal) (args : List AV) (hp : List Blk) (an : Ans) : Prop := OkCG (Calls P) P GL c args hp an
def GOk (P : Program) (GL : List AV) (G : Gam) : Prop := GOkG (Calls P) P GL G
theorem callFunc_run {n : FuncId} (h : FnOk P n) (vs : Array Value) (w : World) : (callFunc n vs).run P w = .ok (.enter n vs) w := by
  obtain ⟨fn, hfn, hne, hb⟩ := h
  have hne' : ¬ fn.name = "runtime.NumGoroutine" := by simpa using hne
  have hb' : ¬ fn.body = none := fun e => by rw [e] at hb; cases hb
  simp [callFunc, Sem.run_bind, run_program, hfn, hne', hb']
theorem getD_append {α : Type} {l r : List α} {j : Nat} {d : α} : (l ++ r).getD j d = if j < l.length then l.getD j d else r.getD (j - l.length) d := by
  simp only [List.getD]
  by_cases h : j < l.length
  · rw [if_pos h, List.getElem?_append_left h]
  · rw [if_neg h, List.getElem?_append_right (Nat.le_of_not_lt h)]
theorem Vs_append {cs ds : List AV} {ys zs : List Value} (hl : ys.length = cs.length) (h1 : ∀ j, j < cs.length → V F w β (cs.getD j .undef) (ys.getD j undef)) (h2 : ∀ j, j < ds.length → V F w β (ds.getD j .undef) (zs.getD j undef)) :
    ∀ j, j < (cs ++ ds).length → V F w β ((cs ++ ds).getD j .undef) ((ys ++ zs).getD j undef) := fun j hj => by
  rw [getD_append, getD_append, hl]
  by_cases h : j < cs.length
  · rw [if_pos h, if_pos h]; exact h1 j h
  · rw [if_neg h, if_neg h]; exact h2 _ (by simp at hj; omega)
theorem toL_getD (l : Array Value) (j : Nat) : l.toList.getD j undef = l.getD j undef := by rw [List.getD_eq_getElem?_getD, Array.getElem?_toList, Array.getD_eq_getD_getElem?]
def Goes (P : Program) (F : Nat → Prop) (w : World) (β : Gh) (y : Value) (vs : Array Value) (n : FuncId) (as : List AV) : Prop :=
  ∃ us : List Value, (∀ w' : World, (do let d ← Deferred.ofValue y vs; invoke d.target d.args : Sem Next).run P w' = .ok (.enter n us.toArray) w') ∧ us.length = as.length ∧ ∀ j, j < as.length → V F w β (as.getD j .undef) (us.getD j undef)
theorem target_goes {fv : AV} {y : Value} {vs : Array Value} {args as : List AV} {n : FuncId} (hf : V F w β fv y) (hl : vs.size = args.length) (hv : ∀ j, j < args.length → V F w β (args.getD j .undef) (vs.getD j undef)) (ht : target P fv args = some (.f n, as)) (hn : FnOk P n) : Goes P F w β y vs n as := by
  have hv' : ∀ j, j < args.length → V F w β (args.getD j .undef) (vs.toList.getD j undef) := fun j hj => by rw [toL_getD]; exact hv j hj
  unfold target at ht
  split at ht
  · rename_i f first cap
    simp at ht; obtain ⟨rfl, rfl⟩ := ht
    cases hf with
    | fn _ _ _ ya yc hla hlc ha hc =>
      refine ⟨ya.toList ++ vs.toList ++ yc.toList, fun w' => ?_, by simp [hla, hl, hlc], ?_⟩
      · have := callFunc_run hn (ya ++ vs ++ yc) w'
        have e : (ya.toList ++ vs.toList ++ yc.toList).toArray = ya ++ vs ++ yc := by apply Array.ext'; simp
        rw [e]
        simp only [Deferred.ofValue, invoke, Sem.run_bind, Sem.run_pure, Result.andThen_ok, this]
      · rw [← List.append_assoc]
        refine Vs_append (by simp [hla, hl]) (Vs_append (by simpa using hla) (fun j hj => by rw [toL_getD]; exact ha j hj) hv') (fun j hj => by rw [toL_getD]; exact hc j hj)
  · rename_i t p f ptr x
    cases hf with
    | fn _ _ _ ya yc hla hlc ha hc =>
      have hya : ∃ z, ya = #[z] := by
        match ya, hla with
        | ⟨[z]⟩, _ => exact ⟨z, rfl⟩
      obtain ⟨z, rfl⟩ := hya
      have hz : V F w β x z := by simpa using ha 0 (by simp)
      have key : p = #[] → (∀ w' : World, (receiverVia t z #[] ptr).run P w' = .ok z w') → as = x :: args → f = n → Goes P F w β (.func (.via t p f ptr) #[z] yc) vs n as := by
        rintro rfl hr rfl rfl
        refine ⟨z :: vs.toList, fun w' => ?_, by simp [hl], fun j hj => ?_⟩
        · have := callFunc_run hn (#[z] ++ vs) w'
          have e1 : (#[z] ++ vs)[0]? = some z := by rw [Array.getElem?_append_left (by simp)]; rfl
          have e2 : (#[z] ++ vs).extract 1 (#[z] ++ vs).size = vs := by
            apply Array.ext'; rw [Array.toList_extract]; simp [List.extract]; exact List.take_of_length_le (by simp)
          simp only [Deferred.ofValue, invoke, Sem.run_bind, Sem.run_pure, Result.andThen_ok, e1, hr, e2, this]
          congr 2
          apply Array.ext'; simp
        · cases j with
          | zero => simpa using hz
          | succ j => simpa using hv' j (by simpa using hj)
      split at ht
      · rename_i e hp hu
        simp at ht; obtain ⟨rfl, rfl⟩ := ht
        refine key (by simpa using hp) (fun w' => ?_) rfl rfl
        simp [receiverVia, follow, receiverAt, Place.get, Sem.run_bind, run_underlying hu w']
      · cases ht
      · rename_i d hne hp hu
        simp at ht; obtain ⟨rfl, rfl⟩ := ht
        refine key (by simpa using hp) (fun w' => ?_) rfl rfl
        cases d <;> simp [receiverVia, follow, receiverAt, Place.get, Sem.run_bind, run_underlying hu w']
        exact (hne _ rfl).elim
      · cases ht
  · simp at ht
  · cases ht
theorem target_c {fv : AV} {args as : List AV} {x : Clo} (ht : target P fv args = some (.c x, as)) : fv = .clo x ∧ as = args := by
  unfold target at ht
  split at ht
  · simp at ht
  · split at ht <;> simp at ht
  · simp at ht; obtain ⟨rfl, rfl⟩ := ht; exact ⟨rfl, rfl⟩
  · cases ht
end
end Go.Proofs.YtgfifnadfmaolaaGreatDoor
