import Derived.Test.YtganhedldgbfpaaGreatDoorS6C
import Derived.Defers
set_option linter.unusedVariables false
set_option linter.unusedSimpArgs false
noncomputable section
namespace Go.Proofs.YtganhedldgbfpaaGreatDoor
open Go.RowKit
theorem hasN_iff {b : Nat} : ∀ {l : List Nat}, zhf b l = true ↔ b ∈ l
 | [] => by simp [zhf]
 | x :: r => by
  simp only [zhf, List.mem_cons]
  cases hx : Nat.beq x b with
  | true => have := Nat.eq_of_beq_eq_true hx; simp [this]
  | false =>
   have : b ≠ x := fun e => by subst e; simp at hx
   simp [this, hasN_iff (l := r)]
theorem nodupB_iff : ∀ {l : List Nat}, zhj l = true ↔ l.Nodup
 | [] => by simp [zhj]
 | x :: r => by
  simp only [zhj, List.nodup_cons]
  cases hx : zhf x r with
  | true => have := hasN_iff.1 hx; simp [this]
  | false =>
   have : x ∉ r := fun h => by rw [hasN_iff.2 h] at hx; cases hx
   simp [this, nodupB_iff (l := r)]
theorem zce : ∀ {l : List Nat} {b j : Nat}, idx l b = some j -> j < l.length /\ l.getD j 0 = b
 | [], b, j, h => by simp [idx] at h
 | x :: r, b, j, h => by
  simp only [idx] at h
  split at h
  . rename_i hx
    simp at h; subst h
    exact ⟨by simp, by simpa using Nat.eq_of_beq_eq_true hx⟩
  . split at h
    . rename_i j' hj'
      simp at h; subst h
      obtain ⟨h1, h2⟩ := zce hj'
      exact ⟨by simpa using h1, by simpa using h2⟩
    . cases h
theorem zv8 : ∀ {l : List Nat} {b : Nat}, b ∈ l -> ∃ j, idx l b = some j
 | [], b, h => by cases h
 | x :: r, b, h => by
  simp only [idx]
  cases hx : Nat.beq x b with
  | true => exact ⟨0, rfl⟩
  | false =>
   have : b ∈ r := by
    rcases List.mem_cons.1 h with rfl | h
    . simp at hx
    . exact h
   obtain ⟨j, hj⟩ := zv8 this
   exact ⟨j + 1, by simp [hj]⟩
theorem ztE {l : List Nat} (hn : l.Nodup) {j : Nat} (hj : j < l.length) : idx l (l.getD j 0) = some j := by
 have hm : l.getD j 0 ∈ l := by simp [List.getD, hj]
 obtain ⟨i, hi⟩ := zv8 hm
 obtain ⟨h1, h2⟩ := zce hi
 have : i = j := by
  have e : l[i] = l[j] := by simpa [List.getD, h1, hj] using h2
  exact (List.getElem_inj hn).1 e
 rw [hi, this]
def Gh.sub (β : Gh) (ids : List Nat) : Gh :=
 ⟨fun j => β.b (ids.getD j 0), fun j => β.v (ids.getD j 0), fun p => match β.o p with | some (b, s) => (match idx ids b with | some j => some (j, s) | none => none) | none => none, fun j => j < ids.length /\ β.l (ids.getD j 0)⟩
theorem sub_o {β : Gh} {ids : List Nat} {p : Nat} {κ : Nat × Option (Nat × Nat)} : (β.sub ids).o p = some κ ↔ ∃ b, β.o p = some (b, κ.2) /\ idx ids b = some κ.1 := by
 simp only [Gh.sub]
 cases hq : β.o p with
 | none => simp
 | some κ' =>
  obtain ⟨b, s⟩ := κ'
  cases hi : idx ids b with
  | none => simp [hi]
  | some j =>
   simp [hi]
   constructor
   . rintro rfl; exact ⟨b, ⟨rfl, rfl⟩, hi⟩
   . rintro ⟨b', ⟨rfl, h2⟩, h3⟩
     rw [hi] at h3
     simp at h3
     ext <;> simp [h2, h3]
section
variable {P : Program} {GL : List AV} {G : Gam} {B : Bs} {F : Nat -> Prop} {β : Gh} {st : St} {a : Act} {w : World}
theorem zBW {ids : List Nat} (n : Nat) {x : AV} {y : Value} (h : V F w β x y) : V F w (β.sub ids) (x.mapB (idx ids) n) y :=
 zmF (fun b j hb hj => by
  obtain ⟨h1, h2⟩ := zce hj
  exact ⟨⟨h1, by rw [h2]; exact hb⟩, by simp [Gh.sub, ← h2], by simp [Gh.sub, ← h2]⟩) n h
theorem zvL {ids : List Nat} {cs : List AV} {Y : Nat -> Value} (h : ∀ j, j < cs.length -> V F w β (cs.getD j .undef) (Y j)) (n : Nat) : ∀ j, j < (cs.map (AV.mapB (idx ids) n)).length -> V F w (β.sub ids) ((cs.map (AV.mapB (idx ids) n)).getD j .undef) (Y j) := fun j hj => by
 have hj' : j < cs.length := by simpa using hj
 have := zBW (ids := ids) n (h j hj')
 simpa [List.getD, hj'] using this
theorem zuE {hp : List Blk} {ids : List Nat} {j : Nat} {k : Blk} (h : (zbI hp ids)[j]? = some k) : j < ids.length /\ k = (hp.getD (ids.getD j 0) .dead).mapB (idx ids) := by
 have hj : j < ids.length := by
  have := (List.getElem?_eq_some_iff.1 h).1
  simpa [zbI] using this
 refine ⟨hj, ?_⟩
 simpa [zbI, hj, List.getD, eq_comm] using h
theorem HOk.sub {hp : List Blk} (h : HOk F w β hp) {ids : List Nat} (hn : ids.Nodup) : HOk F w (β.sub ids) (zbI hp ids) := by
 refine ⟨h.fb, fun j k hk => ?_, fun p κ hp' => ?_, fun p κ hp' => ?_, fun j hj => by simpa [zbI] using hj.1⟩
 . obtain ⟨hj, rfl⟩ := zuE hk
   generalize hb : ids.getD j 0 = b
   have hi : idx ids b = some j := by rw [← hb]; exact ztE hn hj
   cases hk0 : hp[b]? with
   | none => simp [List.getD, hk0]; trivial
   | some k0 =>
    have hk1 : hp.getD b .dead = k0 := by simp [List.getD, hk0]
    rw [hk1]
    have hok := h.blk b k0 hk0
    have hbb : (β.sub ids).b j = β.b b := by simp only [Gh.sub]; rw [hb]
    have hvv : (β.sub ids).v j = β.v b := by simp only [Gh.sub]; rw [hb]
    cases k0 with
    | cells e cs =>
     obtain ⟨ys, T, h1, h2, h3, h4⟩ := hok
     exact ⟨ys, T, by rw [hbb]; exact h1, by simpa using h2, by rw [hbb]; exact sub_o.2 ⟨b, h3, hi⟩, zvL h4 9⟩
    | row e t cols hole xs =>
     obtain ⟨Vs, h1, h2, h3, h4⟩ := hok
     exact ⟨Vs, by rw [hvv]; exact h1, h2, fun p hp' => by rw [hvv] at hp'; exact sub_o.2 ⟨b, h3 p hp', hi⟩, fun i' j' hi' hj' => (h4 i' j' hi' hj').mapB (zaB (fun _ h => h) w) (fun c d hc hd => by
      obtain ⟨q1, q2⟩ := zce hd
      exact ⟨⟨q1, by rw [q2]; exact hc⟩, by simp only [Gh.sub]; rw [q2]⟩) fun p hp' => ⟨sub_o.2 ⟨b, hp', hi⟩, rfl⟩⟩
    | ro t xs => show D F w _ _; rw [hvv]; exact hok
    | rob t x => show D F w _ _; rw [hbb]; exact hok
    | dead => trivial
 . obtain ⟨b, h1, _⟩ := sub_o.1 hp'; exact h.lt p _ h1
 . obtain ⟨b, h1, _⟩ := sub_o.1 hp'; exact h.sep p _ h1
theorem zhV {ids : List Nat} : ∀ {n : Nat}, St.head.idxs ids n = n -> ∀ j, j < n -> j < ids.length /\ ids.getD j 0 = j
 | 0, _, j, hj => by omega
 | n + 1, h, j, hj => by
  simp only [St.head.idxs] at h
  split at h
  . rename_i b hb
    split at h
    . rename_i he
      by_cases hjn : j = n
      . subst hjn
        have := Nat.eq_of_beq_eq_true he
        subst this
        exact ⟨(List.getElem?_eq_some_iff.1 hb).1, by simp [List.getD, hb]⟩
      . exact zhV (n := n) (by omega) j (by omega)
    . omega
  . omega
theorem zAx {α β : Type} {f : α -> β} {l : List α} {j : Nat} {d : α} {e : β} (hd : f d = e) : (l.map f).getD j e = f (l.getD j d) := by
 simp only [List.getD, List.getElem?_map]
 cases l[j]? <;> simp [hd]
theorem Rel.sub (h : Rel B F β st a w) {ids : List Nat} (hn : ids.Nodup) (hi : St.head.idxs ids st.np = st.np) : Rel B F (β.sub ids) (st.sub ids) a w := by
 refine ⟨by simp [St.sub, h.len], fun t => ?_, h.gl, ?_, h.kept, h.fo, h.fi, fun p κ hp => ?_, fun j hj => ?_, h.bn, fun j hj => ?_, ?_, h.heap.sub hn⟩
 . have := zBW (ids := ids) 9 (h.env t)
   have e : (st.sub ids).get t = (st.get t).mapB (idx ids) 9 := zAx (f := AV.mapB (idx ids) 9) rfl
   rw [e]; exact this
 . have key : ∀ {l : List (FuncId × List AV)} {ds : List Deferred}, DfOk F w β l ds -> DfOk F w (β.sub ids) (l.map fun (f, as) => (f, as.map (AV.mapB (idx ids) 9))) ds := by
    intro l
    induction l with
    | nil => intro ds h; cases ds with | nil => trivial | cons => exact h.elim
    | cons x l ih =>
     intro ds h
     obtain ⟨f, as⟩ := x
     cases ds with
     | nil => exact h.elim
     | cons d ds =>
      obtain ⟨⟨cap, h1, h2, h3⟩, h4⟩ := h
      exact ⟨⟨cap, h1, by simpa using h2, zvL h3 9⟩, ih h4⟩
   exact key h.df
 . obtain ⟨b, h1, _⟩ := sub_o.1 hp; exact h.lo p _ h1
 . obtain ⟨h1, h2, h3⟩ := h.per j hj
   obtain ⟨k1, k2⟩ := zhV hi j (h.bn j hj)
   exact ⟨⟨k1, by rw [k2]; exact h1⟩, by simp only [Gh.sub]; rw [k2]; exact h2, by simp only [Gh.sub]; rw [k2]; exact h3⟩
 . by_cases hjn : j < st.np
   . obtain ⟨k1, k2⟩ := zhV hi j hjn
     have := h.nw _ hj.2
     rw [k2] at this
     rcases this with h1 | h1
     . exact .inl h1
     . omega
   . exact .inr (Nat.le_of_not_lt hjn)
 . show st.np <= (zbI st.heap ids).length
   simp only [zbI, List.length_map]
   cases hnp : st.np with
   | zero => omega
   | succ n =>
    have := (zhV hi n (by omega)).1
    omega
def GlOk (GL : List AV) (F : Nat -> Prop) (w : World) : Prop := ∀ g, D F w (GL.getD g .undef) (.pointer (some ⟨g, 0, none⟩))
def Aft (F : Nat -> Prop) (w : World) (β : Gh) (N : Nat) (an : zY) (y : Value) (w' : World) : Prop :=
 ∃ (F' : Nat -> Prop) (β' : Gh), Keeps (fun p => β.o p ≠ none) w w' /\ (∀ p, F p -> F' p) /\ (∀ p, F' p -> F p ∨ β.o p ≠ none ∨ w.heap.size <= p) /\ (∀ p κ, β'.o p = some κ -> β.o p ≠ none ∨ w.heap.size <= p) /\
  β.Le β' /\ (∀ j, β'.l j -> β.l j ∨ N <= j) /\ HOk F' w' β' an.hp /\ V F' w' β' an.r y
def zsT (C : FuncId -> Array Value -> World -> (Ending -> World -> Prop) -> Prop) (GL : List AV) (f : FuncId) (args : List AV) (hp : List Blk) (an : zY) : Prop :=
 ∀ (F : Nat -> Prop) (w : World) (β : Gh) (vs : List Value), HOk F w β hp -> GlOk GL F w -> vs.length = args.length -> (∀ j, j < args.length -> V F w β (args.getD j .undef) (vs.getD j undef)) ->
  C f vs.toArray w fun e w' => ∃ y, e = .returned y /\ Aft F w β hp.length an y w'
def Okay (P : Program) (GL : List AV) (f : FuncId) (args : List AV) (hp : List Blk) (an : zY) : Prop := zsT (Calls P) GL f args hp an
def CD (P : Program) (f : FuncId) (args : Array Value) (w : World) (R : Ending -> World -> Prop) : Prop := ∀ u, CallsD P f args u w fun e u' w' => u' = u /\ R e w'
def zlk (P : Program) (f : FuncId) : Prop := ∃ fn, P.funcs[f]? = some fn /\ (fn.name == "runtime.NumGoroutine") = false /\ fn.body.isNone = false
def zIo (C : FuncId -> Array Value -> World -> (Ending -> World -> Prop) -> Prop) (P : Program) (GL : List AV) (c : Cal) (args : List AV) (hp : List Blk) (an : zY) : Prop :=
 match c with
 | .f n => zlk P n /\ zsT C GL n args hp an
 | .a n => zlk P n /\ zsT C GL n args hp an
 | .c x => ∃ n as, target P x.out args = some (.f n, as) /\ zlk P n /\ zsT C GL n as hp an
def zqj (C : FuncId -> Array Value -> World -> (Ending -> World -> Prop) -> Prop) (P : Program) (GL : List AV) (G : Gam) : Prop := ∀ c args hp b r hp', G c args hp = some (b, r, hp') -> b = true -> zIo C P GL c args hp ⟨r, hp'⟩
def OkC (P : Program) (GL : List AV) (c : Cal) (args : List AV) (hp : List Blk) (an : zY) : Prop := zIo (Calls P) P GL c args hp an
def GOk (P : Program) (GL : List AV) (G : Gam) : Prop := zqj (Calls P) P GL G
theorem zda {n : FuncId} (h : zlk P n) (vs : Array Value) (w : World) : (callFunc n vs).run P w = .ok (.enter n vs) w := by
 obtain ⟨fn, hfn, hne, hb⟩ := h
 have hne' : ¬ fn.name = "runtime.NumGoroutine" := by simpa using hne
 have hb' : ¬ fn.body = none := fun e => by rw [e] at hb; cases hb
 simp [callFunc, Sem.run_bind, run_program, hfn, hne', hb']
theorem zac {α : Type} {l r : List α} {j : Nat} {d : α} : (l ++ r).getD j d = if j < l.length then l.getD j d else r.getD (j - l.length) d := by
 simp only [List.getD]
 by_cases h : j < l.length
 . rw [if_pos h, List.getElem?_append_left h]
 . rw [if_neg h, List.getElem?_append_right (Nat.le_of_not_lt h)]
theorem zgq {cs ds : List AV} {ys zs : List Value} (hl : ys.length = cs.length) (h1 : ∀ j, j < cs.length -> V F w β (cs.getD j .undef) (ys.getD j undef)) (h2 : ∀ j, j < ds.length -> V F w β (ds.getD j .undef) (zs.getD j undef)) :
 ∀ j, j < (cs ++ ds).length -> V F w β ((cs ++ ds).getD j .undef) ((ys ++ zs).getD j undef) := fun j hj => by
 rw [zac, zac, hl]
 by_cases h : j < cs.length
 . rw [if_pos h, if_pos h]; exact h1 j h
 . rw [if_neg h, if_neg h]; exact h2 _ (by simp at hj; omega)
theorem za7 (l : Array Value) (j : Nat) : l.toList.getD j undef = l.getD j undef := by rw [List.getD_eq_getElem?_getD, Array.getElem?_toList, Array.getD_eq_getD_getElem?]
def zzH (P : Program) (F : Nat -> Prop) (w : World) (β : Gh) (y : Value) (vs : Array Value) (n : FuncId) (as : List AV) : Prop :=
 ∃ us : List Value, (∀ w' : World, (do let d ← Deferred.ofValue y vs; invoke d.target d.args : Sem Next).run P w' = .ok (.enter n us.toArray) w') /\ us.length = as.length /\ ∀ j, j < as.length -> V F w β (as.getD j .undef) (us.getD j undef)
theorem zkz {y : Value} {vs : Array Value} {args : List AV} {t : TypeId} {x : AV} {name : String} {f : FuncId} (hf : V F w β (.ifc t x) y) (hl : vs.size = args.length) (hv : ∀ j, j < args.length -> V F w β (args.getD j .undef) (vs.getD j undef)) (hm : zcP P t name = some f) (hn : zlk P f) : zzH P F w β (.func (.method name) #[y] #[]) vs f (x :: args) := by
 cases hf with
 | ifc _ _ z hz =>
 unfold zcP at hm
 split at hm
 . rename_i i fs hi hu
   split at hm
   . rename_i m hfind
     split at hm
     . rename_i f' hp hfn
       simp at hm; subst hm
       refine ⟨z :: vs.toList, fun w' => ?_, by simp [hl], fun j hj => ?_⟩
       . have hp' : m.path = #[] := by simpa using hp
         have e2 : (#[Value.iface t z] ++ vs).extract 1 (#[Value.iface t z] ++ vs).size = vs := by
          apply Array.ext'; rw [Array.toList_extract]; simp [List.extract]; exact List.take_of_length_le (by simp)
         have e1 : (#[Value.iface t z] ++ vs)[0]? = some (Value.iface t z) := by rw [Array.getElem?_append_left (by simp)]; rfl
         have hcf := zda hn (#[z] ++ vs) w'
         have e3 : (z :: vs.toList).toArray = #[z] ++ vs := by apply Array.ext'; simp
         have hmeth : (method (P.types.size + Made.depth) t z name).run P w' = .ok (f', z) w' := by
          have hd : P.types.size + Made.depth = (P.types.size + (Made.depth - 1)) + 1 := by
           have : 0 < Made.depth := by decide
           omega
          rw [hd]
          simp [method, typeInfo, Sem.run_bind, run_program, hi, hfind, hp', follow, hfn, receiverAt, Place.get, run_underlying hu w']
         rw [e3]
         simp only [Deferred.ofValue, invoke, Sem.run_bind, Sem.run_pure, Result.andThen_ok, e1, e2, callMethod, run_program, hmeth]
         exact hcf
       . cases j with
         | zero => simpa using hz
         | succ j => simpa [za7] using hv j (by simpa using hj)
     . cases hm
   . cases hm
 . cases hm
theorem zkW {fv : AV} {y : Value} {vs : Array Value} {args as : List AV} {n : FuncId} (hf : V F w β fv y) (hl : vs.size = args.length) (hv : ∀ j, j < args.length -> V F w β (args.getD j .undef) (vs.getD j undef)) (ht : target P fv args = some (.f n, as)) (hn : zlk P n) : zzH P F w β y vs n as := by
 have hv' : ∀ j, j < args.length -> V F w β (args.getD j .undef) (vs.toList.getD j undef) := fun j hj => by rw [za7]; exact hv j hj
 unfold target at ht
 split at ht
 . rename_i f first cap
   simp at ht; obtain ⟨rfl, rfl⟩ := ht
   cases hf with
   | fn _ _ _ ya yc hla hlc ha hc =>
    refine ⟨ya.toList ++ vs.toList ++ yc.toList, fun w' => ?_, by simp [hla, hl, hlc], ?_⟩
    . have := zda hn (ya ++ vs ++ yc) w'
      have e : (ya.toList ++ vs.toList ++ yc.toList).toArray = ya ++ vs ++ yc := by apply Array.ext'; simp
      rw [e]
      simp only [Deferred.ofValue, invoke, Sem.run_bind, Sem.run_pure, Result.andThen_ok, this]
    . rw [← List.append_assoc]
      refine zgq (by simp [hla, hl]) (zgq (by simpa using hla) (fun j hj => by rw [za7]; exact ha j hj) hv') (fun j hj => by rw [za7]; exact hc j hj)
 . rename_i t p f ptr x
   cases hf with
   | fn _ _ _ ya yc hla hlc ha hc =>
    have hya : ∃ z, ya = #[z] := by
     match ya, hla with
     | ⟨[z]⟩, _ => exact ⟨z, rfl⟩
    obtain ⟨z, rfl⟩ := hya
    have hz : V F w β x z := by simpa using ha 0 (by simp)
    have key : p = #[] -> (∀ w' : World, (receiverVia t z #[] ptr).run P w' = .ok z w') -> as = x :: args -> f = n -> zzH P F w β (.func (.via t p f ptr) #[z] yc) vs n as := by
     rintro rfl hr rfl rfl
     refine ⟨z :: vs.toList, fun w' => ?_, by simp [hl], fun j hj => ?_⟩
     . have := zda hn (#[z] ++ vs) w'
       have e1 : (#[z] ++ vs)[0]? = some z := by rw [Array.getElem?_append_left (by simp)]; rfl
       have e2 : (#[z] ++ vs).extract 1 (#[z] ++ vs).size = vs := by
        apply Array.ext'; rw [Array.toList_extract]; simp [List.extract]; exact List.take_of_length_le (by simp)
       simp only [Deferred.ofValue, invoke, Sem.run_bind, Sem.run_pure, Result.andThen_ok, e1, hr, e2, this]
       congr 2
       apply Array.ext'; simp
     . cases j with
       | zero => simpa using hz
       | succ j => simpa using hv' j (by simpa using hj)
    split at ht
    . rename_i e hp hu
      simp at ht; obtain ⟨rfl, rfl⟩ := ht
      refine key (by simpa using hp) (fun w' => ?_) rfl rfl
      simp [receiverVia, follow, receiverAt, Place.get, Sem.run_bind, run_underlying hu w']
    . cases ht
    . rename_i d hne hp hu
      simp at ht; obtain ⟨rfl, rfl⟩ := ht
      refine key (by simpa using hp) (fun w' => ?_) rfl rfl
      cases d <;> simp [receiverVia, follow, receiverAt, Place.get, Sem.run_bind, run_underlying hu w']
      exact (hne _ rfl).elim
    . cases ht
 . simp at ht
 . rename_i nm t x
   split at ht
   . rename_i f' hm
     simp at ht; obtain ⟨rfl, rfl⟩ := ht
     cases hf with
     | fn _ _ _ ya yc hla hlc ha hc =>
      have hya : ∃ u, ya = #[u] := by
       match ya, hla with
       | ⟨[u]⟩, _ => exact ⟨u, rfl⟩
      obtain ⟨u, rfl⟩ := hya
      have hyc : yc = #[] := by apply Array.eq_empty_of_size_eq_zero; simpa using hlc
      subst hyc
      exact zkz (by simpa using ha 0 (by simp)) hl hv hm hn
   . cases ht
 . cases ht
theorem zB0 {fv : AV} {args as : List AV} {x : Clo} (ht : target P fv args = some (.c x, as)) : fv = .clo x /\ as = args := by
 unfold target at ht
 split at ht
 . simp at ht
 . split at ht <;> simp at ht
 . simp at ht; obtain ⟨rfl, rfl⟩ := ht; exact ⟨rfl, rfl⟩
 . split at ht <;> simp at ht
 . cases ht
end
def bk (ids : List Nat) (n j : Nat) : Nat := if j < ids.length then ids.getD j 0 else n + (j - ids.length)
theorem zvW (ids : List Nat) (n j : Nat) : zkX ids n j = some (bk ids n j) := by
 unfold zkX bk
 by_cases h : j < ids.length
 . rw [if_pos h, show Nat.blt j ids.length = true by simpa using h]
   simp [List.getD, h]
 . rw [if_neg h, show Nat.blt j ids.length = false from by
    cases hb : Nat.blt j ids.length with
    | false => rfl
    | true => exact absurd (by simpa using hb) h]
theorem zhq : ∀ (ids : List Nat) (ks hp : List Blk), ids.Nodup -> ks.length = ids.length -> (∀ b, b ∈ ids -> b < hp.length) -> (zfd hp ids ks).length = hp.length /\ ∀ c, (zfd hp ids ks)[c]? = match idx ids c with | some j => ks[j]? | none => hp[c]?
 | [], ks, hp, _, _, _ => by
  have : zfd hp [] ks = hp := by cases ks <;> rfl
  rw [this]
  exact ⟨rfl, fun c => rfl⟩
 | b :: ids, [], hp, _, hl, _ => by simp at hl
 | b :: ids, k :: ks, hp, hn, hl, hlt => by
  obtain ⟨hb, hn'⟩ := List.nodup_cons.1 hn
  obtain ⟨h1, h2⟩ := zhq ids ks (hp.set b k) hn' (by simpa using hl) (fun c hc => by simpa using hlt c (by simp [hc]))
  refine ⟨by simpa [zfd] using h1, fun c => ?_⟩
  simp only [zfd, h2 c, idx]
  cases hx : Nat.beq b c with
  | true =>
   have := Nat.eq_of_beq_eq_true hx
   subst this
   have hi : idx ids b = none := by
    cases hq : idx ids b with
    | none => rfl
    | some j =>
     obtain ⟨q1, q2⟩ := zce hq
     exact absurd (by rw [← q2]; simp [List.getD, q1]) hb
   have hlb := hlt b (by simp)
   simp [hi, hlb]
  | false =>
   have hne : b ≠ c := fun e => by subst e; simp at hx
   cases hi : idx ids c with
   | some j => simp
   | none => simp [List.getElem?_set, hne]
def Gh.adopt (β β' : Gh) (ids : List Nat) (n : Nat) : Gh :=
 ⟨fun c => match idx ids c with | some j => β'.b j | none => if c < n then β.b c else β'.b (c - n + ids.length),
  fun c => match idx ids c with | some j => β'.v j | none => if c < n then β.v c else β'.v (c - n + ids.length),
  fun p => match β'.o p with | some (j, s) => some (bk ids n j, s) | none => match β.o p with | some (c, s) => (match idx ids c with | some _ => none | none => some (c, s)) | none => none,
  fun c => β.l c ∨ ∃ j, β'.l j /\ bk ids n j = c⟩
section
variable {P : Program} {GL : List AV} {G : Gam} {B : Bs} {F : Nat -> Prop} {β : Gh} {st : St} {a : Act} {w : World}
theorem zJ4 {ids : List Nat} {n c : Nat} (hlt : ∀ b, b ∈ ids -> b < n) (hc : n <= c) : idx ids c = none := by
 cases hq : idx ids c with
 | none => rfl
 | some j =>
  obtain ⟨q1, q2⟩ := zce hq
  have := hlt c (by rw [← q2]; simp [List.getD, q1])
  omega
theorem zzP {β' : Gh} {ids : List Nat} {n : Nat} (hn : ids.Nodup) (hlt : ∀ b, b ∈ ids -> b < n) (j : Nat) : (β.adopt β' ids n).b (bk ids n j) = β'.b j /\ (β.adopt β' ids n).v (bk ids n j) = β'.v j := by
 unfold Gh.adopt bk
 by_cases h : j < ids.length
 . rw [if_pos h]
   simp only [ztE hn h, and_self]
 . rw [if_neg h]
   have := zJ4 (c := n + (j - ids.length)) hlt (by omega)
   have e : n + (j - ids.length) - n + ids.length = j := by omega
   have e2 : ¬ n + (j - ids.length) < n := by omega
   simp only [this, if_neg e2, e, and_self]
theorem Rel.adopt (h : Rel B F β st a w) {ids : List Nat} (hn : ids.Nodup) (hlt : ∀ b, b ∈ ids -> b < st.heap.length) {an : zY} {y : Value} {w' : World} (hk : ids.length <= an.hp.length) (ha : Aft F w (β.sub ids) ids.length an y w') :
 ∃ F' β', Rel B F' β' (st.adopt ids an.hp) a w' /\ V F' w' β' (an.r.mapB (zkX ids st.heap.length) 9) y := by
 obtain ⟨F', β', k1, k2, k3, k4, k5, k8, k6, k7⟩ := ha
 let n := st.heap.length
 let βM := β.adopt β' ids n
 have hsub : ∀ p, (β.sub ids).o p ≠ none -> ∃ b s, β.o p = some (b, s) /\ ∃ j, idx ids b = some j := fun p hp => by
  cases hq : (β.sub ids).o p with
  | none => exact absurd hq hp
  | some κ =>
   obtain ⟨b, h1, h2⟩ := sub_o.1 hq
   exact ⟨b, κ.2, h1, κ.1, h2⟩
 have hE : Ext F F' w w' := ⟨k1.size, fun p hF hp => ⟨k2 p hF, k1.block p hp fun hq => by
  obtain ⟨b, s, h1, _⟩ := hsub p hq
  exact h.heap.sep p _ h1 hF⟩⟩
 have hat := fun j => zzP (β := β) (β' := β') (n := n) hn hlt j
 have hle : β.Le βM := fun c hc => by
  have hcn := h.heap.live c hc
  refine ⟨.inl hc, ?_, ?_⟩
  . show (match idx ids c with | some j => β'.b j | none => if c < n then β.b c else _) = _
    cases hi : idx ids c with
    | none => simp only; rw [if_pos hcn]
    | some j =>
     obtain ⟨q1, q2⟩ := zce hi
     have := (k5 j ⟨q1, by rw [q2]; exact hc⟩).2.1
     simp only [Gh.sub, q2] at this
     exact this
  . show (match idx ids c with | some j => β'.v j | none => if c < n then β.v c else _) = _
    cases hi : idx ids c with
    | none => simp only; rw [if_pos hcn]
    | some j =>
     obtain ⟨q1, q2⟩ := zce hi
     have := (k5 j ⟨q1, by rw [q2]; exact hc⟩).2.2
     simp only [Gh.sub, q2] at this
     exact this
 have hmap : ∀ (m : Nat) {x : AV} {y : Value}, V F' w' β' x y -> V F' w' βM (x.mapB (zkX ids n) m) y := fun m _ _ hv => zmF (fun b c hb hc => by
  rw [zvW] at hc
  simp at hc
  subst hc
  exact ⟨.inr ⟨b, hb, rfl⟩, (hat b).1, (hat b).2⟩) m hv
 have hmaps : ∀ {cs : List AV} {Y : Nat -> Value}, (∀ j, j < cs.length -> V F' w' β' (cs.getD j .undef) (Y j)) -> ∀ j, j < (cs.map (AV.mapB (zkX ids n) 9)).length -> V F' w' βM ((cs.map (AV.mapB (zkX ids n) 9)).getD j .undef) (Y j) := fun {cs Y} hv j hj => by
  have hj' : j < cs.length := by simpa using hj
  have := hmap 9 (hv j hj')
  simpa [List.getD, hj'] using this
 have ho : ∀ p κ, βM.o p = some κ -> (∃ j s, β'.o p = some (j, s) /\ κ = (bk ids n j, s)) ∨ (β'.o p = none /\ ∃ c s, β.o p = some (c, s) /\ idx ids c = none /\ κ = (c, s)) := fun p κ hp => by
  have hp' : (match β'.o p with | some (j, s) => some (bk ids n j, s) | none => match β.o p with | some (c, s) => (match idx ids c with | some _ => none | none => some (c, s)) | none => none) = some κ := hp
  cases hq : β'.o p with
  | some κ' =>
   obtain ⟨j, s⟩ := κ'
   rw [hq] at hp'
   simp at hp'
   exact .inl ⟨j, s, rfl, hp'.symm⟩
  | none =>
   rw [hq] at hp'
   simp only at hp'
   split at hp'
   . rename_i c s hc
     split at hp'
     . cases hp'
     . rename_i hi
       simp at hp'
       exact .inr ⟨rfl, c, s, hc, hi, hp'.symm⟩
   . cases hp'
 have hblk : ∀ j k, BlkOk F' w' β' j k -> BlkOk F' w' βM (bk ids n j) (k.mapB (zkX ids n)) := fun j k hok => by
  have hoo : ∀ p s, β'.o p = some (j, s) -> βM.o p = some (bk ids n j, s) := fun p s hp => by
   show (match β'.o p with | some (j, s) => some (bk ids n j, s) | none => _) = _
   rw [hp]
  cases k with
  | cells e cs =>
   obtain ⟨ys, T, h1, h2, h3, h4⟩ := hok
   exact ⟨ys, T, by rw [(hat j).1]; exact h1, by simpa using h2, by rw [(hat j).1]; exact hoo _ _ h3, hmaps h4⟩
  | row e t cols hole xs =>
   obtain ⟨Vs, h1, h2, h3, h4⟩ := hok
   exact ⟨Vs, by rw [(hat j).2]; exact h1, h2, fun p hp => by rw [(hat j).2] at hp; exact hoo _ _ (h3 p hp), fun i' j' hi' hj' => (h4 i' j' hi' hj').mapB (zaB (fun _ h => h) w') (fun b c hb hc => by
    rw [zvW] at hc
    simp at hc
    subst hc
    exact ⟨.inr ⟨b, hb, rfl⟩, (hat b).2⟩) fun p hp => ⟨hoo _ _ hp, rfl⟩⟩
  | ro t xs => show D F' w' _ _; rw [(hat j).2]; exact hok
  | rob t x => show D F' w' _ _; rw [(hat j).1]; exact hok
  | dead => trivial
 let s := zkX ids n
 obtain ⟨l1, l2⟩ := zhq ids ((an.hp.take ids.length).map (Blk.mapB s)) st.heap hn (by simp; omega) hlt
 have hheap : (st.adopt ids an.hp).heap = zfd st.heap ids ((an.hp.take ids.length).map (Blk.mapB s)) ++ (an.hp.drop ids.length).map (Blk.mapB s) := rfl
 have hHOk : HOk F' w' βM (st.adopt ids an.hp).heap := by
  refine ⟨k6.fb, fun c k hc => ?_, fun p κ hp => ?_, fun p κ hp hF => ?_, fun c hc => ?_⟩
  . rw [hheap] at hc
    by_cases hcn : c < n
    . rw [List.getElem?_append_left (by rw [l1]; exact hcn), l2 c] at hc
      cases hi : idx ids c with
      | some j =>
       rw [hi] at hc
       obtain ⟨q1, q2⟩ := zce hi
       simp [List.getElem?_map, List.getElem?_take, q1] at hc
       obtain ⟨k0, hk0, rfl⟩ := hc
       have := hblk j k0 (k6.blk j k0 hk0)
       rwa [show bk ids n j = c by unfold bk; rw [if_pos q1]; exact q2] at this
      | none =>
       rw [hi] at hc
       have hold := h.heap.blk c k hc
       refine hold.mono hE hle ⟨?_, ?_⟩ (fun p s' hp => ?_)
       . show (match idx ids c with | some j => β'.b j | none => if c < n then β.b c else _) = _
         rw [hi]; simp only; rw [if_pos hcn]
       . show (match idx ids c with | some j => β'.v j | none => if c < n then β.v c else _) = _
         rw [hi]; simp only; rw [if_pos hcn]
       . have hso : (β.sub ids).o p = none := by
          cases hq : (β.sub ids).o p with
          | none => rfl
          | some κ =>
           obtain ⟨b, h1, h2⟩ := sub_o.1 hq
           rw [hp] at h1
           simp at h1
           rw [← h1.1, hi] at h2
           cases h2
         have hpl := h.heap.lt p _ hp
         have hbo : β'.o p = none := by
          cases hq : β'.o p with
          | none => rfl
          | some κ =>
           rcases k4 p κ hq with h1 | h1
           . exact absurd hso h1
           . omega
         refine ⟨?_, k1.block p hpl (fun hq => hq hso)⟩
         show (match β'.o p with | some (j, s) => some (bk ids n j, s) | none => match β.o p with | some (c, s) => (match idx ids c with | some _ => none | none => some (c, s)) | none => none) = _
         rw [hbo, hp]; simp only; rw [hi]
    . rw [List.getElem?_append_right (by rw [l1]; exact Nat.le_of_not_lt hcn), l1] at hc
      simp [List.getElem?_map, List.getElem?_drop] at hc
      obtain ⟨k0, hk0, rfl⟩ := hc
      have := hblk _ k0 (k6.blk _ k0 hk0)
      rwa [show bk ids n (ids.length + (c - st.heap.length)) = c by unfold bk; rw [if_neg (by omega)]; omega] at this
  . rcases ho p κ hp with ⟨j, s', h1, _⟩ | ⟨_, c, s', h1, _⟩
    . exact k6.lt p _ h1
    . exact Nat.lt_of_lt_of_le (h.heap.lt p _ h1) k1.size
  . rcases ho p κ hp with ⟨j, s', h1, _⟩ | ⟨_, c, s', h1, hi, _⟩
    . exact k6.sep p _ h1 hF
    . rcases k3 p hF with h2 | h2 | h2
      . exact h.heap.sep p _ h1 h2
      . obtain ⟨b, s2, q1, j, q2⟩ := hsub p h2
        rw [h1] at q1
        simp at q1
        rw [← q1.1, hi] at q2
        cases q2
      . have := h.heap.lt p _ h1; omega
  . rw [hheap]
    simp only [List.length_append, l1, List.length_map, List.length_drop]
    rcases hc with hc | ⟨j, hj, rfl⟩
    . have := h.heap.live c hc; omega
    . have hjl := k6.live j hj
      unfold bk
      by_cases h' : j < ids.length
      . rw [if_pos h']
        have := hlt (ids.getD j 0) (by simp [List.getD, h'])
        omega
      . rw [if_neg h']; omega
 refine ⟨F', βM, ?_, hmap 9 k7⟩
 refine h.heapTo (hp := (st.adopt ids an.hp).heap) hE hle (h.kept.trans k1 (fun _ h => h) (fun p hp => ?_)) (fun p hp => ?_) k2 (fun p κ hp => ?_) (fun b hb => ?_) ?_ hHOk
 . obtain ⟨b, s', h1, _⟩ := hsub p hp
   exact h.lo p _ h1
 . rcases k3 p hp with h1 | h1 | h1
   . exact h.fo p h1
   . obtain ⟨b, s', h2, _⟩ := hsub p h1
     exact .inr (h.lo p _ h2)
   . exact .inr (.inr (Nat.le_trans h.kept.size h1))
 . rcases ho p κ hp with ⟨j, s', h1, _⟩ | ⟨_, c, s', h1, _⟩
   . rcases k4 p _ h1 with h2 | h2
     . obtain ⟨b, s2, h3, _⟩ := hsub p h2
       exact h.lo p _ h3
     . exact .inr (Nat.le_trans h.kept.size h2)
   . exact h.lo p _ h1
 . rcases hb with hb | ⟨j, hj, rfl⟩
   . exact .inl hb
   . unfold bk
     rcases k8 j hj with h1 | h1
     . rw [if_pos h1.1]; exact .inl h1.2
     . rw [if_neg (by omega)]; exact .inr (by omega)
 . rw [hheap, List.length_append, l1]; omega
def zn7 (F : Nat -> Prop) (β : Gh) (p : Nat) : Prop := F p ∨ ∃ κ, β.o p = some κ
theorem zgz {f : AV -> Option AV} : ∀ {cs cs' : List AV}, zmG f cs = some cs' -> cs'.length = cs.length /\ ∀ j, j < cs.length -> f (cs.getD j .undef) = some (cs'.getD j .undef)
 | [], cs', h => by simp [zmG] at h; subst h; simp
 | c :: cs, cs', h => by
  simp only [zmG] at h
  split at h
  . rename_i y ys hy hys
    simp at h; subst h
    obtain ⟨h1, h2⟩ := zgz hys
    refine ⟨by simp [h1], fun j hj => ?_⟩
    cases j with
    | zero => simpa using hy
    | succ j => simpa using h2 j (by simpa using hj)
  . cases h
theorem zfe (hh : HOk F w β st.heap) : ∀ (n : Nat) {x x' : AV} {y : Value}, V F w β x y -> st.snap n x = some x' -> D (zn7 F β) w x' y
 | 0, x, x', y, _, hs => by simp [St.snap] at hs
 | n + 1, x, x', y, h, hs => by
  have hw : ∀ {x : AV} {y : Value}, V F w β x y -> zcT x -> D (zn7 F β) w x y := fun h hp => (h.toD hp).wide fun k hk => .inl hk
  have lst : ∀ {cs cs' : List AV} {Y : Nat -> Value}, (∀ j, j < cs.length -> V F w β (cs.getD j .undef) (Y j)) -> zmG (st.snap n) cs = some cs' -> cs'.length = cs.length /\ ∀ j, j < cs'.length -> D (zn7 F β) w (cs'.getD j .undef) (Y j) := fun hv hm => by
   obtain ⟨h1, h2⟩ := zgz hm
   exact ⟨h1, fun j hj => zfe hh n (hv j (by omega)) (h2 j (by omega))⟩
  simp only [St.snap] at hs
  split at hs
  . simp at hs; subst hs; exact hw h (.v _)
  . simp at hs; subst hs; exact hw h (.sl _ _)
  . simp at hs; subst hs; exact hw h (.op _ _)
  . simp at hs; subst hs; exact hw h (.clo _)
  . rename_i t xs i
    simp at hs; subst hs
    obtain ⟨b, o, Y, hi, rfl, hF, hb, hc, hd⟩ := zuP (hw h (.el _ _ _ _))
    exact .op _ _ b o Y hF hb hc hd
  . rename_i b
    obtain ⟨_, rfl, _⟩ := zdq h
    split at hs
    . rename_i e t cols xs hb
      simp at hs; subst hs
      have hk := hh.blk b _ hb
      exact zHs hk (fun k hk => .inl hk) (fun p s hp => .inr ⟨_, hp⟩)
    . rename_i t xs hb
      simp at hs; subst hs
      exact (show D F w (.sl t xs) (β.v b) from hh.blk b _ hb).wide fun k hk => .inl hk
    . cases hs
  . rename_i b
    obtain ⟨_, rfl⟩ := zgU h
    split at hs
    . rename_i e cs hb
      split at hs
      . rename_i t cs' ht hcs
        split at hs
        . rename_i x' hd
          simp at hs; subst hs
          obtain ⟨ys, T, g1, g2, g3, g4⟩ := hh.blk b _ hb
          obtain ⟨l1, l2⟩ := lst g4 hcs
          obtain ⟨e1, e3⟩ := za0 (F := zn7 F β) (w := w) (β := Gh.nil) hd
          refine .op t x' (β.b b) 0 (fun j => ys.getD j undef) (.inr ⟨_, g3⟩) (Array.getElem?_eq_some_iff.1 g1).1 (fun j hj => ?_) (fun j hj => e3 j _ (by omega) (l2 j (by omega)))
          have hj' : j < ys.size := by omega
          rw [Nat.zero_add, cell_of_row w (β.b b) j ys T (0, 0) g1]
          simp [Array.getD, hj']
        . cases hs
      . cases hs
    . rename_i t x' hb
      simp at hs; subst hs
      exact (show D F w (.op t (some x')) _ from hh.blk b _ hb).wide fun k hk => .inl hk
    . cases hs
  . split at hs
    . rename_i cs _ cs' hcs
      simp at hs; subst hs
      obtain ⟨ys, rfl, hl, hc⟩ := zln h
      obtain ⟨l1, l2⟩ := lst hc hcs
      exact .agg _ _ (by omega) l2
    . cases hs
  . split at hs
    . rename_i f fa fc _ _ a' c' ha hc'
      simp at hs; subst hs
      cases h with
      | fn _ _ _ ya yc hla hlc hva hvc =>
       obtain ⟨l1, l2⟩ := lst hva ha
       obtain ⟨l3, l4⟩ := lst hvc hc'
       exact .fn _ _ _ _ _ (by omega) (by omega) l2 l4
    . cases hs
  . split at hs
    . rename_i t x _ x'' hx
      simp at hs; subst hs
      cases h with
      | ifc _ _ _ h => exact .ifc _ _ _ (zfe hh n h hx)
    . cases hs
  . cases hs
theorem zAu {t : Ty} (h : t.flat = true) (x : t.T) : ∀ j, j < t.sz -> ∃ v, (t.enc x).getD j .undef = .v v := by
 cases t <;> first | (simp [Ty.flat] at h; done) | skip
 all_goals
  intro j hj
  have hj' := hj
  simp only [Ty.sz] at hj'
  repeat (first | (exfalso; omega) | (cases j with
   | zero => exact ⟨_, rfl⟩
   | succ j => ?_))
  all_goals (exfalso; omega)
theorem zvg (t : Ty) : t.leaves.length = t.sz := by cases t <;> rfl
theorem zoZ {cols : List (Nat × TypeId)} : ∀ {k : Nat} {l : List Ty}, ztK cols k l = true -> ∀ j, j < l.length -> zoY (zag cols (k + j)) (l.getD j .b) = true
 | _, [], _, j, hj => by simp at hj
 | k, x :: r, h, j, hj => by
  simp only [ztK] at h
  split at h
  . rename_i h1
    cases j with
    | zero => simpa using h1
    | succ j =>
     have := zoZ h j (by simpa using hj)
     rw [show k + 1 + j = k + (j + 1) by omega] at this
     simpa using this
  . cases h
theorem zJ8 {t : Ty} {x : t.T} {j : Nat} (h : zoY none (t.leaves.getD j .b) = true) (hj : j < t.sz) : ∃ v, (t.enc x).getD j .undef = .v v := by
 cases t <;> simp only [Ty.sz] at hj
 all_goals
  repeat (first | (exfalso; omega) | (cases j with
   | zero => first | exact ⟨_, rfl⟩ | (simp [Ty.leaves, zoY] at h; done)
   | succ j => ?_))
  all_goals (exfalso; omega)
theorem zFD {t : Ty} {x : t.T} {j : Nat} {e : TypeId} (h : zoY (some e) (t.leaves.getD j .b) = true) (hj : j < t.sz) {t3 : Ty} {ys : List t3.T} (hx : (t.enc x).getD j .undef = .sl t3 ys) : t3.flat = true := by
 cases t <;> simp only [Ty.sz] at hj
 all_goals
  repeat (first | (exfalso; omega) | (cases j with
   | zero => first | (cases hx; exact h) | (cases hx; done) | (simp [Ty.leaves, zoY] at h; done)
   | succ j => ?_))
  all_goals (exfalso; omega)
theorem zDW {F' : Nat -> Prop} {w' : World} {β' : Gh} {b : Nat} {k : Blk} (h : BlkOk F' w' β' b k) (hk : k.noF = true) : BlkOk F w' β' b k := by
 cases k with
 | cells e cs =>
  obtain ⟨ys, T, h1, h2, h3, h4⟩ := h
  refine ⟨ys, T, h1, h2, h3, fun j hj => zmJ 9 (h4 j hj) ?_⟩
  have := List.all_eq_true.1 (show cs.all (AV.noF 9) = true from hk) (cs[j]) (List.getElem_mem hj)
  simpa [List.getD, hj] using this
 | row e t cols hole xs =>
  obtain ⟨Vs, h1, h2, h3, h4⟩ := h
  refine ⟨Vs, h1, h2, h3, fun i j hi hj => ?_⟩
  have hcl := h4 i j hi hj
  have hf := zoZ (show ztK cols 0 t.leaves = true from hk) j (by rw [zvg]; exact hj)
  rw [Nat.zero_add] at hf
  unfold CellOk at hcl ⊢
  cases hc : zag cols j with
  | none =>
   rw [hc] at hcl hf
   obtain ⟨v, hv⟩ := zJ8 (x := nth xs i) hf hj
   simp only at hcl ⊢
   rw [hv] at hcl ⊢
   rw [V_v hcl]
   exact .v _
  | some e' =>
   rw [hc] at hcl hf
   refine ⟨hcl.1, hcl.2.imp id ?_⟩
   rintro ⟨t3, ys, Ws, q1, q2, q3, q4, q5⟩
   refine ⟨t3, ys, Ws, q1, q2, q3, q4, fun k m hk hm => ?_⟩
   obtain ⟨v, hv⟩ := zAu (zFD hf hj q1) (nth ys k) m hm
   have := q5 k m hk hm
   rw [hv] at this ⊢
   rw [V_v this]
   exact .v _
 | ro t xs => simp [Blk.noF] at hk
 | rob t x => simp [Blk.noF] at hk
 | dead => trivial
theorem zBZ {P : Program} {fv : AV} {args as : List AV} {n : FuncId} : target P fv args ≠ some (.a n, as) := fun h => by
 unfold target at h
 split at h
 . simp at h
 . split at h <;> simp at h
 . simp at h
 . split at h <;> simp at h
 . cases h
def Ent (P : Program) (F : Nat -> Prop) (w : World) (β : Gh) (y : Value) (vs : Array Value) (f : Cal) (as : List AV) : Prop :=
 match f with
 | .f n => zlk P n -> zzH P F w β y vs n as
 | .a n => zlk P n -> zzH P F w β y vs n as
 | .c x => V F w β x.out y /\ vs.size = as.length /\ ∀ j, j < as.length -> V F w β (as.getD j .undef) (vs.getD j undef)
theorem Ent.map {F1 : Nat -> Prop} {w1 : World} {β1 : Gh} {y : Value} {vs : Array Value} {f : Cal} {as as' : List AV} (h : Ent P F w β y vs f as) (hl : as'.length = as.length)
 (hm : ∀ Y : Nat -> Value, (∀ j, j < as.length -> V F w β (as.getD j .undef) (Y j)) -> ∀ j, j < as'.length -> V F1 w1 β1 (as'.getD j .undef) (Y j)) (hp : ∀ {x : AV} {y : Value}, D F w x y -> D F1 w1 x y) : Ent P F1 w1 β1 y vs f as' := by
 cases f with
 | f n =>
  intro hn
  obtain ⟨us, h1, h2, h3⟩ := h hn
  exact ⟨us, h1, h2.trans hl.symm, hm _ h3⟩
 | a n =>
  intro hn
  obtain ⟨us, h1, h2, h3⟩ := h hn
  exact ⟨us, h1, h2.trans hl.symm, hm _ h3⟩
 | c x =>
  obtain ⟨h1, h2, h3⟩ := h
  exact ⟨(hp (h1.toD (ztS x))).ofD, h2.trans hl.symm, hm (fun j => vs.getD j undef) h3⟩
theorem Ent.enter {C : FuncId -> Array Value -> World -> (Ending -> World -> Prop) -> Prop} {y : Value} {vs : Array Value} {f : Cal} {as : List AV} {hp : List Blk} {an : zY} (h : Ent P F w β y vs f as) (ho : zIo C P GL f as hp an) :
 ∃ (n : FuncId) (us : List Value) (as' : List AV), (∀ w' : World, (do let d ← Deferred.ofValue y vs; invoke d.target d.args : Sem Next).run P w' = .ok (.enter n us.toArray) w') /\ us.length = as'.length /\
  (∀ j, j < as'.length -> V F w β (as'.getD j .undef) (us.getD j undef)) /\ zsT C GL n as' hp an := by
 cases f with
 | f n =>
  obtain ⟨h1, h2⟩ := ho
  obtain ⟨us, g1, g2, g3⟩ := h h1
  exact ⟨n, us, as, g1, g2, g3, h2⟩
 | a n =>
  obtain ⟨h1, h2⟩ := ho
  obtain ⟨us, g1, g2, g3⟩ := h h1
  exact ⟨n, us, as, g1, g2, g3, h2⟩
 | c x =>
  obtain ⟨n, as', h1, h2, h3⟩ := ho
  obtain ⟨k1, k2, k3⟩ := h
  obtain ⟨us, g1, g2, g3⟩ := zkW k1 k2 k3 h1 h2
  exact ⟨n, us, as', g1, g2, g3, h3⟩
theorem znW {fv : AV} {y : Value} {vs : Array Value} {args as : List AV} {f : Cal} (hf : V F w β fv y) (hl : vs.size = args.length) (hv : ∀ j, j < args.length -> V F w β (args.getD j .undef) (vs.getD j undef)) (ht : target P fv args = some (f, as)) : Ent P F w β y vs f as := by
 cases f with
 | f n => exact fun hn => zkW hf hl hv ht hn
 | a n => exact absurd ht zBZ
 | c x =>
  obtain ⟨rfl, rfl⟩ := zB0 ht
  cases hf with
  | clo _ _ h => exact ⟨h, hl, hv⟩
theorem GlOk.imp {F' : Nat -> Prop} (h : GlOk GL F w) (hs : ∀ p, F p -> F' p) : GlOk GL F' w := fun g => (h g).wide hs
def zuL (C : FuncId -> Array Value -> World -> (Ending -> World -> Prop) -> Prop) (P : Program) {α : Type} (B : Bs) (st : St) (a : Act) (w : World) (y : Value) (vs : Array Value) (k : AV -> St -> Option α) (r : α) : Prop :=
 ∃ (n : FuncId) (us : List Value), (∀ w' : World, (do let d ← Deferred.ofValue y vs; invoke d.target d.args : Sem Next).run P w' = .ok (.enter n us.toArray) w') /\
  C n us.toArray w fun e w' => ∃ z, e = .returned z /\ ∃ F' β' x st', Rel B F' β' st' a w' /\ Al st st' /\ st'.env = st.env /\ st'.df = st.df /\ V F' w' β' x z /\ k x st' = some r
theorem zsW (st : St) (ids : List Nat) (hp : List Blk) (hn : ids.Nodup) (hlt : ∀ b, b ∈ ids -> b < st.heap.length) (hk : ids.length <= hp.length) : Al st (st.adopt ids hp) := by
 refine ⟨rfl, rfl, ?_⟩
 obtain ⟨l1, _⟩ := zhq ids ((hp.take ids.length).map (Blk.mapB (zkX ids st.heap.length))) st.heap hn (by simp; omega) hlt
 show st.heap.length <= (zfd st.heap ids _ ++ _).length
 rw [List.length_append, l1]
 omega
theorem zgX {C : FuncId -> Array Value -> World -> (Ending -> World -> Prop) -> Prop} (hC : ∀ {f args w R R'}, C f args w R -> (∀ e w', R e w' -> R' e w') -> C f args w R') {α : Type} (hG : zqj C P GL G) (h : Rel B F β st a w) (hgl : st.gl = GL) {f : Cal} {as : List AV} {k : AV -> St -> Option α} {z : Option α} {r : α} (hr : evCall1 G st f as k z = some r) {y : Value} {vs : Array Value} (he : Ent P F w β y vs f as) : zuL C P B st a w y vs k r ∨ z = some r := by
 unfold evCall1 at hr
 have hglk : GlOk GL F w := fun g => by rw [← hgl]; exact h.gl g
 split at hr
 . rename_i c rv hp hq
   cases c with
   | false => exact .inr hr
   | true =>
   rw [cnT] at hr
   refine .inl ?_
   split at hq
   . rename_i as1 has
     split at hq
     . rename_i c' r' hp' hg
       split at hq
       . rename_i hno
         simp at hq; obtain ⟨rfl, rfl, rfl⟩ := hq
         simp only [Bool.and_eq_true, List.all_eq_true] at hno
         obtain ⟨m1, m2⟩ := zgz has
         have hent : Ent P (zn7 F β) w Gh.nil y vs f as1 := he.map m1 (fun Y hY j hj => zfe h.heap 9 (hY j (by omega)) (m2 j (by omega))) (fun hd => hd.wide fun p hp => .inl hp)
         obtain ⟨n, us, as', e1, e2, e3, e4⟩ := hent.enter (hG _ _ _ _ _ _ hg rfl)
         refine ⟨n, us, e1, ?_⟩
         have hH : HOk (zn7 F β) w Gh.nil [] := ⟨fun p hp => by
          rcases hp with hp | ⟨κ, hp⟩
          . exact h.heap.fb p hp
          . exact h.heap.lt p κ hp, fun b k hb => by simp at hb, fun p κ hp => by simp [Gh.nil] at hp, fun p κ hp => by simp [Gh.nil] at hp, fun b hb => hb.elim⟩
         refine hC (e4 (zn7 F β) w Gh.nil us hH (hglk.imp fun p hp => .inl hp) e2 e3) fun e w' ⟨z, hz, F', β', k1, k2, k3, k4, k5, k8, k6, k7⟩ => ⟨z, hz, ?_⟩
         have hF'' : ∀ p, F p -> p < w'.heap.size := fun p hp => Nat.lt_of_lt_of_le (h.heap.fb p hp) k1.size
         have haft : Aft F w (β.sub []) 0 ⟨r', hp'⟩ z w' := by
          have hs : ∀ p, (β.sub []).o p = none := fun p => by
           cases hq : (β.sub []).o p with
           | none => rfl
           | some κ => obtain ⟨b, _, h2⟩ := sub_o.1 hq; simp [idx] at h2
          refine ⟨F, β', ⟨k1.os, k1.tape, k1.output, k1.size, fun p hp _ => k1.block p hp (fun h => h rfl)⟩, fun _ h => h, fun p hp => .inl hp, fun p κ hp => ?_, fun b hb => absurd hb.1 (Nat.not_lt_zero _), fun _ _ => .inr (Nat.zero_le _), ⟨hF'', fun b kb hb => ?_, k6.lt, fun p κ hp hF => ?_, k6.live⟩, zmJ 9 k7 hno.1⟩
          . rcases k4 p κ hp with h1 | h1
            . exact absurd rfl h1
            . exact .inr h1
          . exact zDW (k6.blk b kb hb) (hno.2 kb (List.mem_of_getElem? hb))
          . exact k6.sep p κ hp (k2 p (.inl hF))
         obtain ⟨F2, β2, q1, q2⟩ := h.adopt (ids := []) List.nodup_nil (fun b hb => by cases hb) (Nat.zero_le _) haft
         exact ⟨F2, β2, _, _, q1, zsW st [] hp' List.nodup_nil (fun b hb => by cases hb) (Nat.zero_le _), rfl, rfl, q2, hr⟩
       . cases hq
     . cases hq
   . cases hq
 . have pass : ∀ (as2 : List AV) (st2 : St) (F1 : Nat -> Prop) (β1 : Gh), Frz B F β st a w F1 β1 st2 -> as2.length = as.length ->
    (∀ Y : Nat -> Value, (∀ j, j < as.length -> V F w β (as.getD j .undef) (Y j)) -> ∀ j, j < as.length -> V F1 w β1 (as2.getD j .undef) (Y j)) ->
    evCall1.evPass G st2 (zc4 st2.heap 4000 [] (zbB as2)) f as2 k z = some r -> zuL C P B st a w y vs k r ∨ z = some r := fun as2 st2 F1 β1 z1 zl zd hr => by
    unfold evCall1.evPass at hr
    generalize hids : zc4 st2.heap 4000 [] (zbB as2) = ids at hr
    split at hr
    . rename_i c rv hp hok hg
      split at hr
      . rename_i hle
        cases c with
        | false => exact .inr hr
        | true =>
        rw [cnT] at hr
        refine .inl ?_
        simp only [Bool.and_eq_true, List.all_eq_true] at hok
        have hn := nodupB_iff.1 hok.1
        have hlt : ∀ b, b ∈ ids -> b < st2.heap.length := fun b hb => by simpa using hok.2 b hb
        have hk := Nat.le_of_ble_eq_true hle
        have hent : Ent P F1 w (β1.sub ids) y vs f (as2.map (AV.mapB (idx ids) 9)) := he.map (by simpa using zl) (fun Y hY j hj => by
         have hj' : j < as2.length := by simpa using hj
         exact zvL (fun j hj => zd Y hY j (by omega)) 9 j (by simpa [zl] using hj)) (fun hd => hd.wide z1.sub)
        obtain ⟨n, us, as', e1, e2, e3, e4⟩ := hent.enter (hG _ _ _ _ _ _ hg rfl)
        refine ⟨n, us, e1, ?_⟩
        refine hC (e4 F1 w (β1.sub ids) us (z1.rel.heap.sub hn) (fun g => (hglk g).wide z1.sub) e2 e3) fun e w' ⟨z, hz, ha⟩ => ⟨z, hz, ?_⟩
        rw [show (zbI st2.heap ids).length = ids.length by simp [zbI]] at ha
        obtain ⟨F2, β2, q1, q2⟩ := z1.rel.adopt hn hlt hk ha
        exact ⟨F2, β2, _, _, q1, z1.al.trans (zsW st2 ids hp hn hlt hk), z1.env, z1.df, q2, hr⟩
      . cases hr
    . cases hr
   split at hr
   . exact pass as st F β (Frz.refl h) rfl (fun Y hY => hY) hr
   . split at hr
     . rename_i as2 st2 hfz
       obtain ⟨F1, β1, z1, zl, zd⟩ := zoa h hfz
       exact pass as2 st2 F1 β1 z1 zl zd hr
     . cases hr
theorem ze4 {C : FuncId -> Array Value -> World -> (Ending -> World -> Prop) -> Prop} (hC : ∀ {f args w R R'}, C f args w R -> (∀ e w', R e w' -> R' e w') -> C f args w R') {α : Type} (hG : zqj C P GL G) (h : Rel B F β st a w) (hgl : st.gl = GL) {f : Cal} {as : List AV} {k : AV -> St -> Option α} {r : α} (hr : zdY G st f as k = some r) {y : Value} {vs : Array Value} (he : Ent P F w β y vs f as) : zuL C P B st a w y vs k r := by
 unfold zdY at hr
 rcases zgX (C := C) (fun h1 h2 => hC h1 h2) hG h hgl hr he with h1 | h1
 . exact h1
 . split at h1
   . rename_i f' hf
     cases f with
     | f n =>
      simp only [zHr] at hf
      split at hf
      . cases hf
        rcases zgX (C := C) (fun h1 h2 => hC h1 h2) hG h hgl h1 (f := .a n) he with h2 | h2
        . exact h2
        . cases h2
      . cases hf
     | a n => cases hf
     | c x => cases hf
   . cases h1
theorem zvi {iv : AV} {y : Value} {vs : Array Value} {args : List AV} {t : TypeId} {x : AV} {name : String} {f : FuncId} (hf : V F w β iv y) (hi : iv = .ifc t x) (hl : vs.size = args.length) (hv : ∀ j, j < args.length -> V F w β (args.getD j .undef) (vs.getD j undef)) (hm : zcP P t name = some f) : Ent P F w β (.func (.method name) #[y] #[]) vs (.f f) (x :: args) := by
 subst hi
 exact zkz hf hl hv hm
end
section
variable {P : Program} {GL : List AV} {G : Gam} {B : Bs} {F : Nat -> Prop} {β : Gh} {st : St} {a : Act} {w : World}
theorem zcb (st : St) (hp : List Blk) (h : st.heap.length <= hp.length) : Al st { st with heap := hp } := ⟨rfl, rfl, h⟩
theorem zNK (st : St) (l : List (FuncId × List AV)) : Al st { st with df := l } := ⟨rfl, rfl, Nat.le_refl _⟩
theorem zQN {F' : Nat -> Prop} {w' : World} {β' : Gh} {st' : St} (h : Rel B F' β' st' a w') (d : Option Nat) (y : Value) : Rel B F' β' (st'.put d .undef) (a.put d y) w' := h.put d (.undef y)
theorem ze5 {α : Type} (hG : GOk P GL G) (h : Rel B F β st a w) (hgl : st.gl = GL) {o : Oper} {k : St -> Option α} {r : α} (hr : zjq P G st o k = some r) {next : Act -> World -> Prop} {Q : Exit -> Act -> World -> Prop}
 (hk : ∀ st' a' w' F' β', Rel B F' β' st' a' w' -> Al st st' -> (ze8 o = false -> ∃ y, a' = a.put o.dst y) -> k st' = some r -> next a' w') : o.wp P a w next Q := by
 have val : ∀ {st' : St} {w' : World} {F' : Nat -> Prop} {β' : Gh} {y : Value}, Rel B F' β' st' (a.put o.dst y) w' -> Al st st' -> k st' = some r -> next (a.put o.dst y) w' := fun hR hA hkk => hk _ _ _ _ _ hR hA (fun _ => ⟨_, rfl⟩) hkk
 have telling : evT P st o (fun x => k (st.put o.dst x)) = some r -> o.wp P a w next Q := fun hr => by
  obtain ⟨x, ⟨y, hy, hrun⟩, hkx⟩ := zoN h hr
  exact zaA hrun (val (h.put o.dst hy) (zbh _ _ _) hkx)
 unfold zjq at hr
 split at hr
 . rename_i t ad hop
   split at hr
   . rename_i b sz i off hb
     unfold zjr at hr
     split at hr
     . split at hr
       . exact telling hr
       . split at hr
         . rename_i e ty cols hole xs hrw
           split at hr
           . rename_i hp as hs ht
             split at hr
             . rename_i x hx
               cases hfr : zcF i off (P.cellsOf t) hole cols with
               | false => rw [hfr] at hr; cases hr
               | true =>
               rw [hfr] at hr
               exact zvM h hop hb hrw (Nat.eq_of_beq_eq_true hs) ht hx hfr fun u w' β' hR hle => val hR (Al.trans (zcb _ _ hle) (zbh _ _ _)) hr
             . cases hr
           . cases hr
         . cases hr
     . exact telling hr
   . exact telling hr
 . rename_i t x hop
   split at hr
   . rename_i cs hcs
     obtain ⟨h1, h2⟩ := zgp (h.ev x) hcs
     have hR := h.alloc (e := t) t h1 (fun j hj => (h2 j hj).1) o.dst
     exact zaA (w' := w.alloc (.cells (a.eval x).cells t)) (by simp [execOp, hop, Instr.box, newVar, newRow, newObj, Sem.run, Sem.run_bind]) (val hR (Al.trans (zcb _ _ (by simp)) (zbh _ _ _)) hr)
   . cases hr
 . rename_i t hop
   split at hr
   . rename_i z hz
     obtain ⟨i, zv, hi, hzv, rfl⟩ := zcE hz
     have hR := h.alloc (e := t) (cs := zv.cells.toList.map AV.v) (ys := zv.cells) t (by simp) (fun j hj => (by
      have hj' : j < zv.cells.size := by simpa using hj
      simp only [List.getD, List.getElem?_map, Array.getElem?_toList, hj', Array.getElem?_eq_getElem, Option.map_some, Option.getD_some, Array.getD, dite_true]
      exact .v _)) o.dst
     exact zaA (w' := w.alloc (.cells zv.cells t)) (by simp [execOp, hop, Instr.alloc, zeroValue, typeInfo, hi, hzv, newVar, newRow, newObj, Sem.run, Sem.run_bind, run_program]) (val hR (Al.trans (zcb _ _ (by simp)) (zbh _ _ _)) hr)
   . cases hr
 . rename_i t ad x hop
   split at hr
   . rename_i b off x0 xs hb hxs
     split at hr
     . rename_i e cs hcs hsz
       split at hr
       . rename_i cs' hw
         have hv := h.ev ad; rw [hb] at hv
         obtain ⟨hbm, hp⟩ := zgU hv
         obtain ⟨g1, g2⟩ := zgp (h.ev x) hxs
         have hsz' : (x0 :: xs).length = P.cellsOf t := Nat.eq_of_beq_eq_true hsz
         obtain ⟨i, hi, his⟩ := zcH hsz'.symm (by simp)
         obtain ⟨w', hrun, hR⟩ := h.store hcs hw (by simp) (vs := (a.eval x).cells.toList) (by simpa using g1) (fun j hj => by rw [za7]; exact (g2 j hj).1) (fun v hv => by
          obtain ⟨j, hj, rfl⟩ := List.getElem_of_mem hv
          have hj' : j < (a.eval x).cells.size := by simpa using hj
          have := (g2 j (by omega)).2
          simpa [Array.getD, hj'] using this) P
         have hrun' : (execOp a.eval o).run P w = .ok .skip w' := by
          simp [execOp, hop, hp, Instr.storeAt, Instr.sureAddr, storeVar, Sem.run_bind, zat hi w, his, g1, hrun]
         unfold Oper.wp
         rw [hrun', Oper.upon_skip]
         exact val (zQN hR o.dst undef) (Al.trans (zcb _ _ (by simp)) (zbh _ _ _)) hr
       . cases hr
     . cases hr
   . rename_i b sz i off x0 xs hb hxs
     split at hr
     . rename_i e ty cols hole ys hrw hsz
       unfold zfS at hr
       have plain : (match (zmI cols off (x0 :: xs).length || (zo2 cols off (x0 :: xs) && hole.isEmpty)) && Nat.beq ty.sz sz, st.frzs (x0 :: xs) with
        | true, some (zs, st1) => match st1.heap[b]?, wr (ty.enc (nth ys i)) off zs with
         | some (.row _ _ _ _ _), some cs' => match ty.dec cs' with
          | some y => k (({ st1 with heap := st1.heap.set b (.row e ty cols hole (ys.set i y)) } : St).put o.dst .undef)
          | none => none
         | _, _ => none
        | _, _ => none) = some r -> o.wp P a w next Q := fun hr => by
        split at hr
        . rename_i zs st1 hs hz
          split at hr
          . rename_i e2 t2 cols2 hole2 ys2 cs' hr1 hw
            split at hr
            . rename_i y hd
              simp only [Bool.and_eq_true, Bool.or_eq_true, List.isEmpty_iff] at hs
              exact zof h hop hb (by simp) hxs hrw (Nat.eq_of_beq_eq_true hsz) (Nat.eq_of_beq_eq_true hs.2) hs.1 hz hr1 hw hd fun u w' F' β' hR hA => val hR (hA.trans (Al.trans (zcb _ _ (by simp)) (zbh _ _ _))) hr
            . cases hr
          . cases hr
        . cases hr
       split at hr
       . rename_i n e' hc
         split at hr
         . rename_i e2 t' zs hn hs
           split at hr
           . rename_i cs' he hw
             split at hr
             . rename_i y hd
               have h3 := Nat.eq_of_beq_eq_true he
               subst h3
               have hnb : n ≠ b := fun e => by
                subst e
                rw [hrw] at hn
                simp only [Option.some.injEq, Blk.row.injEq] at hn
                obtain ⟨_, _, hcn, _⟩ := hn
                rw [hcn] at hc
                cases hc
               split at hr
               . rename_i hj
                 exact zgk h hop hb hxs (hole' := hole) (fun _ _ _ h => h) (fun p hp => ⟨hp, fun n' hpp => zld hj i n' (hpp ▸ hp)⟩) hrw hn hnb hc (Nat.eq_of_beq_eq_true hsz) (Nat.eq_of_beq_eq_true hs) hw hd fun u w' β' hR => val hR (Al.trans (zcb _ _ (by simp)) (zbh _ _ _)) hr
               . rename_i hj
                 split at hr
                 . rename_i i' j' n'
                   cases hii : Nat.beq i i' with
                   | false => rw [hii] at hr; cases hr
                   | true =>
                    rw [hii] at hr
                    have h1 := Nat.eq_of_beq_eq_true hii
                    subst h1
                    have h2 : j' = off := by
                     simp only [noS] at hj
                     split at hj
                     . rename_i hq; exact Nat.eq_of_beq_eq_true hq
                     . cases hj
                    subst h2
                    exact zgk h hop hb hxs (hole' := []) (fun i2 j2 hne hm => by have := zy2 hm; omega) (fun p hp => by cases hp) hrw hn hnb hc (Nat.eq_of_beq_eq_true hsz) (Nat.eq_of_beq_eq_true hs) hw hd fun u w' β' hR => val hR (Al.trans (zcb _ _ (by simp)) (zbh _ _ _)) hr
                 . cases hr
             . cases hr
           . cases hr
         . cases hr
       . exact plain hr
     . cases hr
   . rename_i b o0 ty m i d x0 xs hb hxs
     split at hr
     . rename_i e cs hcs hsz
       unfold zfT at hr
       split at hr
       . rename_i ys zs st1 hys hz
         split at hr
         . rename_i e2 c2 cs' hr1 hw
           split at hr
           . rename_i y hd
             split at hr
             . rename_i cs2 hw2
               exact zsd h hop hb (by simp) hxs hcs (Nat.eq_of_beq_eq_true hsz) hys hz hr1 hw hd hw2 fun u w' F' β' hR hA => val hR (hA.trans (Al.trans (zcb _ _ (by simp)) (zbh _ _ _))) hr
             . cases hr
           . cases hr
         . cases hr
       . cases hr
     . cases hr
   . cases hr
 . rename_i t l c hop
   split at hr
   . rename_i e n m hu hl hc
     split at hr
     . rename_i ty z i hty hz hi
       split at hr
       . rename_i x bt hx hs hb
         cases hcd : (decide (n = m) && decide (0 <= n) && leB (n.toNat * i.bytes) 140737488355328) with
         | false => rw [hcd] at hr; cases hr
         | true =>
          rw [hcd] at hr
          simp only [Bool.and_eq_true, decide_eq_true_eq, leB, Nat.ble_eq] at hcd
          obtain ⟨⟨rfl, h0⟩, hle⟩ := hcd
          simp only [Bool.and_eq_true] at hs
          exact zvh h hop hu hl hc hz hi hx (Nat.eq_of_beq_eq_true hs.1) (by omega) h0 hle hs.2 fun u w' β' hR => val hR (zeL _ _ _) hr
       . cases hr
     . cases hr
   . cases hr
 . rename_i t len parts hop
   split at hr
   . rename_i e hu
     split at hr
     . rename_i ty z i hty hz hi
       split at hr
       . rename_i cs hs hle hf
         split at hr
         . rename_i zs st1 hzr
           split at hr
           . rename_i xs hd
             simp only [Bool.and_eq_true] at hs
             exact zyR h hop hu hz hi (Nat.eq_of_beq_eq_true hs.1) (Nat.le_of_ble_eq_true hle) hf hzr hd (Nat.eq_of_beq_eq_true hs.2) fun u w' F' β' hR hA => val hR (hA.trans (zeL _ _ _)) hr
           . cases hr
         . cases hr
       . cases hr
     . cases hr
   . cases hr
 . rename_i args tys hop
   split at hr
   . rename_i s x t t' hx ht
     split at hr
     . rename_i e hu
       split at hr
       . rename_i ty z i hty hz hi
         split at hr
         . rename_i bt xs st1 htt hs hb h1
           split at hr
           . rename_i hdp
             rw [hdp] at h1
             split at hr
             . rename_i ys h2
               cases hcd : leB ((xs.length + ys.length) * i.bytes) 140737488355328 with
               | false => rw [hcd] at hr; cases hr
               | true =>
                rw [hcd] at hr
                simp only [leB, Nat.ble_eq] at hcd
                simp only [Bool.and_eq_true] at hs
                have e1 : args = #[s, x] := by apply Array.ext'; simpa using hx
                have e2 : tys = #[t, t'] := by apply Array.ext'; simpa using ht
                have e3 : t = t' := Nat.eq_of_beq_eq_true htt
                subst e1 e2 e3
                obtain ⟨i', zv, hi', hzv, rfl⟩ := zcE hz
                obtain rfl : i = i' := by rw [hi] at hi'; simpa using hi'
                exact zyB h hop hu hi (Nat.eq_of_beq_eq_true hs.1) (by omega) hzv (by simpa using Nat.eq_of_beq_eq_true hs.2) h1 h2 hcd fun u w' β' hR hA => val hR (hA.trans (zeL _ _ _)) hr
             . cases hr
           . rename_i c cols hdp
             rw [hdp] at h1
             split at hr
             . rename_i ys st2 h2
               cases hcd : leB ((xs.length + ys.length) * i.bytes) 140737488355328 with
               | false => rw [hcd] at hr; cases hr
               | true =>
                rw [hcd] at hr
                simp only [leB, Nat.ble_eq] at hcd
                simp only [Bool.and_eq_true] at hs
                have e1 : args = #[s, x] := by apply Array.ext'; simpa using hx
                have e2 : tys = #[t, t'] := by apply Array.ext'; simpa using ht
                have e3 : t = t' := Nat.eq_of_beq_eq_true htt
                subst e1 e2 e3
                obtain ⟨i', zv, hi', hzv, rfl⟩ := zcE hz
                obtain rfl : i = i' := by rw [hi] at hi'; simpa using hi'
                exact zuQ h hop hu hi (Nat.eq_of_beq_eq_true hs.1) (by omega) hzv (by simpa using Nat.eq_of_beq_eq_true hs.2) h1 h2 hcd fun u w' β' hR hA => val hR (hA.trans (zeL _ _ _)) hr
             . cases hr
         . rename_i bt xs st1 htt hs hb h1
           split at hr
           . rename_i kn kq n x0 hu' hxe hdp hx0
             rw [hdp] at h1
             cases hcd : (decide (0 < n) && leB ((xs.length + n.toNat) * i.bytes) 140737488355328) with
             | false => rw [hcd] at hr; cases hr
             | true =>
              rw [hcd] at hr
              simp only [Bool.and_eq_true, decide_eq_true_eq, leB, Nat.ble_eq] at hcd
              simp only [Bool.and_eq_true] at hs
              have e1 : args = #[s, x] := by apply Array.ext'; simpa using hx
              have e2 : tys = #[t, t'] := by apply Array.ext'; simpa using ht
              subst e1 e2
              exact zzS h hop hu hu' hz hi hx0 (Nat.eq_of_beq_eq_true hs.1) (by omega) h1 hxe hcd.1 hcd.2 fun u w' β' hR hA => val hR (hA.trans (zeL _ _ _)) hr
           . cases hr
         . cases hr
       . cases hr
     . cases hr
   . cases hr
 . rename_i t x lo hi hop
   split at hr
   . rename_i b hx
     split at hr
     . rename_i ty xs st1 e hz hu
       split at hr
       . rename_i l hh hlo hhi hs
         cases hin : inS l hh xs.length with
         | false => rw [hin] at hr; cases hr
         | true =>
          rw [hin] at hr
          obtain ⟨F1, β1, z1, zd⟩ := zdC h hz
          have hv := h.ev x; rw [hx] at hv
          have hd := zd _ hv
          obtain ⟨y, hy, hrun⟩ := zkG (P := P) hu (Nat.eq_of_beq_eq_true hs) hd (zb4 h hlo) (zb4 h hhi) hin
          exact zaA (w' := w) (y := y) (by simp [execOp, hop, Sem.run_bind, hrun w]) (val (z1.rel.put o.dst hy) (z1.al.trans (zbh _ _ _)) hr)
       . cases hr
     . cases hr
   . exact telling hr
 . rename_i c args tys hop
   split at hr
   . rename_i f as ht
     have hent : Ent P F w β (a.eval c) (args.map a.eval) f as := znW (h.ev c) (by simp) (fun j hj => by
      have := zeo h args.toList j hj
      have e : (args.map a.eval).getD j undef = (args.toList.map a.eval).getD j undef := by rw [← za7, Array.toList_map]
      rw [e]; exact this) ht
     obtain ⟨n, us, e1, e2⟩ := ze4 (C := Calls P) (fun h hr => h.mono hr) hG h hgl hr hent
     unfold Oper.wp
     have hrun : (execOp a.eval o).run P w = .ok (.enter n us.toArray) w := by
      have := e1 w
      simp only [Sem.run_bind] at this
      simp only [execOp, hop, resolve, Sem.run_bind]
      exact this
     rw [hrun, Oper.upon_enter]
     refine e2.mono fun e w' ⟨z, hz, F', β', x, st', hR, hA, _, _, hv, hkk⟩ => ?_
     subst hz
     exact val (hR.put o.dst hv) (hA.trans (zbh _ _ _)) hkk
   . cases hr
 . rename_i x m args tys hop
   split at hr
   . rename_i t y hx
     split at hr
     . rename_i f hm
       have hent : Ent P F w β (.func (.method m) #[a.eval x] #[]) (args.map a.eval) (.f f) (y :: args.toList.map st.ev) := zvi (h.ev x) hx (by simp) (fun j hj => by
        have := zeo h args.toList j hj
        have e : (args.map a.eval).getD j undef = (args.toList.map a.eval).getD j undef := by rw [← za7, Array.toList_map]
        rw [e]; exact this) hm
       obtain ⟨n, us, e1, e2⟩ := ze4 (C := Calls P) (fun h hr => h.mono hr) hG h hgl hr hent
       unfold Oper.wp
       have hrun : (execOp a.eval o).run P w = .ok (.enter n us.toArray) w := by
        have := e1 w
        simp only [Deferred.ofValue, Sem.run_bind, Sem.run_pure, Result.andThen_ok, Array.append_empty] at this
        simp only [execOp, hop, resolve, Sem.run_bind, Sem.run_pure, Result.andThen_ok]
        exact this
       rw [hrun, Oper.upon_enter]
       refine e2.mono fun e w' ⟨z, hz, F', β', x, st', hR, hA, _, _, hv, hkk⟩ => ?_
       subst hz
       exact val (hR.put o.dst hv) (hA.trans (zbh _ _ _)) hkk
     . cases hr
   . cases hr
 . rename_i x xt t hop
   split at hr
   . rename_i t' y fs hx hu
     have hv := h.ev x; rw [hx] at hv
     obtain ⟨z, hz, hzv⟩ : ∃ z, a.eval x = .iface t' z /\ V F w β y z := by
      generalize a.eval x = q at hv
      cases hv with
      | ifc _ _ z hz => exact ⟨z, rfl, hz⟩
     split at hr
     . rename_i ht
       have ht := Nat.eq_of_beq_eq_true ht
       subst ht
       refine zaA (w' := w) (y := .tuple #[z, .bool true]) ?_ (val (h.put o.dst (.tup _ _ (by simp) fun j hj => ?_)) (zbh _ _ _) hr)
       . simp [execOp, hop, hz, Instr.typeAssert, Sem.run_bind, run_underlying hu w]
       . match j, hj with
         | 0, _ => simpa using hzv
         | 1, _ => exact .v _
     . rename_i ht
       have hne : ¬ t' = t := fun e => by subst e; simp at ht
       split at hr
       . rename_i i hi
         split at hr
         . rename_i zc hzz
           refine zaA (w' := w) (y := .tuple #[.agg zc, .bool false]) ?_ (val (h.put o.dst (.tup _ _ (by simp) fun j hj => ?_)) (zbh _ _ _) hr)
           . simp [execOp, hop, hz, Instr.typeAssert, Sem.run_bind, run_underlying hu w, hne, zeroValue, typeInfo, hi, hzz, run_program]
           . match j, hj with
             | 0, _ =>
              refine .agg _ _ (by simp) fun j hj => ?_
              have hj' : j < zc.size := by simpa using hj
              simp only [List.getD, List.getElem?_map, Array.getElem?_toList, hj', Array.getElem?_eq_getElem, Option.map_some, Option.getD_some, Array.getD, dite_true]
              exact .v _
             | 1, _ => exact .v _
         . cases hr
       . cases hr
   . cases hr
 . rename_i c args tys hop
   split at hr
   . rename_i f as fn fi ca ht hfe
     have hv := h.ev c; rw [hfe] at hv ht
     have hfun : ∃ ya yc, a.eval c = .func (.func fn) ya yc /\ ya.size = fi.length /\ yc.size = ca.length /\ (∀ j, j < fi.length -> V F w β (fi.getD j .undef) (ya.getD j undef)) /\ (∀ j, j < ca.length -> V F w β (ca.getD j .undef) (yc.getD j undef)) := by
      generalize a.eval c = q at hv
      cases hv
      exact ⟨_, _, rfl, by assumption, by assumption, by assumption, by assumption⟩
     obtain ⟨ya, yc, hy, g1, g2, g3, g4⟩ := hfun
     simp [target] at ht
     obtain ⟨rfl, rfl⟩ := ht
     unfold Oper.wp
     have hrun : (execOp a.eval o).run P w = .ok (.defer ⟨.fn (.func fn) yc, ya ++ args.map a.eval⟩) w := by
      simp [execOp, hop, resolve, hy, Deferred.ofValue, Sem.run_bind]
     rw [hrun, Oper.upon_defer]
     have hR : Rel B F β ({ st with df := (fn, fi ++ (List.map st.ev args.toList ++ ca)) :: st.df } : St) { a with defers := ⟨.fn (.func fn) yc, ya ++ args.map a.eval⟩ :: a.defers } w := by
      refine ⟨h.len, h.env, h.gl, ?_, h.kept, h.fo, h.fi, h.lo, h.per, h.bn, h.nw, h.hn, h.heap⟩
      refine ⟨⟨yc, rfl, by simp [g1, g2], ?_⟩, h.df⟩
      have e : ∀ j, ((ya ++ args.map a.eval) ++ yc).getD j undef = (ya.toList ++ ((args.toList.map a.eval) ++ yc.toList)).getD j undef := fun j => by rw [← za7]; congr 1; simp
      intro j hj
      rw [e]
      exact zgq (by simpa using g1) (fun j hj => by rw [za7]; exact g3 j hj) (zgq (by simp) (fun j hj => zeo h args.toList j hj) (fun j hj => by rw [za7]; exact g4 j hj)) j (by simpa using hj)
     exact hk _ _ _ _ _ (hR.put o.dst (.undef _)) (Al.trans (zNK _ _) (zbh _ _ _)) (fun hd => by simp [ze8, hop] at hd) hr
   . cases hr
 . rename_i args tys hop
   split at hr
   . rename_i d s t t' hx ht
     have e1 : args = #[d, s] := by apply Array.ext'; simpa using hx
     have e2 : tys = #[t, t'] := by apply Array.ext'; simpa using ht
     subst e1 e2
     unfold zmp at hr
     split at hr
     . rename_i b q m hd
       split at hr
       . rename_i e ty xs e2 hrw hu
         split at hr
         . rename_i ys hs hy
           simp only [Bool.and_eq_true] at hs
           exact zu2 h hop hd hrw hu (Nat.eq_of_beq_eq_true hs.1) (Nat.eq_of_beq_eq_true hs.2) hy fun u w' hR => val hR (Al.trans (zcb _ _ (by simp)) (zbh _ _ _)) hr
         . cases hr
       . cases hr
     . cases hr
   . cases hr
 . rename_i args tys hop
   split at hr
   . rename_i x t hx ht
     have e1 : args = #[x] := by apply Array.ext'; simpa using hx
     have e2 : tys = #[t] := by apply Array.ext'; simpa using ht
     subst e1 e2
     unfold zhL at hr
     split at hr
     . rename_i b hb
       split at hr
       . rename_i e ty xs e2 hrw hu
         split at hr
         . rename_i z hs hz
           split at hr
           . rename_i y hy
             exact zs3 h hop hb hrw hu (Nat.eq_of_beq_eq_true hs) hz hy fun u w' hR => val hR (Al.trans (zcb _ _ (by simp)) (zbh _ _ _)) hr
           . cases hr
         . cases hr
       . cases hr
     . cases hr
   . cases hr
 . exact telling hr
theorem zko {α : Type} (hG : GOk P GL G) (l : List Oper) (h : Rel B F β st a w) (hgl : st.gl = GL) {o : Oper} {k : St -> Option α} {r : α} (hr : zoM P G l st o k = some r) {next : Act -> World -> Prop} {Q : Exit -> Act -> World -> Prop}
 (hk : ∀ st' a' w' F' β', Rel B F' β' st' a' w' -> Al st st' -> (ze8 o = false -> ∃ y, a' = a.put o.dst y) -> k st' = some r -> next a' w') : o.wp P a w next Q := by
 unfold zoM at hr
 split at hr
 . split at hr
   . rename_i t x lo hi hop
     split at hr
     . rename_i b hb
       unfold zAq at hr
       split at hr
       . rename_i e ty xs e2 hrw hu
         split at hr
         . rename_i l hh hlo hhi hs
           cases hin : inS l hh xs.length with
           | false => rw [hin] at hr; cases hr
           | true =>
            rw [hin] at hr
            exact zvO h hop hb hrw hu hlo hhi (Nat.eq_of_beq_eq_true hs) hin fun u hR => hk _ _ _ _ _ hR (zbh _ _ _) (fun _ => ⟨_, rfl⟩) hr
         . cases hr
       . cases hr
     . exact ze5 hG h hgl hr hk
   . exact ze5 hG h hgl hr hk
 . exact ze5 hG h hgl hr hk
theorem zka (h : Rel B F β st a w) {l : List Oper} {o : Oper} {j d : Nat} {want t : Bool} (hg : o.guard = some (j, want)) (hd : (l[j]?).bind (·.dst) = some d) (hs : st.get d = .v (.bool t)) : Region.wanted o (yielded l.toArray a.tmps) = (t == want) := by
 have := zza h hs
 simp only [Region.wanted, hg, yielded, List.getElem?_toArray, hd, Option.bind_some, this]
 cases t <;> cases want <;> rfl
theorem zmT (h : Rel B F β st a w) (d : Option Nat) : Rel B F β (st.put d zdK) (a.put d undef) w := h.put d (.v _)
theorem zn4 (h : Rel B F β st a w) {l : List Oper} {o : Oper} {j d : Nat} {want : Bool} {q : Array Value} (hg : o.guard = some (j, want)) (hd : (l[j]?).bind (·.dst) = some d) (hs : st.get d = .v (.tuple q)) : Region.wanted o (yielded l.toArray a.tmps) = false := by
 have hv := h.env d
 rw [hs] at hv
 have := V_v hv
 rw [Array.getD_eq_getD_getElem?] at this
 simp only [Region.wanted, hg, yielded, List.getElem?_toArray, hd, Option.bind_some]
 cases hq : a.tmps[d]? with
 | none => rfl
 | some z => rw [hq] at this; simp at this; subst this; rfl
theorem zkq {α : Type} (hG : GOk P GL G) (l : List Oper) {Q : Exit -> Act -> World -> Prop} {k : St -> Option α} {r : α} (N : Nat) (hk : ∀ st' a' w' F' β', Rel B F' β' st' a' w' -> st'.gl = GL -> st'.np = N -> k st' = some r -> Q .normal a' w') :
 ∀ (rest : List Oper) (F : Nat -> Prop) (β : Gh) (st : St) (a : Act) (w : World), Rel B F β st a w -> st.gl = GL -> st.np = N -> zfR P G l rest st k = some r -> wpList P l.toArray Q rest a w
 | [], F, β, st, a, w, h, hgl, hnp, hr => wpList_nil (hk _ _ _ _ _ h hgl hnp hr)
 | o :: rest, F, β, st, a, w, h, hgl, hnp, hr => by
  have ih := zkq hG l N hk rest
  refine wpList_step fun K hK => ?_
  simp only [zfR] at hr
  split at hr
  . rename_i hg
    rw [if_pos (by simp [Region.wanted, hg])]
    exact zko hG l h hgl hr fun st' a' w' F' β' hR hA _ hk' => hK _ _ (ih F' β' st' a' w' hR (hA.1.trans hgl) (hA.2.1.trans hnp) hk')
  . rename_i j want hg
    split at hr
    . rename_i d hd
      split at hr
      . rename_i t hs
        have hw := zka h hg hd hs
        have hsame : ∀ t', t = t' -> st.set d (.v (.bool t')) = st := fun t' e => zqK (by rw [hs, e])
        have go : (cond (t == want) (zoM P G l (st.set d (.v (.bool want))) o fun st => zfR P G l rest st k) (zfR P G l rest ((st.set d (.v (.bool (!want)))).put o.dst zdK) k)) = some r := by
         cases want <;> cases t <;> exact hr
        rw [hw]
        cases hq : (t == want) with
        | true =>
         rw [hq] at go
         have e : t = want := by simpa using hq
         rw [hsame want e, cnT] at go
         rw [if_pos rfl]
         exact zko hG l h hgl go fun st' a' w' F' β' hR hA _ hk' => hK _ _ (ih F' β' st' a' w' hR (hA.1.trans hgl) (hA.2.1.trans hnp) hk')
        | false =>
         rw [hq] at go
         have e : t = !want := by cases t <;> cases want <;> simp_all
         rw [hsame (!want) e, cnF] at go
         rw [if_neg (by simp)]
         have hA := zbh st o.dst zdK
         exact hK _ _ (ih F β _ _ w (zmT h o.dst) (hA.1.trans hgl) (hA.2.1.trans hnp) go)
      . rename_i q hs
        rw [zn4 h hg hd hs, if_neg (by simp)]
        have hA := zbh st o.dst zdK
        exact hK _ _ (ih F β _ _ w (zmT h o.dst) (hA.1.trans hgl) (hA.2.1.trans hnp) hr)
      . cases hr
    . cases hr
end
end Go.Proofs.YtganhedldgbfpaaGreatDoor
end
