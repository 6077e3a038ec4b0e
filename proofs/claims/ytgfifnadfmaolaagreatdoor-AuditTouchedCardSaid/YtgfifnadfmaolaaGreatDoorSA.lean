/- The soundness of the abstract evaluator, part 10: regions that draw their order. -/
import Derived.Test.YtgfifnadfmaolaaGreatDoorS9
import Derived.Orders
namespace Go.Proofs.YtgfifnadfmaolaaGreatDoor
open Go.RowKit
set_option linter.unusedVariables false
set_option linter.unusedSimpArgs false
/-! ### What follows is handed on -/
theorem cond_bind {α β : Type} (c : Bool) (x y : Option α) (k : α → Option β) : (cond c x y).bind k = cond c (x.bind k) (y.bind k) := by cases c <;> rfl
theorem evT_bind {α : Type} (P : Program) (st : St) (o : Oper) (k : AV → Option α) : evT P st o k = (evT P st o some).bind k := by
  unfold evT
  split <;> (repeat' split) <;> simp [cond_bind]
theorem evCall_bind {α : Type} (G : Gam) (st : St) (f : Cal) (as : List AV) (k : AV → St → Option α) : evCall G st f as k = (evCall G st f as fun x s => some (x, s)).bind fun p => k p.1 p.2 := by
  unfold evCall evCall.evPass
  (repeat' split) <;> simp [cond_bind]
theorem evTake_bind {α : Type} (P : Program) (st : St) (o : Oper) (t : TypeId) (b sz i off : Nat) (k : St → Option α) : evTake P st o t b sz i off k = (evTake P st o t b sz i off some).bind k := by
  have tel : evT P st o (fun x => k (st.put o.dst x)) = (evT P st o fun x => some (st.put o.dst x)).bind k := by
    rw [evT_bind P st o fun x => k (st.put o.dst x), evT_bind P st o fun x => some (st.put o.dst x), Option.bind_assoc]
    rfl
  unfold evTake
  (repeat' split) <;> first | exact tel | simp
theorem evStoreD_bind {α : Type} (st : St) (dst : Option Nat) (b sz i off : Nat) (e : TypeId) (ty : Ty) (cols : List (Nat × TypeId)) (hole : Option (Nat × Nat)) (ys : List ty.T) (x0 : AV) (xs : List AV) (k : St → Option α) :
    evStoreD st dst b sz i off e ty cols hole ys x0 xs k = (evStoreD st dst b sz i off e ty cols hole ys x0 xs some).bind k := by
  unfold evStoreD
  (repeat' split) <;> simp [cond_bind]
theorem evStoreX_bind {α : Type} (st : St) (dst : Option Nat) (b o0 : Nat) (ty : Ty) (m i d : Nat) (e : TypeId) (cs xs : List AV) (k : St → Option α) :
    evStoreX st dst b o0 ty m i d e cs xs k = (evStoreX st dst b o0 ty m i d e cs xs some).bind k := by
  unfold evStoreX
  (repeat' split) <;> simp
theorem evOp_bind {α : Type} (P : Program) (G : Gam) (st : St) (o : Oper) (k : St → Option α) : evOp P G st o k = (evOp P G st o some).bind k := by
  have tel : evT P st o (fun x => k (st.put o.dst x)) = (evT P st o fun x => some (st.put o.dst x)).bind k := by
    rw [evT_bind P st o fun x => k (st.put o.dst x), evT_bind P st o fun x => some (st.put o.dst x), Option.bind_assoc]
    rfl
  have cal : ∀ f as, evCall G st f as (fun r st' => k (st'.put o.dst r)) = (evCall G st f as fun r st' => some (st'.put o.dst r)).bind k := fun f as => by
    rw [evCall_bind G st f as fun r st' => k (st'.put o.dst r), evCall_bind G st f as fun r st' => some (st'.put o.dst r), Option.bind_assoc]
    rfl
  unfold evOp
  split <;> (repeat' split) <;> first | exact tel | exact cal _ _ | exact evTake_bind .. | exact evStoreD_bind .. | exact evStoreX_bind .. | simp [cond_bind]
theorem evOp_quiet {α : Type} (P : Program) (G : Gam) {st : St} {o : Oper} (hw : writes st o = false) (hd : isDefer o = false) (k : St → Option α) : evOp P G st o k = evT P st o fun x => k (st.put o.dst x) := by
  unfold evOp
  split <;> rename_i hop <;> first | (simp [writes, hop] at hw; done) | (simp [isDefer, hop] at hd; done) | rfl | skip
  · split
    · rename_i b sz i off hx
      simp only [writes, hop, hx] at hw
      unfold evTake
      split
      · rename_i e ty cols hole xs hb
        rw [hb] at hw
        cases cols with
        | nil => rfl
        | cons => cases hw
      · rfl
    · rfl
  · split
    · rename_i hx
      simp [writes, hop, hx] at hw
    · rfl
/-! ### A run in the order of the text -/
def StepR (P : Program) (G : Gam) (s : St) (o : Oper) (f : Fp) (s1 : St) : Prop :=
  isDefer o = false ∧ ∃ m, evOp P G (s.mask s.heap.length (tmpsOf o) (looks s o)) o some = some m ∧
    ((writes s o = true ∧ s.heap.length ≤ m.heap.length ∧ f = ⟨looks s o, looks s o ++ news s.heap.length m.heap.length⟩ ∧ s1 = { (s.put o.dst (m.get (o.dst.getD 0))) with heap := mergeH (looks s o) 0 s.heap m.heap }) ∨
     (writes s o = false ∧ f = ⟨looks s o, []⟩ ∧ s1 = s.put o.dst (m.get (o.dst.getD 0))))
theorem stepR_some {α : Type} {P : Program} {G : Gam} {s : St} {o : Oper} {k : Fp → St → Option α} {r : α} (h : stepR P G s o k = some r) : ∃ f s1, StepR P G s o f s1 ∧ k f s1 = some r := by
  unfold stepR at h
  split at h
  · cases h
  · rename_i hd
    rw [evOp_bind] at h
    cases hm : evOp P G (s.mask s.heap.length (tmpsOf o) (looks s o)) o some with
    | none => rw [hm] at h; cases h
    | some m =>
      rw [hm] at h
      simp only [Option.bind_some] at h
      split at h
      · rename_i hw hle; exact ⟨_, _, ⟨hd, m, hm, .inl ⟨hw, Nat.le_of_ble_eq_true hle, rfl, rfl⟩⟩, h⟩
      · cases h
      · rename_i hw; exact ⟨_, _, ⟨hd, m, hm, .inr ⟨hw, rfl, rfl⟩⟩, h⟩
def IsW (l : List Oper) (s : St) (o : Oper) : Prop := o.guard = none ∨ ∃ j want d, o.guard = some (j, want) ∧ (l[j]?).bind (·.dst) = some d ∧ s.get d = .v (.bool want)
def NotW (l : List Oper) (s : St) (o : Oper) : Prop := ∃ j want d, o.guard = some (j, want) ∧ (l[j]?).bind (·.dst) = some d ∧ (s.get d = .v (.bool (!want)) ∨ ∃ q, s.get d = .v (.tuple q))
def Step1 (P : Program) (G : Gam) (l : List Oper) (s : St) (o : Oper) (f : Fp) (s1 : St) : Prop :=
  (NotW l s o ∧ f = ⟨[], []⟩ ∧ s1 = s.put o.dst skipV) ∨ (IsW l s o ∧ StepR P G s o f s1)
theorem evOpsR_some {α : Type} {P : Program} {G : Gam} {l : List Oper} {k : List Fp → St → Option α} {r : α} : ∀ {rest : List Oper} {fs : List Fp} {st : St}, evOpsR P G l rest fs st k = some r →
    ∃ (fs' : List Fp) (S : Nat → St), fs'.length = rest.length ∧ S 0 = st ∧ (∀ i o, rest[i]? = some o → Step1 P G l (S i) o (fs'.getD i ⟨[], []⟩) (S (i + 1))) ∧ k (fs ++ fs') (S rest.length) = some r
  | [], fs, st, h => ⟨[], fun _ => st, rfl, rfl, fun i o ho => by simp at ho, by simpa [evOpsR] using h⟩
  | o :: rest, fs, st, h => by
    have cons : ∀ (f : Fp) (s1 : St), Step1 P G l st o f s1 → evOpsR P G l rest (fs ++ [f]) s1 k = some r → ∃ (fs' : List Fp) (S : Nat → St), fs'.length = (o :: rest).length ∧ S 0 = st ∧
        (∀ i o', (o :: rest)[i]? = some o' → Step1 P G l (S i) o' (fs'.getD i ⟨[], []⟩) (S (i + 1))) ∧ k (fs ++ fs') (S (o :: rest).length) = some r := fun f s1 h1 h2 => by
      obtain ⟨fs', S, q1, q2, q3, q4⟩ := evOpsR_some h2
      refine ⟨f :: fs', fun i => match i with | 0 => st | i + 1 => S i, by simp [q1], rfl, fun i o' ho => ?_, by simpa using q4⟩
      cases i with
      | zero => simp at ho; subst ho; simpa [q2] using h1
      | succ i => simpa using q3 i o' (by simpa using ho)
    simp only [evOpsR] at h
    split at h
    · rename_i hg
      obtain ⟨f, s1, h1, h2⟩ := stepR_some h
      exact cons f s1 (.inr ⟨.inl hg, h1⟩) h2
    · rename_i j want hg
      split at h
      · rename_i d hd
        split at h
        · rename_i t hs
          have hsame : ∀ t', t = t' → st.set d (.v (.bool t')) = st := fun t' e => set_get (by rw [hs, e])
          have go : (cond (t == want) (stepR P G (st.set d (.v (.bool want))) o fun f st => evOpsR P G l rest (fs ++ [f]) st k) (evOpsR P G l rest (fs ++ [⟨[], []⟩]) ((st.set d (.v (.bool (!want)))).put o.dst skipV) k)) = some r := by
            cases want <;> cases t <;> exact h
          cases hq : (t == want) with
          | true =>
            rw [hq] at go
            have e : t = want := by simpa using hq
            rw [hsame want e, cond_true] at go
            obtain ⟨f, s1, h1, h2⟩ := stepR_some go
            exact cons f s1 (.inr ⟨.inr ⟨j, want, d, hg, hd, by rw [hs, e]⟩, h1⟩) h2
          | false =>
            rw [hq] at go
            have e : t = !want := by cases t <;> cases want <;> simp_all
            rw [hsame (!want) e, cond_false] at go
            exact cons _ _ (.inl ⟨⟨j, want, d, hg, hd, .inl (by rw [hs, e])⟩, rfl, rfl⟩) go
        · rename_i q hs
          exact cons _ _ (.inl ⟨⟨j, want, d, hg, hd, .inr ⟨q, hs⟩⟩, rfl, rfl⟩) h
        · cases h
      · cases h
theorem mergeH_get (ids : List Nat) : ∀ (i : Nat) (old new : List Blk), old.length ≤ new.length → (mergeH ids i old new).length = new.length ∧
    ∀ b, (mergeH ids i old new).getD b .dead = if b < old.length ∧ ¬ (i + b) ∈ ids then old.getD b .dead else new.getD b .dead
  | i, [], new, _ => by
    have : mergeH ids i [] new = new := by cases new <;> rfl
    rw [this]; simp
  | i, k :: old, [], h => by simp at h
  | i, k :: old, k' :: new, h => by
    obtain ⟨h1, h2⟩ := mergeH_get ids (i + 1) old new (by simpa using h)
    refine ⟨by simp [mergeH, h1], fun b => ?_⟩
    cases b with
    | zero =>
      simp only [mergeH]
      cases hx : hasN i ids with
      | true => have := hasN_iff.1 hx; simp [this]
      | false =>
        have : i ∉ ids := fun h => by rw [hasN_iff.2 h] at hx; cases hx
        simp [this]
    | succ b =>
      have := h2 b
      simp only [mergeH, List.getD_cons_succ, this, List.length_cons, Nat.add_lt_add_iff_right, Nat.add_assoc, Nat.add_comm 1 b]
theorem news_mem {n : Nat} : ∀ {m b : Nat}, b ∈ news n m ↔ n ≤ b ∧ b < m
  | 0, b => by simp [news]
  | m + 1, b => by
    simp only [news]
    cases hx : Nat.ble n m with
    | true =>
      have hx := Nat.le_of_ble_eq_true hx
      simp only [List.mem_append, news_mem (m := m), List.mem_singleton]
      omega
    | false =>
      have hx : ¬ n ≤ m := fun h => by rw [Nat.ble_eq_true_of_le h] at hx; cases hx
      simp only [List.not_mem_nil, false_iff]
      omega
theorem mask_len (st : St) (n : Nat) (ts ids : List Nat) (hn : n ≤ st.heap.length) : (st.mask n ts ids).heap.length = n := by
  have key : ∀ (i : Nat) (l : List Blk), (St.mask.maskH ids n i l).length = l.length := by
    intro i l
    induction l generalizing i with
    | nil => rfl
    | cons k l ih => simp [St.mask.maskH, ih]
  simp [St.mask, key, hn]
theorem put_get_ne (s : St) {d : Option Nat} {t : Nat} (h : d ≠ some t) (x : AV) : (s.put d x).get t = s.get t := by
  cases d with
  | none => rfl
  | some d =>
    show (s.set d x).get t = _
    rw [get_set, if_neg (fun e => h (by rw [e.1]))]
theorem Step1.keeps {P : Program} {G : Gam} {l : List Oper} {s : St} {o : Oper} {f : Fp} {s1 : St} (h : Step1 P G l s o f s1) :
    s1.env.length = s.env.length ∧ s1.gl = s.gl ∧ s1.np = s.np ∧ (s1.df = s.df ∧ s1.dp = s.dp) ∧ s.heap.length ≤ s1.heap.length ∧ (∀ t, o.dst ≠ some t → s1.get t = s.get t) ∧ ∀ b, b ∉ f.wr → s1.heap.getD b .dead = s.heap.getD b .dead := by
  have hput : ∀ (x : AV), (s.put o.dst x).env.length = s.env.length ∧ (s.put o.dst x).gl = s.gl ∧ (s.put o.dst x).np = s.np ∧ ((s.put o.dst x).df = s.df ∧ (s.put o.dst x).dp = s.dp) ∧ (s.put o.dst x).heap = s.heap := fun x => by
    cases o.dst <;> simp [St.put, St.set]
  rcases h with ⟨_, rfl, rfl⟩ | ⟨_, hd, m, hm, hcase⟩
  · obtain ⟨h1, h2, h3, h4, h5⟩ := hput skipV
    exact ⟨h1, h2, h3, h4, by rw [h5]; exact Nat.le_refl _, fun t ht => put_get_ne s ht _, fun b _ => by rw [h5]⟩
  · obtain ⟨h1, h2, h3, h4, h5⟩ := hput (m.get (o.dst.getD 0))
    rcases hcase with ⟨_, hle, rfl, rfl⟩ | ⟨_, rfl, rfl⟩
    · obtain ⟨g1, g2⟩ := mergeH_get (looks s o) 0 s.heap m.heap hle
      refine ⟨h1, h2, h3, h4, by rw [g1]; exact hle, fun t ht => put_get_ne s ht _, fun b hb => ?_⟩
      simp only [List.mem_append, not_or, news_mem] at hb
      rw [g2 b, Nat.zero_add]
      by_cases hlt : b < s.heap.length
      · rw [if_pos ⟨hlt, hb.1⟩]
      · rw [if_neg (fun e => hlt e.1)]
        have : m.heap.length ≤ b := by omega
        simp [List.getD, List.getElem?_eq_none this, List.getElem?_eq_none (Nat.le_of_not_lt hlt)]
    · exact ⟨h1, h2, h3, h4, by rw [h5]; exact Nat.le_refl _, fun t ht => put_get_ne s ht _, fun b _ => by rw [h5]⟩
/-! ### What the last one ahead has left -/
section
variable (S : Nat → St) (D : Nat → Option Nat) (W : Nat → List Nat) (L : Nat → Bool)
def lastE (t : Nat) : Nat → AV
  | 0 => (S 0).get t
  | k + 1 => if L k = true ∧ D k = some t then (S (k + 1)).get t else lastE t k
def lastH (b : Nat) : Nat → Blk
  | 0 => (S 0).heap.getD b .dead
  | k + 1 => if L k = true ∧ b ∈ W k then (S (k + 1)).heap.getD b .dead else lastH b k
end
section
variable {S : Nat → St} {D : Nat → Option Nat} {W : Nat → List Nat} {L : Nat → Bool}
theorem lastE_upto {t j : Nat} : ∀ {n : Nat}, j ≤ n → (∀ i, j ≤ i → i < n → L i = true → D i ≠ some t) → lastE S D L t n = lastE S D L t j
  | 0, hj, _ => by rw [show j = 0 by omega]
  | n + 1, hj, h => by
    by_cases e : j = n + 1
    · rw [e]
    · rw [lastE, if_neg (fun q => h n (by omega) (by omega) q.1 q.2)]
      exact lastE_upto (by omega) fun i h1 h2 => h i h1 (by omega)
theorem lastE_all {t : Nat} (hS : ∀ i, D i ≠ some t → (S (i + 1)).get t = (S i).get t) : ∀ {j : Nat}, (∀ i, i < j → D i = some t → L i = true) → lastE S D L t j = (S j).get t
  | 0, _ => rfl
  | j + 1, h => by
    by_cases e : D j = some t
    · rw [lastE, if_pos ⟨h j (by omega) e, e⟩]
    · rw [lastE, if_neg (fun q => e q.2), hS j e]
      exact lastE_all hS fun i hi => h i (by omega)
theorem lastH_upto {b j : Nat} : ∀ {n : Nat}, j ≤ n → (∀ i, j ≤ i → i < n → L i = true → b ∉ W i) → lastH S W L b n = lastH S W L b j
  | 0, hj, _ => by rw [show j = 0 by omega]
  | n + 1, hj, h => by
    by_cases e : j = n + 1
    · rw [e]
    · rw [lastH, if_neg (fun q => h n (by omega) (by omega) q.1 q.2)]
      exact lastH_upto (by omega) fun i h1 h2 => h i h1 (by omega)
theorem lastH_all {b : Nat} (hS : ∀ i, b ∉ W i → (S (i + 1)).heap.getD b .dead = (S i).heap.getD b .dead) : ∀ {j : Nat}, (∀ i, i < j → b ∈ W i → L i = true) → lastH S W L b j = (S j).heap.getD b .dead
  | 0, _ => rfl
  | j + 1, h => by
    by_cases e : b ∈ W j
    · rw [lastH, if_pos ⟨h j (by omega) e, e⟩]
    · rw [lastH, if_neg (fun q => e q.2), hS j e]
      exact lastH_all hS fun i hi => h i (by omega)
theorem lastE_more {L' : Nat → Bool} {t j : Nat} (hL : ∀ i, L' i = true ↔ L i = true ∨ i = j) : ∀ {n : Nat}, (D j = some t → j < n → ∀ i, j < i → i < n → L i = true → D i ≠ some t) → lastE S D L' t n = if D j = some t ∧ j < n then (S (j + 1)).get t else lastE S D L t n
  | 0, _ => by simp [lastE]
  | n + 1, h => by
    by_cases e : n = j
    · subst e
      by_cases hd : D n = some t
      · rw [lastE, if_pos ⟨(hL n).2 (.inr rfl), hd⟩, if_pos ⟨hd, by omega⟩]
      · rw [lastE, if_neg (fun q => hd q.2), if_neg (fun q => hd q.1), lastE_more hL (fun q => absurd q hd), if_neg (fun q => hd q.1), lastE, if_neg (fun q => hd q.2)]
    · by_cases hq : L n = true ∧ D n = some t
      · have hq' : L' n = true ∧ D n = some t := ⟨(hL n).2 (.inl hq.1), hq.2⟩
        rw [lastE, if_pos hq', lastE, if_pos hq]
        by_cases hd : D j = some t ∧ j < n + 1
        · exact absurd hq.2 (h hd.1 hd.2 n (by omega) (by omega) hq.1)
        · rw [if_neg hd]
      · have hq' : ¬ (L' n = true ∧ D n = some t) := fun q => by
          rcases (hL n).1 q.1 with h1 | h1
          · exact hq ⟨h1, q.2⟩
          · exact e h1
        rw [lastE, if_neg hq', lastE_more (n := n) hL (fun h1 h2 i h3 h4 => h h1 (by omega) i h3 (by omega)), lastE, if_neg hq]
        by_cases hd : D j = some t ∧ j < n
        · rw [if_pos hd, if_pos ⟨hd.1, by omega⟩]
        · rw [if_neg hd, if_neg (fun q => hd ⟨q.1, by omega⟩)]
theorem lastH_more {L' : Nat → Bool} {b j : Nat} (hL : ∀ i, L' i = true ↔ L i = true ∨ i = j) : ∀ {n : Nat}, (b ∈ W j → j < n → ∀ i, j < i → i < n → L i = true → b ∉ W i) → lastH S W L' b n = if b ∈ W j ∧ j < n then (S (j + 1)).heap.getD b .dead else lastH S W L b n
  | 0, _ => by simp [lastH]
  | n + 1, h => by
    by_cases e : n = j
    · subst e
      by_cases hd : b ∈ W n
      · rw [lastH, if_pos ⟨(hL n).2 (.inr rfl), hd⟩, if_pos ⟨hd, by omega⟩]
      · rw [lastH, if_neg (fun q => hd q.2), if_neg (fun q => hd q.1), lastH_more hL (fun q => absurd q hd), if_neg (fun q => hd q.1), lastH, if_neg (fun q => hd q.2)]
    · by_cases hq : L n = true ∧ b ∈ W n
      · have hq' : L' n = true ∧ b ∈ W n := ⟨(hL n).2 (.inl hq.1), hq.2⟩
        rw [lastH, if_pos hq', lastH, if_pos hq]
        by_cases hd : b ∈ W j ∧ j < n + 1
        · exact absurd hq.2 (h hd.1 hd.2 n (by omega) (by omega) hq.1)
        · rw [if_neg hd]
      · have hq' : ¬ (L' n = true ∧ b ∈ W n) := fun q => by
          rcases (hL n).1 q.1 with h1 | h1
          · exact hq ⟨h1, q.2⟩
          · exact e h1
        rw [lastH, if_neg hq', lastH_more (n := n) hL (fun h1 h2 i h3 h4 => h h1 (by omega) i h3 (by omega)), lastH, if_neg hq]
        by_cases hd : b ∈ W j ∧ j < n
        · rw [if_pos hd, if_pos ⟨hd.1, by omega⟩]
        · rw [if_neg hd, if_neg (fun q => hd ⟨q.1, by omega⟩)]
end
end Go.Proofs.YtgfifnadfmaolaaGreatDoor
