/- The laws of the audit, plain law: the partitions' places that the document tells are those that the program tells. -/
import Derived.Test.YtgfifnadfmaolaaGreatDoorTA
namespace Go.Proofs.YtgfifnadfmaolaaGreatDoor
open Go.RowKit
set_option linter.unusedVariables false
set_option linter.unusedSimpArgs false
set_option linter.unusedSectionVars false
noncomputable def FL (c : Config) (f : Nat → PartitionPlace) : List PartitionPlace := (List.range (nP c)).map f
noncomputable def updY (y : PartitionPlace) (x : Pc) : PartitionPlace :=
  if x.2.2.kind = 3 then ⟨(x.1 : Int), y.save, y.state, y.root, y.tables⟩
  else if x.2.2.kind = 4 then ⟨y.lock, (x.1 : Int), y.state, y.root, y.tables⟩
  else if x.2.2.kind = 5 then ⟨y.lock, y.save, (x.1 : Int), y.root, y.tables⟩
  else if x.2.2.kind = 9 then (if y.root = 0 then ⟨y.lock, y.save, y.state, ((x.1 / 16 : Nat) : Int), y.tables⟩ else ⟨y.lock, y.save, y.state, y.root, y.tables ++ [((x.1 / 16 : Nat) : Int)]⟩)
  else y
noncomputable def stepQ (q : Nat) (y : PartitionPlace) (x : Pc) : PartitionPlace := if x.2.2.index = (q : Int) then updY y x else y
theorem FL_at {c : Config} {f : Nat → PartitionPlace} {j : Nat} (h : j < nP c) : atPartitionPlace (FL c f) j = f j := by
  simp [atPartitionPlace, List.getD, FL, h]
theorem FL_set {c : Config} {f : Nat → PartitionPlace} {j : Nat} {y : PartitionPlace} (h : j < nP c) : List.set (FL c f) j y = FL c (fun q => if q = j then y else f q) := by
  apply List.ext_getElem
  · simp [FL]
  · intro i h1 h2
    simp only [FL, List.getElem_set, List.getElem_map, List.getElem_range]
    by_cases hij : j = i
    · subst hij; simp
    · rw [if_neg hij, if_neg (fun e => hij e.symm)]
theorem FL_same {c : Config} {f g : Nat → PartitionPlace} (h : ∀ q, q < nP c → f q = g q) : FL c f = FL c g := by
  unfold FL
  apply List.map_congr_left
  intro q hq
  exact h q (by simpa using hq)
theorem upd_FL {c : Config} {f : Nat → PartitionPlace} {x : Pc} (hx : Is c x) : updP (FL c f) x = FL c (fun q => stepQ q (f q) x) := by
  have other : x.2.2.kind ≠ 3 → x.2.2.kind ≠ 4 → x.2.2.kind ≠ 5 → x.2.2.kind ≠ 9 → updP (FL c f) x = FL c (fun q => stepQ q (f q) x) := fun h3 h4 h5 h9 => by
    unfold updP
    simp only [if_neg h3, if_neg h4, if_neg h5, if_neg h9]
    refine FL_same fun q _ => ?_
    unfold stepQ updY
    simp only [if_neg h3, if_neg h4, if_neg h5, if_neg h9]
    split <;> rfl
  rcases pc_ok hx with k | ⟨k, j, hj, ij⟩ | ⟨k, _⟩ | ⟨k, _⟩
  · exact other (by omega) (by omega) (by omega) (by omega)
  · have hst : ∀ y : PartitionPlace, y = updY (f j) x → List.set (FL c f) j y = FL c (fun q => stepQ q (f q) x) := fun y hy => by
      rw [FL_set hj, hy]
      refine FL_same fun q _ => ?_
      unfold stepQ
      rw [ij]
      by_cases hq : q = j
      · subst hq; rw [if_pos rfl, if_pos rfl]
      · rw [if_neg hq, if_neg (fun e => hq (by omega))]
    unfold updP
    simp only [ij, Int.toNat_natCast, FL_at hj]
    rcases k with k | k | k | k
    · rw [k]; exact hst _ (by unfold updY; rw [k]; rfl)
    · rw [k]; exact hst _ (by unfold updY; rw [k]; rfl)
    · rw [k]; exact hst _ (by unfold updY; rw [k]; rfl)
    · rw [k]
      show (if (f j).root = 0 then _ else _) = _
      split
      · rename_i hr; exact hst _ (by unfold updY; rw [k]; show _ = (if (f j).root = 0 then _ else _); rw [if_pos hr])
      · rename_i hr; exact hst _ (by unfold updY; rw [k]; show _ = (if (f j).root = 0 then _ else _); rw [if_neg hr])
  · exact other (by omega) (by omega) (by omega) (by omega)
  · exact other (by omega) (by omega) (by omega) (by omega)
theorem fold_FL {c : Config} : ∀ (l : List Pc), (∀ x ∈ l, Is c x) → ∀ f : Nat → PartitionPlace, l.foldl updP (FL c f) = FL c (fun q => l.foldl (stepQ q) (f q))
  | [], _, f => rfl
  | x :: l, h, f => by
    rw [List.foldl_cons, upd_FL (h x (List.mem_cons_self ..)), fold_FL l (fun x hx => h x (List.mem_cons_of_mem _ hx))]
    rfl
def zeroP : PartitionPlace := ⟨0, 0, 0, 0, []⟩
theorem step_skip {q : Nat} {l : List Pc} : (∀ x ∈ l, ∀ y, stepQ q y x = y) → ∀ y, l.foldl (stepQ q) y = y := by
  induction l with
  | nil => intro _ y; rfl
  | cons x l ih => intro h y; rw [List.foldl_cons, h x (List.mem_cons_self ..), ih (fun x hx => h x (List.mem_cons_of_mem _ hx))]
theorem step_kind {q : Nat} {x : Pc} (h : x.2.2.kind = 2 ∨ x.2.2.kind = 6 ∨ x.2.2.kind = 7 ∨ x.2.2.kind = 8) (y : PartitionPlace) : stepQ q y x = y := by
  unfold stepQ updY
  rw [if_neg (show ¬ x.2.2.kind = 3 by omega), if_neg (show ¬ x.2.2.kind = 4 by omega), if_neg (show ¬ x.2.2.kind = 5 by omega), if_neg (show ¬ x.2.2.kind = 9 by omega)]
  split <;> rfl
theorem step_index {q : Nat} {x : Pc} {j : Nat} (h : x.2.2.index = (j : Int)) (hj : j ≠ q) (y : PartitionPlace) : stepQ q y x = y := by
  unfold stepQ
  rw [if_neg (by omega)]
theorem fold_parts (c : Config) (q : Nat) : ∀ n, (partsPc c n).foldl (stepQ q) zeroP = if q < n then base c q else zeroP
  | 0 => rfl
  | n + 1 => by
    rw [partsPc, List.foldl_append, fold_parts c q n]
    by_cases hq : q = n
    · subst hq
      rw [if_neg (Nat.lt_irrefl _), if_pos (Nat.lt_succ_self _)]
      simp only [part3, List.foldl_cons, List.foldl_nil, stepQ, if_true, updY, base, zeroP]
      rfl
    · have e : ∀ y, (part3 c n).foldl (stepQ q) y = y := step_skip fun x hx y => by
        simp only [part3, List.mem_cons, List.not_mem_nil, or_false] at hx
        rcases hx with rfl | rfl | rfl <;> exact step_index (j := n) rfl (fun e => hq e.symm) y
      rw [e]
      by_cases h : q < n
      · rw [if_pos h, if_pos (by omega)]
      · rw [if_neg h, if_neg (by omega)]
theorem fold_chans (c : Config) (q : Nat) (y : PartitionPlace) (n : Nat) : (chansP c n).foldl (stepQ q) y = y := by
  refine step_skip (fun x hx y => step_kind ?_ y) y
  obtain ⟨k, _, h | h⟩ := (chans_mem c n).1 hx
  · simp only [chan2, List.mem_cons, List.not_mem_nil, or_false] at h
    rcases h with rfl | rfl
    · exact .inr (.inl rfl)
    · exact .inr (.inr (.inl rfl))
  · obtain ⟨_, e, _, h2⟩ := ports_own h
    exact .inr (.inr (.inr (by rw [h2])))
theorem fold_rep (c : Config) (q : Nat) (f : Nat) (hf : 1 ≤ f) : ∀ m, (rep f q (m + 1)).foldl (stepQ q) (base c q) = ⟨(base c q).lock, (base c q).save, (base c q).state, (f : Int), tabs f m⟩
  | 0 => by
    have e : (16 * (f + 0)) / 16 = f := by omega
    simp only [rep, List.nil_append, List.foldl_cons, List.foldl_nil, stepQ, if_true, updY, base]
    rw [e]
    rfl
  | m + 1 => by
    have e : (16 * (f + (m + 1))) / 16 = f + 1 + m := by omega
    rw [rep, List.foldl_append, fold_rep c q f hf m]
    simp only [List.foldl_cons, List.foldl_nil, stepQ, if_true, updY]
    rw [show tabs f (m + 1) = tabs f m ++ [((f + 1 + m : Nat) : Int)] from map_range_succ _ _, e]
    have h0 : ¬ ((f : Nat) : Int) = 0 := by omega
    rw [if_neg h0]
    rfl
theorem tF_pos (c : Config) : ∀ i, 1 ≤ tF c i
  | 0 => by
    rw [tF]
    have h : ∀ n, 2 ≤ cAt c n := by
      intro n
      induction n with
      | zero => rw [cAt, pAt]; omega
      | succ n ih => rw [cAt]; omega
    have := h (nC c)
    omega
  | i + 1 => by rw [tF]; have := tF_pos c i; omega
theorem fold_tabs (c : Config) (q : Nat) : ∀ n, (tabsP c n).foldl (stepQ q) (base c q) = if q < n then full c q else base c q
  | 0 => rfl
  | n + 1 => by
    rw [tabsP, List.foldl_append, fold_tabs c q n]
    by_cases hq : q = n
    · subst hq
      rw [if_neg (Nat.lt_irrefl _), if_pos (Nat.lt_succ_self _), show 1 + ntab (P c q) = ntab (P c q) + 1 by omega, fold_rep c q _ (tF_pos c q)]
      rfl
    · have e : ∀ y, (rep (tF c n) n (1 + ntab (P c n))).foldl (stepQ q) y = y := step_skip fun x hx y => by
        obtain ⟨j, _, rfl⟩ := rep_mem.1 hx
        exact step_index (j := n) rfl (fun e => hq e.symm) y
      rw [e]
      by_cases h : q < n
      · rw [if_pos h, if_pos (by omega)]
      · rw [if_neg h, if_neg (by omega)]
theorem fold_ref (c : Config) : (refP c).foldl updP (List.replicate (nP c) zeroP) = plT c (nP c) := by
  have e0 : List.replicate (nP c) zeroP = FL c fun _ => zeroP := by
    unfold FL; rw [List.map_const', List.length_range]
  rw [e0, fold_FL _ (fun x hx => ref_mem.1 hx)]
  refine FL_same fun q hq => ?_
  unfold refP
  rw [List.foldl_append, List.foldl_append, List.foldl_append]
  have hb : (bar c).foldl (stepQ q) zeroP = zeroP := step_skip (fun x hx y => step_kind (by rw [bar, List.mem_singleton] at hx; subst hx; exact .inl rfl) y) _
  rw [hb, fold_parts, if_pos hq, fold_chans, fold_tabs, if_pos hq]
section
variable {c : Config} (g : Sound c) (hk : 0 ≤ c.kernel ∧ c.kernel < 1024)
include g hk
theorem of_first2 : ∀ m k, k + m = nC c → ∀ xs : List ChannelPlace, xs.length = nC c → (∀ p ∈ xs, p.dests.length ≤ 0) → ∃ L : Layout, spL30 c (.l0 (k : Int) xs) = some (L, 0) ∧ L.partitions = plT c (nP c) := by
  have hC := g.chans
  have hP := g.few.parts
  intro m
  induction m with
  | zero =>
    intro k hk' xs hx hd
    obtain ⟨p1, p2⟩ := sp_of (pieces_r g hk)
    have p2' : spc47 c = true := p2
    have hf : decide ((k : Int) < (c.channels.length : Int)) = false := lt_f (by unfold nC at hk'; omega)
    rw [spL30_eq]
    simp only [bod30, hf, p2', cond_false, cond_true, Int.toNat_natCast]
    obtain ⟨l, x, hl, _⟩ := ref_last g hk
    rw [← fold_ref]
    refine of_loop2 g hk ((refP c).length - 1) 0 (by rw [hl, List.length_append, List.length_singleton]; omega) _ _ _ _ _ ⟨⟨Int.le_refl _, fun h => by omega⟩, by rw [List.length_replicate]; rfl, hx, fun p hp => ?_, hd⟩
    rw [(List.mem_replicate.1 hp).2]; exact Nat.le_refl _
  | succ m ih =>
    intro k hk' xs hx hd
    have hkk : k < c.channels.length := by unfold nC at hk'; omega
    obtain ⟨r, hr⟩ := source_r g (k : Int)
    obtain ⟨p1, p2⟩ := sp_of hr
    have p2' : spc63 c (k : Int) = true := p2
    have hkx : k < xs.length := by omega
    have hl2 : ∀ y, k < (List.set xs k y).length := fun y => by rw [List.length_set]; exact hkx
    rw [spL30_eq]
    simp only [bod30, Int.toNat_natCast, lt_t hkk, p2', inR_of hkx, inR_of (hl2 _), cond_true, wrap_succ k (show k < 4611686018427387904 by omega)]
    refine ih (k + 1) (by omega) _ (by rw [List.length_set, List.length_set]; exact hx) fun p hp => ?_
    have h0 := hd _ (atCh_mem hkx)
    rcases List.mem_or_eq_of_mem_set hp with hp | rfl
    · rcases List.mem_or_eq_of_mem_set hp with hp | rfl
      · exact hd p hp
      · exact h0
    · have e : atChannelPlace (List.set xs k ⟨(atChannelPlace xs k).lock, (atChannelPlace xs k).stage, (sp63 c (k : Int)).1, (atChannelPlace xs k).port, (atChannelPlace xs k).dests⟩) k = ⟨(atChannelPlace xs k).lock, (atChannelPlace xs k).stage, (sp63 c (k : Int)).1, (atChannelPlace xs k).port, (atChannelPlace xs k).dests⟩ := by
        simp [atChannelPlace, List.getD, List.getElem?_set, hkx]
      show (atChannelPlace (List.set xs k _) k).dests.length ≤ 0
      rw [e]; exact h0
theorem of_r2 : ∃ L : Layout, spO30 c = some (L, 0) ∧ L.partitions = plT c (nP c) := by
  obtain ⟨k1, k2⟩ := sp_of (may_r g hk)
  have k1' : sp46 c = true := k1
  have k2' : spc46 c = true := k2
  have hC := g.chans
  have hP := g.few.parts
  unfold spO30 ent30
  rw [k1', k2', cond_true, Bool.not_true, cond_false, make_t _ _ (by unfold B47; omega), make_t _ _ (by unfold B47; omega), cond_true, cond_true, Int.toNat_natCast]
  exact of_first2 g hk (nC c) 0 (Nat.zero_add _) _ (by rw [List.length_replicate]; rfl) fun p hp => by rw [(List.mem_replicate.1 hp).2]; exact Nat.le_refl _
end
end Go.Proofs.YtgfifnadfmaolaaGreatDoor
