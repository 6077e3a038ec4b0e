/- The laws of the audit, plain law: Boot and laid: how many words; fits; odd; copies of words. -/
import Derived.Test.YtgfifnadfmaolaaGreatDoorTC
namespace Go.Proofs.YtgfifnadfmaolaaGreatDoor
open Go.RowKit
set_option linter.unusedVariables false
set_option linter.unusedSimpArgs false
theorem boot_n {c : Config} (hc : FitC c) (hv : validB c = false) : spO20 c [] = some ([], 240, -1) := by
  obtain ⟨k1, k2⟩ := ansW_sp (valid_r hc)
  have k1' : spc29 c = true := k1
  have k2' : ((sp29 c).1 == 0) = validB c := k2
  unfold spO20 ent20
  rw [k1', k2', hv]
  rfl
theorem boot_v {c : Config} (hc : FitC c) (hv : validB c = true) : ∃ m : List Int, m.length = nW c ∧ spO20 c [] = some (m, 0, -1) := by
  obtain ⟨k1, k2⟩ := ansW_sp (valid_r hc)
  have k1' : spc29 c = true := k1
  have k2' : ((sp29 c).1 == 0) = validB c := k2
  have hv' := hv
  simp only [validB, Bool.and_eq_true] at hv'
  have g := good_of hc hv'.1
  have w := kern_of g hv'.2
  obtain ⟨w1, w2⟩ := nW_le g w.kernel
  have hP : nP c ≤ 8 := g.few.parts
  obtain ⟨L, hL, hLp⟩ := of_r2 g w.kernel
  obtain ⟨o1, o2⟩ := sp_of hL
  have o1' : sp30 c = (L, 0) := o1
  have o2' : spc30 c = true := o2
  have ew : IntKind.i64.wrap (c.frames * 16) = (nW c : Int) := wrap_nat _ _ (by omega) (by omega)
  have key : ∀ r p, p + r = nP c → ∀ m : List Int, m.length = nW c → ∃ m' : List Int, m'.length = nW c ∧ spL20 c [] (.l4 (p : Int) m) = some (m', 0, -1) := by
    intro r
    induction r with
    | zero =>
      intro p hp m hm
      rw [Nat.add_zero] at hp
      subst hp
      refine ⟨m, hm, ?_⟩
      have hf : decide ((nP c : Int) < (c.partitions.length : Int)) = false := lt_f (Nat.le_refl _)
      rw [spL20_eq]
      simp only [bod20, hf, cond_false, id]
    | succ r ih =>
      intro p hp m hm
      have hpn : p < nP c := by omega
      have hp' : p < c.partitions.length := hpn
      have hlen : p < L.partitions.length := by rw [hLp, plT_len]; exact hpn
      have hat : atPartitionPlace L.partitions p = full c p := by rw [hLp, plT_at hpn, if_pos hpn]
      obtain ⟨m1, hm1, e1⟩ := tables_all (regs_fine g hpn) (pl_fine g w hpn) m hm
      obtain ⟨t1, t2⟩ := sp_of e1
      have t1' : sp44 (atPartition c.partitions p) (full c p) m = m1 := t1
      have t2' : spc44 (atPartition c.partitions p) (full c p) m = true := t2
      have hs := (laid_ref c).in_ _ (ref_mem.2 (.save hpn))
      have hs2 : pAt c p + 2 + 17 ≤ 16 * tF c (nP c) := hs.2
      have hne := w.need
      have hro := w.room
      have hsv : IntKind.i64.wrap ((full c p).save + 16) = ((pAt c p + 18 : Nat) : Int) := wrap_nat _ _ (by show ((pAt c p + 2 : Nat) : Int) + 16 = _; omega) (by omega)
      have hin : pAt c p + 18 < m1.length := by rw [hm1]; unfold nW; omega
      have e31 : ∀ m : List Int, spL20 c [] (.l31 (p : Int) m) = spL20 c [] (.l4 ((p + 1 : Nat) : Int) m) := fun m => by
        rw [spL20_eq]
        simp only [bod20, wrap_succ p (show p < 4611686018427387904 by omega)]
      have hp0 : decide ((p : Int) < (([] : List (List Int)).length : Int)) = false := lt_f (Nat.zero_le _)
      rw [spL20_eq]
      simp only [bod20, Int.toNat_natCast, lt_t hp', inR_of hp', cond_true, o1', inR_of hlen, hat, t1', t2', hsv, inR_of hin, hp0, cond_false, e31]
      exact ih (p + 1) (by omega) _ (by rw [List.length_set]; exact hm1)
  unfold spO20 ent20
  have h0 : decide ((([] : List (List Int)).length : Int) > (c.partitions.length : Int)) = false := decide_eq_false (by simp)
  rw [k1', k2', hv, cond_true, Bool.not_true, cond_false, h0, cond_false, spL20_eq]
  have h1 : decide ((0 : Int) < (([] : List (List Int)).length : Int)) = false := rfl
  simp only [bod20, h1, cond_false, o2', cond_true, ew]
  rw [show (decide True && decide (0 ≤ (nW c : Int)) && leB ((nW c : Int).toNat * 4) 140737488355328) = true from by rw [Int.toNat_natCast, leB_t (by omega), decide_eq_true (show (0 : Int) ≤ (nW c : Int) by omega)]; rfl, cond_true, Int.toNat_natCast]
  exact key (nP c) 0 (Nat.zero_add _) _ (List.length_replicate ..)
noncomputable def nL (c : Config) : Nat := cond (validB c) (nW c) 16
theorem laid_r {c : Config} (hc : FitC c) {ts : List Bulkheadlaw28Turn} (ht : ts.length ≤ 140737488355328) : ∃ m : List Int, m.length = nL c ∧ spO5 c ts = some m := by
  have key : ∀ N, N ≤ 16384 → ∀ r i, i + r = ts.length → ∀ m : List Int, m.length = N → ∃ m' : List Int, m'.length = N ∧ spL5 c ts (.l0 (i : Int) m) = some m' := by
    intro N hN r
    induction r with
    | zero =>
      intro i hi m hm
      rw [Nat.add_zero] at hi
      subst hi
      refine ⟨m, hm, ?_⟩
      rw [spL5_eq]
      simp only [bod5, lt_f (Nat.le_refl _), cond_false, id]
    | succ r ih =>
      intro i hi m hm
      have hil : i < ts.length := by omega
      have e13 : ∀ m : List Int, spL5 c ts (.l13 (i : Int) m) = spL5 c ts (.l0 ((i + 1 : Nat) : Int) m) := fun m => by
        rw [spL5_eq]
        simp only [bod5, wrap_succ i (show i < 4611686018427387904 by omega)]
      rw [spL5_eq]
      simp only [bod5, Int.toNat_natCast, lt_t hil, inR_of hil, cond_true, e13]
      by_cases h1 : (atBulkheadlaw28Turn ts i).at_ ≥ 0
      · by_cases h2 : (atBulkheadlaw28Turn ts i).at_ < (m.length : Int)
        · rw [decide_eq_true h1, decide_eq_true h2, inR_int h1 h2]
          exact ih (i + 1) (by omega) _ (by rw [List.length_set]; exact hm)
        · rw [decide_eq_true h1, decide_eq_false h2]
          exact ih (i + 1) (by omega) m hm
      · rw [decide_eq_false h1]
        exact ih (i + 1) (by omega) m hm
  have e9 : ∀ m : List Int, spL5 c ts (.l9 m) = spL5 c ts (.l0 0 m) := fun m => by
    rw [spL5_eq]; rfl
  unfold spO5 ent5 nL
  cases hv : validB c with
  | false =>
    obtain ⟨b1, b2⟩ := sp_of (boot_n hc hv)
    have b1' : sp20 c [] = ([], 240, -1) := b1
    have b2' : spc20 c [] = true := b2
    rw [b1', b2']
    show ∃ m : List Int, m.length = 16 ∧ spL5 c ts (.l9 (List.replicate 16 0)) = some m
    rw [e9]
    exact key 16 (by omega) ts.length 0 (Nat.zero_add _) _ (List.length_replicate ..)
  | true =>
    obtain ⟨m, hm, hb⟩ := boot_v hc hv
    obtain ⟨b1, b2⟩ := sp_of hb
    have b1' : sp20 c [] = (m, 0, -1) := b1
    have b2' : spc20 c [] = true := b2
    have hv' := hv
    simp only [validB, Bool.and_eq_true] at hv'
    have g := good_of hc hv'.1
    have w := kern_of g hv'.2
    obtain ⟨w1, w2⟩ := nW_le g w.kernel
    have hf := g.frames
    have hne : ((m.length : Int) == 0) = false := beq_eq_false_iff_ne.2 (by rw [hm]; omega)
    rw [b1', b2']
    simp only [cond_true, hne, cond_false, e9]
    exact key (nW c) w1 ts.length 0 (Nat.zero_add _) m hm
theorem fits_r {c : Config} (hc : FitC c) {m : List Int} : spO21 c m = some (validB c && decide (m.length = nW c)) := by
  obtain ⟨k1, k2⟩ := ansW_sp (valid_r hc)
  have k1' : spc29 c = true := k1
  have k2' : ((sp29 c).1 == 0) = validB c := k2
  unfold spO21 ent21
  rw [k1', k2', cond_true]
  cases hv : validB c with
  | false => rfl
  | true =>
    have hv' := hv
    simp only [validB, Bool.and_eq_true] at hv'
    have g := good_of hc hv'.1
    have w := kern_of g hv'.2
    obtain ⟨w1, w2⟩ := nW_le g w.kernel
    have ew : IntKind.i64.wrap (c.frames * 16) = (nW c : Int) := wrap_nat _ _ (by omega) (by omega)
    rw [cond_true, ew, Bool.true_and]
    show some ((m.length : Int) == (nW c : Int)) = _
    congr 1
    rw [Bool.eq_iff_iff, beq_iff_eq, decide_eq_true_eq]
    omega
theorem odd_r {c : Config} (hc : FitC c) : spO12 c = some (!(validB c)) := by
  obtain ⟨k1, k2⟩ := ansW_sp (valid_r hc)
  have k1' : spc29 c = true := k1
  have k2' : ((sp29 c).1 == 0) = validB c := k2
  unfold spO12 ent12
  rw [k1', k2']
  rfl
theorem copy_words {l : List Int} (hl : l.length ≤ 100000) : spO8 l = some l := by
  have h1 := run_loop (n := l.length) (f := fun i s => spL8 l (.l0 (i : Int) s)) (S := fun i => l.take i ++ List.replicate (l.length - i) (0 : Int)) (fun i hi => by
    rw [spL8_eq]
    simp only [bod8, lt_t hi, cond_true, inR_of hi, Int.toNat_natCast, copy_len l (0 : Int) (Nat.le_of_lt hi), wrap_succ i (show i < 4611686018427387904 by omega)]
    rw [copy_step l 0 _ hi (by simp [atInt, List.getD, hi])])
  simp only [List.take_zero, List.nil_append, Nat.sub_zero, List.take_length, Nat.sub_self, List.replicate_zero, List.append_nil] at h1
  unfold spO8 ent8
  rw [make_t _ _ (by unfold B47; omega), cond_true, Int.toNat_natCast]
  refine h1.trans ?_
  rw [spL8_eq]
  simp only [bod8, lt_f (Nat.le_refl _), cond_false, id]
theorem clone_r {l : List Int} (h0 : l ≠ []) (hl : l.length ≤ 100000) : spO24 l = some l := by
  unfold spO24 ent24
  have hz : Nat.beq l.length 0 = false := by cases l with | nil => exact absurd rfl h0 | cons => rfl
  rw [hz, leB_t (by simp only [List.length_nil]; omega)]
  rfl
theorem of_a {l : List Int} (hl : l.length ≤ 100000) : spO7 l = some (if l.length > 16384 then (none, 2) else if l.length = 0 then (none, 50) else if l.length % 16 ≠ 0 then (none, 50) else (some ⟨l⟩, 0)) := by
  unfold spO7 ent7
  by_cases h1 : l.length > 16384
  · rw [if_pos h1, decide_eq_true (by omega)]; rfl
  · rw [if_neg h1, decide_eq_false (by omega), cond_false]
    by_cases h2 : l.length = 0
    · rw [if_pos h2, h2]; rfl
    · rw [if_neg h2, show ((l.length : Int) == 0) = false from beq_eq_false_iff_ne.2 (by omega), cond_false, rem_nat]
      by_cases h3 : l.length % 16 = 0
      · rw [if_neg (by simpa using h3), h3]
        obtain ⟨k1, k2⟩ := sp_of (clone_r (l := l) (fun e => by subst e; exact h2 rfl) hl)
        have k1' : sp24 l = l := k1
        have k2' : spc24 l = true := k2
        rw [k1', k2']; rfl
      · rw [if_pos h3, show (((l.length % 16 : Nat) : Int) == 0) = false from beq_eq_false_iff_ne.2 (by omega)]; rfl
theorem there_a {m : MemMemory} {i : Nat} (hm : m.words.length ≤ 100000) (hi : i ≤ 100000) : spO128 (some m) (i : Int) 1 = some (if i < m.words.length then 0 else 51) := by
  unfold spO128 ent128
  have h0 : (some m).getD default = m := rfl
  have h1 : (some m).isNone = false := rfl
  have h2 : (some m).isSome = true := rfl
  have ew : IntKind.i64.wrap ((m.words.length : Int) - (i : Int)) = (m.words.length : Int) - (i : Int) := wrap_in _ (by omega) (by omega)
  rw [h1, h2, h0, cond_false, decide_eq_false (show ¬ ((i : Int) < 0) by omega), cond_false, cond_true, cond_true, ew]
  by_cases h : i < m.words.length
  · rw [if_pos h, decide_eq_false (show ¬ ((i : Int) > (m.words.length : Int)) by omega), decide_eq_false (show ¬ ((1 : Int) > (m.words.length : Int) - (i : Int)) by omega)]; rfl
  · rw [if_neg h]
    by_cases h' : (i : Int) > (m.words.length : Int)
    · rw [decide_eq_true h']; rfl
    · rw [decide_eq_false h', decide_eq_true (show (1 : Int) > (m.words.length : Int) - (i : Int) by omega)]; rfl
theorem read_a {m : MemMemory} {i : Nat} (hm : m.words.length ≤ 100000) (hi : i ≤ 100000) : spO86 (some m) (i : Int) = some (if i < m.words.length then (atInt m.words i, 0) else (0, 51)) := by
  obtain ⟨k1, k2⟩ := sp_of (there_a hm hi)
  have k1' : sp128 (some m) (i : Int) 1 = _ := k1
  have k2' : spc128 (some m) (i : Int) 1 = true := k2
  unfold spO86 ent86
  rw [k1', k2', cond_true]
  by_cases h : i < m.words.length
  · rw [if_pos h, if_pos h]
    have h0 : (some m).getD default = m := rfl
    rw [h0, inR_of h]; rfl
  · rw [if_neg h, if_neg h]; rfl
noncomputable def unl (a b : List Int) (i : Nat) : Bool := !(decide (i < a.length) && decide (i < b.length) && (atInt a i == atInt b i)) && !(!(decide (i < a.length)) && !(decide (i < b.length)))
theorem unlike_a {m o : MemMemory} {i : Nat} (hm : m.words.length ≤ 100000) (ho : o.words.length ≤ 100000) (hi : i ≤ 100000) (hl : i < m.words.length ∨ i < o.words.length) : spO52 (some m) (some o) (i : Int) = some (unl m.words o.words i) := by
  obtain ⟨k1, k2⟩ := sp_of (read_a hm hi)
  have k1' : sp86 (some m) (i : Int) = _ := k1
  have k2' : spc86 (some m) (i : Int) = true := k2
  obtain ⟨j1, j2⟩ := sp_of (read_a ho hi)
  have j1' : sp86 (some o) (i : Int) = _ := j1
  have j2' : spc86 (some o) (i : Int) = true := j2
  unfold spO52 ent52 unl
  rw [k1', k2', j1', j2', cond_true, cond_true]
  by_cases h1 : i < m.words.length
  · by_cases h2 : i < o.words.length
    · rw [if_pos h1, if_pos h2, decide_eq_true h1, decide_eq_true h2]
      show cond (!(atInt m.words i == atInt o.words i)) _ _ = _
      cases atInt m.words i == atInt o.words i <;> rfl
    · rw [if_pos h1, if_neg h2, decide_eq_true h1, decide_eq_false h2]
      show cond (!(atInt m.words i == 0)) _ _ = _
      cases atInt m.words i == 0 <;> rfl
  · by_cases h2 : i < o.words.length
    · rw [if_neg h1, if_pos h2, decide_eq_false h1, decide_eq_true h2]
      show cond (!((0 : Int) == atInt o.words i)) _ _ = _
      cases (0 : Int) == atInt o.words i <;> rfl
    · omega
noncomputable def tl (c : Config) (a b : List Int) : Nat → List Owner
  | 0 => []
  | i + 1 => cond (unl a b i) (if own c i ∈ tl c a b i then tl c a b i else tl c a b i ++ [own c i]) (tl c a b i)
theorem tl_len (c : Config) (a b : List Int) : ∀ n, (tl c a b n).length ≤ n
  | 0 => Nat.le_refl _
  | n + 1 => by
    have := tl_len c a b n
    rw [tl]
    cases unl a b n with
    | false => rw [cond_false]; omega
    | true =>
      rw [cond_true]
      split
      · omega
      · rw [List.length_append, List.length_singleton]; omega
end Go.Proofs.YtgfifnadfmaolaaGreatDoor
