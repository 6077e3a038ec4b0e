/- The laws of the audit, plain law: Touched, the document's answer; what the program looks at first; lists of owners. -/
import Derived.Test.YtgfifnadfmaolaaGreatDoorTD
namespace Go.Proofs.YtgfifnadfmaolaaGreatDoor
open Go.RowKit
set_option linter.unusedVariables false
set_option linter.unusedSimpArgs false
noncomputable def both (c : Config) (a b : List Int) : Bool := validB c && (decide (a.length = nW c) && decide (b.length = nW c))
theorem eq_own2 (x o : Owner) : (((x.kind : Int) == o.kind) && (((x.index : Int) == o.index) && (((x.port : Int) == o.port) && true))) = decide (x = o) := by
  obtain ⟨a, b, d⟩ := x
  obtain ⟨a', b', d'⟩ := o
  rw [Bool.eq_iff_iff]; simp [Owner.mk.injEq]
theorem among_r2 {l : List Owner} (hl : l.length ≤ 100000) (o : Owner) : spO23 l o = some (decide (o ∈ l)) := by
  have h := any_loop (n := l.length) (f := fun i => spL23 l o (.l0 (i : Int))) (q := fun i => decide (atOwner l i = o)) (r := some true) (e := some false) (fun i hi => by
    rw [spL23_eq]
    simp only [bod23, Int.toNat_natCast, lt_t hi, inR_of hi, cond_true, eq_own2, wrap_succ i (show i < 4611686018427387904 by omega), id]) (by
    rw [spL23_eq]
    simp only [bod23, lt_f (Nat.le_refl _), cond_false, id])
  refine Eq.trans (show _ = spL23 l o (.l0 0) from rfl) (Eq.trans h ?_)
  rw [some_any]
  congr 1
  rw [Bool.eq_iff_iff, any_t]
  simp only [decide_eq_true_eq]
  constructor
  · rintro ⟨i, hi, rfl⟩
    simp [atOwner, List.getD, hi]
  · intro h
    obtain ⟨i, hi, e⟩ := List.getElem_of_mem h
    exact ⟨i, hi, by simp [atOwner, List.getD, hi, e]⟩
theorem has_owner {l : List Owner} (hl : l.length ≤ 100000) (o : Owner) : spO28 l o = some (decide (o ∈ l)) := by
  have h := list_loop (l := List.range l.length) (f := fun k => spL55 l o (.l0 (k : Int))) (q := fun k => decide (o = atOwner l k)) (g := fun k => some (k : Int)) (e := some (-1)) (fun k hk => by
    rw [List.length_range] at hk
    rw [List.getElem_range, spL55_eq]
    simp only [bod55, Int.toNat_natCast, lt_t hk, inR_of hk, cond_true, eq_own2, wrap_succ k (show k < 4611686018427387904 by omega), id]) (by
    rw [List.length_range, spL55_eq]
    simp only [bod55, lt_f (Nat.le_refl _), cond_false, id])
  have hi : ∃ r, spO55 l o = some r ∧ decide (r ≥ 0) = decide (o ∈ l) := by
    cases hf : (List.range l.length).find? (fun k => decide (o = atOwner l k)) with
    | some k =>
      rw [hf] at h
      refine ⟨(k : Int), h, ?_⟩
      have hm := List.mem_of_find?_eq_some hf
      have hq := List.find?_some hf
      have hk : k < l.length := by simpa using hm
      have ho : o ∈ l := by
        rw [decide_eq_true_eq] at hq
        rw [hq]
        simp [atOwner, List.getD, hk]
      rw [decide_eq_true (show (k : Int) ≥ 0 by omega), decide_eq_true ho]
    | none =>
      rw [hf] at h
      refine ⟨-1, h, ?_⟩
      rw [List.find?_eq_none] at hf
      have ho : o ∉ l := fun ho => by
        obtain ⟨i, hi, e⟩ := List.getElem_of_mem ho
        exact hf i (by simpa using hi) (by rw [decide_eq_true_eq]; simp [atOwner, List.getD, hi, e])
      rw [decide_eq_false (show ¬ ((-1 : Int) ≥ 0) by omega), decide_eq_false ho]
  obtain ⟨r, h1, h2⟩ := hi
  obtain ⟨k1, k2⟩ := sp_of h1
  have k1' : sp55 l o = r := k1
  have k2' : spc55 l o = true := k2
  unfold spO28 ent28
  rw [k1', k2', h2]
  rfl
theorem valid_parts {c : Config} (hc : FitC c) (hv : validB c = true) : Sound c ∧ Kern c := by
  have hv' := hv
  simp only [validB, Bool.and_eq_true] at hv'
  have g := good_of hc hv'.1
  exact ⟨g, kern_of g hv'.2⟩
theorem unl_in {a b : List Int} {i : Nat} (h1 : i < a.length) (h2 : i < b.length) : unl a b i = !(atInt a i == atInt b i) := by
  unfold unl
  rw [decide_eq_true h1, decide_eq_true h2]
  cases atInt a i == atInt b i <;> rfl
theorem touched_r {c : Config} (hc : FitC c) {a b : List Int} (ha : a.length ≤ 100000) : spO6 c a b = some (cond (both c a b) (tl c a b (nW c), 0) ([], 1)) := by
  obtain ⟨f1, f2⟩ := sp_of (fits_r hc (m := a))
  have f1' : sp21 c a = _ := f1
  have f2' : spc21 c a = true := f2
  obtain ⟨g1, g2⟩ := sp_of (fits_r hc (m := b))
  have g1' : sp21 c b = _ := g1
  have g2' : spc21 c b = true := g2
  unfold spO6 ent6 both
  rw [f1', f2', g1', g2', cond_true, cond_true]
  cases hv : validB c with
  | false => rfl
  | true =>
  obtain ⟨g, w⟩ := valid_parts hc hv
  obtain ⟨w1, w2⟩ := nW_le g w.kernel
  by_cases h1 : a.length = nW c
  · by_cases h2 : b.length = nW c
    · rw [decide_eq_true h1, decide_eq_true h2]
      show spL6 c a b (.l0 0 []) = some (tl c a b (nW c), 0)
      have h := run_loop (n := nW c) (f := fun i l => spL6 c a b (.l0 (i : Int) l)) (S := fun i => tl c a b i) (fun i hi => by
        have hia : i < a.length := by omega
        have hib : i < b.length := by omega
        have hl := tl_len c a b i
        have e13 : ∀ l : List Owner, spL6 c a b (.l13 (i : Int) l) = spL6 c a b (.l0 ((i + 1 : Nat) : Int) l) := fun l => by
          rw [spL6_eq]
          simp only [bod6, wrap_succ i (show i < 4611686018427387904 by omega)]
        obtain ⟨o1, o2⟩ := sp_of (owner_r g w.kernel (a := i) (by omega))
        have o1' : sp22 c (i : Int) = (own c i, 0) := o1
        have o2' : spc22 c (i : Int) = true := o2
        obtain ⟨m1, m2⟩ := sp_of (among_r2 (l := tl c a b i) (by omega) (own c i))
        have m1' : sp23 (tl c a b i) (own c i) = decide (own c i ∈ tl c a b i) := m1
        have m2' : spc23 (tl c a b i) (own c i) = true := m2
        have b1 : leB (((tl c a b i).length + [own c i].length) * 24) 140737488355328 = true := leB_t (by rw [List.length_singleton]; omega)
        rw [spL6_eq]
        simp only [bod6, Int.toNat_natCast, lt_t hia, inR_of hia, inR_of hib, cond_true, o1', o2', m1', m2', b1, e13]
        rw [tl, unl_in hia hib]
        cases atInt a i == atInt b i with
        | true => rfl
        | false =>
          by_cases hm : own c i ∈ tl c a b i
          · rw [if_pos hm, decide_eq_true hm]; rfl
          · rw [if_neg hm, decide_eq_false hm]; rfl)
      refine Eq.trans h ?_
      have hf : decide ((nW c : Int) < (a.length : Int)) = false := lt_f (by omega)
      rw [spL6_eq]
      simp only [bod6, hf, cond_false, id]
    · rw [decide_eq_true h1, decide_eq_false h2]; rfl
  · rw [decide_eq_false h1]; rfl
theorem stands2_a {c : Config} (hc : FitC c) {m o : MemMemory} (hm : m.words.length ≤ 100000) (ho : o.words.length ≤ 100000) (hm16 : m.words.length % 16 = 0) (ho16 : o.words.length % 16 = 0) : spO25 c [some m, some o] = some (cond (both c m.words o.words) 0 1) := by
  obtain ⟨k1, k2⟩ := ansW_sp (valid_a hc)
  have k1' : spc49 c = true := k1
  have k2' : ((sp49 c).1 == 0) = validB c := k2
  have i1 : spO95 [some m, some o] = some (-1) := by
    show spL95 [some m, some o] (.l0 0) = _
    rw [spL95_eq]
    show spL95 [some m, some o] (.l0 (IntKind.i64.wrap (0 + 1))) = _
    rw [show IntKind.i64.wrap (0 + 1) = 1 from rfl, spL95_eq]
    show spL95 [some m, some o] (.l0 (IntKind.i64.wrap (1 + 1))) = _
    rw [show IntKind.i64.wrap (1 + 1) = 2 from rfl, spL95_eq]
    rfl
  obtain ⟨j1, j2⟩ := sp_of i1
  have j1' : sp95 [some m, some o] = -1 := j1
  have j2' : spc95 [some m, some o] = true := j2
  have m1 : spO48 [some m, some o] = some false := by
    unfold spO48 ent48
    rw [j1', j2']; rfl
  obtain ⟨n1, n2⟩ := sp_of m1
  have n1' : sp48 [some m, some o] = false := n1
  have n2' : spc48 [some m, some o] = true := n2
  have fr : ∀ x : MemMemory, x.words.length ≤ 100000 → spO50 (some x) = some ((x.words.length / 16 : Nat) : Int) := fun x hx => by
    unfold spO50 ent50
    show some (bop .quo .i64 (x.words.length : Int) 16) = _
    rw [quo_nat _ (by omega)]
  obtain ⟨p1, p2⟩ := sp_of (fr m hm)
  have p1' : sp50 (some m) = _ := p1
  have p2' : spc50 (some m) = true := p2
  obtain ⟨q1, q2⟩ := sp_of (fr o ho)
  have q1' : sp50 (some o) = _ := q1
  have q2' : spc50 (some o) = true := q2
  unfold spO25 ent25 both
  rw [n1', n2', cond_true, cond_false, k1', cond_true, k2']
  cases hv : validB c with
  | false => rfl
  | true =>
  obtain ⟨g, w⟩ := valid_parts hc hv
  obtain ⟨w1, w2⟩ := nW_le g w.kernel
  have cm : ((((m.words.length / 16 : Nat)) : Int) == c.frames) = decide (m.words.length = nW c) := by rw [Bool.eq_iff_iff, beq_iff_eq, decide_eq_true_eq]; omega
  have co : ((((o.words.length / 16 : Nat)) : Int) == c.frames) = decide (o.words.length = nW c) := by rw [Bool.eq_iff_iff, beq_iff_eq, decide_eq_true_eq]; omega
  rw [Bool.not_true, cond_false, spL25_eq]
  show cond (spc50 (some m)) (cond (!(sp50 (some m) == c.frames)) (some 1) (spL25 c [some m, some o] (.l0 (IntKind.i64.wrap (0 + 1))))) none = _
  rw [p1', p2', cm, cond_true, Bool.true_and]
  cases decide (m.words.length = nW c) with
  | false => rfl
  | true =>
  rw [Bool.not_true, cond_false, show IntKind.i64.wrap (0 + 1) = 1 from rfl, spL25_eq]
  show cond (spc50 (some o)) (cond (!(sp50 (some o) == c.frames)) (some 1) (spL25 c [some m, some o] (.l0 (IntKind.i64.wrap (1 + 1))))) none = _
  rw [q1', q2', co, cond_true, Bool.true_and]
  cases decide (o.words.length = nW c) with
  | false => rfl
  | true =>
  rw [Bool.not_true, cond_false, show IntKind.i64.wrap (1 + 1) = 2 from rfl, spL25_eq]
  rfl
end Go.Proofs.YtgfifnadfmaolaaGreatDoor
