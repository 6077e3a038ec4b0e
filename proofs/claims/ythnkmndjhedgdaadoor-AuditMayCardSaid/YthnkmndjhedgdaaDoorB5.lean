/- The law AuditMay, plain law: whose a word is; which owners there are; who may write; the law's function is true. -/
import Derived.Test.YthnkmndjhedgdaaDoorB4
namespace Go.Proofs.YthnkmndjhedgdaaDoor
open Go.RowKit
set_option linter.unusedVariables false
set_option linter.unusedSimpArgs false
set_option linter.unusedSectionVars false
/-! #### whose a word is, on both sides. -/
theorem list_loop {α R : Type} {l : List α} {f : Nat → Option R} {q : α → Bool} {g : α → Option R} {e : Option R} (hs : ∀ i (h : i < l.length), f i = cond (q l[i]) (g l[i]) (f (i + 1))) (he : f l.length = e) : f 0 = match l.find? q with | some x => g x | none => e := by
  have : ∀ m i, i + m = l.length → f i = match (l.drop i).find? q with | some x => g x | none => e := by
    intro m
    induction m with
    | zero =>
      intro i hi
      rw [Nat.add_zero] at hi
      subst hi
      simp [he]
    | succ m ih =>
      intro i hi
      have hl : i < l.length := by omega
      rw [hs i hl, ih (i + 1) (by omega), List.drop_eq_getElem_cons hl, List.find?_cons]
      cases q l[i] <;> rfl
  have h := this l.length 0 (Nat.zero_add _)
  rwa [List.drop_zero] at h
theorem find_same {α : Type} {l l' : List α} {q : α → Bool} (hm : ∀ x, x ∈ l' ↔ x ∈ l) (h1 : ∀ x y, x ∈ l → y ∈ l → q x = true → q y = true → x = y) : l'.find? q = l.find? q := by
  cases h : l.find? q with
  | none =>
    rw [List.find?_eq_none] at h ⊢
    exact fun x hx => h x ((hm x).1 hx)
  | some x =>
    have hx := List.mem_of_find?_eq_some h
    have hq := List.find?_some h
    cases h' : l'.find? q with
    | none =>
      rw [List.find?_eq_none] at h'
      exact absurd hq (by simpa using h' x ((hm x).2 hx))
    | some y =>
      rw [h1 y x ((hm y).1 (List.mem_of_find?_eq_some h')) hx (List.find?_some h') hq]
theorem mx_eq (a b : Int) : mx a b = max a b := by
  have h : mx a b = if a < b then b else a := by kernel_rfl
  rw [h]; omega
noncomputable def regQ (c : Config) (f : Nat) (p k : Nat) : Bool := decide ((Rg c p k).frame ≤ f) && decide ((f : Int) < (Rg c p k).frame + (Rg c p k).pages)
noncomputable def regF (c : Config) (f : Nat) : Option Nat := (List.range (nP c)).find? fun p => (List.range (nreg c p)).any (regQ c f p)
noncomputable def own (c : Config) (a : Nat) : Owner := match (refP c).find? (fun x => inP x a) with
  | some x => x.2.2
  | none => match regF c (a / 16) with
    | some p => ⟨1, (p : Int), 0⟩
    | none => ⟨0, 0, 0⟩
theorem atLp_get {xs : List Pc} {i : Nat} (h : i < xs.length) : atLayoutPiece (xs.map mkL) i = mkL xs[i] := by
  simp [atLayoutPiece, List.getD, h]
section
variable {c : Config} (g : Sound c) (hk : 0 ≤ c.kernel ∧ c.kernel < 1024)
include g
theorem reg_bd {p k : Nat} (hp : p < nP c) (hkk : k < nreg c p) : 0 ≤ (Rg c p k).frame ∧ 1 ≤ (Rg c p k).pages ∧ (Rg c p k).frame + (Rg c p k).pages ≤ 1024 ∧ IntKind.i64.wrap ((Rg c p k).frame + (Rg c p k).pages) = (Rg c p k).frame + (Rg c p k).pages := by
  have h := g.regs p k hp hkk
  obtain ⟨h1, h2⟩ := h.ok.pages
  have h3 := h.frame
  have h4 := h.fits
  have h5 := g.frames
  exact ⟨h3, h1, by omega, wrap_in _ (by omega) (by omega)⟩
theorem region_loop_r {a : Nat} (ha : a < 100000) : spL23 c (a : Int) (.l4 0) = some (match regF c (a / 16) with | some p => ⟨1, (p : Int), 0⟩ | none => ⟨0, 0, 0⟩, 0) := by
  have hP : nP c ≤ 8 := g.few.parts
  have h := list_loop (l := List.range (nP c)) (f := fun p => spL23 c (a : Int) (.l4 (p : Int))) (q := fun p => (List.range (nreg c p)).any (regQ c (a / 16) p)) (g := fun p => some ((⟨1, (p : Int), 0⟩ : Owner), (0 : Int))) (e := some ((⟨0, 0, 0⟩ : Owner), 0)) (fun p hp => by
    rw [List.length_range] at hp
    rw [List.getElem_range]
    have hp' : p < c.partitions.length := hp
    have hn := (g.nregs p hp').2
    have hin := any_loop (n := nreg c p) (f := fun k => spL23 c (a : Int) (.l8 (p : Int) (p : Int) (nreg c p) (k : Int))) (q := regQ c (a / 16) p) (r := some ((⟨1, (p : Int), 0⟩ : Owner), (0 : Int))) (e := spL23 c (a : Int) (.l4 ((p + 1 : Nat) : Int))) (fun k hkk => by
      have hkk' : k < (atPartition c.partitions p).regions.length := hkk
      obtain ⟨r1, r2, r3, r4⟩ := reg_bd g hp hkk
      have d1 : decide ((atRegion (atPartition c.partitions p).regions k).frame ≥ 0) = true := decide_eq_true r1
      have d2 : decide ((atRegion (atPartition c.partitions p).regions k).frame ≤ 1024) = true := decide_eq_true (by show (Rg c p k).frame ≤ 1024; omega)
      have d4 : IntKind.i64.wrap ((atRegion (atPartition c.partitions p).regions k).frame + (atRegion (atPartition c.partitions p).regions k).pages) = (Rg c p k).frame + (Rg c p k).pages := r4
      rw [spL23_eq]
      simp only [bod23, Int.toNat_natCast, lt_t hkk, inR_of hp', inR_of hkk', cond_true, d1, d2, d4, quo_nat a (by omega), wrap_succ k (show k < 4611686018427387904 by omega), cond3, id]
      rfl) (by
      rw [spL23_eq]
      simp only [bod23, lt_f (Nat.le_refl _), cond_false, wrap_succ p (show p < 4611686018427387904 by omega)])
    refine Eq.trans ?_ hin
    rw [spL23_eq]
    simp only [bod23, Int.toNat_natCast, lt_t hp', inR_of hp', cond_true]
    rfl) (by
    rw [List.length_range]
    have hf : decide ((nP c : Int) < (c.partitions.length : Int)) = false := lt_f (Nat.le_refl _)
    rw [spL23_eq]
    simp only [bod23, hf, cond_false, id])
  refine Eq.trans h ?_
  unfold regF
  cases List.find? (fun p => (List.range (nreg c p)).any (regQ c (a / 16) p)) (List.range (nP c)) <;> rfl
theorem region_a2 (f : Nat) : spO43 c (f : Int) = some (match regF c f with | some p => ((p : Int), true) | none => (0, false)) := by
  have hP : nP c ≤ 8 := g.few.parts
  have h := list_loop (l := List.range (nP c)) (f := fun p => spL43 c (f : Int) (.l0 (p : Int))) (q := fun p => (List.range (nreg c p)).any (regQ c f p)) (g := fun p => some ((p : Int), true)) (e := some ((0 : Int), false)) (fun p hp => by
    rw [List.length_range] at hp
    rw [List.getElem_range]
    have hp' : p < c.partitions.length := hp
    have hn := (g.nregs p hp').2
    have hin := any_loop (n := nreg c p) (f := fun k => spL43 c (f : Int) (.l4 (p : Int) (p : Int) (P c p).regions (nreg c p) (k : Int))) (q := regQ c f p) (r := some ((p : Int), true)) (e := spL43 c (f : Int) (.l0 ((p + 1 : Nat) : Int))) (fun k hkk => by
      have hkk' : k < (P c p).regions.length := hkk
      obtain ⟨r1, r2, r3, r4⟩ := reg_bd g hp hkk
      have d1 : decide ((atRegion (P c p).regions k).frame ≥ 0) = true := decide_eq_true r1
      have d2 : decide ((atRegion (P c p).regions k).frame ≤ 1024) = true := decide_eq_true (by show (Rg c p k).frame ≤ 1024; omega)
      have d4 : IntKind.i64.wrap ((atRegion (P c p).regions k).frame + (atRegion (P c p).regions k).pages) = (Rg c p k).frame + (Rg c p k).pages := r4
      rw [spL43_eq]
      simp only [bod43, Int.toNat_natCast, lt_t hkk, inR_of hkk', cond_true, d1, d2, d4, wrap_succ k (show k < 4611686018427387904 by omega), cond3, id]
      rfl) (by
      rw [spL43_eq]
      simp only [bod43, lt_f (Nat.le_refl _), cond_false, wrap_succ p (show p < 4611686018427387904 by omega)])
    refine Eq.trans ?_ hin
    rw [spL43_eq]
    simp only [bod43, Int.toNat_natCast, lt_t hp', inR_of hp', cond_true]
    rfl) (by
    rw [List.length_range]
    have hf : decide ((nP c : Int) < (c.partitions.length : Int)) = false := lt_f (Nat.le_refl _)
    rw [spL43_eq]
    simp only [bod43, hf, cond_false, id])
  refine Eq.trans h ?_
  unfold regF
  cases List.find? (fun p => (List.range (nreg c p)).any (regQ c f p)) (List.range (nP c)) <;> rfl
include hk
theorem owner_r {a : Nat} (ha : (a : Int) < 16 * c.frames) : spO23 c (a : Int) = some (own c a, 0) := by
  have hf := g.frames
  obtain ⟨k1, k2⟩ := sp_of (may_r g hk)
  have k1' : sp37 c = true := k1
  have k2' : spc37 c = true := k2
  obtain ⟨p1, p2⟩ := sp_of (pieces_r g hk)
  have p1' : sp38 c = (refP c).map mkR := p1
  have p2' : spc38 c = true := p2
  have hlen := ref_len g hk
  unfold spO23 ent23
  rw [k1', k2', p2', cond_true, Bool.not_true, cond_false, quo_nat a (by omega), decide_eq_false (by omega), decide_eq_false (by omega), decide_eq_false (by omega), cond_false, cond_false, cond_false, cond_true]
  have h := list_loop (l := refP c) (f := fun i => spL23 c (a : Int) (.l0 (i : Int))) (q := fun x => inP x a) (g := fun x => some (x.2.2, (0 : Int))) (e := spL23 c (a : Int) (.l4 0)) (fun i hi => by
    have hm : (refP c)[i] ∈ refP c := List.getElem_mem hi
    have he := ref_end g hk hm
    have hl : i < ((refP c).map mkR).length := by rw [List.length_map]; exact hi
    have ew : IntKind.i64.wrap ((mkR (refP c)[i]).at_ + (mkR (refP c)[i]).size) = (((refP c)[i].1 + (refP c)[i].2.1 : Nat) : Int) := wrap_nat _ _ (by simp only [mkR]; omega) (by omega)
    have d1 : decide ((mkR (refP c)[i]).at_ ≤ (a : Int)) = decide ((refP c)[i].1 ≤ a) := by rw [decide_eq_decide]; show (((refP c)[i].1 : Nat) : Int) ≤ a ↔ _; omega
    have d2 : decide ((a : Int) < (((refP c)[i].1 + (refP c)[i].2.1 : Nat) : Int)) = decide (a < (refP c)[i].1 + (refP c)[i].2.1) := by rw [decide_eq_decide]; omega
    rw [spL23_eq]
    simp only [bod23, Int.toNat_natCast, p1', lt_t hl, inR_of hl, cond_true, atPc_get hi, ew, d1, d2, wrap_succ i (show i < 4611686018427387904 by omega), cond3, id]
    rfl) (by
    have hf : decide (((refP c).length : Int) < (((refP c).map mkR).length : Int)) = false := lt_f (by rw [List.length_map]; exact Nat.le_refl _)
    rw [spL23_eq]
    simp only [bod23, p1', hf, cond_false])
  refine Eq.trans h ?_
  rw [region_loop_r g (by omega)]
  unfold own
  cases (refP c).find? (fun x => inP x a) <;> rfl
theorem owner_a {a : Nat} (ha : (a : Int) < 16 * c.frames) : spO27 c (a : Int) = some (own c a, 0) := by
  have hf := g.frames
  obtain ⟨k1, k2⟩ := sp_of (lay_a g hk)
  have k1' : sp41 c = (lay c, 0) := k1
  have k2' : spc41 c = true := k2
  obtain ⟨p1, p2⟩ := sp_of (pieces_a g hk)
  have p1' : sp42 c (lay c) = (layP c).map mkL := p1
  have p2' : spc42 c (lay c) = true := p2
  have hlen := lB_len g hk (Nat.le_refl (nC c))
  have hlen' : (layP c).length ≤ 400 := hlen
  obtain ⟨r1, r2⟩ := sp_of (region_a2 g (a / 16))
  have r1' : sp43 c ((a / 16 : Nat) : Int) = _ := r1
  have r2' : spc43 c ((a / 16 : Nat) : Int) = true := r2
  have em : IntKind.i64.wrap (16 * mn (mx c.frames 0) 1024) = 16 * c.frames := by
    rw [mn_eq, mx_eq, show min (max c.frames 0) 1024 = c.frames by omega]; exact wrap_in _ (by omega) (by omega)
  have e0 : (((lay c, (0 : Int)).2 : Int) == 0) = true := rfl
  unfold spO27 ent27
  rw [k1', k2', cond_true, em, decide_eq_false (show ¬ ((a : Int) < 0) by omega), decide_eq_false (show ¬ ((a : Int) ≥ 16 * c.frames) by omega)]
  simp only [e0, Bool.not_true, cond_false, p2', cond_true]
  have h := list_loop (l := layP c) (f := fun i => spL27 c (a : Int) (.l0 (i : Int))) (q := fun x => inP x a) (g := fun x => some (x.2.2, (0 : Int))) (e := some (match regF c (a / 16) with | some p => ⟨1, (p : Int), 0⟩ | none => ⟨0, 0, 0⟩, 0)) (fun i hi => by
    have hm : (layP c)[i] ∈ refP c := lay_mem.1 (List.getElem_mem hi)
    have he := ref_end g hk hm
    have hl : i < ((layP c).map mkL).length := by rw [List.length_map]; exact hi
    have ew : IntKind.i64.wrap ((mkL (layP c)[i]).at_ + (mkL (layP c)[i]).many) = (((layP c)[i].1 + (layP c)[i].2.1 : Nat) : Int) := wrap_nat _ _ (by simp only [mkL]; omega) (by omega)
    have d1 : decide ((a : Int) ≥ (mkL (layP c)[i]).at_) = decide ((layP c)[i].1 ≤ a) := by rw [decide_eq_decide]; show (a : Int) ≥ (((layP c)[i].1 : Nat) : Int) ↔ _; omega
    have d2 : decide ((a : Int) < (((layP c)[i].1 + (layP c)[i].2.1 : Nat) : Int)) = decide (a < (layP c)[i].1 + (layP c)[i].2.1) := by rw [decide_eq_decide]; omega
    rw [spL27_eq]
    simp only [bod27, Int.toNat_natCast, k1', p1', lt_t hl, inR_of hl, cond_true, atLp_get hi, ew, d1, d2, wrap_succ i (show i < 4611686018427387904 by omega), cond3, id]
    rfl) (by
    have hf : decide (((layP c).length : Int) < (((layP c).map mkL).length : Int)) = false := lt_f (by rw [List.length_map]; exact Nat.le_refl _)
    rw [spL27_eq]
    simp only [bod27, k1', p1', hf, cond_false, quo_nat a (show a < 4611686018427387904 by omega), r1', r2', cond_true, id]
    cases regF c (a / 16) <;> rfl)
  refine Eq.trans h ?_
  rw [find_same (l := refP c) (l' := layP c) (fun x => lay_mem) (fun x y hx hy h1 h2 => (laid_ref c).one hx hy h1 h2)]
  unfold own
  cases (refP c).find? (fun x => inP x a) <;> rfl
end
/-! #### which owners a memory has, on both sides. -/
noncomputable def nW (c : Config) : Nat := 16 * c.frames.toNat
noncomputable def hasB (c : Config) (o : Owner) : Bool := (List.range (nW c)).any fun a => decide (own c a = o)
theorem has_t {c : Config} {o : Owner} : hasB c o = true ↔ ∃ a, a < nW c ∧ own c a = o := by
  unfold hasB; rw [any_t]; simp
theorem eq_own (x o : Owner) : (((x.kind : Int) == o.kind) && (((x.index : Int) == o.index) && (((x.port : Int) == o.port) && true))) = decide (x = o) := by
  obtain ⟨a, b, d⟩ := x
  obtain ⟨a', b', d'⟩ := o
  rw [Bool.eq_iff_iff]; simp [Owner.mk.injEq]
theorem own_cases (c : Config) (a : Nat) : (∃ x, Is c x ∧ inP x a = true ∧ own c a = x.2.2) ∨ ((∀ x, Is c x → inP x a = false) ∧ ((∃ p, p < nP c ∧ (List.range (nreg c p)).any (regQ c (a / 16) p) = true ∧ own c a = ⟨1, (p : Int), 0⟩) ∨ ((∀ p, p < nP c → (List.range (nreg c p)).any (regQ c (a / 16) p) = false) ∧ own c a = ⟨0, 0, 0⟩))) := by
  unfold own
  cases h : (refP c).find? (fun x => inP x a) with
  | some x => exact .inl ⟨x, ref_mem.1 (List.mem_of_find?_eq_some h), by simpa using List.find?_some h, rfl⟩
  | none =>
    rw [List.find?_eq_none] at h
    refine .inr ⟨fun x hx => by simpa using h x (ref_mem.2 hx), ?_⟩
    unfold regF
    cases h' : (List.range (nP c)).find? (fun p => (List.range (nreg c p)).any (regQ c (a / 16) p)) with
    | some p =>
      have hm := List.mem_of_find?_eq_some h'
      have hq := List.find?_some h'
      exact .inl ⟨p, by simpa using hm, by simpa using hq, rfl⟩
    | none =>
      rw [List.find?_eq_none] at h'
      exact .inr ⟨fun p hp => by have := h' p (by simpa using hp); simpa using this, rfl⟩
theorem is_kind {c : Config} {x : Pc} (h : Is c x) : 2 ≤ x.2.2.kind := by
  rcases pc_ok h with h | ⟨h | h | h | h, _⟩ | ⟨h | h, _⟩ | ⟨h, _⟩ <;> omega
theorem own_kind (c : Config) (a : Nat) : 0 ≤ (own c a).kind := by
  rcases own_cases c a with ⟨x, hx, _, e⟩ | ⟨_, ⟨p, _, _, e⟩ | ⟨_, e⟩⟩
  · rw [e]; have := is_kind hx; omega
  · rw [e]; show (0 : Int) ≤ 1; decide
  · rw [e]; show (0 : Int) ≤ 0; decide
theorem among_r {l : List Owner} (hl : l.length ≤ 100000) (o : Owner) : spO10 l o = some (decide (o ∈ l)) := by
  have h := any_loop (n := l.length) (f := fun i => spL10 l o (.l0 (i : Int))) (q := fun i => decide (atOwner l i = o)) (r := some true) (e := some false) (fun i hi => by
    rw [spL10_eq]
    simp only [bod10, Int.toNat_natCast, lt_t hi, inR_of hi, cond_true, eq_own, wrap_succ i (show i < 4611686018427387904 by omega), id]) (by
    rw [spL10_eq]
    simp only [bod10, lt_f (Nat.le_refl _), cond_false, id])
  refine Eq.trans (show _ = spL10 l o (.l0 0) from rfl) (Eq.trans h ?_)
  rw [some_any]
  congr 1
  rw [Bool.eq_iff_iff, any_t]
  simp only [decide_eq_true_eq]
  constructor
  · rintro ⟨i, hi, rfl⟩
    simp [atOwner, List.getD, hi]
  · intro h
    obtain ⟨i, hi, e⟩ := List.getElem_of_mem h
    exact ⟨i, hi, by simp [atOwner, List.getD, hi, e]⟩
section
variable {c : Config} (g : Sound c) (hk : 0 ≤ c.kernel ∧ c.kernel < 1024)
include g hk
theorem nW_le : nW c ≤ 16384 ∧ (nW c : Int) = 16 * c.frames := by
  have := g.frames
  unfold nW; omega
theorem owners_loop : ∀ m a, a + m = nW c → ∀ (l : List Owner) (last : Owner), (∀ o, o ∈ l ↔ ∃ b, b < a ∧ own c b = o) → l.length ≤ a → (last ∈ l ∨ last.kind = -1) → ∃ L, spL9 c (.l0 (a : Int) l last.kind last.index last.port) = some L ∧ (∀ o, o ∈ L ↔ ∃ b, b < nW c ∧ own c b = o) ∧ L.length ≤ nW c := by
  obtain ⟨w1, w2⟩ := nW_le g hk
  have hf := g.frames
  have ew : IntKind.i64.wrap (c.frames * 16) = (nW c : Int) := wrap_nat _ _ (by omega) (by omega)
  intro m
  induction m with
  | zero =>
    intro a ha l last hl hlen hlast
    rw [Nat.add_zero] at ha
    subst ha
    refine ⟨l, ?_, hl, hlen⟩
    rw [spL9_eq]
    simp only [bod9, ew, lt_f (Nat.le_refl _), cond_false, id]
  | succ m ih =>
    intro a ha l last hl hlen hlast
    have hlt : a < nW c := by omega
    obtain ⟨o1, o2⟩ := sp_of (owner_r g hk (a := a) (by omega))
    have o1' : sp23 c (a : Int) = (own c a, 0) := o1
    have o2' : spc23 c (a : Int) = true := o2
    obtain ⟨a1, a2⟩ := sp_of (among_r (l := l) (by omega) (own c a))
    have a1' : sp10 l (own c a) = decide (own c a ∈ l) := a1
    have a2' : spc10 l (own c a) = true := a2
    have e19 : ∀ (l' : List Owner) (k i p : Int), spL9 c (.l19 (a : Int) l' k i p (own c a).kind (own c a).index (own c a).port) = spL9 c (.l0 ((a + 1 : Nat) : Int) l' (own c a).kind (own c a).index (own c a).port) := fun l' k i p => by
      rw [spL9_eq]
      simp only [bod9, wrap_succ a (show a < 4611686018427387904 by omega)]
    have b1 : leB ((l.length + [own c a].length) * 24) 140737488355328 = true := leB_t (by rw [List.length_singleton]; omega)
    rw [spL9_eq]
    simp only [bod9, ew, lt_t hlt, cond_true, o1', o2', a1', a2', e19, eq_own]
    have keep : own c a ∈ l → ∃ L, spL9 c (.l0 ((a + 1 : Nat) : Int) l (own c a).kind (own c a).index (own c a).port) = some L ∧ (∀ o, o ∈ L ↔ ∃ b, b < nW c ∧ own c b = o) ∧ L.length ≤ nW c := fun hm => by
      refine ih (a + 1) (by omega) l (own c a) (fun o => ?_) (by omega) (.inl hm)
      rw [hl]
      constructor
      · rintro ⟨b, hb, e⟩; exact ⟨b, by omega, e⟩
      · rintro ⟨b, hb, e⟩
        by_cases hba : b = a
        · subst hba; rw [← e]; exact (hl _).1 hm
        · exact ⟨b, by omega, e⟩
    by_cases heq : own c a = last
    · rw [decide_eq_true heq, Bool.not_true, cond_false]
      refine keep ?_
      rcases hlast with h | h
      · rw [heq]; exact h
      · have := own_kind c a; rw [heq, h] at this; omega
    · rw [decide_eq_false heq, Bool.not_false, cond_true]
      by_cases hm : own c a ∈ l
      · rw [decide_eq_true hm, Bool.not_true, cond_false]; exact keep hm
      · rw [decide_eq_false hm, Bool.not_false, cond_true]
        rw [b1, cond_true]
        refine ih (a + 1) (by omega) _ (own c a) (fun o => ?_) (by rw [List.length_append, List.length_singleton]; omega) (.inl (by simp))
        rw [List.mem_append, hl, List.mem_singleton]
        constructor
        · rintro (⟨b, hb, e⟩ | e)
          · exact ⟨b, by omega, e⟩
          · exact ⟨a, by omega, e.symm⟩
        · rintro ⟨b, hb, e⟩
          by_cases hba : b = a
          · subst hba; exact .inr e.symm
          · exact .inl ⟨b, by omega, e⟩
theorem owners_r : ∃ L, spO9 c = some L ∧ L.length ≤ 100000 ∧ ∀ o, decide (o ∈ L) = hasB c o := by
  obtain ⟨w1, w2⟩ := nW_le g hk
  obtain ⟨L, h1, h2, h3⟩ := owners_loop g hk (nW c) 0 (Nat.zero_add _) [] ⟨-1, 0, 0⟩ (fun o => by simp) (Nat.zero_le _) (.inr rfl)
  refine ⟨L, h1, by omega, fun o => ?_⟩
  rw [Bool.eq_iff_iff, decide_eq_true_eq, h2, has_t]
theorem owns_loop (o : Owner) : spL13 c o (.l2 0) = some (hasB c o) := by
  obtain ⟨w1, w2⟩ := nW_le g hk
  have hf := g.frames
  have ew : IntKind.i64.wrap (16 * c.frames) = (nW c : Int) := wrap_nat _ _ (by omega) (by omega)
  have h := any_loop (n := nW c) (f := fun a => spL13 c o (.l2 (a : Int))) (q := fun a => decide (own c a = o)) (r := some true) (e := some false) (fun a ha => by
    obtain ⟨o1, o2⟩ := sp_of (owner_a g hk (a := a) (by omega))
    have o1' : sp27 c (a : Int) = (own c a, 0) := o1
    have o2' : spc27 c (a : Int) = true := o2
    rw [spL13_eq]
    simp only [bod13, ew, lt_t ha, cond_true, o1', o2', eq_own, wrap_succ a (show a < 4611686018427387904 by omega), id]) (by
    rw [spL13_eq]
    simp only [bod13, ew, lt_f (Nat.le_refl _), cond_false, id])
  exact Eq.trans h (some_any _)
end
/-! #### which owners a memory has, kind by kind. -/
theorem meet_def (a m b o : Int) : meetB a m b o = (decide (a < IntKind.i64.wrap (b + o)) && decide (b < IntKind.i64.wrap (a + m))) := by
  unfold meetB
  refine (sp_of (r := (decide (a < IntKind.i64.wrap (b + o)) && decide (b < IntKind.i64.wrap (a + m)))) ?_).1
  unfold spO35 ent35
  by_cases h : a < IntKind.i64.wrap (b + o) <;> simp [h]
/-- Two runs that have a number in common meet. -/
theorem meet_t {a m b o x : Int} (h1 : 0 ≤ a ∧ 0 ≤ m ∧ a + m ≤ 4096) (h2 : 0 ≤ b ∧ 0 ≤ o ∧ b + o ≤ 4096) (h3 : a ≤ x ∧ x < a + m) (h4 : b ≤ x ∧ x < b + o) : meetB a m b o = true := by
  rw [meet_def, wrap_in _ (by omega) (by omega), wrap_in _ (by omega) (by omega), decide_eq_true (by omega), decide_eq_true (by omega)]; rfl
structure Kern (c : Config) : Prop where
  kernel : 0 ≤ c.kernel ∧ c.kernel < 1024
  room : 1 ≤ c.room ∧ c.kernel + c.room ≤ c.frames
  apart : ∀ p k, p < nP c → k < nreg c p → meetB (Rg c p k).frame (Rg c p k).pages c.kernel c.room = false
  need : (tF c (nP c) : Int) - c.kernel ≤ c.room
theorem kern_of {c : Config} (g : Sound c) (h : kernB c = true) : Kern c := by
  simp only [kernB, Bool.and_eq_true, decide_eq_true_eq] at h
  obtain ⟨h1, h2, h3, h4⟩ := h
  have hk := kin_k g h1
  have hf := g.frames
  unfold rin at h2
  rw [wrap_in _ (by omega) (by omega)] at h2
  simp only [Bool.and_eq_true, decide_eq_true_eq] at h2
  refine ⟨hk, ⟨h2.1, by omega⟩, fun p k hp hkk => ?_, h4⟩
  have h5 : kmeet c = false := by simpa using h3
  exact any_f.1 (any_f.1 h5 p hp) k hkk
theorem mem_ends {c : Config} {q : Nat → Nat → Bool} {e : LayoutEnd} : ∀ n, e ∈ endsL c q n ↔ ∃ j, j < n ∧ ∃ k, k < nport c j ∧ q j k = true ∧ e = ⟨(j : Int), (k : Int)⟩
  | 0 => by simp [endsL]
  | n + 1 => by
    have hp : ∀ j, e ∈ endsP q j (nport c j) ↔ ∃ k, k < nport c j ∧ q j k = true ∧ e = ⟨(j : Int), (k : Int)⟩ := fun j => by
      unfold endsP
      rw [List.mem_map]
      constructor
      · rintro ⟨k, hk, rfl⟩
        rw [List.mem_filter, List.mem_range] at hk
        exact ⟨k, hk.1, hk.2, rfl⟩
      · rintro ⟨k, h1, h2, rfl⟩
        exact ⟨k, by rw [List.mem_filter, List.mem_range]; exact ⟨h1, h2⟩, rfl⟩
    rw [endsL, List.mem_append, mem_ends n, hp]
    constructor
    · rintro (⟨j, hj, h⟩ | h)
      · exact ⟨j, by omega, h⟩
      · exact ⟨n, by omega, h⟩
    · rintro ⟨j, hj, h⟩
      by_cases hjn : j = n
      · subst hjn; exact .inr h
      · exact .inl ⟨j, by omega, h⟩
section
variable {c : Config} (g : Sound c) (w : Kern c)
include g
theorem is_pos {x : Pc} (h : Is c x) : 0 < x.2.1 := by
  cases h with
  | bar => exact Nat.succ_pos 1
  | lock h => exact Nat.succ_pos 1
  | save h => exact Nat.succ_pos 16
  | state h => exact Nat.succ_pos 4
  | chan h => exact Nat.succ_pos 1
  | stage h => exact (stg_le (g.chan _ h).1).1
  | port h hx => rw [(ports_own hx).1]; have := (prt_le (g.chan _ h).1).1; omega
  | tab h hx => obtain ⟨j, hj, rfl⟩ := rep_mem.1 hx; exact Nat.succ_pos 15
theorem dst_iff {i p : Int} : (∃ h, h < nC c ∧ (⟨i, p⟩ : LayoutEnd) ∈ dl c h) ↔ 0 ≤ i ∧ i < nP c ∧ 0 ≤ p ∧ p < (nport c i.toNat : Nat) ∧ (Pt c i.toNat p.toNat).source = false := by
  constructor
  · rintro ⟨h, hh, he⟩
    obtain ⟨j, hj, k, hk, hq, e⟩ := (mem_ends _).1 he
    cases e
    unfold isDst at hq
    simp only [Bool.and_eq_true, Bool.not_eq_true'] at hq
    exact ⟨by omega, Int.ofNat_lt.2 hj, by omega, by rw [Int.toNat_natCast]; omega, by rw [Int.toNat_natCast, Int.toNat_natCast]; exact hq.2⟩
  · rintro ⟨h1, h2, h3, h4, h5⟩
    have hp : i.toNat < c.partitions.length := by have : nP c = c.partitions.length := rfl; omega
    have hk : p.toNat < nport c i.toNat := by omega
    obtain ⟨c1, c2⟩ := g.port _ _ hp hk
    refine ⟨(Pt c i.toNat p.toNat).channel.toNat, by have : nC c = c.channels.length := rfl; omega, (mem_ends _).2 ⟨i.toNat, hp, p.toNat, hk, ?_, by rw [Int.toNat_of_nonneg h1, Int.toNat_of_nonneg h3]⟩⟩
    unfold isDst
    rw [h5, Int.toNat_of_nonneg c1]; simp
theorem iso_iff {k i p : Int} : (∃ x, Is c x ∧ x.2.2 = ⟨k, i, p⟩) ↔ (k = 2 ∧ i = 0 ∧ p = 0) ∨ ((k = 3 ∨ k = 4 ∨ k = 5 ∨ k = 9) ∧ 0 ≤ i ∧ i < nP c ∧ p = 0) ∨ ((k = 6 ∨ k = 7) ∧ 0 ≤ i ∧ i < nC c ∧ p = 0) ∨ (k = 8 ∧ 0 ≤ i ∧ i < nP c ∧ 0 ≤ p ∧ p < (nport c i.toNat : Nat) ∧ (Pt c i.toNat p.toNat).source = false) := by
  constructor
  · rintro ⟨x, hx, e⟩
    cases hx with
    | bar => cases e; exact .inl ⟨rfl, rfl, rfl⟩
    | lock h => cases e; exact .inr (.inl ⟨.inl rfl, by omega, Int.ofNat_lt.2 h, rfl⟩)
    | save h => cases e; exact .inr (.inl ⟨.inr (.inl rfl), by omega, Int.ofNat_lt.2 h, rfl⟩)
    | state h => cases e; exact .inr (.inl ⟨.inr (.inr (.inl rfl)), by omega, Int.ofNat_lt.2 h, rfl⟩)
    | chan h => cases e; exact .inr (.inr (.inl ⟨.inl rfl, by omega, Int.ofNat_lt.2 h, rfl⟩))
    | stage h => cases e; exact .inr (.inr (.inl ⟨.inr rfl, by omega, Int.ofNat_lt.2 h, rfl⟩))
    | port h hx =>
      obtain ⟨_, y, hy, h2⟩ := ports_own hx
      rw [h2] at e
      cases e
      exact .inr (.inr (.inr ⟨rfl, (dst_iff g).1 ⟨_, h, hy⟩⟩))
    | tab h hx =>
      obtain ⟨j, hj, rfl⟩ := rep_mem.1 hx
      cases e; exact .inr (.inl ⟨.inr (.inr (.inr rfl)), by omega, Int.ofNat_lt.2 h, rfl⟩)
  · rintro (⟨rfl, rfl, rfl⟩ | ⟨hk, h1, h2, rfl⟩ | ⟨hk, h1, h2, rfl⟩ | ⟨rfl, h⟩)
    · exact ⟨_, .bar, rfl⟩
    · obtain ⟨n, rfl⟩ := Int.eq_ofNat_of_zero_le h1
      have hn : n < nP c := by omega
      rcases hk with rfl | rfl | rfl | rfl
      · exact ⟨_, .lock hn, rfl⟩
      · exact ⟨_, .save hn, rfl⟩
      · exact ⟨_, .state hn, rfl⟩
      · exact ⟨_, .tab hn (rep_mem.2 ⟨0, by omega, rfl⟩), rfl⟩
    · obtain ⟨n, rfl⟩ := Int.eq_ofNat_of_zero_le h1
      have hn : n < nC c := by omega
      rcases hk with rfl | rfl
      · exact ⟨_, .chan hn, rfl⟩
      · exact ⟨_, .stage hn, rfl⟩
    · obtain ⟨q, hq, he⟩ := (dst_iff g).2 h
      obtain ⟨x, hx, e⟩ := ports_has (s := prt (Ch c q)) (a := dAt c q) he
      exact ⟨x, .port hq hx, e⟩
include w
theorem is_lt {x : Pc} (h : Is c x) : 16 * K0 c ≤ x.1 ∧ x.1 + x.2.1 ≤ 16 * tF c (nP c) ∧ x.1 + x.2.1 ≤ nW c := by
  have h1 := (laid_ref c).in_ x (ref_mem.2 h)
  have h2 := w.need
  have h3 := w.room
  have h4 := g.frames
  unfold nW
  exact ⟨h1.1, h1.2, by omega⟩
theorem has_piece {x : Pc} (h : Is c x) : hasB c x.2.2 = true := by
  have hp := is_pos g h
  have hl := is_lt g w h
  have hin : inP x x.1 = true := inP_iff.2 ⟨Nat.le_refl _, by omega⟩
  refine has_t.2 ⟨x.1, by omega, ?_⟩
  rcases own_cases c x.1 with ⟨y, hy, hi, e⟩ | ⟨hn, _⟩
  · rw [e, (laid_ref c).one (ref_mem.2 hy) (ref_mem.2 h) hi hin]
  · rw [hn x h] at hin; cases hin
theorem meet_apart {p q k i : Nat} (hp : p < nP c) (hq : q < nP c) (hk : k < nreg c p) (hi : i < nreg c q) (hpq : q < p) : meetB (Rg c p k).frame (Rg c p k).pages (Rg c q i).frame (Rg c q i).pages = false := by
  have h := g.regb p k hp hk
  simp only [regB, Bool.and_eq_true] at h
  have h3 : ∀ x, x < p + 1 → ∀ y, y < nreg c x → frameQ c p k x y = false := by simpa using h.2
  have h2 := h3 q (by omega) i hi
  unfold frameQ at h2
  rw [decide_eq_true hpq, Bool.true_or, Bool.true_and] at h2
  exact h2
theorem has_region {p : Nat} (hp : p < nP c) : hasB c ⟨1, (p : Int), 0⟩ = true := by
  have hn := (g.nregs p hp).1
  obtain ⟨r1, r2, r3, _⟩ := reg_bd g hp (show 0 < nreg c p by omega)
  have hfit := (g.regs p 0 hp (by omega)).fits
  have hf := g.frames
  have hw := w.room
  have hkk := w.kernel
  have hfr : (((Rg c p 0).frame.toNat : Nat) : Int) = (Rg c p 0).frame := Int.toNat_of_nonneg r1
  have hd : 16 * (Rg c p 0).frame.toNat / 16 = (Rg c p 0).frame.toNat := by omega
  have hin : regQ c (Rg c p 0).frame.toNat p 0 = true := by
    unfold regQ
    rw [hfr, decide_eq_true (Int.le_refl _), decide_eq_true (by omega)]; rfl
  have hany : (List.range (nreg c p)).any (regQ c (Rg c p 0).frame.toNat p) = true := any_t.2 ⟨0, by omega, hin⟩
  refine has_t.2 ⟨16 * (Rg c p 0).frame.toNat, by unfold nW; omega, ?_⟩
  rcases own_cases c (16 * (Rg c p 0).frame.toNat) with ⟨x, hx, hi, e⟩ | ⟨_, ⟨q, hq, hqa, e⟩ | ⟨hno, _⟩⟩
  · exfalso
    have hl := is_lt g w hx
    have hi' := inP_iff.1 hi
    have hne := w.need
    have ha := w.apart p 0 hp (by omega)
    unfold K0 at hl
    rw [meet_t (x := (Rg c p 0).frame) ⟨r1, by omega, by omega⟩ ⟨hkk.1, by omega, by omega⟩ ⟨Int.le_refl _, by omega⟩ ⟨by omega, by omega⟩] at ha
    cases ha
  · rw [hd] at hqa
    rw [e]
    by_cases hqp : q = p
    · rw [hqp]
    · exfalso
      obtain ⟨k, hkq, hk2⟩ := any_t.1 hqa
      obtain ⟨s1, s2, s3, _⟩ := reg_bd g hq hkq
      unfold regQ at hk2
      simp only [Bool.and_eq_true, decide_eq_true_eq] at hk2
      rw [hfr] at hk2
      by_cases hlt : q < p
      · have ha := meet_apart g w hp hq (show 0 < nreg c p by omega) hkq hlt
        rw [meet_t (x := (Rg c p 0).frame) ⟨r1, by omega, by omega⟩ ⟨s1, by omega, by omega⟩ ⟨Int.le_refl _, by omega⟩ ⟨hk2.1, hk2.2⟩] at ha
        cases ha
      · have ha := meet_apart g w hq hp hkq (show 0 < nreg c p by omega) (by omega)
        rw [meet_t (x := (Rg c p 0).frame) ⟨s1, by omega, by omega⟩ ⟨r1, by omega, by omega⟩ ⟨hk2.1, hk2.2⟩ ⟨Int.le_refl _, by omega⟩] at ha
        cases ha
  · rw [hd] at hno
    rw [hno p hp] at hany
    cases hany
theorem has_iff {k i p : Int} (hk0 : k ≠ 0) : hasB c ⟨k, i, p⟩ = true ↔ (∃ x, Is c x ∧ x.2.2 = ⟨k, i, p⟩) ∨ (k = 1 ∧ 0 ≤ i ∧ i < nP c ∧ p = 0) := by
  constructor
  · intro h
    obtain ⟨a, _, e⟩ := has_t.1 h
    rcases own_cases c a with ⟨x, hx, _, e2⟩ | ⟨_, ⟨q, hq, _, e2⟩ | ⟨_, e2⟩⟩
    · exact .inl ⟨x, hx, by rw [← e2, e]⟩
    · rw [e2] at e
      cases e
      exact .inr ⟨rfl, by omega, Int.ofNat_lt.2 hq, rfl⟩
    · rw [e2] at e
      cases e
      exact absurd rfl hk0
  · rintro (⟨x, hx, e⟩ | ⟨rfl, h1, h2, rfl⟩)
    · rw [← e]; exact has_piece g w hx
    · obtain ⟨n, rfl⟩ := Int.eq_ofNat_of_zero_le h1
      exact has_region g w (by omega)
theorem has_2 {i p : Int} : hasB c ⟨2, i, p⟩ = ((i == 0) && (p == 0)) := by
  rw [Bool.eq_iff_iff, has_iff g w (by decide), iso_iff g]
  simp
theorem has_p {k i p : Int} (hk : k = 1 ∨ k = 3 ∨ k = 4 ∨ k = 5 ∨ k = 9) : hasB c ⟨k, i, p⟩ = (decide (i ≥ 0) && (decide (i < (c.partitions.length : Int)) && (p == 0))) := by
  rw [Bool.eq_iff_iff, has_iff g w (by omega), iso_iff g]
  simp only [Bool.and_eq_true, decide_eq_true_eq, beq_iff_eq]
  unfold nP nC
  constructor
  · intro h; omega
  · intro h; omega
theorem has_c {k i p : Int} (hk : k = 6 ∨ k = 7) : hasB c ⟨k, i, p⟩ = (decide (i ≥ 0) && (decide (i < (c.channels.length : Int)) && (p == 0))) := by
  rw [Bool.eq_iff_iff, has_iff g w (by omega), iso_iff g]
  simp only [Bool.and_eq_true, decide_eq_true_eq, beq_iff_eq]
  unfold nP nC
  constructor
  · intro h; omega
  · intro h; omega
theorem has_8 {i p : Int} : hasB c ⟨8, i, p⟩ = (decide (i ≥ 0) && (decide (i < (c.partitions.length : Int)) && (decide (p ≥ 0) && (decide (p < (nport c i.toNat : Int)) && !(Pt c i.toNat p.toNat).source)))) := by
  rw [Bool.eq_iff_iff, has_iff g w (by decide), iso_iff g]
  simp only [Bool.and_eq_true, decide_eq_true_eq, beq_iff_eq, Bool.not_eq_true']
  unfold nP nC
  constructor
  · rintro ((h | h | h | ⟨_, h⟩) | h)
    · omega
    · omega
    · omega
    · exact h
    · omega
  · intro h; exact .inl (.inr (.inr (.inr ⟨trivial, h⟩)))
theorem owns_a (o : Owner) : spO13 c o = some (hasB c o) := by
  have hl := owns_loop g w.kernel o
  obtain ⟨k, i, p⟩ := o
  by_cases k2 : k = 2
  · subst k2
    rw [has_2 g w]
    show cond (decide (i ≥ 0)) (some (true && ((i == 0) && ((p == 0) && true)))) (some (true && ((i == 0) && ((p == 0) && true)))) = _
    rw [Bool.and_true, Bool.true_and]
    cases decide (i ≥ 0) <;> rfl
  by_cases k1 : k = 1 ∨ k = 3 ∨ k = 4 ∨ k = 5 ∨ k = 9
  · rw [has_p g w k1]
    have : spO13 c ⟨k, i, p⟩ = cond (decide (i ≥ 0)) (cond (decide (i < (c.partitions.length : Int))) (some (p == 0)) (some false)) (some false) := by
      rcases k1 with rfl | rfl | rfl | rfl | rfl <;> rfl
    rw [this]
    cases decide (i ≥ 0) <;> cases decide (i < (c.partitions.length : Int)) <;> rfl
  by_cases k6 : k = 6 ∨ k = 7
  · rw [has_c g w k6]
    have : spO13 c ⟨k, i, p⟩ = cond (decide (i ≥ 0)) (cond (decide (i ≥ 0)) (cond (decide (i < (c.channels.length : Int))) (some (p == 0)) (some false)) (some false)) (cond (decide (i ≥ 0)) (cond (decide (i < (c.channels.length : Int))) (some (p == 0)) (some false)) (some false)) := by
      rcases k6 with rfl | rfl <;> rfl
    rw [this]
    cases decide (i ≥ 0) <;> cases decide (i < (c.channels.length : Int)) <;> rfl
  by_cases k8 : k = 8
  · subst k8
    rw [has_8 g w]
    have : spO13 c ⟨8, i, p⟩ = cond (decide (i ≥ 0)) (cond (decide (i < (c.partitions.length : Int))) (cond (decide (p ≥ 0)) (cond (inR i c.partitions.length) (cond (decide (p < (nport c i.toNat : Int))) (cond (inR i c.partitions.length) (cond (inR p (nport c i.toNat)) (some (!(Pt c i.toNat p.toNat).source)) none) none) (some false)) none) (some false)) (some false)) (some false) := rfl
    rw [this]
    by_cases h1 : i ≥ 0
    · by_cases h2 : i < (c.partitions.length : Int)
      · by_cases h3 : p ≥ 0
        · rw [inR_int h1 h2]
          by_cases h4 : p < (nport c i.toNat : Int)
          · rw [inR_int h3 h4, decide_eq_true h1, decide_eq_true h2, decide_eq_true h3, decide_eq_true h4]; rfl
          · rw [decide_eq_true h1, decide_eq_true h2, decide_eq_true h3, decide_eq_false h4]; rfl
        · rw [decide_eq_true h1, decide_eq_true h2, decide_eq_false h3]; rfl
      · rw [decide_eq_true h1, decide_eq_false h2]; rfl
    · rw [decide_eq_false h1]; rfl
  · rw [← hl]
    unfold spO13 ent13
    have n1 : (k == 1) = false := beq_eq_false_iff_ne.2 (by omega)
    have n2 : (k == 2) = false := beq_eq_false_iff_ne.2 (by omega)
    have n3 : (k == 3) = false := beq_eq_false_iff_ne.2 (by omega)
    have n4 : (k == 4) = false := beq_eq_false_iff_ne.2 (by omega)
    have n5 : (k == 5) = false := beq_eq_false_iff_ne.2 (by omega)
    have n6 : (k == 6) = false := beq_eq_false_iff_ne.2 (by omega)
    have n7 : (k == 7) = false := beq_eq_false_iff_ne.2 (by omega)
    have n8 : (k == 8) = false := beq_eq_false_iff_ne.2 (by omega)
    have n9 : (k == 9) = false := beq_eq_false_iff_ne.2 (by omega)
    simp only [n1, n2, n3, n4, n5, n6, n7, n8, n9, cond_false, cond_same]
end
/-! #### a configuration is the same as itself; ends; who may write, on both sides; the law's function is true. -/
/-! ### The same as itself -/
theorem same_part {x : Partition} (h1 : x.regions.length * 32 ≤ B47) (h2 : x.ports.length * 16 ≤ B47) : spO15 x x = some true := by
  unfold B47 at h1 h2
  have h0 := run_loop (n := x.regions.length) (f := fun i (_ : Unit) => spL15 x x (.l0 (i : Int))) (S := fun _ => ()) (fun i hi => by
    rw [spL15_eq]
    simp only [bod15, Int.toNat_natCast, lt_t hi, inR_of hi, cond_true, beq_self_eq_true, Bool.and_true, Bool.not_true, cond_false, wrap_succ i (show i < 4611686018427387904 by omega)])
  have h4 := run_loop (n := x.ports.length) (f := fun i (_ : Unit) => spL15 x x (.l4 (i : Int))) (S := fun _ => ()) (fun i hi => by
    rw [spL15_eq]
    simp only [bod15, Int.toNat_natCast, lt_t hi, inR_of hi, cond_true, beq_self_eq_true, Bool.and_true, Bool.not_true, cond_false, wrap_succ i (show i < 4611686018427387904 by omega)])
  unfold spO15 ent15
  simp only [beq_self_eq_true, Bool.not_true, cond_false]
  refine Eq.trans h0 ?_
  rw [spL15_eq]
  simp only [bod15, lt_f (Nat.le_refl _), cond_false]
  refine Eq.trans h4 ?_
  rw [spL15_eq]
  simp only [bod15, lt_f (Nat.le_refl _), cond_false, id]
theorem same_r {c : Config} (hc : FitC c) : spO7 c c = some true := by
  have hB : B47 = 140737488351232 := rfl
  have b1 := hc.chans
  have b2 := hc.cores
  have b3 := hc.parts
  have h0 := run_loop (n := c.channels.length) (f := fun i (_ : Unit) => spL7 c c (.l0 (i : Int))) (S := fun _ => ()) (fun i hi => by
    rw [spL7_eq]
    simp only [bod7, Int.toNat_natCast, lt_t hi, inR_of hi, cond_true, beq_self_eq_true, Bool.and_true, Bool.not_true, cond_false, wrap_succ i (show i < 4611686018427387904 by omega)])
  have h4 := run_loop (n := c.cores.length) (f := fun i (_ : Unit) => spL7 c c (.l4 (i : Int))) (S := fun _ => ()) (fun i hi => by
    have b4 := hc.core i hi
    have h8 := run_loop (n := (atLWindow c.cores i).length) (f := fun k (_ : Unit) => spL7 c c (.l8 (i : Int) (k : Int))) (S := fun _ => ()) (fun k hk => by
      rw [spL7_eq]
      simp only [bod7, Int.toNat_natCast, lt_t hk, inR_of hi, inR_of hk, cond_true, beq_self_eq_true, Bool.and_true, Bool.not_true, cond_false, wrap_succ k (show k < 4611686018427387904 by omega)])
    rw [spL7_eq]
    simp only [bod7, Int.toNat_natCast, lt_t hi, inR_of hi, cond_true, beq_self_eq_true, Bool.not_true, cond_false]
    refine Eq.trans h8 ?_
    rw [spL7_eq]
    simp only [bod7, Int.toNat_natCast, inR_of hi, lt_f (Nat.le_refl _), cond_true, cond_false, wrap_succ i (show i < 4611686018427387904 by omega)])
  have h12 := run_loop (n := c.partitions.length) (f := fun i (_ : Unit) => spL7 c c (.l12 (i : Int))) (S := fun _ => ()) (fun i hi => by
    obtain ⟨k1, k2⟩ := sp_of (same_part (hc.regions i hi) (hc.ports i hi))
    have k1' : sp15 (atPartition c.partitions i) (atPartition c.partitions i) = true := k1
    have k2' : spc15 (atPartition c.partitions i) (atPartition c.partitions i) = true := k2
    rw [spL7_eq]
    simp only [bod7, Int.toNat_natCast, lt_t hi, inR_of hi, cond_true, k1', k2', Bool.not_true, cond_false, wrap_succ i (show i < 4611686018427387904 by omega)])
  unfold spO7 ent7
  simp only [beq_self_eq_true, Bool.not_true, cond_false]
  refine Eq.trans h0 ?_
  rw [spL7_eq]
  simp only [bod7, lt_f (Nat.le_refl _), cond_false]
  refine Eq.trans h4 ?_
  rw [spL7_eq]
  simp only [bod7, lt_f (Nat.le_refl _), cond_false]
  refine Eq.trans h12 ?_
  rw [spL7_eq]
  simp only [bod7, lt_f (Nat.le_refl _), cond_false, id]
/-! ### What every call looks at first -/
theorem stands_a {c : Config} (hc : FitC c) : spO12 c [] = some (cond (validB c) 0 1) := by
  obtain ⟨k1, k2⟩ := ansW_sp (valid_a hc)
  have k1' : spc25 c = true := k1
  have k2' : ((sp25 c).1 == 0) = validB c := k2
  have i1 : spO39 [] = some (-1) := by
    show spL39 [] (.l0 0) = _
    rw [spL39_eq]; rfl
  obtain ⟨j1, j2⟩ := sp_of i1
  have j1' : sp39 [] = -1 := j1
  have j2' : spc39 [] = true := j2
  have m1 : spO24 [] = some false := by
    unfold spO24 ent24
    rw [j1', j2']; rfl
  obtain ⟨n1, n2⟩ := sp_of m1
  have n1' : sp24 [] = false := n1
  have n2' : spc24 [] = true := n2
  unfold spO12 ent12
  rw [n1', n2', cond_true, cond_false, k1', cond_true, k2']
  cases validB c with
  | false => rfl
  | true =>
    rw [Bool.not_true, cond_false, spL12_eq]
    rfl
/-! ### Ends -/
noncomputable def anyE (c : Config) (h : Int) (p : Nat) : Nat → Bool := fun n => (List.range n).any fun k => (Pt c p k).channel == h
noncomputable def anyS (c : Config) (h : Int) (p : Nat) : Nat → Bool := fun n => (List.range n).any (isSrc c h p)
theorem ends28 {c : Config} (g : Sound c) {p : Nat} (hp : p < nP c) (h : Int) : spO11 c (p : Int) h = some (anyE c h p (nport c p), anyS c h p (nport c p)) := by
  have hp' : p < c.partitions.length := hp
  have hn := g.few.ports p hp'
  have hl := run_loop (n := nport c p) (f := fun k (x : Bool × Bool) => spL11 c (p : Int) h (.l0 x.1 x.2 (k : Int))) (S := fun k => (anyE c h p k, anyS c h p k)) (fun k hk => by
    have hk' : k < (atPartition c.partitions p).ports.length := hk
    have e11 : ∀ a b : Bool, spL11 c (p : Int) h (.l11 a b (k : Int)) = spL11 c (p : Int) h (.l0 a b ((k + 1 : Nat) : Int)) := fun a b => by
      rw [spL11_eq]
      simp only [bod11, wrap_succ k (show k < 4611686018427387904 by omega)]
    rw [spL11_eq]
    simp only [bod11, Int.toNat_natCast, lt_t hk', inR_of hk', inR_of hp', cond_true, e11]
    unfold anyE anyS
    rw [any_succ, any_succ]
    unfold isSrc Pt P
    cases (atPort (atPartition c.partitions p).ports k).channel == h <;> cases (atPort (atPartition c.partitions p).ports k).source <;> simp only [cond_true, cond_false, Bool.or_true, Bool.or_false, Bool.true_and, Bool.false_and] <;> cases ((List.range k).any fun k => (atPort (atPartition c.partitions p).ports k).channel == h && (atPort (atPartition c.partitions p).ports k).source) <;> rfl)
  refine Eq.trans (show _ = spL11 c (p : Int) h (.l0 false false 0) from rfl) (Eq.trans hl ?_)
  have hf : decide ((nport c p : Int) < ((atPartition c.partitions p).ports.length : Int)) = false := lt_f (Nat.le_refl _)
  rw [spL11_eq]
  simp only [bod11, Int.toNat_natCast, inR_of hp', hf, cond_true, cond_false, id]
theorem index_a {l : List Port} (hl : l.length ≤ 100000) (v : Port) : ∃ r, spO44 l v = some r ∧ decide (r ≥ 0) = (List.range l.length).any fun k => (v.channel == (atPort l k).channel) && (v.source == (atPort l k).source) := by
  have h := list_loop (l := List.range l.length) (f := fun k => spL44 l v (.l0 (k : Int))) (q := fun k => (v.channel == (atPort l k).channel) && (v.source == (atPort l k).source)) (g := fun k => some (k : Int)) (e := some (-1)) (fun k hk => by
    rw [List.length_range] at hk
    rw [List.getElem_range, spL44_eq]
    simp only [bod44, Int.toNat_natCast, lt_t hk, inR_of hk, cond_true, Bool.and_true, wrap_succ k (show k < 4611686018427387904 by omega), id]) (by
    rw [List.length_range, spL44_eq]
    simp only [bod44, lt_f (Nat.le_refl _), cond_false, id])
  cases hf : (List.range l.length).find? (fun k => (v.channel == (atPort l k).channel) && (v.source == (atPort l k).source)) with
  | some k =>
    rw [hf] at h
    refine ⟨(k : Int), h, ?_⟩
    rw [decide_eq_true (show (k : Int) ≥ 0 by omega), eq_comm, any_t]
    have hm := List.mem_of_find?_eq_some hf
    have hq := List.find?_some hf
    exact ⟨k, by simpa using hm, hq⟩
  | none =>
    rw [hf] at h
    refine ⟨-1, h, ?_⟩
    rw [decide_eq_false (show ¬ ((-1 : Int) ≥ 0) by omega), eq_comm, any_f]
    rw [List.find?_eq_none] at hf
    exact fun k hk => by have := hf k (by simpa using hk); simpa using this
theorem isEnd_a {c : Config} (g : Sound c) {p : Nat} (hp : p < nP c) (h : Int) (s : Bool) : spO14 c (p : Int) h s = some ((List.range (nport c p)).any fun k => (h == (Pt c p k).channel) && (s == (Pt c p k).source)) := by
  have hp' : p < c.partitions.length := hp
  have hn := g.few.ports p hp'
  have hn' : (atPartition c.partitions p).ports.length ≤ 8 := hn
  obtain ⟨r, h1, h2⟩ := index_a (l := (atPartition c.partitions p).ports) (by omega) ⟨h, s⟩
  obtain ⟨k1, k2⟩ := sp_of h1
  have k1' : sp44 (atPartition c.partitions p).ports ⟨h, s⟩ = r := k1
  have k2' : spc44 (atPartition c.partitions p).ports ⟨h, s⟩ = true := k2
  have m1 : spO28 (atPartition c.partitions p).ports ⟨h, s⟩ = some (decide (r ≥ 0)) := by
    unfold spO28 ent28
    rw [k1', k2']; rfl
  obtain ⟨n1, n2⟩ := sp_of m1
  have n1' : sp28 (atPartition c.partitions p).ports ⟨h, s⟩ = _ := n1
  have n2' : spc28 (atPartition c.partitions p).ports ⟨h, s⟩ = true := n2
  unfold spO14 ent14
  rw [decide_eq_true (by omega), cond_true, inR_of hp', cond_true, Int.toNat_natCast, n1', n2', cond_true, h2]
  rfl
theorem end_src (c : Config) (p : Nat) (h : Int) : ((List.range (nport c p)).any fun k => (h == (Pt c p k).channel) && (true == (Pt c p k).source)) = anyS c h p (nport c p) := by
  unfold anyS
  refine any_eq fun k _ => ?_
  unfold isSrc
  rw [Bool.beq_comm (a := h)]
  cases (Pt c p k).source <;> rfl
theorem end_any (c : Config) (p : Nat) (h : Int) : (anyS c h p (nport c p) || ((List.range (nport c p)).any fun k => (h == (Pt c p k).channel) && (false == (Pt c p k).source))) = anyE c h p (nport c p) := by
  unfold anyS anyE isSrc
  rw [Bool.eq_iff_iff, Bool.or_eq_true, any_t, any_t, any_t]
  constructor
  · rintro (⟨k, hk, h1⟩ | ⟨k, hk, h1⟩)
    · simp only [Bool.and_eq_true] at h1; exact ⟨k, hk, h1.1⟩
    · simp only [Bool.and_eq_true, beq_iff_eq] at h1; exact ⟨k, hk, by rw [beq_iff_eq]; exact h1.1.symm⟩
  · rintro ⟨k, hk, h1⟩
    rw [beq_iff_eq] at h1
    cases hs : (Pt c p k).source with
    | true => exact .inl ⟨k, hk, by rw [h1, hs]; simp⟩
    | false => exact .inr ⟨k, hk, by rw [h1, hs]; simp⟩
/-! #### who may write, on both sides; the law's function is true. -/
theorem may_eq {c : Config} (hc : FitC c) (p : Int) (o : Owner) : ∃ r, spO4 c p o = some r ∧ spO6 c p o = some r := by
  obtain ⟨k1, k2⟩ := ansW_sp (valid_r hc)
  have k1' : spc8 c = true := k1
  have k2' : ((sp8 c).1 == 0) = validB c := k2
  obtain ⟨s1, s2⟩ := sp_of (stands_a hc)
  have s1' : sp12 c [] = cond (validB c) 0 1 := s1
  have s2' : spc12 c [] = true := s2
  unfold spO4 ent4 spO6 ent6
  rw [k1', k2', s1', s2', cond_true, cond_true]
  cases hv : validB c with
  | false => exact ⟨_, rfl, rfl⟩
  | true =>
  have hv' := hv
  simp only [validB, Bool.and_eq_true] at hv'
  have g := good_of hc hv'.1
  have w := kern_of g hv'.2
  simp only [Bool.not_true, cond_true, cond_false, show ((0 : Int) == 0) = true from rfl]
  by_cases p1 : p < -1
  · rw [decide_eq_true p1]; exact ⟨_, rfl, rfl⟩
  rw [decide_eq_false p1, cond_false, cond_false]
  by_cases p2 : p ≥ (c.partitions.length : Int)
  · rw [decide_eq_true p2]; exact ⟨_, rfl, rfl⟩
  rw [decide_eq_false p2, cond_false, cond_false]
  obtain ⟨L, l1, l2, l3⟩ := owners_r g w.kernel
  obtain ⟨a1, a2⟩ := sp_of l1
  have a1' : sp9 c = L := a1
  have a2' : spc9 c = true := a2
  obtain ⟨b1, b2⟩ := sp_of (among_r l2 o)
  have b1' : sp10 L o = decide (o ∈ L) := b1
  have b2' : spc10 L o = true := b2
  obtain ⟨d1, d2⟩ := sp_of (owns_a g w o)
  have d1' : sp13 c o = hasB c o := d1
  have d2' : spc13 c o = true := d2
  rw [a1', a2', cond_true, b1', b2', cond_true, d1', d2', cond_true, l3]
  cases hh : hasB c o with
  | false => exact ⟨_, rfl, rfl⟩
  | true =>
  rw [Bool.not_true, cond_false, cond_false]
  obtain ⟨k, i, q⟩ := o
  have hidx : (k = 1 ∨ k = 3 ∨ k = 4 ∨ k = 5 ∨ k = 9) → 0 ≤ i := fun h => by
    rw [has_p g w h] at hh
    simp only [Bool.and_eq_true, decide_eq_true_eq] at hh
    exact hh.1
  by_cases pm : p = -1
  · subst pm
    by_cases e2 : k = 2
    · subst e2; exact ⟨_, rfl, rfl⟩
    by_cases e7 : k = 7
    · subst e7; exact ⟨_, rfl, rfl⟩
    by_cases e8 : k = 8
    · subst e8; exact ⟨_, rfl, rfl⟩
    by_cases e6 : k = 6
    · subst e6; exact ⟨_, rfl, rfl⟩
    have n2 : (k == 2) = false := beq_eq_false_iff_ne.2 e2
    have n6 : (k == 6) = false := beq_eq_false_iff_ne.2 e6
    have n7 : (k == 7) = false := beq_eq_false_iff_ne.2 e7
    have n8 : (k == 8) = false := beq_eq_false_iff_ne.2 e8
    refine ⟨(false, 0), ?_, ?_⟩
    · simp only [n2, n7, n8, cond_false]; rfl
    · simp only [n2, n6, n7, n8, cond_false]
      by_cases h : k = 1 ∨ k = 3 ∨ k = 4 ∨ k = 5 ∨ k = 9
      · have hi := hidx h
        rw [show (i == -1) = false from beq_eq_false_iff_ne.2 (by omega)]
        cases (k == 1) <;> cases (k == 3) <;> cases (k == 4) <;> cases (k == 5) <;> rfl
      · rw [show (k == 1) = false from beq_eq_false_iff_ne.2 (by omega), show (k == 3) = false from beq_eq_false_iff_ne.2 (by omega), show (k == 4) = false from beq_eq_false_iff_ne.2 (by omega), show (k == 5) = false from beq_eq_false_iff_ne.2 (by omega)]
        rfl
  · obtain ⟨n, rfl⟩ := Int.eq_ofNat_of_zero_le (show 0 ≤ p by omega)
    have hn : n < nP c := by have : nP c = c.partitions.length := rfl; omega
    have npm : ((Int.ofNat n : Int) == -1) = false := beq_eq_false_iff_ne.2 pm
    have npm' : (((n : Nat) : Int) == -1) = false := beq_eq_false_iff_ne.2 pm
    obtain ⟨f1, f2⟩ := sp_of (ends28 g hn i)
    have f1' : sp11 c (n : Int) i = _ := f1
    have f2' : spc11 c (n : Int) i = true := f2
    obtain ⟨t1, t2⟩ := sp_of (isEnd_a g hn i true)
    have t1' : sp14 c (n : Int) i true = _ := t1
    have t2' : spc14 c (n : Int) i true = true := t2
    rw [end_src] at t1'
    obtain ⟨u1, u2⟩ := sp_of (isEnd_a g hn i false)
    have u1' : sp14 c (n : Int) i false = _ := u1
    have u2' : spc14 c (n : Int) i false = true := u2
    have he := end_any c n i
    rw [npm', cond_false]
    simp only [npm', cond_false, f1', f2', t1', t2', u1', u2', cond_true]
    by_cases e2 : k = 2
    · subst e2; exact ⟨_, rfl, rfl⟩
    by_cases e1 : k = 1
    · subst e1; exact ⟨_, rfl, rfl⟩
    by_cases e3 : k = 3
    · subst e3; exact ⟨_, rfl, rfl⟩
    by_cases e4 : k = 4
    · subst e4; exact ⟨_, rfl, rfl⟩
    by_cases e5 : k = 5
    · subst e5; exact ⟨_, rfl, rfl⟩
    by_cases e8 : k = 8
    · subst e8; exact ⟨_, rfl, rfl⟩
    by_cases e7 : k = 7
    · subst e7; exact ⟨_, rfl, rfl⟩
    by_cases e6 : k = 6
    · subst e6
      refine ⟨(anyE c i n (nport c n), 0), rfl, ?_⟩
      rw [← he]
      show cond (anyS c i n (nport c n)) _ _ = _
      cases anyS c i n (nport c n) <;> rfl
    have n1 : (k == 1) = false := beq_eq_false_iff_ne.2 e1
    have n2 : (k == 2) = false := beq_eq_false_iff_ne.2 e2
    have n3 : (k == 3) = false := beq_eq_false_iff_ne.2 e3
    have n4 : (k == 4) = false := beq_eq_false_iff_ne.2 e4
    have n5 : (k == 5) = false := beq_eq_false_iff_ne.2 e5
    have n6 : (k == 6) = false := beq_eq_false_iff_ne.2 e6
    have n7 : (k == 7) = false := beq_eq_false_iff_ne.2 e7
    have n8 : (k == 8) = false := beq_eq_false_iff_ne.2 e8
    simp only [n1, n2, n3, n4, n5, n6, n7, n8, cond_false]
    exact ⟨_, rfl, rfl⟩
theorem law_true {c : Config} (hc : FitC c) (p : Int) (o : Owner) : spO3 c p o = some true := by
  obtain ⟨k1, k2⟩ := sp_of (copied_eq hc)
  have k1' : sp5 c = c := k1
  have k2' : spc5 c = true := k2
  obtain ⟨r, h1, h2⟩ := may_eq hc p o
  obtain ⟨a1, a2⟩ := sp_of h1
  have a1' : sp4 c p o = r := a1
  have a2' : spc4 c p o = true := a2
  obtain ⟨b1, b2⟩ := sp_of h2
  have b1' : sp6 c p o = r := b1
  have b2' : spc6 c p o = true := b2
  obtain ⟨d1, d2⟩ := sp_of (same_r hc)
  have d1' : sp7 c c = true := d1
  have d2' : spc7 c c = true := d2
  unfold spO3 ent3
  simp only [a1', a2', k1', k2', b1', b2', d1', d2', cond_true, beq_self_eq_true, id]
end Go.Proofs.YthnkmndjhedgdaaDoor
