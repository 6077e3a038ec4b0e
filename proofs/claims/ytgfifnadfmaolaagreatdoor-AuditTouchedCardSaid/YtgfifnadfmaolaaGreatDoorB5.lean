/- The audit's laws, plain law: whose a word is, on both sides; a configuration is the same as itself. -/
import Derived.Test.YtgfifnadfmaolaaGreatDoorB4
namespace Go.Proofs.YtgfifnadfmaolaaGreatDoor
open Go.RowKit
set_option linter.unusedVariables false
set_option linter.unusedSimpArgs false
set_option linter.unusedSectionVars false
/-! #### whose a word is, on both sides. -/
theorem list_loop {α R : Type} {l : List α} {f : Nat → Option R} {q : α → Bool} {g : α → Option R} {e : Option R} (hs : ∀ i (h : i < l.length), f i = cond (q l[i]) (g l[i]) (f (i + 1))) (he : f l.length = e) : f 0 = match l.find? q with | some x => g x | none => e := by
  have : ∀ m i, i + m = l.length → f i = match (l.drop i).find? q with | some x => g x | none => e := by
    intro m
    induction m with
    | zero =>
      intro i hi
      rw [Nat.add_zero] at hi
      subst hi
      simp [he]
    | succ m ih =>
      intro i hi
      have hl : i < l.length := by omega
      rw [hs i hl, ih (i + 1) (by omega), List.drop_eq_getElem_cons hl, List.find?_cons]
      cases q l[i] <;> rfl
  have h := this l.length 0 (Nat.zero_add _)
  rwa [List.drop_zero] at h
theorem find_same {α : Type} {l l' : List α} {q : α → Bool} (hm : ∀ x, x ∈ l' ↔ x ∈ l) (h1 : ∀ x y, x ∈ l → y ∈ l → q x = true → q y = true → x = y) : l'.find? q = l.find? q := by
  cases h : l.find? q with
  | none =>
    rw [List.find?_eq_none] at h ⊢
    exact fun x hx => h x ((hm x).1 hx)
  | some x =>
    have hx := List.mem_of_find?_eq_some h
    have hq := List.find?_some h
    cases h' : l'.find? q with
    | none =>
      rw [List.find?_eq_none] at h'
      exact absurd hq (by simpa using h' x ((hm x).2 hx))
    | some y =>
      rw [h1 y x ((hm y).1 (List.mem_of_find?_eq_some h')) hx (List.find?_some h') hq]
theorem mx_eq (a b : Int) : mx a b = max a b := by
  have h : mx a b = if a < b then b else a := by kernel_rfl
  rw [h]; omega
noncomputable def regQ (c : Config) (f : Nat) (p k : Nat) : Bool := decide ((Rg c p k).frame ≤ f) && decide ((f : Int) < (Rg c p k).frame + (Rg c p k).pages)
noncomputable def regF (c : Config) (f : Nat) : Option Nat := (List.range (nP c)).find? fun p => (List.range (nreg c p)).any (regQ c f p)
noncomputable def own (c : Config) (a : Nat) : Owner := match (refP c).find? (fun x => inP x a) with
  | some x => x.2.2
  | none => match regF c (a / 16) with
    | some p => ⟨1, (p : Int), 0⟩
    | none => ⟨0, 0, 0⟩
theorem atLp_get {xs : List Pc} {i : Nat} (h : i < xs.length) : atLayoutPiece (xs.map mkL) i = mkL xs[i] := by
  simp [atLayoutPiece, List.getD, h]
section
variable {c : Config} (g : Sound c) (hk : 0 ≤ c.kernel ∧ c.kernel < 1024)
include g
theorem reg_bd {p k : Nat} (hp : p < nP c) (hkk : k < nreg c p) : 0 ≤ (Rg c p k).frame ∧ 1 ≤ (Rg c p k).pages ∧ (Rg c p k).frame + (Rg c p k).pages ≤ 1024 ∧ IntKind.i64.wrap ((Rg c p k).frame + (Rg c p k).pages) = (Rg c p k).frame + (Rg c p k).pages := by
  have h := g.regs p k hp hkk
  obtain ⟨h1, h2⟩ := h.ok.pages
  have h3 := h.frame
  have h4 := h.fits
  have h5 := g.frames
  exact ⟨h3, h1, by omega, wrap_in _ (by omega) (by omega)⟩
theorem region_loop_r {a : Nat} (ha : a < 100000) : spL22 c (a : Int) (.l4 0) = some (match regF c (a / 16) with | some p => ⟨1, (p : Int), 0⟩ | none => ⟨0, 0, 0⟩, 0) := by
  have hP : nP c ≤ 8 := g.few.parts
  have h := list_loop (l := List.range (nP c)) (f := fun p => spL22 c (a : Int) (.l4 (p : Int))) (q := fun p => (List.range (nreg c p)).any (regQ c (a / 16) p)) (g := fun p => some ((⟨1, (p : Int), 0⟩ : Owner), (0 : Int))) (e := some ((⟨0, 0, 0⟩ : Owner), 0)) (fun p hp => by
    rw [List.length_range] at hp
    rw [List.getElem_range]
    have hp' : p < c.partitions.length := hp
    have hn := (g.nregs p hp').2
    have hin := any_loop (n := nreg c p) (f := fun k => spL22 c (a : Int) (.l8 (p : Int) (p : Int) (nreg c p) (k : Int))) (q := regQ c (a / 16) p) (r := some ((⟨1, (p : Int), 0⟩ : Owner), (0 : Int))) (e := spL22 c (a : Int) (.l4 ((p + 1 : Nat) : Int))) (fun k hkk => by
      have hkk' : k < (atPartition c.partitions p).regions.length := hkk
      obtain ⟨r1, r2, r3, r4⟩ := reg_bd g hp hkk
      have d1 : decide ((atRegion (atPartition c.partitions p).regions k).frame ≥ 0) = true := decide_eq_true r1
      have d2 : decide ((atRegion (atPartition c.partitions p).regions k).frame ≤ 1024) = true := decide_eq_true (by show (Rg c p k).frame ≤ 1024; omega)
      have d4 : IntKind.i64.wrap ((atRegion (atPartition c.partitions p).regions k).frame + (atRegion (atPartition c.partitions p).regions k).pages) = (Rg c p k).frame + (Rg c p k).pages := r4
      rw [spL22_eq]
      simp only [bod22, Int.toNat_natCast, lt_t hkk, inR_of hp', inR_of hkk', cond_true, d1, d2, d4, quo_nat a (by omega), wrap_succ k (show k < 4611686018427387904 by omega), cond3, id]
      rfl) (by
      rw [spL22_eq]
      simp only [bod22, lt_f (Nat.le_refl _), cond_false, wrap_succ p (show p < 4611686018427387904 by omega)])
    refine Eq.trans ?_ hin
    rw [spL22_eq]
    simp only [bod22, Int.toNat_natCast, lt_t hp', inR_of hp', cond_true]
    rfl) (by
    rw [List.length_range]
    have hf : decide ((nP c : Int) < (c.partitions.length : Int)) = false := lt_f (Nat.le_refl _)
    rw [spL22_eq]
    simp only [bod22, hf, cond_false, id])
  refine Eq.trans h ?_
  unfold regF
  cases List.find? (fun p => (List.range (nreg c p)).any (regQ c (a / 16) p)) (List.range (nP c)) <;> rfl
theorem region_a2 (f : Nat) : spO54 c (f : Int) = some (match regF c f with | some p => ((p : Int), true) | none => (0, false)) := by
  have hP : nP c ≤ 8 := g.few.parts
  have h := list_loop (l := List.range (nP c)) (f := fun p => spL54 c (f : Int) (.l0 (p : Int))) (q := fun p => (List.range (nreg c p)).any (regQ c f p)) (g := fun p => some ((p : Int), true)) (e := some ((0 : Int), false)) (fun p hp => by
    rw [List.length_range] at hp
    rw [List.getElem_range]
    have hp' : p < c.partitions.length := hp
    have hn := (g.nregs p hp').2
    have hin := any_loop (n := nreg c p) (f := fun k => spL54 c (f : Int) (.l4 (p : Int) (p : Int) (P c p).regions (nreg c p) (k : Int))) (q := regQ c f p) (r := some ((p : Int), true)) (e := spL54 c (f : Int) (.l0 ((p + 1 : Nat) : Int))) (fun k hkk => by
      have hkk' : k < (P c p).regions.length := hkk
      obtain ⟨r1, r2, r3, r4⟩ := reg_bd g hp hkk
      have d1 : decide ((atRegion (P c p).regions k).frame ≥ 0) = true := decide_eq_true r1
      have d2 : decide ((atRegion (P c p).regions k).frame ≤ 1024) = true := decide_eq_true (by show (Rg c p k).frame ≤ 1024; omega)
      have d4 : IntKind.i64.wrap ((atRegion (P c p).regions k).frame + (atRegion (P c p).regions k).pages) = (Rg c p k).frame + (Rg c p k).pages := r4
      rw [spL54_eq]
      simp only [bod54, Int.toNat_natCast, lt_t hkk, inR_of hkk', cond_true, d1, d2, d4, wrap_succ k (show k < 4611686018427387904 by omega), cond3, id]
      rfl) (by
      rw [spL54_eq]
      simp only [bod54, lt_f (Nat.le_refl _), cond_false, wrap_succ p (show p < 4611686018427387904 by omega)])
    refine Eq.trans ?_ hin
    rw [spL54_eq]
    simp only [bod54, Int.toNat_natCast, lt_t hp', inR_of hp', cond_true]
    rfl) (by
    rw [List.length_range]
    have hf : decide ((nP c : Int) < (c.partitions.length : Int)) = false := lt_f (Nat.le_refl _)
    rw [spL54_eq]
    simp only [bod54, hf, cond_false, id])
  refine Eq.trans h ?_
  unfold regF
  cases List.find? (fun p => (List.range (nreg c p)).any (regQ c f p)) (List.range (nP c)) <;> rfl
include hk
theorem owner_r {a : Nat} (ha : (a : Int) < 16 * c.frames) : spO22 c (a : Int) = some (own c a, 0) := by
  have hf := g.frames
  obtain ⟨k1, k2⟩ := sp_of (may_r g hk)
  have k1' : sp46 c = true := k1
  have k2' : spc46 c = true := k2
  obtain ⟨p1, p2⟩ := sp_of (pieces_r g hk)
  have p1' : sp47 c = (refP c).map mkR := p1
  have p2' : spc47 c = true := p2
  have hlen := ref_len g hk
  unfold spO22 ent22
  rw [k1', k2', p2', cond_true, Bool.not_true, cond_false, quo_nat a (by omega), decide_eq_false (by omega), decide_eq_false (by omega), decide_eq_false (by omega), cond_false, cond_false, cond_false, cond_true]
  have h := list_loop (l := refP c) (f := fun i => spL22 c (a : Int) (.l0 (i : Int))) (q := fun x => inP x a) (g := fun x => some (x.2.2, (0 : Int))) (e := spL22 c (a : Int) (.l4 0)) (fun i hi => by
    have hm : (refP c)[i] ∈ refP c := List.getElem_mem hi
    have he := ref_end g hk hm
    have hl : i < ((refP c).map mkR).length := by rw [List.length_map]; exact hi
    have ew : IntKind.i64.wrap ((mkR (refP c)[i]).at_ + (mkR (refP c)[i]).size) = (((refP c)[i].1 + (refP c)[i].2.1 : Nat) : Int) := wrap_nat _ _ (by simp only [mkR]; omega) (by omega)
    have d1 : decide ((mkR (refP c)[i]).at_ ≤ (a : Int)) = decide ((refP c)[i].1 ≤ a) := by rw [decide_eq_decide]; show (((refP c)[i].1 : Nat) : Int) ≤ a ↔ _; omega
    have d2 : decide ((a : Int) < (((refP c)[i].1 + (refP c)[i].2.1 : Nat) : Int)) = decide (a < (refP c)[i].1 + (refP c)[i].2.1) := by rw [decide_eq_decide]; omega
    rw [spL22_eq]
    simp only [bod22, Int.toNat_natCast, p1', lt_t hl, inR_of hl, cond_true, atPc_get hi, ew, d1, d2, wrap_succ i (show i < 4611686018427387904 by omega), cond3, id]
    rfl) (by
    have hf : decide (((refP c).length : Int) < (((refP c).map mkR).length : Int)) = false := lt_f (by rw [List.length_map]; exact Nat.le_refl _)
    rw [spL22_eq]
    simp only [bod22, p1', hf, cond_false])
  refine Eq.trans h ?_
  rw [region_loop_r g (by omega)]
  unfold own
  cases (refP c).find? (fun x => inP x a) <;> rfl
theorem owner_a {a : Nat} (ha : (a : Int) < 16 * c.frames) : spO27 c (a : Int) = some (own c a, 0) := by
  have hf := g.frames
  obtain ⟨k1, k2⟩ := sp_of (lay_a g hk)
  have k1' : sp36 c = (lay c, 0) := k1
  have k2' : spc36 c = true := k2
  obtain ⟨p1, p2⟩ := sp_of (pieces_a g hk)
  have p1' : sp53 c (lay c) = (layP c).map mkL := p1
  have p2' : spc53 c (lay c) = true := p2
  have hlen := lB_len g hk (Nat.le_refl (nC c))
  have hlen' : (layP c).length ≤ 400 := hlen
  obtain ⟨r1, r2⟩ := sp_of (region_a2 g (a / 16))
  have r1' : sp54 c ((a / 16 : Nat) : Int) = _ := r1
  have r2' : spc54 c ((a / 16 : Nat) : Int) = true := r2
  have em : IntKind.i64.wrap (16 * mn (mx c.frames 0) 1024) = 16 * c.frames := by
    rw [mn_eq, mx_eq, show min (max c.frames 0) 1024 = c.frames by omega]; exact wrap_in _ (by omega) (by omega)
  have e0 : (((lay c, (0 : Int)).2 : Int) == 0) = true := rfl
  unfold spO27 ent27
  rw [k1', k2', cond_true, em, decide_eq_false (show ¬ ((a : Int) < 0) by omega), decide_eq_false (show ¬ ((a : Int) ≥ 16 * c.frames) by omega)]
  simp only [e0, Bool.not_true, cond_false, p2', cond_true]
  have h := list_loop (l := layP c) (f := fun i => spL27 c (a : Int) (.l0 (i : Int))) (q := fun x => inP x a) (g := fun x => some (x.2.2, (0 : Int))) (e := some (match regF c (a / 16) with | some p => ⟨1, (p : Int), 0⟩ | none => ⟨0, 0, 0⟩, 0)) (fun i hi => by
    have hm : (layP c)[i] ∈ refP c := lay_mem.1 (List.getElem_mem hi)
    have he := ref_end g hk hm
    have hl : i < ((layP c).map mkL).length := by rw [List.length_map]; exact hi
    have ew : IntKind.i64.wrap ((mkL (layP c)[i]).at_ + (mkL (layP c)[i]).many) = (((layP c)[i].1 + (layP c)[i].2.1 : Nat) : Int) := wrap_nat _ _ (by simp only [mkL]; omega) (by omega)
    have d1 : decide ((a : Int) ≥ (mkL (layP c)[i]).at_) = decide ((layP c)[i].1 ≤ a) := by rw [decide_eq_decide]; show (a : Int) ≥ (((layP c)[i].1 : Nat) : Int) ↔ _; omega
    have d2 : decide ((a : Int) < (((layP c)[i].1 + (layP c)[i].2.1 : Nat) : Int)) = decide (a < (layP c)[i].1 + (layP c)[i].2.1) := by rw [decide_eq_decide]; omega
    rw [spL27_eq]
    simp only [bod27, Int.toNat_natCast, k1', p1', lt_t hl, inR_of hl, cond_true, atLp_get hi, ew, d1, d2, wrap_succ i (show i < 4611686018427387904 by omega), cond3, id]
    rfl) (by
    have hf : decide (((layP c).length : Int) < (((layP c).map mkL).length : Int)) = false := lt_f (by rw [List.length_map]; exact Nat.le_refl _)
    rw [spL27_eq]
    simp only [bod27, k1', p1', hf, cond_false, quo_nat a (show a < 4611686018427387904 by omega), r1', r2', cond_true, id]
    cases regF c (a / 16) <;> rfl)
  refine Eq.trans h ?_
  rw [find_same (l := refP c) (l' := layP c) (fun x => lay_mem) (fun x y hx hy h1 h2 => (laid_ref c).one hx hy h1 h2)]
  unfold own
  cases (refP c).find? (fun x => inP x a) <;> rfl
end
/-! ### The same as itself -/
/-! ### The kernel's area -/
noncomputable def nW (c : Config) : Nat := 16 * c.frames.toNat
theorem nW_le {c : Config} (g : Sound c) (hk : 0 ≤ c.kernel ∧ c.kernel < 1024) : nW c ≤ 16384 ∧ (nW c : Int) = 16 * c.frames := by
  have := g.frames
  unfold nW; omega
structure Kern (c : Config) : Prop where
  kernel : 0 ≤ c.kernel ∧ c.kernel < 1024
  room : 1 ≤ c.room ∧ c.kernel + c.room ≤ c.frames
  apart : ∀ p k, p < nP c → k < nreg c p → meetB (Rg c p k).frame (Rg c p k).pages c.kernel c.room = false
  need : (tF c (nP c) : Int) - c.kernel ≤ c.room
theorem kern_of {c : Config} (g : Sound c) (h : kernB c = true) : Kern c := by
  simp only [kernB, Bool.and_eq_true, decide_eq_true_eq] at h
  obtain ⟨h1, h2, h3, h4⟩ := h
  have hk := kin_k g h1
  have hf := g.frames
  unfold rin at h2
  rw [wrap_in _ (by omega) (by omega)] at h2
  simp only [Bool.and_eq_true, decide_eq_true_eq] at h2
  refine ⟨hk, ⟨h2.1, by omega⟩, fun p k hp hkk => ?_, h4⟩
  have h5 : kmeet c = false := by simpa using h3
  exact any_f.1 (any_f.1 h5 p hp) k hkk
end Go.Proofs.YtgfifnadfmaolaaGreatDoor
