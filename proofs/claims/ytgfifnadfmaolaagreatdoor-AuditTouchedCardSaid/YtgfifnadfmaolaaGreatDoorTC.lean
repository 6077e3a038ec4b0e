/- The laws of the audit, plain law: a booted memory has its words: Place, tables, Boot, laid. -/
import Derived.Test.YtgfifnadfmaolaaGreatDoorTB
namespace Go.Proofs.YtgfifnadfmaolaaGreatDoor
open Go.RowKit
set_option linter.unusedVariables false
set_option linter.unusedSimpArgs false
set_option linter.unusedSectionVars false
structure RegsFine (x : Partition) : Prop where
  few : x.regions.length ≤ 8
  page : ∀ i, i < x.regions.length → 0 ≤ (atRegion x.regions i).page ∧ (atRegion x.regions i).page ≤ 255 ∧ 1 ≤ (atRegion x.regions i).pages ∧ (atRegion x.regions i).page + (atRegion x.regions i).pages ≤ 256
  frame : ∀ i, i < x.regions.length → 0 ≤ (atRegion x.regions i).frame ∧ (atRegion x.regions i).frame + (atRegion x.regions i).pages ≤ 1024
theorem regs_fine {c : Config} (g : Sound c) {p : Nat} (hp : p < nP c) : RegsFine (P c p) := by
  have hf := g.frames
  refine ⟨(g.nregs p hp).2, fun i hi => ?_, fun i hi => ?_⟩
  · have h := (g.regs p i hp hi).ok
    obtain ⟨a1, a2⟩ := h.page
    obtain ⟨a3, a4⟩ := h.pages
    unfold Rg at a1 a2 a3 a4
    omega
  · have h := g.regs p i hp hi
    have h1 := h.frame
    have h2 := h.fits
    unfold Rg at h1 h2
    omega
noncomputable def pageQ2 (x : Partition) (pg i : Nat) : Bool := decide ((pg : Int) ≥ (atRegion x.regions i).page) && decide ((pg : Int) < (atRegion x.regions i).page + (atRegion x.regions i).pages)
noncomputable def pageB (x : Partition) (pg : Nat) : Bool := (List.range x.regions.length).any (pageQ2 x pg)
noncomputable def placeV (x : Partition) (pg : Nat) : Int := match (List.range x.regions.length).find? (pageQ2 x pg) with
  | some i => ((atRegion x.regions i).frame + pg - (atRegion x.regions i).page) * 16
  | none => -1
noncomputable def rightV (x : Partition) (pg : Nat) : Int := match (List.range x.regions.length).find? (pageQ2 x pg) with
  | some i => (atRegion x.regions i).rights
  | none => 0
theorem place_r {x : Partition} (hx : RegsFine x) {pg : Nat} (hpg : pg < 256) : spO87 x ((16 * pg : Nat) : Int) = some (placeV x pg) := by
  have h8 := hx.few
  have hq : bop .quo .i64 ((16 * pg : Nat) : Int) 16 = ((pg : Nat) : Int) := by rw [quo_nat _ (by omega)]; congr 1; omega
  have hr : bop .rem .i64 ((16 * pg : Nat) : Int) 16 = ((0 : Nat) : Int) := by rw [rem_nat]; congr 1; omega
  have h := list_loop (l := List.range x.regions.length) (f := fun i => spL87 x ((16 * pg : Nat) : Int) (.l0 (i : Int))) (q := pageQ2 x pg) (g := fun i => some (((atRegion x.regions i).frame + pg - (atRegion x.regions i).page) * 16)) (e := some (-1)) (fun i hi => by
    rw [List.length_range] at hi
    rw [List.getElem_range]
    obtain ⟨a1, a2, a3, a4⟩ := hx.page i hi
    obtain ⟨b1, b2⟩ := hx.frame i hi
    have w1 : IntKind.i64.wrap ((atRegion x.regions i).page + (atRegion x.regions i).pages) = (atRegion x.regions i).page + (atRegion x.regions i).pages := wrap_in _ (by omega) (by omega)
    have w2 : IntKind.i64.wrap ((atRegion x.regions i).frame + (pg : Int)) = (atRegion x.regions i).frame + pg := wrap_in _ (by omega) (by omega)
    have w3 : IntKind.i64.wrap ((atRegion x.regions i).frame + pg - (atRegion x.regions i).page) = (atRegion x.regions i).frame + pg - (atRegion x.regions i).page := wrap_in _ (by omega) (by omega)
    have w4 : IntKind.i64.wrap (((atRegion x.regions i).frame + pg - (atRegion x.regions i).page) * 16) = ((atRegion x.regions i).frame + pg - (atRegion x.regions i).page) * 16 := wrap_in _ (by omega) (by omega)
    have w5 : IntKind.i64.wrap (((atRegion x.regions i).frame + pg - (atRegion x.regions i).page) * 16 + ((0 : Nat) : Int)) = ((atRegion x.regions i).frame + pg - (atRegion x.regions i).page) * 16 := by rw [wrap_in _ (by omega) (by omega)]; omega
    rw [spL87_eq]
    simp only [bod87, Int.toNat_natCast, lt_t hi, inR_of hi, cond_true, hq, hr, w1, w2, w3, w4, w5, wrap_succ i (show i < 4611686018427387904 by omega), cond3, id]
    rfl) (by
    rw [List.length_range, spL87_eq]
    simp only [bod87, lt_f (Nat.le_refl _), cond_false, id])
  refine Eq.trans h ?_
  unfold placeV
  cases (List.range x.regions.length).find? (pageQ2 x pg) <;> rfl
theorem right_r2 {x : Partition} (hx : RegsFine x) {pg : Nat} (hpg : pg < 256) : spO89 x (pg : Int) = some (rightV x pg) := by
  have h8 := hx.few
  have h := list_loop (l := List.range x.regions.length) (f := fun i => spL89 x (pg : Int) (.l0 (i : Int))) (q := pageQ2 x pg) (g := fun i => some ((atRegion x.regions i).rights)) (e := some 0) (fun i hi => by
    rw [List.length_range] at hi
    rw [List.getElem_range]
    obtain ⟨a1, a2, a3, a4⟩ := hx.page i hi
    have w1 : IntKind.i64.wrap ((atRegion x.regions i).page + (atRegion x.regions i).pages) = (atRegion x.regions i).page + (atRegion x.regions i).pages := wrap_in _ (by omega) (by omega)
    rw [spL89_eq]
    simp only [bod89, Int.toNat_natCast, lt_t hi, inR_of hi, cond_true, w1, wrap_succ i (show i < 4611686018427387904 by omega), cond3, id]
    rfl) (by
    rw [List.length_range, spL89_eq]
    simp only [bod89, lt_f (Nat.le_refl _), cond_false, id])
  refine Eq.trans h ?_
  unfold rightV
  cases (List.range x.regions.length).find? (pageQ2 x pg) <;> rfl
theorem place_neg {x : Partition} (hx : RegsFine x) {pg : Nat} (hpg : pg < 256) : decide (placeV x pg < 0) = !(pageB x pg) := by
  unfold placeV pageB
  cases h : (List.range x.regions.length).find? (pageQ2 x pg) with
  | some i =>
    have hm := List.mem_of_find?_eq_some h
    have hq := List.find?_some h
    have hi : i < x.regions.length := by simpa using hm
    obtain ⟨b1, b2⟩ := hx.frame i hi
    have hq' := hq
    unfold pageQ2 at hq'
    simp only [Bool.and_eq_true, decide_eq_true_eq] at hq'
    rw [any_t.2 ⟨i, hi, hq⟩]
    exact decide_eq_false (by dsimp only; omega)
  | none =>
    rw [List.find?_eq_none] at h
    rw [any_f.2 fun i hi => by have := h i (by simpa using hi); simpa using this]
    rfl
theorem touch_page {x : Partition} (hx : RegsFine x) {t : Nat} (ht : t < 16) : touchB x t = (List.range 16).any fun k => pageB x (16 * t + k) := by
  rw [Bool.eq_iff_iff]
  unfold touchB pageB
  rw [any_t, any_t]
  constructor
  · rintro ⟨i, hi, hq⟩
    obtain ⟨a1, a2, a3, a4⟩ := hx.page i hi
    unfold touchQ at hq
    simp only [Bool.and_eq_true, decide_eq_true_eq] at hq
    obtain ⟨h1, h2⟩ := hq
    by_cases hc : 16 * t ≤ (atRegion x.regions i).page.toNat
    · refine ⟨(atRegion x.regions i).page.toNat - 16 * t, by omega, any_t.2 ⟨i, hi, ?_⟩⟩
      unfold pageQ2
      simp only [Bool.and_eq_true, decide_eq_true_eq]
      omega
    · refine ⟨0, by omega, any_t.2 ⟨i, hi, ?_⟩⟩
      unfold pageQ2
      simp only [Bool.and_eq_true, decide_eq_true_eq]
      omega
  · rintro ⟨k, hk, h⟩
    obtain ⟨i, hi, hq⟩ := any_t.1 h
    obtain ⟨a1, a2, a3, a4⟩ := hx.page i hi
    unfold pageQ2 at hq
    simp only [Bool.and_eq_true, decide_eq_true_eq] at hq
    refine ⟨i, hi, ?_⟩
    unfold touchQ
    simp only [Bool.and_eq_true, decide_eq_true_eq]
    omega
theorem cnt_lt {q : Nat → Bool} {t : Nat} : ∀ {n : Nat}, t < n → q t = true → cnt q t < cnt q n
  | 0, h, _ => by omega
  | n + 1, h, hq => by
    rw [cnt_succ]
    by_cases htn : t = n
    · subst htn; rw [hq]; simp
    · have := cnt_lt (q := q) (t := t) (n := n) (by omega) hq
      omega
structure PlFine (x : Partition) (pl : PartitionPlace) (f N : Nat) : Prop where
  tables : pl.tables = tabs f (ntab x)
  root : pl.root = (f : Int)
  room : 16 * (f + ntab x + 1) ≤ N
  least : N ≤ 16384
theorem tables_in {x : Partition} {pl : PartitionPlace} {f N : Nat} (hx : RegsFine x) (hp : PlFine x pl f N) (m0 : List Int) {t : Nat} (ht : t < 16) : ∀ r i, i + r = 16 → ∀ (m : List Int), m.length = N → ∃ m' : List Int, m'.length = N ∧ spL44 x pl m0 (.l4 (cnt (touchB x) t : Int) (t : Int) ((List.range i).any fun k => pageB x (16 * t + k)) (i : Int) m) = spL44 x pl m0 (.l4 (cnt (touchB x) t : Int) (t : Int) (touchB x t) ((16 : Nat) : Int) m') := by
  have htl : pl.tables.length = ntab x := by rw [hp.tables]; simp [tabs]
  have hc := cnt_le (touchB x) t
  have hr16 := hp.room
  have hN := hp.least
  intro r
  induction r with
  | zero =>
    intro i hi m hm
    rw [Nat.add_zero] at hi
    subst hi
    exact ⟨m, hm, by rw [touch_page hx ht]⟩
  | succ r ih =>
    intro i hi m hm
    have hpg : 16 * t + i < 256 := by omega
    have w1 : IntKind.i64.wrap ((t : Int) * 16) = ((16 * t : Nat) : Int) := wrap_nat _ _ (by omega) (by omega)
    have w2 : IntKind.i64.wrap (((16 * t : Nat) : Int) + (i : Int)) = ((16 * t + i : Nat) : Int) := wrap_nat _ _ (by omega) (by omega)
    have w3 : IntKind.i64.wrap (((16 * t + i : Nat) : Int) * 16) = ((16 * (16 * t + i) : Nat) : Int) := wrap_nat _ _ (by omega) (by omega)
    obtain ⟨p1, p2⟩ := sp_of (place_r hx hpg)
    have p1' : sp87 x ((16 * (16 * t + i) : Nat) : Int) = placeV x (16 * t + i) := p1
    have p2' : spc87 x ((16 * (16 * t + i) : Nat) : Int) = true := p2
    obtain ⟨r1, r2⟩ := sp_of (right_r2 hx hpg)
    have r2' : spc89 x ((16 * t + i : Nat) : Int) = true := r2
    have hn := place_neg hx hpg
    have hlt : decide ((i : Int) < 16) = true := decide_eq_true (by omega)
    cases hb : pageB x (16 * t + i) with
    | false =>
      rw [hb] at hn
      rw [spL44_eq]
      simp only [bod44, hlt, cond_true, w1, w2, w3, p1', p2', hn, Bool.not_false, wrap_succ i (show i < 4611686018427387904 by omega)]
      have e : ((List.range i).any fun k => pageB x (16 * t + k)) = ((List.range (i + 1)).any fun k => pageB x (16 * t + k)) := by rw [any_succ, hb, Bool.or_false]
      rw [e]
      exact ih (i + 1) (by omega) m hm
    | true =>
      rw [hb] at hn
      have htt : touchB x t = true := by rw [touch_page hx ht, any_t]; exact ⟨i, by omega, hb⟩
      have hlt2 : cnt (touchB x) t < ntab x := cnt_lt ht htt
      have ha : atInt pl.tables (cnt (touchB x) t) = ((f + 1 + cnt (touchB x) t : Nat) : Int) := by rw [hp.tables]; exact tabs_at hlt2
      have w4 : IntKind.i64.wrap (((f + 1 + cnt (touchB x) t : Nat) : Int) * 16) = ((16 * (f + 1 + cnt (touchB x) t) : Nat) : Int) := wrap_nat _ _ (by omega) (by omega)
      have w5 : IntKind.i64.wrap (((16 * (f + 1 + cnt (touchB x) t) : Nat) : Int) + (i : Int)) = ((16 * (f + 1 + cnt (touchB x) t) + i : Nat) : Int) := wrap_nat _ _ (by omega) (by omega)
      rw [spL44_eq]
      simp only [bod44, hlt, cond_true, cond_false, w1, w2, w3, p1', p2', hn, Bool.not_true, Int.toNat_natCast, inR_of (show cnt (touchB x) t < pl.tables.length by omega), r2', ha, w4, w5, inR_of (show 16 * (f + 1 + cnt (touchB x) t) + i < m.length by omega), wrap_succ i (show i < 4611686018427387904 by omega)]
      have e : ((List.range (i + 1)).any fun k => pageB x (16 * t + k)) = true := by rw [any_succ, hb, Bool.or_true]
      have := ih (i + 1) (by omega) (List.set m (16 * (f + 1 + cnt (touchB x) t) + i) (sp88 (bop .quo .i64 (placeV x (16 * t + i)) 16) (sp89 x ((16 * t + i : Nat) : Int)))) (by rw [List.length_set]; exact hm)
      rw [e] at this
      exact this
theorem tables_all {x : Partition} {pl : PartitionPlace} {f N : Nat} (hx : RegsFine x) (hp : PlFine x pl f N) (m0 : List Int) (hm0 : m0.length = N) : ∃ m' : List Int, m'.length = N ∧ spO44 x pl m0 = some m' := by
  have hr16 := hp.room
  have hN := hp.least
  have htl : pl.tables.length = ntab x := by rw [hp.tables]; simp [tabs]
  have key : ∀ r t, t + r = 16 → ∀ m : List Int, m.length = N → ∃ m' : List Int, m'.length = N ∧ spL44 x pl m0 (.l0 (cnt (touchB x) t : Int) (t : Int) m) = some m' := by
    intro r
    induction r with
    | zero =>
      intro t ht m hm
      rw [Nat.add_zero] at ht
      subst ht
      refine ⟨m, hm, ?_⟩
      rw [spL44_eq]
      simp only [bod44, show decide (((16 : Nat) : Int) < 16) = false from rfl, cond_false, id]
    | succ r ih =>
      intro t ht m hm
      have ht16 : t < 16 := by omega
      have hc := cnt_le (touchB x) t
      obtain ⟨m1, hm1, e1⟩ := tables_in hx hp m0 ht16 16 0 (by omega) m hm
      have e9 : ∀ (n : Nat) (m : List Int), spL44 x pl m0 (.l9 (n : Int) (t : Int) m) = spL44 x pl m0 (.l0 (n : Int) ((t + 1 : Nat) : Int) m) := fun n m => by
        rw [spL44_eq]
        simp only [bod44, wrap_succ t (show t < 4611686018427387904 by omega)]
      rw [spL44_eq]
      simp only [bod44, show decide ((t : Int) < 16) = true from decide_eq_true (by omega), cond_true]
      have e1' : spL44 x pl m0 (.l4 (cnt (touchB x) t : Int) (t : Int) false 0 m) = _ := e1
      rw [e1', spL44_eq]
      simp only [bod44, show decide (((16 : Nat) : Int) < 16) = false from rfl, cond_false]
      cases htt : touchB x t with
      | false =>
        have ec : cnt (touchB x) (t + 1) = cnt (touchB x) t := by rw [cnt_succ, htt]; rfl
        rw [cond_false, e9, ← ec]
        exact ih (t + 1) (by omega) m1 hm1
      | true =>
        have ec : cnt (touchB x) (t + 1) = cnt (touchB x) t + 1 := by rw [cnt_succ, htt]; rfl
        have hlt2 : cnt (touchB x) t < ntab x := cnt_lt ht16 htt
        have w1 : IntKind.i64.wrap (pl.root * 16) = ((16 * f : Nat) : Int) := wrap_nat _ _ (by rw [hp.root]; omega) (by omega)
        have w2 : IntKind.i64.wrap (((16 * f : Nat) : Int) + (t : Int)) = ((16 * f + t : Nat) : Int) := wrap_nat _ _ (by omega) (by omega)
        rw [cond_true, Int.toNat_natCast, inR_of (show cnt (touchB x) t < pl.tables.length by omega), cond_true, w1, w2, inR_of (show 16 * f + t < m1.length by omega), cond_true, Int.toNat_natCast, wrap_succ _ (show cnt (touchB x) t < 4611686018427387904 by omega), e9, ← ec]
        exact ih (t + 1) (by omega) _ (by rw [List.length_set]; exact hm1)
  exact key 16 0 (by omega) m0 hm0
/-! ### Boot -/
section
variable {c : Config} (g : Sound c) (w : Kern c)
include g w
theorem tF_mono : ∀ {i n : Nat}, i ≤ n → tF c i ≤ tF c n := by
  intro i n h
  induction n with
  | zero => rw [Nat.le_zero.1 h]; exact Nat.le_refl _
  | succ n ih =>
    by_cases hi : i ≤ n
    · have := ih hi; rw [tF]; omega
    · obtain rfl : i = n + 1 := by omega
      exact Nat.le_refl _
theorem pl_fine {p : Nat} (hp : p < nP c) : PlFine (P c p) (full c p) (tF c p) (nW c) := by
  have h1 := tF_mono g w (show p + 1 ≤ nP c by omega)
  rw [tF] at h1
  have h2 := w.need
  have h3 := w.room
  have h4 := g.frames
  exact ⟨rfl, rfl, by unfold nW; omega, by unfold nW; omega⟩
end
end Go.Proofs.YtgfifnadfmaolaaGreatDoor
