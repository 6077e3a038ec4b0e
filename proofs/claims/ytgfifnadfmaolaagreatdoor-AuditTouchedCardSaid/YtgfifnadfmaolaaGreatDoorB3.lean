/- The law AuditMay, plain law: sizes, tables, ends; it can be laid out; the document's pieces. -/
import Derived.Test.YtgfifnadfmaolaaGreatDoorB2
namespace Go.Proofs.YtgfifnadfmaolaaGreatDoor
open Go.RowKit
set_option linter.unusedVariables false
set_option linter.unusedSimpArgs false
set_option linter.unusedSectionVars false
/-! #### sizes of things, tables, ends, of both sides. -/
theorem quo16 (a : Int) : bop .quo .i64 a 16 = IntKind.i64.wrap (a.tdiv 16) := by kernel_rfl
theorem rem16 (a : Int) : bop .rem .i64 a 16 = a.tmod 16 := by kernel_rfl
theorem quo_nat (a : Nat) (h : a < 4611686018427387904) : bop .quo .i64 (a : Int) 16 = ((a / 16 : Nat) : Int) := by
  rw [quo16, show (a : Int).tdiv 16 = ((a / 16 : Nat) : Int) from by rw [Int.tdiv_eq_ediv_of_nonneg (by omega)]; omega]
  exact wrap_in _ (by omega) (by omega)
theorem rem_nat (a : Nat) : bop .rem .i64 (a : Int) 16 = ((a % 16 : Nat) : Int) := by
  rw [rem16, Int.tmod_eq_emod_of_nonneg (by omega)]; omega
theorem wrap_nat (n : Int) (m : Nat) (h : n = m) (hm : m < 4611686018427387904) : IntKind.i64.wrap n = (m : Int) := by subst h; exact wrap_in _ (by omega) (by omega)
/-! ### Channels that hold together -/
structure ChanOk (x : Channel) : Prop where
  kind : x.kind = 1 ∨ x.kind = 2
  words : 1 ≤ x.words ∧ x.words ≤ 16
  depth : (x.kind = 2 → 1 ≤ x.depth ∧ x.depth ≤ 8) ∧ (x.kind = 1 → x.depth = 0)
theorem chan_ok {c : Config} {h : Nat} (hb : chanB c h = true) : ChanOk (Ch c h) ∧ srcN c h c.partitions.length = 1 ∧ 1 ≤ dstN c h c.partitions.length ∧ dstN c h c.partitions.length ≤ 4 := by
  simp only [chanB, Bool.and_eq_true, decide_eq_true_eq, beq_iff_eq] at hb
  obtain ⟨⟨⟨⟨k1, k2⟩, k3, k4⟩, k5⟩, k6, k7, k8⟩ := hb
  refine ⟨⟨by omega, ⟨k3, k4⟩, fun hk => ?_, fun hk => ?_⟩, by omega, by omega, ?_⟩
  · rw [show ((Ch c h).kind == 2) = true by simpa using hk] at k5
    simpa using k5
  · rw [show ((Ch c h).kind == 2) = false by simp; omega] at k5
    simpa using k5
  · cases hk : ((Ch c h).kind == 2) with
    | true => rw [hk] at k8; simp only [cond_true] at k8; omega
    | false => rw [hk] at k8; simp only [cond_false] at k8; omega
noncomputable def body (x : Channel) : Nat := if x.kind = 1 then x.words.toNat else x.depth.toNat * (1 + x.words.toNat)
noncomputable def stg (x : Channel) : Nat := if x.kind = 1 then 2 + x.words.toNat else 1 + body x
noncomputable def prt (x : Channel) : Nat := 3 + body x
theorem body_le {x : Channel} (h : ChanOk x) : 1 ≤ body x ∧ body x ≤ 136 := by
  have hw := h.words
  unfold body
  split
  · omega
  · rename_i hk
    have hk2 : x.kind = 2 := by rcases h.kind with h | h; exact absurd h hk; exact h
    obtain ⟨d1, d2⟩ := h.depth.1 hk2
    have h1 : 1 ≤ x.depth.toNat := by omega
    have h2 : x.depth.toNat ≤ 8 := by omega
    have h3 : 1 + x.words.toNat ≤ 17 := by omega
    exact ⟨Nat.mul_pos h1 (by omega), by have := Nat.mul_le_mul h2 h3; omega⟩
theorem stg_le {x : Channel} (h : ChanOk x) : 1 ≤ stg x ∧ stg x ≤ 137 := by
  have := body_le h
  have hw := h.words
  unfold stg
  split <;> omega
theorem prt_le {x : Channel} (h : ChanOk x) : 4 ≤ prt x ∧ prt x ≤ 139 := by have := body_le h; unfold prt; omega
theorem mul_nat {a b : Int} (ha : 0 ≤ a) (hb : 0 ≤ b) : a * b = ((a.toNat * b.toNat : Nat) : Int) := by
  rw [Int.natCast_mul, Int.toNat_of_nonneg ha, Int.toNat_of_nonneg hb]
theorem body_r {x : Channel} (h : ChanOk x) : sp129 x = (body x : Int) := by
  have hl := body_le h
  obtain ⟨w1, w2⟩ := h.words
  refine (sp_of (r := (body x : Int)) ?_).1
  unfold spO129 ent129
  rw [decide_eq_false (by omega), decide_eq_false (by omega), cond_false, cond_false]
  rcases h.kind with hk | hk
  · rw [hk]
    simp only [beq_self_eq_true, cond_true, id]
    unfold body; rw [if_pos hk, Int.toNat_of_nonneg (by omega)]
  · obtain ⟨d1, d2⟩ := h.depth.1 hk
    have hb : body x = x.depth.toNat * (1 + x.words.toNat) := by unfold body; rw [if_neg (by omega)]
    have e1 : IntKind.i64.wrap (1 + x.words) = ((1 + x.words.toNat : Nat) : Int) := wrap_nat _ _ (by omega) (by omega)
    rw [hk, decide_eq_true (by omega), decide_eq_true (by omega), e1]
    have e2 : IntKind.i64.wrap (x.depth * ((1 + x.words.toNat : Nat) : Int)) = (body x : Int) := wrap_nat _ _ (by rw [mul_nat (by omega) (by omega), hb, Int.toNat_natCast]) (by omega)
    rw [e2]; rfl
theorem stage_r {x : Channel} (h : ChanOk x) : sp93 x = (stg x : Int) := by
  have hl := body_le h
  obtain ⟨w1, w2⟩ := h.words
  refine (sp_of (r := (stg x : Int)) ?_).1
  unfold spO93 ent93
  rw [body_r h, show ((body x : Int) == 0) = false by simp; omega, cond_false]
  rcases h.kind with hk | hk
  · rw [hk]
    simp only [beq_self_eq_true, cond_true, id]
    rw [wrap_nat _ (2 + x.words.toNat) (by omega) (by omega)]
    unfold stg; rw [if_pos hk]
  · rw [hk, wrap_nat (1 + (body x : Int)) (1 + body x) (by omega) (by omega)]
    unfold stg; rw [if_neg (by omega)]; rfl
theorem port_r {x : Channel} (h : ChanOk x) : sp91 x = (prt x : Int) := by
  have hl := body_le h
  refine (sp_of (r := (prt x : Int)) ?_).1
  unfold spO91 ent91
  rw [body_r h, show ((body x : Int) == 0) = false by simp; omega, cond_false, wrap_nat (3 + (body x : Int)) (3 + body x) (by omega) (by omega)]
  rfl
theorem stage_a {x : Channel} (h : ChanOk x) : sp71 x = (stg x : Int) := by
  have hl := body_le h
  obtain ⟨w1, w2⟩ := h.words
  refine (sp_of (r := (stg x : Int)) ?_).1
  unfold spO71 ent71
  rw [decide_eq_false (by omega), decide_eq_false (by omega), cond_false, cond_false]
  rcases h.kind with hk | hk
  · rw [hk]
    simp only [beq_self_eq_true, cond_true, id]
    rw [wrap_nat _ (2 + x.words.toNat) (by omega) (by omega)]
    unfold stg; rw [if_pos hk]
  · obtain ⟨d1, d2⟩ := h.depth.1 hk
    have hb : body x = x.depth.toNat * (1 + x.words.toNat) := by unfold body; rw [if_neg (by omega)]
    have e1 : IntKind.i64.wrap (1 + x.words) = ((1 + x.words.toNat : Nat) : Int) := wrap_nat _ _ (by omega) (by omega)
    have e2 : IntKind.i64.wrap (x.depth * ((1 + x.words.toNat : Nat) : Int)) = (body x : Int) := wrap_nat _ _ (by rw [mul_nat (by omega) (by omega), hb, Int.toNat_natCast]) (by omega)
    rw [hk, decide_eq_true (by omega), decide_eq_true (by omega), e1, e2, wrap_nat (1 + (body x : Int)) (1 + body x) (by omega) (by omega)]
    unfold stg; rw [if_neg (by omega)]; rfl
theorem port_a {x : Channel} (h : ChanOk x) : sp72 x = (prt x : Int) := by
  have hl := stg_le h
  obtain ⟨w1, w2⟩ := h.words
  refine (sp_of (r := (prt x : Int)) ?_).1
  unfold spO72 ent72
  rw [stage_a h, show ((stg x : Int) == 0) = false by simp; omega, cond_false]
  rcases h.kind with hk | hk
  · rw [hk]
    simp only [beq_self_eq_true, cond_true, id]
    rw [wrap_nat ((stg x : Int) + 1) (stg x + 1) (by omega) (by omega)]
    have : stg x + 1 = prt x := by unfold stg prt body; rw [if_pos hk, if_pos hk]; omega
    rw [this]
  · rw [hk, wrap_nat ((stg x : Int) + 2) (stg x + 2) (by omega) (by omega)]
    have : stg x + 2 = prt x := by unfold stg prt; rw [if_neg (by omega)]; omega
    rw [this]; rfl
/-! ### Tables -/
structure RegOk (g : Region) : Prop where
  page : 0 ≤ g.page ∧ g.page ≤ 255
  pages : 1 ≤ g.pages ∧ g.pages ≤ 256 - g.page
noncomputable def touchQ (x : Partition) (t i : Nat) : Bool := decide ((atRegion x.regions i).page.toNat / 16 ≤ t) && decide (t ≤ ((atRegion x.regions i).page.toNat + (atRegion x.regions i).pages.toNat - 1) / 16)
noncomputable def touchB (x : Partition) (t : Nat) : Bool := (List.range x.regions.length).any (touchQ x t)
noncomputable def ntab (x : Partition) : Nat := cnt (touchB x) 16
theorem touches_r {x : Partition} (hx : x.regions.length ≤ 8) (hg : ∀ i, i < x.regions.length → RegOk (atRegion x.regions i)) (t : Nat) : spO94 x t = some (touchB x t) := by
  have h := any_loop (n := x.regions.length) (f := fun i => spL94 x t (.l0 (i : Int))) (q := touchQ x t) (r := some true) (e := some false) (fun i hi => by
    have ho := hg i hi
    obtain ⟨p1, p2⟩ := ho.page
    obtain ⟨p3, p4⟩ := ho.pages
    rw [spL94_eq]
    have e1 : bop .quo .i64 (atRegion x.regions i).page 16 = (((atRegion x.regions i).page.toNat / 16 : Nat) : Int) := by
      rw [← quo_nat _ (by omega), Int.toNat_of_nonneg p1]
    have e2 : IntKind.i64.wrap ((atRegion x.regions i).page + (atRegion x.regions i).pages) = (((atRegion x.regions i).page.toNat + (atRegion x.regions i).pages.toNat : Nat) : Int) := wrap_nat _ _ (by omega) (by omega)
    have e3 : IntKind.i64.wrap ((((atRegion x.regions i).page.toNat + (atRegion x.regions i).pages.toNat : Nat) : Int) - 1) = (((atRegion x.regions i).page.toNat + (atRegion x.regions i).pages.toNat - 1 : Nat) : Int) := wrap_nat _ _ (by omega) (by omega)
    simp only [bod94, Int.toNat_natCast, lt_t hi, inR_of hi, cond_true, e1, e2, e3, quo_nat _ (show (atRegion x.regions i).page.toNat + (atRegion x.regions i).pages.toNat - 1 < 4611686018427387904 by omega), wrap_succ i (by omega), id, cond3]
    congr 1
    unfold touchQ
    rw [Bool.eq_iff_iff]; simp only [Bool.and_eq_true, decide_eq_true_eq]; omega) (by
    rw [spL94_eq]
    simp only [bod94, lt_f (Nat.le_refl _), cond_false, id])
  exact Eq.trans (show _ = spL94 x t (.l0 0) from rfl) (Eq.trans h (some_any _))
theorem bits_set (b : Nat → Bool) {n j : Nat} (hn : n < 16) (hj : j < 16) : atBool (List.set ([b 0, b 1, b 2, b 3, b 4, b 5, b 6, b 7, b 8, b 9, b 10, b 11, b 12, b 13, b 14, b 15] : List Bool) n true) j = (decide (j = n) || b j) := by
  have e : ([b 0, b 1, b 2, b 3, b 4, b 5, b 6, b 7, b 8, b 9, b 10, b 11, b 12, b 13, b 14, b 15] : List Bool) = (List.range 16).map b := rfl
  rw [e]
  simp only [atBool, List.getD, List.getElem?_set, List.length_map, List.length_range, List.getElem?_map, List.getElem?_range hj]
  by_cases h : n = j
  · subst h; simp [hj]
  · rw [if_neg h, decide_eq_false (fun e => h e.symm)]; simp
theorem bits_get (b : Nat → Bool) {j : Nat} (hj : j < 16) : atBool ([b 0, b 1, b 2, b 3, b 4, b 5, b 6, b 7, b 8, b 9, b 10, b 11, b 12, b 13, b 14, b 15] : List Bool) j = b j := by
  have e : ([b 0, b 1, b 2, b 3, b 4, b 5, b 6, b 7, b 8, b 9, b 10, b 11, b 12, b 13, b 14, b 15] : List Bool) = (List.range 16).map b := rfl
  rw [e]
  simp [atBool, List.getD, hj]
noncomputable def T0 (x : Partition) (i : Nat) (b : Nat → Bool) : Option Int := spL73 x (.l0 (i : Int) (b 0) (b 1) (b 2) (b 3) (b 4) (b 5) (b 6) (b 7) (b 8) (b 9) (b 10) (b 11) (b 12) (b 13) (b 14) (b 15))
noncomputable def T4 (x : Partition) (i k : Nat) (b : Nat → Bool) : Option Int := spL73 x (.l4 (i : Int) (atRegion x.regions i).pages (k : Int) (b 0) (b 1) (b 2) (b 3) (b 4) (b 5) (b 6) (b 7) (b 8) (b 9) (b 10) (b 11) (b 12) (b 13) (b 14) (b 15) (atRegion x.regions i).page (atRegion x.regions i).pages (atRegion x.regions i).frame (atRegion x.regions i).rights)
noncomputable def T8 (x : Partition) (n : Int) (b : Nat → Bool) (t : Nat) : Option Int := spL73 x (.l8 n (b 0) (b 1) (b 2) (b 3) (b 4) (b 5) (b 6) (b 7) (b 8) (b 9) (b 10) (b 11) (b 12) (b 13) (b 14) (b 15) (t : Int))
theorem T4_step {x : Partition} {i k : Nat} (ho : RegOk (atRegion x.regions i)) (hk : (k : Int) < (atRegion x.regions i).pages) (b : Nat → Bool) : T4 x i k b = T4 x i (k + 1) fun j => decide (j = ((atRegion x.regions i).page.toNat + k) / 16) || b j := by
  obtain ⟨p1, p2⟩ := ho.page
  obtain ⟨p3, p4⟩ := ho.pages
  have e1 : IntKind.i64.wrap ((atRegion x.regions i).page + (k : Int)) = (((atRegion x.regions i).page.toNat + k : Nat) : Int) := wrap_nat _ _ (by omega) (by omega)
  have hn : ((atRegion x.regions i).page.toNat + k) / 16 < 16 := by omega
  unfold T4
  rw [spL73_eq]
  simp only [bod73, decide_eq_true hk, cond_true, e1, quo_nat _ (show (atRegion x.regions i).page.toNat + k < 4611686018427387904 by omega), Int.toNat_natCast, inR_of hn, wrap_succ k (by omega), id]
  rw [bits_set b hn (show 0 < 16 by omega), bits_set b hn (show 1 < 16 by omega), bits_set b hn (show 2 < 16 by omega), bits_set b hn (show 3 < 16 by omega), bits_set b hn (show 4 < 16 by omega), bits_set b hn (show 5 < 16 by omega), bits_set b hn (show 6 < 16 by omega), bits_set b hn (show 7 < 16 by omega), bits_set b hn (show 8 < 16 by omega), bits_set b hn (show 9 < 16 by omega), bits_set b hn (show 10 < 16 by omega), bits_set b hn (show 11 < 16 by omega), bits_set b hn (show 12 < 16 by omega), bits_set b hn (show 13 < 16 by omega), bits_set b hn (show 14 < 16 by omega), bits_set b hn (show 15 < 16 by omega)]
/-! #### tables; a channel's ends, as the program lists them. -/
theorem any_succ (q : Nat → Bool) (n : Nat) : (List.range (n + 1)).any q = ((List.range n).any q || q n) := by
  rw [List.range_succ, List.any_append]; simp
theorem T4_all {x : Partition} {i : Nat} (hi : i < 4611686018427387904) (ho : RegOk (atRegion x.regions i)) (b : Nat → Bool) : T4 x i 0 b = T0 x (i + 1) fun j => b j || touchQ x j i := by
  obtain ⟨p1, p2⟩ := ho.page
  obtain ⟨p3, p4⟩ := ho.pages
  have h := run_loop (n := (atRegion x.regions i).pages.toNat) (f := fun k b => T4 x i k b) (S := fun k j => b j || (List.range k).any fun k' => decide (j = ((atRegion x.regions i).page.toNat + k') / 16)) (fun k hk => by
    rw [T4_step ho (by omega)]
    congr 1
    funext j
    rw [any_succ]
    cases b j <;> cases ((List.range k).any fun k' => decide (j = ((atRegion x.regions i).page.toNat + k') / 16)) <;> cases decide (j = ((atRegion x.regions i).page.toNat + k) / 16) <;> rfl)
  simp only [List.range_zero, List.any_nil, Bool.or_false] at h
  refine h.trans ?_
  have hb : (fun j => b j || (List.range (atRegion x.regions i).pages.toNat).any fun k' => decide (j = ((atRegion x.regions i).page.toNat + k') / 16)) = fun j => b j || touchQ x j i := by
    funext j
    congr 1
    rw [Bool.eq_iff_iff, any_t]
    simp only [touchQ, Bool.and_eq_true, decide_eq_true_eq]
    constructor
    · rintro ⟨k, hk, rfl⟩
      exact ⟨Nat.div_le_div_right (by omega), Nat.div_le_div_right (by omega)⟩
    · rintro ⟨h1, h2⟩
      by_cases hc : 16 * j ≤ (atRegion x.regions i).page.toNat
      · exact ⟨0, by omega, by omega⟩
      · exact ⟨16 * j - (atRegion x.regions i).page.toNat, by omega, by omega⟩
  rw [hb]
  unfold T4 T0
  rw [spL73_eq]
  have e1 : decide ((((atRegion x.regions i).pages.toNat : Nat) : Int) < (atRegion x.regions i).pages) = false := decide_eq_false (by omega)
  simp only [bod73, e1, cond_false, wrap_succ i hi, id]
theorem T0_all {x : Partition} (hx : x.regions.length ≤ 8) (hg : ∀ i, i < x.regions.length → RegOk (atRegion x.regions i)) : T0 x 0 (fun _ => false) = T0 x x.regions.length (touchB x) := by
  have h := run_loop (n := x.regions.length) (f := fun i b => T0 x i b) (S := fun i j => (List.range i).any (touchQ x j)) (fun i hi => by
    have e : T0 x i (fun j => (List.range i).any (touchQ x j)) = T4 x i 0 (fun j => (List.range i).any (touchQ x j)) := by
      unfold T0 T4
      rw [spL73_eq]
      simp only [bod73, lt_t hi, inR_of hi, cond_true, Int.toNat_natCast, id]
      rfl
    rw [e, T4_all (by omega) (hg i hi)]
    congr 1
    funext j
    rw [any_succ])
  exact h
theorem tables_a {x : Partition} (hx : x.regions.length ≤ 8) (hg : ∀ i, i < x.regions.length → RegOk (atRegion x.regions i)) : spO73 x = some (ntab x : Int) := by
  have h8 := run_loop (n := 16) (f := fun t (n : Nat) => T8 x (n : Int) (touchB x) t) (S := fun t => cnt (touchB x) t) (fun t ht => by
    have hl := cnt_le (touchB x) t
    unfold T8
    have e35 : ∀ n : Int, spL73 x (.l35 n (touchB x 0) (touchB x 1) (touchB x 2) (touchB x 3) (touchB x 4) (touchB x 5) (touchB x 6) (touchB x 7) (touchB x 8) (touchB x 9) (touchB x 10) (touchB x 11) (touchB x 12) (touchB x 13) (touchB x 14) (touchB x 15) (t : Int)) = spL73 x (.l8 n (touchB x 0) (touchB x 1) (touchB x 2) (touchB x 3) (touchB x 4) (touchB x 5) (touchB x 6) (touchB x 7) (touchB x 8) (touchB x 9) (touchB x 10) (touchB x 11) (touchB x 12) (touchB x 13) (touchB x 14) (touchB x 15) ((t + 1 : Nat) : Int)) := fun n => by
      rw [spL73_eq]
      simp only [bod73, wrap_succ t (by omega), id]
    rw [spL73_eq]
    simp only [bod73, show decide ((t : Int) < 16) = true from decide_eq_true (by omega), inR_of ht, cond_true, Int.toNat_natCast, bits_get (touchB x) ht, wrap_succ (cnt (touchB x) t) (by omega), id]
    rw [e35, e35, cnt_succ]
    cases touchB x t <;> rfl)
  have hT := T0_all hx hg
  refine Eq.trans (show _ = T0 x 0 (fun _ => false) from rfl) (Eq.trans hT ?_)
  have e : T0 x x.regions.length (touchB x) = T8 x 0 (touchB x) 0 := by
    unfold T0 T8
    rw [spL73_eq]
    simp only [bod73, lt_f (Nat.le_refl _), cond_false, id]
    rfl
  rw [e]
  refine Eq.trans h8 ?_
  unfold T8
  rw [spL73_eq]
  simp only [bod73, show decide (((16 : Nat) : Int) < 16) = false from rfl, cond_false, id]
  rfl
/-! ### Ends -/
noncomputable def endsP (q : Nat → Nat → Bool) (p n : Nat) : List LayoutEnd := ((List.range n).filter (q p)).map fun i : Nat => (⟨(p : Int), (i : Int)⟩ : LayoutEnd)
noncomputable def endsL (c : Config) (q : Nat → Nat → Bool) : Nat → List LayoutEnd
  | 0 => []
  | n + 1 => endsL c q n ++ endsP q n (nport c n)
theorem endsP_succ (q : Nat → Nat → Bool) (p n : Nat) : endsP q p (n + 1) = endsP q p n ++ cond (q p n) [⟨(p : Int), (n : Int)⟩] [] := by
  unfold endsP
  rw [List.range_succ, List.filter_append, List.map_append]
  cases h : q p n <;> simp [h]
theorem endsP_len (q : Nat → Nat → Bool) (p : Nat) : ∀ n, (endsP q p n).length = cnt (q p) n
  | 0 => rfl
  | n + 1 => by rw [endsP_succ, List.length_append, endsP_len q p n, cnt_succ]; cases q p n <;> rfl
theorem endsL_len (c : Config) (q : Nat → Nat → Bool) : ∀ n, (endsL c q n).length = tot (fun p => cnt (q p) (nport c p)) n
  | 0 => rfl
  | n + 1 => by rw [endsL, List.length_append, endsL_len c q n, endsP_len]; rfl
noncomputable def srcL (c : Config) (h : Int) : List LayoutEnd := endsL c (isSrc c h) c.partitions.length
noncomputable def dstL (c : Config) (h : Int) : List LayoutEnd := endsL c (isDst c h) c.partitions.length
theorem lends_a {c : Config} (hw : Few c) (h : Int) : spO70 c h = some (srcL c h, dstL c h) := by
  have h8 := hw.parts
  have inner : ∀ q, q < c.partitions.length → ∀ s d : List LayoutEnd, s.length ≤ 64 → d.length ≤ 64 → spL70 c h (.l4 (q : Int) (q : Int) (P c q).ports ((P c q).ports.length) 0 s d) = spL70 c h (.l0 ((q + 1 : Nat) : Int) (s ++ endsP (isSrc c h) q (nport c q)) (d ++ endsP (isDst c h) q (nport c q))) := fun q hq s d hs hd => by
    have hp8 := hw.ports q hq
    have := run_loop (n := nport c q) (f := fun k (x : List LayoutEnd × List LayoutEnd) => spL70 c h (.l4 (q : Int) (q : Int) (P c q).ports ((P c q).ports.length) (k : Int) x.1 x.2)) (S := fun k => (s ++ endsP (isSrc c h) q k, d ++ endsP (isDst c h) q k)) (fun k hk => by
      have hk' : k < (P c q).ports.length := hk
      have l1 := cnt_le (isSrc c h q) k
      have l2 := cnt_le (isDst c h q) k
      have e1 := endsP_len (isSrc c h) q k
      have e2 := endsP_len (isDst c h) q k
      rw [spL70_eq]
      have b1 : leB (((s ++ endsP (isSrc c h) q k).length + ([(⟨(q : Int), (k : Int)⟩ : LayoutEnd)] : List LayoutEnd).length) * 16) 140737488355328 = true := leB_t (by simp only [List.length_append, List.length_singleton]; omega)
      have b2 : leB (((d ++ endsP (isDst c h) q k).length + ([(⟨(q : Int), (k : Int)⟩ : LayoutEnd)] : List LayoutEnd).length) * 16) 140737488355328 = true := leB_t (by simp only [List.length_append, List.length_singleton]; omega)
      simp only [bod70, Int.toNat_natCast, cond_true, lt_t hk', inR_of hk', b1, b2, id]
      have e23 : ∀ a b : List LayoutEnd, spL70 c h (.l23 (q : Int) (q : Int) (P c q).ports ((P c q).ports.length) (k : Int) a b) = spL70 c h (.l4 (q : Int) (q : Int) (P c q).ports ((P c q).ports.length) ((k + 1 : Nat) : Int) a b) := fun a b => by
        rw [spL70_eq]
        simp only [bod70, wrap_succ k (by omega), id]
      rw [e23, e23, e23, endsP_succ, endsP_succ]
      unfold isSrc isDst
      show cond (!((Pt c q k).channel == h)) _ (cond (Pt c q k).source _ _) = _
      cases (Pt c q k).channel == h <;> cases (Pt c q k).source <;> simp)
    dsimp only at this
    rw [show endsP (isSrc c h) q 0 = [] from rfl, show endsP (isDst c h) q 0 = [] from rfl, List.append_nil, List.append_nil] at this
    refine Eq.trans this ?_
    rw [spL70_eq]
    have hi' : decide ((nport c q : Int) < ((P c q).ports.length : Int)) = false := lt_f (Nat.le_refl _)
    simp only [bod70, hi', cond_false, wrap_succ q (by omega), id]
  have outer := run_loop (n := c.partitions.length) (f := fun q (x : List LayoutEnd × List LayoutEnd) => spL70 c h (.l0 (q : Int) x.1 x.2)) (S := fun q => (endsL c (isSrc c h) q, endsL c (isDst c h) q)) (fun q hq => by
    rw [spL70_eq]
    simp only [bod70, lt_t hq, inR_of hq, cond_true, Int.toNat_natCast, id]
    have s1 := srcN_le hw h (n := q) (by omega)
    have s2 := dstN_le hw h (n := q) (by omega)
    exact inner q hq _ _ (by rw [endsL_len]; exact s1) (by rw [endsL_len]; exact s2))
  refine Eq.trans (show _ = spL70 c h (.l0 0 [] []) from rfl) (Eq.trans outer ?_)
  rw [spL70_eq]
  simp only [bod70, lt_f (Nat.le_refl _), cond_false, id]
  rfl
theorem srcL_len (c : Config) (h : Int) : (srcL c h).length = srcN c h c.partitions.length := endsL_len c _ _
theorem dstL_len (c : Config) (h : Int) : (dstL c h).length = dstN c h c.partitions.length := endsL_len c _ _
/-! #### what a configuration that holds together gives; it can be laid out, on both sides. -/
structure RegFine (c : Config) (g : Region) : Prop where
  ok : RegOk g
  frame : 0 ≤ g.frame
  fits : g.frame + g.pages ≤ c.frames
structure Sound (c : Config) : Prop where
  few : Few c
  frames : 1 ≤ c.frames ∧ c.frames ≤ 1024
  least : 1 ≤ c.partitions.length
  chans : c.channels.length ≤ 16
  nregs : ∀ p, p < c.partitions.length → 1 ≤ nreg c p ∧ nreg c p ≤ 8
  regs : ∀ p k, p < c.partitions.length → k < nreg c p → RegFine c (Rg c p k)
  regb : ∀ p k, p < c.partitions.length → k < nreg c p → regB c p k = true
  port : ∀ p k, p < c.partitions.length → k < nport c p → 0 ≤ (Pt c p k).channel ∧ (Pt c p k).channel < c.channels.length
  chan : ∀ h, h < c.channels.length → ChanOk (Ch c h) ∧ srcN c h c.partitions.length = 1 ∧ 1 ≤ dstN c h c.partitions.length ∧ dstN c h c.partitions.length ≤ 4
theorem reg_fine {c : Config} (hf : 1 ≤ c.frames ∧ c.frames ≤ 1024) {g : Region} (h : rightB c g = true) (hg : I64 g.frame) : RegFine c g := by
  unfold rightB at h
  unfold I64 at hg
  simp only [Bool.and_eq_true, decide_eq_true_eq] at h
  obtain ⟨⟨⟨⟨⟨h1, h2⟩, h3, h4⟩, h5⟩, h6⟩, h7, h8⟩ := h
  rw [wrap_in _ (by omega) (by omega)] at h4 h6
  exact ⟨⟨⟨h1, h2⟩, ⟨h3, h4⟩⟩, h5, by omega⟩
theorem good_of {c : Config} (hc : FitC c) (h : preB c = true) : Sound c := by
  simp only [preB, Bool.and_eq_true] at h
  obtain ⟨hw, hp, hh, hk⟩ := h
  have hp' := notany hp
  have hh' := notany hh
  have hfew := few_of hw hp'
  have hw' := hw
  simp only [wholeB, Bool.and_eq_true, decide_eq_true_eq] at hw'
  have hf : 1 ≤ c.frames ∧ c.frames ≤ 1024 := hw'.1
  have hpart : ∀ p, p < c.partitions.length → _ := fun p hp => by
    have := hp' p hp
    simp only [partB, headB, Bool.and_eq_true, decide_eq_true_eq] at this
    exact this
  refine ⟨hfew, hf, hw'.2.2.2.1.1, hw'.2.2.2.2, fun p hp => ?_, fun p k hp hk => ?_, fun p k hp hk => ?_, fun p k hp hk => ?_, fun h hh => chan_ok (hh' h hh)⟩
  · exact (hpart p hp).1.1.1.1.2.2.2
  · have := notany (hpart p hp).1.1.1.2 k hk
    simp only [regB, Bool.and_eq_true] at this
    exact reg_fine hf this.1.1 (hc.region p k hp hk).1
  · exact notany (hpart p hp).1.1.1.2 k hk
  · have h := any_f.1 (by simpa using (hpart p hp).2) k hk
    unfold portQ at h
    have hcl := hw'.2.2.2.2
    rw [wrap_in _ (by omega) (by omega)] at h
    simp only [Bool.not_eq_false', Bool.and_eq_true, decide_eq_true_eq] at h
    omega
/-! ### It can be laid out -/
theorem may_part {c : Config} (g : Sound c) {p : Nat} (hp : p < c.partitions.length) : spO90 (P c p) c.channels.length = some true := by
  have hn := (g.nregs p hp).2
  have hq := g.few.ports p hp
  unfold nreg at hn
  unfold nport at hq
  have h0 := run_loop (n := (P c p).regions.length) (f := fun i (_ : Unit) => spL90 (P c p) c.channels.length (.l0 (i : Int))) (S := fun _ => ()) (fun i hi => by
    have hr := g.regs p i hp hi
    obtain ⟨a1, a2⟩ := hr.ok.page
    obtain ⟨a3, a4⟩ := hr.ok.pages
    unfold Rg at a1 a2 a3 a4
    rw [spL90_eq]
    simp only [bod90, Int.toNat_natCast, lt_t hi, inR_of hi, cond_true]
    have ew : IntKind.i64.wrap (256 - (atRegion (P c p).regions i).page) = 256 - (atRegion (P c p).regions i).page := wrap_in _ (by omega) (by omega)
    rw [decide_eq_false (by omega), decide_eq_false (by omega), decide_eq_false (by omega), decide_eq_false (by rw [ew]; omega), wrap_succ i (by omega)]
    rfl)
  have h4 := run_loop (n := (P c p).ports.length) (f := fun i (_ : Unit) => spL90 (P c p) c.channels.length (.l4 (i : Int))) (S := fun _ => ()) (fun i hi => by
    obtain ⟨a1, a2⟩ := g.port p i hp hi
    unfold Pt at a1 a2
    rw [spL90_eq]
    simp only [bod90, Int.toNat_natCast, lt_t hi, inR_of hi, cond_true]
    rw [decide_eq_false (by omega), decide_eq_false (by omega), wrap_succ i (by omega)]
    rfl)
  unfold spO90 ent90
  rw [decide_eq_false (by omega), decide_eq_false (by omega), cond_false, cond_false]
  refine Eq.trans h0 ?_
  rw [spL90_eq]
  simp only [bod90, lt_f (Nat.le_refl _), cond_false]
  refine Eq.trans h4 ?_
  rw [spL90_eq]
  simp only [bod90, lt_f (Nat.le_refl _), cond_false, id]
theorem can_part {c : Config} (g : Sound c) {p : Nat} (hp : p < c.partitions.length) : spO114 c (P c p) = some true := by
  have hn := (g.nregs p hp).2
  have hq := g.few.ports p hp
  unfold nreg at hn
  unfold nport at hq
  have h0 := run_loop (n := (P c p).regions.length) (f := fun i (_ : Unit) => spL114 c (P c p) (.l0 (i : Int))) (S := fun _ => ()) (fun i hi => by
    have hr := g.regs p i hp hi
    obtain ⟨a1, a2⟩ := hr.ok.page
    obtain ⟨a3, a4⟩ := hr.ok.pages
    unfold Rg at a1 a2 a3 a4
    rw [spL114_eq]
    simp only [bod114, Int.toNat_natCast, lt_t hi, inR_of hi, cond_true]
    have ew : IntKind.i64.wrap (256 - (atRegion (P c p).regions i).page) = 256 - (atRegion (P c p).regions i).page := wrap_in _ (by omega) (by omega)
    rw [decide_eq_false (by omega), decide_eq_false (by omega), decide_eq_false (by omega), decide_eq_false (by rw [ew]; omega), wrap_succ i (by omega)]
    rfl)
  have h4 := run_loop (n := (P c p).ports.length) (f := fun i (_ : Unit) => spL114 c (P c p) (.l4 (i : Int))) (S := fun _ => ()) (fun i hi => by
    obtain ⟨a1, a2⟩ := g.port p i hp hi
    unfold Pt at a1 a2
    rw [spL114_eq]
    simp only [bod114, Int.toNat_natCast, lt_t hi, inR_of hi, cond_true]
    rw [decide_eq_false (by omega), decide_eq_false (by omega), wrap_succ i (by omega)]
    rfl)
  unfold spO114 ent114
  rw [decide_eq_false (by omega), decide_eq_false (by omega), cond_false, cond_false]
  refine Eq.trans h0 ?_
  rw [spL114_eq]
  simp only [bod114, lt_f (Nat.le_refl _), cond_false]
  refine Eq.trans h4 ?_
  rw [spL114_eq]
  simp only [bod114, lt_f (Nat.le_refl _), cond_false, id]
theorem can_a {c : Config} (g : Sound c) (hk : 0 ≤ c.kernel ∧ c.kernel < 1024) : spO68 c = some true := by
  have hn := g.few.parts
  have hq := g.chans
  have h0 := run_loop (n := c.partitions.length) (f := fun i (_ : Unit) => spL68 c (.l0 (i : Int))) (S := fun _ => ()) (fun i hi => by
    obtain ⟨k1, k2⟩ := sp_of (can_part g hi)
    have k1' : sp114 c (atPartition c.partitions i) = true := k1
    have k2' : spc114 c (atPartition c.partitions i) = true := k2
    rw [spL68_eq]
    simp only [bod68, Int.toNat_natCast, lt_t hi, inR_of hi, cond_true, k1', k2', wrap_succ i (by omega)]
    rfl)
  have h4 := run_loop (n := c.channels.length) (f := fun i (_ : Unit) => spL68 c (.l4 (i : Int))) (S := fun _ => ()) (fun i hi => by
    obtain ⟨o, a1, a2, a3⟩ := g.chan i hi
    obtain ⟨k1, k2⟩ := sp_of (lends_a g.few (i : Int))
    have k1' : sp70 c (i : Int) = _ := k1
    have k2' : spc70 c (i : Int) = true := k2
    have hs := stg_le o
    have e1 := stage_a o
    unfold Ch at e1
    have l1 := srcL_len c (i : Int)
    have l2 := dstL_len c (i : Int)
    have f1 : ((stg (atChannel c.channels i) : Int) == 0) = false := by have : stg (atChannel c.channels i) = stg (Ch c i) := rfl; simp; omega
    have f2 : ((((srcL c (i : Int)).length : Nat) : Int) == 1) = true := by rw [l1, a1]; rfl
    rw [spL68_eq]
    simp only [bod68, Int.toNat_natCast, lt_t hi, inR_of hi, cond_true, k1', k2', e1, f1, f2, cond_false, Bool.not_true]
    rw [decide_eq_false (by rw [l2]; omega), decide_eq_false (by rw [l2]; omega), wrap_succ i (by omega)]
    have ok := o.kind
    have od := o.depth.2
    unfold Ch at ok od
    cases hkk : ((atChannel c.channels i).kind == 1) with
    | false => rfl
    | true =>
      rw [od (by simpa using hkk)]; rfl)
  unfold spO68 ent68
  rw [decide_eq_false (by omega), decide_eq_false (by omega), decide_eq_false (by omega), decide_eq_false (by omega), cond_false, cond_false, cond_false, cond_false]
  refine Eq.trans h0 ?_
  rw [spL68_eq]
  simp only [bod68, lt_f (Nat.le_refl _), cond_false]
  refine Eq.trans h4 ?_
  rw [spL68_eq]
  simp only [bod68, lt_f (Nat.le_refl _), cond_false, id]
noncomputable def endQ (x : Partition) (h : Int) (s : Bool) (k : Nat) : Bool := ((atPort x.ports k).channel == h) && ((atPort x.ports k).source == s)
theorem ends15_r {x : Partition} (hx : x.ports.length ≤ 8) (h : Int) (s : Bool) : spO92 x h s = some (cnt (endQ x h s) x.ports.length : Int) := by
  have h0 := run_loop (n := x.ports.length) (f := fun i (n : Nat) => spL92 x h s (.l0 (n : Int) (i : Int))) (S := fun i => cnt (endQ x h s) i) (fun i hi => by
    have hl := cnt_le (endQ x h s) i
    have e15 : ∀ n : Int, spL92 x h s (.l15 n (i : Int)) = spL92 x h s (.l0 n ((i + 1 : Nat) : Int)) := fun n => by
      rw [spL92_eq]
      simp only [bod92, wrap_succ i (by omega)]
    rw [spL92_eq]
    simp only [bod92, Int.toNat_natCast, lt_t hi, inR_of hi, cond_true, wrap_succ (cnt (endQ x h s) i) (by omega), e15]
    rw [cnt_succ]
    unfold endQ
    cases (atPort x.ports i).channel == h <;> cases (atPort x.ports i).source == s <;> rfl)
  refine Eq.trans (show _ = spL92 x h s (.l0 0 0) from rfl) (Eq.trans h0 ?_)
  rw [spL92_eq]
  simp only [bod92, lt_f (Nat.le_refl _), cond_false, id]
theorem endQ_src (c : Config) (h : Int) (p : Nat) : endQ (P c p) h true = isSrc c h p := by
  funext k; unfold endQ isSrc Pt; cases (atPort (P c p).ports k).source <;> rfl
theorem endQ_dst (c : Config) (h : Int) (p : Nat) : endQ (P c p) h false = isDst c h p := by
  funext k; unfold endQ isDst Pt; cases (atPort (P c p).ports k).source <;> rfl
theorem may_r {c : Config} (g : Sound c) (hk : 0 ≤ c.kernel ∧ c.kernel < 1024) : spO46 c = some true := by
  have hn := g.few.parts
  have hq := g.chans
  have h0 := run_loop (n := c.partitions.length) (f := fun i (_ : Unit) => spL46 c (.l0 (i : Int))) (S := fun _ => ()) (fun i hi => by
    obtain ⟨k1, k2⟩ := sp_of (may_part g hi)
    have k1' : sp90 (atPartition c.partitions i) c.channels.length = true := k1
    have k2' : spc90 (atPartition c.partitions i) c.channels.length = true := k2
    rw [spL46_eq]
    simp only [bod46, Int.toNat_natCast, lt_t hi, inR_of hi, cond_true, k1', k2', wrap_succ i (by omega)]
    rfl)
  have h8 : ∀ i, i < c.channels.length → ∀ (y z : Bool) (u : Int) (v : Bool) (d1 d2 d3 : Int), spL46 c (.l8 (i : Int) 0 0 (i : Int) u v y z 0 d1 d2 d3) = spL46 c (.l4 ((i + 1 : Nat) : Int)) := fun i hi y z u v d1 d2 d3 => by
    obtain ⟨o, a1, a2, a3⟩ := g.chan i hi
    have h := run_loop (n := c.partitions.length) (f := fun p (n : Nat × Nat) => spL46 c (.l8 (i : Int) (n.1 : Int) (n.2 : Int) (i : Int) u v y z (p : Int) d1 d2 d3)) (S := fun p => (srcN c i p, dstN c i p)) (fun p hp => by
      obtain ⟨k1, k2⟩ := sp_of (ends15_r (g.few.ports p hp) (i : Int) true)
      obtain ⟨k3, k4⟩ := sp_of (ends15_r (g.few.ports p hp) (i : Int) false)
      have k1' : sp92 (atPartition c.partitions p) (i : Int) true = _ := k1
      have k2' : spc92 (atPartition c.partitions p) (i : Int) true = true := k2
      have k3' : sp92 (atPartition c.partitions p) (i : Int) false = _ := k3
      have k4' : spc92 (atPartition c.partitions p) (i : Int) false = true := k4
      rw [endQ_src] at k1'
      rw [endQ_dst] at k3'
      have b1 := srcN_le g.few (i : Int) (n := p) (by omega)
      have b2 := dstN_le g.few (i : Int) (n := p) (by omega)
      have b3 := cnt_le (isSrc c i p) (P c p).ports.length
      have b4 := cnt_le (isDst c i p) (P c p).ports.length
      have b5 := g.few.ports p hp
      unfold nport at b5
      rw [spL46_eq]
      simp only [bod46, Int.toNat_natCast, lt_t hp, inR_of hp, cond_true, k1', k2', k3', k4', wrap_succ p (by omega)]
      rw [wrap_nat _ (srcN c i (p + 1)) (by simp only [srcN, tot, nport]; omega) (by simp only [srcN, tot, nport] at b1 ⊢; omega), wrap_nat _ (dstN c i (p + 1)) (by simp only [dstN, tot, nport]; omega) (by simp only [dstN, tot, nport] at b2 ⊢; omega)])
    refine Eq.trans h ?_
    rw [spL46_eq]
    have f2 : ((srcN c i c.partitions.length : Int) == 1) = true := by rw [a1]; rfl
    simp only [bod46, lt_f (Nat.le_refl _), cond_false, f2, Bool.not_true, wrap_succ i (by omega)]
    rw [decide_eq_false (by omega), decide_eq_false (by omega)]
    rfl
  have h4 := run_loop (n := c.channels.length) (f := fun i (_ : Unit) => spL46 c (.l4 (i : Int))) (S := fun _ => ()) (fun i hi => by
    obtain ⟨o, a1, a2, a3⟩ := g.chan i hi
    have hs := prt_le o
    have e1 := port_r o
    unfold Ch at e1
    have f1 : ((prt (atChannel c.channels i) : Int) == 0) = false := by have : prt (atChannel c.channels i) = prt (Ch c i) := rfl; simp; omega
    have ok := o.kind
    have od := o.depth.2
    unfold Ch at ok od
    rw [spL46_eq]
    simp only [bod46, Int.toNat_natCast, lt_t hi, inR_of hi, cond_true, e1, f1, cond_false, h8 i hi]
    cases hkk : ((atChannel c.channels i).kind == 1) with
    | false => rfl
    | true =>
      rw [od (by simpa using hkk)]; rfl)
  unfold spO46 ent46
  rw [decide_eq_false (by omega), decide_eq_false (by omega), decide_eq_false (by omega), decide_eq_false (by omega), cond_false, cond_false, cond_false, cond_false]
  refine Eq.trans h0 ?_
  rw [spL46_eq]
  simp only [bod46, lt_f (Nat.le_refl _), cond_false]
  refine Eq.trans h4 ?_
  rw [spL46_eq]
  simp only [bod46, lt_f (Nat.le_refl _), cond_false, id]
/-! #### the kernel's pieces, in a closed form; the document's list of them. -/
abbrev Pc := Nat × Nat × Owner
def mkR (x : Pc) : Bulkheadref15Piece := ⟨(x.1 : Int), (x.2.1 : Int), x.2.2⟩
def mkL (x : Pc) : LayoutPiece := ⟨(x.1 : Int), (x.2.1 : Int), x.2.2⟩
noncomputable def K0 (c : Config) : Nat := c.kernel.toNat
noncomputable def pAt (c : Config) (i : Nat) : Nat := 16 * K0 c + 2 + 24 * i
noncomputable def dl (c : Config) (k : Nat) : List LayoutEnd := dstL c (k : Int)
noncomputable def nP (c : Config) : Nat := c.partitions.length
noncomputable def nC (c : Config) : Nat := c.channels.length
noncomputable def cAt (c : Config) : Nat → Nat
  | 0 => pAt c (nP c)
  | k + 1 => cAt c k + 2 + stg (Ch c k) + (dl c k).length * prt (Ch c k)
noncomputable def tF (c : Config) : Nat → Nat
  | 0 => (cAt c (nC c) + 15) / 16
  | i + 1 => tF c i + (1 + ntab (P c i))
def portsOf (s : Nat) : Nat → List LayoutEnd → List Pc
  | _, [] => []
  | a, e :: l => (a, s, ⟨8, e.partition, e.port⟩) :: portsOf s (a + s) l
theorem portsOf_append (s : Nat) : ∀ (a : Nat) (l : List LayoutEnd) (e : LayoutEnd), portsOf s a (l ++ [e]) = portsOf s a l ++ [(a + l.length * s, s, ⟨8, e.partition, e.port⟩)]
  | a, [], e => by simp [portsOf]
  | a, x :: l, e => by
    rw [List.cons_append, portsOf, portsOf, portsOf_append s (a + s) l e, List.length_cons, List.cons_append]
    congr 4
    rw [Nat.add_mul]; omega
theorem portsOf_len (s : Nat) : ∀ (a : Nat) (l : List LayoutEnd), (portsOf s a l).length = l.length
  | _, [] => rfl
  | a, _ :: l => by rw [portsOf, List.length_cons, List.length_cons, portsOf_len s (a + s) l]
noncomputable def part3 (c : Config) (i : Nat) : List Pc := [(pAt c i, 2, ⟨3, (i : Int), 0⟩), (pAt c i + 2, 17, ⟨4, (i : Int), 0⟩), (pAt c i + 19, 5, ⟨5, (i : Int), 0⟩)]
noncomputable def partsPc (c : Config) : Nat → List Pc
  | 0 => []
  | i + 1 => partsPc c i ++ part3 c i
noncomputable def chan2 (c : Config) (k : Nat) : List Pc := [(cAt c k, 2, ⟨6, (k : Int), 0⟩), (cAt c k + 2, stg (Ch c k), ⟨7, (k : Int), 0⟩)]
noncomputable def dAt (c : Config) (k : Nat) : Nat := cAt c k + 2 + stg (Ch c k)
noncomputable def chansP (c : Config) : Nat → List Pc
  | 0 => []
  | k + 1 => (chansP c k ++ chan2 c k) ++ portsOf (prt (Ch c k)) (dAt c k) (dl c k)
noncomputable def rep (f i : Nat) : Nat → List Pc
  | 0 => []
  | n + 1 => rep f i n ++ [(16 * (f + n), 16, ⟨9, (i : Int), 0⟩)]
noncomputable def tabsP (c : Config) : Nat → List Pc
  | 0 => []
  | i + 1 => tabsP c i ++ rep (tF c i) i (1 + ntab (P c i))
noncomputable def bar (c : Config) : List Pc := [(16 * K0 c, 2, ⟨2, 0, 0⟩)]
noncomputable def refP (c : Config) : List Pc := bar c ++ partsPc c (nP c) ++ chansP c (nC c) ++ tabsP c (nP c)
/-! ### Bounds -/
theorem partsPc_len (c : Config) : ∀ n, (partsPc c n).length = 3 * n
  | 0 => rfl
  | n + 1 => by rw [partsPc, List.length_append, partsPc_len c n]; simp [part3]; omega
theorem rep_len (f i : Nat) : ∀ n, (rep f i n).length = n
  | 0 => rfl
  | n + 1 => by rw [rep, List.length_append, rep_len f i n]; rfl
theorem ntab_le (x : Partition) : ntab x ≤ 16 := cnt_le _ _
theorem tabsP_len (c : Config) : ∀ n, (tabsP c n).length ≤ 17 * n
  | 0 => Nat.le_refl _
  | n + 1 => by rw [tabsP, List.length_append, rep_len]; have := tabsP_len c n; have := ntab_le (P c n); omega
theorem dl_le {c : Config} (g : Sound c) {k : Nat} (hk : k < nC c) : 1 ≤ (dl c k).length ∧ (dl c k).length ≤ 4 := by
  obtain ⟨_, _, h1, h2⟩ := g.chan k hk
  rw [dl, dstL_len]; exact ⟨h1, h2⟩
theorem chansP_len {c : Config} (g : Sound c) : ∀ n, n ≤ nC c → (chansP c n).length ≤ 6 * n
  | 0, _ => Nat.le_refl _
  | n + 1, h => by
    rw [chansP, List.length_append, List.length_append, portsOf_len]
    have := chansP_len g n (by omega)
    have := (dl_le g (show n < nC c by omega)).2
    simp [chan2]; omega
theorem pAt_le {c : Config} (g : Sound c) (hk : 0 ≤ c.kernel ∧ c.kernel < 1024) {i : Nat} (hi : i ≤ nP c) : pAt c i ≤ 17000 := by
  have := g.few.parts
  unfold nP at hi
  unfold pAt K0; omega
theorem cAt_step {c : Config} (g : Sound c) {k : Nat} (hk : k < nC c) : cAt c k + 7 ≤ cAt c (k + 1) ∧ cAt c (k + 1) ≤ cAt c k + 700 := by
  obtain ⟨o, _⟩ := g.chan k hk
  have h1 := stg_le o
  have h2 := prt_le o
  have h3 := dl_le g hk
  have h4 := Nat.mul_le_mul h3.2 h2.2
  have h5 := Nat.mul_le_mul h3.1 h2.1
  rw [cAt]; omega
theorem cAt_le {c : Config} (g : Sound c) (hk : 0 ≤ c.kernel ∧ c.kernel < 1024) : ∀ n, n ≤ nC c → cAt c n ≤ 17000 + 700 * n
  | 0, _ => by rw [cAt]; exact pAt_le g hk (Nat.le_refl _)
  | n + 1, h => by
    have := cAt_le g hk n (by omega)
    have h2 := (cAt_step g (show n < nC c by omega)).2
    exact Nat.le_trans h2 (Nat.le_trans (Nat.add_le_add_right this 700) (Nat.le_of_eq (by rw [Nat.mul_succ, Nat.add_assoc])))
theorem cAt_bd {c : Config} (g : Sound c) (hk : 0 ≤ c.kernel ∧ c.kernel < 1024) {n : Nat} (h : n ≤ nC c) : cAt c n ≤ 30000 := by
  have := cAt_le g hk n h
  have := g.chans
  unfold nC at h; omega
theorem tF_le {c : Config} (g : Sound c) (hk : 0 ≤ c.kernel ∧ c.kernel < 1024) : ∀ n, tF c n ≤ 2000 + 17 * n
  | 0 => by rw [tF]; have := cAt_bd g hk (Nat.le_refl (nC c)); omega
  | n + 1 => by rw [tF]; have := tF_le g hk n; have := ntab_le (P c n); omega
theorem tF_bd {c : Config} (g : Sound c) (hk : 0 ≤ c.kernel ∧ c.kernel < 1024) {n : Nat} (h : n ≤ nP c) : tF c n ≤ 3000 := by
  have := tF_le g hk n
  have := g.few.parts
  unfold nP at h; omega
theorem room1 {α : Type} {xs : List α} {b : Nat} (h : xs.length ≤ 4096) (hb : b ≤ 100) (y : α) : leB ((xs.length + [y].length) * b) 140737488355328 = true := leB_t (by
  exact Nat.le_trans (Nat.mul_le_mul (show xs.length + [y].length ≤ 4097 by rw [List.length_singleton]; omega) hb) (by decide))
/-! ### The document's list -/
noncomputable def rA (c : Config) (i : Nat) : List Pc := bar c ++ partsPc c i
noncomputable def rB (c : Config) (k : Nat) : List Pc := rA c (nP c) ++ chansP c k
noncomputable def rC (c : Config) (i : Nat) : List Pc := rB c (nC c) ++ tabsP c i
theorem rA_len {c : Config} (g : Sound c) {i : Nat} (hi : i ≤ nP c) : (rA c i).length ≤ 100 := by
  have := g.few.parts
  unfold nP at hi
  rw [rA, List.length_append, partsPc_len]; simp [bar]; omega
theorem rB_len {c : Config} (g : Sound c) {k : Nat} (hk : k ≤ nC c) : (rB c k).length ≤ 200 := by
  have := g.chans
  have h1 := rA_len g (Nat.le_refl (nP c))
  have h2 := chansP_len g k hk
  unfold nC at hk
  rw [rB, List.length_append]; omega
theorem rC_len {c : Config} (g : Sound c) {k : Nat} (hk : k ≤ nP c) : (rC c k).length ≤ 400 := by
  have := g.few.parts
  have h1 := rB_len g (Nat.le_refl (nC c))
  have h2 := tabsP_len c k
  unfold nP at hk
  rw [rC, List.length_append]; omega
section
variable {c : Config} (g : Sound c) (hk : 0 ≤ c.kernel ∧ c.kernel < 1024)
noncomputable def F0 (c : Config) (i : Nat) : Option (List Bulkheadref15Piece) := spL47 c (.l0 (pAt c i : Int) (i : Int) ((rA c i).map mkR))
noncomputable def F4 (c : Config) (k : Nat) : Option (List Bulkheadref15Piece) := spL47 c (.l4 (cAt c k : Int) (k : Int) ((rB c k).map mkR))
noncomputable def F20 (c : Config) (i : Nat) : Option (List Bulkheadref15Piece) := spL47 c (.l20 (16 * tF c i : Nat) (i : Int) ((rC c i).map mkR))
include g hk
theorem F0_all : F0 c 0 = F4 c 0 := by
  have h := run_loop (n := nP c) (f := fun i (_ : Unit) => F0 c i) (S := fun _ => ()) (fun i hi => by
    have hp := pAt_le g hk (Nat.le_of_lt hi)
    have hl := rA_len g (Nat.le_of_lt hi)
    have b1 : ∀ y : Bulkheadref15Piece, leB ((((rA c i).map mkR).length + [y].length) * 40) 140737488355328 = true := room1 (by rw [List.length_map]; omega) (by omega)
    have b2 : ∀ x y : Bulkheadref15Piece, leB ((((rA c i).map mkR ++ [x]).length + [y].length) * 40) 140737488355328 = true := fun x => room1 (by rw [List.length_append, List.length_map]; simp; omega) (by omega)
    have b3 : ∀ w x y : Bulkheadref15Piece, leB (((((rA c i).map mkR ++ [w]) ++ [x]).length + [y].length) * 40) 140737488355328 = true := fun w x => room1 (by rw [List.length_append, List.length_append, List.length_map]; simp; omega) (by omega)
    have e1 : IntKind.i64.wrap ((pAt c i : Int) + 2) = ((pAt c i + 2 : Nat) : Int) := wrap_nat _ _ (by omega) (by omega)
    have e2 : IntKind.i64.wrap (((pAt c i + 2 : Nat) : Int) + 17) = ((pAt c i + 19 : Nat) : Int) := wrap_nat _ _ (by omega) (by omega)
    have e3 : IntKind.i64.wrap ((pAt c i : Int) + 24) = ((pAt c (i + 1) : Nat) : Int) := wrap_nat _ _ (by unfold pAt; omega) (by unfold pAt at hp ⊢; omega)
    unfold F0
    rw [spL47_eq]
    simp only [bod47, show decide ((i : Int) < (c.partitions.length : Int)) = true from lt_t hi, cond_true, b1, b2, b3, e1, e2, e3, wrap_succ i (show i < 4611686018427387904 by have := g.few.parts; unfold nP at hi; omega)]
    have : (rA c (i + 1)).map mkR = (((rA c i).map mkR ++ [⟨(pAt c i : Int), 2, ⟨3, (i : Int), 0⟩⟩]) ++ [⟨((pAt c i + 2 : Nat) : Int), 17, ⟨4, (i : Int), 0⟩⟩]) ++ [⟨((pAt c i + 19 : Nat) : Int), 5, ⟨5, (i : Int), 0⟩⟩] := by
      rw [show rA c (i + 1) = rA c i ++ part3 c i by unfold rA; rw [partsPc, List.append_assoc]]
      rw [List.map_append, List.append_assoc, List.append_assoc]; rfl
    rw [this])
  refine Eq.trans h ?_
  unfold F0
  rw [spL47_eq]
  have hf : decide ((nP c : Int) < (c.partitions.length : Int)) = false := lt_f (Nat.le_refl _)
  simp only [bod47, hf, cond_false]
  unfold F4
  rw [show rB c 0 = rA c (nP c) by unfold rB; rw [chansP, List.append_nil]]
  rfl
noncomputable def F8 (c : Config) (k q : Nat) : Option (List Bulkheadref15Piece) := spL47 c (.l8 ((dAt c k + (endsL c (isDst c (k : Int)) q).length * prt (Ch c k) : Nat) : Int) (k : Int) (k : Int) (q : Int) ((rB c k ++ chan2 c k ++ portsOf (prt (Ch c k)) (dAt c k) (endsL c (isDst c (k : Int)) q)).map mkR) (Ch c k).kind (Ch c k).words (Ch c k).depth)
noncomputable def F12 (c : Config) (k q i : Nat) (l : List LayoutEnd) : Option (List Bulkheadref15Piece) := spL47 c (.l12 ((dAt c k + l.length * prt (Ch c k) : Nat) : Int) (k : Int) (q : Int) (k : Int) (q : Int) (nport c q) (i : Int) ((rB c k ++ chan2 c k ++ portsOf (prt (Ch c k)) (dAt c k) l).map mkR) (Ch c k).kind (Ch c k).words (Ch c k).depth)
theorem F12_step {k q i : Nat} (hkk : k < nC c) (hq : q < nP c) (hi : i < nport c q) {l : List LayoutEnd} (hl : l.length ≤ 64) : F12 c k q i l = F12 c k q (i + 1) (l ++ cond (isDst c (k : Int) q i) [⟨(q : Int), (i : Int)⟩] []) := by
  obtain ⟨o, _⟩ := g.chan k hkk
  have hpt := port_r o
  have hpl := prt_le o
  have hst := stg_le o
  have hca := cAt_bd g hk (Nat.le_of_lt hkk)
  have hrl := rB_len g (Nat.le_of_lt hkk)
  have hn := g.few.ports q hq
  have hml := Nat.mul_le_mul hl hpl.2
  have hd : dAt c k ≤ 40000 := by unfold dAt; omega
  have b1 : ∀ y : Bulkheadref15Piece, leB ((((rB c k ++ chan2 c k ++ portsOf (prt (Ch c k)) (dAt c k) l).map mkR).length + [y].length) * 40) 140737488355328 = true := room1 (by rw [List.length_map, List.length_append, List.length_append, portsOf_len]; simp [chan2]; omega) (by omega)
  have e61 : ∀ (a : Int) (xs : List Bulkheadref15Piece), spL47 c (.l61 a (k : Int) (q : Int) (k : Int) (q : Int) (nport c q) (i : Int) xs (Ch c k).kind (Ch c k).words (Ch c k).depth) = spL47 c (.l12 a (k : Int) (q : Int) (k : Int) (q : Int) (nport c q) ((i + 1 : Nat) : Int) xs (Ch c k).kind (Ch c k).words (Ch c k).depth) := fun a xs => by
    rw [spL47_eq]
    simp only [bod47, wrap_succ i (by omega)]
  have e1 : IntKind.i64.wrap (((dAt c k + l.length * prt (Ch c k) : Nat) : Int) + (prt (Ch c k) : Int)) = ((dAt c k + (l.length + 1) * prt (Ch c k) : Nat) : Int) := wrap_nat _ _ (by rw [Nat.add_mul]; omega) (by rw [Nat.add_mul]; omega)
  have hi' : i < (atPartition c.partitions q).ports.length := hi
  have hpt' : sp91 (⟨(Ch c k).kind, (Ch c k).words, (Ch c k).depth⟩ : Channel) = (prt (Ch c k) : Int) := hpt
  unfold F12
  rw [spL47_eq]
  simp only [bod47, Int.toNat_natCast, lt_t hi, inR_of hi', inR_of (show q < c.partitions.length from hq), cond_true, b1, hpt', e1, e61]
  unfold isDst Pt P
  cases (atPort (atPartition c.partitions q).ports i).channel == (k : Int) <;> cases (atPort (atPartition c.partitions q).ports i).source
  · simp only [cond_false, Bool.false_and, List.append_nil]
  · simp only [cond_false, Bool.false_and, List.append_nil]
  · simp only [cond_true, cond_false, Bool.true_and, Bool.not_false]
    rw [portsOf_append, List.length_append, List.length_singleton, ← List.append_assoc, List.map_append (l₂ := [_])]
    rfl
  · simp only [cond_true, cond_false, Bool.true_and, Bool.not_true, List.append_nil]
theorem F4_all : F4 c 0 = spL47 c (.l16 (cAt c (nC c) : Int) ((rB c (nC c)).map mkR)) := by
  have h := run_loop (n := nC c) (f := fun k (_ : Unit) => F4 c k) (S := fun _ => ()) (fun k hkk => by
    obtain ⟨o, _⟩ := g.chan k hkk
    have hst := stg_le o
    have hsr := stage_r o
    have hca := cAt_bd g hk (Nat.le_of_lt hkk)
    have hrl := rB_len g (Nat.le_of_lt hkk)
    have b1 : ∀ y : Bulkheadref15Piece, leB ((((rB c k).map mkR).length + [y].length) * 40) 140737488355328 = true := room1 (by rw [List.length_map]; omega) (by omega)
    have b2 : ∀ x y : Bulkheadref15Piece, leB ((((rB c k).map mkR ++ [x]).length + [y].length) * 40) 140737488355328 = true := fun x => room1 (by rw [List.length_append, List.length_map]; simp; omega) (by omega)
    have e1 : IntKind.i64.wrap ((cAt c k : Int) + 2) = ((cAt c k + 2 : Nat) : Int) := wrap_nat _ _ (by omega) (by omega)
    have e2 : IntKind.i64.wrap (2 + (stg (Ch c k) : Int)) = ((2 + stg (Ch c k) : Nat) : Int) := wrap_nat _ _ (by omega) (by omega)
    have e3 : IntKind.i64.wrap ((cAt c k : Int) + ((2 + stg (Ch c k) : Nat) : Int)) = ((dAt c k : Nat) : Int) := wrap_nat _ _ (by unfold dAt; omega) (by unfold dAt; omega)
    have hsr' : sp93 (atChannel c.channels k) = (stg (Ch c k) : Int) := hsr
    have hk16 := g.chans
    unfold nC at hkk
    have s1 : F4 c k = F8 c k 0 := by
      unfold F4 F8
      rw [spL47_eq]
      simp only [bod47, Int.toNat_natCast, lt_t hkk, inR_of hkk, cond_true, b1, b2, hsr', e1, e2, e3]
      rw [endsL, portsOf, List.append_nil, List.length_nil, Nat.zero_mul, Nat.add_zero, List.map_append, List.append_assoc]
      rfl
    have s2 := run_loop (n := nP c) (f := fun q (_ : Unit) => F8 c k q) (S := fun _ => ()) (fun q hq => by
      have hq8 := g.few.parts
      have hq' : q < c.partitions.length := hq
      have dle : ∀ i, i ≤ nport c q → (endsL c (isDst c (k : Int)) q ++ endsP (isDst c (k : Int)) q i).length ≤ 64 := fun i hi => by
        rw [List.length_append, endsL_len, endsP_len]
        have hm : cnt (isDst c (k : Int) q) i ≤ i := cnt_le _ _
        have h2 := tot_le (g := fun p => cnt (isDst c (k : Int) p) (nport c p)) (b := 8) (n := q) fun i hi => Nat.le_trans (cnt_le _ _) (g.few.ports i (by omega))
        have := g.few.ports q hq'
        omega
      have s3 := run_loop (n := nport c q) (f := fun i (l : List LayoutEnd) => F12 c k q i l) (S := fun i => endsL c (isDst c (k : Int)) q ++ endsP (isDst c (k : Int)) q i) (fun i hi => by
        rw [F12_step g hk hkk hq hi (dle i (Nat.le_of_lt hi)), endsP_succ, List.append_assoc])
      have s4 : F8 c k q = F12 c k q 0 (endsL c (isDst c (k : Int)) q) := by
        unfold F8 F12
        rw [spL47_eq]
        simp only [bod47, Int.toNat_natCast, lt_t hq', inR_of hq', cond_true]
        rfl
      rw [s4]
      rw [show endsP (isDst c (k : Int)) q 0 = [] from rfl, List.append_nil] at s3
      rw [s3]
      unfold F8 F12
      rw [spL47_eq]
      have hf : decide ((nport c q : Int) < (nport c q : Int)) = false := lt_f (Nat.le_refl _)
      simp only [bod47, hf, cond_false, wrap_succ q (show q < 4611686018427387904 by omega)]
      rfl)
    rw [s1, s2]
    unfold F8 F4
    rw [spL47_eq]
    have hf : decide ((nP c : Int) < (c.partitions.length : Int)) = false := lt_f (Nat.le_refl _)
    simp only [bod47, hf, cond_false, wrap_succ k (show k < 4611686018427387904 by omega)]
    rw [show rB c (k + 1) = rB c k ++ chan2 c k ++ portsOf (prt (Ch c k)) (dAt c k) (dl c k) by unfold rB; rw [chansP, List.append_assoc, List.append_assoc, List.append_assoc]]
    rfl)
  refine Eq.trans h ?_
  unfold F4
  rw [spL47_eq]
  have hf : decide ((nC c : Int) < (c.channels.length : Int)) = false := lt_f (Nat.le_refl _)
  simp only [bod47, hf, cond_false]
end
/-! #### the document's list of pieces, whole. -/
theorem round16 (c : Config) (xs : List Bulkheadref15Piece) : ∀ m a : Nat, 16 * ((a + 15) / 16) = a + m → a + m < 100000 → spL47 c (.l16 (a : Int) xs) = spL47 c (.l20 ((16 * ((a + 15) / 16) : Nat) : Int) 0 xs)
  | 0, a, h, ha => by
    have hr : a % 16 = 0 := by omega
    rw [h, Nat.add_zero]
    rw [spL47_eq]
    simp only [bod47, rem_nat, hr]
    rfl
  | m + 1, a, h, ha => by
    have hr : ((((a % 16 : Nat) : Int)) == 0) = false := beq_eq_false_iff_ne.2 (by omega)
    have hd : (a + 1 + 15) / 16 = (a + 15) / 16 := by omega
    have ih := round16 c xs m (a + 1) (by rw [hd]; omega) (by omega)
    rw [hd] at ih
    rw [← ih, spL47_eq]
    simp only [bod47, rem_nat, hr, Bool.not_false, cond_true, wrap_succ a (by omega)]
section
variable {c : Config} (g : Sound c) (hk : 0 ≤ c.kernel ∧ c.kernel < 1024)
include g hk
theorem F20_all : F20 c 0 = some ((refP c).map mkR) := by
  have h := run_loop (n := nP c) (f := fun i (_ : Unit) => F20 c i) (S := fun _ => ()) (fun i hi => by
    have hi' : i < c.partitions.length := hi
    have hP := g.few.parts
    have hrl := rC_len g (Nat.le_of_lt hi)
    have htf := tF_bd g hk (Nat.le_of_lt hi)
    have hnt := ntab_le (P c i)
    have ht : ∀ t : Int, spO94 (P c i) t = spO94 (P c i) t := fun _ => rfl
    have s1 : F20 c i = spL47 c (.l24 (16 * tF c i : Nat) (i : Int) 1 (i : Int) 0 ((rC c i).map mkR)) := by
      unfold F20
      rw [spL47_eq]
      simp only [bod47, lt_t hi', cond_true]
    have s2 := run_loop (n := 16) (f := fun t (n : Nat) => spL47 c (.l24 (16 * tF c i : Nat) (i : Int) (n : Int) (i : Int) (t : Int) ((rC c i).map mkR))) (S := fun t => 1 + cnt (touchB (P c i)) t) (fun t ht16 => by
      have hl := cnt_le (touchB (P c i)) t
      obtain ⟨k1, k2⟩ := sp_of (touches_r (g.nregs i hi').2 (fun k hkk => (g.regs i k hi' hkk).ok) t)
      have k1' : sp94 (atPartition c.partitions i) (t : Int) = touchB (P c i) t := k1
      have k2' : spc94 (atPartition c.partitions i) (t : Int) = true := k2
      have e89 : ∀ n : Int, spL47 c (.l89 (16 * tF c i : Nat) (i : Int) n (i : Int) (t : Int) ((rC c i).map mkR)) = spL47 c (.l24 (16 * tF c i : Nat) (i : Int) n (i : Int) ((t + 1 : Nat) : Int) ((rC c i).map mkR)) := fun n => by
        rw [spL47_eq]
        simp only [bod47, wrap_succ t (show t < 4611686018427387904 by omega)]
      rw [spL47_eq]
      simp only [bod47, show decide ((t : Int) < 16) = true from decide_eq_true (by omega), inR_of hi', Int.toNat_natCast, cond_true, k1', k2', e89, wrap_succ (1 + cnt (touchB (P c i)) t) (show 1 + cnt (touchB (P c i)) t < 4611686018427387904 by omega)]
      rw [cnt_succ]
      cases touchB (P c i) t <;> rfl)
    have s3 : spL47 c (.l24 (16 * tF c i : Nat) (i : Int) ((1 + ntab (P c i) : Nat) : Int) (i : Int) ((16 : Nat) : Int) ((rC c i).map mkR)) = spL47 c (.l28 (16 * tF c i : Nat) (i : Int) (i : Int) ((1 + ntab (P c i) : Nat) : Int) 0 ((rC c i).map mkR)) := by
      rw [spL47_eq]
      simp only [bod47, show decide (((16 : Nat) : Int) < 16) = false from rfl, cond_false]
    have s4 := run_loop (n := 1 + ntab (P c i)) (f := fun j (_ : Unit) => spL47 c (.l28 (16 * (tF c i + j) : Nat) (i : Int) (i : Int) ((1 + ntab (P c i) : Nat) : Int) (j : Int) ((rC c i ++ rep (tF c i) i j).map mkR))) (S := fun _ => ()) (fun j hj => by
      have b1 : ∀ y : Bulkheadref15Piece, leB ((((rC c i ++ rep (tF c i) i j).map mkR).length + [y].length) * 40) 140737488355328 = true := room1 (by rw [List.length_map, List.length_append, rep_len]; omega) (by omega)
      have e1 : IntKind.i64.wrap (((16 * (tF c i + j) : Nat) : Int) + 16) = ((16 * (tF c i + (j + 1)) : Nat) : Int) := wrap_nat _ _ (by omega) (by omega)
      rw [spL47_eq]
      simp only [bod47, lt_t hj, cond_true, b1, e1, wrap_succ j (show j < 4611686018427387904 by omega)]
      rw [rep, ← List.append_assoc, List.map_append (l₂ := [_])]
      rfl)
    rw [s1]
    refine Eq.trans s2 (Eq.trans s3 (Eq.trans (Eq.trans ?_ s4) ?_))
    · rw [rep, List.append_nil]; rfl
    · rw [spL47_eq]
      simp only [bod47, lt_f (Nat.le_refl _), cond_false, wrap_succ i (show i < 4611686018427387904 by omega)]
      unfold F20
      rw [show rC c (i + 1) = rC c i ++ rep (tF c i) i (1 + ntab (P c i)) by unfold rC; rw [tabsP, List.append_assoc], tF])
  refine Eq.trans h ?_
  unfold F20
  rw [spL47_eq]
  have hf : decide ((nP c : Int) < (c.partitions.length : Int)) = false := lt_f (Nat.le_refl _)
  simp only [bod47, hf, cond_false, id]
  rfl
theorem pieces_r : spO47 c = some ((refP c).map mkR) := by
  have hP := g.few.parts
  have e0 : IntKind.i64.wrap (16 * c.kernel) = ((16 * K0 c : Nat) : Int) := wrap_nat _ _ (by unfold K0; omega) (by unfold K0; omega)
  have e1 : IntKind.i64.wrap (((16 * K0 c : Nat) : Int) + 2) = ((pAt c 0 : Nat) : Int) := wrap_nat _ _ (by unfold pAt; omega) (by unfold pAt K0; omega)
  have hc := cAt_bd g hk (Nat.le_refl (nC c))
  unfold spO47 ent47
  rw [e0, e1, room1 (by simp) (by omega), cond_true]
  refine Eq.trans (show _ = F0 c 0 from ?_) ?_
  · unfold F0
    rw [show rA c 0 = bar c by unfold rA; rw [partsPc, List.append_nil]]
    rfl
  · rw [F0_all g hk, F4_all g hk, round16 c _ (16 * ((cAt c (nC c) + 15) / 16) - cAt c (nC c)) (cAt c (nC c)) (by omega) (by omega)]
    rw [← F20_all g hk]
    unfold F20
    rw [show rC c 0 = rB c (nC c) by unfold rC; rw [tabsP, List.append_nil], tF]
    rfl
end
end Go.Proofs.YtgfifnadfmaolaaGreatDoor
