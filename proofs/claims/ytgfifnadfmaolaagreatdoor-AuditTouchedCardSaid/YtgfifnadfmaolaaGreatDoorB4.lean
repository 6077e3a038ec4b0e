/- The law AuditMay, plain law: the program's layout and pieces; the layout's end; Check whole. -/
import Derived.Test.YtgfifnadfmaolaaGreatDoorB3
namespace Go.Proofs.YtgfifnadfmaolaaGreatDoor
open Go.RowKit
set_option linter.unusedVariables false
set_option linter.unusedSimpArgs false
set_option linter.unusedSectionVars false
/-! #### the program's layout, in a closed form. -/
def destsOf (s : Nat) : Nat → List LayoutEnd → List DestPlace
  | _, [] => []
  | a, e :: l => ⟨e.partition, e.port, (a : Int)⟩ :: destsOf s (a + s) l
theorem destsOf_append (s : Nat) : ∀ (a : Nat) (l : List LayoutEnd) (e : LayoutEnd), destsOf s a (l ++ [e]) = destsOf s a l ++ [⟨e.partition, e.port, ((a + l.length * s : Nat) : Int)⟩]
  | a, [], e => by simp [destsOf]
  | a, x :: l, e => by
    rw [List.cons_append, destsOf, destsOf, destsOf_append s (a + s) l e, List.length_cons, List.cons_append]
    rw [show a + s + l.length * s = a + (l.length + 1) * s by rw [Nat.add_mul]; omega]
theorem destsOf_len (s : Nat) : ∀ (a : Nat) (l : List LayoutEnd), (destsOf s a l).length = l.length
  | _, [] => rfl
  | a, _ :: l => by rw [destsOf, List.length_cons, List.length_cons, destsOf_len s (a + s) l]
noncomputable def base (c : Config) (i : Nat) : PartitionPlace := ⟨(pAt c i : Int), ((pAt c i + 2 : Nat) : Int), ((pAt c i + 19 : Nat) : Int), 0, []⟩
def tabs (f j : Nat) : List Int := (List.range j).map fun t : Nat => ((f + 1 + t : Nat) : Int)
noncomputable def full (c : Config) (i : Nat) : PartitionPlace := ⟨(pAt c i : Int), ((pAt c i + 2 : Nat) : Int), ((pAt c i + 19 : Nat) : Int), (tF c i : Int), tabs (tF c i) (ntab (P c i))⟩
noncomputable def srcE (c : Config) (k : Nat) : LayoutEnd := atLayoutEnd (srcL c (k : Int)) 0
noncomputable def chPl (c : Config) (k : Nat) : ChannelPlace := ⟨(cAt c k : Int), ((cAt c k + 2 : Nat) : Int), (srcE c k).partition, (srcE c k).port, destsOf (prt (Ch c k)) (dAt c k) (dl c k)⟩
noncomputable def plA (c : Config) (n : Nat) : List PartitionPlace := (List.range n).map (base c)
noncomputable def plT (c : Config) (i : Nat) : List PartitionPlace := (List.range (nP c)).map fun q => if q < i then full c q else base c q
noncomputable def chL (c : Config) (n : Nat) : List ChannelPlace := (List.range n).map (chPl c)
noncomputable def lay (c : Config) : Layout := ⟨((16 * K0 c : Nat) : Int), plT c (nP c), chL c (nC c), (tF c (nP c) : Int)⟩
theorem next_a (n h : Int) : sp115 n h = (h, IntKind.i64.wrap (h + n)) := rfl
theorem start_a (n : Int) : sp69 n = n := rfl
theorem plT_len (c : Config) (i : Nat) : (plT c i).length = nP c := by simp [plT]
theorem at_set {xs : List PartitionPlace} {i : Nat} {y : PartitionPlace} (h : i < xs.length) : atPartitionPlace (List.set xs i y) i = y := by
  simp [atPartitionPlace, List.getD, List.getElem?_set, h]
theorem plT_at {c : Config} {i j : Nat} (hj : j < nP c) : atPartitionPlace (plT c i) j = if j < i then full c j else base c j := by
  simp [atPartitionPlace, List.getD, plT, hj]
theorem plT_set {c : Config} {i : Nat} (hi : i < nP c) : List.set (plT c i) i (full c i) = plT c (i + 1) := by
  apply List.ext_getElem
  · simp [plT]
  · intro j h1 h2
    simp only [plT, List.getElem_set, List.getElem_map, List.getElem_range]
    by_cases hj : i = j
    · subst hj; rw [if_pos rfl, if_pos (by omega)]
    · rw [if_neg hj]
      by_cases h3 : j < i
      · rw [if_pos h3, if_pos (by omega)]
      · rw [if_neg h3, if_neg (by omega)]
section
variable {c : Config} (g : Sound c) (hk : 0 ≤ c.kernel ∧ c.kernel < 1024)
include g hk
theorem G0_all : spL36 c (.l0 0 (pAt c 0 : Int) []) = spL36 c (.l4 0 (cAt c 0 : Int) (plA c (nP c)) []) := by
  have h := run_loop (n := nP c) (f := fun i (_ : Unit) => spL36 c (.l0 (i : Int) (pAt c i : Int) (plA c i))) (S := fun _ => ()) (fun i hi => by
    have hi' : i < c.partitions.length := hi
    have hP := g.few.parts
    have hp := pAt_le g hk (Nat.le_of_lt hi)
    have b1 : ∀ y : PartitionPlace, leB (((plA c i).length + [y].length) * 56) 140737488355328 = true := room1 (by simp [plA]; omega) (by omega)
    have e1 : IntKind.i64.wrap ((pAt c i : Int) + 2) = ((pAt c i + 2 : Nat) : Int) := wrap_nat _ _ (by omega) (by omega)
    have e2 : IntKind.i64.wrap (((pAt c i + 2 : Nat) : Int) + 17) = ((pAt c i + 19 : Nat) : Int) := wrap_nat _ _ (by omega) (by omega)
    have e3 : IntKind.i64.wrap (((pAt c i + 19 : Nat) : Int) + 5) = ((pAt c (i + 1) : Nat) : Int) := wrap_nat _ _ (by unfold pAt; omega) (by unfold pAt at hp ⊢; omega)
    rw [spL36_eq]
    simp only [bod36, lt_t hi', cond_true, next_a, e1, e2, e3, b1, wrap_succ i (show i < 4611686018427387904 by omega)]
    rw [show plA c (i + 1) = plA c i ++ [base c i] from map_range_succ _ _]
    rfl)
  refine Eq.trans h ?_
  rw [spL36_eq]
  have hf : decide ((nP c : Int) < (c.partitions.length : Int)) = false := lt_f (Nat.le_refl _)
  simp only [bod36, hf, cond_false]
  rfl
theorem G4_step {k : Nat} (hkk : k < nC c) : spL36 c (.l4 (k : Int) (cAt c k : Int) (plA c (nP c)) (chL c k)) = spL36 c (.l4 ((k + 1 : Nat) : Int) (cAt c (k + 1) : Int) (plA c (nP c)) (chL c (k + 1))) := by
  have hkk' : k < c.channels.length := hkk
  have hC := g.chans
  obtain ⟨o, a1, _⟩ := g.chan k hkk'
  have hst := stg_le o
  have hpl := prt_le o
  have hca := cAt_bd g hk (Nat.le_of_lt hkk)
  obtain ⟨k1, k2⟩ := sp_of (lends_a g.few (k : Int))
  have k1' : sp70 c (k : Int) = (srcL c (k : Int), dl c k) := k1
  have k2' : spc70 c (k : Int) = true := k2
  have hs1 : (srcL c (k : Int)).length = 1 := by rw [srcL_len]; exact a1
  have hr : inR 0 (srcL c (k : Int)).length = true := by rw [hs1]; rfl
  have e1 : IntKind.i64.wrap ((cAt c k : Int) + 2) = ((cAt c k + 2 : Nat) : Int) := wrap_nat _ _ (by omega) (by omega)
  have e2 : IntKind.i64.wrap (((cAt c k + 2 : Nat) : Int) + (stg (Ch c k) : Int)) = ((dAt c k : Nat) : Int) := wrap_nat _ _ (by unfold dAt; omega) (by unfold dAt; omega)
  have hsr' : sp71 (atChannel c.channels k) = (stg (Ch c k) : Int) := stage_a o
  have hd4 := (dl_le g hkk).2
  have hd : dAt c k ≤ 40000 := by unfold dAt; omega
  have s1 : spL36 c (.l4 (k : Int) (cAt c k : Int) (plA c (nP c)) (chL c k)) = spL36 c (.l8 (k : Int) (dl c k).length 0 (dAt c k : Int) (plA c (nP c)) (chL c k) (Ch c k).kind (Ch c k).words (Ch c k).depth (cAt c k : Int) ((cAt c k + 2 : Nat) : Int) (srcE c k).partition (srcE c k).port [] (dl c k)) := by
    rw [spL36_eq]
    simp only [bod36, lt_t hkk', inR_of hkk', Int.toNat_natCast, cond_true, next_a, k1', k2', hr, hsr', e1, e2]
    rfl
  have s2 := run_loop (n := (dl c k).length) (f := fun j (_ : Unit) => spL36 c (.l8 (k : Int) (dl c k).length (j : Int) ((dAt c k + j * prt (Ch c k) : Nat) : Int) (plA c (nP c)) (chL c k) (Ch c k).kind (Ch c k).words (Ch c k).depth (cAt c k : Int) ((cAt c k + 2 : Nat) : Int) (srcE c k).partition (srcE c k).port (destsOf (prt (Ch c k)) (dAt c k) ((dl c k).take j)) (dl c k))) (S := fun _ => ()) (fun j hj => by
    have b1 : ∀ y : DestPlace, leB (((destsOf (prt (Ch c k)) (dAt c k) ((dl c k).take j)).length + [y].length) * 24) 140737488355328 = true := room1 (by rw [destsOf_len, List.length_take]; omega) (by omega)
    have hm := Nat.mul_le_mul (show j ≤ 4 by omega) hpl.2
    have e3 : IntKind.i64.wrap (((dAt c k + j * prt (Ch c k) : Nat) : Int) + (prt (Ch c k) : Int)) = ((dAt c k + (j + 1) * prt (Ch c k) : Nat) : Int) := wrap_nat _ _ (by rw [Nat.add_mul]; omega) (by rw [Nat.add_mul]; omega)
    have hpr' : sp72 (⟨(Ch c k).kind, (Ch c k).words, (Ch c k).depth⟩ : Channel) = (prt (Ch c k) : Int) := port_a o
    rw [spL36_eq]
    simp only [bod36, lt_t hj, inR_of hj, Int.toNat_natCast, cond_true, next_a, b1, hpr', e3, wrap_succ j (show j < 4611686018427387904 by omega)]
    have ht : (dl c k).take (j + 1) = (dl c k).take j ++ [atLayoutEnd (dl c k) j] := by
      rw [List.take_add_one]; simp [atLayoutEnd, List.getD, hj]
    rw [ht, destsOf_append, List.length_take, Nat.min_eq_left (Nat.le_of_lt hj)])
  have s3 : spL36 c (.l8 (k : Int) (dl c k).length ((dl c k).length : Int) ((dAt c k + (dl c k).length * prt (Ch c k) : Nat) : Int) (plA c (nP c)) (chL c k) (Ch c k).kind (Ch c k).words (Ch c k).depth (cAt c k : Int) ((cAt c k + 2 : Nat) : Int) (srcE c k).partition (srcE c k).port (destsOf (prt (Ch c k)) (dAt c k) (dl c k)) (dl c k)) = spL36 c (.l4 ((k + 1 : Nat) : Int) (cAt c (k + 1) : Int) (plA c (nP c)) (chL c (k + 1))) := by
    have b1 : ∀ y : ChannelPlace, leB (((chL c k).length + [y].length) * 56) 140737488355328 = true := room1 (by simp [chL]; omega) (by omega)
    rw [spL36_eq]
    simp only [bod36, lt_f (Nat.le_refl _), cond_false, b1, cond_true, wrap_succ k (show k < 4611686018427387904 by omega)]
    rw [show chL c (k + 1) = chL c k ++ [chPl c k] from map_range_succ _ _]
    rfl
  rw [List.take_length] at s2
  exact s1.trans ((show _ = _ from by rw [Nat.zero_mul, Nat.add_zero, List.take_zero] at s2; exact s2).trans s3)
theorem G12_step {i : Nat} (hi : i < nP c) : spL36 c (.l12 (i : Int) (plT c i) (chL c (nC c)) (tF c i : Int)) = spL36 c (.l12 ((i + 1 : Nat) : Int) (plT c (i + 1)) (chL c (nC c)) (tF c (i + 1) : Int)) := by
  have hi' : i < c.partitions.length := hi
  have hP := g.few.parts
  have htf := tF_bd g hk (Nat.le_of_lt hi)
  have hnt := ntab_le (P c i)
  obtain ⟨k1, k2⟩ := sp_of (tables_a (g.nregs i hi').2 (fun k hkk => (g.regs i k hi' hkk).ok))
  have k1' : sp73 (atPartition c.partitions i) = (ntab (P c i) : Int) := k1
  have k2' : spc73 (atPartition c.partitions i) = true := k2
  have hl : i < (plT c i).length := by rw [plT_len]; exact hi
  have hb : atPartitionPlace (plT c i) i = base c i := by rw [plT_at hi, if_neg (Nat.lt_irrefl _)]
  have s1 : spL36 c (.l12 (i : Int) (plT c i) (chL c (nC c)) (tF c i : Int)) = spL36 c (.l16 (i : Int) (i : Int) (ntab (P c i) : Int) 0 (List.set (plT c i) i ⟨(pAt c i : Int), ((pAt c i + 2 : Nat) : Int), ((pAt c i + 19 : Nat) : Int), (tF c i : Int), tabs (tF c i) 0⟩) (chL c (nC c)) ((tF c i + 1 : Nat) : Int)) := by
    have e1 : IntKind.i64.wrap ((tF c i : Int) + 1) = ((tF c i + 1 : Nat) : Int) := wrap_nat _ _ (by omega) (by omega)
    rw [spL36_eq]
    simp only [bod36, lt_t hi', inR_of hi', inR_of hl, Int.toNat_natCast, cond_true, next_a, k1', k2', hb, e1]
    rfl
  have s2 := run_loop (n := ntab (P c i)) (f := fun j (_ : Unit) => spL36 c (.l16 (i : Int) (i : Int) (ntab (P c i) : Int) (j : Int) (List.set (plT c i) i ⟨(pAt c i : Int), ((pAt c i + 2 : Nat) : Int), ((pAt c i + 19 : Nat) : Int), (tF c i : Int), tabs (tF c i) j⟩) (chL c (nC c)) ((tF c i + 1 + j : Nat) : Int))) (S := fun _ => ()) (fun j hj => by
    have hl2 : ∀ y, i < (List.set (plT c i) i y).length := fun y => by rw [List.length_set]; exact hl
    have e1 : IntKind.i64.wrap (((tF c i + 1 + j : Nat) : Int) + 1) = ((tF c i + 1 + (j + 1) : Nat) : Int) := wrap_nat _ _ (by omega) (by omega)
    have b1 : ∀ y : Int, leB (((tabs (tF c i) j).length + [y].length) * 8) 140737488355328 = true := room1 (by simp [tabs]; omega) (by omega)
    rw [spL36_eq]
    simp only [bod36, lt_t hj, inR_of (hl2 _), Int.toNat_natCast, cond_true, next_a, at_set hl, b1, e1, List.set_set, Nat.beq_refl, wrap_succ j (show j < 4611686018427387904 by omega)]
    rw [show tabs (tF c i) (j + 1) = tabs (tF c i) j ++ [((tF c i + 1 + j : Nat) : Int)] from map_range_succ _ _])
  rw [s1]
  refine Eq.trans s2 ?_
  rw [spL36_eq]
  simp only [bod36, lt_f (Nat.le_refl _), cond_false, wrap_succ i (show i < 4611686018427387904 by omega)]
  rw [show (⟨(pAt c i : Int), ((pAt c i + 2 : Nat) : Int), ((pAt c i + 19 : Nat) : Int), (tF c i : Int), tabs (tF c i) (ntab (P c i))⟩ : PartitionPlace) = full c i from rfl, plT_set hi, tF, show tF c i + 1 + ntab (P c i) = tF c i + (1 + ntab (P c i)) by omega]
theorem lay_a : spO36 c = some (lay c, 0) := by
  obtain ⟨k1, k2⟩ := sp_of (can_a g hk)
  have k1' : sp68 c = true := k1
  have k2' : spc68 c = true := k2
  have hca := cAt_bd g hk (Nat.le_refl (nC c))
  have e0 : IntKind.i64.wrap (c.kernel * 16) = ((16 * K0 c : Nat) : Int) := wrap_nat _ _ (by unfold K0; omega) (by unfold K0; omega)
  have e1 : IntKind.i64.wrap (((16 * K0 c : Nat) : Int) + 2) = ((pAt c 0 : Nat) : Int) := wrap_nat _ _ (by unfold pAt; omega) (by unfold pAt K0; omega)
  have e2 : IntKind.i64.wrap ((cAt c (nC c) : Int) + 16) = ((cAt c (nC c) + 16 : Nat) : Int) := wrap_nat _ _ (by omega) (by omega)
  have e3 : IntKind.i64.wrap (((cAt c (nC c) + 16 : Nat) : Int) - 1) = ((cAt c (nC c) + 15 : Nat) : Int) := wrap_nat _ _ (by omega) (by omega)
  unfold spO36 ent36
  rw [k1', k2', cond_true, Bool.not_true, cond_false, start_a, next_a, e0, e1]
  refine Eq.trans (G0_all g hk) ?_
  refine Eq.trans (run_loop (n := nC c) (f := fun k (_ : Unit) => spL36 c (.l4 (k : Int) (cAt c k : Int) (plA c (nP c)) (chL c k))) (S := fun _ => ()) fun k hkk => G4_step g hk hkk) ?_
  rw [spL36_eq]
  have hf : decide ((nC c : Int) < (c.channels.length : Int)) = false := lt_f (Nat.le_refl _)
  simp only [bod36, hf, cond_false, next_a, start_a, e2, e3, quo_nat _ (show cAt c (nC c) + 15 < 4611686018427387904 by omega)]
  have ep : plA c (nP c) = plT c 0 := by
    unfold plA plT
    apply List.map_congr_left
    intro q _
    rw [if_neg (by omega)]
  rw [ep]
  refine Eq.trans (run_loop (n := nP c) (f := fun i (_ : Unit) => spL36 c (.l12 (i : Int) (plT c i) (chL c (nC c)) (tF c i : Int))) (S := fun _ => ()) fun i hi => G12_step g hk hi) ?_
  rw [spL36_eq]
  have hf : decide ((nP c : Int) < (c.partitions.length : Int)) = false := lt_f (Nat.le_refl _)
  simp only [bod36, hf, cond_false, next_a, start_a, e0, id]
  rfl
end
/-! #### which pieces there are, that they lie apart; the document's layout's end. -/
/-! ### One behind the other -/
def Laid : Nat → List Pc → Nat → Prop
  | a, [], b => a ≤ b
  | a, x :: l, b => a ≤ x.1 ∧ Laid (x.1 + x.2.1) l b
theorem Laid.mono {a a' : Nat} {l : List Pc} {b : Nat} (h : Laid a l b) (ha : a' ≤ a) : Laid a' l b := by
  cases l with
  | nil => exact Nat.le_trans ha h
  | cons x l => exact ⟨Nat.le_trans ha h.1, h.2⟩
theorem Laid.append : ∀ {l l' : List Pc} {a m b : Nat}, Laid a l m → Laid m l' b → Laid a (l ++ l') b
  | [], _, _, _, _, h, h' => h'.mono h
  | _ :: _, _, _, _, _, h, h' => ⟨h.1, Laid.append h.2 h'⟩
theorem Laid.in_ : ∀ {l : List Pc} {a b : Nat}, Laid a l b → ∀ x ∈ l, a ≤ x.1 ∧ x.1 + x.2.1 ≤ b
  | [], _, _, _, _, hx => by cases hx
  | y :: l, a, b, h, x, hx => by
    have hb : ∀ {l : List Pc} {a b : Nat}, Laid a l b → a ≤ b := by
      intro l
      induction l with
      | nil => intro a b h; exact h
      | cons y l ih => intro a b h; have := ih h.2; have := h.1; omega
    rcases List.mem_cons.1 hx with rfl | hx
    · exact ⟨h.1, hb h.2⟩
    · obtain ⟨h1, h2⟩ := Laid.in_ h.2 x hx
      have := h.1
      exact ⟨by omega, h2⟩
def inP (x : Pc) (a : Nat) : Bool := decide (x.1 ≤ a) && decide (a < x.1 + x.2.1)
theorem inP_iff {x : Pc} {a : Nat} : inP x a = true ↔ x.1 ≤ a ∧ a < x.1 + x.2.1 := by simp [inP]
theorem Laid.one : ∀ {l : List Pc} {a b : Nat}, Laid a l b → ∀ {x y : Pc} {n : Nat}, x ∈ l → y ∈ l → inP x n = true → inP y n = true → x = y
  | [], _, _, _, _, _, _, hx, _, _, _ => by cases hx
  | z :: l, a, b, h, x, y, n, hx, hy, h1, h2 => by
    have i1 := inP_iff.1 h1
    have i2 := inP_iff.1 h2
    rcases List.mem_cons.1 hx with rfl | hx'
    · rcases List.mem_cons.1 hy with rfl | hy'
      · rfl
      · have := (h.2.in_ y hy').1; omega
    · rcases List.mem_cons.1 hy with rfl | hy'
      · have := (h.2.in_ x hx').1; omega
      · exact Laid.one h.2 hx' hy' h1 h2
theorem laid_ports (s : Nat) : ∀ (l : List LayoutEnd) (a : Nat), Laid a (portsOf s a l) (a + l.length * s)
  | [], a => by simp [portsOf, Laid]
  | e :: l, a => by
    refine ⟨Nat.le_refl _, ?_⟩
    have := laid_ports s l (a + s)
    rw [List.length_cons, Nat.add_mul, Nat.one_mul, show a + (l.length * s + s) = a + s + l.length * s by omega]
    exact this
theorem laid_parts (c : Config) : ∀ n, Laid (pAt c 0) (partsPc c n) (pAt c n)
  | 0 => Nat.le_refl _
  | n + 1 => by
    rw [partsPc]
    refine (laid_parts c n).append ?_
    simp only [part3, Laid, pAt]
    omega
theorem laid_chans (c : Config) : ∀ n, Laid (cAt c 0) (chansP c n) (cAt c n)
  | 0 => Nat.le_refl _
  | n + 1 => by
    rw [chansP]
    refine ((laid_chans c n).append (m := cAt c n) (b := dAt c n) ?_).append ?_
    · exact ⟨Nat.le_refl _, Nat.le_refl _, Nat.le_refl _⟩
    · exact laid_ports _ _ _
theorem laid_rep (f i : Nat) : ∀ n, Laid (16 * f) (rep f i n) (16 * (f + n))
  | 0 => Nat.le_refl _
  | n + 1 => by
    rw [rep]
    refine (laid_rep f i n).append ?_
    simp only [Laid]
    omega
theorem laid_tabs (c : Config) : ∀ n, Laid (16 * tF c 0) (tabsP c n) (16 * tF c n)
  | 0 => Nat.le_refl _
  | n + 1 => by
    rw [tabsP, tF]
    exact (laid_tabs c n).append (laid_rep _ _ _)
theorem laid_ref (c : Config) : Laid (16 * K0 c) (refP c) (16 * tF c (nP c)) := by
  refine (((Laid.append (m := pAt c 0) ?_ (laid_parts c _)).append (laid_chans c _)).append ((laid_tabs c _).mono ?_))
  · exact ⟨Nat.le_refl _, Nat.le_refl _⟩
  · show cAt c (nC c) ≤ 16 * ((cAt c (nC c) + 15) / 16)
    omega
/-! ### Which there are -/
inductive Is (c : Config) : Pc → Prop
  | bar : Is c (16 * K0 c, 2, ⟨2, 0, 0⟩)
  | lock {i : Nat} (h : i < nP c) : Is c (pAt c i, 2, ⟨3, (i : Int), 0⟩)
  | save {i : Nat} (h : i < nP c) : Is c (pAt c i + 2, 17, ⟨4, (i : Int), 0⟩)
  | state {i : Nat} (h : i < nP c) : Is c (pAt c i + 19, 5, ⟨5, (i : Int), 0⟩)
  | chan {k : Nat} (h : k < nC c) : Is c (cAt c k, 2, ⟨6, (k : Int), 0⟩)
  | stage {k : Nat} (h : k < nC c) : Is c (cAt c k + 2, stg (Ch c k), ⟨7, (k : Int), 0⟩)
  | port {k : Nat} (h : k < nC c) {x : Pc} (hx : x ∈ portsOf (prt (Ch c k)) (dAt c k) (dl c k)) : Is c x
  | tab {i : Nat} (h : i < nP c) {x : Pc} (hx : x ∈ rep (tF c i) i (1 + ntab (P c i))) : Is c x
theorem parts_mem (c : Config) {x : Pc} : ∀ n, x ∈ partsPc c n ↔ ∃ i, i < n ∧ x ∈ part3 c i
  | 0 => by simp [partsPc]
  | n + 1 => by
    rw [partsPc, List.mem_append, parts_mem c n]
    constructor
    · rintro (⟨i, hi, h⟩ | h)
      · exact ⟨i, by omega, h⟩
      · exact ⟨n, by omega, h⟩
    · rintro ⟨i, hi, h⟩
      by_cases hin : i = n
      · subst hin; exact .inr h
      · exact .inl ⟨i, by omega, h⟩
theorem chans_mem (c : Config) {x : Pc} : ∀ n, x ∈ chansP c n ↔ ∃ k, k < n ∧ (x ∈ chan2 c k ∨ x ∈ portsOf (prt (Ch c k)) (dAt c k) (dl c k))
  | 0 => by simp [chansP]
  | n + 1 => by
    rw [chansP, List.mem_append, List.mem_append, chans_mem c n]
    constructor
    · rintro ((⟨i, hi, h⟩ | h) | h)
      · exact ⟨i, by omega, h⟩
      · exact ⟨n, by omega, .inl h⟩
      · exact ⟨n, by omega, .inr h⟩
    · rintro ⟨i, hi, h⟩
      by_cases hin : i = n
      · subst hin
        rcases h with h | h
        · exact .inl (.inr h)
        · exact .inr h
      · exact .inl (.inl ⟨i, by omega, h⟩)
theorem tabs_mem (c : Config) {x : Pc} : ∀ n, x ∈ tabsP c n ↔ ∃ i, i < n ∧ x ∈ rep (tF c i) i (1 + ntab (P c i))
  | 0 => by simp [tabsP]
  | n + 1 => by
    rw [tabsP, List.mem_append, tabs_mem c n]
    constructor
    · rintro (⟨i, hi, h⟩ | h)
      · exact ⟨i, by omega, h⟩
      · exact ⟨n, by omega, h⟩
    · rintro ⟨i, hi, h⟩
      by_cases hin : i = n
      · subst hin; exact .inr h
      · exact .inl ⟨i, by omega, h⟩
theorem ref_mem {c : Config} {x : Pc} : x ∈ refP c ↔ Is c x := by
  unfold refP
  rw [List.mem_append, List.mem_append, List.mem_append, parts_mem, chans_mem, tabs_mem]
  constructor
  · rintro (((h | ⟨i, hi, h⟩) | ⟨k, hk, h | h⟩) | ⟨i, hi, h⟩)
    · rw [bar, List.mem_singleton] at h; subst h; exact .bar
    · simp only [part3, List.mem_cons, List.not_mem_nil, or_false] at h
      rcases h with rfl | rfl | rfl
      · exact .lock hi
      · exact .save hi
      · exact .state hi
    · simp only [chan2, List.mem_cons, List.not_mem_nil, or_false] at h
      rcases h with rfl | rfl
      · exact .chan hk
      · exact .stage hk
    · exact .port hk h
    · exact .tab hi h
  · intro h
    cases h with
    | bar => exact .inl (.inl (.inl (by simp [bar])))
    | lock h => exact .inl (.inl (.inr ⟨_, h, by simp [part3]⟩))
    | save h => exact .inl (.inl (.inr ⟨_, h, by simp [part3]⟩))
    | state h => exact .inl (.inl (.inr ⟨_, h, by simp [part3]⟩))
    | chan h => exact .inl (.inr ⟨_, h, .inl (by simp [chan2])⟩)
    | stage h => exact .inl (.inr ⟨_, h, .inl (by simp [chan2])⟩)
    | port h hx => exact .inl (.inr ⟨_, h, .inr hx⟩)
    | tab h hx => exact .inr ⟨_, h, hx⟩
theorem rep_mem {f i : Nat} {x : Pc} : ∀ {n}, x ∈ rep f i n ↔ ∃ j, j < n ∧ x = (16 * (f + j), 16, ⟨9, (i : Int), 0⟩)
  | 0 => by simp [rep]
  | n + 1 => by
    rw [rep, List.mem_append, rep_mem, List.mem_singleton]
    constructor
    · rintro (⟨j, hj, h⟩ | h)
      · exact ⟨j, by omega, h⟩
      · exact ⟨n, by omega, h⟩
    · rintro ⟨j, hj, h⟩
      by_cases hjn : j = n
      · subst hjn; exact .inr h
      · exact .inl ⟨j, by omega, h⟩
theorem ports_own {s : Nat} {x : Pc} : ∀ {l : List LayoutEnd} {a : Nat}, x ∈ portsOf s a l → x.2.1 = s ∧ ∃ e ∈ l, x.2.2 = ⟨8, e.partition, e.port⟩
  | [], a, h => by cases h
  | e :: l, a, h => by
    rw [portsOf] at h
    rcases List.mem_cons.1 h with rfl | h
    · exact ⟨rfl, e, by simp, rfl⟩
    · obtain ⟨h1, e', he, h2⟩ := ports_own h
      exact ⟨h1, e', by simp [he], h2⟩
/-! ### The document's layout's end -/
def PcOk (c : Config) (x : Pc) : Prop := x.2.2.kind = 2 ∨ ((x.2.2.kind = 3 ∨ x.2.2.kind = 4 ∨ x.2.2.kind = 5 ∨ x.2.2.kind = 9) ∧ ∃ j, j < nP c ∧ x.2.2.index = ((j : Nat) : Int)) ∨ ((x.2.2.kind = 6 ∨ x.2.2.kind = 7) ∧ ∃ j, j < nC c ∧ x.2.2.index = ((j : Nat) : Int)) ∨ (x.2.2.kind = 8 ∧ 1 ≤ nC c)
theorem pc_ok {c : Config} {x : Pc} (h : Is c x) : PcOk c x := by
  cases h with
  | bar => exact .inl rfl
  | lock h => exact .inr (.inl ⟨.inl rfl, _, h, rfl⟩)
  | save h => exact .inr (.inl ⟨.inr (.inl rfl), _, h, rfl⟩)
  | state h => exact .inr (.inl ⟨.inr (.inr (.inl rfl)), _, h, rfl⟩)
  | chan h => exact .inr (.inr (.inl ⟨.inl rfl, _, h, rfl⟩))
  | stage h => exact .inr (.inr (.inl ⟨.inr rfl, _, h, rfl⟩))
  | port h hx =>
    obtain ⟨_, e, _, h2⟩ := ports_own hx
    exact .inr (.inr (.inr ⟨by rw [h2], by omega⟩))
  | tab h hx =>
    obtain ⟨j, hj, rfl⟩ := rep_mem.1 hx
    exact .inr (.inl ⟨.inr (.inr (.inr rfl)), _, h, rfl⟩)
structure Inv (c : Config) (i : Nat) (x0 : Int) (x4 : List PartitionPlace) (x5 : List ChannelPlace) : Prop where
  ch : 0 ≤ x0 ∧ (1 ≤ nC c → x0 < nC c)
  l4 : x4.length = nP c
  l5 : x5.length = nC c
  t : ∀ p ∈ x4, p.tables.length ≤ i
  d : ∀ p ∈ x5, p.dests.length ≤ i
theorem Inv.up {c : Config} {i : Nat} {x0 : Int} {x4 : List PartitionPlace} {x5 : List ChannelPlace} (h : Inv c i x0 x4 x5) : Inv c (i + 1) x0 x4 x5 :=
  ⟨h.ch, h.l4, h.l5, fun p hp => Nat.le_succ_of_le (h.t p hp), fun p hp => Nat.le_succ_of_le (h.d p hp)⟩
theorem Inv.set4 {c : Config} {i : Nat} {x0 : Int} {x4 : List PartitionPlace} {x5 : List ChannelPlace} (h : Inv c i x0 x4 x5) {j : Nat} {y : PartitionPlace} (hy : y.tables.length ≤ i + 1) : Inv c (i + 1) x0 (List.set x4 j y) x5 :=
  ⟨h.ch, by rw [List.length_set, h.l4], h.l5, fun p hp => by
    rcases List.mem_or_eq_of_mem_set hp with hp | rfl
    · exact Nat.le_succ_of_le (h.t p hp)
    · exact hy, fun p hp => Nat.le_succ_of_le (h.d p hp)⟩
theorem Inv.set5 {c : Config} {i : Nat} {x0 : Int} {x4 : List PartitionPlace} {x5 : List ChannelPlace} (h : Inv c i x0 x4 x5) {j : Nat} {y : ChannelPlace} (hy : y.dests.length ≤ i + 1) : Inv c (i + 1) x0 x4 (List.set x5 j y) :=
  ⟨h.ch, h.l4, by rw [List.length_set, h.l5], fun p hp => Nat.le_succ_of_le (h.t p hp), fun p hp => by
    rcases List.mem_or_eq_of_mem_set hp with hp | rfl
    · exact Nat.le_succ_of_le (h.d p hp)
    · exact hy⟩
theorem Inv.setc {c : Config} {i : Nat} {x0 y : Int} {x4 : List PartitionPlace} {x5 : List ChannelPlace} (h : Inv c i x0 x4 x5) (hy : 0 ≤ y ∧ (1 ≤ nC c → y < nC c)) : Inv c i y x4 x5 := ⟨hy, h.l4, h.l5, h.t, h.d⟩
theorem atPl_mem {xs : List PartitionPlace} {i : Nat} (h : i < xs.length) : atPartitionPlace xs i ∈ xs := by
  simp [atPartitionPlace, List.getD, h]
theorem atCh_mem {xs : List ChannelPlace} {i : Nat} (h : i < xs.length) : atChannelPlace xs i ∈ xs := by
  simp [atChannelPlace, List.getD, h]
theorem atPc_get {xs : List Pc} {i : Nat} (h : i < xs.length) : atBulkheadref15Piece (xs.map mkR) i = mkR xs[i] := by
  simp [atBulkheadref15Piece, List.getD, h]
theorem inR_int {x : Int} {n : Nat} (h0 : 0 ≤ x) (h1 : x < n) : inR x n = true := by
  obtain ⟨m, rfl⟩ := Int.eq_ofNat_of_zero_le h0
  exact inR_of (by omega)
section
variable {c : Config} (g : Sound c) (hk : 0 ≤ c.kernel ∧ c.kernel < 1024)
include g hk
theorem ref_end {x : Pc} (hx : x ∈ refP c) : x.1 + x.2.1 ≤ 48000 := by
  have h1 := ((laid_ref c).in_ x hx).2
  have h2 := tF_bd g hk (Nat.le_refl (nP c))
  omega
theorem of_step {i : Nat} (hi : i < (refP c).length) {x0 x1 x3 : Int} {x4 : List PartitionPlace} {x5 : List ChannelPlace} (h : Inv c i x0 x4 x5) (hi4 : i ≤ 4000) : ∃ x0' x3' x4' x5', Inv c (i + 1) x0' x4' x5' ∧ spL30 c (.l4 x0 x1 (i : Int) x3 x4 x5) = spL30 c (.l4 x0' (((refP c)[i].1 + (refP c)[i].2.1 : Nat) : Int) ((i + 1 : Nat) : Int) x3' x4' x5') := by
  obtain ⟨p1, p2⟩ := sp_of (pieces_r g hk)
  have p1' : sp47 c = (refP c).map mkR := p1
  have hm : (refP c)[i] ∈ refP c := List.getElem_mem hi
  have he := ref_end g hk hm
  have e81 : ∀ (a b d : Int) x y, spL30 c (.l81 a b (i : Int) d x y) = spL30 c (.l4 a b ((i + 1 : Nat) : Int) d x y) := fun a b d x y => by
    rw [spL30_eq]
    simp only [bod30, wrap_succ i (show i < 4611686018427387904 by omega)]
  have hl : i < ((refP c).map mkR).length := by rw [List.length_map]; exact hi
  have ew : IntKind.i64.wrap ((mkR (refP c)[i]).at_ + (mkR (refP c)[i]).size) = (((refP c)[i].1 + (refP c)[i].2.1 : Nat) : Int) := wrap_nat _ _ (by simp only [mkR]; omega) (by omega)
  have hr : ∀ {x : Int} {n : Nat}, 0 ≤ x → x < n → inR x n = true := inR_int
  have hok := pc_ok (ref_mem.1 hm)
  rw [spL30_eq]
  simp only [bod30, p1', Int.toNat_natCast, lt_t hl, inR_of hl, cond_true, atPc_get hi, ew, e81, Nat.beq_refl]
  have ho : (mkR (refP c)[i]).owner = (refP c)[i].2.2 := rfl
  rw [ho]
  have h4 := h.l4
  have h5 := h.l5
  generalize (refP c)[i] = x at *
  rcases hok with k | ⟨k, j, hj, ij⟩ | ⟨k, j, hj, ij⟩ | ⟨k, hc⟩
  · rw [k]; refine ⟨_, _, _, _, ?_, rfl⟩; exact h.up
  · have hj4 : j < x4.length := by omega
    have hmem := h.t _ (atPl_mem hj4)
    rw [ij]
    simp only [inR_of hj4, Int.toNat_natCast, cond_true]
    rcases k with k | k | k | k
    · rw [k]; refine ⟨_, _, _, _, ?_, rfl⟩; exact h.set4 (Nat.le_succ_of_le hmem)
    · rw [k]; refine ⟨_, _, _, _, ?_, rfl⟩; exact h.set4 (Nat.le_succ_of_le hmem)
    · rw [k]; refine ⟨_, _, _, _, ?_, rfl⟩; exact h.set4 (Nat.le_succ_of_le hmem)
    · rw [k]
      have b1 : ∀ y : Int, leB (((atPartitionPlace x4 j).tables.length + [y].length) * 8) 140737488355328 = true := room1 (by omega) (by omega)
      simp only [b1, cond_true]
      cases hroot : ((atPartitionPlace x4 j).root == 0) with
      | true => refine ⟨_, _, _, _, ?_, rfl⟩; exact h.set4 (Nat.le_succ_of_le hmem)
      | false => refine ⟨_, _, _, _, ?_, rfl⟩; exact h.set4 (by rw [List.length_append]; exact Nat.succ_le_succ hmem)
  · have hj5 : j < x5.length := by omega
    have hmem := h.d _ (atCh_mem hj5)
    rw [ij]
    simp only [inR_of hj5, Int.toNat_natCast, cond_true]
    rcases k with k | k
    · rw [k]; refine ⟨_, _, _, _, ?_, rfl⟩; exact Inv.setc (x0 := x0) (h.set5 (Nat.le_succ_of_le hmem)) ⟨Int.natCast_nonneg _, fun _ => Int.ofNat_lt.2 hj⟩
    · rw [k]; refine ⟨_, _, _, _, ?_, rfl⟩; exact h.set5 (Nat.le_succ_of_le hmem)
  · obtain ⟨c1, c2⟩ := h.ch
    have c2 := c2 hc
    have hmem := h.d _ (atCh_mem (xs := x5) (i := x0.toNat) (by omega))
    have b1 : ∀ y : DestPlace, leB (((atChannelPlace x5 x0.toNat).dests.length + [y].length) * 24) 140737488355328 = true := room1 (by omega) (by omega)
    rw [k]
    simp only [hr c1 (show x0 < (x5.length : Nat) by omega), b1, cond_true]
    refine ⟨_, _, _, _, ?_, rfl⟩; exact h.set5 (by rw [List.length_append]; exact Nat.succ_le_succ hmem)
end
/-! #### how many frames the kernel needs, and whether its area may be, on both sides; Check of both sides. -/
theorem source_r {c : Config} (g : Sound c) (h : Int) : ∃ r, spO63 c h = some r := by
  have hP := g.few.parts
  have outer : ∀ m q, q + m = nP c → ∃ r, spL63 c h (.l0 (q : Int)) = some r := by
    intro m
    induction m with
    | zero =>
      intro q hq
      have hf : decide ((q : Int) < (c.partitions.length : Int)) = false := lt_f (by unfold nP at hq; omega)
      exact ⟨_, by rw [spL63_eq]; simp only [bod63, hf, cond_false]; rfl⟩
    | succ m ih =>
      intro q hq
      have hq' : q < c.partitions.length := by unfold nP at hq; omega
      have hn := g.few.ports q hq'
      obtain ⟨r, hr⟩ := ih (q + 1) (by omega)
      have inner : ∀ m i, i + m = nport c q → ∃ r, spL63 c h (.l4 (q : Int) (q : Int) (nport c q) (i : Int)) = some r := by
        intro m
        induction m with
        | zero =>
          intro i hi
          have hf : decide ((i : Int) < (nport c q : Int)) = false := lt_f (by omega)
          exact ⟨r, by rw [spL63_eq]; simp only [bod63, hf, cond_false, wrap_succ q (show q < 4611686018427387904 by omega)]; exact hr⟩
        | succ m ih' =>
          intro i hi
          have hi' : i < (atPartition c.partitions q).ports.length := by have : nport c q = (atPartition c.partitions q).ports.length := rfl; omega
          obtain ⟨r', hr'⟩ := ih' (i + 1) (by omega)
          have ht : decide ((i : Int) < (nport c q : Int)) = true := lt_t (by omega)
          rw [spL63_eq]
          simp only [bod63, Int.toNat_natCast, ht, inR_of hi', inR_of hq', cond_true, wrap_succ i (show i < 4611686018427387904 by omega), hr']
          cases (atPort (atPartition c.partitions q).ports i).channel == h <;> cases (atPort (atPartition c.partitions q).ports i).source <;> exact ⟨_, rfl⟩
      obtain ⟨r', hr'⟩ := inner _ 0 (Nat.zero_add _)
      refine ⟨r', ?_⟩
      rw [spL63_eq]
      simp only [bod63, Int.toNat_natCast, lt_t hq', inR_of hq', cond_true]
      exact hr'
  exact outer _ 0 (Nat.zero_add _)
section
variable {c : Config} (g : Sound c) (hk : 0 ≤ c.kernel ∧ c.kernel < 1024)
include g hk
theorem ref_len : (refP c).length ≤ 400 := rC_len g (Nat.le_refl _)
theorem ref_last : ∃ l x, refP c = l ++ [x] ∧ x.1 + x.2.1 = 16 * tF c (nP c) := by
  obtain ⟨n, hn⟩ : ∃ n, nP c = n + 1 := ⟨nP c - 1, by have := g.least; unfold nP; omega⟩
  unfold refP
  rw [hn, tabsP, show 1 + ntab (P c n) = ntab (P c n) + 1 by omega, rep]
  exact ⟨_, _, by rw [← List.append_assoc, ← List.append_assoc], by rw [tF]; simp only; omega⟩
theorem end_16 : bop .quo .i64 (IntKind.i64.wrap (IntKind.i64.wrap (((16 * tF c (nP c) : Nat) : Int) + 16) - 1)) 16 = (tF c (nP c) : Int) := by
  have ht := tF_bd g hk (Nat.le_refl (nP c))
  have e1 : IntKind.i64.wrap (((16 * tF c (nP c) : Nat) : Int) + 16) = ((16 * tF c (nP c) + 16 : Nat) : Int) := wrap_nat _ _ (by omega) (by omega)
  have e2 : IntKind.i64.wrap (((16 * tF c (nP c) + 16 : Nat) : Int) - 1) = ((16 * tF c (nP c) + 15 : Nat) : Int) := wrap_nat _ _ (by omega) (by omega)
  rw [e1, e2, quo_nat _ (by omega)]
  omega
theorem of_loop : ∀ m i, i + (m + 1) = (refP c).length → ∀ (x0 x1 x3 : Int) (x4 : List PartitionPlace) (x5 : List ChannelPlace), Inv c i x0 x4 x5 → ∃ L : Layout, spL30 c (.l4 x0 x1 (i : Int) x3 x4 x5) = some (L, 0) ∧ L.end_ = (tF c (nP c) : Int) := by
  have hlen := ref_len g hk
  intro m
  induction m with
  | zero =>
    intro i hi x0 x1 x3 x4 x5 h
    obtain ⟨x0', x3', x4', x5', h', e⟩ := of_step g hk (show i < (refP c).length by omega) (x0 := x0) (x1 := x1) (x3 := x3) h (by omega)
    obtain ⟨l, x, hl, hx⟩ := ref_last g hk
    have hg : ∀ h : i < (refP c).length, (refP c)[i] = x := by
      rw [hl] at hi ⊢
      intro h
      have hil : i = l.length := by rw [List.length_append, List.length_singleton] at hi; omega
      subst hil
      simp
    obtain ⟨p1, p2⟩ := sp_of (pieces_r g hk)
    have p1' : sp47 c = (refP c).map mkR := p1
    rw [e, hg, hx]
    have hf : decide (((i + 1 : Nat) : Int) < (((refP c).map mkR).length : Int)) = false := lt_f (by rw [List.length_map]; omega)
    rw [spL30_eq]
    simp only [bod30, p1', hf, cond_false, end_16 g hk, id]
    exact ⟨_, rfl, rfl⟩
  | succ m ih =>
    intro i hi x0 x1 x3 x4 x5 h
    obtain ⟨x0', x3', x4', x5', h', e⟩ := of_step g hk (show i < (refP c).length by omega) (x0 := x0) (x1 := x1) (x3 := x3) h (by omega)
    rw [e]
    exact ih (i + 1) (by omega) _ _ _ _ _ h'
theorem of_first : ∀ m k, k + m = nC c → ∀ xs : List ChannelPlace, xs.length = nC c → (∀ p ∈ xs, p.dests.length ≤ 0) → ∃ L : Layout, spL30 c (.l0 (k : Int) xs) = some (L, 0) ∧ L.end_ = (tF c (nP c) : Int) := by
  have hC := g.chans
  have hP := g.few.parts
  intro m
  induction m with
  | zero =>
    intro k hk' xs hx hd
    obtain ⟨p1, p2⟩ := sp_of (pieces_r g hk)
    have p2' : spc47 c = true := p2
    have hf : decide ((k : Int) < (c.channels.length : Int)) = false := lt_f (by unfold nC at hk'; omega)
    rw [spL30_eq]
    simp only [bod30, hf, p2', cond_false, cond_true, Int.toNat_natCast]
    obtain ⟨l, x, hl, _⟩ := ref_last g hk
    refine of_loop g hk ((refP c).length - 1) 0 (by rw [hl, List.length_append, List.length_singleton]; omega) _ _ _ _ _ ⟨⟨Int.le_refl _, fun h => by omega⟩, by rw [List.length_replicate]; rfl, hx, fun p hp => ?_, hd⟩
    rw [(List.mem_replicate.1 hp).2]; exact Nat.le_refl _
  | succ m ih =>
    intro k hk' xs hx hd
    have hkk : k < c.channels.length := by unfold nC at hk'; omega
    obtain ⟨r, hr⟩ := source_r g (k : Int)
    obtain ⟨p1, p2⟩ := sp_of hr
    have p2' : spc63 c (k : Int) = true := p2
    have hkx : k < xs.length := by omega
    have hl2 : ∀ y, k < (List.set xs k y).length := fun y => by rw [List.length_set]; exact hkx
    rw [spL30_eq]
    simp only [bod30, Int.toNat_natCast, lt_t hkk, p2', inR_of hkx, inR_of (hl2 _), cond_true, wrap_succ k (show k < 4611686018427387904 by omega)]
    refine ih (k + 1) (by omega) _ (by rw [List.length_set, List.length_set]; exact hx) fun p hp => ?_
    have h0 := hd _ (atCh_mem hkx)
    rcases List.mem_or_eq_of_mem_set hp with hp | rfl
    · rcases List.mem_or_eq_of_mem_set hp with hp | rfl
      · exact hd p hp
      · exact h0
    · have e : atChannelPlace (List.set xs k ⟨(atChannelPlace xs k).lock, (atChannelPlace xs k).stage, (sp63 c (k : Int)).1, (atChannelPlace xs k).port, (atChannelPlace xs k).dests⟩) k = ⟨(atChannelPlace xs k).lock, (atChannelPlace xs k).stage, (sp63 c (k : Int)).1, (atChannelPlace xs k).port, (atChannelPlace xs k).dests⟩ := by
        simp [atChannelPlace, List.getD, List.getElem?_set, hkx]
      show (atChannelPlace (List.set xs k _) k).dests.length ≤ 0
      rw [e]; exact h0
theorem of_r : ∃ L : Layout, spO30 c = some (L, 0) ∧ L.end_ = (tF c (nP c) : Int) := by
  obtain ⟨k1, k2⟩ := sp_of (may_r g hk)
  have k1' : sp46 c = true := k1
  have k2' : spc46 c = true := k2
  have hC := g.chans
  have hP := g.few.parts
  unfold spO30 ent30
  rw [k1', k2', cond_true, Bool.not_true, cond_false, make_t _ _ (by unfold B47; omega), make_t _ _ (by unfold B47; omega), cond_true, cond_true, Int.toNat_natCast]
  exact of_first g hk (nC c) 0 (Nat.zero_add _) _ (by rw [List.length_replicate]; rfl) fun p hp => by rw [(List.mem_replicate.1 hp).2]; exact Nat.le_refl _
theorem need_r : spO106 c = some ((tF c (nP c) : Int) - c.kernel, 0) := by
  obtain ⟨L, h1, h2⟩ := of_r g hk
  obtain ⟨k1, k2⟩ := sp_of h1
  have k1' : sp30 c = (L, 0) := k1
  have k2' : spc30 c = true := k2
  have ht := tF_bd g hk (Nat.le_refl (nP c))
  unfold spO106 ent106
  rw [k2', k1', cond_true, h2, wrap_in _ (by omega) (by omega)]
  rfl
theorem need_a : spO168 c = some ((tF c (nP c) : Int) - c.kernel, 0) := by
  obtain ⟨k1, k2⟩ := sp_of (lay_a g hk)
  have k1' : sp36 c = (lay c, 0) := k1
  have k2' : spc36 c = true := k2
  have ht := tF_bd g hk (Nat.le_refl (nP c))
  unfold spO168 ent168
  rw [k2', k1', cond_true, show (lay c, (0 : Int)).1.end_ = (tF c (nP c) : Int) from rfl, wrap_in _ (by omega) (by omega)]
  rfl
end
noncomputable def kin (c : Config) : Bool := decide (0 ≤ c.kernel) && decide (c.kernel ≤ IntKind.i64.wrap (c.frames - 1))
noncomputable def rin (c : Config) : Bool := decide (1 ≤ c.room) && decide (c.room ≤ IntKind.i64.wrap (c.frames - c.kernel))
noncomputable def kmq (c : Config) (p k : Nat) : Bool := meetB (Rg c p k).frame (Rg c p k).pages c.kernel c.room
noncomputable def kmeet (c : Config) : Bool := (List.range (nP c)).any fun p => (List.range (nreg c p)).any (kmq c p)
noncomputable def kernB (c : Config) : Bool := kin c && (rin c && (!(kmeet c) && decide ((tF c (nP c) : Int) - c.kernel ≤ c.room)))
theorem kin_k {c : Config} (g : Sound c) (h : kin c = true) : 0 ≤ c.kernel ∧ c.kernel < 1024 := by
  have hf := g.frames
  unfold kin at h
  rw [wrap_in _ (by omega) (by omega)] at h
  simp only [Bool.and_eq_true, decide_eq_true_eq] at h
  omega
theorem area_r {c : Config} (g : Sound c) : spO62 c = some (kernB c) := by
  have hP := g.few.parts
  unfold spO62 ent62 kernB
  rw [in_r, in_r]
  show cond (!(kin c)) _ (cond (!(rin c)) _ _) = _
  cases h1 : kin c with
  | false => rfl
  | true =>
  cases h2 : rin c with
  | false => rfl
  | true =>
  rw [Bool.not_true, cond_false, cond_false, Bool.true_and, Bool.true_and]
  have hk := kin_k g h1
  have h := any_loop (n := nP c) (f := fun p => spL62 c (.l0 (p : Int))) (q := fun p => (List.range (nreg c p)).any (kmq c p)) (r := some false) (e := some (decide ((tF c (nP c) : Int) - c.kernel ≤ c.room))) (fun p hp => by
    have hp' : p < c.partitions.length := hp
    have hn := (g.nregs p hp').2
    have hin := any_loop (n := nreg c p) (f := fun k => spL62 c (.l4 (p : Int) (k : Int))) (q := kmq c p) (r := some false) (e := spL62 c (.l0 ((p + 1 : Nat) : Int))) (fun k hkk => by
      have hkk' : k < (atPartition c.partitions p).regions.length := hkk
      rw [spL62_eq]
      simp only [bod62, Int.toNat_natCast, inR_of hp', lt_t hkk', inR_of hkk', cond_true, wrap_succ k (show k < 4611686018427387904 by omega)]
      rfl) (by
      have hf : decide ((nreg c p : Int) < ((atPartition c.partitions p).regions.length : Int)) = false := lt_f (Nat.le_refl _)
      rw [spL62_eq]
      simp only [bod62, Int.toNat_natCast, inR_of hp', hf, cond_true, cond_false, wrap_succ p (show p < 4611686018427387904 by omega)])
    refine Eq.trans ?_ hin
    rw [spL62_eq]
    simp only [bod62, lt_t hp', cond_true]
    rfl) (by
    obtain ⟨k1, k2⟩ := sp_of (need_r g hk)
    have k1' : sp106 c = _ := k1
    have k2' : spc106 c = true := k2
    have hf : decide ((nP c : Int) < (c.partitions.length : Int)) = false := lt_f (Nat.le_refl _)
    rw [spL62_eq]
    simp only [bod62, hf, cond_false, k1', k2', cond_true]
    rfl)
  refine Eq.trans h ?_
  show cond (kmeet c) _ _ = _
  cases kmeet c <;> rfl
theorem kernel_a {c : Config} (g : Sound c) : spO144 c = some (kernB c) := by
  have hP := g.few.parts
  unfold spO144 ent144 kernB
  rw [in_a, in_a]
  show cond (!(kin c)) _ (cond (!(rin c)) _ _) = _
  cases h1 : kin c with
  | false => rfl
  | true =>
  cases h2 : rin c with
  | false => rfl
  | true =>
  rw [Bool.not_true, cond_false, cond_false, Bool.true_and, Bool.true_and]
  have hk := kin_k g h1
  have h := any_loop (n := nP c) (f := fun p => spL144 c (.l0 (p : Int))) (q := fun p => (List.range (nreg c p)).any (kmq c p)) (r := some false) (e := some (decide ((tF c (nP c) : Int) - c.kernel ≤ c.room))) (fun p hp => by
    have hp' : p < c.partitions.length := hp
    have hn := (g.nregs p hp').2
    have hin := any_loop (n := nreg c p) (f := fun k => spL144 c (.l4 (p : Int) (P c p).regions (nreg c p) (k : Int))) (q := kmq c p) (r := some false) (e := spL144 c (.l0 ((p + 1 : Nat) : Int))) (fun k hkk => by
      have hkk' : k < (P c p).regions.length := hkk
      rw [spL144_eq]
      simp only [bod144, Int.toNat_natCast, lt_t hkk, inR_of hkk', cond_true, wrap_succ k (show k < 4611686018427387904 by omega)]
      rfl) (by
      rw [spL144_eq]
      simp only [bod144, lt_f (Nat.le_refl _), cond_false, wrap_succ p (show p < 4611686018427387904 by omega)])
    refine Eq.trans ?_ hin
    rw [spL144_eq]
    simp only [bod144, Int.toNat_natCast, lt_t hp', inR_of hp', cond_true]
    rfl) (by
    obtain ⟨k1, k2⟩ := sp_of (need_a g hk)
    have k1' : sp168 c = _ := k1
    have k2' : spc168 c = true := k2
    have hf : decide ((nP c : Int) < (c.partitions.length : Int)) = false := lt_f (Nat.le_refl _)
    rw [spL144_eq]
    simp only [bod144, hf, cond_false, k1', k2', cond_true]
    rfl)
  refine Eq.trans h ?_
  show cond (kmeet c) _ _ = _
  cases kmeet c <;> rfl
noncomputable def validB (c : Config) : Bool := preB c && kernB c
theorem valid_r {c : Config} (hc : FitC c) : AnsW (spO29 c) (validB c) := check_r hc fun h => area_r (good_of hc h)
theorem valid_a {c : Config} (hc : FitC c) : AnsW (spO49 c) (validB c) := check_a hc fun h => kernel_a (good_of hc h)
/-! #### the program's list of pieces: the document's, in another order. -/
theorem destsOf_get (s : Nat) : ∀ (l : List LayoutEnd) (a j : Nat), j < l.length → atDestPlace (destsOf s a l) j = ⟨(atLayoutEnd l j).partition, (atLayoutEnd l j).port, ((a + j * s : Nat) : Int)⟩
  | [], _, _, h => by simp at h
  | e :: l, a, 0, h => by simp [destsOf, atDestPlace, atLayoutEnd]
  | e :: l, a, j + 1, h => by
    have := destsOf_get s l (a + s) j (by simpa using h)
    rw [show a + s + j * s = a + (j + 1) * s by rw [Nat.add_mul]; omega] at this
    exact this
theorem add_a {a s k i p : Int} {xs : List LayoutPiece} (h : xs.length ≤ 4000) : sp97 a s k i p xs = xs ++ [⟨a, s, ⟨k, i, p⟩⟩] ∧ spc97 a s k i p xs = true := by
  have : spO97 a s k i p xs = some (xs ++ [⟨a, s, ⟨k, i, p⟩⟩]) := by
    unfold spO97 ent97
    rw [room1 (by omega) (by omega)]; rfl
  exact sp_of this
noncomputable def asks (c : Config) (n : Nat) : List LayoutAsked := (List.range n).map fun k => ⟨Clo.c145 ⟨Ch c k⟩, Clo.c146 ⟨Ch c k⟩⟩
theorem sizes_a {c : Config} (g : Sound c) : spO98 c = some (asks c (nC c)) := by
  have hC := g.chans
  have h := run_loop (n := nC c) (f := fun k (_ : Unit) => spL98 c (.l0 (k : Int) (asks c k))) (S := fun _ => ()) (fun k hk => by
    have hk' : k < c.channels.length := hk
    have b1 : ∀ y : LayoutAsked, leB (((asks c k).length + [y].length) * 16) 140737488355328 = true := room1 (by simp [asks]; omega) (by omega)
    rw [spL98_eq]
    simp only [bod98, Int.toNat_natCast, lt_t hk', inR_of hk', cond_true, b1, wrap_succ k (show k < 4611686018427387904 by omega)]
    rw [show asks c (k + 1) = asks c k ++ [⟨Clo.c145 ⟨Ch c k⟩, Clo.c146 ⟨Ch c k⟩⟩] from map_range_succ _ _]
    rfl)
  refine Eq.trans h ?_
  have hf : decide ((nC c : Int) < (c.channels.length : Int)) = false := lt_f (Nat.le_refl _)
  rw [spL98_eq]
  simp only [bod98, hf, cond_false, id]
noncomputable def lparts (c : Config) : Nat → List Pc
  | 0 => []
  | i + 1 => lparts c i ++ part3 c i ++ rep (tF c i) i (1 + ntab (P c i))
noncomputable def lA (c : Config) (i : Nat) : List Pc := bar c ++ lparts c i
noncomputable def lB (c : Config) (k : Nat) : List Pc := lA c (nP c) ++ chansP c k
noncomputable def layP (c : Config) : List Pc := lB c (nC c)
theorem lparts_len (c : Config) : ∀ n, (lparts c n).length ≤ 20 * n
  | 0 => Nat.le_refl _
  | n + 1 => by
    rw [lparts, List.length_append, List.length_append, rep_len]
    have := lparts_len c n
    have := ntab_le (P c n)
    simp [part3]; omega
theorem lparts_mem (c : Config) {x : Pc} : ∀ n, x ∈ lparts c n ↔ ∃ i, i < n ∧ (x ∈ part3 c i ∨ x ∈ rep (tF c i) i (1 + ntab (P c i)))
  | 0 => by simp [lparts]
  | n + 1 => by
    rw [lparts, List.mem_append, List.mem_append, lparts_mem c n]
    constructor
    · rintro ((⟨i, hi, h⟩ | h) | h)
      · exact ⟨i, by omega, h⟩
      · exact ⟨n, by omega, .inl h⟩
      · exact ⟨n, by omega, .inr h⟩
    · rintro ⟨i, hi, h⟩
      by_cases hin : i = n
      · subst hin
        rcases h with h | h
        · exact .inl (.inr h)
        · exact .inr h
      · exact .inl (.inl ⟨i, by omega, h⟩)
theorem lay_mem {c : Config} {x : Pc} : x ∈ layP c ↔ x ∈ refP c := by
  unfold layP lB lA refP
  rw [List.mem_append, List.mem_append, List.mem_append, List.mem_append, List.mem_append, lparts_mem, parts_mem, tabs_mem]
  constructor
  · rintro ((h | ⟨i, hi, h | h⟩) | h)
    · exact .inl (.inl (.inl h))
    · exact .inl (.inl (.inr ⟨i, hi, h⟩))
    · exact .inr ⟨i, hi, h⟩
    · exact .inl (.inr h)
  · rintro (((h | ⟨i, hi, h⟩) | h) | ⟨i, hi, h⟩)
    · exact .inl (.inl h)
    · exact .inl (.inr ⟨i, hi, .inl h⟩)
    · exact .inr h
    · exact .inl (.inr ⟨i, hi, .inr h⟩)
theorem chL_at {c : Config} {n k : Nat} (hk : k < n) : atChannelPlace (chL c n) k = chPl c k := by
  simp [atChannelPlace, List.getD, chL, hk]
theorem asks_at {c : Config} {n k : Nat} (hk : k < n) : atLayoutAsked (asks c n) k = ⟨Clo.c145 ⟨Ch c k⟩, Clo.c146 ⟨Ch c k⟩⟩ := by
  simp [atLayoutAsked, List.getD, asks, hk]
theorem tabs_at {f n j : Nat} (hj : j < n) : atInt (tabs f n) j = ((f + 1 + j : Nat) : Int) := by
  simp [atInt, List.getD, tabs, hj]
section
variable {c : Config} (g : Sound c) (hk : 0 ≤ c.kernel ∧ c.kernel < 1024)
include g hk
theorem lA_len {i : Nat} (hi : i ≤ nP c) : (lA c i).length ≤ 300 := by
  have := g.few.parts
  have := lparts_len c i
  unfold nP at hi
  rw [lA, List.length_append]; simp [bar]; omega
theorem lB_len {k : Nat} (hkk : k ≤ nC c) : (lB c k).length ≤ 400 := by
  have := g.chans
  have h1 := lA_len g hk (Nat.le_refl (nP c))
  have h2 := chansP_len g k hkk
  unfold nC at hkk
  rw [lB, List.length_append]; omega
theorem H0_step {i : Nat} (hi : i < nP c) : spL53 c (lay c) (.l0 (i : Int) ((lA c i).map mkL)) = spL53 c (lay c) (.l0 ((i + 1 : Nat) : Int) ((lA c (i + 1)).map mkL)) := by
  have hP := g.few.parts
  have hP' : nP c ≤ 8 := hP
  have hll := lA_len g hk (Nat.le_of_lt hi)
  have htf := tF_bd g hk (Nat.le_of_lt hi)
  have hnt := ntab_le (P c i)
  have hi2 : i < (lay c).partitions.length := by show i < (plT c (nP c)).length; rw [plT_len]; exact hi
  have hat : atPartitionPlace (lay c).partitions i = full c i := by show atPartitionPlace (plT c (nP c)) i = _; rw [plT_at hi, if_pos hi]
  have e1 : IntKind.i64.wrap ((tF c i : Int) * 16) = ((16 * (tF c i + 0) : Nat) : Int) := wrap_nat _ _ (by omega) (by omega)
  have add : ∀ (a s k i p : Int) (xs : List LayoutPiece), xs.length ≤ 4000 → sp97 a s k i p xs = xs ++ [⟨a, s, ⟨k, i, p⟩⟩] := fun a s k i p xs h => (add_a h).1
  have addc : ∀ (a s k i p : Int) (xs : List LayoutPiece), xs.length ≤ 4000 → spc97 a s k i p xs = true := fun a s k i p xs h => (add_a h).2
  have s1 : spL53 c (lay c) (.l0 (i : Int) ((lA c i).map mkL)) = spL53 c (lay c) (.l4 (i : Int) (i : Int) (tabs (tF c i) (ntab (P c i))) (ntab (P c i)) 0 ((lA c i ++ part3 c i ++ rep (tF c i) i 1).map mkL)) := by
    have l0 : ((lA c i).map mkL).length ≤ 300 := by rw [List.length_map]; exact hll
    have l1 : ∀ x, ((lA c i).map mkL ++ [x]).length ≤ 301 := fun x => by rw [List.length_append, List.length_singleton]; omega
    have l2 : ∀ x y, ((lA c i).map mkL ++ [x] ++ [y]).length ≤ 302 := fun x y => by rw [List.length_append, List.length_singleton]; have := l1 x; omega
    have l3 : ∀ x y z, ((lA c i).map mkL ++ [x] ++ [y] ++ [z]).length ≤ 303 := fun x y z => by rw [List.length_append, List.length_singleton]; have := l2 x y; omega
    rw [spL53_eq]
    simp only [bod53, Int.toNat_natCast, lt_t hi2, inR_of hi2, cond_true, hat]
    simp only [full, e1]
    rw [add _ _ _ _ _ _ (by omega), addc _ _ _ _ _ _ (by omega), cond_true]
    rw [add _ _ _ _ _ _ (Nat.le_trans (l1 _) (by omega)), addc _ _ _ _ _ _ (Nat.le_trans (l1 _) (by omega)), cond_true]
    rw [add _ _ _ _ _ _ (Nat.le_trans (l2 _ _) (by omega)), addc _ _ _ _ _ _ (Nat.le_trans (l2 _ _) (by omega)), cond_true]
    rw [add _ _ _ _ _ _ (Nat.le_trans (l3 _ _ _) (by omega)), addc _ _ _ _ _ _ (Nat.le_trans (l3 _ _ _) (by omega)), cond_true]
    have hn : (tabs (tF c i) (ntab (P c i))).length = ntab (P c i) := by simp [tabs]
    rw [hn]
    have : (lA c i ++ part3 c i ++ rep (tF c i) i 1).map mkL = (lA c i).map mkL ++ [⟨(pAt c i : Int), 2, ⟨3, (i : Int), 0⟩⟩] ++ [⟨((pAt c i + 2 : Nat) : Int), 17, ⟨4, (i : Int), 0⟩⟩] ++ [⟨((pAt c i + 19 : Nat) : Int), 5, ⟨5, (i : Int), 0⟩⟩] ++ [⟨((16 * (tF c i + 0) : Nat) : Int), 16, ⟨9, (i : Int), 0⟩⟩] := by
      simp only [part3, rep, List.map_append, List.nil_append, List.append_assoc]; rfl
    rw [this]
  have s2 := run_loop (n := ntab (P c i)) (f := fun j (_ : Unit) => spL53 c (lay c) (.l4 (i : Int) (i : Int) (tabs (tF c i) (ntab (P c i))) (ntab (P c i)) (j : Int) ((lA c i ++ part3 c i ++ rep (tF c i) i (1 + j)).map mkL))) (S := fun _ => ()) (fun j hj => by
    have hl : ((lA c i ++ part3 c i ++ rep (tF c i) i (1 + j)).map mkL).length ≤ 4000 := by rw [List.length_map, List.length_append, List.length_append, rep_len]; simp [part3]; omega
    have hj2 : j < (tabs (tF c i) (ntab (P c i))).length := by simp [tabs]; exact hj
    have e2 : IntKind.i64.wrap (((tF c i + 1 + j : Nat) : Int) * 16) = ((16 * (tF c i + (1 + j)) : Nat) : Int) := wrap_nat _ _ (by omega) (by omega)
    rw [spL53_eq]
    simp only [bod53, Int.toNat_natCast, lt_t hj, inR_of hj2, cond_true, tabs_at hj, e2, add _ _ _ _ _ _ hl, addc _ _ _ _ _ _ hl, wrap_succ j (show j < 4611686018427387904 by omega)]
    rw [show 1 + (j + 1) = (1 + j) + 1 by omega, rep, ← List.append_assoc, List.map_append (l₂ := [_])]
    rfl)
  rw [s1]
  refine Eq.trans s2 ?_
  rw [spL53_eq]
  simp only [bod53, lt_f (Nat.le_refl _), cond_false, wrap_succ i (show i < 4611686018427387904 by omega)]
  rw [show lA c (i + 1) = lA c i ++ part3 c i ++ rep (tF c i) i (1 + ntab (P c i)) by unfold lA; rw [lparts, List.append_assoc, List.append_assoc, List.append_assoc]]
theorem H8_step {k : Nat} (hkk : k < nC c) : spL53 c (lay c) (.l8 (k : Int) ((lB c k).map mkL)) = spL53 c (lay c) (.l8 ((k + 1 : Nat) : Int) ((lB c (k + 1)).map mkL)) := by
  have hC : nC c ≤ 16 := g.chans
  have hll := lB_len g hk (Nat.le_of_lt hkk)
  obtain ⟨o, _⟩ := g.chan k hkk
  obtain ⟨k1, k2⟩ := sp_of (sizes_a g)
  have k1' : sp98 c = asks c (nC c) := k1
  have hd4 := (dl_le g hkk).2
  have hk2 : k < (lay c).channels.length := by show k < (chL c (nC c)).length; simp [chL]; exact hkk
  have hk3 : k < (asks c (nC c)).length := by simp [asks]; exact hkk
  have hat : atChannelPlace (lay c).channels k = chPl c k := chL_at hkk
  have add : ∀ (a s k i p : Int) (xs : List LayoutPiece), xs.length ≤ 4000 → sp97 a s k i p xs = xs ++ [⟨a, s, ⟨k, i, p⟩⟩] := fun a s k i p xs h => (add_a h).1
  have addc : ∀ (a s k i p : Int) (xs : List LayoutPiece), xs.length ≤ 4000 → spc97 a s k i p xs = true := fun a s k i p xs h => (add_a h).2
  have z1 : sized (Clo.c145 ⟨Ch c k⟩) = (stg (Ch c k) : Int) := stage_a o
  have z2 : sized (Clo.c146 ⟨Ch c k⟩) = (prt (Ch c k) : Int) := port_a o
  have z3 : sizedc (Clo.c145 ⟨Ch c k⟩) = true := rfl
  have z4 : sizedc (Clo.c146 ⟨Ch c k⟩) = true := rfl
  have s1 : spL53 c (lay c) (.l8 (k : Int) ((lB c k).map mkL)) = spL53 c (lay c) (.l12 (k : Int) (k : Int) (destsOf (prt (Ch c k)) (dAt c k) (dl c k)) (dl c k).length 0 ((lB c k ++ chan2 c k).map mkL)) := by
    have l0 : ((lB c k).map mkL).length ≤ 400 := by rw [List.length_map]; exact hll
    have l1 : ∀ x, ((lB c k).map mkL ++ [x]).length ≤ 401 := fun x => by rw [List.length_append, List.length_singleton]; omega
    rw [spL53_eq]
    simp only [bod53, Int.toNat_natCast, lt_t hk2, inR_of hk2, cond_true, hat, k1', inR_of hk3, asks_at hkk, z1, z3]
    simp only [chPl, destsOf_len]
    rw [add _ _ _ _ _ _ (by omega), addc _ _ _ _ _ _ (by omega), cond_true]
    rw [add _ _ _ _ _ _ (Nat.le_trans (l1 _) (by omega)), addc _ _ _ _ _ _ (Nat.le_trans (l1 _) (by omega)), cond_true]
    have : (lB c k ++ chan2 c k).map mkL = (lB c k).map mkL ++ [⟨(cAt c k : Int), 2, ⟨6, (k : Int), 0⟩⟩] ++ [⟨((cAt c k + 2 : Nat) : Int), (stg (Ch c k) : Int), ⟨7, (k : Int), 0⟩⟩] := by
      rw [List.map_append, List.append_assoc]; rfl
    rw [this]
  have s2 := run_loop (n := (dl c k).length) (f := fun j (_ : Unit) => spL53 c (lay c) (.l12 (k : Int) (k : Int) (destsOf (prt (Ch c k)) (dAt c k) (dl c k)) (dl c k).length (j : Int) ((lB c k ++ chan2 c k ++ portsOf (prt (Ch c k)) (dAt c k) ((dl c k).take j)).map mkL))) (S := fun _ => ()) (fun j hj => by
    have hl : ((lB c k ++ chan2 c k ++ portsOf (prt (Ch c k)) (dAt c k) ((dl c k).take j)).map mkL).length ≤ 4000 := by rw [List.length_map, List.length_append, List.length_append, portsOf_len, List.length_take]; simp [chan2]; omega
    have hj2 : j < (destsOf (prt (Ch c k)) (dAt c k) (dl c k)).length := by rw [destsOf_len]; exact hj
    rw [spL53_eq]
    simp only [bod53, Int.toNat_natCast, lt_t hj, inR_of hj2, cond_true, destsOf_get _ _ _ _ hj, k1', inR_of hk3, asks_at hkk, z2, z4, add _ _ _ _ _ _ hl, addc _ _ _ _ _ _ hl, wrap_succ j (show j < 4611686018427387904 by omega)]
    have ht : (dl c k).take (j + 1) = (dl c k).take j ++ [atLayoutEnd (dl c k) j] := by
      rw [List.take_add_one]; simp [atLayoutEnd, List.getD, hj]
    rw [ht, portsOf_append, List.length_take, Nat.min_eq_left (Nat.le_of_lt hj), ← List.append_assoc, List.map_append (l₂ := [_])]
    rfl)
  rw [s1]
  refine Eq.trans ?_ (Eq.trans s2 ?_)
  · rw [List.take_zero, portsOf, List.append_nil]; rfl
  · rw [List.take_length, spL53_eq]
    simp only [bod53, lt_f (Nat.le_refl _), cond_false, wrap_succ k (show k < 4611686018427387904 by omega)]
    rw [show lB c (k + 1) = lB c k ++ chan2 c k ++ portsOf (prt (Ch c k)) (dAt c k) (dl c k) by unfold lB; rw [chansP, List.append_assoc, List.append_assoc, List.append_assoc]]
theorem pieces_a : spO53 c (lay c) = some ((layP c).map mkL) := by
  obtain ⟨k1, k2⟩ := sp_of (sizes_a g)
  have k2' : spc98 c = true := k2
  refine Eq.trans (show _ = spL53 c (lay c) (.l0 ((0 : Nat) : Int) ((lA c 0).map mkL)) from ?_) ?_
  · rw [show lA c 0 = bar c by unfold lA; rw [lparts, List.append_nil]]; rfl
  refine Eq.trans (run_loop (n := nP c) (f := fun i (_ : Unit) => spL53 c (lay c) (.l0 (i : Int) ((lA c i).map mkL))) (S := fun _ => ()) fun i hi => H0_step g hk hi) ?_
  have hf : decide ((nP c : Int) < ((lay c).partitions.length : Int)) = false := lt_f (by show (plT c (nP c)).length ≤ _; rw [plT_len]; exact Nat.le_refl _)
  rw [spL53_eq]
  simp only [bod53, hf, cond_false, k2', cond_true]
  rw [show lA c (nP c) = lB c 0 by unfold lB; rw [chansP, List.append_nil]]
  refine Eq.trans (run_loop (n := nC c) (f := fun k (_ : Unit) => spL53 c (lay c) (.l8 (k : Int) ((lB c k).map mkL))) (S := fun _ => ()) fun k hkk => H8_step g hk hkk) ?_
  have hf : decide ((nC c : Int) < ((lay c).channels.length : Int)) = false := lt_f (by show (chL c (nC c)).length ≤ _; simp [chL])
  rw [spL53_eq]
  simp only [bod53, hf, cond_false, id]
  rfl
end
end Go.Proofs.YtgfifnadfmaolaaGreatDoor
