/- The law AuditMay, plain law: channels, cores, Check of both sides but for the kernel's area. -/
import Derived.Test.YtgfifnadfmaolaaGreatDoorB1
namespace Go.Proofs.YtgfifnadfmaolaaGreatDoor
open Go.RowKit
set_option linter.unusedVariables false
set_option linter.unusedSimpArgs false
set_option linter.unusedSectionVars false
/-! #### channels and cores, of both sides. -/
theorem ans_loop {R : Type} (A : Option R → Bool → Prop) {n : Nat} {f : Nat → Option R} {q : Nat → Bool} {e : Bool} (hs : ∀ i, i < n → (q i = true → A (f i) false) ∧ (q i = false → f i = f (i + 1))) (he : (∀ i, i < n → q i = false) → A (f n) e) : A (f 0) (!((List.range n).any q) && e) := by
  have : ∀ k i, i + k = n → (∀ j, j < i → q j = false) → A (f i) (!((List.range' i k).any q) && e) := by
    intro k
    induction k with
    | zero => intro i h hq; simp at h; subst h; simpa using he hq
    | succ k ih =>
      intro i h hq
      obtain ⟨h1, h2⟩ := hs i (by omega)
      rw [List.range'_succ, List.any_cons]
      cases hqi : q i with
      | true => simpa using h1 hqi
      | false =>
        rw [h2 hqi]
        simpa using ih (i + 1) (by omega) fun j hj => by
          by_cases hji : j = i
          · subst hji; exact hqi
          · exact hq j (by omega)
  have h := this n 0 (by omega) (fun j hj => by omega)
  rwa [← List.range_eq_range'] at h
/-! ### Counts -/
def tot (g : Nat → Nat) : Nat → Nat
  | 0 => 0
  | n + 1 => tot g n + g n
def cnt (q : Nat → Bool) : Nat → Nat := tot fun k => cond (q k) 1 0
theorem tot_le {g : Nat → Nat} {b : Nat} : ∀ {n : Nat}, (∀ i, i < n → g i ≤ b) → tot g n ≤ n * b
  | 0, _ => by simp [tot]
  | n + 1, h => by
    have := tot_le (n := n) fun i hi => h i (by omega)
    have := h n (by omega)
    simp only [tot, Nat.add_mul, Nat.one_mul]; omega
theorem cnt_le (q : Nat → Bool) (n : Nat) : cnt q n ≤ n := by
  have := tot_le (g := fun k => cond (q k) 1 0) (b := 1) (n := n) fun i _ => by cases q i <;> simp
  unfold cnt; simpa using this
theorem cnt_succ (q : Nat → Bool) (n : Nat) : cnt q (n + 1) = cnt q n + cond (q n) 1 0 := rfl
noncomputable def isSrc (c : Config) (h : Int) (q k : Nat) : Bool := ((Pt c q k).channel == h) && (Pt c q k).source
noncomputable def isDst (c : Config) (h : Int) (q k : Nat) : Bool := ((Pt c q k).channel == h) && !(Pt c q k).source
noncomputable def srcN (c : Config) (h : Int) (n : Nat) : Nat := tot (fun q => cnt (isSrc c h q) (nport c q)) n
noncomputable def dstN (c : Config) (h : Int) (n : Nat) : Nat := tot (fun q => cnt (isDst c h q) (nport c q)) n
structure Few (c : Config) : Prop where
  parts : c.partitions.length ≤ 8
  ports : ∀ q, q < c.partitions.length → nport c q ≤ 8
theorem srcN_le {c : Config} (hw : Few c) (h : Int) {n : Nat} (hn : n ≤ c.partitions.length) : srcN c h n ≤ 64 := by
  have := tot_le (g := fun q => cnt (isSrc c h q) (nport c q)) (b := 8) (n := n) fun i hi => Nat.le_trans (cnt_le _ _) (hw.ports i (by omega))
  have := hw.parts
  unfold srcN; omega
theorem dstN_le {c : Config} (hw : Few c) (h : Int) {n : Nat} (hn : n ≤ c.partitions.length) : dstN c h n ≤ 64 := by
  have := tot_le (g := fun q => cnt (isDst c h q) (nport c q)) (b := 8) (n := n) fun i hi => Nat.le_trans (cnt_le _ _) (hw.ports i (by omega))
  have := hw.parts
  unfold dstN; omega
theorem ends_r {c : Config} (hw : Few c) (h : Int) : spO103 c h = some ((srcN c h c.partitions.length : Int), (dstN c h c.partitions.length : Int)) := by
  have h8 := hw.parts
  have inner : ∀ q, q < c.partitions.length → ∀ s d : Nat, s ≤ 64 → d ≤ 64 → spL103 c h (.l4 (s : Int) (d : Int) (q : Int) 0) = spL103 c h (.l0 ((s + cnt (isSrc c h q) (nport c q) : Nat) : Int) ((d + cnt (isDst c h q) (nport c q) : Nat) : Int) ((q + 1 : Nat) : Int)) := fun q hq s d hs hd => by
    have hp8 := hw.ports q hq
    have := run_loop (n := nport c q) (f := fun k (x : Nat × Nat) => spL103 c h (.l4 (x.1 : Int) (x.2 : Int) (q : Int) (k : Int))) (S := fun k => (s + cnt (isSrc c h q) k, d + cnt (isDst c h q) k)) (fun k hk => by
      have hk' : k < (atPartition c.partitions q).ports.length := hk
      have l1 := cnt_le (isSrc c h q) k
      have l2 := cnt_le (isDst c h q) k
      dsimp only
      rw [spL103_eq]
      simp only [bod103, Int.toNat_natCast, inR_of hq, cond_true, lt_t hk', inR_of hk', wrap_succ (s + cnt (isSrc c h q) k) (by omega), id]
      have e17 : ∀ a b : Int, spL103 c h (.l17 a b (q : Int) (k : Int)) = spL103 c h (.l4 a b (q : Int) ((k + 1 : Nat) : Int)) := fun a b => by
        rw [spL103_eq]
        simp only [bod103, wrap_succ k (by omega), id]
      have e25 : ∀ a : Int, spL103 c h (.l25 a ((d + cnt (isDst c h q) k : Nat) : Int) (q : Int) (k : Int) (Pt c q k).channel (Pt c q k).source) = spL103 c h (.l4 a ((d + cnt (isDst c h q) (k + 1) : Nat) : Int) (q : Int) ((k + 1 : Nat) : Int)) := fun a => by
        rw [spL103_eq]
        simp only [bod103, wrap_succ (d + cnt (isDst c h q) k) (by omega), e17, id]
        rw [cnt_succ]
        unfold isDst
        cases (Pt c q k).channel == h <;> cases (Pt c q k).source <;> rfl
      show cond ((Pt c q k).channel == h) (cond (Pt c q k).source (spL103 c h (.l25 _ _ _ _ (Pt c q k).channel (Pt c q k).source)) (spL103 c h (.l25 _ _ _ _ (Pt c q k).channel (Pt c q k).source))) (spL103 c h (.l25 _ _ _ _ (Pt c q k).channel (Pt c q k).source)) = _
      rw [e25, e25]
      rw [cnt_succ (isSrc c h q)]
      unfold isSrc
      cases (Pt c q k).channel == h <;> cases (Pt c q k).source <;> rfl)
    refine Eq.trans this ?_
    dsimp only
    rw [spL103_eq]
    have hi' : decide ((nport c q : Int) < ((atPartition c.partitions q).ports.length : Int)) = false := lt_f (Nat.le_refl _)
    simp only [bod103, Int.toNat_natCast, inR_of hq, cond_true, hi', cond_false, wrap_succ q (by omega), id]
  have outer := run_loop (n := c.partitions.length) (f := fun q (x : Nat × Nat) => spL103 c h (.l0 (x.1 : Int) (x.2 : Int) (q : Int))) (S := fun q => (srcN c h q, dstN c h q)) (fun q hq => by
    dsimp only
    rw [spL103_eq]
    simp only [bod103, lt_t hq, cond_true, id]
    exact inner q hq _ _ (srcN_le hw h (by omega)) (dstN_le hw h (by omega)))
  refine Eq.trans (show _ = spL103 c h (.l0 0 0 0) from rfl) (Eq.trans outer ?_)
  dsimp only
  rw [spL103_eq]
  simp only [bod103, lt_f (Nat.le_refl _), cond_false, id]
theorem ends_a {c : Config} (hw : Few c) (h : Int) : spO165 c h = some ((srcN c h c.partitions.length : Int), (dstN c h c.partitions.length : Int)) := by
  have h8 := hw.parts
  have inner : ∀ q, q < c.partitions.length → ∀ s d : Nat, s ≤ 64 → d ≤ 64 → spL165 c h (.l4 (s : Int) (d : Int) (q : Int) (P c q).ports ((P c q).ports.length) 0) = spL165 c h (.l0 ((s + cnt (isSrc c h q) (nport c q) : Nat) : Int) ((d + cnt (isDst c h q) (nport c q) : Nat) : Int) ((q + 1 : Nat) : Int)) := fun q hq s d hs hd => by
    have hp8 := hw.ports q hq
    have := run_loop (n := nport c q) (f := fun k (x : Nat × Nat) => spL165 c h (.l4 (x.1 : Int) (x.2 : Int) (q : Int) (P c q).ports ((P c q).ports.length) (k : Int))) (S := fun k => (s + cnt (isSrc c h q) k, d + cnt (isDst c h q) k)) (fun k hk => by
      have hk' : k < (P c q).ports.length := hk
      have l1 := cnt_le (isSrc c h q) k
      have l2 := cnt_le (isDst c h q) k
      dsimp only
      rw [spL165_eq]
      simp only [bod165, Int.toNat_natCast, cond_true, lt_t hk', inR_of hk', wrap_succ (s + cnt (isSrc c h q) k) (by omega), wrap_succ (d + cnt (isDst c h q) k) (by omega), id]
      have e23 : ∀ a b : Int, spL165 c h (.l23 a b (q : Int) (P c q).ports ((P c q).ports.length) (k : Int)) = spL165 c h (.l4 a b (q : Int) (P c q).ports ((P c q).ports.length) ((k + 1 : Nat) : Int)) := fun a b => by
        rw [spL165_eq]
        simp only [bod165, wrap_succ k (by omega), id]
      rw [e23, e23, e23, cnt_succ, cnt_succ]
      unfold isSrc isDst
      show cond (!((Pt c q k).channel == h)) _ (cond (Pt c q k).source _ _) = _
      cases (Pt c q k).channel == h <;> cases (Pt c q k).source <;> rfl)
    refine Eq.trans this ?_
    dsimp only
    rw [spL165_eq]
    have hi' : decide ((nport c q : Int) < ((P c q).ports.length : Int)) = false := lt_f (Nat.le_refl _)
    simp only [bod165, hi', cond_false, wrap_succ q (by omega), id]
  have outer := run_loop (n := c.partitions.length) (f := fun q (x : Nat × Nat) => spL165 c h (.l0 (x.1 : Int) (x.2 : Int) (q : Int))) (S := fun q => (srcN c h q, dstN c h q)) (fun q hq => by
    dsimp only
    rw [spL165_eq]
    simp only [bod165, lt_t hq, inR_of hq, cond_true, Int.toNat_natCast, id]
    exact inner q hq _ _ (srcN_le hw h (by omega)) (dstN_le hw h (by omega)))
  refine Eq.trans (show _ = spL165 c h (.l0 0 0 0) from rfl) (Eq.trans outer ?_)
  dsimp only
  rw [spL165_eq]
  simp only [bod165, lt_f (Nat.le_refl _), cond_false, id]
/-! ### Channels -/
noncomputable def Ch (c : Config) (h : Nat) : Channel := atChannel c.channels h
noncomputable def chanB (c : Config) (h : Nat) : Bool :=
  (((decide (1 ≤ (Ch c h).kind) && decide ((Ch c h).kind ≤ 2)) && (decide (1 ≤ (Ch c h).words) && decide ((Ch c h).words ≤ 16))) && cond ((Ch c h).kind == 2) (decide (1 ≤ (Ch c h).depth) && decide ((Ch c h).depth ≤ 8)) ((Ch c h).depth == 0)) &&
    (((srcN c h c.partitions.length : Int) == 1) && (decide ((1 : Int) ≤ (dstN c h c.partitions.length : Int)) && decide ((dstN c h c.partitions.length : Int) ≤ cond ((Ch c h).kind == 2) 1 4)))
theorem channel_r {c : Config} (hw : Few c) {h : Nat} (hh : h < c.channels.length) : AnsE (spO59 c h) (chanB c h) := by
  obtain ⟨e1, e2⟩ := sp_of (ends_r hw (h : Int))
  have e1' : sp103 c (h : Int) = _ := e1
  have e2' : spc103 c (h : Int) = true := e2
  unfold spO59 ent59
  have hch : atChannel c.channels h = Ch c h := rfl
  simp only [inR_of hh, cond_true, e1', e2', in_r, id, Int.toNat_natCast, hch]
  unfold chanB
  generalize (Ch c h).kind = kd
  generalize (Ch c h).depth = dp
  generalize hs : (srcN c h c.partitions.length : Int) = s
  generalize hd : (dstN c h c.partitions.length : Int) = d
  generalize (decide (1 ≤ (Ch c h).words) && decide ((Ch c h).words ≤ 16)) = wd
  by_cases k2 : kd = 2
  · subst k2
    have d1 : (decide (1 ≤ d) && decide (d ≤ 1)) = (d == 1) := by rw [Bool.eq_iff_iff]; simp; omega
    simp only [beq_self_eq_true, cond_true, cond_false, Bool.not_true, d1]
    cases wd <;> cases decide (1 ≤ dp) && decide (dp ≤ 8) <;> cases s == 1 <;> cases d == 1 <;> exact ⟨_, rfl, rfl⟩
  · have k2' : (kd == 2) = false := by simpa using k2
    by_cases k1 : kd = 1
    · subst k1
      simp only [k2', cond_true, cond_false, Bool.not_false, beq_self_eq_true, Bool.not_true]
      cases wd <;> cases dp == 0 <;> cases s == 1 <;> cases decide (1 ≤ d) && decide (d ≤ 4) <;> exact ⟨_, rfl, rfl⟩
    · have k1' : (kd == 1) = false := by simpa using k1
      have k12 : (decide (1 ≤ kd) && decide (kd ≤ 2)) = false := by
        rw [Bool.and_eq_false_iff, decide_eq_false_iff_not, decide_eq_false_iff_not]; omega
      simp only [k2', k1', k12, cond_true, Bool.not_false, Bool.false_and]
      exact ⟨_, rfl, rfl⟩
theorem channel_a {c : Config} (hw : Few c) {h : Nat} (hh : h < c.channels.length) : AnsF (spO140 c h) (chanB c h) := by
  obtain ⟨e1, e2⟩ := sp_of (ends_a hw (h : Int))
  have e1' : sp165 c (h : Int) = _ := e1
  have e2' : spc165 c (h : Int) = true := e2
  have hf : ∀ b1 b2 b3 : Bool, AnsF (cond (spc159 [sp131 b1 415 (sp161 h), sp131 b2 416 (sp161 h), sp131 b3 417 (sp161 h)]) (some (sp159 [sp131 b1 415 (sp161 h), sp131 b2 416 (sp161 h), sp131 b3 417 (sp161 h)])) none) (b1 && (b2 && b3)) := fun b1 b2 b3 => by
    have hf := first3 b1 b2 b3 415 416 417 (sp161 h) (sp161 h) (sp161 h) (by decide) (by decide) (by decide)
    obtain ⟨k1, k2, k3, k4⟩ := ansF_sp hf
    have k1' : spc159 [sp131 b1 415 (sp161 h), sp131 b2 416 (sp161 h), sp131 b3 417 (sp161 h)] = true := k1
    rw [k1', cond_true]
    exact ⟨_, rfl, k3, k4⟩
  have l11 : ∀ (b : Bool) (m : Int), AnsF (spL140 c h (.l11 b m)) (((decide (1 ≤ (Ch c h).kind) && decide ((Ch c h).kind ≤ 2)) && (decide (1 ≤ (Ch c h).words) && decide ((Ch c h).words ≤ 16)) && b) && (((srcN c h c.partitions.length : Int) == 1) && (decide ((1 : Int) ≤ (dstN c h c.partitions.length : Int)) && decide ((dstN c h c.partitions.length : Int) ≤ m)))) := fun b m => by
    rw [spL140_eq]
    simp only [bod140, e1', e2', cond_true, in_a, id, Int.toNat_natCast]
    show AnsF (cond (decide (1 ≤ (Ch c h).kind) && decide ((Ch c h).kind ≤ 2)) (cond (decide (1 ≤ (Ch c h).words) && decide ((Ch c h).words ≤ 16)) _ _) _) _
    cases decide (1 ≤ (Ch c h).kind) && decide ((Ch c h).kind ≤ 2) <;> cases decide (1 ≤ (Ch c h).words) && decide ((Ch c h).words ≤ 16)
    · exact hf false _ _
    · exact hf false _ _
    · exact hf false _ _
    · exact hf b _ _
  unfold spO140 ent140
  simp only [inR_of hh, cond_true, in_a, id, Int.toNat_natCast]
  unfold chanB
  show AnsF (cond ((Ch c h).kind == 2) (spL140 c h (.l11 (decide (1 ≤ (Ch c h).depth) && decide ((Ch c h).depth ≤ 8)) 1)) (spL140 c h (.l11 ((Ch c h).depth == 0) 4))) _
  cases (Ch c h).kind == 2 with
  | true => exact l11 _ _
  | false => exact l11 _ _
/-! #### cores; whether a configuration holds together, of both sides. -/
noncomputable def nwin (c : Config) (i : Nat) : Nat := (atLWindow c.cores i).length
noncomputable def Win (c : Config) (i n : Nat) : Window := atWindow (atLWindow c.cores i) n
noncomputable def splitQ (c : Config) (p : Int) (i n : Nat) : Bool := !(p == (-1)) && ((Win c i n).partition == p)
noncomputable def splitB (c : Config) (k : Nat) (p : Int) : Bool := (List.range k).any fun i => (List.range (nwin c i)).any (splitQ c p i)
theorem some_any (b : Bool) : cond b (some true) (some false) = some b := by cases b <;> rfl
theorem split_r {c : Config} (hc : FitC c) {k : Nat} (hk : k ≤ c.cores.length) (p : Int) : spO104 c k p = some (splitB c k p) := by
  have hB : B47 = 140737488351232 := rfl
  have hcl := hc.cores
  have inner : ∀ i, i < k → spL104 c k p (.l4 (i : Int) 0) = cond ((List.range (nwin c i)).any (splitQ c p i)) (some true) (spL104 c k p (.l0 ((i + 1 : Nat) : Int))) := fun i hi => by
    have hic : i < c.cores.length := by omega
    have hwl : nwin c i * 24 ≤ B47 := hc.core i hic
    exact any_loop (n := nwin c i) (f := fun n => spL104 c k p (.l4 (i : Int) (n : Int))) (q := splitQ c p i) (r := some true) (e := spL104 c k p (.l0 ((i + 1 : Nat) : Int))) (fun n hn => by
      have hn' : n < (atLWindow c.cores i).length := hn
      rw [spL104_eq]
      simp only [bod104, Int.toNat_natCast, inR_of hic, cond_true, lt_t hn', inR_of hn', wrap_succ n (by omega), id, cond3]
      rfl) (by
      rw [spL104_eq]
      have hn' : decide ((nwin c i : Int) < ((atLWindow c.cores i).length : Int)) = false := lt_f (Nat.le_refl _)
      simp only [bod104, Int.toNat_natCast, inR_of hic, cond_true, hn', cond_false, wrap_succ i (by omega), id])
  have outer := any_loop (n := k) (f := fun i => spL104 c k p (.l0 (i : Int))) (q := fun i => (List.range (nwin c i)).any (splitQ c p i)) (r := some true) (e := some false) (fun i hi => by
    rw [spL104_eq]
    simp only [bod104, lt_t hi, cond_true, id]
    exact inner i hi) (by
    rw [spL104_eq]
    simp only [bod104, lt_f (Nat.le_refl _), cond_false, id])
  exact Eq.trans (show _ = spL104 c k p (.l0 0) from rfl) (Eq.trans outer (some_any _))
noncomputable def splitAQ (c : Config) (p : Int) (i n : Nat) : Bool := decide (p ≥ 0) && ((Win c i n).partition == p)
theorem take_w {c : Config} {k i : Nat} (hi : i < k) : atLWindow ((c.cores.take k).drop 0) i = atLWindow c.cores i := by
  simp [atLWindow, List.getD, List.getElem?_take, hi]
theorem split_a {c : Config} (hc : FitC c) {k : Nat} (hk : k ≤ c.cores.length) (p : Int) : spO166 c k p = some ((List.range k).any fun i => (List.range (nwin c i)).any (splitAQ c p i)) := by
  have hB : B47 = 140737488351232 := rfl
  have hcl := hc.cores
  have htl : ((c.cores.take k).drop 0).length = k := by simp; omega
  have inner : ∀ i, i < k → spL166 c k p (.l4 (i : Int) (atLWindow c.cores i) ((atLWindow c.cores i).length) 0) = cond ((List.range (nwin c i)).any (splitAQ c p i)) (some true) (spL166 c k p (.l0 ((i + 1 : Nat) : Int))) := fun i hi => by
    have hic : i < c.cores.length := by omega
    have hwl : nwin c i * 24 ≤ B47 := hc.core i hic
    exact any_loop (n := nwin c i) (f := fun n => spL166 c k p (.l4 (i : Int) (atLWindow c.cores i) ((atLWindow c.cores i).length) (n : Int))) (q := splitAQ c p i) (r := some true) (e := spL166 c k p (.l0 ((i + 1 : Nat) : Int))) (fun n hn => by
      have hn' : n < (atLWindow c.cores i).length := hn
      rw [spL166_eq]
      simp only [bod166, Int.toNat_natCast, cond_true, lt_t hn', inR_of hn', wrap_succ n (by omega), id, cond3]
      rfl) (by
      rw [spL166_eq]
      have hn' : decide ((nwin c i : Int) < ((atLWindow c.cores i).length : Int)) = false := lt_f (Nat.le_refl _)
      simp only [bod166, hn', cond_false, wrap_succ i (by omega), id])
  have outer := any_loop (n := k) (f := fun i => spL166 c k p (.l0 (i : Int))) (q := fun i => (List.range (nwin c i)).any (splitAQ c p i)) (r := some true) (e := some false) (fun i hi => by
    rw [spL166_eq]
    simp only [bod166, Int.toNat_natCast, htl, lt_t hi, inR_of hi, cond_true, take_w hi, id]
    exact inner i hi) (by
    rw [spL166_eq]
    simp only [bod166, Int.toNat_natCast, htl, lt_f (Nat.le_refl _), cond_false, id])
  unfold spO166 ent166
  rw [inS_of hk, cond_true]
  exact Eq.trans outer (some_any _)
noncomputable def sW (c : Config) (k : Nat) : Nat → Int
  | 0 => 0
  | n + 1 => IntKind.i64.wrap (sW c k n + IntKind.i64.wrap ((Win c k n).usable + (Win c k n).slack))
noncomputable def w1 (c : Config) (k n : Nat) : Bool := decide ((-1) ≤ (Win c k n).partition) && decide ((Win c k n).partition ≤ IntKind.i64.wrap ((c.partitions.length : Int) - 1))
noncomputable def w2 (c : Config) (k n : Nat) : Bool := decide (1 ≤ (Win c k n).usable) && decide ((Win c k n).usable ≤ 16384)
noncomputable def w3 (c : Config) (k n : Nat) : Bool := decide (82 ≤ (Win c k n).slack) && decide ((Win c k n).slack ≤ 16384)
noncomputable def winQ (c : Config) (k n : Nat) : Bool := !(w1 c k n && (w2 c k n && (w3 c k n && !(splitB c k (Win c k n).partition))))
noncomputable def coreB (c : Config) (k : Nat) : Bool := (decide (1 ≤ nwin c k) && decide (nwin c k ≤ 16)) && (!((List.range (nwin c k)).any (winQ c k)) && (sW c k (nwin c k) == c.major))
theorem win_len {c : Config} {k : Nat} : (decide ((1 : Int) ≤ ((atLWindow c.cores k).length : Int)) && decide (((atLWindow c.cores k).length : Int) ≤ 16)) = (decide (1 ≤ nwin c k) && decide (nwin c k ≤ 16)) := by
  rw [Bool.eq_iff_iff]; simp only [Bool.and_eq_true, decide_eq_true_eq]; unfold nwin; omega
theorem core_r {c : Config} (hc : FitC c) {k : Nat} (hk : k < c.cores.length) : AnsW (spO61 c k) (coreB c k) := by
  have hB : B47 = 140737488351232 := rfl
  have hwl : nwin c k * 24 ≤ B47 := hc.core k hk
  have hl := ans_loop AnsW (n := nwin c k) (f := fun n => spL61 c k (.l0 (sW c k n) (n : Int))) (q := winQ c k) (e := sW c k (nwin c k) == c.major) (fun n hn => by
    have hn' : n < (atLWindow c.cores k).length := hn
    have hW : atWindow (atLWindow c.cores k) n = Win c k n := rfl
    have h1 : (decide ((-1) ≤ (Win c k n).partition) && decide ((Win c k n).partition ≤ IntKind.i64.wrap ((c.partitions.length : Int) - 1))) = w1 c k n := rfl
    have h2 : (decide (1 ≤ (Win c k n).usable) && decide ((Win c k n).usable ≤ 16384)) = w2 c k n := rfl
    have h3 : (decide (82 ≤ (Win c k n).slack) && decide ((Win c k n).slack ≤ 16384)) = w3 c k n := rfl
    have h4 : IntKind.i64.wrap (sW c k n + IntKind.i64.wrap ((Win c k n).usable + (Win c k n).slack)) = sW c k (n + 1) := rfl
    obtain ⟨s1, s2⟩ := sp_of (split_r hc (Nat.le_of_lt hk) (Win c k n).partition)
    have s1' : sp104 c k (Win c k n).partition = splitB c k (Win c k n).partition := s1
    have s2' : spc104 c k (Win c k n).partition = true := s2
    rw [spL61_eq]
    simp only [bod61, Int.toNat_natCast, inR_of hk, cond_true, lt_t hn', inR_of hn', in_r, hW, h1, h2, h3, h4, s1', s2', wrap_succ n (by omega), id]
    unfold winQ
    cases w1 c k n <;> cases w2 c k n <;> cases w3 c k n <;> cases splitB c k (Win c k n).partition <;> first
      | exact ⟨fun _ => ⟨_, rfl, rfl⟩, fun h => by cases h⟩
      | exact ⟨fun h => by (cases h), fun _ => rfl⟩) (fun _ => by
    rw [spL61_eq]
    have hn' : decide ((nwin c k : Int) < ((atLWindow c.cores k).length : Int)) = false := lt_f (Nat.le_refl _)
    simp only [bod61, Int.toNat_natCast, inR_of hk, cond_true, hn', cond_false, id]
    cases sW c k (nwin c k) == c.major <;> exact ⟨_, rfl, rfl⟩)
  unfold spO61 ent61
  simp only [Int.toNat_natCast, inR_of hk, cond_true, in_r, win_len, id]
  unfold coreB
  cases decide (1 ≤ nwin c k) && decide (nwin c k ≤ 16) with
  | false => exact ⟨_, rfl, rfl⟩
  | true => simpa [show sW c k 0 = 0 from rfl] using hl
theorem core_a {c : Config} (hc : FitC c) {k : Nat} (hk : k < c.cores.length) : AnsF (spO142 c k) (coreB c k) := by
  have hB : B47 = 140737488351232 := rfl
  have hwl : nwin c k * 24 ≤ B47 := hc.core k hk
  have hl := ans_loop AnsF (n := nwin c k) (f := fun n => spL142 c k (.l0 (sW c k n) (n : Int))) (q := winQ c k) (e := sW c k (nwin c k) == c.major) (fun n hn => by
    have hn' : n < (atLWindow c.cores k).length := hn
    have hW : atWindow (atLWindow c.cores k) n = Win c k n := rfl
    have h1 : (decide ((-1) ≤ (Win c k n).partition) && decide ((Win c k n).partition ≤ IntKind.i64.wrap ((c.partitions.length : Int) - 1))) = w1 c k n := rfl
    have h2 : (decide (1 ≤ (Win c k n).usable) && decide ((Win c k n).usable ≤ 16384)) = w2 c k n := rfl
    have h3 : (decide (82 ≤ (Win c k n).slack) && decide ((Win c k n).slack ≤ 16384)) = w3 c k n := rfl
    have h4 : IntKind.i64.wrap (sW c k n + IntKind.i64.wrap ((Win c k n).usable + (Win c k n).slack)) = sW c k (n + 1) := rfl
    obtain ⟨s1, s2⟩ := sp_of (split_a hc (Nat.le_of_lt hk) (Win c k n).partition)
    have s1' : sp166 c k (Win c k n).partition = _ := s1
    have s2' : spc166 c k (Win c k n).partition = true := s2
    rw [spL142_eq]
    simp only [bod142, Int.toNat_natCast, cond_true, lt_t hn', inR_of hn', in_a, hW, h1, h2, h3, h4, s1', s2', wrap_succ n (by omega), id, fineB_def]
    generalize hsp : ((List.range k).any fun i => (List.range (nwin c i)).any (splitAQ c (Win c k n).partition i)) = sa
    have hgo : ∀ b2 b3 b4 : Bool, ∀ X : Option AdmitFound, ((!(b2 && (b3 && b4))) = true → AnsF (cond (spc159 [sp131 b2 419 (sp164 k n), sp131 b3 420 (sp164 k n), sp131 b4 422 (sp164 k n)]) (cond (!(fineB (sp159 [sp131 b2 419 (sp164 k n), sp131 b3 420 (sp164 k n), sp131 b4 422 (sp164 k n)]))) (some (sp159 [sp131 b2 419 (sp164 k n), sp131 b3 420 (sp164 k n), sp131 b4 422 (sp164 k n)])) X) none) false) ∧ ((!(b2 && (b3 && b4))) = false → (cond (spc159 [sp131 b2 419 (sp164 k n), sp131 b3 420 (sp164 k n), sp131 b4 422 (sp164 k n)]) (cond (!(fineB (sp159 [sp131 b2 419 (sp164 k n), sp131 b3 420 (sp164 k n), sp131 b4 422 (sp164 k n)]))) (some (sp159 [sp131 b2 419 (sp164 k n), sp131 b3 420 (sp164 k n), sp131 b4 422 (sp164 k n)])) X) none) = X) := fun b2 b3 b4 X => by
      obtain ⟨k1, k2, k3, k4⟩ := ansF_sp (first3 b2 b3 b4 419 420 422 (sp164 k n) (sp164 k n) (sp164 k n) (by decide) (by decide) (by decide))
      generalize [sp131 b2 419 (sp164 k n), sp131 b3 420 (sp164 k n), sp131 b4 422 (sp164 k n)] = L at k1 k2 k3 k4 ⊢
      have k1' : spc159 L = true := k1
      have k2' : fineB (sp159 L) = (b2 && (b3 && b4)) := k2
      rw [k1', k2', cond_true]
      cases hb : b2 && (b3 && b4) with
      | false => exact ⟨fun _ => .err rfl (k4 hb), fun h => by cases h⟩
      | true => exact ⟨fun h => by (cases h), fun _ => rfl⟩
    have hsplit : w1 c k n = true → sa = splitB c k (Win c k n).partition := fun h1 => by
      simp only [w1, Bool.and_eq_true, decide_eq_true_eq] at h1
      rw [← hsp]
      unfold splitB
      refine any_eq fun i _ => any_eq fun j _ => ?_
      unfold splitAQ splitQ
      congr 1
      rw [Bool.eq_iff_iff]; simp; omega
    unfold winQ
    cases hw1 : w1 c k n with
    | true =>
      rw [hsplit hw1]
      exact hgo (w2 c k n) (w3 c k n) (!(splitB c k (Win c k n).partition)) _
    | false =>
      refine ⟨fun _ => (hgo false (w3 c k n) (!sa) _).1 rfl, fun h => by cases h⟩) (fun _ => by
    rw [spL142_eq]
    have hn' : decide ((nwin c k : Int) < ((atLWindow c.cores k).length : Int)) = false := lt_f (Nat.le_refl _)
    simp only [bod142, Int.toNat_natCast, hn', cond_false, id]
    cases sW c k (nwin c k) == c.major with
    | true => rw [unless_t]; exact .fine rfl
    | false => rw [unless_f]; exact .err' rfl (by decide))
  unfold spO142 ent142
  simp only [Int.toNat_natCast, inR_of hk, cond_true, in_a, win_len, id]
  unfold coreB
  cases decide (1 ≤ nwin c k) && decide (nwin c k ≤ 16) with
  | false => exact .err' rfl (by decide)
  | true => simpa [show sW c k 0 = 0 from rfl] using hl
/-! #### Check, of both sides, but for the kernel's area. -/
noncomputable def wholeB (c : Config) : Bool := (decide (1 ≤ c.frames) && decide (c.frames ≤ 1024)) && ((decide (1 ≤ c.major) && decide (c.major ≤ 16384)) && ((decide (1 ≤ c.cores.length) && decide (c.cores.length ≤ 4)) && ((decide (1 ≤ c.partitions.length) && decide (c.partitions.length ≤ 8)) && decide (c.channels.length ≤ 16))))
noncomputable def partsB (c : Config) : Bool := !((List.range c.partitions.length).any fun p => !(partB c p))
noncomputable def chansB (c : Config) : Bool := !((List.range c.channels.length).any fun h => !(chanB c h))
noncomputable def coresB (c : Config) : Bool := !((List.range c.cores.length).any fun k => !(coreB c k))
noncomputable def preB (c : Config) : Bool := wholeB c && (partsB c && (chansB c && coresB c))
theorem notany {n : Nat} {q : Nat → Bool} (h : (!((List.range n).any fun i => !(q i))) = true) : ∀ i, i < n → q i = true := fun i hi => by
  have h' : ((List.range n).any fun i => !(q i)) = false := by simpa using h
  have := any_f.1 h' i hi
  simpa using this
theorem few_of {c : Config} (h1 : wholeB c = true) (h2 : ∀ p, p < c.partitions.length → partB c p = true) : Few c := by
  simp only [wholeB, Bool.and_eq_true, decide_eq_true_eq] at h1
  refine ⟨h1.2.2.2.1.2, fun q hq => ?_⟩
  have := h2 q hq
  simp only [partB, Bool.and_eq_true, decide_eq_true_eq] at this
  exact this.1.2
theorem ansW_sp {o : Option (Int × Where)} {b : Bool} (h : AnsW o b) : o.isSome = true ∧ ((o.getD default).1 == 0) = b := by
  obtain ⟨r, rfl, h⟩ := h
  exact ⟨rfl, h⟩
theorem len_in (n a b : Nat) : (decide ((a : Int) ≤ (n : Int)) && decide ((n : Int) ≤ (b : Int))) = (decide (a ≤ n) && decide (n ≤ b)) := by
  rw [Bool.eq_iff_iff]; simp only [Bool.and_eq_true, decide_eq_true_eq]; omega
theorem whole_r (c : Config) : (sp56 c == 0) = wholeB c := by
  have : AnsE (spO56 c) (wholeB c) := by
    unfold spO56 ent56 wholeB
    have e1 := len_in c.cores.length 1 4
    have e2 := len_in c.partitions.length 1 8
    have e3 : decide ((c.channels.length : Int) > 16) = !(decide (c.channels.length ≤ 16)) := by rw [gt_not]; congr 1; rw [Bool.eq_iff_iff, decide_eq_true_eq, decide_eq_true_eq]; omega
    simp only [in_r, id]
    rw [show (decide ((1 : Int) ≤ (c.cores.length : Int)) && decide ((c.cores.length : Int) ≤ 4)) = _ from e1, show (decide ((1 : Int) ≤ (c.partitions.length : Int)) && decide ((c.partitions.length : Int) ≤ 8)) = _ from e2, e3]
    cases decide (1 ≤ c.frames) && decide (c.frames ≤ 1024) <;> cases decide (1 ≤ c.major) && decide (c.major ≤ 16384) <;> cases decide (1 ≤ c.cores.length) && decide (c.cores.length ≤ 4) <;> cases decide (1 ≤ c.partitions.length) && decide (c.partitions.length ≤ 8) <;> cases decide (c.channels.length ≤ 16) <;> exact ⟨_, rfl, rfl⟩
  exact (ansE_sp this).2
theorem check_r {c : Config} (hc : FitC c) {kb : Bool} (hk : preB c = true → spO62 c = some kb) : AnsW (spO29 c) (preB c && kb) := by
  have hB : B47 = 140737488351232 := rfl
  have hpl := hc.parts
  have hcl := hc.cores
  have hhl := hc.chans
  unfold spO29 ent29
  rw [whole_r]
  unfold preB
  cases hw : wholeB c with
  | false =>
    refine ⟨_, rfl, ?_⟩
    show (sp56 c == 0) = _
    rw [whole_r, hw]; rfl
  | true =>
  have h8 : wholeB c = true → partsB c = true → chansB c = true → AnsW (spL29 c (.l8 0)) (coresB c && kb) := fun hw hp hh => by
    refine ans_loop AnsW (n := c.cores.length) (f := fun k => spL29 c (.l8 (k : Int))) (q := fun k => !(coreB c k)) (e := kb) (fun k hkk => ?_) (fun hq => ?_)
    · obtain ⟨k1, k2⟩ := ansW_sp (core_r hc hkk)
      have k1' : spc61 c k = true := k1
      have k2' : ((sp61 c k).1 == 0) = coreB c k := k2
      rw [spL29_eq]
      simp only [bod29, lt_t hkk, cond_true, k1', k2', wrap_succ k (by omega), id]
      cases hb : coreB c k with
      | true => exact ⟨fun h => by (cases h), fun _ => rfl⟩
      | false => exact ⟨fun _ => ⟨_, rfl, by show ((sp61 c k).1 == 0) = _; rw [k2', hb]⟩, fun h => by cases h⟩
    · have hco : coresB c = true := by
        unfold coresB
        rw [any_f.2 hq]; rfl
      obtain ⟨a1, a2⟩ := sp_of (hk (by unfold preB; rw [hw, hp, hh, hco]; rfl))
      have a1' : sp62 c = kb := a1
      have a2' : spc62 c = true := a2
      rw [spL29_eq]
      simp only [bod29, lt_f (Nat.le_refl _), cond_false, a1', a2', cond_true, id]
      cases kb <;> exact ⟨_, rfl, rfl⟩
  have h4 : wholeB c = true → partsB c = true → AnsW (spL29 c (.l4 0)) (chansB c && (coresB c && kb)) := fun hw hp => by
    have hfew := few_of hw (notany hp)
    refine ans_loop AnsW (n := c.channels.length) (f := fun k => spL29 c (.l4 (k : Int))) (q := fun k => !(chanB c k)) (e := coresB c && kb) (fun k hkk => ?_) (fun hq => ?_)
    · obtain ⟨k1, k2⟩ := ansE_sp (channel_r hfew hkk)
      have k1' : spc59 c k = true := k1
      have k2' : ((sp59 c k) == 0) = chanB c k := k2
      rw [spL29_eq]
      simp only [bod29, lt_t hkk, cond_true, k1', k2', wrap_succ k (by omega), id]
      cases hb : chanB c k with
      | true => exact ⟨fun h => by (cases h), fun _ => rfl⟩
      | false => exact ⟨fun _ => ⟨_, rfl, by show ((sp59 c k) == 0) = _; rw [k2', hb]⟩, fun h => by cases h⟩
    · have hco : chansB c = true := by
        unfold chansB
        rw [any_f.2 hq]; rfl
      rw [spL29_eq]
      simp only [bod29, lt_f (Nat.le_refl _), cond_false, id]
      exact h8 hw hp hco
  have h0 : AnsW (spL29 c (.l0 0)) (partsB c && (chansB c && (coresB c && kb))) := by
    refine ans_loop AnsW (n := c.partitions.length) (f := fun k => spL29 c (.l0 (k : Int))) (q := fun k => !(partB c k)) (e := chansB c && (coresB c && kb)) (fun k hkk => ?_) (fun hq => ?_)
    · obtain ⟨k1, k2⟩ := ansW_sp (partition_r hc hkk)
      have k1' : spc58 c k = true := k1
      have k2' : ((sp58 c k).1 == 0) = partB c k := k2
      rw [spL29_eq]
      simp only [bod29, lt_t hkk, cond_true, k1', k2', wrap_succ k (by omega), id]
      cases hb : partB c k with
      | true => exact ⟨fun h => by (cases h), fun _ => rfl⟩
      | false => exact ⟨fun _ => ⟨_, rfl, by show ((sp58 c k).1 == 0) = _; rw [k2', hb]⟩, fun h => by cases h⟩
    · have hco : partsB c = true := by
        unfold partsB
        rw [any_f.2 hq]; rfl
      rw [spL29_eq]
      simp only [bod29, lt_f (Nat.le_refl _), cond_false, id]
      exact h4 hw hco
  simpa [Bool.and_assoc] using h0
/-! ### The program's questions -/
noncomputable def headL (c : Config) : List Clo := [(Clo.c130 c), (Clo.c133 c), (Clo.c134 c), (Clo.c135 c), (Clo.c136 c)]
noncomputable def QL1 (c : Config) (n : Nat) : List Clo := headL c ++ (List.range n).map fun p : Nat => Clo.c137 c (p : Int)
noncomputable def QL2 (c : Config) (n : Nat) : List Clo := QL1 c c.partitions.length ++ (List.range n).map fun p : Nat => Clo.c139 c (p : Int)
noncomputable def QL3 (c : Config) (n : Nat) : List Clo := QL2 c c.channels.length ++ (List.range n).map fun p : Nat => Clo.c141 c (p : Int)
noncomputable def QL4 (c : Config) : List Clo := QL3 c c.cores.length ++ [Clo.c143 c]
theorem map_range_succ {α : Type} (g : Nat → α) (n : Nat) : (List.range (n + 1)).map g = (List.range n).map g ++ [g n] := by simp [List.range_succ]
theorem questions_eq {c : Config} (hc : FitC c) : spO96 c = some (QL4 c) := by
  have hB : B47 = 140737488351232 := rfl
  have hpl := hc.parts
  have hcl := hc.cores
  have hhl := hc.chans
  have n1 : ∀ n, (QL1 c n).length = 5 + n := fun n => by simp [QL1, headL]; omega
  have n2 : ∀ n, (QL2 c n).length = 5 + c.partitions.length + n := fun n => by simp [QL2, n1]
  have n3 : ∀ n, (QL3 c n).length = 5 + c.partitions.length + c.channels.length + n := fun n => by simp [QL3, n2]
  have l1 := run_loop (n := c.partitions.length) (f := fun i l => spL96 c (.l0 (i : Int) l)) (S := QL1 c) (fun i hi => by
    rw [spL96_eq]
    simp only [bod96, lt_t hi, cond_true, wrap_succ i (by omega), n1]
    rw [leB_t (by simp only [List.length_singleton]; omega), cond_true]
    unfold QL1
    rw [map_range_succ, List.append_assoc])
  have l2 := run_loop (n := c.channels.length) (f := fun i l => spL96 c (.l4 (i : Int) l)) (S := QL2 c) (fun i hi => by
    rw [spL96_eq]
    simp only [bod96, lt_t hi, cond_true, wrap_succ i (by omega), n2]
    rw [leB_t (by simp only [List.length_singleton]; omega), cond_true]
    unfold QL2
    rw [map_range_succ, List.append_assoc])
  have l3 := run_loop (n := c.cores.length) (f := fun i l => spL96 c (.l8 (i : Int) l)) (S := QL3 c) (fun i hi => by
    rw [spL96_eq]
    simp only [bod96, lt_t hi, cond_true, wrap_succ i (by omega), n3]
    rw [leB_t (by simp only [List.length_singleton]; omega), cond_true]
    unfold QL3
    rw [map_range_succ, List.append_assoc])
  have z1 : QL1 c 0 = headL c := by simp [QL1]
  have z2 : QL2 c 0 = QL1 c c.partitions.length := by simp [QL2]
  have z3 : QL3 c 0 = QL2 c c.channels.length := by simp [QL3]
  rw [z1] at l1; rw [z2] at l2; rw [z3] at l3
  refine Eq.trans (show _ = spL96 c (.l0 0 (headL c)) from rfl) (Eq.trans l1 ?_)
  rw [spL96_eq]
  simp only [bod96, lt_f (Nat.le_refl _), cond_false]
  refine Eq.trans l2 ?_
  rw [spL96_eq]
  simp only [bod96, lt_f (Nat.le_refl _), cond_false]
  refine Eq.trans l3 ?_
  rw [spL96_eq]
  simp only [bod96, lt_f (Nat.le_refl _), cond_false, n3]
  rw [leB_t (by simp only [List.length_singleton]; omega), cond_true]
  rfl
/-! #### the program's Check, but for the kernel's area. -/
theorem L4_len (c : Config) : (QL4 c).length = 6 + c.partitions.length + c.channels.length + c.cores.length := by simp [QL4, QL3, QL2, QL1, headL]; omega
theorem L4_0 (c : Config) {i : Nat} (hi : i < 5) : atClo (QL4 c) i = (headL c).getD i Clo.none := by
  have h : (headL c).length = 5 := rfl
  unfold atClo QL4 QL3 QL2 QL1
  rw [getD_append, if_pos (by simp; omega), getD_append, if_pos (by simp; omega), getD_append, if_pos (by simp; omega), getD_append, if_pos (by omega)]
theorem getD_map_range {α : Type} (g : Nat → α) {n i : Nat} (hi : i < n) (d : α) : ((List.range n).map g).getD i d = g i := by simp [List.getD, hi]
theorem L4_1 (c : Config) {p : Nat} (hp : p < c.partitions.length) : atClo (QL4 c) (5 + p) = Clo.c137 c (p : Int) := by
  have h : (headL c).length = 5 := rfl
  unfold atClo QL4 QL3 QL2 QL1
  rw [getD_append, if_pos (by simp; omega), getD_append, if_pos (by simp; omega), getD_append, if_pos (by simp; omega), getD_append, if_neg (by omega), h, Nat.add_sub_cancel_left, getD_map_range _ hp]
theorem L1_len (c : Config) (n : Nat) : (QL1 c n).length = 5 + n := by simp [QL1, headL]; omega
theorem L2_len (c : Config) (n : Nat) : (QL2 c n).length = 5 + c.partitions.length + n := by simp [QL2, L1_len]
theorem L3_len (c : Config) (n : Nat) : (QL3 c n).length = 5 + c.partitions.length + c.channels.length + n := by simp [QL3, L2_len]
theorem L4_2 (c : Config) {p : Nat} (hp : p < c.channels.length) : atClo (QL4 c) (5 + c.partitions.length + p) = Clo.c139 c (p : Int) := by
  unfold atClo QL4
  rw [getD_append, if_pos (by rw [L3_len]; omega)]
  unfold QL3
  rw [getD_append, if_pos (by rw [L2_len]; omega)]
  unfold QL2
  rw [getD_append, if_neg (by rw [L1_len]; omega), L1_len, Nat.add_sub_cancel_left, getD_map_range _ hp]
theorem L4_3 (c : Config) {p : Nat} (hp : p < c.cores.length) : atClo (QL4 c) (5 + c.partitions.length + c.channels.length + p) = Clo.c141 c (p : Int) := by
  unfold atClo QL4
  rw [getD_append, if_pos (by rw [L3_len]; omega)]
  unfold QL3
  rw [getD_append, if_neg (by rw [L2_len]; omega), L2_len, Nat.add_sub_cancel_left, getD_map_range _ hp]
theorem L4_4 (c : Config) : atClo (QL4 c) (5 + c.partitions.length + c.channels.length + c.cores.length) = Clo.c143 c := by
  unfold atClo QL4
  rw [getD_append, if_neg (by rw [L3_len]; omega), L3_len, Nat.sub_self]
  rfl
noncomputable def fC (c : Config) (i : Nat) : Option (Int × Where) := spL49 c (.l0 (i : Int))
theorem fC_step {c : Config} (hc : FitC c) {i : Nat} {x : Clo} (hi : i < (QL4 c).length) (hx : atClo (QL4 c) i = x) {b : Bool} (h1 : askc x = true) (h2 : fineB (ask x) = b) (h3 : b = false → (ask x).e ≠ 0) : (b = false → AnsW (fC c i) false) ∧ (b = true → fC c i = fC c (i + 1)) := by
  obtain ⟨q1, q2⟩ := sp_of (questions_eq hc)
  have q1' : sp96 c = QL4 c := q1
  have hB : B47 = 140737488351232 := rfl
  have hpl := hc.parts
  have hcl := hc.cores
  have hhl := hc.chans
  have hl := L4_len c
  unfold fC
  rw [spL49_eq]
  simp only [bod49, q1', Int.toNat_natCast, lt_t hi, inR_of hi, hx, h1, cond_true, fineB_def, h2, wrap_succ i (by omega), id]
  cases b with
  | true => exact ⟨fun h => by (cases h), fun _ => rfl⟩
  | false =>
    refine ⟨fun _ => ⟨_, rfl, ?_⟩, fun h => by cases h⟩
    show ((ask x).e == 0) = false
    simpa using h3 rfl
theorem unless_e {b : Bool} {e : Int} {w : Where} (he : e ≠ 0) : b = false → (sp131 b e w).e ≠ 0 := fun h => by subst h; exact he
theorem check_a {c : Config} (hc : FitC c) {kb : Bool} (hk : preB c = true → spO144 c = some kb) : AnsW (spO49 c) (preB c && kb) := by
  obtain ⟨q1, q2⟩ := sp_of (questions_eq hc)
  have q2' : spc96 c = true := q2
  have hl := L4_len c
  have e1 := len_in c.cores.length 1 4
  have e2 := len_in c.partitions.length 1 8
  have e3 : decide ((c.channels.length : Int) ≤ 16) = decide (c.channels.length ≤ 16) := by rw [Bool.eq_iff_iff, decide_eq_true_eq, decide_eq_true_eq]; omega
  have s0 := fC_step hc (i := 0) (by omega) (L4_0 c (by omega)) (b := decide (1 ≤ c.frames) && decide (c.frames ≤ 1024)) rfl (by
    show fineB (sp131 (sp132 c.frames 1 1024) 400 nowhere) = _
    rw [unless_fine (by decide), in_a]) (by
    show _ → (sp131 (sp132 c.frames 1 1024) 400 nowhere).e ≠ 0
    rw [in_a]; exact unless_e (by decide))
  have s1 := fC_step hc (i := 1) (by omega) (L4_0 c (by omega)) (b := decide (1 ≤ c.major) && decide (c.major ≤ 16384)) rfl (by
    show fineB (sp131 (sp132 c.major 1 16384) 401 nowhere) = _
    rw [unless_fine (by decide), in_a]) (by
    show _ → (sp131 (sp132 c.major 1 16384) 401 nowhere).e ≠ 0
    rw [in_a]; exact unless_e (by decide))
  have s2 := fC_step hc (i := 2) (by omega) (L4_0 c (by omega)) (b := decide (1 ≤ c.cores.length) && decide (c.cores.length ≤ 4)) rfl (by
    show fineB (sp131 (sp132 c.cores.length 1 4) 402 nowhere) = _
    rw [unless_fine (by decide), in_a]; exact e1) (by
    show _ → (sp131 (sp132 c.cores.length 1 4) 402 nowhere).e ≠ 0
    rw [in_a, ← e1]; exact unless_e (by decide))
  have s3 := fC_step hc (i := 3) (by omega) (L4_0 c (by omega)) (b := decide (1 ≤ c.partitions.length) && decide (c.partitions.length ≤ 8)) rfl (by
    show fineB (sp131 (sp132 c.partitions.length 1 8) 403 nowhere) = _
    rw [unless_fine (by decide), in_a]; exact e2) (by
    show _ → (sp131 (sp132 c.partitions.length 1 8) 403 nowhere).e ≠ 0
    rw [in_a, ← e2]; exact unless_e (by decide))
  have s4 := fC_step hc (i := 4) (by omega) (L4_0 c (by omega)) (b := decide (c.channels.length ≤ 16)) rfl (by
    show fineB (sp131 (decide ((c.channels.length : Int) ≤ 16)) 404 nowhere) = _
    rw [unless_fine (by decide), e3]) (by
    show _ → (sp131 (decide ((c.channels.length : Int) ≤ 16)) 404 nowhere).e ≠ 0
    rw [e3]; exact unless_e (by decide))
  have hend : preB c = true → AnsW (fC c (5 + c.partitions.length + c.channels.length + c.cores.length)) kb := fun hpre => by
    obtain ⟨a1, a2⟩ := sp_of (hk hpre)
    have a1' : sp144 c = kb := a1
    have a2' : spc144 c = true := a2
    obtain ⟨b1, b2⟩ := sp_of (show spO143 c = some (sp131 kb 423 nowhere) by
      unfold spO143 ent143
      rw [a1', a2']; rfl)
    have st := fC_step hc (i := 5 + c.partitions.length + c.channels.length + c.cores.length) (by omega) (L4_4 c) (b := kb) b2 (by
      show fineB (sp143 c) = _
      rw [show sp143 c = _ from b1, unless_fine (by decide)]) (by
      show _ → (sp143 c).e ≠ 0
      rw [show sp143 c = _ from b1]; exact unless_e (by decide))
    cases hkb : kb with
    | false => exact st.1 hkb
    | true =>
      rw [st.2 hkb]
      obtain ⟨q1, q2⟩ := sp_of (questions_eq hc)
      have q1' : sp96 c = QL4 c := q1
      unfold fC
      rw [spL49_eq]
      simp only [bod49, q1', lt_f (show (QL4 c).length ≤ 5 + c.partitions.length + c.channels.length + c.cores.length + 1 by omega), cond_false, id]
      exact ⟨_, rfl, rfl⟩
  have h8 : wholeB c = true → partsB c = true → chansB c = true → AnsW (fC c (5 + c.partitions.length + c.channels.length)) (coresB c && kb) := fun hw hp hh => by
    refine ans_loop AnsW (n := c.cores.length) (f := fun k => fC c (5 + c.partitions.length + c.channels.length + k)) (q := fun k => !(coreB c k)) (e := kb) (fun k hkk => ?_) (fun hq => ?_)
    · obtain ⟨k1, k2, k3, k4⟩ := ansF_sp (core_a hc hkk)
      have k1' : spc142 c k = true := k1
      obtain ⟨b1, b2⟩ := sp_of (show spO141 c k = some (sp142 c k) by
        unfold spO141 ent141
        rw [k1']; rfl)
      have st := fC_step hc (by omega) (L4_3 c hkk) (b := coreB c k) b2 (by
        show fineB (sp141 c k) = _
        rw [show sp141 c k = _ from b1]; exact k2) (by
        show _ → (sp141 c k).e ≠ 0
        rw [show sp141 c k = _ from b1]; exact k4)
      exact ⟨fun h => st.1 (by simpa using h), fun h => st.2 (by simpa using h)⟩
    · have hco : coresB c = true := by
        unfold coresB
        rw [any_f.2 hq]; rfl
      exact hend (by unfold preB; rw [hw, hp, hh, hco]; rfl)
  have h4 : wholeB c = true → partsB c = true → AnsW (fC c (5 + c.partitions.length)) (chansB c && (coresB c && kb)) := fun hw hp => by
    have hfew := few_of hw (notany hp)
    refine ans_loop AnsW (n := c.channels.length) (f := fun k => fC c (5 + c.partitions.length + k)) (q := fun k => !(chanB c k)) (e := coresB c && kb) (fun k hkk => ?_) (fun hq => ?_)
    · obtain ⟨k1, k2, k3, k4⟩ := ansF_sp (channel_a hfew hkk)
      have k1' : spc140 c k = true := k1
      obtain ⟨b1, b2⟩ := sp_of (show spO139 c k = some (sp140 c k) by
        unfold spO139 ent139
        rw [k1']; rfl)
      have st := fC_step hc (by omega) (L4_2 c hkk) (b := chanB c k) b2 (by
        show fineB (sp139 c k) = _
        rw [show sp139 c k = _ from b1]; exact k2) (by
        show _ → (sp139 c k).e ≠ 0
        rw [show sp139 c k = _ from b1]; exact k4)
      exact ⟨fun h => st.1 (by simpa using h), fun h => st.2 (by simpa using h)⟩
    · have hco : chansB c = true := by
        unfold chansB
        rw [any_f.2 hq]; rfl
      exact h8 hw hp hco
  have h0 : wholeB c = true → AnsW (fC c 5) (partsB c && (chansB c && (coresB c && kb))) := fun hw => by
    refine ans_loop AnsW (n := c.partitions.length) (f := fun k => fC c (5 + k)) (q := fun k => !(partB c k)) (e := chansB c && (coresB c && kb)) (fun k hkk => ?_) (fun hq => ?_)
    · obtain ⟨k1, k2, k3, k4⟩ := ansF_sp (partition_a hc hkk)
      have k1' : spc138 c k = true := k1
      obtain ⟨b1, b2⟩ := sp_of (show spO137 c k = some (sp138 c k) by
        unfold spO137 ent137
        rw [k1']; rfl)
      have st := fC_step hc (by omega) (L4_1 c hkk) (b := partB c k) b2 (by
        show fineB (sp137 c k) = _
        rw [show sp137 c k = _ from b1]; exact k2) (by
        show _ → (sp137 c k).e ≠ 0
        rw [show sp137 c k = _ from b1]; exact k4)
      exact ⟨fun h => st.1 (by simpa using h), fun h => st.2 (by simpa using h)⟩
    · have hco : partsB c = true := by
        unfold partsB
        rw [any_f.2 hq]; rfl
      exact h4 hw hco
  have hgo : AnsW (fC c 0) (wholeB c && (partsB c && (chansB c && (coresB c && kb)))) := by
    cases hw : wholeB c with
    | true =>
      have hw' := hw
      simp only [wholeB, Bool.and_eq_true] at hw'
      obtain ⟨⟨a1, a2⟩, ⟨b1, b2⟩, ⟨c1, c2⟩, ⟨d1, d2⟩, d3⟩ := hw'
      rw [s0.2 (by rw [a1, a2]; rfl), s1.2 (by rw [b1, b2]; rfl), s2.2 (by rw [c1, c2]; rfl), s3.2 (by rw [d1, d2]; rfl), s4.2 d3]
      exact h0 hw
    | false =>
      show AnsW (fC c 0) false
      unfold wholeB at hw
      revert hw
      cases ha : (decide (1 ≤ c.frames) && decide (c.frames ≤ 1024)) with
      | false => exact fun _ => s0.1 ha
      | true =>
      rw [s0.2 ha]
      cases hb : (decide (1 ≤ c.major) && decide (c.major ≤ 16384)) with
      | false => exact fun _ => s1.1 hb
      | true =>
      rw [s1.2 hb]
      cases hcc : (decide (1 ≤ c.cores.length) && decide (c.cores.length ≤ 4)) with
      | false => exact fun _ => s2.1 hcc
      | true =>
      rw [s2.2 hcc]
      cases hd : (decide (1 ≤ c.partitions.length) && decide (c.partitions.length ≤ 8)) with
      | false => exact fun _ => s3.1 hd
      | true =>
      rw [s3.2 hd]
      cases he : decide (c.channels.length ≤ 16) with
      | false => exact fun _ => s4.1 he
      | true => intro h; cases h
  unfold spO49 ent49
  rw [q2', cond_true]
  unfold preB
  have hgo' : AnsW (spL49 c (.l0 0)) _ := hgo
  simpa [Bool.and_assoc] using hgo'
end Go.Proofs.YtgfifnadfmaolaaGreatDoor
