/- The law AuditMay, plain law: names, copies, regions, partitions, of both sides. -/
import Derived.Test.YtgfifnadfmaolaaGreatDoorP12
import Derived.Test.YtgfifnadfmaolaaGreatDoorD
namespace Go.Proofs.YtgfifnadfmaolaaGreatDoor
open Go.RowKit
set_option linter.unusedVariables false
set_option linter.unusedSimpArgs false
set_option linter.unusedSectionVars false
/-! #### loops; small functions; names; copies. -/
/-! ### Loops -/
theorem wrap_succ (i : Nat) (h : i < 4611686018427387904) : IntKind.i64.wrap ((i : Int) + 1) = ((i + 1 : Nat) : Int) := by rw [wrap_in _ (by omega) (by omega)]; omega
theorem lt_t {i n : Nat} (h : i < n) : decide ((i : Int) < (n : Int)) = true := decide_eq_true (by omega)
theorem lt_f {i n : Nat} (h : n ≤ i) : decide ((i : Int) < (n : Int)) = false := decide_eq_false (by omega)
theorem run_loop {σ R : Type} {n : Nat} {f : Nat → σ → Option R} {S : Nat → σ} (hs : ∀ i, i < n → f i (S i) = f (i + 1) (S (i + 1))) : f 0 (S 0) = f n (S n) := by
  have : ∀ k, k ≤ n → f 0 (S 0) = f k (S k) := by
    intro k
    induction k with
    | zero => intro _; rfl
    | succ k ih => intro h; rw [ih (by omega), hs k (by omega)]
  exact this n (Nat.le_refl _)
theorem any_loop {R : Type} {n : Nat} {f : Nat → Option R} {q : Nat → Bool} {r e : Option R} (hs : ∀ i, i < n → f i = cond (q i) r (f (i + 1))) (he : f n = e) : f 0 = cond ((List.range n).any q) r e := by
  have : ∀ k i, i + k = n → f i = cond ((List.range' i k).any q) r e := by
    intro k
    induction k with
    | zero => intro i h; simp at h; subst h; simpa using he
    | succ k ih =>
      intro i h
      rw [hs i (by omega), ih (i + 1) (by omega), List.range'_succ, List.any_cons]
      cases q i <;> rfl
  have h := this n 0 (by omega)
  rwa [← List.range_eq_range'] at h
theorem any_t {n : Nat} {q : Nat → Bool} : (List.range n).any q = true ↔ ∃ i, i < n ∧ q i = true := by simp
theorem any_f {n : Nat} {q : Nat → Bool} : (List.range n).any q = false ↔ ∀ i, i < n → q i = false := by simp
theorem any_eq {n : Nat} {q q' : Nat → Bool} (h : ∀ i, i < n → q i = q' i) : (List.range n).any q = (List.range n).any q' := by
  rw [Bool.eq_iff_iff, any_t, any_t]
  exact ⟨fun ⟨i, hi, hq⟩ => ⟨i, hi, by rw [← h i hi]; exact hq⟩, fun ⟨i, hi, hq⟩ => ⟨i, hi, by rw [h i hi]; exact hq⟩⟩
theorem sp_of {R : Type} [Inhabited R] {o : Option R} {r : R} (h : o = some r) : o.getD default = r ∧ o.isSome = true := by subst h; exact ⟨rfl, rfl⟩
/-! ### Sizes -/
def B47 : Nat := 140737488351232
def I64 (n : Int) : Prop := -9223372036854775808 ≤ n ∧ n < 9223372036854775808
structure FitC (c : Config) : Prop where
  frames : I64 c.frames
  kernel : I64 c.kernel
  room : I64 c.room
  cores : c.cores.length * 24 ≤ B47
  core : ∀ i, i < c.cores.length → (atLWindow c.cores i).length * 24 ≤ B47
  parts : c.partitions.length * 104 ≤ B47
  regions : ∀ i, i < c.partitions.length → (atPartition c.partitions i).regions.length * 32 ≤ B47
  ports : ∀ i, i < c.partitions.length → (atPartition c.partitions i).ports.length * 16 ≤ B47
  name : ∀ i, i < c.partitions.length → (atPartition c.partitions i).name.size ≤ maxLen
  chans : c.channels.length * 24 ≤ B47
  region : ∀ i k, i < c.partitions.length → k < (atPartition c.partitions i).regions.length → I64 (atRegion (atPartition c.partitions i).regions k).frame ∧ I64 (atRegion (atPartition c.partitions i).regions k).pages
theorem fit_int {n : Int} (h : Fit (.v (.int .i64 n))) : I64 n := by
  cases h with
  | int _ _ h0 h1 =>
    simp [IntKind.min, IntKind.max, IntKind.signed, IntKind.bits] at h0 h1
    exact ⟨by omega, by omega⟩
theorem fit_sl {t : Ty} {xs : List t.T} (h : Fit (.sl t xs)) : xs.length * t.by ≤ B47 ∧ ∀ i j, i < xs.length → j < t.sz → Fit ((t.enc (nth xs i)).getD j .undef) := by
  cases h with
  | sl _ _ hl h => exact ⟨hl, h⟩
theorem fit_str {s : ByteArray} (h : Fit (.v (.string s))) : s.size ≤ maxLen := by
  cases h with
  | str _ h => exact h
theorem fitC {c : Config} (h : ∀ j, j < Ty.sz .sConfig → Fit ((Ty.enc .sConfig c).getD j .undef)) : FitC c := by
  obtain ⟨k1, k2⟩ := fit_sl (t := .sl .sWindow) (xs := c.cores) (h 4 (by decide))
  obtain ⟨k3, k4⟩ := fit_sl (t := .sPartition) (xs := c.partitions) (h 5 (by decide))
  obtain ⟨k5, _⟩ := fit_sl (t := .sChannel) (xs := c.channels) (h 6 (by decide))
  have part : ∀ i, i < c.partitions.length → _ := fun i hi => fit_sl (t := .sRegion) (xs := (atPartition c.partitions i).regions) (k4 i 6 hi (by decide))
  refine ⟨fit_int (h 0 (by decide)), fit_int (h 2 (by decide)), fit_int (h 3 (by decide)), k1, fun i hi => (fit_sl (t := .sWindow) (xs := atLWindow c.cores i) (k2 i 0 hi (by decide))).1, k3, fun i hi => (part i hi).1, fun i hi => (fit_sl (t := .sPort) (xs := (atPartition c.partitions i).ports) (k4 i 7 hi (by decide))).1, fun i hi => fit_str (k4 i 0 hi (by decide)), k5, fun i k hi hk => ?_⟩
  exact ⟨fit_int ((part i hi).2 k 2 hk (by decide)), fit_int ((part i hi).2 k 1 hk (by decide))⟩
/-! ### Small functions -/
theorem in_r (n l m : Int) : sp99 n l m = (decide (l ≤ n) && decide (n ≤ m)) := by
  refine (sp_of (r := (decide (l ≤ n) && decide (n ≤ m))) ?_).1
  unfold spO99 ent99
  by_cases h : l ≤ n <;> simp [h]
theorem in_a (n l m : Int) : sp132 n l m = (decide (l ≤ n) && decide (n ≤ m)) := by
  refine (sp_of (r := (decide (l ≤ n) && decide (n ≤ m))) ?_).1
  unfold spO132 ent132
  by_cases h : l ≤ n <;> simp [h]
/-! ### Copied -/
theorem copy_step {α : Type} (xs : List α) (z y : α) {i : Nat} (hi : i < xs.length) (hy : y = xs[i]) : List.set (xs.take i ++ List.replicate (xs.length - i) z) i y = xs.take (i + 1) ++ List.replicate (xs.length - (i + 1)) z := by
  subst hy
  apply List.ext_getElem
  · simp; omega
  · intro j h1 h2
    simp at h1
    simp only [List.getElem_set, List.getElem_append, List.length_take, List.getElem_take, List.getElem_replicate]
    by_cases hj : i = j
    · subst hj
      rw [if_pos rfl, dif_pos (by omega)]
    · rw [if_neg hj]
      by_cases hji : j < i
      · rw [dif_pos (by omega), dif_pos (by omega)]
      · rw [dif_neg (by omega), dif_neg (by omega)]
theorem copy_len {α : Type} (xs : List α) (z : α) {i : Nat} (hi : i ≤ xs.length) : (xs.take i ++ List.replicate (xs.length - i) z).length = xs.length := by simp; omega
theorem atW_get {xs : List (List Window)} {i : Nat} (h : i < xs.length) : atLWindow xs i = xs[i] := by simp [atLWindow, List.getD, h]
theorem atP_get {xs : List Partition} {i : Nat} (h : i < xs.length) : atPartition xs i = xs[i] := by simp [atPartition, List.getD, h]
theorem leB_t {a b : Nat} (h : a ≤ b) : leB a b = true := by simpa only [leB, Nat.ble_eq] using h
theorem make_t (n b : Nat) (h : n * b ≤ B47) : (decide ((n : Int) = n) && decide (0 ≤ n) && leB ((n : Int).toNat * b) 140737488355328) = true := by
  unfold B47 at h
  rw [Int.toNat_natCast, leB_t (by omega)]
  simp
theorem make_t2 (n b : Nat) (h : n * b ≤ B47) : (decide True && decide (0 ≤ n) && leB ((n : Int).toNat * b) 140737488355328) = true := by
  unfold B47 at h
  rw [Int.toNat_natCast, leB_t (by omega)]
  simp
theorem copied_eq {c : Config} (hc : FitC c) : spO9 c = some c := by
  have h1 := run_loop (n := c.cores.length) (f := fun i s => spL9 c (.l0 (i : Int) s)) (S := fun i => c.cores.take i ++ List.replicate (c.cores.length - i) []) (fun i hi => by
    have hl := hc.core i hi
    have hlen := hc.cores
    unfold B47 at hl hlen
    rw [spL9_eq]
    have e1 : leB ((([] : List Window).length + (atLWindow c.cores i : List Window).length) * 24) 140737488355328 = true := leB_t (by simp only [List.length_nil]; omega)
    simp only [bod9, lt_t hi, cond_true, inR_of hi, Int.toNat_natCast, e1, copy_len c.cores [] (Nat.le_of_lt hi), wrap_succ i (by omega)]
    rw [copy_step c.cores [] _ hi (by rw [List.nil_append, atW_get hi])])
  have h2 := run_loop (n := c.partitions.length) (f := fun i s => spL9 c (.l4 (i : Int) c.cores s)) (S := fun i => c.partitions.take i ++ List.replicate (c.partitions.length - i) (⟨(ByteArray.mk #[]), 0, 0, 0, 0, 0, [], []⟩ : Partition)) (fun i hi => by
    have hl := hc.regions i hi
    have hl' := hc.ports i hi
    have hlen := hc.parts
    unfold B47 at hl hl' hlen
    rw [spL9_eq]
    have e1 : leB ((([] : List Region).length + ((atPartition c.partitions i).regions : List Region).length) * 32) 140737488355328 = true := leB_t (by simp only [List.length_nil]; omega)
    have e2 : leB ((([] : List Port).length + ((atPartition c.partitions i).ports : List Port).length) * 16) 140737488355328 = true := leB_t (by simp only [List.length_nil]; omega)
    simp only [bod9, lt_t hi, cond_true, inR_of hi, Int.toNat_natCast, e1, e2, copy_len c.partitions _ (Nat.le_of_lt hi), wrap_succ i (by omega)]
    rw [copy_step c.partitions _ _ hi (by rw [List.nil_append, List.nil_append, atP_get hi])])
  simp only [List.take_zero, List.nil_append, Nat.sub_zero, List.take_length, Nat.sub_self, List.replicate_zero, List.append_nil] at h1 h2
  have hch := hc.chans
  have hB : B47 = 140737488351232 := rfl
  unfold spO9 ent9
  rw [make_t _ _ hc.cores, cond_true, Int.toNat_natCast]
  refine h1.trans ?_
  rw [spL9_eq]
  simp only [bod9, lt_f (Nat.le_refl _), cond_false]
  rw [make_t2 _ _ hc.parts, cond_true, Int.toNat_natCast]
  refine h2.trans ?_
  rw [spL9_eq]
  simp only [bod9, lt_f (Nat.le_refl _), cond_false]
  rw [leB_t (by simp only [List.length_nil]; omega), cond_true]
  rfl
/-! ### Names -/
def badB (b : Int) : Bool := (decide (b < 97) || decide (b > 122)) && (decide (b < 48) || decide (b > 57)) && !(b == 45)
def nameQ (s : ByteArray) : Bool := (List.range s.size).any fun i => badB (byteAt s i)
theorem bad_cond {R : Type} (b : Int) (x y : R) : cond (decide (b < 97)) (cond (decide (b < 48)) (cond (!(b == 45)) x y) (cond (decide (b > 57)) (cond (!(b == 45)) x y) y)) (cond (decide (b > 122)) (cond (decide (b < 48)) (cond (!(b == 45)) x y) (cond (decide (b > 57)) (cond (!(b == 45)) x y) y)) y) = cond (badB b) x y := by
  unfold badB
  cases decide (b < 97) <;> cases decide (b > 122) <;> cases decide (b < 48) <;> cases decide (b > 57) <;> cases (b == 45) <;> rfl
theorem name_r {s : ByteArray} (hs : s.size < 4611686018427387904) : spL147 s (.l0 0) = some (!(nameQ s)) := by
  have h := any_loop (n := s.size) (f := fun i => spL147 s (.l0 (i : Int))) (q := fun i => badB (byteAt s i)) (r := some false) (e := some true) (fun i hi => by
    rw [spL147_eq]
    simp only [bod147, lt_t hi, cond_true, inR_of hi, Int.toNat_natCast, wrap_succ i (by omega), id]
    exact bad_cond _ _ _) (by rw [spL147_eq]; simp only [bod147, lt_f (Nat.le_refl _), cond_false, id])
  refine h.trans ?_
  unfold nameQ
  cases (List.range s.size).any _ <;> rfl
theorem name_a {s : ByteArray} (hs : s.size < 4611686018427387904) : spL173 s (.l0 0) = some (!(nameQ s)) := by
  have h := any_loop (n := s.size) (f := fun i => spL173 s (.l0 (i : Int))) (q := fun i => badB (byteAt s i)) (r := some false) (e := some true) (fun i hi => by
    rw [spL173_eq]
    simp only [bod173, lt_t hi, cond_true, inR_of hi, Int.toNat_natCast, wrap_succ i (by omega), id]
    exact bad_cond _ _ _) (by rw [spL173_eq]; simp only [bod173, lt_f (Nat.le_refl _), cond_false, id])
  refine h.trans ?_
  unfold nameQ
  cases (List.range s.size).any _ <;> rfl
noncomputable def isNm (s : ByteArray) : Bool := cond (decide (s.size = 0)) false (cond (decide (s.size > 16)) false (cond (decide (byteAt s 0 < 97)) false (cond (decide (byteAt s 0 > 122)) false (!(nameQ s)))))
theorem isNameR (s : ByteArray) : spO147 s = some (isNm s) := by
  unfold spO147 ent147 isNm
  have e1 : (s.toList == (ByteArray.mk #[]).toList) = decide (s.size = 0) := by
    rw [Bool.eq_iff_iff, beq_iff_eq, decide_eq_true_eq, ByteArray.toList_eq, ByteArray.toList_eq]
    constructor
    · intro h
      have h2 : s.data.toList.length = 0 := congrArg List.length h
      rw [Array.length_toList] at h2
      exact h2
    · intro h
      have h2 : s.data.toList.length = 0 := by rw [Array.length_toList]; exact h
      exact List.eq_nil_of_length_eq_zero h2
  rw [e1]
  cases h0 : decide (s.size = 0) with
  | true => rfl
  | false =>
    simp only [cond_false]
    have h0' : ¬ s.size = 0 := by simpa using h0
    have e2 : decide ((s.size : Int) > 16) = decide (s.size > 16) := by rw [Bool.eq_iff_iff, decide_eq_true_eq, decide_eq_true_eq]; omega
    rw [e2]
    cases h1 : decide (s.size > 16) with
    | true => rfl
    | false =>
      have h1' : ¬ s.size > 16 := by simpa using h1
      have e3 : inR 0 s.size = true := inR_of (i := 0) (by omega)
      simp only [cond_false, e3, cond_true, id]
      rw [name_r (by omega)]
      cases decide (byteAt s 0 < 97) <;> cases decide (byteAt s 0 > 122) <;> rfl
theorem isNameA (s : ByteArray) : spO173 s = some (isNm s) := by
  unfold spO173 ent173 isNm
  have e1 : decide ((s.size : Int) < 1) = decide (s.size = 0) := by rw [Bool.eq_iff_iff, decide_eq_true_eq, decide_eq_true_eq]; omega
  rw [e1]
  cases h0 : decide (s.size = 0) with
  | true => rfl
  | false =>
    simp only [cond_false]
    have h0' : ¬ s.size = 0 := by simpa using h0
    have e2 : decide ((s.size : Int) > 16) = decide (s.size > 16) := by rw [Bool.eq_iff_iff, decide_eq_true_eq, decide_eq_true_eq]; omega
    rw [e2]
    cases h1 : decide (s.size > 16) with
    | true => rfl
    | false =>
      have h1' : ¬ s.size > 16 := by simpa using h1
      have e3 : inR 0 s.size = true := inR_of (i := 0) (by omega)
      simp only [cond_false, e3, cond_true, id]
      rw [name_a (by omega)]
      cases decide (byteAt s 0 < 97) <;> cases decide (byteAt s 0 > 122) <;> rfl
/-! #### what both sides ask of a partition's regions and names. -/
/-! ### Answers: fine, or an error -/
def fineB (x : AdmitFound) : Bool := ((x.e : Int) == fine.e) && ((((x.where_.first : Int) == fine.where_.first) && (((x.where_.second : Int) == fine.where_.second) && true)) && true)
theorem fineB_iff (x : AdmitFound) : fineB x = true ↔ x = fine := by
  obtain ⟨e, f, s⟩ := x
  simp [fineB, fine]
theorem fineB_fine : fineB fine = true := (fineB_iff _).2 rfl
theorem fineB_e {x : AdmitFound} (h : x.e ≠ 0) : fineB x = false := by
  cases hq : fineB x with
  | false => rfl
  | true => rw [(fineB_iff x).1 hq] at h; exact absurd rfl h
def AnsF (o : Option AdmitFound) (b : Bool) : Prop := ∃ r, o = some r ∧ (b = true → r = fine) ∧ (b = false → r.e ≠ 0)
def AnsE (o : Option Int) (b : Bool) : Prop := ∃ e, o = some e ∧ (e == 0) = b
theorem AnsF.fine {b : Bool} (h : b = true) : AnsF (some fine) b := ⟨_, rfl, fun _ => rfl, fun h' => by rw [h] at h'; cases h'⟩
theorem AnsF.err {r : AdmitFound} {b : Bool} (h : b = false) (hr : r.e ≠ 0) : AnsF (some r) b := ⟨_, rfl, fun h' => by (rw [h] at h'; cases h'), fun _ => hr⟩
theorem AnsF.err' {e : Int} {w : Where} {b : Bool} (h : b = false) (hr : e ≠ 0) : AnsF (some ⟨e, w⟩) b := .err h hr
theorem unless_t (e : Int) (w : Where) : sp131 true e w = fine := rfl
theorem unless_f (e : Int) (w : Where) : sp131 false e w = ⟨e, ⟨w.first, w.second⟩⟩ := rfl
theorem unless_fine {b : Bool} {e : Int} {w : Where} (he : e ≠ 0) : fineB (sp131 b e w) = b := by
  cases b
  · rw [unless_f]; exact fineB_e he
  · rw [unless_t]; exact fineB_fine
theorem atF_get {xs : List AdmitFound} {i : Nat} (h : i < xs.length) : atAdmitFound xs i = xs[i] := by simp [atAdmitFound, List.getD, h]
theorem first_eq {l : List AdmitFound} (hl : l.length < 4611686018427387904) : ∃ r, spO159 l = some r ∧ ((∀ x ∈ l, fineB x = true) → r = fine) ∧ ∀ x ∈ l, fineB x = false → fineB r = false ∧ r ∈ l := by
  have key : ∀ k i, i + k = l.length → ∃ r, spL159 l (.l0 (i : Int)) = some r ∧ ((∀ x ∈ l.drop i, fineB x = true) → r = fine) ∧ ∀ x ∈ l.drop i, fineB x = false → fineB r = false ∧ r ∈ l := by
    intro k
    induction k with
    | zero =>
      intro i h
      refine ⟨fine, ?_, fun _ => rfl, fun x hx => ?_⟩
      · rw [spL159_eq]
        simp only [bod159, lt_f (show l.length ≤ i by omega), cond_false, id]
      · rw [List.drop_eq_nil_of_le (by omega)] at hx; cases hx
    | succ k ih =>
      intro i h
      have hi : i < l.length := by omega
      have hd : l.drop i = l[i] :: l.drop (i + 1) := List.drop_eq_getElem_cons hi
      rw [spL159_eq]
      simp only [bod159, lt_t hi, cond_true, inR_of hi, Int.toNat_natCast, wrap_succ i (by omega), id]
      obtain ⟨r, h1, h2, h3⟩ := ih (i + 1) (by omega)
      show ∃ r, cond (!(fineB (atAdmitFound l i))) _ _ = some r ∧ _
      rw [atF_get hi]
      cases hq : fineB l[i] with
      | true =>
        refine ⟨r, h1, fun h => h2 fun x hx => h x (by rw [hd]; exact List.mem_cons_of_mem _ hx), fun x hx hf => ?_⟩
        rw [hd] at hx
        rcases List.mem_cons.1 hx with rfl | hx
        · rw [hq] at hf; cases hf
        · exact h3 x hx hf
      | false =>
        refine ⟨l[i], rfl, fun h => ?_, fun x hx hf => ⟨hq, List.getElem_mem hi⟩⟩
        have := h l[i] (by rw [hd]; exact List.mem_cons_self)
        rw [hq] at this; cases this
  obtain ⟨r, h1, h2, h3⟩ := key l.length 0 (by omega)
  exact ⟨r, h1, by simpa using h2, by simpa using h3⟩
theorem first_ans (bs : List (Bool × Int × Where)) (hl : bs.length < 4611686018427387904) (he : ∀ x ∈ bs, x.2.1 ≠ 0) : AnsF (spO159 (bs.map fun x => sp131 x.1 x.2.1 x.2.2)) (bs.all (·.1)) := by
  obtain ⟨r, h1, h2, h3⟩ := first_eq (l := bs.map fun x => sp131 x.1 x.2.1 x.2.2) (by simpa using hl)
  refine ⟨r, h1, fun h => h2 fun x hx => ?_, fun h => ?_⟩
  · obtain ⟨y, hy, rfl⟩ := List.mem_map.1 hx
    rw [unless_fine (he y hy)]
    exact List.all_eq_true.1 h y hy
  · obtain ⟨y, hy, hb⟩ : ∃ y ∈ bs, y.1 = false := by
      apply Classical.byContradiction
      intro hn
      have : bs.all (·.1) = true := List.all_eq_true.2 fun y hy => by
        cases hq : y.1 with
        | true => rfl
        | false => exact absurd ⟨y, hy, hq⟩ hn
      rw [this] at h; cases h
    obtain ⟨h4, h5⟩ := h3 _ (List.mem_map.2 ⟨y, hy, rfl⟩) (by rw [unless_fine (he y hy)]; exact hb)
    obtain ⟨z, hz, rfl⟩ := List.mem_map.1 h5
    rw [unless_fine (he z hz)] at h4
    rw [h4, unless_f]
    exact he z hz
theorem first2 (b1 b2 : Bool) (e1 e2 : Int) (w1 w2 : Where) (h1 : e1 ≠ 0) (h2 : e2 ≠ 0) : AnsF (spO159 [sp131 b1 e1 w1, sp131 b2 e2 w2]) (b1 && b2) := by
  have := first_ans [(b1, e1, w1), (b2, e2, w2)] (by simp) (by simp [h1, h2])
  simpa using this
theorem first3 (b1 b2 b3 : Bool) (e1 e2 e3 : Int) (w1 w2 w3 : Where) (h1 : e1 ≠ 0) (h2 : e2 ≠ 0) (h3 : e3 ≠ 0) : AnsF (spO159 [sp131 b1 e1 w1, sp131 b2 e2 w2, sp131 b3 e3 w3]) (b1 && (b2 && b3)) := by
  have := first_ans [(b1, e1, w1), (b2, e2, w2), (b3, e3, w3)] (by simp) (by simp [h1, h2, h3])
  simpa using this
theorem first4 (b1 b2 b3 b4 : Bool) (e1 e2 e3 e4 : Int) (w1 w2 w3 w4 : Where) (h1 : e1 ≠ 0) (h2 : e2 ≠ 0) (h3 : e3 ≠ 0) (h4 : e4 ≠ 0) : AnsF (spO159 [sp131 b1 e1 w1, sp131 b2 e2 w2, sp131 b3 e3 w3, sp131 b4 e4 w4]) (b1 && (b2 && (b3 && b4))) := by
  have := first_ans [(b1, e1, w1), (b2, e2, w2), (b3, e3, w3), (b4, e4, w4)] (by simp) (by simp [h1, h2, h3, h4])
  simpa using this
/-! ### Names -/
noncomputable def P (c : Config) (p : Nat) : Partition := atPartition c.partitions p
noncomputable def Rg (c : Config) (p k : Nat) : Region := atRegion (P c p).regions k
noncomputable def sameName (c : Config) (p q : Nat) : Bool := ((P c q).name.toList == (P c p).name.toList)
noncomputable def namedB (c : Config) (p : Nat) : Bool := !((List.range p).any (sameName c p)) && isNm (P c p).name
theorem inS_of {i n : Nat} (h : i ≤ n) : inS 0 (i : Int) n = true := inS_iff.2 ⟨by omega, by omega, by omega⟩
theorem take_at {c : Config} {p q : Nat} (hq : q < p) (hp : p ≤ c.partitions.length) : atPartition ((c.partitions.take p).drop 0) q = P c q := by
  simp [atPartition, P, List.getD, List.getElem?_take, hq]
theorem named_r {c : Config} (hc : FitC c) {p : Nat} (hp : p < c.partitions.length) : spO100 c p = some (namedB c p) := by
  have hlen := hc.parts
  unfold B47 at hlen
  have h := any_loop (n := p) (f := fun i => spL100 c p (.l0 (i : Int))) (q := sameName c p) (r := some false) (e := some (isNm (P c p).name)) (fun i hi => by
    rw [spL100_eq]
    simp only [bod100, lt_t hi, cond_true, inR_of hp, inR_of (show i < c.partitions.length by omega), Int.toNat_natCast, wrap_succ i (by omega), id]
    rfl) (by
    rw [spL100_eq]
    obtain ⟨e1, e2⟩ := sp_of (isNameR (P c p).name)
    have e2' : spc147 (P c p).name = true := e2
    have e1' : sp147 (P c p).name = isNm (P c p).name := e1
    simp only [bod100, lt_f (Nat.le_refl _), cond_false, inR_of hp, cond_true, Int.toNat_natCast, id]
    show cond (spc147 (P c p).name) (some (sp147 (P c p).name)) none = _
    rw [e1', e2']; rfl)
  refine h.trans ?_
  unfold namedB
  cases (List.range p).any (sameName c p) <;> simp
theorem named_a {c : Config} (hc : FitC c) {p : Nat} (hp : p < c.partitions.length) : spO160 c p = some (namedB c p) := by
  have hlen := hc.parts
  unfold B47 at hlen
  have htl : ((c.partitions.take p).drop 0).length = p := by simp; omega
  have h := any_loop (n := p) (f := fun i => spL160 c p (.l0 (i : Int))) (q := sameName c p) (r := some false) (e := some (isNm (P c p).name)) (fun i hi => by
    rw [spL160_eq]
    simp only [bod160, Int.toNat_natCast, htl, lt_t hi, cond_true, inR_of hp, inR_of hi, wrap_succ i (by omega), id, take_at hi (Nat.le_of_lt hp)]
    rfl) (by
    rw [spL160_eq]
    obtain ⟨e1, e2⟩ := sp_of (isNameA (P c p).name)
    have e2' : spc173 (P c p).name = true := e2
    have e1' : sp173 (P c p).name = isNm (P c p).name := e1
    simp only [bod160, Int.toNat_natCast, htl, lt_f (Nat.le_refl _), cond_false, inR_of hp, cond_true, id]
    show cond (spc173 (P c p).name) (some (sp173 (P c p).name)) none = _
    rw [e1', e2']; rfl)
  unfold spO160 ent160
  rw [inS_of (Nat.le_of_lt hp), cond_true]
  refine h.trans ?_
  unfold namedB
  cases (List.range p).any (sameName c p) <;> simp
/-! ### Regions -/
noncomputable def meetB (a m b o : Int) : Bool := sp105 a m b o
noncomputable def rightB (c : Config) (g : Region) : Bool := (decide (0 ≤ g.page) && decide (g.page ≤ 255)) && (decide (1 ≤ g.pages) && decide (g.pages ≤ IntKind.i64.wrap (256 - g.page))) && decide (0 ≤ g.frame) && decide (g.pages ≤ IntKind.i64.wrap (c.frames - g.frame)) && (decide (1 ≤ g.rights) && decide (g.rights ≤ 7))
noncomputable def pageQ (c : Config) (p k i : Nat) : Bool := meetB (Rg c p k).page (Rg c p k).pages (Rg c p i).page (Rg c p i).pages
noncomputable def frameQ (c : Config) (p k q i : Nat) : Bool := (decide (q < p) || decide (i < k)) && meetB (Rg c p k).frame (Rg c p k).pages (Rg c q i).frame (Rg c q i).pages
noncomputable def nreg (c : Config) (p : Nat) : Nat := (P c p).regions.length
noncomputable def regB (c : Config) (p k : Nat) : Bool := rightB c (Rg c p k) && !((List.range k).any (pageQ c p k)) && !((List.range (p + 1)).any fun q => (List.range (nreg c q)).any (frameQ c p k q))
theorem right_r (c : Config) (g : Region) : sp148 c g = rightB c g := by
  refine (sp_of (r := rightB c g) ?_).1
  unfold spO148 ent148 rightB
  rw [in_r, in_r, in_r]
  cases decide (0 ≤ g.page) <;> cases decide (g.page ≤ 255) <;> cases decide (1 ≤ g.pages) <;> cases decide (g.pages ≤ IntKind.i64.wrap (256 - g.page)) <;> cases decide (0 ≤ g.frame) <;> cases decide (g.pages ≤ IntKind.i64.wrap (c.frames - g.frame)) <;> simp
theorem region_r {c : Config} (hc : FitC c) {p k : Nat} (hp : p < c.partitions.length) (hk : k < nreg c p) : AnsE (spO101 c p k) (regB c p k) := by
  have hlen := hc.parts
  unfold B47 at hlen
  have hrl : ∀ q, q < c.partitions.length → nreg c q * 32 ≤ B47 := fun q hq => hc.regions q hq
  have hB : B47 = 140737488351232 := rfl
  have hk' : k < (atPartition c.partitions p).regions.length := hk
  -- the frames of one partition
  have h8 : ∀ q, q ≤ p → spL101 c p k (.l8 (q : Int) 0) = cond ((List.range (nreg c q)).any (frameQ c p k q)) (some 411) (spL101 c p k (.l4 ((q + 1 : Nat) : Int))) := fun q hq => by
    have hqc : q < c.partitions.length := by omega
    have hql := hrl q hqc
    by_cases hqp : q = p
    · subst hqp
      have h := any_loop (n := k) (f := fun i => spL101 c q k (.l8 (q : Int) (i : Int))) (q := fun i => meetB (Rg c q k).frame (Rg c q k).pages (Rg c q i).frame (Rg c q i).pages) (r := some 411) (e := spL101 c q k (.l4 ((q + 1 : Nat) : Int))) (fun i hi => by
        rw [spL101_eq]
        have hi' : i < (atPartition c.partitions q).regions.length := by omega
        have e1 : decide ((i : Int) ≥ (k : Int)) = false := decide_eq_false (by omega)
        simp only [bod101, Int.toNat_natCast, inR_of hqc, cond_true, lt_t hi', inR_of hi', beq_self_eq_true, e1, cond_false, wrap_succ i (by omega), id]
        rfl) (by
        rw [spL101_eq]
        have e1 : decide ((k : Int) ≥ (k : Int)) = true := decide_eq_true (by omega)
        simp only [bod101, Int.toNat_natCast, inR_of hqc, cond_true, lt_t hk', beq_self_eq_true, e1, wrap_succ q (by omega), id])
      refine h.trans ?_
      congr 1
      rw [Bool.eq_iff_iff, any_t, any_t]
      constructor
      · rintro ⟨i, hi, hq⟩
        exact ⟨i, Nat.lt_trans hi hk, by simp only [frameQ, Bool.and_eq_true, Bool.or_eq_true, decide_eq_true_eq]; exact ⟨.inr hi, hq⟩⟩
      · rintro ⟨i, hi, hq⟩
        simp only [frameQ, Bool.and_eq_true, Bool.or_eq_true, decide_eq_true_eq] at hq
        exact ⟨i, by omega, hq.2⟩
    · have h := any_loop (n := nreg c q) (f := fun i => spL101 c p k (.l8 (q : Int) (i : Int))) (q := frameQ c p k q) (r := some 411) (e := spL101 c p k (.l4 ((q + 1 : Nat) : Int))) (fun i hi => by
        rw [spL101_eq]
        have hi' : i < (atPartition c.partitions q).regions.length := hi
        have e1 : ((q : Int) == (p : Int)) = false := by simp; omega
        simp only [bod101, Int.toNat_natCast, inR_of hqc, cond_true, lt_t hi', inR_of hi', e1, cond_false, wrap_succ i (by omega), id]
        unfold frameQ
        rw [show decide (q < p) = true from decide_eq_true (by omega), Bool.true_or, Bool.true_and]
        rfl) (by
        rw [spL101_eq]
        have hi' : decide ((nreg c q : Int) < ((atPartition c.partitions q).regions.length : Int)) = false := lt_f (Nat.le_refl _)
        simp only [bod101, Int.toNat_natCast, inR_of hqc, cond_true, hi', cond_false, wrap_succ q (by omega), id])
      exact h
  have h4 := any_loop (n := p + 1) (f := fun q => spL101 c p k (.l4 (q : Int))) (q := fun q => (List.range (nreg c q)).any (frameQ c p k q)) (r := some 411) (e := some 0) (fun q hq => by
    rw [spL101_eq]
    have e1 : decide ((q : Int) ≤ (p : Int)) = true := decide_eq_true (by omega)
    simp only [bod101, e1, cond_true, id]
    exact h8 q (by omega)) (by
    rw [spL101_eq]
    have e1 : decide (((p + 1 : Nat) : Int) ≤ (p : Int)) = false := decide_eq_false (by omega)
    simp only [bod101, e1, cond_false, id])
  have hkl := hrl p hp
  have h0 := any_loop (n := k) (f := fun i => spL101 c p k (.l0 (i : Int))) (q := pageQ c p k) (r := some 410) (e := spL101 c p k (.l4 0)) (fun i hi => by
    rw [spL101_eq]
    have hi' : i < (atPartition c.partitions p).regions.length := by omega
    simp only [bod101, Int.toNat_natCast, lt_t hi, inR_of hp, cond_true, inR_of hi', wrap_succ i (by omega), id]
    rfl) (by
    rw [spL101_eq]
    simp only [bod101, lt_f (Nat.le_refl _), cond_false, id])
  unfold spO101 ent101
  simp only [Int.toNat_natCast, inR_of hp, inR_of hk', cond_true, id]
  show AnsE (cond (!(sp148 c (Rg c p k))) (some 409) (spL101 c p k (.l0 0))) _
  rw [right_r]
  unfold regB
  cases rightB c (Rg c p k) with
  | false => exact ⟨409, rfl, rfl⟩
  | true =>
    simp only [Bool.not_true, cond_false, Bool.true_and]
    refine (show AnsE _ _ from ?_)
    rw [show spL101 c p k (.l0 0) = _ from h0, show spL101 c p k (.l4 0) = _ from h4]
    cases (List.range k).any (pageQ c p k) with
    | true => exact ⟨410, rfl, rfl⟩
    | false =>
      simp only [cond_false, Bool.not_false, Bool.true_and]
      cases (List.range (p + 1)).any fun q => (List.range (nreg c q)).any (frameQ c p k q) with
      | true => exact ⟨411, rfl, rfl⟩
      | false => exact ⟨0, rfl, rfl⟩
/-! #### a partition, of both sides. -/
theorem lt0_not (n : Int) : decide (n < 0) = !(decide (0 ≤ n)) := by
  by_cases h : 0 ≤ n
  · rw [decide_eq_false (by omega), decide_eq_true h]; rfl
  · rw [decide_eq_true (by omega), decide_eq_false h]; rfl
theorem gt_not (a b : Int) : decide (a > b) = !(decide (a ≤ b)) := by
  by_cases h : a ≤ b
  · rw [decide_eq_false (by omega), decide_eq_true h]; rfl
  · rw [decide_eq_true (by omega), decide_eq_false h]; rfl
theorem reg_at {c : Config} {p k i : Nat} (hi : i < k) : atRegion ((((P c p).regions).take k).drop 0) i = Rg c p i := by
  simp [atRegion, Rg, List.getD, List.getElem?_take, hi]
theorem reg_len {c : Config} {p k : Nat} (hk : k ≤ nreg c p) : ((((P c p).regions).take k).drop 0).length = k := by
  unfold nreg at hk
  simp; omega
theorem region_a {c : Config} (hc : FitC c) {p k : Nat} (hp : p < c.partitions.length) (hk : k < nreg c p) : AnsF (spO162 c p k) (regB c p k) := by
  have hlen := hc.parts
  unfold B47 at hlen
  have hrl : ∀ q, q < c.partitions.length → nreg c q * 32 ≤ B47 := fun q hq => hc.regions q hq
  have hB : B47 = 140737488351232 := rfl
  have hk' : k < (atPartition c.partitions p).regions.length := hk
  have hw : IntKind.i64.wrap ((p : Int) + 1) = ((p + 1 : Nat) : Int) := wrap_succ p (by omega)
  have hpl : ((c.partitions.take (p + 1)).drop 0).length = p + 1 := by simp; omega
  let e3 : AdmitFound := ⟨411, ⟨p, k⟩⟩
  have h8 : ∀ q, q ≤ p → spL162 c p k (.l8 (q : Int) (q : Int) (P c q).regions ((P c q).regions.length) 0) = cond ((List.range (nreg c q)).any (frameQ c p k q)) (some e3) (spL162 c p k (.l4 ((q + 1 : Nat) : Int))) := fun q hq => by
    have hql := hrl q (by omega)
    exact any_loop (n := nreg c q) (f := fun i => spL162 c p k (.l8 (q : Int) (q : Int) (P c q).regions ((P c q).regions.length) (i : Int))) (q := frameQ c p k q) (r := some e3) (e := spL162 c p k (.l4 ((q + 1 : Nat) : Int))) (fun i hi => by
      rw [spL162_eq]
      have hi' : i < (P c q).regions.length := hi
      have e1 : decide ((q : Int) < (p : Int)) = decide (q < p) := by rw [Bool.eq_iff_iff, decide_eq_true_eq, decide_eq_true_eq]; omega
      have e2 : decide ((i : Int) < (k : Int)) = decide (i < k) := by rw [Bool.eq_iff_iff, decide_eq_true_eq, decide_eq_true_eq]; omega
      simp only [bod162, Int.toNat_natCast, cond_true, lt_t hi', inR_of hi', e1, e2, wrap_succ i (by omega), id]
      unfold frameQ
      show cond (decide (q < p)) (cond (meetB (Rg c p k).frame (Rg c p k).pages (Rg c q i).frame (Rg c q i).pages) (some e3) _) (cond (decide (i < k)) (cond (meetB (Rg c p k).frame (Rg c p k).pages (Rg c q i).frame (Rg c q i).pages) (some e3) _) _) = _
      cases decide (q < p) <;> cases decide (i < k) <;> cases meetB (Rg c p k).frame (Rg c p k).pages (Rg c q i).frame (Rg c q i).pages <;> rfl) (by
      rw [spL162_eq]
      have hi' : decide ((nreg c q : Int) < ((P c q).regions.length : Int)) = false := lt_f (Nat.le_refl _)
      simp only [bod162, hi', cond_false, wrap_succ q (by omega), id])
  have h4 := any_loop (n := p + 1) (f := fun q => spL162 c p k (.l4 (q : Int))) (q := fun q => (List.range (nreg c q)).any (frameQ c p k q)) (r := some e3) (e := some fine) (fun q hq => by
    rw [spL162_eq]
    simp only [bod162, hw, Int.toNat_natCast, hpl, lt_t hq, inR_of hq, cond_true, take_at hq (show p + 1 ≤ c.partitions.length by omega), id]
    exact h8 q (by omega)) (by
    rw [spL162_eq]
    simp only [bod162, hw, Int.toNat_natCast, hpl, lt_f (Nat.le_refl _), cond_false, id])
  have hkl := hrl p hp
  let e2 : AdmitFound := ⟨410, ⟨p, k⟩⟩
  have hrlen : (((atPartition c.partitions p).regions.take k).drop 0).length = k := reg_len (c := c) (p := p) (Nat.le_of_lt hk)
  have h0 := any_loop (n := k) (f := fun i => spL162 c p k (.l0 (i : Int))) (q := pageQ c p k) (r := some e2) (e := spL162 c p k (.l4 0)) (fun i hi => by
    rw [spL162_eq]
    have ha : atRegion (((atPartition c.partitions p).regions.take k).drop 0) i = Rg c p i := reg_at hi
    simp only [bod162, Int.toNat_natCast, hrlen, lt_t hi, inR_of hi, cond_true, ha, wrap_succ i (by omega), id]
    rfl) (by
    rw [spL162_eq]
    simp only [bod162, Int.toNat_natCast, hrlen, lt_f (Nat.le_refl _), cond_false, hw, inS_of (show p + 1 ≤ c.partitions.length by omega), cond_true, id])
  unfold spO162 ent162
  simp only [Int.toNat_natCast, inR_of hp, inR_of hk', cond_true, in_a, lt0_not, gt_not, inS_of (Nat.le_of_lt hk'), id]
  unfold regB rightB
  show AnsF (cond (!(decide (0 ≤ (Rg c p k).page) && decide ((Rg c p k).page ≤ 255))) _ (cond (!(decide (1 ≤ (Rg c p k).pages) && decide ((Rg c p k).pages ≤ IntKind.i64.wrap (256 - (Rg c p k).page)))) _ (cond (!(decide (0 ≤ (Rg c p k).frame))) _ (cond (!(decide ((Rg c p k).pages ≤ IntKind.i64.wrap (c.frames - (Rg c p k).frame)))) _ (cond (!(decide (1 ≤ (Rg c p k).rights) && decide ((Rg c p k).rights ≤ 7))) _ (spL162 c p k (.l0 0))))))) _
  cases decide (0 ≤ (Rg c p k).page) && decide ((Rg c p k).page ≤ 255) with
  | false => exact .err' rfl (by decide)
  | true =>
  cases decide (1 ≤ (Rg c p k).pages) && decide ((Rg c p k).pages ≤ IntKind.i64.wrap (256 - (Rg c p k).page)) with
  | false => exact .err' rfl (by decide)
  | true =>
  cases decide (0 ≤ (Rg c p k).frame) with
  | false => exact .err' rfl (by decide)
  | true =>
  cases decide ((Rg c p k).pages ≤ IntKind.i64.wrap (c.frames - (Rg c p k).frame)) with
  | false => exact .err' rfl (by decide)
  | true =>
  cases decide (1 ≤ (Rg c p k).rights) && decide ((Rg c p k).rights ≤ 7) with
  | false => exact .err' rfl (by decide)
  | true =>
    simp only [Bool.not_true, cond_false, Bool.true_and, Bool.and_true]
    rw [show spL162 c p k (.l0 0) = _ from h0, show spL162 c p k (.l4 0) = _ from h4]
    cases (List.range k).any (pageQ c p k) with
    | true => exact .err' rfl (by decide)
    | false =>
      simp only [cond_false, Bool.not_false, Bool.true_and]
      cases (List.range (p + 1)).any fun q => (List.range (nreg c q)).any (frameQ c p k q) with
      | true => exact .err' rfl (by decide)
      | false => exact .fine rfl
/-! ### Entries -/
noncomputable def entryQ (x : Partition) (i : Nat) : Bool := (decide ((atRegion x.regions i).page ≤ bop .quo .i64 x.entry 16) && decide (bop .quo .i64 x.entry 16 ≤ IntKind.i64.wrap (IntKind.i64.wrap ((atRegion x.regions i).page + (atRegion x.regions i).pages) - 1))) && !((bop .and .i64 (atRegion x.regions i).rights 4) == 0)
noncomputable def entryB (x : Partition) : Bool := (decide (0 ≤ x.entry) && decide (x.entry ≤ 4095)) && (List.range x.regions.length).any (entryQ x)
theorem cond3 {R : Type} (a b : Bool) (x y : R) : cond a (cond b x y) y = cond (a && b) x y := by cases a <;> cases b <;> rfl
theorem entry_r {x : Partition} (hx : x.regions.length * 32 ≤ B47) : spO102 x = some (entryB x) := by
  unfold B47 at hx
  have h := any_loop (n := x.regions.length) (f := fun i => spL102 x (.l0 (i : Int))) (q := entryQ x) (r := some true) (e := some false) (fun i hi => by
    rw [spL102_eq]
    simp only [bod102, Int.toNat_natCast, lt_t hi, inR_of hi, cond_true, in_r, wrap_succ i (by omega), id, cond3]
    rfl) (by
    rw [spL102_eq]
    simp only [bod102, lt_f (Nat.le_refl _), cond_false, id])
  unfold spO102 ent102 entryB
  rw [in_r]
  cases decide (0 ≤ x.entry) && decide (x.entry ≤ 4095) with
  | false => rfl
  | true =>
    refine Eq.trans (show _ = spL102 x (.l0 0) from rfl) (Eq.trans h ?_)
    cases (List.range x.regions.length).any (entryQ x) <;> rfl
theorem runs_a {x : Partition} (hx : x.regions.length * 32 ≤ B47) : spO163 x = some ((List.range x.regions.length).any (entryQ x)) := by
  unfold B47 at hx
  have h := any_loop (n := x.regions.length) (f := fun i => spL163 x (.l0 (i : Int))) (q := entryQ x) (r := some true) (e := some false) (fun i hi => by
    rw [spL163_eq]
    simp only [bod163, Int.toNat_natCast, lt_t hi, inR_of hi, cond_true, in_a, wrap_succ i (by omega), id, cond3]
    rfl) (by
    rw [spL163_eq]
    simp only [bod163, lt_f (Nat.le_refl _), cond_false, id])
  refine Eq.trans (show _ = spL163 x (.l0 0) from rfl) (Eq.trans h ?_)
  cases (List.range x.regions.length).any (entryQ x) <;> rfl
/-! ### Partitions -/
noncomputable def nport (c : Config) (p : Nat) : Nat := (P c p).ports.length
noncomputable def Pt (c : Config) (p k : Nat) : Port := atPort (P c p).ports k
noncomputable def portQ (c : Config) (p k : Nat) : Bool := !(decide (0 ≤ (Pt c p k).channel) && decide ((Pt c p k).channel ≤ IntKind.i64.wrap ((c.channels.length : Int) - 1)))
noncomputable def headB (c : Config) (p : Nat) : Bool := namedB c p && (((decide (0 ≤ (P c p).action) && decide ((P c p).action ≤ 2)) && (decide (0 ≤ (P c p).restarts) && decide ((P c p).restarts ≤ 15))) && (((decide (0 ≤ (P c p).inputs) && decide ((P c p).inputs ≤ 16)) && (decide (0 ≤ (P c p).outputs) && decide ((P c p).outputs ≤ 16))) && (decide (1 ≤ nreg c p) && decide (nreg c p ≤ 8))))
noncomputable def partB (c : Config) (p : Nat) : Bool := headB c p && !((List.range (nreg c p)).any fun k => !(regB c p k)) && entryB (P c p) && decide (nport c p ≤ 8) && !((List.range (nport c p)).any (portQ c p))
theorem ansE_sp {o : Option Int} {b : Bool} (h : AnsE o b) : o.isSome = true ∧ (o.getD default == 0) = b := by
  obtain ⟨e, rfl, h⟩ := h
  exact ⟨rfl, h⟩
theorem ansF_sp {o : Option AdmitFound} {b : Bool} (h : AnsF o b) : o.isSome = true ∧ fineB (o.getD default) = b ∧ (b = true → o.getD default = fine) ∧ (b = false → (o.getD default).e ≠ 0) := by
  obtain ⟨r, rfl, h1, h2⟩ := h
  refine ⟨rfl, ?_, h1, h2⟩
  cases b with
  | true => rw [show (some r).getD default = r from rfl, h1 rfl]; exact fineB_fine
  | false => exact fineB_e (h2 rfl)
def AnsW (o : Option (Int × Where)) (b : Bool) : Prop := ∃ r, o = some r ∧ (r.1 == 0) = b
theorem partition_r {c : Config} (hc : FitC c) {p : Nat} (hp : p < c.partitions.length) : AnsW (spO58 c p) (partB c p) := by
  have hrl : nreg c p * 32 ≤ B47 := hc.regions p hp
  have hql : nport c p * 16 ≤ B47 := hc.ports p hp
  have hB : B47 = 140737488351232 := rfl
  obtain ⟨n1, n2⟩ := sp_of (named_r hc hp)
  have n1' : sp100 c p = namedB c p := n1
  have n2' : spc100 c p = true := n2
  -- ports
  have l6 : ∀ m i, i + m = nport c p → AnsW (spL58 c p (.l6 (i : Int))) (!((List.range' i m).any (portQ c p))) := by
    intro m
    induction m with
    | zero =>
      intro i h
      rw [spL58_eq]
      have hi' : decide ((i : Int) < ((atPartition c.partitions p).ports.length : Int)) = false := lt_f (by unfold nport P at h; omega)
      simp only [bod58, Int.toNat_natCast, hi', cond_false, id]
      exact ⟨_, rfl, rfl⟩
    | succ m ih =>
      intro i h
      rw [spL58_eq]
      have hi : i < (atPartition c.partitions p).ports.length := by unfold nport P at h; omega
      simp only [bod58, Int.toNat_natCast, lt_t hi, inR_of hi, cond_true, in_r, wrap_succ i (by omega), id]
      rw [List.range'_succ, List.any_cons]
      show AnsW (cond (portQ c p i) _ _) _
      cases portQ c p i with
      | true => exact ⟨_, rfl, rfl⟩
      | false => simpa using ih (i + 1) (by omega)
  have l6' := l6 (nport c p) 0 (by omega)
  rw [← List.range_eq_range'] at l6'
  obtain ⟨x1, x2⟩ := sp_of (entry_r (x := P c p) hrl)
  have x1' : sp102 (atPartition c.partitions p) = entryB (P c p) := x1
  have x2' : spc102 (atPartition c.partitions p) = true := x2
  have l2 : ∀ m i, i + m = nreg c p → AnsW (spL58 c p (.l2 (i : Int))) (!((List.range' i m).any fun k => !(regB c p k)) && entryB (P c p) && decide (nport c p ≤ 8) && !((List.range (nport c p)).any (portQ c p))) := by
    intro m
    induction m with
    | zero =>
      intro i h
      rw [spL58_eq]
      have hi' : decide ((i : Int) < ((atPartition c.partitions p).regions.length : Int)) = false := lt_f (by unfold nreg P at h; omega)
      simp only [bod58, Int.toNat_natCast, hi', cond_false, x1', x2', cond_true, gt_not, id]
      cases entryB (P c p) with
      | false => exact ⟨_, rfl, by simp⟩
      | true =>
        have e1 : decide (((atPartition c.partitions p).ports.length : Int) ≤ 8) = decide (nport c p ≤ 8) := by rw [Bool.eq_iff_iff, decide_eq_true_eq, decide_eq_true_eq]; unfold nport P; omega
        rw [e1]
        cases decide (nport c p ≤ 8) with
        | false => exact ⟨_, rfl, by simp⟩
        | true => simpa using l6'
    | succ m ih =>
      intro i h
      have hi : i < nreg c p := by omega
      rw [spL58_eq]
      have hi' : i < (atPartition c.partitions p).regions.length := hi
      obtain ⟨r1, r2⟩ := ansE_sp (region_r hc hp hi)
      have r1' : spc101 c p i = true := r1
      have r2' : ((sp101 c p i : Int) == 0) = regB c p i := r2
      simp only [bod58, Int.toNat_natCast, lt_t hi', cond_true, r1', r2', wrap_succ i (by omega), id]
      rw [List.range'_succ, List.any_cons]
      cases hq : regB c p i with
      | false =>
        refine ⟨_, rfl, ?_⟩
        show ((sp101 c p i : Int) == 0) = _
        rw [r2', hq]; simp
      | true => simpa using ih (i + 1) (by omega)
  have l2' := l2 (nreg c p) 0 (by omega)
  rw [← List.range_eq_range'] at l2'
  unfold spO58 ent58
  simp only [Int.toNat_natCast, inR_of hp, cond_true, n1', n2', in_r, id]
  have e8 : (decide ((1 : Int) ≤ ((atPartition c.partitions p).regions.length : Int)) && decide (((atPartition c.partitions p).regions.length : Int) ≤ 8)) = (decide (1 ≤ nreg c p) && decide (nreg c p ≤ 8)) := by
    rw [Bool.eq_iff_iff]; simp only [Bool.and_eq_true, decide_eq_true_eq]; unfold nreg P; omega
  rw [e8]
  unfold partB headB
  show AnsW (cond (!(namedB c p)) _ (cond (!(decide (0 ≤ (P c p).action) && decide ((P c p).action ≤ 2))) _ (cond (!(decide (0 ≤ (P c p).restarts) && decide ((P c p).restarts ≤ 15))) _ (cond (!(decide (0 ≤ (P c p).inputs) && decide ((P c p).inputs ≤ 16))) _ (cond (!(decide (0 ≤ (P c p).outputs) && decide ((P c p).outputs ≤ 16))) _ (cond (!(decide (1 ≤ nreg c p) && decide (nreg c p ≤ 8))) _ (spL58 c p (.l2 0)))))))) _
  cases namedB c p with
  | false => exact ⟨_, rfl, rfl⟩
  | true =>
  cases decide (0 ≤ (P c p).action) && decide ((P c p).action ≤ 2) with
  | false => exact ⟨_, rfl, rfl⟩
  | true =>
  cases decide (0 ≤ (P c p).restarts) && decide ((P c p).restarts ≤ 15) with
  | false => exact ⟨_, rfl, rfl⟩
  | true =>
  cases decide (0 ≤ (P c p).inputs) && decide ((P c p).inputs ≤ 16) with
  | false => exact ⟨_, rfl, rfl⟩
  | true =>
  cases decide (0 ≤ (P c p).outputs) && decide ((P c p).outputs ≤ 16) with
  | false => exact ⟨_, rfl, rfl⟩
  | true =>
  cases decide (1 ≤ nreg c p) && decide (nreg c p ≤ 8) with
  | false => exact ⟨_, rfl, rfl⟩
  | true => simpa using l2'
/-! #### a partition, as the program asks it; channels and cores. -/
theorem cond_same {α : Type} (b : Bool) (x : α) : cond b x x = x := by cases b <;> rfl
theorem fineB_def (x : AdmitFound) : (((x.e : Int) == fine.e) && ((((x.where_.first : Int) == fine.where_.first) && (((x.where_.second : Int) == fine.where_.second) && true)) && true)) = fineB x := rfl
theorem eta_found (x : AdmitFound) : (⟨x.e, ⟨x.where_.first, x.where_.second⟩⟩ : AdmitFound) = x := rfl
noncomputable def X0 (c : Config) (p : Nat) (x : AdmitFound) (i : Nat) : Option AdmitFound := spL138 c p (.l0 (i : Int) x.e x.where_.first x.where_.second)
noncomputable def X4 (c : Config) (p : Nat) (x : AdmitFound) (i : Nat) : Option AdmitFound := spL138 c p (.l4 (i : Int) x.e x.where_.first x.where_.second)
theorem X4_err {c : Config} {p i : Nat} {x : AdmitFound} (hx : x.e ≠ 0) : X4 c p x i = some x := by
  unfold X4
  rw [spL138_eq]
  simp only [bod138, Int.toNat_natCast, fineB_def, fineB_e hx, cond_false, cond_same, id, eta_found]
theorem X0_err {c : Config} {p i : Nat} {x : AdmitFound} (hx : x.e ≠ 0) : X0 c p x i = some x := by
  unfold X0
  rw [spL138_eq]
  simp only [bod138, Int.toNat_natCast, fineB_def, fineB_e hx, cond_false, Bool.not_false, cond_true, cond_same, id, eta_found]
theorem X4_fine {c : Config} (hc : FitC c) {p : Nat} (hp : p < c.partitions.length) : ∀ m i, i + m = nport c p → AnsF (X4 c p fine i) (!((List.range' i m).any (portQ c p))) := by
  have hql : nport c p * 16 ≤ B47 := hc.ports p hp
  have hB : B47 = 140737488351232 := rfl
  intro m
  induction m with
  | zero =>
    intro i h
    unfold X4
    rw [spL138_eq]
    have hi' : decide ((i : Int) < ((atPartition c.partitions p).ports.length : Int)) = false := lt_f (by unfold nport P at h; omega)
    simp only [bod138, Int.toNat_natCast, hi', cond_false, id, eta_found]
    exact .fine rfl
  | succ m ih =>
    intro i h
    have hi : i < (atPartition c.partitions p).ports.length := by unfold nport P at h; omega
    have key : X4 c p fine i = X4 c p (sp131 (!(portQ c p i)) 414 (sp164 p i)) (i + 1) := by
      unfold X4
      rw [spL138_eq]
      simp only [bod138, Int.toNat_natCast, lt_t hi, fineB_def, fineB_fine, cond_true, inR_of hi, in_a, wrap_succ i (by omega), id]
      unfold portQ
      rw [Bool.not_not]
      rfl
    rw [key, List.range'_succ, List.any_cons]
    cases portQ c p i with
    | true =>
      rw [Bool.not_true, unless_f, X4_err (show (414 : Int) ≠ 0 by decide)]
      exact .err' rfl (by decide)
    | false => simpa [unless_t] using ih (i + 1) (by omega)
noncomputable def tailB (c : Config) (p : Nat) : Bool := entryB (P c p) && decide (nport c p ≤ 8) && !((List.range (nport c p)).any (portQ c p))
theorem X0_end {c : Config} (hc : FitC c) {p : Nat} (hp : p < c.partitions.length) : AnsF (X0 c p fine (nreg c p)) (tailB c p) := by
  have hrl : nreg c p * 32 ≤ B47 := hc.regions p hp
  have h4 := X4_fine hc hp (nport c p) 0 (by omega)
  rw [← List.range_eq_range'] at h4
  obtain ⟨x1, x2⟩ := sp_of (runs_a (x := P c p) hrl)
  have x1' : sp163 (atPartition c.partitions p) = (List.range (P c p).regions.length).any (entryQ (P c p)) := x1
  have x2' : spc163 (atPartition c.partitions p) = true := x2
  have e1 : decide (((atPartition c.partitions p).ports.length : Int) ≤ 8) = decide (nport c p ≤ 8) := by rw [Bool.eq_iff_iff, decide_eq_true_eq, decide_eq_true_eq]; unfold nport P; omega
  unfold X0
  rw [spL138_eq]
  have hi' : decide ((nreg c p : Int) < ((atPartition c.partitions p).regions.length : Int)) = false := lt_f (Nat.le_refl _)
  simp only [bod138, Int.toNat_natCast, hi', cond_false, fineB_def, fineB_fine, Bool.not_true, x1', x2', cond_true, in_a, e1, id]
  have go : ∀ b : Bool, AnsF (cond (spc159 [sp131 b 412 (sp161 p), sp131 (decide (nport c p ≤ 8)) 413 (sp161 p)]) (X4 c p (sp159 [sp131 b 412 (sp161 p), sp131 (decide (nport c p ≤ 8)) 413 (sp161 p)]) 0) none) (b && decide (nport c p ≤ 8) && !((List.range (nport c p)).any (portQ c p))) := fun b => by
    obtain ⟨k1, k2, k3, k4⟩ := ansF_sp (first2 b (decide (nport c p ≤ 8)) 412 413 (sp161 p) (sp161 p) (by decide) (by decide))
    have k1' : spc159 [sp131 b 412 (sp161 p), sp131 (decide (nport c p ≤ 8)) 413 (sp161 p)] = true := k1
    rw [k1', cond_true]
    cases hb : b && decide (nport c p ≤ 8) with
    | false =>
      have := k4 hb
      exact Eq.mpr (congrArg (fun o => AnsF o _) (X4_err this)) (.err rfl this)
    | true =>
      have : sp159 [sp131 b 412 (sp161 p), sp131 (decide (nport c p ≤ 8)) 413 (sp161 p)] = fine := k3 hb
      rw [this]
      simpa using h4
  unfold tailB entryB
  show AnsF (cond (decide (0 ≤ (P c p).entry) && decide ((P c p).entry ≤ 4095)) _ _) _
  cases decide (0 ≤ (P c p).entry) && decide ((P c p).entry ≤ 4095) with
  | true => exact go _
  | false => exact go false
theorem X0_fine {c : Config} (hc : FitC c) {p : Nat} (hp : p < c.partitions.length) : ∀ m i, i + m = nreg c p → AnsF (X0 c p fine i) (!((List.range' i m).any fun k => !(regB c p k)) && tailB c p) := by
  have hrl : nreg c p * 32 ≤ B47 := hc.regions p hp
  have hB : B47 = 140737488351232 := rfl
  intro m
  induction m with
  | zero =>
    intro i h
    obtain rfl : i = nreg c p := by omega
    simpa using X0_end hc hp
  | succ m ih =>
    intro i h
    have hi0 : i < nreg c p := by omega
    have hi : i < (atPartition c.partitions p).regions.length := hi0
    obtain ⟨k1, k2, k3, k4⟩ := ansF_sp (region_a hc hp hi0)
    have k1' : spc162 c p i = true := k1
    have key : X0 c p fine i = X0 c p (sp162 c p i) (i + 1) := by
      unfold X0
      rw [spL138_eq]
      simp only [bod138, Int.toNat_natCast, lt_t hi, fineB_def, fineB_fine, cond_true, k1', wrap_succ i (by omega), id]
    rw [key, List.range'_succ, List.any_cons]
    cases hq : regB c p i with
    | false =>
      have := k4 hq
      exact Eq.mpr (congrArg (fun o => AnsF o _) (X0_err this)) (.err (by simp) this)
    | true =>
      have : sp162 c p i = fine := k3 hq
      rw [this]
      simpa using ih (i + 1) (by omega)
theorem partition_a {c : Config} (hc : FitC c) {p : Nat} (hp : p < c.partitions.length) : AnsF (spO138 c p) (partB c p) := by
  have h0 := X0_fine hc hp (nreg c p) 0 (by omega)
  rw [← List.range_eq_range'] at h0
  obtain ⟨n1, n2⟩ := sp_of (named_a hc hp)
  have n1' : sp160 c p = namedB c p := n1
  have n2' : spc160 c p = true := n2
  have e8 : (decide ((1 : Int) ≤ ((atPartition c.partitions p).regions.length : Int)) && decide (((atPartition c.partitions p).regions.length : Int) ≤ 8)) = (decide (1 ≤ nreg c p) && decide (nreg c p ≤ 8)) := by
    rw [Bool.eq_iff_iff]; simp only [Bool.and_eq_true, decide_eq_true_eq]; unfold nreg P; omega
  have go : ∀ b1 b2 b3 b4 : Bool, AnsF (cond (spc159 [sp131 b1 405 (sp161 p), sp131 b2 406 (sp161 p), sp131 b3 407 (sp161 p), sp131 b4 408 (sp161 p)]) (X0 c p (sp159 [sp131 b1 405 (sp161 p), sp131 b2 406 (sp161 p), sp131 b3 407 (sp161 p), sp131 b4 408 (sp161 p)]) 0) none) ((b1 && (b2 && (b3 && b4))) && (!((List.range (nreg c p)).any fun k => !(regB c p k)) && tailB c p)) := fun b1 b2 b3 b4 => by
    obtain ⟨k1, k2, k3, k4⟩ := ansF_sp (first4 b1 b2 b3 b4 405 406 407 408 (sp161 p) (sp161 p) (sp161 p) (sp161 p) (by decide) (by decide) (by decide) (by decide))
    generalize hL : [sp131 b1 405 (sp161 p), sp131 b2 406 (sp161 p), sp131 b3 407 (sp161 p), sp131 b4 408 (sp161 p)] = L at k1 k2 k3 k4 ⊢
    have k1' : spc159 L = true := k1
    rw [k1', cond_true]
    cases hb : b1 && (b2 && (b3 && b4)) with
    | false =>
      have := k4 hb
      rw [show X0 c p (sp159 L) 0 = some (sp159 L) from X0_err this]
      exact .err rfl this
    | true =>
      have : sp159 L = fine := k3 hb
      rw [this]
      simpa using h0
  unfold spO138 ent138
  simp only [Int.toNat_natCast, inR_of hp, cond_true, n1', n2', in_a, e8, id]
  have hfin : partB c p = (headB c p && (!((List.range (nreg c p)).any fun k => !(regB c p k)) && tailB c p)) := by
    unfold partB tailB
    cases headB c p <;> cases (List.range (nreg c p)).any (fun k => !(regB c p k)) <;> cases entryB (P c p) <;> cases decide (nport c p ≤ 8) <;> rfl
  rw [hfin]
  unfold headB
  show AnsF (cond (decide (0 ≤ (P c p).action) && decide ((P c p).action ≤ 2)) (cond (decide (0 ≤ (P c p).inputs) && decide ((P c p).inputs ≤ 16)) _ _) (cond (decide (0 ≤ (P c p).inputs) && decide ((P c p).inputs ≤ 16)) _ _)) _
  cases decide (0 ≤ (P c p).action) && decide ((P c p).action ≤ 2) <;> cases decide (0 ≤ (P c p).inputs) && decide ((P c p).inputs ≤ 16)
  · exact go (namedB c p) false false _
  · exact go (namedB c p) false _ _
  · exact go (namedB c p) _ false _
  · exact go (namedB c p) _ _ _
end Go.Proofs.YtgfifnadfmaolaaGreatDoor
