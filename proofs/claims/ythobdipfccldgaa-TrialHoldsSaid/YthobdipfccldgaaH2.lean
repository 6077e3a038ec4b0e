/- The law TrialHolds: what its functions answer. -/
import Derived.Test.YthobdipfccldgaaH
namespace Go.Proofs.Ythobdipfccldgaa
open Go.RowKit
set_option linter.unusedVariables false
set_option linter.unusedSimpArgs false
def Has (x : AV) : Prop := ∃ F w y, D F w x y
theorem okay_has {P : Program} {GL : List AV} {f : FuncId} {args : List AV} {r : AV} (h : (∀ j, j < args.length → Has (args.getD j .undef)) → Okay P GL f args r) : Okay P GL f args r :=
  fun F w vs hF hg hl hv => h (fun j hj => ⟨F, w, _, hv j hj⟩) F w vs hF hg hl hv
theorem Has.len {t : Ty} {xs : List t.T} (h : Has (.sl t xs)) : xs.length ≤ 140737488355328 := by
  obtain ⟨F, w, y, h⟩ := h
  cases h
  · simp
  · assumption
theorem wrap_in (n : Int) (h0 : -9223372036854775808 ≤ n) (h1 : n < 9223372036854775808) : IntKind.i64.wrap n = n := by
  simp [IntKind.wrap, IntKind.bits, IntKind.signed]; omega
theorem eqS_iff {x y : Seen} : eqS x y = true ↔ x = y := by simp [eqS]
theorem eqS_comm (x y : Seen) : eqS x y = eqS y x := by rw [Bool.eq_iff_iff, eqS_iff, eqS_iff]; exact eq_comm
theorem list_nth {a b : List Seen} (hl : a.length = b.length) (h : ∀ j, j < a.length → eqS (atS a j) (atS b j) = true) : a = b := by
  apply List.ext_getElem hl
  intro j h1 h2
  have h3 := eqS_iff.1 (h j h1)
  have e1 : atS a j = a[j] := by simp [atS, List.getD, h1]
  have e2 : atS b j = b[j] := by simp [atS, List.getD, h2]
  exact e1.symm.trans (h3.trans e2)
theorem step_eq (P : Program) (G : Gam) (H : Nat → List Nat × Nat) (fn : Func) (n l : Nat) (st : St) : runL P G H fn (n + 1) l st = stepAt P G H (runL P G H fn n) l 0 (bodyOf fn) (fin P fn) st := rfl
theorem inR_of {i : Nat} {n : Nat} (h : i < n) : inR (i : Int) n = true := inR_iff.2 ⟨by omega, by omega⟩
/-! ### same -/
theorem loop10 {a b : List Seen} (hl : a.length = b.length) (hb : a.length ≤ 140737488355328) : ∀ (k i : Nat), i + k = a.length → (∀ j, j < i → eqS (atS a j) (atS b j) = true) → ∀ n,
    runL Pr G0 H10 Try.f10 (k + 1 + n) 0 (st10 a b i) = some (vb (sameS a b))
  | 0, i, hi, he, n => by
    rw [show 0 + 1 + n = n + 1 by omega, step_eq, head10]
    rw [decide_eq_false (by omega), cond_false]
    have : a = b := list_nth hl fun j hj => he j (by omega)
    simp [sameS, this]
  | k + 1, i, hi, he, n => by
    rw [show k + 1 + 1 + n = k + 1 + n + 1 by omega, step_eq, head10]
    rw [decide_eq_true (by omega), cond_true, inR_of (by omega), cond_true, inR_of (by omega), cond_true, neS_not, Int.toNat_natCast]
    cases hq : eqS (atS a i) (atS b i) with
    | true =>
      simp only [Bool.not_true, cond_false]
      rw [wrap_in _ (by omega) (by omega), show (i : Int) + 1 = ((i + 1 : Nat) : Int) by omega]
      refine loop10 hl hb k (i + 1) (by omega) (fun j hj => ?_) n
      by_cases hji : j = i
      · subst hji; exact hq
      · exact he j (by omega)
    | false =>
      simp only [Bool.not_false, cond_true]
      have : a ≠ b := fun e => by
        subst e
        rw [eqS_iff.2 rfl] at hq; cases hq
      simp [sameS, this]
theorem okay10 (a b : List Seen) : Okay Pr [] 10 [.sl .sSeen a, .sl .sSeen b] (vb (sameS a b)) := okay_has fun hh => by
  have hb : a.length ≤ 140737488355328 := (hh 0 (by simp)).len
  refine okay_of_run (H := H10) (G0ok _ _) Try.func10 rfl (by kernel_rfl) (a.length + 1) ?_
  rw [run10]
  by_cases hl : a.length = b.length
  · rw [show ((a.length : Int) == b.length) = true by simp [hl]]
    exact loop10 hl hb a.length 0 (by omega) (fun j hj => by omega) 0
  · rw [show ((a.length : Int) == b.length) = false by simp; omega]
    have : a ≠ b := fun e => hl (by rw [e])
    simp [sameS, this]
/-! ### the first difference -/
theorem fd_stay {a b : List Seen} {p : Nat} : ∀ {j : Nat} (d : Nat), fd a b j = some p → fd a b (j + d) = some p
  | j, 0, h => h
  | j, d + 1, h => by
    have := fd_stay d h
    show fd a b (j + d + 1) = some p
    simp only [fd, this]
theorem fd_comm (a b : List Seen) : ∀ n, fd a b n = fd b a n
  | 0 => rfl
  | n + 1 => by simp only [fd, fd_comm a b n, eqS_comm (atS a n)]
theorem loop11 {a b : List Seen} (hb : a.length ≤ 140737488355328) (hb' : b.length ≤ 140737488355328) : ∀ (k i : Nat), i + k = min a.length b.length → fd a b i = none → ∀ n,
    runL Pr G0 H11 Try.f11 (k + 1 + n) 0 (st11 a b i) = some (.tup [vi (hA a b), vb (hS a b)])
  | 0, i, hi, he, n => by
    rw [show 0 + 1 + n = n + 1 by omega, step_eq, head11, mn_eq]
    rw [decide_eq_false (by omega), cond_false]
    have h0 : i = min a.length b.length := by omega
    rw [h0] at he
    simp only [hA, hS, he, Option.getD_none, Option.isNone_none]
    rw [show min (a.length : Int) b.length = ((min a.length b.length : Nat) : Int) by omega]
  | k + 1, i, hi, he, n => by
    rw [show k + 1 + 1 + n = k + 1 + n + 1 by omega, step_eq, head11, mn_eq]
    rw [decide_eq_true (by omega), cond_true, inR_of (by omega), cond_true, inR_of (by omega), cond_true, neS_not, Int.toNat_natCast]
    cases hq : eqS (atS a i) (atS b i) with
    | true =>
      simp only [Bool.not_true, cond_false]
      rw [wrap_in _ (by omega) (by omega), show (i : Int) + 1 = ((i + 1 : Nat) : Int) by omega]
      exact loop11 hb hb' k (i + 1) (by omega) (by simp only [fd, he, hq]) n
    | false =>
      simp only [Bool.not_false, cond_true]
      have h1 : fd a b (i + 1) = some i := by simp only [fd, he, hq]
      have h2 := fd_stay (min a.length b.length - (i + 1)) h1
      rw [show i + 1 + (min a.length b.length - (i + 1)) = min a.length b.length by omega] at h2
      simp [hA, hS, h2]
theorem okay11 (a b : List Seen) : Okay Pr [] 11 [.sl .sSeen a, .sl .sSeen b] (.tup [vi (hA a b), vb (hS a b)]) := okay_has fun hh => by
  have hb : a.length ≤ 140737488355328 := (hh 0 (by simp)).len
  have hb' : b.length ≤ 140737488355328 := (hh 1 (by simp)).len
  refine okay_of_run (H := H11) (G0ok _ _) Try.func11 rfl (by kernel_rfl) (min a.length b.length + 1) ?_
  rw [run11]
  exact loop11 hb hb' (min a.length b.length) 0 (by omega) rfl 0
/-! ### the document's -/
def lastS (a b : List Seen) (c : Nat) (s : Bool) : Bool := match fd a b c with | some _ => false | none => s
def lastA (a b : List Seen) (c : Nat) (p : Int) : Int := match fd a b c with | some j => j | none => p
theorem loop7 {a b : List Seen} (hb : a.length ≤ 140737488355328) (hb' : b.length ≤ 140737488355328) : ∀ (c : Nat), c ≤ min a.length b.length → ∀ (s : Bool) (p : Int) (n : Nat),
    runL Pr G0 H7 Try.f7 (c + 1 + n) 0 (st7 a b s p ((c : Int) - 1)) = some (.agg [vb (lastS a b c s), vi (lastA a b c p), vi a.length, vi b.length])
  | 0, hc, s, p, n => by
    rw [show 0 + 1 + n = n + 1 by omega, step_eq, head7, decide_eq_false (by omega), cond_false]
    rfl
  | c + 1, hc, s, p, n => by
    rw [show c + 1 + 1 + n = c + 1 + n + 1 by omega, step_eq, show ((c + 1 : Nat) : Int) - 1 = (c : Int) by omega, head7, decide_eq_true (by omega), cond_true, inR_of (by omega), cond_true, inR_of (by omega), cond_true, neS_not, Int.toNat_natCast, wrap_in _ (by omega) (by omega)]
    cases hq : eqS (atS a c) (atS b c) with
    | true =>
      simp only [Bool.not_true, cond_false]
      rw [loop7 hb hb' c (by omega)]
      have : fd a b (c + 1) = fd a b c := by simp only [fd, hq]; cases fd a b c <;> rfl
      simp only [lastS, lastA, this]
    | false =>
      simp only [Bool.not_false, cond_true]
      rw [loop7 hb hb' c (by omega)]
      simp only [lastS, lastA, fd, hq]
      cases fd a b c <;> rfl
theorem okay7 (a b : List Seen) : Okay Pr [] 7 [.sl .sSeen a, .sl .sSeen b] (holdV a b) := okay_has fun hh => by
  have hb : a.length ≤ 140737488355328 := (hh 0 (by simp)).len
  have hb' : b.length ≤ 140737488355328 := (hh 1 (by simp)).len
  refine okay_of_run (H := H7) (G0ok _ _) Try.func7 rfl (by kernel_rfl) (min a.length b.length + 1) ?_
  rw [run7]
  have key : runL Pr G0 H7 Try.f7 (min a.length b.length + 1 + 0) 0 (st7 a b true ((min a.length b.length : Nat) : Int) (((min a.length b.length : Nat) : Int) - 1)) = some (holdV a b) := by
    rw [loop7 hb hb' _ (Nat.le_refl _)]
    simp only [holdV, hS, hA, lastS, lastA]
    cases fd a b (min a.length b.length) <;> rfl
  by_cases hlt : b.length < a.length
  · rw [decide_eq_true (by omega), cond_true, wrap_in _ (by omega) (by omega)]
    have e : min a.length b.length = b.length := by omega
    rw [e] at key
    rw [e]; exact key
  · rw [decide_eq_false (by omega), cond_false, wrap_in _ (by omega) (by omega)]
    have e : min a.length b.length = a.length := by omega
    rw [e] at key
    rw [e]; exact key
/-! ### the others -/
theorem okay8 (a : List Seen) (h : leB (a.length * 120) 140737488355328 = true) : Okay Pr [] 8 [.sl .sSeen a] (.fr 34 .sSeen a) := by
  refine okay_of_run (H := H7) (G0ok _ _) Try.func8 rfl (by kernel_rfl) 0 ?_
  rw [run8]
  simp only [List.length_nil, Nat.zero_add, List.nil_append, h, cond_true]
theorem pick1_some {f g : FuncId} {x r : Option (Bool × AV)} {q : Bool × AV} (h : pick1 f g x r = some q) : (f = g ∧ x = some q) ∨ r = some q := by
  unfold pick1 at h
  split at h
  · rename_i e; exact .inl ⟨Nat.eq_of_beq_eq_true e, h⟩
  · exact .inr h
theorem ansSS_some {g : List Seen → List Seen → AV} {xs : List AV} {q : Bool × AV} (h : ansSS g xs = some q) : ∃ a b, xs = [.sl .sSeen a, .sl .sSeen b] ∧ q = (true, g a b) := by
  unfold ansSS at h
  split at h
  · rename_i a b; simp at h; exact ⟨a, b, rfl, h.symm⟩
  · cases h
theorem ans8_some {xs : List AV} {q : Bool × AV} (h : ans8 xs = some q) : ∃ a, xs = [.sl .sSeen a] ∧ q = (leB (a.length * 120) 140737488355328, .fr 34 .sSeen a) := by
  unfold ans8 at h
  split at h
  · rename_i a; simp at h; exact ⟨a, rfl, h.symm⟩
  · cases h
theorem G1ok : GOk Pr [] G1 := by
  intro f args r h
  rcases pick1_some h with ⟨rfl, h⟩ | h
  · obtain ⟨a, b, rfl, rfl⟩ := ansSS_some h
    exact ⟨⟨_, Try.func11, by kernel_rfl, rfl⟩, fun _ => okay11 a b⟩
  · cases h
theorem okay9 (a b : List Seen) : Okay Pr [] 9 [.sl .sSeen a, .sl .sSeen b] (holdV a b) := okay_of_run (H := H7) G1ok Try.func9 rfl (by kernel_rfl) 0 (run9 _ a b)
theorem G2ok : GOk Pr [] G2 := by
  intro f args r h
  rcases pick1_some h with ⟨rfl, h⟩ | h
  · obtain ⟨a, b, rfl, rfl⟩ := ansSS_some h
    exact ⟨⟨_, Try.func7, by kernel_rfl, rfl⟩, fun _ => okay7 a b⟩
  rcases pick1_some h with ⟨rfl, h⟩ | h
  · obtain ⟨a, b, rfl, rfl⟩ := ansSS_some h
    exact ⟨⟨_, Try.func9, by kernel_rfl, rfl⟩, fun _ => okay9 a b⟩
  rcases pick1_some h with ⟨rfl, h⟩ | h
  · obtain ⟨a, b, rfl, rfl⟩ := ansSS_some h
    exact ⟨⟨_, Try.func10, by kernel_rfl, rfl⟩, fun _ => okay10 a b⟩
  rcases pick1_some h with ⟨rfl, h⟩ | h
  · obtain ⟨a, rfl, rfl⟩ := ans8_some h
    exact ⟨⟨_, Try.func8, by kernel_rfl, rfl⟩, fun hc => okay8 a hc⟩
  · cases h
/-- The law. -/
theorem okay6 (a b : List Seen) : Okay Pr [] 6 [.sl .sSeen a, .sl .sSeen b] (vb true) := by
  refine okay_of_run (H := H7) G2ok Try.func6 rfl (by kernel_rfl) 0 ?_
  rw [run6]
  by_cases h1 : (a.length : Int) > 2147483647
  · rw [decide_eq_true h1, cond_true]
  · rw [decide_eq_false h1, cond_false]
    by_cases h2 : (b.length : Int) > 2147483647
    · rw [decide_eq_true h2, cond_true]
    · rw [decide_eq_false h2, cond_false]
      have le : ∀ n : Nat, n ≤ 2147483647 → leB (n * 120) 140737488355328 = true := fun n hn => by simp only [leB, Nat.ble_eq]; omega
      rw [le _ (by omega), cond_true, le _ (by omega), cond_true]
      have hs : hS b a = hS a b := by simp only [hS, Nat.min_comm, fd_comm b a]
      have ha : hA b a = hA a b := by simp only [hA, Nat.min_comm, fd_comm b a]
      have he : ∀ a b, eqHold a b = true := fun a b => by simp [eqHold]
      have hsame : ∀ a, sameS a a = true := fun a => by simp [sameS]
      simp only [rest2, hs, ha, beq_self_eq_true, cond_true, restK, Bool.not_true, cond_false, he, hsame, rest3]
      by_cases h0 : a.length = 0
      · rw [show ((a.length : Int) == 0) = true by simp [h0], cond_true]
      · rw [show ((a.length : Int) == 0) = false by rw [beq_eq_false_iff_ne]; omega, cond_false, show inR 0 a.length = true from inR_iff.2 ⟨by omega, by omega⟩, cond_true, cond_true]
        simp only [rest5, he]
        rw [show (bump a).length = a.length by simp [bump], le _ (by omega), cond_true]
end Go.Proofs.Ythobdipfccldgaa
