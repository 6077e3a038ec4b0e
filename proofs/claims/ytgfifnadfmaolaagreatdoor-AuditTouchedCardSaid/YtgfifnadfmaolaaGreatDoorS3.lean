/- The soundness of the abstract evaluator, part 3: cells of elements; operations that do not write. -/
import Derived.Test.YtgfifnadfmaolaaGreatDoorS2
namespace Go.Proofs.YtgfifnadfmaolaaGreatDoor
open Go.RowKit
set_option linter.unusedVariables false
set_option linter.unusedSimpArgs false
section
variable {F : Nat → Prop} {w : World} {β : Gh}
def Fits (F : Nat → Prop) (w : World) (β : Gh) (cs ds : List AV) : Prop := ∀ j y, j < cs.length → V F w β (cs.getD j .undef) y → V F w β (ds.getD j .undef) y
theorem Fits.nil {ds : List AV} : Fits F w β [] ds := fun j y hj => by simp at hj
theorem Fits.cons {c d : AV} {cs ds : List AV} (h1 : ∀ y, V F w β c y → V F w β d y) (h2 : Fits F w β cs ds) : Fits F w β (c :: cs) (d :: ds) := fun j y hj hd => by
  cases j with
  | zero => exact h1 y hd
  | succ j => exact h2 j y (by simpa using hj) hd
def Vs (F : Nat → Prop) (w : World) (β : Gh) (cs : List AV) (Y : Nat → Value) : Prop := ∀ j, j < cs.length → V F w β (cs.getD j .undef) (Y j)
theorem Vs.nil {Y : Nat → Value} : Vs F w β [] Y := fun j hj => by simp at hj
theorem Vs.cons {c : AV} {cs : List AV} {Y : Nat → Value} (h1 : V F w β c (Y 0)) (h2 : Vs F w β cs fun j => Y (j + 1)) : Vs F w β (c :: cs) Y := fun j hj => by
  cases j with
  | zero => exact h1
  | succ j => exact h2 j (by simpa using hj)
theorem slOf_V {t : Ty} {c : AV} {xs : List t.T} (h : slOf t c = some xs) {y : Value} (hd : V F w β c y) : V F w β (.sl t xs) y := by
  unfold slOf at h
  split at h
  · rename_i t' ys
    split at h
    · rename_i e _
      subst e
      simp at h; subst h
      exact hd
    · cases h
  · rename_i A n c'
    split at h
    · simp at h; subst h
      cases hd
      exact .sl0 t A c'
    · cases h
  · cases h
theorem opOf_V {t : Ty} {c : AV} {x : Option t.T} (h : opOf t c = some x) {y : Value} (hd : V F w β c y) : V F w β (.op t x) y := by
  unfold opOf at h
  split at h
  · rename_i t' ys
    split at h
    · rename_i e _
      subst e
      simp at h; subst h
      exact hd
    · cases h
  · rename_i t' xs i
    split at h
    · rename_i e _
      subst e
      simp at h; subst h
      obtain ⟨b, o, Y, hi, rfl, hF, hb, hc, hd⟩ := V_el hd
      exact .op _ _ b o Y hF hb hc hd
    · cases h
  · cases h; cases hd; exact .op0 t
  · cases h
theorem agg_V {t : Ty} {cs : List AV} {x : t.T} (h : cs.length = t.sz ∧ Fits F w β cs (t.enc x)) {y : Value} (hv : V F w β (.agg cs) y) : V F w β (.agg (t.enc x)) y := by
  obtain ⟨ys, rfl, hl, hc⟩ := V_agg hv
  exact .agg _ _ (by rw [enc_len, ← h.1]; exact hl) fun j hj => h.2 j _ (by rw [enc_len, ← h.1] at hj; exact hj) (hc j (by rw [enc_len, ← h.1] at hj; exact hj))
theorem decLayoutSize_fits {cs : List AV} {x : LayoutSize} (h : decLayoutSize cs = some x) : cs.length = Ty.sz .sLayoutSize ∧ Fits F w β cs (Ty.enc .sLayoutSize x) := by
  unfold decLayoutSize at h
  split at h
  · cases h
    refine ⟨rfl, ?_⟩
    repeat (first | exact Fits.nil | refine Fits.cons (fun y hd => by first | exact hd | exact slOf_V (by assumption) hd | exact opOf_V (by assumption) hd) ?_)
  · cases h
theorem clo130_V {cs : List AV} {x : Clo} (h : clo130 cs = some x) {ys : Array Value} (hl : ys.size = cs.length) (hv : Vs F w β cs fun j => ys.getD j undef) : V F w β x.out (.func (.func 130) #[] ys) := by
  unfold clo130 at h
  split at h
  · split at h
    · cases h
      exact .fn _ _ _ _ _ rfl hl Vs.nil (Vs.cons (opOf_V (by assumption) (hv 0 (by simp))) Vs.nil)
    · cases h
  · cases h
theorem clo133_V {cs : List AV} {x : Clo} (h : clo133 cs = some x) {ys : Array Value} (hl : ys.size = cs.length) (hv : Vs F w β cs fun j => ys.getD j undef) : V F w β x.out (.func (.func 133) #[] ys) := by
  unfold clo133 at h
  split at h
  · split at h
    · cases h
      exact .fn _ _ _ _ _ rfl hl Vs.nil (Vs.cons (opOf_V (by assumption) (hv 0 (by simp))) Vs.nil)
    · cases h
  · cases h
theorem clo134_V {cs : List AV} {x : Clo} (h : clo134 cs = some x) {ys : Array Value} (hl : ys.size = cs.length) (hv : Vs F w β cs fun j => ys.getD j undef) : V F w β x.out (.func (.func 134) #[] ys) := by
  unfold clo134 at h
  split at h
  · split at h
    · cases h
      exact .fn _ _ _ _ _ rfl hl Vs.nil (Vs.cons (opOf_V (by assumption) (hv 0 (by simp))) Vs.nil)
    · cases h
  · cases h
theorem clo135_V {cs : List AV} {x : Clo} (h : clo135 cs = some x) {ys : Array Value} (hl : ys.size = cs.length) (hv : Vs F w β cs fun j => ys.getD j undef) : V F w β x.out (.func (.func 135) #[] ys) := by
  unfold clo135 at h
  split at h
  · split at h
    · cases h
      exact .fn _ _ _ _ _ rfl hl Vs.nil (Vs.cons (opOf_V (by assumption) (hv 0 (by simp))) Vs.nil)
    · cases h
  · cases h
theorem clo136_V {cs : List AV} {x : Clo} (h : clo136 cs = some x) {ys : Array Value} (hl : ys.size = cs.length) (hv : Vs F w β cs fun j => ys.getD j undef) : V F w β x.out (.func (.func 136) #[] ys) := by
  unfold clo136 at h
  split at h
  · split at h
    · cases h
      exact .fn _ _ _ _ _ rfl hl Vs.nil (Vs.cons (opOf_V (by assumption) (hv 0 (by simp))) Vs.nil)
    · cases h
  · cases h
theorem clo137_V {cs : List AV} {x : Clo} (h : clo137 cs = some x) {ys : Array Value} (hl : ys.size = cs.length) (hv : Vs F w β cs fun j => ys.getD j undef) : V F w β x.out (.func (.func 137) #[] ys) := by
  unfold clo137 at h
  split at h
  · split at h
    · cases h
      exact .fn _ _ _ _ _ rfl hl Vs.nil (Vs.cons (opOf_V (by assumption) (hv 0 (by simp))) (Vs.cons (opOf_V (by assumption) (hv 1 (by simp))) Vs.nil))
    · cases h
  · cases h
theorem clo139_V {cs : List AV} {x : Clo} (h : clo139 cs = some x) {ys : Array Value} (hl : ys.size = cs.length) (hv : Vs F w β cs fun j => ys.getD j undef) : V F w β x.out (.func (.func 139) #[] ys) := by
  unfold clo139 at h
  split at h
  · split at h
    · cases h
      exact .fn _ _ _ _ _ rfl hl Vs.nil (Vs.cons (opOf_V (by assumption) (hv 0 (by simp))) (Vs.cons (opOf_V (by assumption) (hv 1 (by simp))) Vs.nil))
    · cases h
  · cases h
theorem clo141_V {cs : List AV} {x : Clo} (h : clo141 cs = some x) {ys : Array Value} (hl : ys.size = cs.length) (hv : Vs F w β cs fun j => ys.getD j undef) : V F w β x.out (.func (.func 141) #[] ys) := by
  unfold clo141 at h
  split at h
  · split at h
    · cases h
      exact .fn _ _ _ _ _ rfl hl Vs.nil (Vs.cons (opOf_V (by assumption) (hv 0 (by simp))) (Vs.cons (opOf_V (by assumption) (hv 1 (by simp))) Vs.nil))
    · cases h
  · cases h
theorem clo143_V {cs : List AV} {x : Clo} (h : clo143 cs = some x) {ys : Array Value} (hl : ys.size = cs.length) (hv : Vs F w β cs fun j => ys.getD j undef) : V F w β x.out (.func (.func 143) #[] ys) := by
  unfold clo143 at h
  split at h
  · split at h
    · cases h
      exact .fn _ _ _ _ _ rfl hl Vs.nil (Vs.cons (opOf_V (by assumption) (hv 0 (by simp))) Vs.nil)
    · cases h
  · cases h
theorem clo145_V {cs : List AV} {x : Clo} (h : clo145 cs = some x) {ys : Array Value} (hl : ys.size = cs.length) (hv : Vs F w β cs fun j => ys.getD j undef) : V F w β x.out (.func (.func 145) ys #[]) := by
  unfold clo145 at h
  split at h
  · split at h
    · cases h
      exact .fn _ _ _ _ _ hl rfl (Vs.cons (agg_V (decLayoutSize_fits (by assumption)) (hv 0 (by simp))) Vs.nil) Vs.nil
    · cases h
  · cases h
theorem clo146_V {cs : List AV} {x : Clo} (h : clo146 cs = some x) {ys : Array Value} (hl : ys.size = cs.length) (hv : Vs F w β cs fun j => ys.getD j undef) : V F w β x.out (.func (.func 146) ys #[]) := by
  unfold clo146 at h
  split at h
  · split at h
    · cases h
      exact .fn _ _ _ _ _ hl rfl (Vs.cons (agg_V (decLayoutSize_fits (by assumption)) (hv 0 (by simp))) Vs.nil) Vs.nil
    · cases h
  · cases h
theorem cloOf_V {c : AV} {x : Clo} (h : cloOf c = some x) {y : Value} (hv : V F w β c y) : V F w β (.clo x) y := by
  unfold cloOf at h
  split at h
  · cases h; exact hv
  · rename_i f cap
    cases hv with | fn _ _ _ ya yc hla hlc ha hc =>
    have e0 : ya = #[] := by apply Array.eq_empty_of_size_eq_zero; simpa using hla
    subst e0
    split at h
    · rename_i e; have e := Nat.eq_of_beq_eq_true e; subst e; exact .clo _ _ (clo130_V h hlc hc)
    split at h
    · rename_i e; have e := Nat.eq_of_beq_eq_true e; subst e; exact .clo _ _ (clo133_V h hlc hc)
    split at h
    · rename_i e; have e := Nat.eq_of_beq_eq_true e; subst e; exact .clo _ _ (clo134_V h hlc hc)
    split at h
    · rename_i e; have e := Nat.eq_of_beq_eq_true e; subst e; exact .clo _ _ (clo135_V h hlc hc)
    split at h
    · rename_i e; have e := Nat.eq_of_beq_eq_true e; subst e; exact .clo _ _ (clo136_V h hlc hc)
    split at h
    · rename_i e; have e := Nat.eq_of_beq_eq_true e; subst e; exact .clo _ _ (clo137_V h hlc hc)
    split at h
    · rename_i e; have e := Nat.eq_of_beq_eq_true e; subst e; exact .clo _ _ (clo139_V h hlc hc)
    split at h
    · rename_i e; have e := Nat.eq_of_beq_eq_true e; subst e; exact .clo _ _ (clo141_V h hlc hc)
    split at h
    · rename_i e; have e := Nat.eq_of_beq_eq_true e; subst e; exact .clo _ _ (clo143_V h hlc hc)
    cases h
  · rename_i f z fi
    cases hv with | fn _ _ _ ya yc hla hlc ha hc =>
    have e0 : yc = #[] := by apply Array.eq_empty_of_size_eq_zero; simpa using hlc
    subst e0
    split at h
    · rename_i e; have e := Nat.eq_of_beq_eq_true e; subst e; exact .clo _ _ (clo145_V h hla ha)
    split at h
    · rename_i e; have e := Nat.eq_of_beq_eq_true e; subst e; exact .clo _ _ (clo146_V h hla ha)
    cases h
  · cases h; exact .clo _ _ hv
  · cases h
theorem dec_fits {t : Ty} {cs : List AV} {x : t.T} (h : t.dec cs = some x) : cs.length = t.sz ∧ Fits F w β cs (t.enc x) := by
  cases t
  · simp only [Ty.dec] at h
    split at h
    · split at h
      · cases h
        rename_i e
        subst e
        exact ⟨rfl, Fits.cons (fun y hd => hd) Fits.nil⟩
      · cases h
    · cases h
  · simp only [Ty.dec] at h
    split at h
    · cases h
      exact ⟨rfl, Fits.cons (fun y hd => hd) Fits.nil⟩
    · cases h
  · simp only [Ty.dec] at h
    split at h
    · cases h
      exact ⟨rfl, Fits.cons (fun y hd => hd) Fits.nil⟩
    · cases h
  · simp only [Ty.dec] at h
    split at h
    · exact ⟨rfl, Fits.cons (fun y hd => cloOf_V h hd) Fits.nil⟩
    · cases h
  · simp only [Ty.dec] at h
    split at h
    · exact ⟨rfl, Fits.cons (fun y hd => slOf_V h hd) Fits.nil⟩
    · cases h
  · simp only [Ty.dec] at h
    split at h
    · exact ⟨rfl, Fits.cons (fun y hd => opOf_V h hd) Fits.nil⟩
    · cases h
  · simp only [Ty.dec] at h
    split at h
    · cases h
      refine ⟨rfl, ?_⟩
      repeat (first | exact Fits.nil | refine Fits.cons (fun y hd => by first | exact hd | exact slOf_V (by assumption) hd | exact opOf_V (by assumption) hd | exact cloOf_V (by assumption) hd) ?_)
    · cases h
  · simp only [Ty.dec] at h
    split at h
    · cases h
      refine ⟨rfl, ?_⟩
      repeat (first | exact Fits.nil | refine Fits.cons (fun y hd => by first | exact hd | exact slOf_V (by assumption) hd | exact opOf_V (by assumption) hd | exact cloOf_V (by assumption) hd) ?_)
    · cases h
  · simp only [Ty.dec] at h
    split at h
    · cases h
      refine ⟨rfl, ?_⟩
      repeat (first | exact Fits.nil | refine Fits.cons (fun y hd => by first | exact hd | exact slOf_V (by assumption) hd | exact opOf_V (by assumption) hd | exact cloOf_V (by assumption) hd) ?_)
    · cases h
  · simp only [Ty.dec] at h
    split at h
    · split at h
      · cases h
        refine ⟨rfl, ?_⟩
        repeat (first | exact Fits.nil | refine Fits.cons (fun y hd => by first | exact hd | exact slOf_V (by assumption) hd | exact opOf_V (by assumption) hd | exact cloOf_V (by assumption) hd) ?_)
      · cases h
    · cases h
  · simp only [Ty.dec] at h
    split at h
    · cases h
      refine ⟨rfl, ?_⟩
      repeat (first | exact Fits.nil | refine Fits.cons (fun y hd => by first | exact hd | exact slOf_V (by assumption) hd | exact opOf_V (by assumption) hd | exact cloOf_V (by assumption) hd) ?_)
    · cases h
  · simp only [Ty.dec] at h
    split at h
    · split at h
      · cases h
        refine ⟨rfl, ?_⟩
        repeat (first | exact Fits.nil | refine Fits.cons (fun y hd => by first | exact hd | exact slOf_V (by assumption) hd | exact opOf_V (by assumption) hd | exact cloOf_V (by assumption) hd) ?_)
      · cases h
    · cases h
  · simp only [Ty.dec] at h
    split at h
    · cases h
      refine ⟨rfl, ?_⟩
      repeat (first | exact Fits.nil | refine Fits.cons (fun y hd => by first | exact hd | exact slOf_V (by assumption) hd | exact opOf_V (by assumption) hd | exact cloOf_V (by assumption) hd) ?_)
    · cases h
  · simp only [Ty.dec] at h
    split at h
    · cases h
      refine ⟨rfl, ?_⟩
      repeat (first | exact Fits.nil | refine Fits.cons (fun y hd => by first | exact hd | exact slOf_V (by assumption) hd | exact opOf_V (by assumption) hd | exact cloOf_V (by assumption) hd) ?_)
    · cases h
  · simp only [Ty.dec] at h
    split at h
    · split at h
      · cases h
        refine ⟨rfl, ?_⟩
        repeat (first | exact Fits.nil | refine Fits.cons (fun y hd => by first | exact hd | exact slOf_V (by assumption) hd | exact opOf_V (by assumption) hd | exact cloOf_V (by assumption) hd) ?_)
      · cases h
    · cases h
  · simp only [Ty.dec] at h
    split at h
    · cases h
      refine ⟨rfl, ?_⟩
      repeat (first | exact Fits.nil | refine Fits.cons (fun y hd => by first | exact hd | exact slOf_V (by assumption) hd | exact opOf_V (by assumption) hd | exact cloOf_V (by assumption) hd) ?_)
    · cases h
  · simp only [Ty.dec] at h
    split at h
    · split at h
      · cases h
        refine ⟨rfl, ?_⟩
        repeat (first | exact Fits.nil | refine Fits.cons (fun y hd => by first | exact hd | exact slOf_V (by assumption) hd | exact opOf_V (by assumption) hd | exact cloOf_V (by assumption) hd) ?_)
      · cases h
    · cases h
  · simp only [Ty.dec] at h
    split at h
    · cases h
      refine ⟨rfl, ?_⟩
      repeat (first | exact Fits.nil | refine Fits.cons (fun y hd => by first | exact hd | exact slOf_V (by assumption) hd | exact opOf_V (by assumption) hd | exact cloOf_V (by assumption) hd) ?_)
    · cases h
  · simp only [Ty.dec] at h
    split at h
    · split at h
      · cases h
        refine ⟨rfl, ?_⟩
        repeat (first | exact Fits.nil | refine Fits.cons (fun y hd => by first | exact hd | exact slOf_V (by assumption) hd | exact opOf_V (by assumption) hd | exact cloOf_V (by assumption) hd) ?_)
      · cases h
    · cases h
  · simp only [Ty.dec] at h
    split at h
    · split at h
      · cases h
        refine ⟨rfl, ?_⟩
        repeat (first | exact Fits.nil | refine Fits.cons (fun y hd => by first | exact hd | exact slOf_V (by assumption) hd | exact opOf_V (by assumption) hd | exact cloOf_V (by assumption) hd) ?_)
      · cases h
    · cases h
  · simp only [Ty.dec] at h
    split at h
    · cases h
      refine ⟨rfl, ?_⟩
      repeat (first | exact Fits.nil | refine Fits.cons (fun y hd => by first | exact hd | exact slOf_V (by assumption) hd | exact opOf_V (by assumption) hd | exact cloOf_V (by assumption) hd) ?_)
    · cases h
  · simp only [Ty.dec] at h
    split at h
    · split at h
      · cases h
        refine ⟨rfl, ?_⟩
        repeat (first | exact Fits.nil | refine Fits.cons (fun y hd => by first | exact hd | exact slOf_V (by assumption) hd | exact opOf_V (by assumption) hd | exact cloOf_V (by assumption) hd) ?_)
      · cases h
    · cases h
  · simp only [Ty.dec] at h
    split at h
    · cases h
      refine ⟨rfl, ?_⟩
      repeat (first | exact Fits.nil | refine Fits.cons (fun y hd => by first | exact hd | exact slOf_V (by assumption) hd | exact opOf_V (by assumption) hd | exact cloOf_V (by assumption) hd) ?_)
    · cases h
  · simp only [Ty.dec] at h
    split at h
    · cases h
      refine ⟨rfl, ?_⟩
      repeat (first | exact Fits.nil | refine Fits.cons (fun y hd => by first | exact hd | exact slOf_V (by assumption) hd | exact opOf_V (by assumption) hd | exact cloOf_V (by assumption) hd) ?_)
    · cases h
  · simp only [Ty.dec] at h
    split at h
    · split at h
      · cases h
        refine ⟨rfl, ?_⟩
        repeat (first | exact Fits.nil | refine Fits.cons (fun y hd => by first | exact hd | exact slOf_V (by assumption) hd | exact opOf_V (by assumption) hd | exact cloOf_V (by assumption) hd) ?_)
      · cases h
    · cases h
  · simp only [Ty.dec] at h
    split at h
    · split at h
      · cases h
        refine ⟨rfl, ?_⟩
        repeat (first | exact Fits.nil | refine Fits.cons (fun y hd => by first | exact hd | exact slOf_V (by assumption) hd | exact opOf_V (by assumption) hd | exact cloOf_V (by assumption) hd) ?_)
      · cases h
    · cases h
  · simp only [Ty.dec] at h
    split at h
    · cases h
      refine ⟨rfl, ?_⟩
      repeat (first | exact Fits.nil | refine Fits.cons (fun y hd => by first | exact hd | exact slOf_V (by assumption) hd | exact opOf_V (by assumption) hd | exact cloOf_V (by assumption) hd) ?_)
    · cases h
  · simp only [Ty.dec] at h
    split at h
    · cases h
      refine ⟨rfl, ?_⟩
      repeat (first | exact Fits.nil | refine Fits.cons (fun y hd => by first | exact hd | exact slOf_V (by assumption) hd | exact opOf_V (by assumption) hd | exact cloOf_V (by assumption) hd) ?_)
    · cases h
  · simp only [Ty.dec] at h
    split at h
    · split at h
      · cases h
        refine ⟨rfl, ?_⟩
        repeat (first | exact Fits.nil | refine Fits.cons (fun y hd => by first | exact hd | exact slOf_V (by assumption) hd | exact opOf_V (by assumption) hd | exact cloOf_V (by assumption) hd) ?_)
      · cases h
    · cases h
  · simp only [Ty.dec] at h
    split at h
    · cases h
      refine ⟨rfl, ?_⟩
      repeat (first | exact Fits.nil | refine Fits.cons (fun y hd => by first | exact hd | exact slOf_V (by assumption) hd | exact opOf_V (by assumption) hd | exact cloOf_V (by assumption) hd) ?_)
    · cases h
  · simp only [Ty.dec] at h
    split at h
    · split at h
      · cases h
        refine ⟨rfl, ?_⟩
        repeat (first | exact Fits.nil | refine Fits.cons (fun y hd => by first | exact hd | exact slOf_V (by assumption) hd | exact opOf_V (by assumption) hd | exact cloOf_V (by assumption) hd) ?_)
      · cases h
    · cases h
  · exact decLayoutSize_fits h
  · simp only [Ty.dec] at h
    split at h
    · split at h
      · cases h
        refine ⟨rfl, ?_⟩
        repeat (first | exact Fits.nil | refine Fits.cons (fun y hd => by first | exact hd | exact slOf_V (by assumption) hd | exact opOf_V (by assumption) hd | exact cloOf_V (by assumption) hd) ?_)
      · cases h
    · cases h
def isSc : AV → Bool
  | .v (.int _ _) => true
  | .v (.bool _) => true
  | .v (.string _) => true
  | _ => false
def kp (c d : AV) : Prop := (∀ (t : Ty) (ys : List t.T), c = .sl t ys → d = .sl t ys) ∧ (isNilSl c = true → ∃ t : Ty, d = .sl t []) ∧ (isSc c = true → d = c)
def Keep (cs ds : List AV) : Prop := ∀ j, j < cs.length → kp (cs.getD j .undef) (ds.getD j .undef)
theorem Keep.nil : Keep [] [] := fun j hj => by simp at hj
theorem Keep.cons {c d : AV} {cs ds : List AV} (h1 : kp c d) (h2 : Keep cs ds) : Keep (c :: cs) (d :: ds) := fun j hj => by
  cases j with
  | zero => simpa using h1
  | succ j => simpa using h2 j (by simpa using hj)
theorem kp_v {c : AV} (h : (match c with | .v (.slice _ _ _) => true | .sl _ _ => true | _ => false) = false) : kp c c := by
  refine ⟨fun t ys e => (by subst e; cases h), fun e => ?_, fun _ => rfl⟩
  unfold isNilSl at e
  split at e
  · cases h
  · cases e
theorem kp_sl {t : Ty} {c : AV} {xs : List t.T} (h : slOf t c = some xs) : kp c (.sl t xs) := by
  unfold slOf at h
  split at h
  · split at h
    · rename_i e _
      subst e
      simp at h; subst h
      exact ⟨fun t' ys e => e, fun e => (by cases e), fun e => (by cases e)⟩
    · cases h
  · split at h
    · cases h
      exact ⟨fun t' ys e => (by cases e), fun _ => ⟨_, rfl⟩, fun e => (by cases e)⟩
    · cases h
  · cases h
theorem kp_op {t : Ty} {c : AV} {x : Option t.T} (h : opOf t c = some x) : kp c (.op t x) := by
  refine ⟨fun t' ys e => (by subst e; cases h), fun e => ?_, fun e => by unfold isSc at e; split at e <;> first | (cases h; done) | (cases e; done)⟩
  unfold isNilSl at e
  split at e
  · cases h
  · cases e
theorem kp_clo {c : AV} {x : Clo} (h : cloOf c = some x) : kp c (.clo x) := by
  refine ⟨fun t' ys e => (by subst e; cases h), fun e => ?_, fun e => by unfold isSc at e; split at e <;> first | (cases h; done) | (cases e; done)⟩
  unfold isNilSl at e
  split at e
  · cases h
  · cases e
theorem decLayoutSize_keep {cs : List AV} {x : LayoutSize} (h : decLayoutSize cs = some x) : Keep cs (Ty.enc .sLayoutSize x) := by
  unfold decLayoutSize at h
  split at h
  · cases h
    repeat (first | exact Keep.nil | refine Keep.cons (by first | exact kp_v rfl | exact kp_sl (by assumption) | exact kp_op (by assumption) | exact kp_clo (by assumption)) ?_)
  · cases h
theorem dec_keep {t : Ty} {cs : List AV} {x : t.T} (h : t.dec cs = some x) : Keep cs (t.enc x) := by
  cases t
  · simp only [Ty.dec] at h
    split at h
    · split at h
      · cases h
        rename_i e
        subst e
        exact Keep.cons (kp_v rfl) Keep.nil
      · cases h
    · cases h
  · simp only [Ty.dec] at h
    split at h
    · cases h
      exact Keep.cons (kp_v rfl) Keep.nil
    · cases h
  · simp only [Ty.dec] at h
    split at h
    · cases h
      exact Keep.cons (kp_v rfl) Keep.nil
    · cases h
  · simp only [Ty.dec] at h
    split at h
    · exact Keep.cons (kp_clo h) Keep.nil
    · cases h
  · simp only [Ty.dec] at h
    split at h
    · exact Keep.cons (kp_sl h) Keep.nil
    · cases h
  · simp only [Ty.dec] at h
    split at h
    · exact Keep.cons (kp_op h) Keep.nil
    · cases h
  · simp only [Ty.dec] at h
    split at h
    · cases h
      repeat (first | exact Keep.nil | refine Keep.cons (by first | exact kp_v rfl | exact kp_sl (by assumption) | exact kp_op (by assumption) | exact kp_clo (by assumption)) ?_)
    · cases h
  · simp only [Ty.dec] at h
    split at h
    · cases h
      repeat (first | exact Keep.nil | refine Keep.cons (by first | exact kp_v rfl | exact kp_sl (by assumption) | exact kp_op (by assumption) | exact kp_clo (by assumption)) ?_)
    · cases h
  · simp only [Ty.dec] at h
    split at h
    · cases h
      repeat (first | exact Keep.nil | refine Keep.cons (by first | exact kp_v rfl | exact kp_sl (by assumption) | exact kp_op (by assumption) | exact kp_clo (by assumption)) ?_)
    · cases h
  · simp only [Ty.dec] at h
    split at h
    · split at h
      · cases h
        repeat (first | exact Keep.nil | refine Keep.cons (by first | exact kp_v rfl | exact kp_sl (by assumption) | exact kp_op (by assumption) | exact kp_clo (by assumption)) ?_)
      · cases h
    · cases h
  · simp only [Ty.dec] at h
    split at h
    · cases h
      repeat (first | exact Keep.nil | refine Keep.cons (by first | exact kp_v rfl | exact kp_sl (by assumption) | exact kp_op (by assumption) | exact kp_clo (by assumption)) ?_)
    · cases h
  · simp only [Ty.dec] at h
    split at h
    · split at h
      · cases h
        repeat (first | exact Keep.nil | refine Keep.cons (by first | exact kp_v rfl | exact kp_sl (by assumption) | exact kp_op (by assumption) | exact kp_clo (by assumption)) ?_)
      · cases h
    · cases h
  · simp only [Ty.dec] at h
    split at h
    · cases h
      repeat (first | exact Keep.nil | refine Keep.cons (by first | exact kp_v rfl | exact kp_sl (by assumption) | exact kp_op (by assumption) | exact kp_clo (by assumption)) ?_)
    · cases h
  · simp only [Ty.dec] at h
    split at h
    · cases h
      repeat (first | exact Keep.nil | refine Keep.cons (by first | exact kp_v rfl | exact kp_sl (by assumption) | exact kp_op (by assumption) | exact kp_clo (by assumption)) ?_)
    · cases h
  · simp only [Ty.dec] at h
    split at h
    · split at h
      · cases h
        repeat (first | exact Keep.nil | refine Keep.cons (by first | exact kp_v rfl | exact kp_sl (by assumption) | exact kp_op (by assumption) | exact kp_clo (by assumption)) ?_)
      · cases h
    · cases h
  · simp only [Ty.dec] at h
    split at h
    · cases h
      repeat (first | exact Keep.nil | refine Keep.cons (by first | exact kp_v rfl | exact kp_sl (by assumption) | exact kp_op (by assumption) | exact kp_clo (by assumption)) ?_)
    · cases h
  · simp only [Ty.dec] at h
    split at h
    · split at h
      · cases h
        repeat (first | exact Keep.nil | refine Keep.cons (by first | exact kp_v rfl | exact kp_sl (by assumption) | exact kp_op (by assumption) | exact kp_clo (by assumption)) ?_)
      · cases h
    · cases h
  · simp only [Ty.dec] at h
    split at h
    · cases h
      repeat (first | exact Keep.nil | refine Keep.cons (by first | exact kp_v rfl | exact kp_sl (by assumption) | exact kp_op (by assumption) | exact kp_clo (by assumption)) ?_)
    · cases h
  · simp only [Ty.dec] at h
    split at h
    · split at h
      · cases h
        repeat (first | exact Keep.nil | refine Keep.cons (by first | exact kp_v rfl | exact kp_sl (by assumption) | exact kp_op (by assumption) | exact kp_clo (by assumption)) ?_)
      · cases h
    · cases h
  · simp only [Ty.dec] at h
    split at h
    · split at h
      · cases h
        repeat (first | exact Keep.nil | refine Keep.cons (by first | exact kp_v rfl | exact kp_sl (by assumption) | exact kp_op (by assumption) | exact kp_clo (by assumption)) ?_)
      · cases h
    · cases h
  · simp only [Ty.dec] at h
    split at h
    · cases h
      repeat (first | exact Keep.nil | refine Keep.cons (by first | exact kp_v rfl | exact kp_sl (by assumption) | exact kp_op (by assumption) | exact kp_clo (by assumption)) ?_)
    · cases h
  · simp only [Ty.dec] at h
    split at h
    · split at h
      · cases h
        repeat (first | exact Keep.nil | refine Keep.cons (by first | exact kp_v rfl | exact kp_sl (by assumption) | exact kp_op (by assumption) | exact kp_clo (by assumption)) ?_)
      · cases h
    · cases h
  · simp only [Ty.dec] at h
    split at h
    · cases h
      repeat (first | exact Keep.nil | refine Keep.cons (by first | exact kp_v rfl | exact kp_sl (by assumption) | exact kp_op (by assumption) | exact kp_clo (by assumption)) ?_)
    · cases h
  · simp only [Ty.dec] at h
    split at h
    · cases h
      repeat (first | exact Keep.nil | refine Keep.cons (by first | exact kp_v rfl | exact kp_sl (by assumption) | exact kp_op (by assumption) | exact kp_clo (by assumption)) ?_)
    · cases h
  · simp only [Ty.dec] at h
    split at h
    · split at h
      · cases h
        repeat (first | exact Keep.nil | refine Keep.cons (by first | exact kp_v rfl | exact kp_sl (by assumption) | exact kp_op (by assumption) | exact kp_clo (by assumption)) ?_)
      · cases h
    · cases h
  · simp only [Ty.dec] at h
    split at h
    · split at h
      · cases h
        repeat (first | exact Keep.nil | refine Keep.cons (by first | exact kp_v rfl | exact kp_sl (by assumption) | exact kp_op (by assumption) | exact kp_clo (by assumption)) ?_)
      · cases h
    · cases h
  · simp only [Ty.dec] at h
    split at h
    · cases h
      repeat (first | exact Keep.nil | refine Keep.cons (by first | exact kp_v rfl | exact kp_sl (by assumption) | exact kp_op (by assumption) | exact kp_clo (by assumption)) ?_)
    · cases h
  · simp only [Ty.dec] at h
    split at h
    · cases h
      repeat (first | exact Keep.nil | refine Keep.cons (by first | exact kp_v rfl | exact kp_sl (by assumption) | exact kp_op (by assumption) | exact kp_clo (by assumption)) ?_)
    · cases h
  · simp only [Ty.dec] at h
    split at h
    · split at h
      · cases h
        repeat (first | exact Keep.nil | refine Keep.cons (by first | exact kp_v rfl | exact kp_sl (by assumption) | exact kp_op (by assumption) | exact kp_clo (by assumption)) ?_)
      · cases h
    · cases h
  · simp only [Ty.dec] at h
    split at h
    · cases h
      repeat (first | exact Keep.nil | refine Keep.cons (by first | exact kp_v rfl | exact kp_sl (by assumption) | exact kp_op (by assumption) | exact kp_clo (by assumption)) ?_)
    · cases h
  · simp only [Ty.dec] at h
    split at h
    · split at h
      · cases h
        repeat (first | exact Keep.nil | refine Keep.cons (by first | exact kp_v rfl | exact kp_sl (by assumption) | exact kp_op (by assumption) | exact kp_clo (by assumption)) ?_)
      · cases h
    · cases h
  · exact decLayoutSize_keep h
  · simp only [Ty.dec] at h
    split at h
    · split at h
      · cases h
        repeat (first | exact Keep.nil | refine Keep.cons (by first | exact kp_v rfl | exact kp_sl (by assumption) | exact kp_op (by assumption) | exact kp_clo (by assumption)) ?_)
      · cases h
    · cases h
theorem enc_cells (t : Ty) (x : t.T) : cell1s (t.enc x) = true := by cases t <;> rfl
theorem sz_le (t : Ty) : t.sz ≤ 4096 := by induction t <;> simp [Ty.sz]
theorem enc_one {t : Ty} {x : t.T} {j : Nat} {y : Value} (hj : j < t.sz) (h : V F w β ((t.enc x).getD j .undef) y) : y.oneCell' = true :=
  (cell1_one h (cell1s_all (enc_cells t x) j (by rw [enc_len]; exact hj))).2
theorem decAll_fits {t : Ty} : ∀ {n : Nat} {cs : List AV} {xs : List t.T}, decAll t n cs = some xs → xs.length = n ∧ cs.length = n * t.sz ∧ ∀ i j, i < n → j < t.sz → ∀ y, V F w β (cs.getD (i * t.sz + j) .undef) y → V F w β ((t.enc (nth xs i)).getD j .undef) y
  | 0, cs, xs, h => by
    cases cs with
    | nil => simp [decAll] at h; subst h; exact ⟨rfl, by simp, fun i j hi => by omega⟩
    | cons => simp [decAll] at h
  | n + 1, cs, xs, h => by
    simp only [decAll] at h
    split at h
    · rename_i x xs' hx hxs
      simp at h; subst h
      obtain ⟨h1, h2, h3⟩ := decAll_fits hxs
      obtain ⟨k1, k2⟩ := dec_fits (F := F) (w := w) (β := β) hx
      have hsz := sz_pos t
      have hlen : cs.length = (n + 1) * t.sz := by
        simp at k1 h2
        rw [Nat.add_mul, Nat.one_mul]; omega
      refine ⟨by simp [h1], hlen, fun i j hi hj y hd => ?_⟩
      cases i with
      | zero =>
        have := k2 j y (by omega) (by
          have e : (cs.take t.sz).getD j .undef = cs.getD j .undef := by simp [List.getD, List.getElem?_take, hj]
          rw [e]; simpa using hd)
        simpa [nth] using this
      | succ i =>
        have := h3 i j (by omega) hj y (by
          have e : (cs.drop t.sz).getD (i * t.sz + j) .undef = cs.getD ((i + 1) * t.sz + j) .undef := by
            simp only [List.getD, List.getElem?_drop]
            congr 2
            rw [Nat.add_mul]; omega
          rw [e]; exact hd)
        simpa [nth] using this
    · cases h
end
section
variable {P : Program} {B : Bs} {F : Nat → Prop} {β : Gh} {st : St} {a : Act} {w : World}
theorem owns_D {F' : Nat → Prop} {e : TypeId} {ty : Ty} {xs : List ty.T} {v : Value} {Vs : List Value} (h1 : w.ownsRow 0 e ty.sz v xs.length Vs) (hl : xs.length ≤ 140737488355328) (ho : ∀ k, v.ownBlock = some k → F' k)
    (h3 : ∀ i j, i < xs.length → j < ty.sz → D F' w ((ty.enc (nth xs i)).getD j .undef) (Vs.getD (i * ty.sz + j) undef)) : D F' w (.sl ty xs) v := by
  rcases h1.2 with ⟨hv, hn⟩ | ⟨g, cap, cur, hv, hg, hh, hnc, hcm, hcs, htk⟩
  · have : xs = [] := List.eq_nil_of_length_eq_zero hn
    subst this
    rw [hv]; exact .sl0 ty none 0
  · obtain ⟨_, hcell⟩ := own_cells h1 hv
    have hg' : F' g := ho g (by rw [hv]; rfl)
    rw [hv]
    refine .sl ty xs g 0 cap (fun i j => Vs.getD (i * ty.sz + j) undef) hg' (Array.getElem?_eq_some_iff.1 hh).1 hl hnc (fun i j hi hj => ?_) (fun i j hi hj => h3 i j hi hj)
    rw [Nat.zero_add]
    exact hcell _ (idx_lt hi hj)
theorem CellOk.whole {F' : Nat → Prop} {b i j : Nat} {cols : List (Nat × TypeId)} {x : AV} {v : Value} (h : CellOk F w β b cols none i j x v) (hF : ∀ k, F k → F' k) (ho : ∀ k s, β.o k = some (b, s) → F' k) : D F' w x v := by
  unfold CellOk at h
  split at h
  · exact h.wide hF
  · rcases h with h | ⟨t, ys, Vs, rfl, h2, h3, h4, h5⟩
    · cases h
    · exact owns_D h2 h3 (fun k hk => ho k _ (h4 k hk)) fun k m hk hm => (h5 k m hk hm).wide hF
theorem arr_D {F' : Nat → Prop} {e : TypeId} {ty : Ty} {cols : List (Nat × TypeId)} {xs : List ty.T} {b : Nat} (h : BlkOk F w β b (.row e ty cols none xs)) (hF : ∀ k, F k → F' k) (ho : ∀ k s, β.o k = some (b, s) → F' k) : D F' w (.sl ty xs) (β.v b) := by
  obtain ⟨Vs, h1, hl, h2, h3⟩ := h
  exact owns_D h1 hl (fun k hk => ho k _ (h2 k hk)) fun i j hi hj => (h3 i j hi hj).whole hF ho
theorem own_slice {e : TypeId} {ty : Ty} {cols : List (Nat × TypeId)} {hole : Option (Nat × Nat)} {xs : List ty.T} {b : Nat} (h : BlkOk F w β b (.row e ty cols hole xs)) : ∃ A c, β.v b = .slice A xs.length c := by
  obtain ⟨Vs, h1, _⟩ := h
  rcases h1.2 with ⟨hv, hn⟩ | ⟨g, cap, cur, hv, _⟩
  · exact ⟨_, _, hv.trans (by rw [hn])⟩
  · exact ⟨_, _, hv⟩
theorem index_agg {t : TypeId} {cs : List AV} {ys : Array Value} {o : Nat} {r : AV} (h : rd P t cs 0 = some r) (hl : o + cs.length ≤ ys.size) (hV : ∀ j, j < cs.length → V F w β (cs.getD j .undef) (ys.getD (o + j) undef)) :
    ∃ y, V F w β r y ∧ (part t ys o).run P w = .ok y w := by
  have hs : (ys.extract o (o + cs.length)).size = cs.length := by simp; omega
  have hg : ∀ j, j < cs.length → (ys.extract o (o + cs.length)).getD j undef = ys.getD (o + j) undef := fun j hj => by
    simp [Array.getD, show j < min (o + cs.length) ys.size - o by omega, show o + j < ys.size by omega]
  unfold rd at h
  split at h
  · rename_i ha
    obtain ⟨hlt, rfl⟩ := List.getElem?_eq_some_iff.1 h
    refine ⟨ys.getD o undef, by simpa [List.getD, hlt] using hV 0 hlt, ?_⟩
    have : o < ys.size := by omega
    simp [part, Sem.run_bind, aggSize_none ha w, this, Array.getD]
  · rename_i n ha
    split at h
    · rename_i hle
      have hle' : 0 + n ≤ cs.length := Nat.le_of_ble_eq_true hle
      simp at h; subst h
      obtain ⟨hagg, i, hi, hn⟩ := aggSize_some ha
      refine ⟨.agg (ys.extract o (o + n)), .agg _ _ (by simp; omega) fun j hj => ?_, ?_⟩
      · have hj' : j < n := by simp at hj; omega
        have := hV j (by omega)
        simpa [List.getD, Array.getD, hj', show o + j < ys.size by omega, List.getElem?_take, show j < min (o + n) ys.size - o by omega] using this
      · simp [part, Sem.run_bind, hagg w, run_sizeOf hi w, hn]
    · cases h
  · cases h
theorem evLen_sound (h : Rel B F β st a w) {t : TypeId} {x : Operand} {r : AV} (hr : evLen P st t (st.ev x) = some r) : ∃ y, V F w β r y ∧ ∀ ty, (Builtin.len_ #[t] ty #[a.eval x]).run P w = .ok y w := by
  have hv := h.ev x
  unfold evLen at hr
  split at hr
  · rename_i ty xs hxe
    rw [hxe] at hv
    obtain ⟨A, c, hA⟩ := V_slice hv
    split at hr
    · rename_i e hu
      simp at hr; subst hr
      exact ⟨_, .v _, fun ty => by simp [Builtin.len_, Sem.run_bind, run_underlying hu w, hA, goInt]⟩
    · cases hr
  · rename_i b hxe
    rw [hxe] at hv
    obtain ⟨hbm, hvy, _⟩ := V_own hv
    split at hr
    · rename_i e e' ty cols hole xs hu hb
      simp at hr; subst hr
      obtain ⟨A, c, hA⟩ := own_slice (h.heap.blk b _ hb)
      exact ⟨_, .v _, fun ty => by simp [Builtin.len_, Sem.run_bind, run_underlying hu w, hvy, hA, goInt]⟩
    · rename_i e ty xs hu hb
      simp at hr; subst hr
      obtain ⟨A, c, hA⟩ := V_slice (show D F w (.sl ty xs) (β.v b) from h.heap.blk b _ hb)
      exact ⟨_, .v _, fun ty => by simp [Builtin.len_, Sem.run_bind, run_underlying hu w, hvy, hA, goInt]⟩
    · cases hr
  · rename_i b sz o n hxe
    rw [hxe] at hv
    obtain ⟨p, N, c, c', _, _, _, _, hy⟩ := V_vw hv
    split at hr
    · rename_i e hu
      simp at hr; subst hr
      exact ⟨_, .v _, fun ty => by simp [Builtin.len_, Sem.run_bind, run_underlying hu w, hy, goInt]⟩
    · cases hr
  · rename_i z hxe
    rw [hxe] at hv
    cases hc : comp P (Builtin.len_ #[t] 0 #[z]) with
    | none => simp [hc] at hr
    | some q =>
      simp [hc] at hr; subst hr
      have hl : ∀ ty, Builtin.len_ #[t] ty #[z] = Builtin.len_ #[t] 0 #[z] := fun _ => rfl
      exact ⟨q, D_ofVal q, fun ty => by rw [V_v hv, hl, comp_run hc w]⟩
  · cases hr
theorem loadX_sound (h : HOk F w β st.heap) {t : TypeId} {b o0 : Nat} {ty : Ty} {m i d : Nat} {r : AV} {v : Value} (hx : V F w β (.rex b o0 ty m i d) v) (hr : st.loadX P t b o0 ty m i d = some r) :
    ∃ y, V F w β r y ∧ (Instr.loadAt t v).run P w = .ok y w := by
  unfold St.loadX at hr
  obtain ⟨hb, hi, rfl⟩ := V_rex hx
  split at hr
  · rename_i e cs hcs
    split at hr
    · rename_i xs hxs
      obtain ⟨ys, T, h1, h2, _, h3⟩ := h.blk b _ hcs
      obtain ⟨d1, d2, d3⟩ := decAll_fits (F := F) (w := w) (β := β) hxs
      have hlen : o0 + m * ty.sz ≤ cs.length ∨ m * ty.sz = 0 := by
        simp only [List.length_take, List.length_drop] at d2; omega
      have hmp : 0 < m * ty.sz := Nat.mul_pos (by omega) (sz_pos ty)
      have hlen' : o0 + m * ty.sz ≤ cs.length := by omega
      obtain ⟨y, hy, hrun⟩ := rd_sound (P := P) hr (β.b b) (o0 + i * ty.sz) (fun j => ys.getD (o0 + (i * ty.sz + j)) undef) (fun j hj => by
        rw [enc_len] at hj
        have hij := idx_lt hi hj
        refine d3 i j hi hj _ ?_
        have e0 : ((cs.drop o0).take (m * ty.sz)).getD (i * ty.sz + j) .undef = cs.getD (o0 + (i * ty.sz + j)) .undef := by simp [List.getD, List.getElem?_take, hij]
        rw [e0]
        exact h3 _ (by omega))
      refine ⟨y, hy, ?_⟩
      have := hrun w fun j hj => by
        rw [enc_len] at hj
        have hij := idx_lt hi hj
        rw [Nat.add_assoc, cell_of_row w (β.b b) (o0 + (i * ty.sz + j)) ys T (0, 0) h1]; simp [Array.getD, show o0 + (i * ty.sz + j) < ys.size by omega]
      simpa [Instr.loadAt, Instr.sureAddr, Sem.run_bind] using this
    · cases hr
  · cases hr
theorem bin_slnil {t e : TypeId} (ad : Addr) (m c : Nat) (hu : P.underlying t = some (.slice e)) :
    (binOp .eql t (.slice (some ad) m c) (.slice none 0 0)).run P w = .ok (.bool false) w ∧ (binOp .neq t (.slice (some ad) m c) (.slice none 0 0)).run P w = .ok (.bool true) w := by
  have h1 : (Op.equalIn 10000 t (.slice (some ad) m c) (.slice none 0 0)).run P w = .ok false w := by
    unfold Op.equalIn; rw [Sem.run_bind, run_underlying hu w]; rfl
  have e1 : (Op.equal t (.slice (some ad) m c) (.slice none 0 0)).run P w = .ok false w := h1
  refine ⟨?_, ?_⟩ <;> simp only [binOp] <;> simp [e1]
theorem sl_some {t : Ty} {xs : List t.T} {v : Value} (h : V F w β (.sl t xs) v) (hne : xs ≠ []) : ∃ ad m c, v = .slice (some ad) m c := by
  cases h with
  | sl0 => exact absurd rfl hne
  | sl _ _ b o c Y => exact ⟨_, _, _, rfl⟩
theorem evT_sound {α : Type} (h : Rel B F β st a w) {o : Oper} {k : AV → Option α} {r : α} (hr : evT P st o k = some r) : ∃ x, Tells P F β o a w x ∧ k x = some r := by
  unfold evT at hr
  unfold Tells execOp
  split at hr
  · rename_i c x y hop
    split at hr
    · rename_i t hc
      have hv := h.ev c; rw [hc] at hv
      have hv := V_v hv
      cases t
      · exact ⟨st.ev y, ⟨_, h.ev y, by simp [hop, hv, asBool]⟩, hr⟩
      · exact ⟨st.ev x, ⟨_, h.ev x, by simp [hop, hv, asBool]⟩, hr⟩
    · cases hr
  · rename_i x hop
    have hv := h.ev x
    split at hr
    · rename_i b off he
      rw [he] at hv
      obtain ⟨hb, hy⟩ := V_ref hv
      exact ⟨_, ⟨_, .ref b off hb, by simp [hop, hy]⟩, hr⟩
    · rename_i t xs i off he
      rw [he] at hv
      have hv' := hv
      obtain ⟨b, o', Y, hi, hy, hrest⟩ := V_el hv
      exact ⟨_, ⟨_, hv', by simp [hop, hy]⟩, hr⟩
    · rename_i b sz i off he
      rw [he] at hv
      have hv' := hv
      obtain ⟨p, n, c, _, _, _, hy⟩ := V_oel hv
      exact ⟨_, ⟨_, hv', by simp [hop, hy]⟩, hr⟩
    · rename_i b o0 ty m i d he
      rw [he] at hv
      have hv' := hv
      obtain ⟨_, _, hy⟩ := V_rex hv
      exact ⟨_, ⟨_, hv', by simp [hop, hy]⟩, hr⟩
    · rename_i f fa fc he
      rw [he] at hv
      have hf : ∃ ya yc, a.eval x = .func (.func f) ya yc := by
        generalize a.eval x = q at hv
        cases hv
        exact ⟨_, _, rfl⟩
      obtain ⟨ya, yc, hy⟩ := hf
      exact ⟨_, ⟨_, hv, by simp [hop, hy]⟩, hr⟩
    · rename_i t y he
      rw [he] at hv
      cases y with
      | none => cases hr
      | some y =>
        have hv' := op_el hv
        obtain ⟨b, o', Y, hy, _⟩ := V_op hv
        exact ⟨_, ⟨_, hv', by simp [hop, hy]⟩, hr⟩
    · cases hr
  · rename_i t x i hop
    split at hr
    · rename_i e ty xs kd n hu hx hi
      split at hr
      · rename_i hs
        have hv := h.ev x; rw [hx] at hv
        have hiv := h.ev i; rw [hi] at hiv
        cases hin : inR n xs.length with
        | false => rw [hin] at hr; cases hr
        | true =>
          rw [hin] at hr
          obtain ⟨y, hy, hrun⟩ := indexAddr_sound (P := P) (k := kd) hu (Nat.eq_of_beq_eq_true hs) hin hv
          exact ⟨_, ⟨y, hy, by simp [hop, V_v hiv, Sem.run_bind, hrun]⟩, hr⟩
      · cases hr
    · rename_i e b kd n hu hx hi
      have hv := h.ev x; rw [hx] at hv
      have hiv := h.ev i; rw [hi] at hiv
      obtain ⟨hbm, hvy, _⟩ := V_own hv
      split at hr
      · rename_i e' ty cols hole xs hb
        split at hr
        · rename_i hs
          cases hin : inR n xs.length with
          | false => rw [hin] at hr; cases hr
          | true =>
            rw [hin] at hr
            obtain ⟨y, hy, hrun⟩ := indexOwn_sound (P := P) (k := kd) hu (Nat.eq_of_beq_eq_true hs) hin hbm (h.heap.blk b _ hb)
            exact ⟨_, ⟨y, hy, by simp [hop, hvy, V_v hiv, Sem.run_bind, hrun]⟩, hr⟩
        · cases hr
      · rename_i ty xs hb
        split at hr
        · rename_i hs
          cases hin : inR n xs.length with
          | false => rw [hin] at hr; cases hr
          | true =>
            rw [hin] at hr
            obtain ⟨y, hy, hrun⟩ := indexAddr_sound (P := P) (k := kd) hu (Nat.eq_of_beq_eq_true hs) hin (show D F w (.sl ty xs) (β.v b) from h.heap.blk b _ hb)
            exact ⟨_, ⟨y, hy.ofD, by simp [hop, hvy, V_v hiv, Sem.run_bind, hrun]⟩, hr⟩
        · cases hr
      · cases hr
    · rename_i e b sz o' m kd n hu hx hi
      have hv := h.ev x; rw [hx] at hv
      have hiv := h.ev i; rw [hi] at hiv
      split at hr
      · rename_i hs
        cases hin : inR n m with
        | false => rw [hin] at hr; cases hr
        | true =>
          rw [hin] at hr
          simp only [Bool.and_eq_true] at hs
          obtain ⟨y, hy, hrun⟩ := indexVw_sound (P := P) (k := kd) hu (Nat.eq_of_beq_eq_true hs.1) (by simpa using hs.2) hin hv
          exact ⟨_, ⟨y, hy, by simp [hop, V_v hiv, Sem.run_bind, hrun]⟩, hr⟩
      · cases hr
    · rename_i m e b off kd n hu hx hi
      have hv := h.ev x; rw [hx] at hv
      have hiv := h.ev i; rw [hi] at hiv
      split at hr
      · rename_i ty hty
        split at hr
        · rename_i hs
          cases hin : inR n m with
          | false => rw [hin] at hr; cases hr
          | true =>
            rw [hin] at hr
            obtain ⟨y, hy, hrun⟩ := indexRex_sound (P := P) (k := kd) hu (Nat.eq_of_beq_eq_true hs) hin hv
            exact ⟨_, ⟨y, hy, by simp [hop, V_v hiv, Sem.run_bind, hrun]⟩, hr⟩
        · cases hr
      · cases hr
    · cases hr
  · rename_i t x i hop
    split at hr
    · rename_i s kd n hu hx hi
      have hv := h.ev x; rw [hx] at hv
      have hiv := h.ev i; rw [hi] at hiv
      cases hin : inR n s.size with
      | false => rw [hin] at hr; cases hr
      | true =>
        rw [hin] at hr
        obtain ⟨b, hb, he⟩ := byte_at s n hin
        have h0 := (inR_iff.1 hin).1
        exact ⟨_, ⟨_, .v _, by simp [hop, V_v hiv, V_v hv, Instr.index, asIntOf, Sem.run_bind, run_underlying hu w, h0, hb, he]⟩, hr⟩
    · rename_i m e cs kd n hu hx hi
      have hv := h.ev x; rw [hx] at hv
      have hiv := h.ev i; rw [hi] at hiv
      split at hr
      · rename_i ty hty
        split at hr
        · rename_i xs hxs
          split at hr
          · rename_i r' hrd hs
            cases hin : inR n m with
            | false => rw [hin] at hr; cases hr
            | true =>
              rw [hin] at hr
              obtain ⟨ys, hy, hl, hc⟩ := V_agg hv
              obtain ⟨d1, d2, d3⟩ := decAll_fits (F := F) (w := w) (β := β) hxs
              obtain ⟨h0, h1⟩ := inR_iff.1 hin
              have hs' := Nat.eq_of_beq_eq_true hs
              have hn : n.toNat < m := by omega
              have hext : ∀ j, j < ty.sz → V F w β ((ty.enc (nth xs n.toNat)).getD j .undef) (ys.getD (n.toNat * ty.sz + j) undef) := fun j hj => d3 n.toNat j hn hj _ (hc _ (by rw [d2]; exact idx_lt hn hj))
              obtain ⟨z, hz, hrun⟩ := index_agg (P := P) (w := w) (o := n.toNat * ty.sz) hrd (by rw [hl, d2, enc_len, ← Nat.succ_mul]; exact Nat.mul_le_mul_right _ hn) (fun j hj => hext j (by rwa [enc_len] at hj))
              obtain ⟨i', hi', hsz⟩ := info_of hs' (sz_pos ty)
              exact ⟨_, ⟨z, hz, by
                have h1' : n < (m : Int) := h1
                simp [hop, V_v hiv, hy, Instr.index, asIntOf, asAgg, Sem.run_bind, run_underlying hu w, h0, h1', run_sizeOf hi' w, hsz, hrun]⟩, hr⟩
          · cases hr
        · cases hr
      · cases hr
    · cases hr
  · rename_i t x lo hi hop
    split at hr
    · rename_i ty xs hx
      have hv := h.ev x; rw [hx] at hv
      split at hr
      · rename_i e l hh hu hlo hhi
        split at hr
        · rename_i hs
          cases hin : inS l hh xs.length with
          | false => rw [hin] at hr; cases hr
          | true =>
            rw [hin] at hr
            obtain ⟨y, hy, hrun⟩ := slice_sound (P := P) hu (Nat.eq_of_beq_eq_true hs) hv (bnd_sound h hlo) (bnd_sound h hhi) hin
            exact ⟨_, ⟨y, hy, by simp [hop, Sem.run_bind, hrun w]⟩, hr⟩
        · cases hr
      · cases hr
    · rename_i s hx
      have hv := h.ev x; rw [hx] at hv
      split at hr
      · rename_i l hh hu hlo hhi
        cases hin : inS l hh s.size with
        | false => rw [hin] at hr; cases hr
        | true =>
          rw [hin] at hr
          obtain ⟨h0, h1, h2⟩ := inS_iff.1 hin
          refine ⟨_, ⟨_, .v _, ?_⟩, hr⟩
          simp [hop, V_v hv, Instr.sliceAt, Instr.slice, Sem.run_bind, run_underlying hu w, run_bounds (P := P) (bnd_sound h hlo) (bnd_sound h hhi) h0 h1 h2 (Nat.le_refl _) w]
      · cases hr
    · cases hr
  · rename_i args tys hop
    split at hr
    · rename_i x t hx ht
      split at hr
      · rename_i y hy
        have e1 : args = #[x] := by apply Array.ext'; simpa using hx
        have e2 : tys = #[t] := by apply Array.ext'; simpa using ht
        subst e1 e2
        obtain ⟨z, hz, hrun⟩ := evLen_sound h hy
        exact ⟨y, ⟨z, hz, by simp [hop, resolve, invoke, builtin, Sem.run_bind, hrun]⟩, hr⟩
      · cases hr
    · cases hr
  · rename_i args tys hop
    split at hr
    · rename_i vs hvs
      split at hr
      · rename_i q hq
        refine ⟨_, ⟨q, D_ofVal q, ?_⟩, hr⟩
        have hA : args.map a.eval = vs.toArray := by
          have := vals_map h hvs
          apply Array.ext'
          simpa using this
        simp [hop, resolve, invoke, builtin, Sem.run_bind, hA, comp_run hq w]
      · cases hr
    · cases hr
  · rename_i args tys hop
    split at hr
    · rename_i vs hvs
      split at hr
      · rename_i q hq
        refine ⟨_, ⟨q, D_ofVal q, ?_⟩, hr⟩
        have hA : args.map a.eval = vs.toArray := by
          have := vals_map h hvs
          apply Array.ext'
          simpa using this
        simp [hop, resolve, invoke, builtin, Sem.run_bind, hA, comp_run hq w]
      · cases hr
    · cases hr
  · rename_i op t x y ty' hop
    split at hr
    · rename_i ty xs hx hy
      have hvx := h.ev x; rw [hx] at hvx
      have hvy := V_v (by have := h.ev y; rwa [hy] at this)
      split at hr
      · rename_i e hu
        cases hz : Nat.beq xs.length 0 with
        | true => rw [hz] at hr; cases hr
        | false =>
          rw [hz] at hr
          obtain ⟨ad, m, c, hva⟩ := sl_some hvx (fun e => by subst e; cases hz)
          exact ⟨_, ⟨_, .v _, by simp [hop, hvy, hva, eqGuard, Sem.run_bind, (bin_slnil ad m c hu).1]⟩, hr⟩
      · rename_i e hu
        cases hz : Nat.beq xs.length 0 with
        | true => rw [hz] at hr; cases hr
        | false =>
          rw [hz] at hr
          obtain ⟨ad, m, c, hva⟩ := sl_some hvx (fun e => by subst e; cases hz)
          exact ⟨_, ⟨_, .v _, by simp [hop, hvy, hva, eqGuard, Sem.run_bind, (bin_slnil ad m c hu).2]⟩, hr⟩
      · cases hr
    · split at hr
      · rename_i x' hx'
        exact ⟨x', evQ_sound h hx', hr⟩
      · cases hr
  · rename_i t ad hop
    split at hr
    · rename_i b o0 ty m i d he
      split at hr
      · rename_i x hx
        have hv := h.ev ad; rw [he] at hv
        obtain ⟨y, hy, hrun⟩ := loadX_sound h.heap hv hx
        exact ⟨x, ⟨y, hy, by simp [hop, Sem.run_bind, hrun]⟩, hr⟩
      · cases hr
    · split at hr
      · rename_i x hx
        exact ⟨x, evQ_sound h hx, hr⟩
      · cases hr
  · rename_i hq
    split at hr
    · rename_i x hx
      exact ⟨x, evQ_sound h hx, hr⟩
    · cases hr
end
end Go.Proofs.YtgfifnadfmaolaaGreatDoor
