/- Answers of functions over arguments that are read as data. -/
import Derived.Test.YtgfifnadfmaolaaGreatDoorC
namespace Go.Proofs.YtgfifnadfmaolaaGreatDoor
open Go.RowKit
set_option linter.unusedVariables false
def rdS (t : Ty) : AV → Option t.T
  | .agg cs => t.dec cs
  | _ => none
def rdL (t : Ty) (x : AV) : Option t.T := match Nat.beq t.sz 1, x with
  | true, .agg _ => none
  | true, .tup _ => none
  | true, x => t.dec [x]
  | false, _ => none
def rdP (t : Ty) (x : AV) : Option t.T := match opOf t x with | some (some x) => some x | _ => none
inductive Ats : List AV → List AV → Prop
  | nil : Ats [] []
  | cons {x z : AV} {l r : List AV} (h : ∀ F w β y, V F w β x y → V F w β z y) (h' : Ats l r) : Ats (x :: l) (z :: r)
theorem Ats.refl : ∀ l : List AV, Ats l l
  | [] => .nil
  | _ :: l => .cons (fun _ _ _ _ h => h) (Ats.refl l)
theorem Ats.len {l r : List AV} (h : Ats l r) : l.length = r.length := by
  induction h with
  | nil => rfl
  | cons _ _ ih => simp [ih]
theorem Ats.get {l r : List AV} (h : Ats l r) : ∀ (j : Nat) F w β y, V F w β (l.getD j .undef) y → V F w β (r.getD j .undef) y := by
  induction h with
  | nil => intro j F w β y h; exact h
  | cons h0 _ ih =>
    intro j F w β y h
    cases j with
    | zero => exact h0 F w β y h
    | succ j => exact ih j F w β y h
theorem Okay.ats {P : Program} {GL : List AV} {f : FuncId} {args args' : List AV} {hp : List Blk} {r : Ans} (h : Okay P GL f args' hp r) (ha : Ats args args') : Okay P GL f args hp r :=
  fun F w β vs hh hg hl hv => h F w β vs hh hg (hl.trans ha.len) fun j hj => ha.get j F w β _ (hv j (by rw [ha.len]; exact hj))
theorem fits_V {F : Nat → Prop} {w : World} {β : Gh} {cs zs : List AV} {ys : Array Value} (hl : cs.length = zs.length) (hf : Fits F w β cs zs) (h : V F w β (.agg cs) (.agg ys)) : V F w β (.agg zs) (.agg ys) := by
  cases h with
  | agg _ _ hy hc => exact .agg _ _ (hy.trans hl) fun j hj => hf j _ (by omega) (hc j (by omega))
theorem rdS_V {t : Ty} {x : AV} {s : t.T} (h : rdS t x = some s) : ∀ F w β y, V F w β x y → V F w β (.agg (t.enc s)) y := by
  intro F w β y hv
  unfold rdS at h
  split at h
  · rename_i cs
    obtain ⟨h1, h2⟩ := dec_fits (F := F) (w := w) (β := β) h
    cases hv with
    | agg _ ys hl hc => exact fits_V (by rw [h1, enc_len]) h2 (.agg _ ys hl hc)
  · cases h
theorem rdL_V {t : Ty} {x : AV} {s : t.T} (h : rdL t x = some s) : ∀ F w β y, V F w β x y → V F w β ((t.enc s).getD 0 .undef) y := by
  intro F w β y hv
  unfold rdL at h
  split at h
  · cases h
  · cases h
  · obtain ⟨h1, h2⟩ := dec_fits (F := F) (w := w) (β := β) h
    exact h2 0 y (by simp) (by simpa using hv)
  · cases h
theorem rdP_V {t : Ty} {x : AV} {s : t.T} (h : rdP t x = some s) : ∀ F w β y, V F w β x y → V F w β (.op t (some s)) y := by
  intro F w β y hv
  unfold rdP at h
  split at h
  · rename_i ho
    simp at h; subst h
    exact opOf_V ho hv
  · cases h
def pick1 (n f : FuncId) (x r : Option (Bool × AV × List Blk)) : Option (Bool × AV × List Blk) := match Nat.beq n f with | true => x | false => r
theorem pick1_ok {n f : FuncId} {x r : Option (Bool × AV × List Blk)} {q : Bool × AV × List Blk} (h : pick1 n f x r = some q) : (n = f ∧ x = some q) ∨ r = some q := by
  unfold pick1 at h
  split at h
  · rename_i hb; exact .inl ⟨Nat.eq_of_beq_eq_true hb, h⟩
  · exact .inr h
theorem fnok {n : FuncId} {fn : Func} {c : Code} (h : Pr.funcs[n]? = some fn) (hn : (fn.name == "runtime.NumGoroutine") = false) (hb : fn.body = some c) : FnOk Pr n := ⟨fn, h, hn, by rw [hb]; rfl⟩
end Go.Proofs.YtgfifnadfmaolaaGreatDoor
