/- The functions of the law TrialHolds. -/
import Derived.Test.YthobdipfccldgaaD
import Derived.Test.YthobdipfccldgaaRows
namespace Go.Proofs.Ythobdipfccldgaa
open Go.RowKit
set_option linter.unusedVariables false
noncomputable abbrev Pr : Program := Try.prog
def lk : List (Nat × AV) → Nat → AV
  | [], _ => .undef
  | (j, x) :: r, i => match Nat.beq j i with | true => x | false => lk r i
/-- So many slots, from the i-th on. -/
def mkE (l : List (Nat × AV)) : Nat → Nat → List AV
  | 0, _ => []
  | n + 1, i => lk l i :: mkE l n (i + 1)
/-- All slots but these. -/
def fgt (keep : List Nat) : Nat → Nat → List Nat
  | 0, _ => []
  | n + 1, i => match keep.any (Nat.beq i) with | true => fgt keep n (i + 1) | false => i :: fgt keep n (i + 1)
abbrev vi (n : Int) : AV := .v (.int .i64 n)
abbrev vb (b : Bool) : AV := .v (.bool b)
def G0 : Gam := fun _ _ => none
theorem G0ok (P : Program) (GL : List AV) : GOk P GL G0 := fun _ _ _ h => by cases h
def atS (xs : List Seen) (i : Nat) : Seen := xs.getD i default
/-- Are two different? -/
noncomputable def neS (x y : Seen) : Bool := match eqV Pr 10000 34 (.agg (((Ty.enc .sSeen x).map fun c => c.val1.getD undef).toArray)) (.agg (((Ty.enc .sSeen y).map fun c => c.val1.getD undef).toArray)) with | some b => !b | none => false
theorem neS_eq (x y : Seen) : neS x y = !(decide (x = y)) := by
  have h : neS x y = !((x.partition == y.partition) && ((x.epoch == y.epoch) && ((x.cycle == y.cycle) && ((x.pC == y.pC) && ((x.word == y.word) && ((x.trap == y.trap) && ((x.read == y.read) && ((x.addr == y.addr) && ((x.value == y.value) &&
    ((((x.after.regs.e0 == y.after.regs.e0) && ((x.after.regs.e1 == y.after.regs.e1) && ((x.after.regs.e2 == y.after.regs.e2) && ((x.after.regs.e3 == y.after.regs.e3) && ((x.after.regs.e4 == y.after.regs.e4) && ((x.after.regs.e5 == y.after.regs.e5) && ((x.after.regs.e6 == y.after.regs.e6) && ((x.after.regs.e7 == y.after.regs.e7) && ((x.after.regs.e8 == y.after.regs.e8) && ((x.after.regs.e9 == y.after.regs.e9) && ((x.after.regs.e10 == y.after.regs.e10) && ((x.after.regs.e11 == y.after.regs.e11) && ((x.after.regs.e12 == y.after.regs.e12) && ((x.after.regs.e13 == y.after.regs.e13) && ((x.after.regs.e14 == y.after.regs.e14) && ((x.after.regs.e15 == y.after.regs.e15) && true)))))))))))))))) && ((x.after.pC == y.after.pC) && true)) && true)))))))))) := by kernel_rfl
  rw [h]
  congr 1
  rw [Bool.eq_iff_iff]
  simp only [Bool.and_eq_true, beq_iff_eq, decide_eq_true_eq, and_true]
  constructor
  · rintro ⟨h0, h1, h2, h3, h4, h5, h6, h7, h8, ⟨r0, r1, r2, r3, r4, r5, r6, r7, r8, r9, r10, r11, r12, r13, r14, r15⟩, h9⟩
    ext1 <;> try assumption
    ext1 <;> try assumption
    ext1 <;> assumption
  · rintro rfl; simp
/-! ### same -/
def H10 : Nat → List Nat × Nat := fun _ => (fgt [0, 1, 12, 13] 26 0, 0)
def st10 (a b : List Seen) (i : Int) : St := ⟨mkE [(0, .sl .sSeen a), (1, .sl .sSeen b), (12, vi a.length), (13, vi i)] 26 0, [], []⟩
theorem head10 (J : Jmp) (a b : List Seen) (i : Int) : stepAt Pr G0 H10 J 0 0 (bodyOf Try.f10) (fin Pr Try.f10) (st10 a b i) =
    cond (decide (i < a.length)) (cond (inR i a.length) (cond (inR i b.length) (cond (neS (atS a i.toNat) (atS b i.toNat)) (some (vb false)) (J 0 (st10 a b (IntKind.i64.wrap (i + 1))))) none) none) (some (vb true)) := by kernel_rfl
theorem run10 (J : Jmp) (a b : List Seen) : runF Pr G0 H10 J [] Try.f10 [.sl .sSeen a, .sl .sSeen b] = cond (!((a.length : Int) == b.length)) (some (vb false)) (J 0 (st10 a b 0)) := by kernel_rfl
/-! ### begins -/
noncomputable def mn (a b : Int) : Int := match comp Pr (Builtin.min_ #[3, 3] 3 #[.int .i64 a, .int .i64 b]) with | some (.int _ n) => n | _ => 0
def H11 : Nat → List Nat × Nat := fun _ => (fgt [0, 1, 11, 12] 31 0, 0)
noncomputable def st11 (a b : List Seen) (i : Int) : St := ⟨mkE [(0, .sl .sSeen a), (1, .sl .sSeen b), (11, vi (mn a.length b.length)), (12, vi i)] 31 0, [], []⟩
theorem head11 (J : Jmp) (a b : List Seen) (i : Int) : stepAt Pr G0 H11 J 0 0 (bodyOf Try.f11) (fin Pr Try.f11) (st11 a b i) =
    cond (decide (i < mn a.length b.length)) (cond (inR i a.length) (cond (inR i b.length) (cond (neS (atS a i.toNat) (atS b i.toNat)) (some (.tup [vi i, vb false])) (J 0 (st11 a b (IntKind.i64.wrap (i + 1))))) none) none) (some (.tup [vi (mn a.length b.length), vb true])) := by kernel_rfl
theorem run11 (J : Jmp) (a b : List Seen) : runF Pr G0 H11 J [] Try.f11 [.sl .sSeen a, .sl .sSeen b] = J 0 (st11 a b 0) := by kernel_rfl
/-! ### the document's Hold -/
def H7 : Nat → List Nat × Nat := fun _ => (fgt [0, 1, 4, 6, 7] 41 0, 2)
def st7 (a b : List Seen) (s : Bool) (p i : Int) : St := ⟨mkE [(0, .sl .sSeen a), (1, .sl .sSeen b), (4, .ref 0 0), (6, .ref 1 0), (7, vi i)] 41 0, [.cells [vb false, vi 0, vi 0, vi 0], .cells [vb s, vi p, vi a.length, vi b.length]], []⟩
theorem head7 (J : Jmp) (a b : List Seen) (s : Bool) (p i : Int) : stepAt Pr G0 H7 J 0 0 (bodyOf Try.f7) (fin Pr Try.f7) (st7 a b s p i) =
    cond (decide (i ≥ 0)) (cond (inR i a.length) (cond (inR i b.length) (cond (neS (atS a i.toNat) (atS b i.toNat)) (J 0 (st7 a b false i (IntKind.i64.wrap (i - 1)))) (J 0 (st7 a b s p (IntKind.i64.wrap (i - 1))))) none) none) (some (.agg [vb s, vi p, vi a.length, vi b.length])) := by kernel_rfl
theorem run7 (J : Jmp) (a b : List Seen) : runF Pr G0 H7 J [] Try.f7 [.sl .sSeen a, .sl .sSeen b] =
    cond (decide ((b.length : Int) < a.length)) (J 0 (st7 a b true b.length (IntKind.i64.wrap (b.length - 1)))) (J 0 (st7 a b true a.length (IntKind.i64.wrap (a.length - 1)))) := by kernel_rfl
/-! ### copied -/
theorem run8 (J : Jmp) (a : List Seen) : runF Pr G0 H7 J [] Try.f8 [.sl .sSeen a] = cond (leB ((List.length ([] : List Seen) + a.length) * 120) 140737488355328) (some (.fr 34 .sSeen (([] : List Seen) ++ a))) none := by kernel_rfl
/-! ### What they answer -/
def eqS (x y : Seen) : Bool := decide (x = y)
theorem neS_not (x y : Seen) : neS x y = !(eqS x y) := neS_eq x y
/-- The first place, of so many, at which they differ. -/
def fd (a b : List Seen) : Nat → Option Nat
  | 0 => none
  | k + 1 => match fd a b k with
    | some j => some j
    | none => match eqS (atS a k) (atS b k) with | true => none | false => some k
def hS (a b : List Seen) : Bool := (fd a b (min a.length b.length)).isNone
def hA (a b : List Seen) : Int := ((fd a b (min a.length b.length)).getD (min a.length b.length) : Nat)
def holdV (a b : List Seen) : AV := .agg [vb (hS a b), vi (hA a b), vi a.length, vi b.length]
def sameS (a b : List Seen) : Bool := decide (a = b)
def ansSS (g : List Seen → List Seen → AV) : List AV → Option (Bool × AV)
  | [.sl .sSeen a, .sl .sSeen b] => some (true, g a b)
  | _ => none
def ans8 : List AV → Option (Bool × AV)
  | [.sl .sSeen a] => some (leB (a.length * 120) 140737488355328, .fr 34 .sSeen a)
  | _ => none
def pick1 (f g : FuncId) (x : Option (Bool × AV)) (r : Option (Bool × AV)) : Option (Bool × AV) := match Nat.beq f g with | true => x | false => r
def G1 : Gam := fun f xs => pick1 f 11 (ansSS (fun a b => .tup [vi (hA a b), vb (hS a b)]) xs) none
def G2 : Gam := fun f xs => pick1 f 7 (ansSS holdV xs) (pick1 f 9 (ansSS holdV xs) (pick1 f 10 (ansSS (fun a b => vb (sameS a b)) xs) (pick1 f 8 (ans8 xs) none)))
theorem run9 (J : Jmp) (a b : List Seen) : runF Pr G1 H7 J [] Try.f9 [.sl .sSeen a, .sl .sSeen b] = some (holdV a b) := by kernel_rfl
/-! ### the law -/
def bump (a : List Seen) : List Seen := List.set a 0 { atS a 0 with pC := IntKind.u32.wrap ((atS a 0).pC + 1) }
def eqHold (a b : List Seen) : Bool := (hS a b == hS a b) && ((hA a b == hA a b) && (((a.length : Int) == a.length) && (((b.length : Int) == b.length) && true)))
def rest5 (a b : List Seen) : Option AV := cond (leB ((bump a).length * 120) 140737488355328) (some (vb (eqHold (bump a) b))) none
def rest3 (a b : List Seen) : Option AV := cond ((a.length : Int) == 0) (some (vb true)) (cond (inR 0 a.length) (cond (inR 0 a.length) (rest5 a b) none) none)
def restK (a b : List Seen) (e : Bool) : Option AV := cond (!e) (some (vb false)) (cond (!(eqHold a b)) (some (vb false)) (cond (!(eqHold a b)) (some (vb false)) (cond (!(sameS a a)) (some (vb false)) (cond (!(sameS b b)) (some (vb false)) (rest3 a b)))))
def rest2 (a b : List Seen) : Option AV := cond (hS b a == hS a b) (cond (hA b a == hA a b) (cond ((b.length : Int) == b.length) (restK a b ((a.length : Int) == a.length)) (some (vb false))) (some (vb false))) (some (vb false))
theorem run6 (J : Jmp) (a b : List Seen) : runF Pr G2 H7 J [] Try.f6 [.sl .sSeen a, .sl .sSeen b] =
    cond (decide ((a.length : Int) > 2147483647)) (some (vb true)) (cond (decide ((b.length : Int) > 2147483647)) (some (vb true)) (cond (leB (a.length * 120) 140737488355328) (cond (leB (b.length * 120) 140737488355328) (rest2 a b) none) none)) := by kernel_rfl
/-! ### The plain part -/
theorem mn_eq (a b : Int) : mn a b = min a b := by
  have h : mn a b = if b < a then b else a := by kernel_rfl
  rw [h]; omega
end Go.Proofs.Ythobdipfccldgaa
