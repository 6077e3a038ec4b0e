/- What the printed shadows rest on. -/
import Derived.Test.YtgfifnadfmaolaaGreatDoorSF
import Derived.Test.YtgfifnadfmaolaaGreatDoorRows
namespace Go.Proofs.YtgfifnadfmaolaaGreatDoor
abbrev aCfg (c : Config) : AV := .agg [.v (.int .i64 c.frames), .v (.int .i64 c.major), .v (.int .i64 c.kernel), .v (.int .i64 c.room), .sl (.sl .sWindow) c.cores, .sl .sPartition c.partitions, .sl .sChannel c.channels]
def nodp : TypeId → List (Nat × TypeId) := fun _ => []
open Go.RowKit
set_option linter.unusedVariables false
noncomputable abbrev Pr : Program := Tryz.prog
def nowhere : Where := ⟨-1, -1⟩
def fine : AdmitFound := ⟨0, ⟨0, 0⟩⟩
def GL : List AV := [.el .sAdmitFound [fine] 0 0, .el .sWhere [nowhere] 0 0]
def lk : List (Nat × AV) → Nat → AV
  | [], _ => .undef
  | (j, x) :: r, i => match Nat.beq j i with | true => x | false => lk r i
def mkE (l : List (Nat × AV)) : Nat → Nat → List AV
  | 0, _ => []
  | n + 1, i => lk l i :: mkE l n (i + 1)
def fgt (keep : List Nat) : Nat → Nat → List Nat
  | 0, _ => []
  | n + 1, i => match keep.any (Nat.beq i) with | true => fgt keep n (i + 1) | false => i :: fgt keep n (i + 1)
def hdAt : List (Nat × Hd) → Nat → Hd
  | [], _ => ⟨[], []⟩
  | (j, x) :: r, i => match Nat.beq j i with | true => x | false => hdAt r i
def shad {L R : Type} (bod : (L → Option R) → L → Option R) : Nat → L → Option R
  | 0, _ => none
  | n + 1, l => bod (shad bod n) l
/-! ### What rounds lead to, without a count -/
theorem map_cond {α β : Type} (f : α → β) (b : Bool) (x y : Option α) : (cond b x y).map f = cond b (x.map f) (y.map f) := by cases b <;> rfl
theorem isSome_cond {α : Type} (b : Bool) (x y : Option α) : (cond b x y).isSome = cond b x.isSome y.isSome := by cases b <;> rfl
theorem cond_self {b x : Bool} : cond b x x = x := by cases b <;> rfl
theorem isSome_getD {α : Type} [Inhabited α] {o : Option α} (h : o.isSome = true) : o = some (o.getD default) := by cases o with | none => cases h | some x => rfl
def Le {R : Type} (a b : Option R) : Prop := ∀ r, a = some r → b = some r
open Classical in
noncomputable def lim {R : Type} (f : Nat → Option R) : Option R := if h : ∃ n r, f n = some r then f h.choose else none
def Chain {R : Type} (f : Nat → Option R) : Prop := ∀ n, Le (f n) (f (n + 1))
theorem Chain.le {R : Type} {f : Nat → Option R} (h : Chain f) {n m : Nat} (hm : n ≤ m) : Le (f n) (f m) := by
  induction hm with
  | refl => exact fun r h => h
  | step _ ih => exact fun r hr => h _ r (ih r hr)
theorem lim_some {R : Type} {f : Nat → Option R} (h : Chain f) {n : Nat} {r : R} (hr : f n = some r) : lim f = some r := by
  have hex : ∃ n r, f n = some r := ⟨n, r, hr⟩
  unfold lim
  rw [dif_pos hex]
  obtain ⟨r', h'⟩ := hex.choose_spec
  rcases Nat.le_total n hex.choose with h1 | h1
  · exact h.le h1 r hr
  · have := h.le h1 r' h'
    rw [hr] at this
    rw [h', this]
theorem lim_get {R : Type} {f : Nat → Option R} {r : R} (h : lim f = some r) : ∃ n, f n = some r := by
  unfold lim at h
  split at h
  · exact ⟨_, h⟩
  · cases h
structure CT {L R S : Type} (t : (L → Option R) → Option S) : Prop where
  mono : ∀ j j', (∀ l, Le (j l) (j' l)) → Le (t j) (t j')
  fin : ∀ s : Nat → L → Option R, (∀ l, Chain fun n => s n l) → ∀ r, t (fun l => lim fun n => s n l) = some r → ∃ n, t (s n) = some r
theorem CT.const {L R S : Type} (x : Option S) : CT (L := L) (R := R) fun _ => x := ⟨fun _ _ _ _ h => h, fun _ _ _ h => ⟨0, h⟩⟩
theorem CT.jump {L R : Type} (l : L) : CT (R := R) fun j => j l := ⟨fun _ _ h => h l, fun _ _ _ h => lim_get h⟩
theorem CT.cond {L R S : Type} {c : Bool} {a b : (L → Option R) → Option S} (ha : CT a) (hb : CT b) : CT fun j => cond c (a j) (b j) := by
  cases c
  · exact hb
  · exact ha
section
variable {L R : Type} {bod : (L → Option R) → L → Option R}
theorem shad_chain (h : ∀ l, CT fun j => bod j l) : ∀ n l, Le (shad bod n l) (shad bod (n + 1) l)
  | 0, l => fun r hr => by cases hr
  | n + 1, l => (h l).mono _ _ (shad_chain h n)
noncomputable def lfp (bod : (L → Option R) → L → Option R) (l : L) : Option R := lim fun n => shad bod n l
theorem lfp_eq (h : ∀ l, CT fun j => bod j l) (l : L) : lfp bod l = bod (lfp bod) l := by
  have hc : ∀ l, Chain fun n => shad bod n l := fun l n => shad_chain h n l
  cases hr : bod (lfp bod) l with
  | some r =>
    obtain ⟨n, hn⟩ := (h l).fin (shad bod) hc r hr
    exact lim_some (hc l) (n := n + 1) hn
  | none =>
    cases hl : lfp bod l with
    | none => rfl
    | some r =>
      exfalso
      obtain ⟨n, hn⟩ := lim_get hl
      cases n with
      | zero => cases hn
      | succ n =>
        have := (h l).mono (shad bod n) (lfp bod) (fun l' r' h' => lim_some (hc l') h') r hn
        rw [hr] at this
        cases this
theorem auto_ok {bodA : (L → Option Ans) → L → Option Ans} {entA : (L → Option Ans) → Option Ans} {entP : (L → Option R) → Option R} {toA : R → Ans} (hn : ∀ s l, bodA (fun l => (s l).map toA) l = (bod s l).map toA) (he : ∀ s, entA (fun l => (s l).map toA) = (entP s).map toA) (hc : ∀ l, CT fun j => bod j l) (hce : CT entP) {r : R} (h : entP (lfp bod) = some r) : ∃ n, entA (shad bodA n) = some (toA r) := by
  obtain ⟨n, hn'⟩ := hce.fin (shad bod) (fun l n => shad_chain hc n l) r h
  have key : ∀ n, shad bodA n = fun l => (shad bod n l).map toA := by
    intro n
    induction n with
    | zero => funext l; rfl
    | succ n ih => funext l; show bodA (shad bodA n) l = _; rw [ih]; exact hn _ l
  refine ⟨n, ?_⟩
  rw [key, he, hn']
  rfl
end
theorem auto_ok0 {R : Type} {entA : Option Ans} {entP : Option R} {toA : R → Ans} (he : entA = entP.map toA) {r : R} (h : entP = some r) : entA = some (toA r) := by rw [he, h]; rfl
def Has (x : AV) : Prop := ∃ F w β y, V F w β x y
theorem Has.len {t : Ty} {xs : List t.T} (h : Has (.sl t xs)) : xs.length ≤ 140737488355328 := by
  obtain ⟨F, w, β, y, h⟩ := h
  cases h
  · simp
  · assumption
theorem Has.cell {cs : List AV} (h : Has (.agg cs)) (j : Nat) (hj : j < cs.length) : Has (cs.getD j .undef) := by
  obtain ⟨F, w, β, y, h⟩ := h
  cases h with | agg _ ys hl hc => exact ⟨F, w, β, _, hc j hj⟩
theorem wrap_in (n : Int) (h0 : -9223372036854775808 ≤ n) (h1 : n < 9223372036854775808) : IntKind.i64.wrap n = n := by
  simp [IntKind.wrap, IntKind.bits, IntKind.signed]; omega
theorem step_eq (P : Program) (G : Gam) (H : Hint) (fn : Func) (n l : Nat) (st : St) : runL P G H fn (n + 1) l st = stepAt P G H (runL P G H fn n) l 0 (bodyOf fn) (fin P H fn) st := rfl
theorem inR_of {i : Nat} {n : Nat} (h : i < n) : inR (i : Int) n = true := inR_iff.2 ⟨by omega, by omega⟩
noncomputable def mn (a b : Int) : Int := match comp Pr (Builtin.min_ #[3, 3] 3 #[.int .i64 a, .int .i64 b]) with | some (.int _ n) => n | _ => 0
theorem mn_eq (a b : Int) : mn a b = min a b := by
  have h : mn a b = if b < a then b else a := by kernel_rfl
  rw [h]; omega
noncomputable def mx (a b : Int) : Int := match comp Pr (Builtin.max_ #[3, 3] 3 #[.int .i64 a, .int .i64 b]) with | some (.int _ n) => n | _ => 0
def byteAt (s : ByteArray) (i : Nat) : Int := (((s.data.getD i 0).toNat : Nat) : Int)
noncomputable def bop (op : BinOp) (k : IntKind) (a b : Int) : Int := match comp Pr (binOp op 3 (.int k a) (.int k b)) with | some (.int _ n) => n | _ => 0
def atInt (xs : List Int) (i : Nat) : Int := xs.getD i 0
def atBool (xs : List Bool) (i : Nat) : Bool := xs.getD i false
def atClo (xs : List Clo) (i : Nat) : Clo := xs.getD i .none
def atLInt (xs : List (List Int)) (i : Nat) : List Int := xs.getD i []
def atWindow (xs : List Window) (i : Nat) : Window := xs.getD i default
def atLWindow (xs : List (List Window)) (i : Nat) : List Window := xs.getD i []
def atRegion (xs : List Region) (i : Nat) : Region := xs.getD i default
def atPort (xs : List Port) (i : Nat) : Port := xs.getD i default
def atPartition (xs : List Partition) (i : Nat) : Partition := xs.getD i default
def atChannel (xs : List Channel) (i : Nat) : Channel := xs.getD i default
def atOwner (xs : List Owner) (i : Nat) : Owner := xs.getD i default
def atBulkheadlaw28Turn (xs : List Bulkheadlaw28Turn) (i : Nat) : Bulkheadlaw28Turn := xs.getD i default
def atPMemMemory (xs : List (Option MemMemory)) (i : Nat) : Option MemMemory := xs.getD i none
def atPartitionPlace (xs : List PartitionPlace) (i : Nat) : PartitionPlace := xs.getD i default
def atDestPlace (xs : List DestPlace) (i : Nat) : DestPlace := xs.getD i default
def atChannelPlace (xs : List ChannelPlace) (i : Nat) : ChannelPlace := xs.getD i default
def atBulkheadref15Piece (xs : List Bulkheadref15Piece) (i : Nat) : Bulkheadref15Piece := xs.getD i default
def atLayoutPiece (xs : List LayoutPiece) (i : Nat) : LayoutPiece := xs.getD i default
def atLayoutEnd (xs : List LayoutEnd) (i : Nat) : LayoutEnd := xs.getD i default
def atAdmitFound (xs : List AdmitFound) (i : Nat) : AdmitFound := xs.getD i default
def atLayoutAsked (xs : List LayoutAsked) (i : Nat) : LayoutAsked := xs.getD i default
end Go.Proofs.YtgfifnadfmaolaaGreatDoor
