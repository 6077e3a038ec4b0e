/- An interpreter for closed calls: the evaluator answers its own calls, so many levels deep. -/
import Derived.Test.YtmgofekgjehegaaGreatDoorSF
namespace Go.Proofs.YtmgofekgjehegaaGreatDoor
open Go.RowKit
set_option linter.unusedVariables false
/-- No hints; what deferred calls answer. -/
def HI (D : Gam) : Hint := ⟨fun _ => false, fun _ => ⟨[], []⟩, [], D⟩
section
variable (P : Program) (GL : List AV) (n : Nat)
/-- One function. -/
def runI (G D : Gam) (f : FuncId) (args : List AV) (hp : List Blk) : Option (Bool × AV × List Blk) :=
  match P.funcs[f]? with
  | some fn => match fn.name == "runtime.NumGoroutine", fn.body with
    | false, some c => match okL (HI D) 0 c with
      | true => match runF P G (HI D) (runL P G (HI D) fn n) GL fn args hp with
        | some an => some (true, an.r, an.hp)
        | none => none
      | false => none
    | _, _ => none
  | none => none
def calI (G D : Gam) : Gam := fun c args hp => match c with
  | .f f => runI P GL n G D f args hp
  | .c x => match target P x.out args with
    | some (.f f, as) => runI P GL n G D f as hp
    | _ => none
def GI : Nat → Gam
  | 0 => G0
  | k + 1 => calI P GL n (GI k) (match k with | 0 => G0 | j + 1 => calI P GL n (GI j) G0)
end
section
variable {P : Program} {GL : List AV} {n : Nat}
theorem runI_ok {G D : Gam} (hG : GOk P GL G) (hD : GOkG (CD P) P GL D) {f : FuncId} {args : List AV} {hp : List Blk} {b : Bool} {r : AV} {hp' : List Blk} (h : runI P GL n G D f args hp = some (b, r, hp')) : FnOk P f ∧ Okay P GL f args hp ⟨r, hp'⟩ := by
  unfold runI at h
  split at h
  · rename_i fn hf
    split at h
    · rename_i c hn hb
      split at h
      · rename_i hu
        split at h
        · rename_i an hr
          simp at h
          obtain ⟨rfl, rfl, rfl⟩ := h
          exact ⟨⟨fn, hf, hn, by rw [hb]; rfl⟩, okay_of_run hG hD hf hb hu n hr⟩
        · cases h
      · cases h
    · cases h
  · cases h
theorem runI_okD {G : Gam} (hG : GOk P GL G) {f : FuncId} {args : List AV} {hp : List Blk} {b : Bool} {r : AV} {hp' : List Blk} (h : runI P GL n G G0 f args hp = some (b, r, hp')) : FnOk P f ∧ OkayD P GL f args hp ⟨r, hp'⟩ := by
  unfold runI at h
  split at h
  · rename_i fn hf
    split at h
    · rename_i c hn hb
      split at h
      · rename_i hu
        split at h
        · rename_i an hr
          simp at h
          obtain ⟨rfl, rfl, rfl⟩ := h
          exact ⟨⟨fn, hf, hn, by rw [hb]; rfl⟩, okayD_of_run hG rfl hf hb hu n hr⟩
        · cases h
      · cases h
    · cases h
  · cases h
theorem calI_ok {G D : Gam} (hG : GOk P GL G) (hD : GOkG (CD P) P GL D) : GOk P GL (calI P GL n G D) := by
  intro c args hp b r hp' h _
  unfold calI at h
  split at h
  · exact runI_ok hG hD h
  · split at h
    · rename_i f as ht
      exact ⟨f, as, ht, runI_ok hG hD h⟩
    · cases h
theorem calI_okD {G : Gam} (hG : GOk P GL G) : GOkG (CD P) P GL (calI P GL n G G0) := by
  intro c args hp b r hp' h _
  unfold calI at h
  split at h
  · exact runI_okD hG h
  · split at h
    · rename_i f as ht
      exact ⟨f, as, ht, runI_okD hG h⟩
    · cases h
theorem GI_ok : ∀ k, GOk P GL (GI P GL n k)
  | 0 => G0ok
  | 1 => calI_ok G0ok G0ok
  | k + 2 => calI_ok (GI_ok (k + 1)) (calI_okD (GI_ok k))
/-- A closed call. -/
theorem okay_of_GI {f : FuncId} {args : List AV} {hp : List Blk} {r : AV} {hp' : List Blk} (k : Nat) (h : GI P GL n k (.f f) args hp = some (true, r, hp')) : Okay P GL f args hp ⟨r, hp'⟩ := (GI_ok k (.f f) args hp true r hp' h rfl).2
end
end Go.Proofs.YtmgofekgjehegaaGreatDoor
