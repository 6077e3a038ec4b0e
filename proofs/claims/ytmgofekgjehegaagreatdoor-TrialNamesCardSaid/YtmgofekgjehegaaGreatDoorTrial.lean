/- The law TrialNames answers true: what cannot be booted is no pair of plays, picks that are too many are refused, and the errors have their numbers. No condition; the variables that the run reads are laid as the program's text lays them. This text: what the calls compute. -/
import Derived.Test.YtmgofekgjehegaaGreatDoorI
import Derived.Test.YtmgofekgjehegaaGreatDoorG
namespace Go.Proofs.YtmgofekgjehegaaGreatDoor.trialNames
open Go.RowKit
set_option linter.unusedVariables false
def refused : AV := .tup [.v (.pointer none), .v (.pointer none), .v (.bool false), .v (.int .i64 2)]
theorem run16 (J : Jmp) (c : Config) (p : Int) (one another : Play) : runF Pr G0 (HI G0) J GL Tryz.f16 [c.av, .v (.int .i64 p), one.av, another.av] [] =
    cond (decide ((one.picks.length : Int) > 65536)) (some ⟨refused, []⟩) (cond (decide ((another.picks.length : Int) > 65536)) (some ⟨refused, []⟩) none) := by kernel_rfl
theorem ok16 (c : Config) (p : Int) (one another : Play) (h : decide ((one.picks.length : Int) > 65536) = true) : Okay Pr GL 16 [c.av, .v (.int .i64 p), one.av, another.av] [] ⟨refused, []⟩ :=
  okay_of_run (H := HI G0) G0ok G0ok Tryz.func16 rfl (by kernel_rfl) 0 ((run16 ..).trans (by rw [h]; rfl))
def g16 (args : List AV) (hp : List Blk) : Option (Bool × AV × List Blk) :=
  match hp, args with
  | [], [x0, x1, x2, x3] => (rdS .sConfig x0).bind fun a0 => (rdL (.i .i64) x1).bind fun a1 => (rdS .sPlay x2).bind fun a2 => (rdS .sPlay x3).bind fun a3 => some (decide ((Play.picks a2).length > (65536 : Int)), refused, [])
  | _, _ => none
theorem g16_ok {args : List AV} {hp : List Blk} {b : Bool} {r : AV} {hp' : List Blk} (h : g16 args hp = some (b, r, hp')) (hb : b = true) : FnOk Pr 16 ∧ Okay Pr GL 16 args hp ⟨r, hp'⟩ := by
  unfold g16 at h
  split at h
  · simp only [Option.bind_eq_some_iff] at h
    obtain ⟨a0, h0, a1, h1, a2, h2, a3, h3, h⟩ := h
    cases h
    exact ⟨fnok Tryz.func16 (by kernel_rfl) rfl, (ok16 a0 a1 a2 a3 hb).ats (.cons (rdS_V h0) (.cons (rdL_V h1) (.cons (rdS_V h2) (.cons (rdS_V h3) .nil))))⟩
  · cases h
def G16 : Gam := fun c args hp => match c with
  | .f f => pick1 16 f (g16 args hp) none
  | .c x => none
theorem G16ok : GOk Pr GL G16 := by
  intro c args hp b r hp' h hb
  cases c with
  | f f =>
    simp only [G16] at h
    rcases pick1_ok h with ⟨rfl, h⟩ | h
    · exact g16_ok h hb
    · cases h
  | c x => cases h
def told : AV := .tup [.agg [.v (.bool false), .v (.int .i64 0), .v (.int .i64 0), .v (.int .i64 0)], .v (.int .i64 2)]
theorem run8 (J : Jmp) (c : Config) (p : Int) (one another : Play) : runF Pr G16 (HI G0) J GL Tryz.f8 [c.av, .v (.int .i64 p), one.av, another.av] [] =
    cond (decide ((one.picks.length : Int) > 65536)) (some ⟨told, []⟩) none := by kernel_rfl
theorem ok8 (c : Config) (p : Int) (one another : Play) (h : decide ((one.picks.length : Int) > 65536) = true) : Okay Pr GL 8 [c.av, .v (.int .i64 p), one.av, another.av] [] ⟨told, []⟩ :=
  okay_of_run (H := HI G0) G16ok G0ok Tryz.func8 rfl (by kernel_rfl) 0 ((run8 ..).trans (by rw [h]; rfl))
def g8 (args : List AV) (hp : List Blk) : Option (Bool × AV × List Blk) :=
  match hp, args with
  | [], [x0, x1, x2, x3] => (rdS .sConfig x0).bind fun a0 => (rdL (.i .i64) x1).bind fun a1 => (rdS .sPlay x2).bind fun a2 => (rdS .sPlay x3).bind fun a3 => some (decide ((Play.picks a2).length > (65536 : Int)), told, [])
  | _, _ => none
theorem g8_ok {args : List AV} {hp : List Blk} {b : Bool} {r : AV} {hp' : List Blk} (h : g8 args hp = some (b, r, hp')) (hb : b = true) : FnOk Pr 8 ∧ Okay Pr GL 8 args hp ⟨r, hp'⟩ := by
  unfold g8 at h
  split at h
  · simp only [Option.bind_eq_some_iff] at h
    obtain ⟨a0, h0, a1, h1, a2, h2, a3, h3, h⟩ := h
    cases h
    exact ⟨fnok Tryz.func8 (by kernel_rfl) rfl, (ok8 a0 a1 a2 a3 hb).ats (.cons (rdS_V h0) (.cons (rdL_V h1) (.cons (rdS_V h2) (.cons (rdS_V h3) .nil))))⟩
  · cases h
noncomputable def GA7 : Gam := GI Pr GL 12 12
theorem GA7ok : GOk Pr GL GA7 := GI_ok 12
noncomputable def GT : Gam := fun c args hp => match c with
  | .f f => pick1 8 f (g8 args hp) (pick1 7 f (GA7 (.f 7) args hp) none)
  | .c x => none
theorem GTok : GOk Pr GL GT := by
  intro c args hp b r hp' h hb
  cases c with
  | f f =>
    simp only [GT] at h
    rcases pick1_ok h with ⟨rfl, h1⟩ | h1
    · exact g8_ok h1 hb
    rcases pick1_ok h1 with ⟨rfl, h2⟩ | h2
    · exact GA7ok (.f 7) args hp b r hp' h2 hb
    · cases h2
  | c x => cases h
theorem run4 (J : Jmp) : runF Pr GT (HI G0) J GL Tryz.f4 [] [] = cond (decide ((((List.replicate (Int.toNat 65537) (0 : Int)).length : Nat) : Int) > 65536)) (some ⟨.v (.bool true), []⟩) none := by kernel_rfl
theorem walk : Okay Pr GL 4 [] [] ⟨.v (.bool true), []⟩ :=
  okay_of_run (H := HI G0) GTok G0ok Tryz.func4 rfl (by kernel_rfl) 0 ((run4 ..).trans (by rw [List.length_replicate]; rfl))
end Go.Proofs.YtmgofekgjehegaaGreatDoor.trialNames
