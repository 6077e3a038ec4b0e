/- The universe of this seat: the struct types as Lean structures, what slices may hold, abstract values. (Printed by gen_u.py off the types' table.) -/
import Derived.WalkKit
import Derived.Below
import Derived.RowKit3
namespace Go.Proofs.Ythobdipfccldgaa
set_option linter.unusedVariables false
@[ext] structure Verdict where
  same : Bool
  at_ : Int
  one : Int
  another : Int
  deriving Inhabited, DecidableEq

@[ext] structure Arr16Intu32 where
  e0 : Int
  e1 : Int
  e2 : Int
  e3 : Int
  e4 : Int
  e5 : Int
  e6 : Int
  e7 : Int
  e8 : Int
  e9 : Int
  e10 : Int
  e11 : Int
  e12 : Int
  e13 : Int
  e14 : Int
  e15 : Int
  deriving Inhabited, DecidableEq

@[ext] structure Context where
  regs : Arr16Intu32
  pC : Int
  deriving Inhabited, DecidableEq

@[ext] structure Seen where
  partition : Int
  epoch : Int
  cycle : Int
  pC : Int
  word : Int
  trap : Int
  read : Bool
  addr : Int
  value : Int
  after : Context
  deriving Inhabited, DecidableEq

/-- The codes of what a slice may hold. -/
inductive Ty where
  | i (k : IntKind) | b | s | sl (t : Ty)
  | sVerdict
  | sArr16Intu32
  | sContext
  | sSeen
  deriving DecidableEq

def Ty.T : Ty → Type
  | .i _ => Int | .b => Bool | .s => ByteArray | .sl t => List t.T
  | .sVerdict => Verdict
  | .sArr16Intu32 => Arr16Intu32
  | .sContext => Context
  | .sSeen => Seen

instance : (t : Ty) → Inhabited t.T
  | .i _ => ⟨(0 : Int)⟩ | .b => ⟨false⟩ | .s => ⟨ByteArray.empty⟩ | .sl t => ⟨([] : List t.T)⟩
  | .sVerdict => ⟨(default : Verdict)⟩
  | .sArr16Intu32 => ⟨(default : Arr16Intu32)⟩
  | .sContext => ⟨(default : Context)⟩
  | .sSeen => ⟨(default : Seen)⟩

/-- Abstract values. -/
inductive AV where
  | undef
  | v (x : Value)
  | agg (cs : List AV)
  | tup (vs : List AV)
  | sl (t : Ty) (xs : List t.T)
  | ref (b off : Nat)
  | el (t : Ty) (xs : List t.T) (i off : Nat)
  | own (b : Nat)
  | oel (b sz i off : Nat)
  | fr (e : TypeId) (t : Ty) (xs : List t.T)

/-- The cells of an element. -/
def Ty.enc : (t : Ty) → t.T → List AV
  | .i k, x => [.v (.int k x)] | .b, x => [.v (.bool x)] | .s, x => [.v (.string x)] | .sl t, x => [.sl t x]
  | .sVerdict, x => [.v (.bool x.same), .v (.int .i64 x.at_), .v (.int .i64 x.one), .v (.int .i64 x.another)]
  | .sArr16Intu32, x => [.v (.int .u32 x.e0), .v (.int .u32 x.e1), .v (.int .u32 x.e2), .v (.int .u32 x.e3), .v (.int .u32 x.e4), .v (.int .u32 x.e5), .v (.int .u32 x.e6), .v (.int .u32 x.e7), .v (.int .u32 x.e8), .v (.int .u32 x.e9), .v (.int .u32 x.e10), .v (.int .u32 x.e11), .v (.int .u32 x.e12), .v (.int .u32 x.e13), .v (.int .u32 x.e14), .v (.int .u32 x.e15)]
  | .sContext, x => [.v (.int .u32 x.regs.e0), .v (.int .u32 x.regs.e1), .v (.int .u32 x.regs.e2), .v (.int .u32 x.regs.e3), .v (.int .u32 x.regs.e4), .v (.int .u32 x.regs.e5), .v (.int .u32 x.regs.e6), .v (.int .u32 x.regs.e7), .v (.int .u32 x.regs.e8), .v (.int .u32 x.regs.e9), .v (.int .u32 x.regs.e10), .v (.int .u32 x.regs.e11), .v (.int .u32 x.regs.e12), .v (.int .u32 x.regs.e13), .v (.int .u32 x.regs.e14), .v (.int .u32 x.regs.e15), .v (.int .u32 x.pC)]
  | .sSeen, x => [.v (.int .i64 x.partition), .v (.int .i64 x.epoch), .v (.int .i64 x.cycle), .v (.int .u32 x.pC), .v (.int .u32 x.word), .v (.int .i64 x.trap), .v (.bool x.read), .v (.int .u32 x.addr), .v (.int .u32 x.value), .v (.int .u32 x.after.regs.e0), .v (.int .u32 x.after.regs.e1), .v (.int .u32 x.after.regs.e2), .v (.int .u32 x.after.regs.e3), .v (.int .u32 x.after.regs.e4), .v (.int .u32 x.after.regs.e5), .v (.int .u32 x.after.regs.e6), .v (.int .u32 x.after.regs.e7), .v (.int .u32 x.after.regs.e8), .v (.int .u32 x.after.regs.e9), .v (.int .u32 x.after.regs.e10), .v (.int .u32 x.after.regs.e11), .v (.int .u32 x.after.regs.e12), .v (.int .u32 x.after.regs.e13), .v (.int .u32 x.after.regs.e14), .v (.int .u32 x.after.regs.e15), .v (.int .u32 x.after.pC)]

def Ty.sz : Ty → Nat
  | .i _ => 1 | .b => 1 | .s => 1 | .sl _ => 1
  | .sVerdict => 4
  | .sArr16Intu32 => 16
  | .sContext => 17
  | .sSeen => 26

/-- A cell that is a slice of this type; the empty one of no address, too. -/
def slOf (t : Ty) : AV → Option (List t.T)
  | .sl t' xs => match decEq t' t with | isTrue h => some (h ▸ xs) | isFalse _ => none
  | .v (.slice _ n _) => match n with | 0 => some [] | _ + 1 => none
  | _ => none

def Ty.dec : (t : Ty) → List AV → Option t.T
  | .i k, cs => (match cs with | [.v (.int k' x)] => (if k = k' then some x else none) | _ => none : Option Int)
  | .b, cs => (match cs with | [.v (.bool x)] => some x | _ => none : Option Bool)
  | .s, cs => (match cs with | [.v (.string x)] => some x | _ => none : Option ByteArray)
  | .sl t, cs => (match cs with | [x] => slOf t x | _ => none : Option (List t.T))
  | .sVerdict, cs => (match cs with | [.v (.bool y0), .v (.int .i64 y1), .v (.int .i64 y2), .v (.int .i64 y3)] => (some (⟨y0, y1, y2, y3⟩ : Verdict)) | _ => none : Option Verdict)
  | .sArr16Intu32, cs => (match cs with | [.v (.int .u32 y0), .v (.int .u32 y1), .v (.int .u32 y2), .v (.int .u32 y3), .v (.int .u32 y4), .v (.int .u32 y5), .v (.int .u32 y6), .v (.int .u32 y7), .v (.int .u32 y8), .v (.int .u32 y9), .v (.int .u32 y10), .v (.int .u32 y11), .v (.int .u32 y12), .v (.int .u32 y13), .v (.int .u32 y14), .v (.int .u32 y15)] => (some (⟨y0, y1, y2, y3, y4, y5, y6, y7, y8, y9, y10, y11, y12, y13, y14, y15⟩ : Arr16Intu32)) | _ => none : Option Arr16Intu32)
  | .sContext, cs => (match cs with | [.v (.int .u32 y0), .v (.int .u32 y1), .v (.int .u32 y2), .v (.int .u32 y3), .v (.int .u32 y4), .v (.int .u32 y5), .v (.int .u32 y6), .v (.int .u32 y7), .v (.int .u32 y8), .v (.int .u32 y9), .v (.int .u32 y10), .v (.int .u32 y11), .v (.int .u32 y12), .v (.int .u32 y13), .v (.int .u32 y14), .v (.int .u32 y15), .v (.int .u32 y16)] => (some (⟨⟨y0, y1, y2, y3, y4, y5, y6, y7, y8, y9, y10, y11, y12, y13, y14, y15⟩, y16⟩ : Context)) | _ => none : Option Context)
  | .sSeen, cs => (match cs with | [.v (.int .i64 y0), .v (.int .i64 y1), .v (.int .i64 y2), .v (.int .u32 y3), .v (.int .u32 y4), .v (.int .i64 y5), .v (.bool y6), .v (.int .u32 y7), .v (.int .u32 y8), .v (.int .u32 y9), .v (.int .u32 y10), .v (.int .u32 y11), .v (.int .u32 y12), .v (.int .u32 y13), .v (.int .u32 y14), .v (.int .u32 y15), .v (.int .u32 y16), .v (.int .u32 y17), .v (.int .u32 y18), .v (.int .u32 y19), .v (.int .u32 y20), .v (.int .u32 y21), .v (.int .u32 y22), .v (.int .u32 y23), .v (.int .u32 y24), .v (.int .u32 y25)] => (some (⟨y0, y1, y2, y3, y4, y5, y6, y7, y8, ⟨⟨y9, y10, y11, y12, y13, y14, y15, y16, y17, y18, y19, y20, y21, y22, y23, y24⟩, y25⟩⟩ : Seen)) | _ => none : Option Seen)

/-- The codes of the seat's types. -/
def tyOf : TypeId → Option Ty
  | 2 => some (.i .i64)
  | 3 => some (.i .i64)
  | 4 => some .b
  | 5 => some (.i .u8)
  | 6 => some (.i .u8)
  | 9 => some .s
  | 10 => some .s
  | 11 => some .s
  | 12 => some (.i .u64)
  | 21 => some (.i .i32)
  | 23 => some (.sl .sSeen)
  | 25 => some .sVerdict
  | 29 => some (.i .u32)
  | 30 => some .sArr16Intu32
  | 32 => some .sContext
  | 34 => some .sSeen
  | 44 => some (.i .u8)
  | 45 => some (.i .u8)
  | 48 => some (.i .i32)
  | 49 => some (.i .i32)
  | _ => none
def Ty.leaves : Ty → List Ty
  | .i k => [.i k] | .b => [.b] | .s => [.s] | .sl t => [.sl t]
  | .sVerdict => [.b, .i .i64, .i .i64, .i .i64]
  | .sArr16Intu32 => [.i .u32, .i .u32, .i .u32, .i .u32, .i .u32, .i .u32, .i .u32, .i .u32, .i .u32, .i .u32, .i .u32, .i .u32, .i .u32, .i .u32, .i .u32, .i .u32]
  | .sContext => [.i .u32, .i .u32, .i .u32, .i .u32, .i .u32, .i .u32, .i .u32, .i .u32, .i .u32, .i .u32, .i .u32, .i .u32, .i .u32, .i .u32, .i .u32, .i .u32, .i .u32]
  | .sSeen => [.i .i64, .i .i64, .i .i64, .i .u32, .i .u32, .i .i64, .b, .i .u32, .i .u32, .i .u32, .i .u32, .i .u32, .i .u32, .i .u32, .i .u32, .i .u32, .i .u32, .i .u32, .i .u32, .i .u32, .i .u32, .i .u32, .i .u32, .i .u32, .i .u32, .i .u32]

def tyMax : Nat := 53
abbrev Verdict.av (x : Verdict) : AV := .agg [.v (.bool x.same), .v (.int .i64 x.at_), .v (.int .i64 x.one), .v (.int .i64 x.another)]
abbrev Arr16Intu32.av (x : Arr16Intu32) : AV := .agg [.v (.int .u32 x.e0), .v (.int .u32 x.e1), .v (.int .u32 x.e2), .v (.int .u32 x.e3), .v (.int .u32 x.e4), .v (.int .u32 x.e5), .v (.int .u32 x.e6), .v (.int .u32 x.e7), .v (.int .u32 x.e8), .v (.int .u32 x.e9), .v (.int .u32 x.e10), .v (.int .u32 x.e11), .v (.int .u32 x.e12), .v (.int .u32 x.e13), .v (.int .u32 x.e14), .v (.int .u32 x.e15)]
abbrev Context.av (x : Context) : AV := .agg [.v (.int .u32 x.regs.e0), .v (.int .u32 x.regs.e1), .v (.int .u32 x.regs.e2), .v (.int .u32 x.regs.e3), .v (.int .u32 x.regs.e4), .v (.int .u32 x.regs.e5), .v (.int .u32 x.regs.e6), .v (.int .u32 x.regs.e7), .v (.int .u32 x.regs.e8), .v (.int .u32 x.regs.e9), .v (.int .u32 x.regs.e10), .v (.int .u32 x.regs.e11), .v (.int .u32 x.regs.e12), .v (.int .u32 x.regs.e13), .v (.int .u32 x.regs.e14), .v (.int .u32 x.regs.e15), .v (.int .u32 x.pC)]
abbrev Seen.av (x : Seen) : AV := .agg [.v (.int .i64 x.partition), .v (.int .i64 x.epoch), .v (.int .i64 x.cycle), .v (.int .u32 x.pC), .v (.int .u32 x.word), .v (.int .i64 x.trap), .v (.bool x.read), .v (.int .u32 x.addr), .v (.int .u32 x.value), .v (.int .u32 x.after.regs.e0), .v (.int .u32 x.after.regs.e1), .v (.int .u32 x.after.regs.e2), .v (.int .u32 x.after.regs.e3), .v (.int .u32 x.after.regs.e4), .v (.int .u32 x.after.regs.e5), .v (.int .u32 x.after.regs.e6), .v (.int .u32 x.after.regs.e7), .v (.int .u32 x.after.regs.e8), .v (.int .u32 x.after.regs.e9), .v (.int .u32 x.after.regs.e10), .v (.int .u32 x.after.regs.e11), .v (.int .u32 x.after.regs.e12), .v (.int .u32 x.after.regs.e13), .v (.int .u32 x.after.regs.e14), .v (.int .u32 x.after.regs.e15), .v (.int .u32 x.after.pC)]

end Go.Proofs.Ythobdipfccldgaa
