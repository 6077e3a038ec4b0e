/- The universe of this seat: the struct types as Lean structures, what slices may hold, abstract values. (Printed by gen_v.py off the types' table.) -/
import Derived.WalkKit
import Derived.Below
import Derived.RowKit3
namespace Go.Proofs.YthnkmndjhedgdaaDoor
set_option linter.unusedVariables false
@[ext] structure Window where
  partition : Int
  usable : Int
  slack : Int
  deriving Inhabited, DecidableEq

@[ext] structure Region where
  page : Int
  pages : Int
  frame : Int
  rights : Int
  deriving Inhabited, DecidableEq

@[ext] structure Port where
  channel : Int
  source : Bool
  deriving Inhabited, DecidableEq

@[ext] structure Partition where
  name : ByteArray
  entry : Int
  action : Int
  restarts : Int
  inputs : Int
  outputs : Int
  regions : (List Region)
  ports : (List Port)
  deriving Inhabited, DecidableEq

@[ext] structure Channel where
  kind : Int
  words : Int
  depth : Int
  deriving Inhabited, DecidableEq

@[ext] structure Config where
  frames : Int
  major : Int
  kernel : Int
  room : Int
  cores : (List (List Window))
  partitions : (List Partition)
  channels : (List Channel)
  deriving Inhabited, DecidableEq

@[ext] structure Owner where
  kind : Int
  index : Int
  port : Int
  deriving Inhabited, DecidableEq

@[ext] structure Where where
  first : Int
  second : Int
  deriving Inhabited, DecidableEq

@[ext] structure Bulkheadref15Piece where
  at_ : Int
  size : Int
  owner : Owner
  deriving Inhabited, DecidableEq

@[ext] structure AdmitFound where
  e : Int
  where_ : Where
  deriving Inhabited, DecidableEq

@[ext] structure MemMemory where
  words : (List Int)
  deriving Inhabited, DecidableEq

@[ext] structure PartitionPlace where
  lock : Int
  save : Int
  state : Int
  root : Int
  tables : (List Int)
  deriving Inhabited, DecidableEq

@[ext] structure DestPlace where
  partition : Int
  port : Int
  at_ : Int
  deriving Inhabited, DecidableEq

@[ext] structure ChannelPlace where
  lock : Int
  stage : Int
  partition : Int
  port : Int
  dests : (List DestPlace)
  deriving Inhabited, DecidableEq

@[ext] structure Layout where
  barrier : Int
  partitions : (List PartitionPlace)
  channels : (List ChannelPlace)
  end_ : Int
  deriving Inhabited, DecidableEq

@[ext] structure LayoutPiece where
  at_ : Int
  many : Int
  owner : Owner
  deriving Inhabited, DecidableEq

@[ext] structure LayoutEnd where
  partition : Int
  port : Int
  deriving Inhabited, DecidableEq

@[ext] structure LayoutSize where
  channel : Channel
  deriving Inhabited, DecidableEq

/-- Closures that rows hold: which function, what it holds. -/
inductive Clo where
  | none
  | c53 (x0 : Config)
  | c56 (x0 : Config)
  | c57 (x0 : Config)
  | c58 (x0 : Config)
  | c59 (x0 : Config)
  | c60 (x0 : Config) (x1 : Int)
  | c62 (x0 : Config) (x1 : Int)
  | c64 (x0 : Config) (x1 : Int)
  | c66 (x0 : Config)
  | c90 (x0 : LayoutSize)
  | c91 (x0 : LayoutSize)
  deriving Inhabited, DecidableEq

@[ext] structure LayoutAsked where
  stage : Clo
  port : Clo
  deriving Inhabited, DecidableEq

/-- The codes of what a slice may hold. -/
inductive Ty where
  | i (k : IntKind) | b | s | f | sl (t : Ty) | p (t : Ty)
  | sWindow
  | sRegion
  | sPort
  | sPartition
  | sChannel
  | sConfig
  | sOwner
  | sWhere
  | sBulkheadref15Piece
  | sAdmitFound
  | sMemMemory
  | sPartitionPlace
  | sDestPlace
  | sChannelPlace
  | sLayout
  | sLayoutPiece
  | sLayoutEnd
  | sLayoutSize
  | sLayoutAsked
  deriving DecidableEq

def Ty.T : Ty → Type
  | .i _ => Int | .b => Bool | .s => ByteArray | .f => Clo | .sl t => List t.T | .p t => Option t.T
  | .sWindow => Window
  | .sRegion => Region
  | .sPort => Port
  | .sPartition => Partition
  | .sChannel => Channel
  | .sConfig => Config
  | .sOwner => Owner
  | .sWhere => Where
  | .sBulkheadref15Piece => Bulkheadref15Piece
  | .sAdmitFound => AdmitFound
  | .sMemMemory => MemMemory
  | .sPartitionPlace => PartitionPlace
  | .sDestPlace => DestPlace
  | .sChannelPlace => ChannelPlace
  | .sLayout => Layout
  | .sLayoutPiece => LayoutPiece
  | .sLayoutEnd => LayoutEnd
  | .sLayoutSize => LayoutSize
  | .sLayoutAsked => LayoutAsked

instance : (t : Ty) → Inhabited t.T
  | .i _ => ⟨(0 : Int)⟩ | .b => ⟨false⟩ | .s => ⟨ByteArray.empty⟩ | .f => ⟨Clo.none⟩ | .sl t => ⟨([] : List t.T)⟩ | .p t => ⟨(none : Option t.T)⟩
  | .sWindow => ⟨(default : Window)⟩
  | .sRegion => ⟨(default : Region)⟩
  | .sPort => ⟨(default : Port)⟩
  | .sPartition => ⟨(default : Partition)⟩
  | .sChannel => ⟨(default : Channel)⟩
  | .sConfig => ⟨(default : Config)⟩
  | .sOwner => ⟨(default : Owner)⟩
  | .sWhere => ⟨(default : Where)⟩
  | .sBulkheadref15Piece => ⟨(default : Bulkheadref15Piece)⟩
  | .sAdmitFound => ⟨(default : AdmitFound)⟩
  | .sMemMemory => ⟨(default : MemMemory)⟩
  | .sPartitionPlace => ⟨(default : PartitionPlace)⟩
  | .sDestPlace => ⟨(default : DestPlace)⟩
  | .sChannelPlace => ⟨(default : ChannelPlace)⟩
  | .sLayout => ⟨(default : Layout)⟩
  | .sLayoutPiece => ⟨(default : LayoutPiece)⟩
  | .sLayoutEnd => ⟨(default : LayoutEnd)⟩
  | .sLayoutSize => ⟨(default : LayoutSize)⟩
  | .sLayoutAsked => ⟨(default : LayoutAsked)⟩

/-- Abstract values. -/
inductive AV where
  | undef
  | v (x : Value)
  | agg (cs : List AV)
  | tup (vs : List AV)
  | sl (t : Ty) (xs : List t.T)
  | op (t : Ty) (x : Option t.T)
  | el (t : Ty) (xs : List t.T) (i off : Nat)
  | ref (b off : Nat)
  | own (b : Nat)
  | oel (b sz i off : Nat)
  | rex (b o0 : Nat) (t : Ty) (m i d : Nat)
  | vw (b sz o n : Nat)
  | fn (f : Fn) (first cap : List AV)
  | clo (c : Clo)
  | ifc (t : TypeId) (x : AV)

/-- The cells of an element. -/
def Ty.enc : (t : Ty) → t.T → List AV
  | .i k, x => [.v (.int k x)] | .b, x => [.v (.bool x)] | .s, x => [.v (.string x)] | .f, x => [.clo x] | .sl t, x => [.sl t x] | .p t, x => [.op t x]
  | .sWindow, x => [.v (.int .i64 x.partition), .v (.int .i64 x.usable), .v (.int .i64 x.slack)]
  | .sRegion, x => [.v (.int .i64 x.page), .v (.int .i64 x.pages), .v (.int .i64 x.frame), .v (.int .i64 x.rights)]
  | .sPort, x => [.v (.int .i64 x.channel), .v (.bool x.source)]
  | .sPartition, x => [.v (.string x.name), .v (.int .i64 x.entry), .v (.int .i64 x.action), .v (.int .i64 x.restarts), .v (.int .i64 x.inputs), .v (.int .i64 x.outputs), .sl .sRegion x.regions, .sl .sPort x.ports]
  | .sChannel, x => [.v (.int .i64 x.kind), .v (.int .i64 x.words), .v (.int .i64 x.depth)]
  | .sConfig, x => [.v (.int .i64 x.frames), .v (.int .i64 x.major), .v (.int .i64 x.kernel), .v (.int .i64 x.room), .sl (.sl .sWindow) x.cores, .sl .sPartition x.partitions, .sl .sChannel x.channels]
  | .sOwner, x => [.v (.int .i64 x.kind), .v (.int .i64 x.index), .v (.int .i64 x.port)]
  | .sWhere, x => [.v (.int .i64 x.first), .v (.int .i64 x.second)]
  | .sBulkheadref15Piece, x => [.v (.int .i64 x.at_), .v (.int .i64 x.size), .v (.int .i64 x.owner.kind), .v (.int .i64 x.owner.index), .v (.int .i64 x.owner.port)]
  | .sAdmitFound, x => [.v (.int .i64 x.e), .v (.int .i64 x.where_.first), .v (.int .i64 x.where_.second)]
  | .sMemMemory, x => [.sl (.i .u32) x.words]
  | .sPartitionPlace, x => [.v (.int .i64 x.lock), .v (.int .i64 x.save), .v (.int .i64 x.state), .v (.int .i64 x.root), .sl (.i .i64) x.tables]
  | .sDestPlace, x => [.v (.int .i64 x.partition), .v (.int .i64 x.port), .v (.int .i64 x.at_)]
  | .sChannelPlace, x => [.v (.int .i64 x.lock), .v (.int .i64 x.stage), .v (.int .i64 x.partition), .v (.int .i64 x.port), .sl .sDestPlace x.dests]
  | .sLayout, x => [.v (.int .i64 x.barrier), .sl .sPartitionPlace x.partitions, .sl .sChannelPlace x.channels, .v (.int .i64 x.end_)]
  | .sLayoutPiece, x => [.v (.int .i64 x.at_), .v (.int .i64 x.many), .v (.int .i64 x.owner.kind), .v (.int .i64 x.owner.index), .v (.int .i64 x.owner.port)]
  | .sLayoutEnd, x => [.v (.int .i64 x.partition), .v (.int .i64 x.port)]
  | .sLayoutSize, x => [.v (.int .i64 x.channel.kind), .v (.int .i64 x.channel.words), .v (.int .i64 x.channel.depth)]
  | .sLayoutAsked, x => [.clo x.stage, .clo x.port]

def Ty.sz : Ty → Nat
  | .i _ => 1 | .b => 1 | .s => 1 | .f => 1 | .sl _ => 1 | .p _ => 1
  | .sWindow => 3
  | .sRegion => 4
  | .sPort => 2
  | .sPartition => 8
  | .sChannel => 3
  | .sConfig => 7
  | .sOwner => 3
  | .sWhere => 2
  | .sBulkheadref15Piece => 5
  | .sAdmitFound => 3
  | .sMemMemory => 1
  | .sPartitionPlace => 5
  | .sDestPlace => 3
  | .sChannelPlace => 5
  | .sLayout => 4
  | .sLayoutPiece => 5
  | .sLayoutEnd => 2
  | .sLayoutSize => 3
  | .sLayoutAsked => 2

/-- How many bytes an element takes. -/
def Ty.by : Ty → Nat
  | .i k => (match k with | .i8 => 1 | .u8 => 1 | .i16 => 2 | .u16 => 2 | .i32 => 4 | .u32 => 4 | _ => 8) | .b => 1 | .s => 16 | .f => 8 | .sl _ => 24 | .p _ => 8
  | .sWindow => 24
  | .sRegion => 32
  | .sPort => 16
  | .sPartition => 104
  | .sChannel => 24
  | .sConfig => 104
  | .sOwner => 24
  | .sWhere => 16
  | .sBulkheadref15Piece => 40
  | .sAdmitFound => 24
  | .sMemMemory => 24
  | .sPartitionPlace => 56
  | .sDestPlace => 24
  | .sChannelPlace => 56
  | .sLayout => 64
  | .sLayoutPiece => 40
  | .sLayoutEnd => 16
  | .sLayoutSize => 24
  | .sLayoutAsked => 16

/-- Does an element lead nowhere? -/
def Ty.flat : Ty → Bool
  | .i _ => true | .b => true | .s => true | .f => false | .sl _ => false | .p _ => false
  | .sWindow => true
  | .sRegion => true
  | .sPort => true
  | .sPartition => false
  | .sChannel => true
  | .sConfig => false
  | .sOwner => true
  | .sWhere => true
  | .sBulkheadref15Piece => true
  | .sAdmitFound => true
  | .sMemMemory => false
  | .sPartitionPlace => false
  | .sDestPlace => true
  | .sChannelPlace => false
  | .sLayout => false
  | .sLayoutPiece => true
  | .sLayoutEnd => true
  | .sLayoutSize => true
  | .sLayoutAsked => false

/-- What a closure of a row is. -/
def Clo.out : Clo → AV
  | .none => .v .nilFunc
  | .c53 x0 => .fn (.func 53) [] [.op .sConfig (some x0)]
  | .c56 x0 => .fn (.func 56) [] [.op .sConfig (some x0)]
  | .c57 x0 => .fn (.func 57) [] [.op .sConfig (some x0)]
  | .c58 x0 => .fn (.func 58) [] [.op .sConfig (some x0)]
  | .c59 x0 => .fn (.func 59) [] [.op .sConfig (some x0)]
  | .c60 x0 x1 => .fn (.func 60) [] [.op .sConfig (some x0), .op (.i .i64) (some x1)]
  | .c62 x0 x1 => .fn (.func 62) [] [.op .sConfig (some x0), .op (.i .i64) (some x1)]
  | .c64 x0 x1 => .fn (.func 64) [] [.op .sConfig (some x0), .op (.i .i64) (some x1)]
  | .c66 x0 => .fn (.func 66) [] [.op .sConfig (some x0)]
  | .c90 x0 => .fn (.func 90) [.agg [.v (.int .i64 x0.channel.kind), .v (.int .i64 x0.channel.words), .v (.int .i64 x0.channel.depth)]] []
  | .c91 x0 => .fn (.func 91) [.agg [.v (.int .i64 x0.channel.kind), .v (.int .i64 x0.channel.words), .v (.int .i64 x0.channel.depth)]] []

/-- A cell that is a slice of this type; the empty one of no address, too. -/
def slOf (t : Ty) : AV → Option (List t.T)
  | .sl t' xs => match decEq t' t with | isTrue h => some (h ▸ xs) | isFalse _ => none
  | .v (.slice _ n _) => match n with | 0 => some [] | _ + 1 => none
  | _ => none
def opOf (t : Ty) : AV → Option (Option t.T)
  | .op t' x => match decEq t' t with | isTrue h => some (h ▸ x) | isFalse _ => none
  | .el t' xs i 0 => match decEq t' t with | isTrue h => some (some (h ▸ (xs.getD i default))) | isFalse _ => none
  | .v (.pointer none) => some none
  | _ => none

def decLayoutSize : List AV → Option LayoutSize
  | [.v (.int .i64 y0), .v (.int .i64 y1), .v (.int .i64 y2)] => some (⟨⟨y0, y1, y2⟩⟩ : LayoutSize)
  | _ => none
def clo53 : List AV → Option Clo
  | [z0] => (match opOf .sConfig z0 with | some (some z0) => some (.c53 z0) | _ => none)
  | _ => none
def clo56 : List AV → Option Clo
  | [z0] => (match opOf .sConfig z0 with | some (some z0) => some (.c56 z0) | _ => none)
  | _ => none
def clo57 : List AV → Option Clo
  | [z0] => (match opOf .sConfig z0 with | some (some z0) => some (.c57 z0) | _ => none)
  | _ => none
def clo58 : List AV → Option Clo
  | [z0] => (match opOf .sConfig z0 with | some (some z0) => some (.c58 z0) | _ => none)
  | _ => none
def clo59 : List AV → Option Clo
  | [z0] => (match opOf .sConfig z0 with | some (some z0) => some (.c59 z0) | _ => none)
  | _ => none
def clo60 : List AV → Option Clo
  | [z0, z1] => (match opOf .sConfig z0, opOf (.i .i64) z1 with | some (some z0), some (some z1) => some (.c60 z0 z1) | _, _ => none)
  | _ => none
def clo62 : List AV → Option Clo
  | [z0, z1] => (match opOf .sConfig z0, opOf (.i .i64) z1 with | some (some z0), some (some z1) => some (.c62 z0 z1) | _, _ => none)
  | _ => none
def clo64 : List AV → Option Clo
  | [z0, z1] => (match opOf .sConfig z0, opOf (.i .i64) z1 with | some (some z0), some (some z1) => some (.c64 z0 z1) | _, _ => none)
  | _ => none
def clo66 : List AV → Option Clo
  | [z0] => (match opOf .sConfig z0 with | some (some z0) => some (.c66 z0) | _ => none)
  | _ => none
def clo90 : List AV → Option Clo
  | [.agg z0] => (match decLayoutSize z0 with | some z0 => some (.c90 z0) | _ => none)
  | _ => none
def clo91 : List AV → Option Clo
  | [.agg z0] => (match decLayoutSize z0 with | some z0 => some (.c91 z0) | _ => none)
  | _ => none
def cloOf : AV → Option Clo
  | .clo c => some c
  | .fn (.func f) [] cap => (match Nat.beq f 53 with | true => clo53 cap | false => (match Nat.beq f 56 with | true => clo56 cap | false => (match Nat.beq f 57 with | true => clo57 cap | false => (match Nat.beq f 58 with | true => clo58 cap | false => (match Nat.beq f 59 with | true => clo59 cap | false => (match Nat.beq f 60 with | true => clo60 cap | false => (match Nat.beq f 62 with | true => clo62 cap | false => (match Nat.beq f 64 with | true => clo64 cap | false => (match Nat.beq f 66 with | true => clo66 cap | false => none)))))))))
  | .fn (.func f) (z :: fi) [] => (match Nat.beq f 90 with | true => clo90 (z :: fi) | false => (match Nat.beq f 91 with | true => clo91 (z :: fi) | false => none))
  | .v .nilFunc => some .none
  | _ => none
def Ty.dec : (t : Ty) → List AV → Option t.T
  | .i k, cs => (match cs with | [.v (.int k' x)] => (if k = k' then some x else none) | _ => none : Option Int)
  | .b, cs => (match cs with | [.v (.bool x)] => some x | _ => none : Option Bool)
  | .s, cs => (match cs with | [.v (.string x)] => some x | _ => none : Option ByteArray)
  | .f, cs => (match cs with | [x] => cloOf x | _ => none : Option Clo)
  | .sl t, cs => (match cs with | [x] => slOf t x | _ => none : Option (List t.T))
  | .p t, cs => (match cs with | [x] => opOf t x | _ => none : Option (Option t.T))
  | .sWindow, cs => (match cs with | [.v (.int .i64 y0), .v (.int .i64 y1), .v (.int .i64 y2)] => (some (⟨y0, y1, y2⟩ : Window)) | _ => none : Option Window)
  | .sRegion, cs => (match cs with | [.v (.int .i64 y0), .v (.int .i64 y1), .v (.int .i64 y2), .v (.int .i64 y3)] => (some (⟨y0, y1, y2, y3⟩ : Region)) | _ => none : Option Region)
  | .sPort, cs => (match cs with | [.v (.int .i64 y0), .v (.bool y1)] => (some (⟨y0, y1⟩ : Port)) | _ => none : Option Port)
  | .sPartition, cs => (match cs with | [.v (.string y0), .v (.int .i64 y1), .v (.int .i64 y2), .v (.int .i64 y3), .v (.int .i64 y4), .v (.int .i64 y5), y6, y7] => (match slOf .sRegion y6, slOf .sPort y7 with | some y6, some y7 => some (⟨y0, y1, y2, y3, y4, y5, y6, y7⟩ : Partition) | _, _ => none) | _ => none : Option Partition)
  | .sChannel, cs => (match cs with | [.v (.int .i64 y0), .v (.int .i64 y1), .v (.int .i64 y2)] => (some (⟨y0, y1, y2⟩ : Channel)) | _ => none : Option Channel)
  | .sConfig, cs => (match cs with | [.v (.int .i64 y0), .v (.int .i64 y1), .v (.int .i64 y2), .v (.int .i64 y3), y4, y5, y6] => (match slOf (.sl .sWindow) y4, slOf .sPartition y5, slOf .sChannel y6 with | some y4, some y5, some y6 => some (⟨y0, y1, y2, y3, y4, y5, y6⟩ : Config) | _, _, _ => none) | _ => none : Option Config)
  | .sOwner, cs => (match cs with | [.v (.int .i64 y0), .v (.int .i64 y1), .v (.int .i64 y2)] => (some (⟨y0, y1, y2⟩ : Owner)) | _ => none : Option Owner)
  | .sWhere, cs => (match cs with | [.v (.int .i64 y0), .v (.int .i64 y1)] => (some (⟨y0, y1⟩ : Where)) | _ => none : Option Where)
  | .sBulkheadref15Piece, cs => (match cs with | [.v (.int .i64 y0), .v (.int .i64 y1), .v (.int .i64 y2), .v (.int .i64 y3), .v (.int .i64 y4)] => (some (⟨y0, y1, ⟨y2, y3, y4⟩⟩ : Bulkheadref15Piece)) | _ => none : Option Bulkheadref15Piece)
  | .sAdmitFound, cs => (match cs with | [.v (.int .i64 y0), .v (.int .i64 y1), .v (.int .i64 y2)] => (some (⟨y0, ⟨y1, y2⟩⟩ : AdmitFound)) | _ => none : Option AdmitFound)
  | .sMemMemory, cs => (match cs with | [y0] => (match slOf (.i .u32) y0 with | some y0 => some (⟨y0⟩ : MemMemory) | _ => none) | _ => none : Option MemMemory)
  | .sPartitionPlace, cs => (match cs with | [.v (.int .i64 y0), .v (.int .i64 y1), .v (.int .i64 y2), .v (.int .i64 y3), y4] => (match slOf (.i .i64) y4 with | some y4 => some (⟨y0, y1, y2, y3, y4⟩ : PartitionPlace) | _ => none) | _ => none : Option PartitionPlace)
  | .sDestPlace, cs => (match cs with | [.v (.int .i64 y0), .v (.int .i64 y1), .v (.int .i64 y2)] => (some (⟨y0, y1, y2⟩ : DestPlace)) | _ => none : Option DestPlace)
  | .sChannelPlace, cs => (match cs with | [.v (.int .i64 y0), .v (.int .i64 y1), .v (.int .i64 y2), .v (.int .i64 y3), y4] => (match slOf .sDestPlace y4 with | some y4 => some (⟨y0, y1, y2, y3, y4⟩ : ChannelPlace) | _ => none) | _ => none : Option ChannelPlace)
  | .sLayout, cs => (match cs with | [.v (.int .i64 y0), y1, y2, .v (.int .i64 y3)] => (match slOf .sPartitionPlace y1, slOf .sChannelPlace y2 with | some y1, some y2 => some (⟨y0, y1, y2, y3⟩ : Layout) | _, _ => none) | _ => none : Option Layout)
  | .sLayoutPiece, cs => (match cs with | [.v (.int .i64 y0), .v (.int .i64 y1), .v (.int .i64 y2), .v (.int .i64 y3), .v (.int .i64 y4)] => (some (⟨y0, y1, ⟨y2, y3, y4⟩⟩ : LayoutPiece)) | _ => none : Option LayoutPiece)
  | .sLayoutEnd, cs => (match cs with | [.v (.int .i64 y0), .v (.int .i64 y1)] => (some (⟨y0, y1⟩ : LayoutEnd)) | _ => none : Option LayoutEnd)
  | .sLayoutSize, cs => (decLayoutSize cs : Option LayoutSize)
  | .sLayoutAsked, cs => (match cs with | [y0, y1] => (match cloOf y0, cloOf y1 with | some y0, some y1 => some (⟨y0, y1⟩ : LayoutAsked) | _, _ => none) | _ => none : Option LayoutAsked)

/-- The codes of the seat's types. -/
def tyOf : TypeId → Option Ty
  | 1 => some .f
  | 2 => some (.i .i64)
  | 3 => some (.i .i64)
  | 4 => some .b
  | 5 => some (.i .u8)
  | 6 => some (.i .u8)
  | 9 => some .s
  | 10 => some .s
  | 11 => some .s
  | 12 => some (.i .u64)
  | 21 => some (.i .i32)
  | 22 => some (.sl (.sl .sWindow))
  | 23 => some (.sl .sPartition)
  | 24 => some (.sl .sChannel)
  | 26 => some .sConfig
  | 28 => some .sOwner
  | 29 => some (.i .i64)
  | 31 => some .f
  | 32 => some .f
  | 33 => some .f
  | 34 => some .f
  | 36 => some .sWhere
  | 38 => some .f
  | 39 => some (.sl .sOwner)
  | 40 => some .f
  | 41 => some .f
  | 43 => some .f
  | 44 => some (.sl .sWindow)
  | 45 => some (.sl .sRegion)
  | 46 => some (.sl .sPort)
  | 48 => some .sPartition
  | 49 => some .f
  | 50 => some .f
  | 51 => some .f
  | 53 => some .sChannel
  | 55 => some .sWindow
  | 56 => some .f
  | 57 => some .f
  | 58 => some .f
  | 59 => some .f
  | 60 => some .f
  | 61 => some .f
  | 62 => some .f
  | 64 => some .f
  | 66 => some .sPort
  | 67 => some (.sl (.p .sMemMemory))
  | 68 => some .f
  | 69 => some (.p .sMemMemory)
  | 70 => some .f
  | 71 => some .f
  | 73 => some .sRegion
  | 74 => some .f
  | 75 => some .f
  | 76 => some .f
  | 77 => some .f
  | 79 => some .f
  | 80 => some .f
  | 81 => some .f
  | 83 => some .f
  | 84 => some (.sl .sBulkheadref15Piece)
  | 85 => some .f
  | 87 => some .sBulkheadref15Piece
  | 88 => some .f
  | 89 => some (.sl .f)
  | 90 => some .f
  | 91 => some .f
  | 93 => some .sAdmitFound
  | 94 => some (.sl (.i .u32))
  | 96 => some .sMemMemory
  | 97 => some (.sl .sPartitionPlace)
  | 98 => some (.sl .sChannelPlace)
  | 100 => some .sLayout
  | 102 => some .f
  | 103 => some (.sl .sLayoutPiece)
  | 104 => some .f
  | 106 => some .sLayoutPiece
  | 108 => some .f
  | 109 => some .f
  | 110 => some .f
  | 111 => some .f
  | 112 => some .f
  | 113 => some .f
  | 114 => some .f
  | 115 => some .f
  | 116 => some .f
  | 117 => some .f
  | 118 => some .f
  | 119 => some (.sl (.i .i64))
  | 121 => some .sPartitionPlace
  | 122 => some (.sl .sLayoutEnd)
  | 124 => some .f
  | 126 => some .sLayoutEnd
  | 127 => some (.sl .sDestPlace)
  | 129 => some .sChannelPlace
  | 131 => some .sDestPlace
  | 132 => some .f
  | 133 => some .f
  | 134 => some (.sl .sLayoutAsked)
  | 135 => some .f
  | 137 => some .sLayoutAsked
  | 138 => some .f
  | 139 => some .f
  | 140 => some .f
  | 141 => some .f
  | 144 => some .sLayoutSize
  | 145 => some (.sl .sAdmitFound)
  | 146 => some .f
  | 152 => some (.i .u32)
  | 153 => some (.i .u8)
  | 154 => some (.i .u8)
  | 155 => some .f
  | 157 => some (.i .i32)
  | 158 => some (.i .i32)
  | _ => none
def Ty.leaves : Ty → List Ty
  | .i k => [.i k] | .b => [.b] | .s => [.s] | .f => [.f] | .sl t => [.sl t] | .p t => [.p t]
  | .sWindow => [.i .i64, .i .i64, .i .i64]
  | .sRegion => [.i .i64, .i .i64, .i .i64, .i .i64]
  | .sPort => [.i .i64, .b]
  | .sPartition => [.s, .i .i64, .i .i64, .i .i64, .i .i64, .i .i64, .sl .sRegion, .sl .sPort]
  | .sChannel => [.i .i64, .i .i64, .i .i64]
  | .sConfig => [.i .i64, .i .i64, .i .i64, .i .i64, .sl (.sl .sWindow), .sl .sPartition, .sl .sChannel]
  | .sOwner => [.i .i64, .i .i64, .i .i64]
  | .sWhere => [.i .i64, .i .i64]
  | .sBulkheadref15Piece => [.i .i64, .i .i64, .i .i64, .i .i64, .i .i64]
  | .sAdmitFound => [.i .i64, .i .i64, .i .i64]
  | .sMemMemory => [.sl (.i .u32)]
  | .sPartitionPlace => [.i .i64, .i .i64, .i .i64, .i .i64, .sl (.i .i64)]
  | .sDestPlace => [.i .i64, .i .i64, .i .i64]
  | .sChannelPlace => [.i .i64, .i .i64, .i .i64, .i .i64, .sl .sDestPlace]
  | .sLayout => [.i .i64, .sl .sPartitionPlace, .sl .sChannelPlace, .i .i64]
  | .sLayoutPiece => [.i .i64, .i .i64, .i .i64, .i .i64, .i .i64]
  | .sLayoutEnd => [.i .i64, .i .i64]
  | .sLayoutSize => [.i .i64, .i .i64, .i .i64]
  | .sLayoutAsked => [.f, .f]

def tyMax : Nat := 162
/-- Is it data, without pointers and functions? -/
def Ty.dat : Ty → Bool
  | .i _ => true | .b => true | .s => true | .f => false | .sl t => t.dat | .p _ => false
  | .sWindow => true
  | .sRegion => true
  | .sPort => true
  | .sPartition => true
  | .sChannel => true
  | .sConfig => true
  | .sOwner => true
  | .sWhere => true
  | .sBulkheadref15Piece => true
  | .sAdmitFound => true
  | .sMemMemory => true
  | .sPartitionPlace => true
  | .sDestPlace => true
  | .sChannelPlace => true
  | .sLayout => true
  | .sLayoutPiece => true
  | .sLayoutEnd => true
  | .sLayoutSize => true
  | .sLayoutAsked => false

abbrev Window.av (x : Window) : AV := .agg [.v (.int .i64 x.partition), .v (.int .i64 x.usable), .v (.int .i64 x.slack)]
abbrev Region.av (x : Region) : AV := .agg [.v (.int .i64 x.page), .v (.int .i64 x.pages), .v (.int .i64 x.frame), .v (.int .i64 x.rights)]
abbrev Port.av (x : Port) : AV := .agg [.v (.int .i64 x.channel), .v (.bool x.source)]
abbrev Partition.av (x : Partition) : AV := .agg [.v (.string x.name), .v (.int .i64 x.entry), .v (.int .i64 x.action), .v (.int .i64 x.restarts), .v (.int .i64 x.inputs), .v (.int .i64 x.outputs), .sl .sRegion x.regions, .sl .sPort x.ports]
abbrev Channel.av (x : Channel) : AV := .agg [.v (.int .i64 x.kind), .v (.int .i64 x.words), .v (.int .i64 x.depth)]
abbrev Config.av (x : Config) : AV := .agg [.v (.int .i64 x.frames), .v (.int .i64 x.major), .v (.int .i64 x.kernel), .v (.int .i64 x.room), .sl (.sl .sWindow) x.cores, .sl .sPartition x.partitions, .sl .sChannel x.channels]
abbrev Owner.av (x : Owner) : AV := .agg [.v (.int .i64 x.kind), .v (.int .i64 x.index), .v (.int .i64 x.port)]
abbrev Where.av (x : Where) : AV := .agg [.v (.int .i64 x.first), .v (.int .i64 x.second)]
abbrev Bulkheadref15Piece.av (x : Bulkheadref15Piece) : AV := .agg [.v (.int .i64 x.at_), .v (.int .i64 x.size), .v (.int .i64 x.owner.kind), .v (.int .i64 x.owner.index), .v (.int .i64 x.owner.port)]
abbrev AdmitFound.av (x : AdmitFound) : AV := .agg [.v (.int .i64 x.e), .v (.int .i64 x.where_.first), .v (.int .i64 x.where_.second)]
abbrev MemMemory.av (x : MemMemory) : AV := .agg [.sl (.i .u32) x.words]
abbrev PartitionPlace.av (x : PartitionPlace) : AV := .agg [.v (.int .i64 x.lock), .v (.int .i64 x.save), .v (.int .i64 x.state), .v (.int .i64 x.root), .sl (.i .i64) x.tables]
abbrev DestPlace.av (x : DestPlace) : AV := .agg [.v (.int .i64 x.partition), .v (.int .i64 x.port), .v (.int .i64 x.at_)]
abbrev ChannelPlace.av (x : ChannelPlace) : AV := .agg [.v (.int .i64 x.lock), .v (.int .i64 x.stage), .v (.int .i64 x.partition), .v (.int .i64 x.port), .sl .sDestPlace x.dests]
abbrev Layout.av (x : Layout) : AV := .agg [.v (.int .i64 x.barrier), .sl .sPartitionPlace x.partitions, .sl .sChannelPlace x.channels, .v (.int .i64 x.end_)]
abbrev LayoutPiece.av (x : LayoutPiece) : AV := .agg [.v (.int .i64 x.at_), .v (.int .i64 x.many), .v (.int .i64 x.owner.kind), .v (.int .i64 x.owner.index), .v (.int .i64 x.owner.port)]
abbrev LayoutEnd.av (x : LayoutEnd) : AV := .agg [.v (.int .i64 x.partition), .v (.int .i64 x.port)]
abbrev LayoutSize.av (x : LayoutSize) : AV := .agg [.v (.int .i64 x.channel.kind), .v (.int .i64 x.channel.words), .v (.int .i64 x.channel.depth)]
abbrev LayoutAsked.av (x : LayoutAsked) : AV := .agg [.clo x.stage, .clo x.port]

end Go.Proofs.YthnkmndjhedgdaaDoor
