import Derived.WalkKit
import Derived.Below
import Derived.RowKit3
set_option linter.unusedVariables false
set_option linter.unusedSimpArgs false
noncomputable section
namespace Go.Proofs.YtganhedldgbfpaaGreatDoor
@[ext] structure Window where
 partition : Int
 usable : Int
 slack : Int
 deriving Inhabited, DecidableEq
@[ext] structure Region where
 page : Int
 pages : Int
 frame : Int
 rights : Int
 deriving Inhabited, DecidableEq
@[ext] structure Port where
 channel : Int
 source : Bool
 deriving Inhabited, DecidableEq
@[ext] structure Partition where
 name : ByteArray
 entry : Int
 action : Int
 restarts : Int
 inputs : Int
 outputs : Int
 regions : (List Region)
 ports : (List Port)
 deriving Inhabited, DecidableEq
@[ext] structure Channel where
 kind : Int
 words : Int
 depth : Int
 deriving Inhabited, DecidableEq
@[ext] structure Config where
 frames : Int
 major : Int
 kernel : Int
 room : Int
 cores : (List (List Window))
 partitions : (List Partition)
 channels : (List Channel)
 deriving Inhabited, DecidableEq
@[ext] structure Bulkheadlaw21KeptWords where
 l : (List Int)
 want : (List Int)
 one : (List Int)
 many : (List Int)
 deriving Inhabited, DecidableEq
@[ext] structure Bulkheadlaw21Book where
 words : (List Bulkheadlaw21KeptWords)
 deriving Inhabited, DecidableEq
@[ext] structure PartitionPlace where
 lock : Int
 save : Int
 state : Int
 root : Int
 tables : (List Int)
 deriving Inhabited, DecidableEq
@[ext] structure DestPlace where
 partition : Int
 port : Int
 at_ : Int
 deriving Inhabited, DecidableEq
@[ext] structure ChannelPlace where
 lock : Int
 stage : Int
 partition : Int
 port : Int
 dests : (List DestPlace)
 deriving Inhabited, DecidableEq
@[ext] structure Layout where
 barrier : Int
 partitions : (List PartitionPlace)
 channels : (List ChannelPlace)
 end_ : Int
 deriving Inhabited, DecidableEq
@[ext] structure DuctDucts where
 c : Config
 lay : Layout
 deriving Inhabited, DecidableEq
@[ext] structure Bulkheadref21Ducts where
 c : Config
 l : Layout
 deriving Inhabited, DecidableEq
@[ext] structure MemMemory where
 words : (List Int)
 deriving Inhabited, DecidableEq
@[ext] structure Bulkheadref05Memory where
 w : (List Int)
 deriving Inhabited, DecidableEq
@[ext] structure Bulkheadlaw21World where
 d : (Option DuctDucts)
 r : (Option Bulkheadref21Ducts)
 m : (Option MemMemory)
 n : (Option Bulkheadref05Memory)
 p : (Option MemMemory)
 q : (Option Bulkheadref05Memory)
 kept : Bulkheadlaw21Book
 deriving Inhabited, DecidableEq
@[ext] structure Bulkheadlaw21Op where
 kind : Int
 p : Int
 q : Int
 a : Int
 w : Int
 message : (List Int)
 deriving Inhabited, DecidableEq
@[ext] structure Bulkheadlaw21Holds where
 p : Int
 q : Int
 row : (List (List Int))
 fresh : Bool
 lost : Int
 deriving Inhabited, DecidableEq
@[ext] structure Bulkheadlaw21Line where
 staged : (List (List Int))
 ports : (List Bulkheadlaw21Holds)
 deriving Inhabited, DecidableEq
@[ext] structure Owner where
 kind : Int
 index : Int
 port : Int
 deriving Inhabited, DecidableEq
@[ext] structure DuctEnds where
 stage : Int
 words : Int
 ports : (List Int)
 deriving Inhabited, DecidableEq
@[ext] structure DuctRow where
 ends : DuctEnds
 depth : Int
 deriving Inhabited, DecidableEq
@[ext] structure Bulkheadref15Piece where
 at_ : Int
 size : Int
 owner : Owner
 deriving Inhabited, DecidableEq
@[ext] structure Where where
 first : Int
 second : Int
 deriving Inhabited, DecidableEq
@[ext] structure DuctLast where
 ends : DuctEnds
 deriving Inhabited, DecidableEq
@[ext] structure QueueForm where
 words : Int
 depth : Int
 deriving Inhabited, DecidableEq
@[ext] structure QueueRow where
 first : Int
 lost : Int
 messages : (List (List Int))
 deriving Inhabited, DecidableEq
@[ext] structure AdmitFound where
 e : Int
 where_ : Where
 deriving Inhabited, DecidableEq
@[ext] structure LayoutEnd where
 partition : Int
 port : Int
 deriving Inhabited, DecidableEq
@[ext] structure Bulkheadref19Held where
 there : Bool
 fresh : Bool
 message : (List Int)
 deriving Inhabited, DecidableEq
@[ext] structure Bulkheadref20Row where
 first : Int
 messages : (List (List Int))
 lost : Int
 deriving Inhabited, DecidableEq
inductive Clo where
 | none
 | c124 (x0 : Config)
 | c127 (x0 : Config)
 | c128 (x0 : Config)
 | c129 (x0 : Config)
 | c130 (x0 : Config)
 | c131 (x0 : Config) (x1 : Int)
 | c133 (x0 : Config) (x1 : Int)
 | c135 (x0 : Config) (x1 : Int)
 | c137 (x0 : Config)
 deriving Inhabited, DecidableEq
inductive Ty where
 | i (k : IntKind) | b | s | f | sl (t : Ty) | p (t : Ty)
 | sWindow
 | sRegion
 | sPort
 | sPartition
 | sChannel
 | sConfig
 | sBulkheadlaw21KeptWords
 | sBulkheadlaw21Book
 | sPartitionPlace
 | sDestPlace
 | sChannelPlace
 | sLayout
 | sDuctDucts
 | sBulkheadref21Ducts
 | sMemMemory
 | sBulkheadref05Memory
 | sBulkheadlaw21World
 | sBulkheadlaw21Op
 | sBulkheadlaw21Holds
 | sBulkheadlaw21Line
 | sOwner
 | sDuctEnds
 | sDuctRow
 | sBulkheadref15Piece
 | sWhere
 | sDuctLast
 | sQueueForm
 | sQueueRow
 | sAdmitFound
 | sLayoutEnd
 | sBulkheadref19Held
 | sBulkheadref20Row
 deriving DecidableEq
def Ty.T : Ty -> Type
 | .i _ => Int | .b => Bool | .s => ByteArray | .f => Clo | .sl t => List t.T | .p t => Option t.T
 | .sWindow => Window
 | .sRegion => Region
 | .sPort => Port
 | .sPartition => Partition
 | .sChannel => Channel
 | .sConfig => Config
 | .sBulkheadlaw21KeptWords => Bulkheadlaw21KeptWords
 | .sBulkheadlaw21Book => Bulkheadlaw21Book
 | .sPartitionPlace => PartitionPlace
 | .sDestPlace => DestPlace
 | .sChannelPlace => ChannelPlace
 | .sLayout => Layout
 | .sDuctDucts => DuctDucts
 | .sBulkheadref21Ducts => Bulkheadref21Ducts
 | .sMemMemory => MemMemory
 | .sBulkheadref05Memory => Bulkheadref05Memory
 | .sBulkheadlaw21World => Bulkheadlaw21World
 | .sBulkheadlaw21Op => Bulkheadlaw21Op
 | .sBulkheadlaw21Holds => Bulkheadlaw21Holds
 | .sBulkheadlaw21Line => Bulkheadlaw21Line
 | .sOwner => Owner
 | .sDuctEnds => DuctEnds
 | .sDuctRow => DuctRow
 | .sBulkheadref15Piece => Bulkheadref15Piece
 | .sWhere => Where
 | .sDuctLast => DuctLast
 | .sQueueForm => QueueForm
 | .sQueueRow => QueueRow
 | .sAdmitFound => AdmitFound
 | .sLayoutEnd => LayoutEnd
 | .sBulkheadref19Held => Bulkheadref19Held
 | .sBulkheadref20Row => Bulkheadref20Row
instance : (t : Ty) -> Inhabited t.T
 | .i _ => ⟨(0 : Int)⟩ | .b => ⟨false⟩ | .s => ⟨ByteArray.empty⟩ | .f => ⟨Clo.none⟩ | .sl t => ⟨([] : List t.T)⟩ | .p t => ⟨(none : Option t.T)⟩
 | .sWindow => ⟨(default : Window)⟩
 | .sRegion => ⟨(default : Region)⟩
 | .sPort => ⟨(default : Port)⟩
 | .sPartition => ⟨(default : Partition)⟩
 | .sChannel => ⟨(default : Channel)⟩
 | .sConfig => ⟨(default : Config)⟩
 | .sBulkheadlaw21KeptWords => ⟨(default : Bulkheadlaw21KeptWords)⟩
 | .sBulkheadlaw21Book => ⟨(default : Bulkheadlaw21Book)⟩
 | .sPartitionPlace => ⟨(default : PartitionPlace)⟩
 | .sDestPlace => ⟨(default : DestPlace)⟩
 | .sChannelPlace => ⟨(default : ChannelPlace)⟩
 | .sLayout => ⟨(default : Layout)⟩
 | .sDuctDucts => ⟨(default : DuctDucts)⟩
 | .sBulkheadref21Ducts => ⟨(default : Bulkheadref21Ducts)⟩
 | .sMemMemory => ⟨(default : MemMemory)⟩
 | .sBulkheadref05Memory => ⟨(default : Bulkheadref05Memory)⟩
 | .sBulkheadlaw21World => ⟨(default : Bulkheadlaw21World)⟩
 | .sBulkheadlaw21Op => ⟨(default : Bulkheadlaw21Op)⟩
 | .sBulkheadlaw21Holds => ⟨(default : Bulkheadlaw21Holds)⟩
 | .sBulkheadlaw21Line => ⟨(default : Bulkheadlaw21Line)⟩
 | .sOwner => ⟨(default : Owner)⟩
 | .sDuctEnds => ⟨(default : DuctEnds)⟩
 | .sDuctRow => ⟨(default : DuctRow)⟩
 | .sBulkheadref15Piece => ⟨(default : Bulkheadref15Piece)⟩
 | .sWhere => ⟨(default : Where)⟩
 | .sDuctLast => ⟨(default : DuctLast)⟩
 | .sQueueForm => ⟨(default : QueueForm)⟩
 | .sQueueRow => ⟨(default : QueueRow)⟩
 | .sAdmitFound => ⟨(default : AdmitFound)⟩
 | .sLayoutEnd => ⟨(default : LayoutEnd)⟩
 | .sBulkheadref19Held => ⟨(default : Bulkheadref19Held)⟩
 | .sBulkheadref20Row => ⟨(default : Bulkheadref20Row)⟩
inductive AV where
 | undef
 | v (x : Value)
 | agg (cs : List AV)
 | tup (vs : List AV)
 | sl (t : Ty) (xs : List t.T)
 | op (t : Ty) (x : Option t.T)
 | el (t : Ty) (xs : List t.T) (i off : Nat)
 | ref (b off : Nat)
 | own (b : Nat)
 | oel (b sz i off : Nat)
 | rex (b o0 : Nat) (t : Ty) (m i d : Nat)
 | vw (b sz o n : Nat)
 | fn (f : Fn) (first cap : List AV)
 | clo (c : Clo)
 | ifc (t : TypeId) (x : AV)
def Ty.enc : (t : Ty) -> t.T -> List AV
 | .i k, x => [.v (.int k x)] | .b, x => [.v (.bool x)] | .s, x => [.v (.string x)] | .f, x => [.clo x] | .sl t, x => [.sl t x] | .p t, x => [.op t x]
 | .sWindow, x => [.v (.int .i64 x.partition), .v (.int .i64 x.usable), .v (.int .i64 x.slack)]
 | .sRegion, x => [.v (.int .i64 x.page), .v (.int .i64 x.pages), .v (.int .i64 x.frame), .v (.int .i64 x.rights)]
 | .sPort, x => [.v (.int .i64 x.channel), .v (.bool x.source)]
 | .sPartition, x => [.v (.string x.name), .v (.int .i64 x.entry), .v (.int .i64 x.action), .v (.int .i64 x.restarts), .v (.int .i64 x.inputs), .v (.int .i64 x.outputs), .sl .sRegion x.regions, .sl .sPort x.ports]
 | .sChannel, x => [.v (.int .i64 x.kind), .v (.int .i64 x.words), .v (.int .i64 x.depth)]
 | .sConfig, x => [.v (.int .i64 x.frames), .v (.int .i64 x.major), .v (.int .i64 x.kernel), .v (.int .i64 x.room), .sl (.sl .sWindow) x.cores, .sl .sPartition x.partitions, .sl .sChannel x.channels]
 | .sBulkheadlaw21KeptWords, x => [.sl (.i .u32) x.l, .sl (.i .u32) x.want, .sl (.i .u32) x.one, .sl (.i .u32) x.many]
 | .sBulkheadlaw21Book, x => [.sl .sBulkheadlaw21KeptWords x.words]
 | .sPartitionPlace, x => [.v (.int .i64 x.lock), .v (.int .i64 x.save), .v (.int .i64 x.state), .v (.int .i64 x.root), .sl (.i .i64) x.tables]
 | .sDestPlace, x => [.v (.int .i64 x.partition), .v (.int .i64 x.port), .v (.int .i64 x.at_)]
 | .sChannelPlace, x => [.v (.int .i64 x.lock), .v (.int .i64 x.stage), .v (.int .i64 x.partition), .v (.int .i64 x.port), .sl .sDestPlace x.dests]
 | .sLayout, x => [.v (.int .i64 x.barrier), .sl .sPartitionPlace x.partitions, .sl .sChannelPlace x.channels, .v (.int .i64 x.end_)]
 | .sDuctDucts, x => [.v (.int .i64 x.c.frames), .v (.int .i64 x.c.major), .v (.int .i64 x.c.kernel), .v (.int .i64 x.c.room), .sl (.sl .sWindow) x.c.cores, .sl .sPartition x.c.partitions, .sl .sChannel x.c.channels, .v (.int .i64 x.lay.barrier), .sl .sPartitionPlace x.lay.partitions, .sl .sChannelPlace x.lay.channels, .v (.int .i64 x.lay.end_)]
 | .sBulkheadref21Ducts, x => [.v (.int .i64 x.c.frames), .v (.int .i64 x.c.major), .v (.int .i64 x.c.kernel), .v (.int .i64 x.c.room), .sl (.sl .sWindow) x.c.cores, .sl .sPartition x.c.partitions, .sl .sChannel x.c.channels, .v (.int .i64 x.l.barrier), .sl .sPartitionPlace x.l.partitions, .sl .sChannelPlace x.l.channels, .v (.int .i64 x.l.end_)]
 | .sMemMemory, x => [.sl (.i .u32) x.words]
 | .sBulkheadref05Memory, x => [.sl (.i .u32) x.w]
 | .sBulkheadlaw21World, x => [.op .sDuctDucts x.d, .op .sBulkheadref21Ducts x.r, .op .sMemMemory x.m, .op .sBulkheadref05Memory x.n, .op .sMemMemory x.p, .op .sBulkheadref05Memory x.q, .sl .sBulkheadlaw21KeptWords x.kept.words]
 | .sBulkheadlaw21Op, x => [.v (.int .i64 x.kind), .v (.int .i64 x.p), .v (.int .i64 x.q), .v (.int .i64 x.a), .v (.int .u32 x.w), .sl (.i .u32) x.message]
 | .sBulkheadlaw21Holds, x => [.v (.int .i64 x.p), .v (.int .i64 x.q), .sl (.sl (.i .u32)) x.row, .v (.bool x.fresh), .v (.int .i64 x.lost)]
 | .sBulkheadlaw21Line, x => [.sl (.sl (.i .u32)) x.staged, .sl .sBulkheadlaw21Holds x.ports]
 | .sOwner, x => [.v (.int .i64 x.kind), .v (.int .i64 x.index), .v (.int .i64 x.port)]
 | .sDuctEnds, x => [.v (.int .i64 x.stage), .v (.int .i64 x.words), .sl (.i .i64) x.ports]
 | .sDuctRow, x => [.v (.int .i64 x.ends.stage), .v (.int .i64 x.ends.words), .sl (.i .i64) x.ends.ports, .v (.int .i64 x.depth)]
 | .sBulkheadref15Piece, x => [.v (.int .i64 x.at_), .v (.int .i64 x.size), .v (.int .i64 x.owner.kind), .v (.int .i64 x.owner.index), .v (.int .i64 x.owner.port)]
 | .sWhere, x => [.v (.int .i64 x.first), .v (.int .i64 x.second)]
 | .sDuctLast, x => [.v (.int .i64 x.ends.stage), .v (.int .i64 x.ends.words), .sl (.i .i64) x.ends.ports]
 | .sQueueForm, x => [.v (.int .i64 x.words), .v (.int .i64 x.depth)]
 | .sQueueRow, x => [.v (.int .u32 x.first), .v (.int .u32 x.lost), .sl (.sl (.i .u32)) x.messages]
 | .sAdmitFound, x => [.v (.int .i64 x.e), .v (.int .i64 x.where_.first), .v (.int .i64 x.where_.second)]
 | .sLayoutEnd, x => [.v (.int .i64 x.partition), .v (.int .i64 x.port)]
 | .sBulkheadref19Held, x => [.v (.bool x.there), .v (.bool x.fresh), .sl (.i .u32) x.message]
 | .sBulkheadref20Row, x => [.v (.int .i64 x.first), .sl (.sl (.i .u32)) x.messages, .v (.int .u32 x.lost)]
def Ty.sz : Ty -> Nat
 | .i _ => 1 | .b => 1 | .s => 1 | .f => 1 | .sl _ => 1 | .p _ => 1
 | .sWindow => 3
 | .sRegion => 4
 | .sPort => 2
 | .sPartition => 8
 | .sChannel => 3
 | .sConfig => 7
 | .sBulkheadlaw21KeptWords => 4
 | .sBulkheadlaw21Book => 1
 | .sPartitionPlace => 5
 | .sDestPlace => 3
 | .sChannelPlace => 5
 | .sLayout => 4
 | .sDuctDucts => 11
 | .sBulkheadref21Ducts => 11
 | .sMemMemory => 1
 | .sBulkheadref05Memory => 1
 | .sBulkheadlaw21World => 7
 | .sBulkheadlaw21Op => 6
 | .sBulkheadlaw21Holds => 5
 | .sBulkheadlaw21Line => 2
 | .sOwner => 3
 | .sDuctEnds => 3
 | .sDuctRow => 4
 | .sBulkheadref15Piece => 5
 | .sWhere => 2
 | .sDuctLast => 3
 | .sQueueForm => 2
 | .sQueueRow => 3
 | .sAdmitFound => 3
 | .sLayoutEnd => 2
 | .sBulkheadref19Held => 3
 | .sBulkheadref20Row => 3
def Ty.by : Ty -> Nat
 | .i k => (match k with | .i8 => 1 | .u8 => 1 | .i16 => 2 | .u16 => 2 | .i32 => 4 | .u32 => 4 | _ => 8) | .b => 1 | .s => 16 | .f => 8 | .sl _ => 24 | .p _ => 8
 | .sWindow => 24
 | .sRegion => 32
 | .sPort => 16
 | .sPartition => 104
 | .sChannel => 24
 | .sConfig => 104
 | .sBulkheadlaw21KeptWords => 96
 | .sBulkheadlaw21Book => 24
 | .sPartitionPlace => 56
 | .sDestPlace => 24
 | .sChannelPlace => 56
 | .sLayout => 64
 | .sDuctDucts => 168
 | .sBulkheadref21Ducts => 168
 | .sMemMemory => 24
 | .sBulkheadref05Memory => 24
 | .sBulkheadlaw21World => 72
 | .sBulkheadlaw21Op => 64
 | .sBulkheadlaw21Holds => 56
 | .sBulkheadlaw21Line => 48
 | .sOwner => 24
 | .sDuctEnds => 40
 | .sDuctRow => 48
 | .sBulkheadref15Piece => 40
 | .sWhere => 16
 | .sDuctLast => 40
 | .sQueueForm => 16
 | .sQueueRow => 32
 | .sAdmitFound => 24
 | .sLayoutEnd => 16
 | .sBulkheadref19Held => 32
 | .sBulkheadref20Row => 40
def Ty.flat : Ty -> Bool
 | .i _ => true | .b => true | .s => true | .f => false | .sl _ => false | .p _ => false
 | .sWindow => true
 | .sRegion => true
 | .sPort => true
 | .sPartition => false
 | .sChannel => true
 | .sConfig => false
 | .sBulkheadlaw21KeptWords => false
 | .sBulkheadlaw21Book => false
 | .sPartitionPlace => false
 | .sDestPlace => true
 | .sChannelPlace => false
 | .sLayout => false
 | .sDuctDucts => false
 | .sBulkheadref21Ducts => false
 | .sMemMemory => false
 | .sBulkheadref05Memory => false
 | .sBulkheadlaw21World => false
 | .sBulkheadlaw21Op => false
 | .sBulkheadlaw21Holds => false
 | .sBulkheadlaw21Line => false
 | .sOwner => true
 | .sDuctEnds => false
 | .sDuctRow => false
 | .sBulkheadref15Piece => true
 | .sWhere => true
 | .sDuctLast => false
 | .sQueueForm => true
 | .sQueueRow => false
 | .sAdmitFound => true
 | .sLayoutEnd => true
 | .sBulkheadref19Held => false
 | .sBulkheadref20Row => false
def Clo.out : Clo -> AV
 | .none => .v .nilFunc
 | .c124 x0 => .fn (.func 124) [] [.op .sConfig (some x0)]
 | .c127 x0 => .fn (.func 127) [] [.op .sConfig (some x0)]
 | .c128 x0 => .fn (.func 128) [] [.op .sConfig (some x0)]
 | .c129 x0 => .fn (.func 129) [] [.op .sConfig (some x0)]
 | .c130 x0 => .fn (.func 130) [] [.op .sConfig (some x0)]
 | .c131 x0 x1 => .fn (.func 131) [] [.op .sConfig (some x0), .op (.i .i64) (some x1)]
 | .c133 x0 x1 => .fn (.func 133) [] [.op .sConfig (some x0), .op (.i .i64) (some x1)]
 | .c135 x0 x1 => .fn (.func 135) [] [.op .sConfig (some x0), .op (.i .i64) (some x1)]
 | .c137 x0 => .fn (.func 137) [] [.op .sConfig (some x0)]
def za2 (t : Ty) : AV -> Option (List t.T)
 | .sl t' xs => match decEq t' t with | isTrue h => some (h ▸ xs) | isFalse _ => none
 | .v (.slice _ n _) => match n with | 0 => some [] | _ + 1 => none
 | _ => none
def zde (t : Ty) : AV -> Option (Option t.T)
 | .op t' x => match decEq t' t with | isTrue h => some (h ▸ x) | isFalse _ => none
 | .el t' xs i 0 => match decEq t' t with | isTrue h => some (some (h ▸ (xs.getD i default))) | isFalse _ => none
 | .v (.pointer none) => some none
 | _ => none
def zuT : List AV -> Option Clo
 | [z0] => (match zde .sConfig z0 with | some (some z0) => some (.c124 z0) | _ => none)
 | _ => none
def zuU : List AV -> Option Clo
 | [z0] => (match zde .sConfig z0 with | some (some z0) => some (.c127 z0) | _ => none)
 | _ => none
def zuV : List AV -> Option Clo
 | [z0] => (match zde .sConfig z0 with | some (some z0) => some (.c128 z0) | _ => none)
 | _ => none
def zuW : List AV -> Option Clo
 | [z0] => (match zde .sConfig z0 with | some (some z0) => some (.c129 z0) | _ => none)
 | _ => none
def zuX : List AV -> Option Clo
 | [z0] => (match zde .sConfig z0 with | some (some z0) => some (.c130 z0) | _ => none)
 | _ => none
def zuY : List AV -> Option Clo
 | [z0, z1] => (match zde .sConfig z0, zde (.i .i64) z1 with | some (some z0), some (some z1) => some (.c131 z0 z1) | _, _ => none)
 | _ => none
def zuZ : List AV -> Option Clo
 | [z0, z1] => (match zde .sConfig z0, zde (.i .i64) z1 with | some (some z0), some (some z1) => some (.c133 z0 z1) | _, _ => none)
 | _ => none
def zu0 : List AV -> Option Clo
 | [z0, z1] => (match zde .sConfig z0, zde (.i .i64) z1 with | some (some z0), some (some z1) => some (.c135 z0 z1) | _, _ => none)
 | _ => none
def zu1 : List AV -> Option Clo
 | [z0] => (match zde .sConfig z0 with | some (some z0) => some (.c137 z0) | _ => none)
 | _ => none
def zs4 : AV -> Option Clo
 | .clo c => some c
 | .fn (.func f) [] cap => (match Nat.beq f 124 with | true => zuT cap | false => (match Nat.beq f 127 with | true => zuU cap | false => (match Nat.beq f 128 with | true => zuV cap | false => (match Nat.beq f 129 with | true => zuW cap | false => (match Nat.beq f 130 with | true => zuX cap | false => (match Nat.beq f 131 with | true => zuY cap | false => (match Nat.beq f 133 with | true => zuZ cap | false => (match Nat.beq f 135 with | true => zu0 cap | false => (match Nat.beq f 137 with | true => zu1 cap | false => none)))))))))
 | .v .nilFunc => some .none
 | _ => none
def Ty.dec : (t : Ty) -> List AV -> Option t.T
 | .i k, cs => (match cs with | [.v (.int k' x)] => (if k = k' then some x else none) | _ => none : Option Int)
 | .b, cs => (match cs with | [.v (.bool x)] => some x | _ => none : Option Bool)
 | .s, cs => (match cs with | [.v (.string x)] => some x | _ => none : Option ByteArray)
 | .f, cs => (match cs with | [x] => zs4 x | _ => none : Option Clo)
 | .sl t, cs => (match cs with | [x] => za2 t x | _ => none : Option (List t.T))
 | .p t, cs => (match cs with | [x] => zde t x | _ => none : Option (Option t.T))
 | .sWindow, cs => (match cs with | [.v (.int .i64 y0), .v (.int .i64 y1), .v (.int .i64 y2)] => (some (⟨y0, y1, y2⟩ : Window)) | _ => none : Option Window)
 | .sRegion, cs => (match cs with | [.v (.int .i64 y0), .v (.int .i64 y1), .v (.int .i64 y2), .v (.int .i64 y3)] => (some (⟨y0, y1, y2, y3⟩ : Region)) | _ => none : Option Region)
 | .sPort, cs => (match cs with | [.v (.int .i64 y0), .v (.bool y1)] => (some (⟨y0, y1⟩ : Port)) | _ => none : Option Port)
 | .sPartition, cs => (match cs with | [.v (.string y0), .v (.int .i64 y1), .v (.int .i64 y2), .v (.int .i64 y3), .v (.int .i64 y4), .v (.int .i64 y5), y6, y7] => (match za2 .sRegion y6, za2 .sPort y7 with | some y6, some y7 => some (⟨y0, y1, y2, y3, y4, y5, y6, y7⟩ : Partition) | _, _ => none) | _ => none : Option Partition)
 | .sChannel, cs => (match cs with | [.v (.int .i64 y0), .v (.int .i64 y1), .v (.int .i64 y2)] => (some (⟨y0, y1, y2⟩ : Channel)) | _ => none : Option Channel)
 | .sConfig, cs => (match cs with | [.v (.int .i64 y0), .v (.int .i64 y1), .v (.int .i64 y2), .v (.int .i64 y3), y4, y5, y6] => (match za2 (.sl .sWindow) y4, za2 .sPartition y5, za2 .sChannel y6 with | some y4, some y5, some y6 => some (⟨y0, y1, y2, y3, y4, y5, y6⟩ : Config) | _, _, _ => none) | _ => none : Option Config)
 | .sBulkheadlaw21KeptWords, cs => (match cs with | [y0, y1, y2, y3] => (match za2 (.i .u32) y0, za2 (.i .u32) y1, za2 (.i .u32) y2, za2 (.i .u32) y3 with | some y0, some y1, some y2, some y3 => some (⟨y0, y1, y2, y3⟩ : Bulkheadlaw21KeptWords) | _, _, _, _ => none) | _ => none : Option Bulkheadlaw21KeptWords)
 | .sBulkheadlaw21Book, cs => (match cs with | [y0] => (match za2 .sBulkheadlaw21KeptWords y0 with | some y0 => some (⟨y0⟩ : Bulkheadlaw21Book) | _ => none) | _ => none : Option Bulkheadlaw21Book)
 | .sPartitionPlace, cs => (match cs with | [.v (.int .i64 y0), .v (.int .i64 y1), .v (.int .i64 y2), .v (.int .i64 y3), y4] => (match za2 (.i .i64) y4 with | some y4 => some (⟨y0, y1, y2, y3, y4⟩ : PartitionPlace) | _ => none) | _ => none : Option PartitionPlace)
 | .sDestPlace, cs => (match cs with | [.v (.int .i64 y0), .v (.int .i64 y1), .v (.int .i64 y2)] => (some (⟨y0, y1, y2⟩ : DestPlace)) | _ => none : Option DestPlace)
 | .sChannelPlace, cs => (match cs with | [.v (.int .i64 y0), .v (.int .i64 y1), .v (.int .i64 y2), .v (.int .i64 y3), y4] => (match za2 .sDestPlace y4 with | some y4 => some (⟨y0, y1, y2, y3, y4⟩ : ChannelPlace) | _ => none) | _ => none : Option ChannelPlace)
 | .sLayout, cs => (match cs with | [.v (.int .i64 y0), y1, y2, .v (.int .i64 y3)] => (match za2 .sPartitionPlace y1, za2 .sChannelPlace y2 with | some y1, some y2 => some (⟨y0, y1, y2, y3⟩ : Layout) | _, _ => none) | _ => none : Option Layout)
 | .sDuctDucts, cs => (match cs with | [.v (.int .i64 y0), .v (.int .i64 y1), .v (.int .i64 y2), .v (.int .i64 y3), y4, y5, y6, .v (.int .i64 y7), y8, y9, .v (.int .i64 y10)] => (match za2 (.sl .sWindow) y4, za2 .sPartition y5, za2 .sChannel y6, za2 .sPartitionPlace y8, za2 .sChannelPlace y9 with | some y4, some y5, some y6, some y8, some y9 => some (⟨⟨y0, y1, y2, y3, y4, y5, y6⟩, ⟨y7, y8, y9, y10⟩⟩ : DuctDucts) | _, _, _, _, _ => none) | _ => none : Option DuctDucts)
 | .sBulkheadref21Ducts, cs => (match cs with | [.v (.int .i64 y0), .v (.int .i64 y1), .v (.int .i64 y2), .v (.int .i64 y3), y4, y5, y6, .v (.int .i64 y7), y8, y9, .v (.int .i64 y10)] => (match za2 (.sl .sWindow) y4, za2 .sPartition y5, za2 .sChannel y6, za2 .sPartitionPlace y8, za2 .sChannelPlace y9 with | some y4, some y5, some y6, some y8, some y9 => some (⟨⟨y0, y1, y2, y3, y4, y5, y6⟩, ⟨y7, y8, y9, y10⟩⟩ : Bulkheadref21Ducts) | _, _, _, _, _ => none) | _ => none : Option Bulkheadref21Ducts)
 | .sMemMemory, cs => (match cs with | [y0] => (match za2 (.i .u32) y0 with | some y0 => some (⟨y0⟩ : MemMemory) | _ => none) | _ => none : Option MemMemory)
 | .sBulkheadref05Memory, cs => (match cs with | [y0] => (match za2 (.i .u32) y0 with | some y0 => some (⟨y0⟩ : Bulkheadref05Memory) | _ => none) | _ => none : Option Bulkheadref05Memory)
 | .sBulkheadlaw21World, cs => (match cs with | [y0, y1, y2, y3, y4, y5, y6] => (match zde .sDuctDucts y0, zde .sBulkheadref21Ducts y1, zde .sMemMemory y2, zde .sBulkheadref05Memory y3, zde .sMemMemory y4, zde .sBulkheadref05Memory y5, za2 .sBulkheadlaw21KeptWords y6 with | some y0, some y1, some y2, some y3, some y4, some y5, some y6 => some (⟨y0, y1, y2, y3, y4, y5, ⟨y6⟩⟩ : Bulkheadlaw21World) | _, _, _, _, _, _, _ => none) | _ => none : Option Bulkheadlaw21World)
 | .sBulkheadlaw21Op, cs => (match cs with | [.v (.int .i64 y0), .v (.int .i64 y1), .v (.int .i64 y2), .v (.int .i64 y3), .v (.int .u32 y4), y5] => (match za2 (.i .u32) y5 with | some y5 => some (⟨y0, y1, y2, y3, y4, y5⟩ : Bulkheadlaw21Op) | _ => none) | _ => none : Option Bulkheadlaw21Op)
 | .sBulkheadlaw21Holds, cs => (match cs with | [.v (.int .i64 y0), .v (.int .i64 y1), y2, .v (.bool y3), .v (.int .i64 y4)] => (match za2 (.sl (.i .u32)) y2 with | some y2 => some (⟨y0, y1, y2, y3, y4⟩ : Bulkheadlaw21Holds) | _ => none) | _ => none : Option Bulkheadlaw21Holds)
 | .sBulkheadlaw21Line, cs => (match cs with | [y0, y1] => (match za2 (.sl (.i .u32)) y0, za2 .sBulkheadlaw21Holds y1 with | some y0, some y1 => some (⟨y0, y1⟩ : Bulkheadlaw21Line) | _, _ => none) | _ => none : Option Bulkheadlaw21Line)
 | .sOwner, cs => (match cs with | [.v (.int .i64 y0), .v (.int .i64 y1), .v (.int .i64 y2)] => (some (⟨y0, y1, y2⟩ : Owner)) | _ => none : Option Owner)
 | .sDuctEnds, cs => (match cs with | [.v (.int .i64 y0), .v (.int .i64 y1), y2] => (match za2 (.i .i64) y2 with | some y2 => some (⟨y0, y1, y2⟩ : DuctEnds) | _ => none) | _ => none : Option DuctEnds)
 | .sDuctRow, cs => (match cs with | [.v (.int .i64 y0), .v (.int .i64 y1), y2, .v (.int .i64 y3)] => (match za2 (.i .i64) y2 with | some y2 => some (⟨⟨y0, y1, y2⟩, y3⟩ : DuctRow) | _ => none) | _ => none : Option DuctRow)
 | .sBulkheadref15Piece, cs => (match cs with | [.v (.int .i64 y0), .v (.int .i64 y1), .v (.int .i64 y2), .v (.int .i64 y3), .v (.int .i64 y4)] => (some (⟨y0, y1, ⟨y2, y3, y4⟩⟩ : Bulkheadref15Piece)) | _ => none : Option Bulkheadref15Piece)
 | .sWhere, cs => (match cs with | [.v (.int .i64 y0), .v (.int .i64 y1)] => (some (⟨y0, y1⟩ : Where)) | _ => none : Option Where)
 | .sDuctLast, cs => (match cs with | [.v (.int .i64 y0), .v (.int .i64 y1), y2] => (match za2 (.i .i64) y2 with | some y2 => some (⟨⟨y0, y1, y2⟩⟩ : DuctLast) | _ => none) | _ => none : Option DuctLast)
 | .sQueueForm, cs => (match cs with | [.v (.int .i64 y0), .v (.int .i64 y1)] => (some (⟨y0, y1⟩ : QueueForm)) | _ => none : Option QueueForm)
 | .sQueueRow, cs => (match cs with | [.v (.int .u32 y0), .v (.int .u32 y1), y2] => (match za2 (.sl (.i .u32)) y2 with | some y2 => some (⟨y0, y1, y2⟩ : QueueRow) | _ => none) | _ => none : Option QueueRow)
 | .sAdmitFound, cs => (match cs with | [.v (.int .i64 y0), .v (.int .i64 y1), .v (.int .i64 y2)] => (some (⟨y0, ⟨y1, y2⟩⟩ : AdmitFound)) | _ => none : Option AdmitFound)
 | .sLayoutEnd, cs => (match cs with | [.v (.int .i64 y0), .v (.int .i64 y1)] => (some (⟨y0, y1⟩ : LayoutEnd)) | _ => none : Option LayoutEnd)
 | .sBulkheadref19Held, cs => (match cs with | [.v (.bool y0), .v (.bool y1), y2] => (match za2 (.i .u32) y2 with | some y2 => some (⟨y0, y1, y2⟩ : Bulkheadref19Held) | _ => none) | _ => none : Option Bulkheadref19Held)
 | .sBulkheadref20Row, cs => (match cs with | [.v (.int .i64 y0), y1, .v (.int .u32 y2)] => (match za2 (.sl (.i .u32)) y1 with | some y1 => some (⟨y0, y1, y2⟩ : Bulkheadref20Row) | _ => none) | _ => none : Option Bulkheadref20Row)
def zgm : TypeId -> Option Ty
 | 1 => some .f
 | 2 => some (.i .i64)
 | 3 => some (.i .i64)
 | 4 => some .b
 | 5 => some (.i .u8)
 | 6 => some (.i .u8)
 | 9 => some .s
 | 10 => some .s
 | 11 => some .s
 | 12 => some (.i .u64)
 | 21 => some (.i .i32)
 | 22 => some (.sl (.sl .sWindow))
 | 23 => some (.sl .sPartition)
 | 24 => some (.sl .sChannel)
 | 26 => some .sConfig
 | 27 => some (.sl .sBulkheadlaw21Op)
 | 28 => some .f
 | 29 => some .f
 | 30 => some (.p .sBulkheadlaw21World)
 | 32 => some .f
 | 33 => some (.p .sDuctDucts)
 | 34 => some (.p .sBulkheadref21Ducts)
 | 35 => some (.p .sMemMemory)
 | 36 => some (.p .sBulkheadref05Memory)
 | 37 => some (.sl .sBulkheadlaw21KeptWords)
 | 39 => some .sBulkheadlaw21Book
 | 41 => some .sBulkheadlaw21World
 | 42 => some (.sl .sBulkheadlaw21Line)
 | 43 => some .f
 | 44 => some (.i .u32)
 | 45 => some (.sl (.i .u32))
 | 47 => some .sBulkheadlaw21Op
 | 48 => some .f
 | 49 => some (.i .i64)
 | 50 => some .f
 | 51 => some .f
 | 52 => some (.sl .sRegion)
 | 53 => some (.sl .sPort)
 | 55 => some .sPartition
 | 57 => some .sPort
 | 58 => some .f
 | 59 => some (.sl (.sl (.i .u32)))
 | 60 => some (.sl .sBulkheadlaw21Holds)
 | 62 => some .sBulkheadlaw21Line
 | 64 => some .sBulkheadlaw21Holds
 | 65 => some .f
 | 66 => some (.p .sBulkheadlaw21Holds)
 | 67 => some .f
 | 68 => some .f
 | 70 => some .f
 | 71 => some .f
 | 73 => some .f
 | 75 => some .f
 | 77 => some .sOwner
 | 79 => some .f
 | 80 => some .f
 | 81 => some .f
 | 82 => some .f
 | 84 => some .sBulkheadref05Memory
 | 85 => some .f
 | 86 => some (.sl .sWindow)
 | 87 => some .f
 | 89 => some .f
 | 91 => some .f
 | 92 => some .f
 | 94 => some .f
 | 96 => some .f
 | 97 => some .f
 | 98 => some (.sl .sPartitionPlace)
 | 99 => some (.sl .sChannelPlace)
 | 101 => some .sLayout
 | 103 => some .sDuctDucts
 | 106 => some .f
 | 108 => some .sChannel
 | 109 => some .f
 | 110 => some .f
 | 112 => some .sMemMemory
 | 114 => some .f
 | 116 => some .f
 | 118 => some .f
 | 119 => some (.sl (.i .i64))
 | 121 => some .sDuctEnds
 | 123 => some .sDuctRow
 | 124 => some .f
 | 125 => some .f
 | 127 => some .f
 | 128 => some .f
 | 130 => some .f
 | 131 => some (.sl .sBulkheadref15Piece)
 | 132 => some .f
 | 134 => some .sBulkheadref15Piece
 | 136 => some .sRegion
 | 138 => some .f
 | 139 => some .f
 | 140 => some .f
 | 141 => some .f
 | 142 => some .f
 | 143 => some .f
 | 144 => some .f
 | 145 => some (.p .sBulkheadlaw21Book)
 | 147 => some .sBulkheadlaw21KeptWords
 | 148 => some .f
 | 150 => some .sWindow
 | 152 => some .sWhere
 | 154 => some .f
 | 156 => some .f
 | 158 => some .sBulkheadref21Ducts
 | 159 => some .f
 | 160 => some .f
 | 161 => some (.sl .sDestPlace)
 | 163 => some .sChannelPlace
 | 165 => some .sDestPlace
 | 167 => some .sDuctLast
 | 169 => some .sQueueForm
 | 171 => some .sQueueRow
 | 173 => some .f
 | 174 => some .f
 | 175 => some .f
 | 176 => some .f
 | 177 => some .f
 | 178 => some .f
 | 180 => some .f
 | 182 => some .f
 | 183 => some .f
 | 185 => some .f
 | 186 => some .f
 | 187 => some .f
 | 188 => some .f
 | 189 => some .f
 | 191 => some .f
 | 192 => some .f
 | 193 => some .f
 | 194 => some .f
 | 195 => some (.sl .f)
 | 196 => some .f
 | 197 => some .f
 | 199 => some .sAdmitFound
 | 200 => some .f
 | 201 => some .f
 | 203 => some .sPartitionPlace
 | 204 => some (.sl .sLayoutEnd)
 | 206 => some .f
 | 208 => some .sLayoutEnd
 | 209 => some .f
 | 210 => some .f
 | 211 => some .f
 | 212 => some .f
 | 213 => some .f
 | 214 => some .f
 | 215 => some .f
 | 216 => some .f
 | 217 => some .f
 | 219 => some .f
 | 220 => some .f
 | 221 => some .f
 | 222 => some .f
 | 224 => some .sBulkheadref19Held
 | 226 => some .f
 | 227 => some .f
 | 229 => some .sBulkheadref20Row
 | 231 => some .f
 | 232 => some .f
 | 233 => some .f
 | 234 => some (.sl .sBulkheadref19Held)
 | 235 => some .f
 | 236 => some .f
 | 237 => some .f
 | 238 => some .f
 | 239 => some .f
 | 241 => some .f
 | 242 => some .f
 | 243 => some .f
 | 244 => some .f
 | 245 => some .f
 | 246 => some .f
 | 248 => some .f
 | 250 => some .f
 | 251 => some .f
 | 252 => some .f
 | 253 => some .f
 | 254 => some .f
 | 255 => some .f
 | 256 => some .f
 | 258 => some .f
 | 260 => some .f
 | 261 => some (.sl .sAdmitFound)
 | 262 => some .f
 | 268 => some (.i .u8)
 | 269 => some (.i .u8)
 | 270 => some .f
 | 272 => some (.i .i32)
 | 273 => some (.i .i32)
 | 276 => some .f
 | 277 => some .f
 | 278 => some .f
 | 279 => some .f
 | 280 => some .f
 | 282 => some .f
 | 283 => some (.sl .sQueueRow)
 | 284 => some .f
 | 285 => some .f
 | 286 => some .f
 | 287 => some .f
 | 288 => some .f
 | 289 => some .f
 | 290 => some .f
 | 292 => some .f
 | 293 => some .f
 | 294 => some .f
 | 295 => some .f
 | _ => none
def Ty.leaves : Ty -> List Ty
 | .i k => [.i k] | .b => [.b] | .s => [.s] | .f => [.f] | .sl t => [.sl t] | .p t => [.p t]
 | .sWindow => [.i .i64, .i .i64, .i .i64]
 | .sRegion => [.i .i64, .i .i64, .i .i64, .i .i64]
 | .sPort => [.i .i64, .b]
 | .sPartition => [.s, .i .i64, .i .i64, .i .i64, .i .i64, .i .i64, .sl .sRegion, .sl .sPort]
 | .sChannel => [.i .i64, .i .i64, .i .i64]
 | .sConfig => [.i .i64, .i .i64, .i .i64, .i .i64, .sl (.sl .sWindow), .sl .sPartition, .sl .sChannel]
 | .sBulkheadlaw21KeptWords => [.sl (.i .u32), .sl (.i .u32), .sl (.i .u32), .sl (.i .u32)]
 | .sBulkheadlaw21Book => [.sl .sBulkheadlaw21KeptWords]
 | .sPartitionPlace => [.i .i64, .i .i64, .i .i64, .i .i64, .sl (.i .i64)]
 | .sDestPlace => [.i .i64, .i .i64, .i .i64]
 | .sChannelPlace => [.i .i64, .i .i64, .i .i64, .i .i64, .sl .sDestPlace]
 | .sLayout => [.i .i64, .sl .sPartitionPlace, .sl .sChannelPlace, .i .i64]
 | .sDuctDucts => [.i .i64, .i .i64, .i .i64, .i .i64, .sl (.sl .sWindow), .sl .sPartition, .sl .sChannel, .i .i64, .sl .sPartitionPlace, .sl .sChannelPlace, .i .i64]
 | .sBulkheadref21Ducts => [.i .i64, .i .i64, .i .i64, .i .i64, .sl (.sl .sWindow), .sl .sPartition, .sl .sChannel, .i .i64, .sl .sPartitionPlace, .sl .sChannelPlace, .i .i64]
 | .sMemMemory => [.sl (.i .u32)]
 | .sBulkheadref05Memory => [.sl (.i .u32)]
 | .sBulkheadlaw21World => [.p .sDuctDucts, .p .sBulkheadref21Ducts, .p .sMemMemory, .p .sBulkheadref05Memory, .p .sMemMemory, .p .sBulkheadref05Memory, .sl .sBulkheadlaw21KeptWords]
 | .sBulkheadlaw21Op => [.i .i64, .i .i64, .i .i64, .i .i64, .i .u32, .sl (.i .u32)]
 | .sBulkheadlaw21Holds => [.i .i64, .i .i64, .sl (.sl (.i .u32)), .b, .i .i64]
 | .sBulkheadlaw21Line => [.sl (.sl (.i .u32)), .sl .sBulkheadlaw21Holds]
 | .sOwner => [.i .i64, .i .i64, .i .i64]
 | .sDuctEnds => [.i .i64, .i .i64, .sl (.i .i64)]
 | .sDuctRow => [.i .i64, .i .i64, .sl (.i .i64), .i .i64]
 | .sBulkheadref15Piece => [.i .i64, .i .i64, .i .i64, .i .i64, .i .i64]
 | .sWhere => [.i .i64, .i .i64]
 | .sDuctLast => [.i .i64, .i .i64, .sl (.i .i64)]
 | .sQueueForm => [.i .i64, .i .i64]
 | .sQueueRow => [.i .u32, .i .u32, .sl (.sl (.i .u32))]
 | .sAdmitFound => [.i .i64, .i .i64, .i .i64]
 | .sLayoutEnd => [.i .i64, .i .i64]
 | .sBulkheadref19Held => [.b, .b, .sl (.i .u32)]
 | .sBulkheadref20Row => [.i .i64, .sl (.sl (.i .u32)), .i .u32]
def zIw : List Nat := [8, 27, 34]
def zxV : Nat := 297
def Ty.dat : Ty -> Bool
 | .i _ => true | .b => true | .s => true | .f => false | .sl t => t.dat | .p _ => false
 | .sWindow => true
 | .sRegion => true
 | .sPort => true
 | .sPartition => true
 | .sChannel => true
 | .sConfig => true
 | .sBulkheadlaw21KeptWords => true
 | .sBulkheadlaw21Book => true
 | .sPartitionPlace => true
 | .sDestPlace => true
 | .sChannelPlace => true
 | .sLayout => true
 | .sDuctDucts => true
 | .sBulkheadref21Ducts => true
 | .sMemMemory => true
 | .sBulkheadref05Memory => true
 | .sBulkheadlaw21World => false
 | .sBulkheadlaw21Op => true
 | .sBulkheadlaw21Holds => true
 | .sBulkheadlaw21Line => true
 | .sOwner => true
 | .sDuctEnds => true
 | .sDuctRow => true
 | .sBulkheadref15Piece => true
 | .sWhere => true
 | .sDuctLast => true
 | .sQueueForm => true
 | .sQueueRow => true
 | .sAdmitFound => true
 | .sLayoutEnd => true
 | .sBulkheadref19Held => true
 | .sBulkheadref20Row => true
abbrev Window.av (x : Window) : AV := .agg [.v (.int .i64 x.partition), .v (.int .i64 x.usable), .v (.int .i64 x.slack)]
abbrev Region.av (x : Region) : AV := .agg [.v (.int .i64 x.page), .v (.int .i64 x.pages), .v (.int .i64 x.frame), .v (.int .i64 x.rights)]
abbrev Port.av (x : Port) : AV := .agg [.v (.int .i64 x.channel), .v (.bool x.source)]
abbrev Partition.av (x : Partition) : AV := .agg [.v (.string x.name), .v (.int .i64 x.entry), .v (.int .i64 x.action), .v (.int .i64 x.restarts), .v (.int .i64 x.inputs), .v (.int .i64 x.outputs), .sl .sRegion x.regions, .sl .sPort x.ports]
abbrev Channel.av (x : Channel) : AV := .agg [.v (.int .i64 x.kind), .v (.int .i64 x.words), .v (.int .i64 x.depth)]
abbrev Config.av (x : Config) : AV := .agg [.v (.int .i64 x.frames), .v (.int .i64 x.major), .v (.int .i64 x.kernel), .v (.int .i64 x.room), .sl (.sl .sWindow) x.cores, .sl .sPartition x.partitions, .sl .sChannel x.channels]
abbrev Bulkheadlaw21KeptWords.av (x : Bulkheadlaw21KeptWords) : AV := .agg [.sl (.i .u32) x.l, .sl (.i .u32) x.want, .sl (.i .u32) x.one, .sl (.i .u32) x.many]
abbrev Bulkheadlaw21Book.av (x : Bulkheadlaw21Book) : AV := .agg [.sl .sBulkheadlaw21KeptWords x.words]
abbrev PartitionPlace.av (x : PartitionPlace) : AV := .agg [.v (.int .i64 x.lock), .v (.int .i64 x.save), .v (.int .i64 x.state), .v (.int .i64 x.root), .sl (.i .i64) x.tables]
abbrev DestPlace.av (x : DestPlace) : AV := .agg [.v (.int .i64 x.partition), .v (.int .i64 x.port), .v (.int .i64 x.at_)]
abbrev ChannelPlace.av (x : ChannelPlace) : AV := .agg [.v (.int .i64 x.lock), .v (.int .i64 x.stage), .v (.int .i64 x.partition), .v (.int .i64 x.port), .sl .sDestPlace x.dests]
abbrev Layout.av (x : Layout) : AV := .agg [.v (.int .i64 x.barrier), .sl .sPartitionPlace x.partitions, .sl .sChannelPlace x.channels, .v (.int .i64 x.end_)]
abbrev DuctDucts.av (x : DuctDucts) : AV := .agg [.v (.int .i64 x.c.frames), .v (.int .i64 x.c.major), .v (.int .i64 x.c.kernel), .v (.int .i64 x.c.room), .sl (.sl .sWindow) x.c.cores, .sl .sPartition x.c.partitions, .sl .sChannel x.c.channels, .v (.int .i64 x.lay.barrier), .sl .sPartitionPlace x.lay.partitions, .sl .sChannelPlace x.lay.channels, .v (.int .i64 x.lay.end_)]
abbrev Bulkheadref21Ducts.av (x : Bulkheadref21Ducts) : AV := .agg [.v (.int .i64 x.c.frames), .v (.int .i64 x.c.major), .v (.int .i64 x.c.kernel), .v (.int .i64 x.c.room), .sl (.sl .sWindow) x.c.cores, .sl .sPartition x.c.partitions, .sl .sChannel x.c.channels, .v (.int .i64 x.l.barrier), .sl .sPartitionPlace x.l.partitions, .sl .sChannelPlace x.l.channels, .v (.int .i64 x.l.end_)]
abbrev MemMemory.av (x : MemMemory) : AV := .agg [.sl (.i .u32) x.words]
abbrev Bulkheadref05Memory.av (x : Bulkheadref05Memory) : AV := .agg [.sl (.i .u32) x.w]
abbrev Bulkheadlaw21World.av (x : Bulkheadlaw21World) : AV := .agg [.op .sDuctDucts x.d, .op .sBulkheadref21Ducts x.r, .op .sMemMemory x.m, .op .sBulkheadref05Memory x.n, .op .sMemMemory x.p, .op .sBulkheadref05Memory x.q, .sl .sBulkheadlaw21KeptWords x.kept.words]
abbrev Bulkheadlaw21Op.av (x : Bulkheadlaw21Op) : AV := .agg [.v (.int .i64 x.kind), .v (.int .i64 x.p), .v (.int .i64 x.q), .v (.int .i64 x.a), .v (.int .u32 x.w), .sl (.i .u32) x.message]
abbrev Bulkheadlaw21Holds.av (x : Bulkheadlaw21Holds) : AV := .agg [.v (.int .i64 x.p), .v (.int .i64 x.q), .sl (.sl (.i .u32)) x.row, .v (.bool x.fresh), .v (.int .i64 x.lost)]
abbrev Bulkheadlaw21Line.av (x : Bulkheadlaw21Line) : AV := .agg [.sl (.sl (.i .u32)) x.staged, .sl .sBulkheadlaw21Holds x.ports]
abbrev Owner.av (x : Owner) : AV := .agg [.v (.int .i64 x.kind), .v (.int .i64 x.index), .v (.int .i64 x.port)]
abbrev DuctEnds.av (x : DuctEnds) : AV := .agg [.v (.int .i64 x.stage), .v (.int .i64 x.words), .sl (.i .i64) x.ports]
abbrev DuctRow.av (x : DuctRow) : AV := .agg [.v (.int .i64 x.ends.stage), .v (.int .i64 x.ends.words), .sl (.i .i64) x.ends.ports, .v (.int .i64 x.depth)]
abbrev Bulkheadref15Piece.av (x : Bulkheadref15Piece) : AV := .agg [.v (.int .i64 x.at_), .v (.int .i64 x.size), .v (.int .i64 x.owner.kind), .v (.int .i64 x.owner.index), .v (.int .i64 x.owner.port)]
abbrev Where.av (x : Where) : AV := .agg [.v (.int .i64 x.first), .v (.int .i64 x.second)]
abbrev DuctLast.av (x : DuctLast) : AV := .agg [.v (.int .i64 x.ends.stage), .v (.int .i64 x.ends.words), .sl (.i .i64) x.ends.ports]
abbrev QueueForm.av (x : QueueForm) : AV := .agg [.v (.int .i64 x.words), .v (.int .i64 x.depth)]
abbrev QueueRow.av (x : QueueRow) : AV := .agg [.v (.int .u32 x.first), .v (.int .u32 x.lost), .sl (.sl (.i .u32)) x.messages]
abbrev AdmitFound.av (x : AdmitFound) : AV := .agg [.v (.int .i64 x.e), .v (.int .i64 x.where_.first), .v (.int .i64 x.where_.second)]
abbrev LayoutEnd.av (x : LayoutEnd) : AV := .agg [.v (.int .i64 x.partition), .v (.int .i64 x.port)]
abbrev Bulkheadref19Held.av (x : Bulkheadref19Held) : AV := .agg [.v (.bool x.there), .v (.bool x.fresh), .sl (.i .u32) x.message]
abbrev Bulkheadref20Row.av (x : Bulkheadref20Row) : AV := .agg [.v (.int .i64 x.first), .sl (.sl (.i .u32)) x.messages, .v (.int .u32 x.lost)]
theorem cnT.{u} {α : Sort u} (a b : α) : cond true a b = a := rfl
theorem cnF.{u} {α : Sort u} (a b : α) : cond false a b = b := rfl
theorem tnC (n : Nat) : (n : Int).toNat = n := Int.toNat_natCast n
end Go.Proofs.YtganhedldgbfpaaGreatDoor
end
