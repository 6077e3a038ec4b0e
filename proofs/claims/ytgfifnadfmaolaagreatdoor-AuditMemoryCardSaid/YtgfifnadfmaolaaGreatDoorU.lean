import Derived.WalkKit
import Derived.Below
import Derived.RowKit3
set_option linter.unusedVariables false
set_option linter.unusedSimpArgs false
noncomputable section
namespace Go.Proofs.YtgfifnadfmaolaaGreatDoor
@[ext] structure Window where
 partition : Int
 usable : Int
 slack : Int
 deriving Inhabited, DecidableEq
@[ext] structure Region where
 page : Int
 pages : Int
 frame : Int
 rights : Int
 deriving Inhabited, DecidableEq
@[ext] structure Port where
 channel : Int
 source : Bool
 deriving Inhabited, DecidableEq
@[ext] structure Partition where
 name : ByteArray
 entry : Int
 action : Int
 restarts : Int
 inputs : Int
 outputs : Int
 regions : (List Region)
 ports : (List Port)
 deriving Inhabited, DecidableEq
@[ext] structure Channel where
 kind : Int
 words : Int
 depth : Int
 deriving Inhabited, DecidableEq
@[ext] structure Config where
 frames : Int
 major : Int
 kernel : Int
 room : Int
 cores : (List (List Window))
 partitions : (List Partition)
 channels : (List Channel)
 deriving Inhabited, DecidableEq
@[ext] structure Owner where
 kind : Int
 index : Int
 port : Int
 deriving Inhabited, DecidableEq
@[ext] structure Bulkheadlaw28Turn where
 at_ : Int
 word : Int
 deriving Inhabited, DecidableEq
@[ext] structure MemMemory where
 words : (List Int)
 deriving Inhabited, DecidableEq
@[ext] structure Where where
 first : Int
 second : Int
 deriving Inhabited, DecidableEq
@[ext] structure PartitionPlace where
 lock : Int
 save : Int
 state : Int
 root : Int
 tables : (List Int)
 deriving Inhabited, DecidableEq
@[ext] structure DestPlace where
 partition : Int
 port : Int
 at_ : Int
 deriving Inhabited, DecidableEq
@[ext] structure ChannelPlace where
 lock : Int
 stage : Int
 partition : Int
 port : Int
 dests : (List DestPlace)
 deriving Inhabited, DecidableEq
@[ext] structure Layout where
 barrier : Int
 partitions : (List PartitionPlace)
 channels : (List ChannelPlace)
 end_ : Int
 deriving Inhabited, DecidableEq
@[ext] structure Problem where
 kind : Int
 index : Int
 at_ : Int
 deriving Inhabited, DecidableEq
@[ext] structure AuditFinder where
 c : Config
 l : Layout
 m : (Option MemMemory)
 out : (List Problem)
 deriving Inhabited, DecidableEq
@[ext] structure Bulkheadref15Piece where
 at_ : Int
 size : Int
 owner : Owner
 deriving Inhabited, DecidableEq
@[ext] structure LayoutPiece where
 at_ : Int
 many : Int
 owner : Owner
 deriving Inhabited, DecidableEq
@[ext] structure Bulkheadref20Row where
 first : Int
 messages : (List (List Int))
 lost : Int
 deriving Inhabited, DecidableEq
@[ext] structure Bulkheadref05Memory where
 w : (List Int)
 deriving Inhabited, DecidableEq
@[ext] structure LayoutEnd where
 partition : Int
 port : Int
 deriving Inhabited, DecidableEq
@[ext] structure AdmitFound where
 e : Int
 where_ : Where
 deriving Inhabited, DecidableEq
@[ext] structure Bulkheadref19Held where
 there : Bool
 fresh : Bool
 message : (List Int)
 deriving Inhabited, DecidableEq
@[ext] structure QueueForm where
 words : Int
 depth : Int
 deriving Inhabited, DecidableEq
@[ext] structure QueueRow where
 first : Int
 lost : Int
 messages : (List (List Int))
 deriving Inhabited, DecidableEq
@[ext] structure LayoutSize where
 channel : Channel
 deriving Inhabited, DecidableEq
inductive Clo where
 | none
 | c130 (x0 : Config)
 | c133 (x0 : Config)
 | c134 (x0 : Config)
 | c135 (x0 : Config)
 | c136 (x0 : Config)
 | c137 (x0 : Config) (x1 : Int)
 | c139 (x0 : Config) (x1 : Int)
 | c141 (x0 : Config) (x1 : Int)
 | c143 (x0 : Config)
 | c145 (x0 : LayoutSize)
 | c146 (x0 : LayoutSize)
 deriving Inhabited, DecidableEq
@[ext] structure LayoutAsked where
 stage : Clo
 port : Clo
 deriving Inhabited, DecidableEq
inductive Ty where
 | i (k : IntKind) | b | s | f | sl (t : Ty) | p (t : Ty)
 | sWindow
 | sRegion
 | sPort
 | sPartition
 | sChannel
 | sConfig
 | sOwner
 | sBulkheadlaw28Turn
 | sMemMemory
 | sWhere
 | sPartitionPlace
 | sDestPlace
 | sChannelPlace
 | sLayout
 | sProblem
 | sAuditFinder
 | sBulkheadref15Piece
 | sLayoutPiece
 | sBulkheadref20Row
 | sBulkheadref05Memory
 | sLayoutEnd
 | sAdmitFound
 | sBulkheadref19Held
 | sQueueForm
 | sQueueRow
 | sLayoutSize
 | sLayoutAsked
 deriving DecidableEq
def Ty.T : Ty -> Type
 | .i _ => Int | .b => Bool | .s => ByteArray | .f => Clo | .sl t => List t.T | .p t => Option t.T
 | .sWindow => Window
 | .sRegion => Region
 | .sPort => Port
 | .sPartition => Partition
 | .sChannel => Channel
 | .sConfig => Config
 | .sOwner => Owner
 | .sBulkheadlaw28Turn => Bulkheadlaw28Turn
 | .sMemMemory => MemMemory
 | .sWhere => Where
 | .sPartitionPlace => PartitionPlace
 | .sDestPlace => DestPlace
 | .sChannelPlace => ChannelPlace
 | .sLayout => Layout
 | .sProblem => Problem
 | .sAuditFinder => AuditFinder
 | .sBulkheadref15Piece => Bulkheadref15Piece
 | .sLayoutPiece => LayoutPiece
 | .sBulkheadref20Row => Bulkheadref20Row
 | .sBulkheadref05Memory => Bulkheadref05Memory
 | .sLayoutEnd => LayoutEnd
 | .sAdmitFound => AdmitFound
 | .sBulkheadref19Held => Bulkheadref19Held
 | .sQueueForm => QueueForm
 | .sQueueRow => QueueRow
 | .sLayoutSize => LayoutSize
 | .sLayoutAsked => LayoutAsked
instance : (t : Ty) -> Inhabited t.T
 | .i _ => ⟨(0 : Int)⟩ | .b => ⟨false⟩ | .s => ⟨ByteArray.empty⟩ | .f => ⟨Clo.none⟩ | .sl t => ⟨([] : List t.T)⟩ | .p t => ⟨(none : Option t.T)⟩
 | .sWindow => ⟨(default : Window)⟩
 | .sRegion => ⟨(default : Region)⟩
 | .sPort => ⟨(default : Port)⟩
 | .sPartition => ⟨(default : Partition)⟩
 | .sChannel => ⟨(default : Channel)⟩
 | .sConfig => ⟨(default : Config)⟩
 | .sOwner => ⟨(default : Owner)⟩
 | .sBulkheadlaw28Turn => ⟨(default : Bulkheadlaw28Turn)⟩
 | .sMemMemory => ⟨(default : MemMemory)⟩
 | .sWhere => ⟨(default : Where)⟩
 | .sPartitionPlace => ⟨(default : PartitionPlace)⟩
 | .sDestPlace => ⟨(default : DestPlace)⟩
 | .sChannelPlace => ⟨(default : ChannelPlace)⟩
 | .sLayout => ⟨(default : Layout)⟩
 | .sProblem => ⟨(default : Problem)⟩
 | .sAuditFinder => ⟨(default : AuditFinder)⟩
 | .sBulkheadref15Piece => ⟨(default : Bulkheadref15Piece)⟩
 | .sLayoutPiece => ⟨(default : LayoutPiece)⟩
 | .sBulkheadref20Row => ⟨(default : Bulkheadref20Row)⟩
 | .sBulkheadref05Memory => ⟨(default : Bulkheadref05Memory)⟩
 | .sLayoutEnd => ⟨(default : LayoutEnd)⟩
 | .sAdmitFound => ⟨(default : AdmitFound)⟩
 | .sBulkheadref19Held => ⟨(default : Bulkheadref19Held)⟩
 | .sQueueForm => ⟨(default : QueueForm)⟩
 | .sQueueRow => ⟨(default : QueueRow)⟩
 | .sLayoutSize => ⟨(default : LayoutSize)⟩
 | .sLayoutAsked => ⟨(default : LayoutAsked)⟩
inductive AV where
 | undef
 | v (x : Value)
 | agg (cs : List AV)
 | tup (vs : List AV)
 | sl (t : Ty) (xs : List t.T)
 | op (t : Ty) (x : Option t.T)
 | el (t : Ty) (xs : List t.T) (i off : Nat)
 | ref (b off : Nat)
 | own (b : Nat)
 | oel (b sz i off : Nat)
 | rex (b o0 : Nat) (t : Ty) (m i d : Nat)
 | vw (b sz o n : Nat)
 | fn (f : Fn) (first cap : List AV)
 | clo (c : Clo)
 | ifc (t : TypeId) (x : AV)
def Ty.enc : (t : Ty) -> t.T -> List AV
 | .i k, x => [.v (.int k x)] | .b, x => [.v (.bool x)] | .s, x => [.v (.string x)] | .f, x => [.clo x] | .sl t, x => [.sl t x] | .p t, x => [.op t x]
 | .sWindow, x => [.v (.int .i64 x.partition), .v (.int .i64 x.usable), .v (.int .i64 x.slack)]
 | .sRegion, x => [.v (.int .i64 x.page), .v (.int .i64 x.pages), .v (.int .i64 x.frame), .v (.int .i64 x.rights)]
 | .sPort, x => [.v (.int .i64 x.channel), .v (.bool x.source)]
 | .sPartition, x => [.v (.string x.name), .v (.int .i64 x.entry), .v (.int .i64 x.action), .v (.int .i64 x.restarts), .v (.int .i64 x.inputs), .v (.int .i64 x.outputs), .sl .sRegion x.regions, .sl .sPort x.ports]
 | .sChannel, x => [.v (.int .i64 x.kind), .v (.int .i64 x.words), .v (.int .i64 x.depth)]
 | .sConfig, x => [.v (.int .i64 x.frames), .v (.int .i64 x.major), .v (.int .i64 x.kernel), .v (.int .i64 x.room), .sl (.sl .sWindow) x.cores, .sl .sPartition x.partitions, .sl .sChannel x.channels]
 | .sOwner, x => [.v (.int .i64 x.kind), .v (.int .i64 x.index), .v (.int .i64 x.port)]
 | .sBulkheadlaw28Turn, x => [.v (.int .i64 x.at_), .v (.int .u32 x.word)]
 | .sMemMemory, x => [.sl (.i .u32) x.words]
 | .sWhere, x => [.v (.int .i64 x.first), .v (.int .i64 x.second)]
 | .sPartitionPlace, x => [.v (.int .i64 x.lock), .v (.int .i64 x.save), .v (.int .i64 x.state), .v (.int .i64 x.root), .sl (.i .i64) x.tables]
 | .sDestPlace, x => [.v (.int .i64 x.partition), .v (.int .i64 x.port), .v (.int .i64 x.at_)]
 | .sChannelPlace, x => [.v (.int .i64 x.lock), .v (.int .i64 x.stage), .v (.int .i64 x.partition), .v (.int .i64 x.port), .sl .sDestPlace x.dests]
 | .sLayout, x => [.v (.int .i64 x.barrier), .sl .sPartitionPlace x.partitions, .sl .sChannelPlace x.channels, .v (.int .i64 x.end_)]
 | .sProblem, x => [.v (.int .i64 x.kind), .v (.int .i64 x.index), .v (.int .i64 x.at_)]
 | .sAuditFinder, x => [.v (.int .i64 x.c.frames), .v (.int .i64 x.c.major), .v (.int .i64 x.c.kernel), .v (.int .i64 x.c.room), .sl (.sl .sWindow) x.c.cores, .sl .sPartition x.c.partitions, .sl .sChannel x.c.channels, .v (.int .i64 x.l.barrier), .sl .sPartitionPlace x.l.partitions, .sl .sChannelPlace x.l.channels, .v (.int .i64 x.l.end_), .op .sMemMemory x.m, .sl .sProblem x.out]
 | .sBulkheadref15Piece, x => [.v (.int .i64 x.at_), .v (.int .i64 x.size), .v (.int .i64 x.owner.kind), .v (.int .i64 x.owner.index), .v (.int .i64 x.owner.port)]
 | .sLayoutPiece, x => [.v (.int .i64 x.at_), .v (.int .i64 x.many), .v (.int .i64 x.owner.kind), .v (.int .i64 x.owner.index), .v (.int .i64 x.owner.port)]
 | .sBulkheadref20Row, x => [.v (.int .i64 x.first), .sl (.sl (.i .u32)) x.messages, .v (.int .u32 x.lost)]
 | .sBulkheadref05Memory, x => [.sl (.i .u32) x.w]
 | .sLayoutEnd, x => [.v (.int .i64 x.partition), .v (.int .i64 x.port)]
 | .sAdmitFound, x => [.v (.int .i64 x.e), .v (.int .i64 x.where_.first), .v (.int .i64 x.where_.second)]
 | .sBulkheadref19Held, x => [.v (.bool x.there), .v (.bool x.fresh), .sl (.i .u32) x.message]
 | .sQueueForm, x => [.v (.int .i64 x.words), .v (.int .i64 x.depth)]
 | .sQueueRow, x => [.v (.int .u32 x.first), .v (.int .u32 x.lost), .sl (.sl (.i .u32)) x.messages]
 | .sLayoutSize, x => [.v (.int .i64 x.channel.kind), .v (.int .i64 x.channel.words), .v (.int .i64 x.channel.depth)]
 | .sLayoutAsked, x => [.clo x.stage, .clo x.port]
def Ty.sz : Ty -> Nat
 | .i _ => 1 | .b => 1 | .s => 1 | .f => 1 | .sl _ => 1 | .p _ => 1
 | .sWindow => 3
 | .sRegion => 4
 | .sPort => 2
 | .sPartition => 8
 | .sChannel => 3
 | .sConfig => 7
 | .sOwner => 3
 | .sBulkheadlaw28Turn => 2
 | .sMemMemory => 1
 | .sWhere => 2
 | .sPartitionPlace => 5
 | .sDestPlace => 3
 | .sChannelPlace => 5
 | .sLayout => 4
 | .sProblem => 3
 | .sAuditFinder => 13
 | .sBulkheadref15Piece => 5
 | .sLayoutPiece => 5
 | .sBulkheadref20Row => 3
 | .sBulkheadref05Memory => 1
 | .sLayoutEnd => 2
 | .sAdmitFound => 3
 | .sBulkheadref19Held => 3
 | .sQueueForm => 2
 | .sQueueRow => 3
 | .sLayoutSize => 3
 | .sLayoutAsked => 2
def Ty.by : Ty -> Nat
 | .i k => (match k with | .i8 => 1 | .u8 => 1 | .i16 => 2 | .u16 => 2 | .i32 => 4 | .u32 => 4 | _ => 8) | .b => 1 | .s => 16 | .f => 8 | .sl _ => 24 | .p _ => 8
 | .sWindow => 24
 | .sRegion => 32
 | .sPort => 16
 | .sPartition => 104
 | .sChannel => 24
 | .sConfig => 104
 | .sOwner => 24
 | .sBulkheadlaw28Turn => 16
 | .sMemMemory => 24
 | .sWhere => 16
 | .sPartitionPlace => 56
 | .sDestPlace => 24
 | .sChannelPlace => 56
 | .sLayout => 64
 | .sProblem => 24
 | .sAuditFinder => 200
 | .sBulkheadref15Piece => 40
 | .sLayoutPiece => 40
 | .sBulkheadref20Row => 40
 | .sBulkheadref05Memory => 24
 | .sLayoutEnd => 16
 | .sAdmitFound => 24
 | .sBulkheadref19Held => 32
 | .sQueueForm => 16
 | .sQueueRow => 32
 | .sLayoutSize => 24
 | .sLayoutAsked => 16
def Ty.flat : Ty -> Bool
 | .i _ => true | .b => true | .s => true | .f => false | .sl _ => false | .p _ => false
 | .sWindow => true
 | .sRegion => true
 | .sPort => true
 | .sPartition => false
 | .sChannel => true
 | .sConfig => false
 | .sOwner => true
 | .sBulkheadlaw28Turn => true
 | .sMemMemory => false
 | .sWhere => true
 | .sPartitionPlace => false
 | .sDestPlace => true
 | .sChannelPlace => false
 | .sLayout => false
 | .sProblem => true
 | .sAuditFinder => false
 | .sBulkheadref15Piece => true
 | .sLayoutPiece => true
 | .sBulkheadref20Row => false
 | .sBulkheadref05Memory => false
 | .sLayoutEnd => true
 | .sAdmitFound => true
 | .sBulkheadref19Held => false
 | .sQueueForm => true
 | .sQueueRow => false
 | .sLayoutSize => true
 | .sLayoutAsked => false
def Clo.out : Clo -> AV
 | .none => .v .nilFunc
 | .c130 x0 => .fn (.func 130) [] [.op .sConfig (some x0)]
 | .c133 x0 => .fn (.func 133) [] [.op .sConfig (some x0)]
 | .c134 x0 => .fn (.func 134) [] [.op .sConfig (some x0)]
 | .c135 x0 => .fn (.func 135) [] [.op .sConfig (some x0)]
 | .c136 x0 => .fn (.func 136) [] [.op .sConfig (some x0)]
 | .c137 x0 x1 => .fn (.func 137) [] [.op .sConfig (some x0), .op (.i .i64) (some x1)]
 | .c139 x0 x1 => .fn (.func 139) [] [.op .sConfig (some x0), .op (.i .i64) (some x1)]
 | .c141 x0 x1 => .fn (.func 141) [] [.op .sConfig (some x0), .op (.i .i64) (some x1)]
 | .c143 x0 => .fn (.func 143) [] [.op .sConfig (some x0)]
 | .c145 x0 => .fn (.func 145) [.agg [.v (.int .i64 x0.channel.kind), .v (.int .i64 x0.channel.words), .v (.int .i64 x0.channel.depth)]] []
 | .c146 x0 => .fn (.func 146) [.agg [.v (.int .i64 x0.channel.kind), .v (.int .i64 x0.channel.words), .v (.int .i64 x0.channel.depth)]] []
def zcz (t : Ty) : AV -> Option (List t.T)
 | .sl t' xs => match decEq t' t with | isTrue h => some (h ▸ xs) | isFalse _ => none
 | .v (.slice _ n _) => match n with | 0 => some [] | _ + 1 => none
 | _ => none
def ze5 (t : Ty) : AV -> Option (Option t.T)
 | .op t' x => match decEq t' t with | isTrue h => some (h ▸ x) | isFalse _ => none
 | .el t' xs i 0 => match decEq t' t with | isTrue h => some (some (h ▸ (xs.getD i default))) | isFalse _ => none
 | .v (.pointer none) => some none
 | _ => none
def za7 : List AV -> Option LayoutSize
 | [.v (.int .i64 y0), .v (.int .i64 y1), .v (.int .i64 y2)] => some (⟨⟨y0, y1, y2⟩⟩ : LayoutSize)
 | _ => none
def zuL : List AV -> Option Clo
 | [z0] => (match ze5 .sConfig z0 with | some (some z0) => some (.c130 z0) | _ => none)
 | _ => none
def zuM : List AV -> Option Clo
 | [z0] => (match ze5 .sConfig z0 with | some (some z0) => some (.c133 z0) | _ => none)
 | _ => none
def zuN : List AV -> Option Clo
 | [z0] => (match ze5 .sConfig z0 with | some (some z0) => some (.c134 z0) | _ => none)
 | _ => none
def zuO : List AV -> Option Clo
 | [z0] => (match ze5 .sConfig z0 with | some (some z0) => some (.c135 z0) | _ => none)
 | _ => none
def zuP : List AV -> Option Clo
 | [z0] => (match ze5 .sConfig z0 with | some (some z0) => some (.c136 z0) | _ => none)
 | _ => none
def zuQ : List AV -> Option Clo
 | [z0, z1] => (match ze5 .sConfig z0, ze5 (.i .i64) z1 with | some (some z0), some (some z1) => some (.c137 z0 z1) | _, _ => none)
 | _ => none
def zuR : List AV -> Option Clo
 | [z0, z1] => (match ze5 .sConfig z0, ze5 (.i .i64) z1 with | some (some z0), some (some z1) => some (.c139 z0 z1) | _, _ => none)
 | _ => none
def zuS : List AV -> Option Clo
 | [z0, z1] => (match ze5 .sConfig z0, ze5 (.i .i64) z1 with | some (some z0), some (some z1) => some (.c141 z0 z1) | _, _ => none)
 | _ => none
def zuT : List AV -> Option Clo
 | [z0] => (match ze5 .sConfig z0 with | some (some z0) => some (.c143 z0) | _ => none)
 | _ => none
def zuU : List AV -> Option Clo
 | [.agg z0] => (match za7 z0 with | some z0 => some (.c145 z0) | _ => none)
 | _ => none
def zuV : List AV -> Option Clo
 | [.agg z0] => (match za7 z0 with | some z0 => some (.c146 z0) | _ => none)
 | _ => none
def zlf : AV -> Option Clo
 | .clo c => some c
 | .fn (.func f) [] cap => (match Nat.beq f 130 with | true => zuL cap | false => (match Nat.beq f 133 with | true => zuM cap | false => (match Nat.beq f 134 with | true => zuN cap | false => (match Nat.beq f 135 with | true => zuO cap | false => (match Nat.beq f 136 with | true => zuP cap | false => (match Nat.beq f 137 with | true => zuQ cap | false => (match Nat.beq f 139 with | true => zuR cap | false => (match Nat.beq f 141 with | true => zuS cap | false => (match Nat.beq f 143 with | true => zuT cap | false => none)))))))))
 | .fn (.func f) (z :: fi) [] => (match Nat.beq f 145 with | true => zuU (z :: fi) | false => (match Nat.beq f 146 with | true => zuV (z :: fi) | false => none))
 | .v .nilFunc => some .none
 | _ => none
def Ty.dec : (t : Ty) -> List AV -> Option t.T
 | .i k, cs => (match cs with | [.v (.int k' x)] => (if k = k' then some x else none) | _ => none : Option Int)
 | .b, cs => (match cs with | [.v (.bool x)] => some x | _ => none : Option Bool)
 | .s, cs => (match cs with | [.v (.string x)] => some x | _ => none : Option ByteArray)
 | .f, cs => (match cs with | [x] => zlf x | _ => none : Option Clo)
 | .sl t, cs => (match cs with | [x] => zcz t x | _ => none : Option (List t.T))
 | .p t, cs => (match cs with | [x] => ze5 t x | _ => none : Option (Option t.T))
 | .sWindow, cs => (match cs with | [.v (.int .i64 y0), .v (.int .i64 y1), .v (.int .i64 y2)] => (some (⟨y0, y1, y2⟩ : Window)) | _ => none : Option Window)
 | .sRegion, cs => (match cs with | [.v (.int .i64 y0), .v (.int .i64 y1), .v (.int .i64 y2), .v (.int .i64 y3)] => (some (⟨y0, y1, y2, y3⟩ : Region)) | _ => none : Option Region)
 | .sPort, cs => (match cs with | [.v (.int .i64 y0), .v (.bool y1)] => (some (⟨y0, y1⟩ : Port)) | _ => none : Option Port)
 | .sPartition, cs => (match cs with | [.v (.string y0), .v (.int .i64 y1), .v (.int .i64 y2), .v (.int .i64 y3), .v (.int .i64 y4), .v (.int .i64 y5), y6, y7] => (match zcz .sRegion y6, zcz .sPort y7 with | some y6, some y7 => some (⟨y0, y1, y2, y3, y4, y5, y6, y7⟩ : Partition) | _, _ => none) | _ => none : Option Partition)
 | .sChannel, cs => (match cs with | [.v (.int .i64 y0), .v (.int .i64 y1), .v (.int .i64 y2)] => (some (⟨y0, y1, y2⟩ : Channel)) | _ => none : Option Channel)
 | .sConfig, cs => (match cs with | [.v (.int .i64 y0), .v (.int .i64 y1), .v (.int .i64 y2), .v (.int .i64 y3), y4, y5, y6] => (match zcz (.sl .sWindow) y4, zcz .sPartition y5, zcz .sChannel y6 with | some y4, some y5, some y6 => some (⟨y0, y1, y2, y3, y4, y5, y6⟩ : Config) | _, _, _ => none) | _ => none : Option Config)
 | .sOwner, cs => (match cs with | [.v (.int .i64 y0), .v (.int .i64 y1), .v (.int .i64 y2)] => (some (⟨y0, y1, y2⟩ : Owner)) | _ => none : Option Owner)
 | .sBulkheadlaw28Turn, cs => (match cs with | [.v (.int .i64 y0), .v (.int .u32 y1)] => (some (⟨y0, y1⟩ : Bulkheadlaw28Turn)) | _ => none : Option Bulkheadlaw28Turn)
 | .sMemMemory, cs => (match cs with | [y0] => (match zcz (.i .u32) y0 with | some y0 => some (⟨y0⟩ : MemMemory) | _ => none) | _ => none : Option MemMemory)
 | .sWhere, cs => (match cs with | [.v (.int .i64 y0), .v (.int .i64 y1)] => (some (⟨y0, y1⟩ : Where)) | _ => none : Option Where)
 | .sPartitionPlace, cs => (match cs with | [.v (.int .i64 y0), .v (.int .i64 y1), .v (.int .i64 y2), .v (.int .i64 y3), y4] => (match zcz (.i .i64) y4 with | some y4 => some (⟨y0, y1, y2, y3, y4⟩ : PartitionPlace) | _ => none) | _ => none : Option PartitionPlace)
 | .sDestPlace, cs => (match cs with | [.v (.int .i64 y0), .v (.int .i64 y1), .v (.int .i64 y2)] => (some (⟨y0, y1, y2⟩ : DestPlace)) | _ => none : Option DestPlace)
 | .sChannelPlace, cs => (match cs with | [.v (.int .i64 y0), .v (.int .i64 y1), .v (.int .i64 y2), .v (.int .i64 y3), y4] => (match zcz .sDestPlace y4 with | some y4 => some (⟨y0, y1, y2, y3, y4⟩ : ChannelPlace) | _ => none) | _ => none : Option ChannelPlace)
 | .sLayout, cs => (match cs with | [.v (.int .i64 y0), y1, y2, .v (.int .i64 y3)] => (match zcz .sPartitionPlace y1, zcz .sChannelPlace y2 with | some y1, some y2 => some (⟨y0, y1, y2, y3⟩ : Layout) | _, _ => none) | _ => none : Option Layout)
 | .sProblem, cs => (match cs with | [.v (.int .i64 y0), .v (.int .i64 y1), .v (.int .i64 y2)] => (some (⟨y0, y1, y2⟩ : Problem)) | _ => none : Option Problem)
 | .sAuditFinder, cs => (match cs with | [.v (.int .i64 y0), .v (.int .i64 y1), .v (.int .i64 y2), .v (.int .i64 y3), y4, y5, y6, .v (.int .i64 y7), y8, y9, .v (.int .i64 y10), y11, y12] => (match zcz (.sl .sWindow) y4, zcz .sPartition y5, zcz .sChannel y6, zcz .sPartitionPlace y8, zcz .sChannelPlace y9, ze5 .sMemMemory y11, zcz .sProblem y12 with | some y4, some y5, some y6, some y8, some y9, some y11, some y12 => some (⟨⟨y0, y1, y2, y3, y4, y5, y6⟩, ⟨y7, y8, y9, y10⟩, y11, y12⟩ : AuditFinder) | _, _, _, _, _, _, _ => none) | _ => none : Option AuditFinder)
 | .sBulkheadref15Piece, cs => (match cs with | [.v (.int .i64 y0), .v (.int .i64 y1), .v (.int .i64 y2), .v (.int .i64 y3), .v (.int .i64 y4)] => (some (⟨y0, y1, ⟨y2, y3, y4⟩⟩ : Bulkheadref15Piece)) | _ => none : Option Bulkheadref15Piece)
 | .sLayoutPiece, cs => (match cs with | [.v (.int .i64 y0), .v (.int .i64 y1), .v (.int .i64 y2), .v (.int .i64 y3), .v (.int .i64 y4)] => (some (⟨y0, y1, ⟨y2, y3, y4⟩⟩ : LayoutPiece)) | _ => none : Option LayoutPiece)
 | .sBulkheadref20Row, cs => (match cs with | [.v (.int .i64 y0), y1, .v (.int .u32 y2)] => (match zcz (.sl (.i .u32)) y1 with | some y1 => some (⟨y0, y1, y2⟩ : Bulkheadref20Row) | _ => none) | _ => none : Option Bulkheadref20Row)
 | .sBulkheadref05Memory, cs => (match cs with | [y0] => (match zcz (.i .u32) y0 with | some y0 => some (⟨y0⟩ : Bulkheadref05Memory) | _ => none) | _ => none : Option Bulkheadref05Memory)
 | .sLayoutEnd, cs => (match cs with | [.v (.int .i64 y0), .v (.int .i64 y1)] => (some (⟨y0, y1⟩ : LayoutEnd)) | _ => none : Option LayoutEnd)
 | .sAdmitFound, cs => (match cs with | [.v (.int .i64 y0), .v (.int .i64 y1), .v (.int .i64 y2)] => (some (⟨y0, ⟨y1, y2⟩⟩ : AdmitFound)) | _ => none : Option AdmitFound)
 | .sBulkheadref19Held, cs => (match cs with | [.v (.bool y0), .v (.bool y1), y2] => (match zcz (.i .u32) y2 with | some y2 => some (⟨y0, y1, y2⟩ : Bulkheadref19Held) | _ => none) | _ => none : Option Bulkheadref19Held)
 | .sQueueForm, cs => (match cs with | [.v (.int .i64 y0), .v (.int .i64 y1)] => (some (⟨y0, y1⟩ : QueueForm)) | _ => none : Option QueueForm)
 | .sQueueRow, cs => (match cs with | [.v (.int .u32 y0), .v (.int .u32 y1), y2] => (match zcz (.sl (.i .u32)) y2 with | some y2 => some (⟨y0, y1, y2⟩ : QueueRow) | _ => none) | _ => none : Option QueueRow)
 | .sLayoutSize, cs => (za7 cs : Option LayoutSize)
 | .sLayoutAsked, cs => (match cs with | [y0, y1] => (match zlf y0, zlf y1 with | some y0, some y1 => some (⟨y0, y1⟩ : LayoutAsked) | _, _ => none) | _ => none : Option LayoutAsked)
def zgk : TypeId -> Option Ty
 | 1 => some .f
 | 2 => some (.i .i64)
 | 3 => some (.i .i64)
 | 4 => some .b
 | 5 => some (.i .u8)
 | 6 => some (.i .u8)
 | 9 => some .s
 | 10 => some .s
 | 11 => some .s
 | 12 => some (.i .u64)
 | 21 => some (.i .i32)
 | 22 => some (.sl (.sl .sWindow))
 | 23 => some (.sl .sPartition)
 | 24 => some (.sl .sChannel)
 | 26 => some .sConfig
 | 27 => some (.sl .sBulkheadlaw28Turn)
 | 28 => some (.sl (.i .u32))
 | 29 => some .f
 | 30 => some (.sl .sOwner)
 | 31 => some (.i .i64)
 | 33 => some .f
 | 34 => some (.p .sMemMemory)
 | 36 => some .f
 | 37 => some .f
 | 38 => some .f
 | 39 => some .f
 | 40 => some .f
 | 42 => some .sOwner
 | 43 => some .f
 | 44 => some .f
 | 45 => some (.sl .sProblem)
 | 47 => some .f
 | 48 => some .f
 | 49 => some .f
 | 50 => some .f
 | 51 => some .f
 | 52 => some .f
 | 53 => some .f
 | 54 => some .f
 | 56 => some .f
 | 57 => some (.i .u32)
 | 59 => some .sBulkheadlaw28Turn
 | 60 => some .f
 | 62 => some .f
 | 63 => some .f
 | 65 => some .sMemMemory
 | 66 => some (.sl .sWindow)
 | 67 => some (.sl .sRegion)
 | 68 => some (.sl .sPort)
 | 70 => some .sPartition
 | 71 => some .f
 | 72 => some .f
 | 73 => some .f
 | 74 => some .f
 | 76 => some .sWhere
 | 78 => some .f
 | 79 => some (.sl .sPartitionPlace)
 | 80 => some (.sl .sChannelPlace)
 | 82 => some .sLayout
 | 84 => some .f
 | 86 => some .sProblem
 | 87 => some (.sl (.i .i64))
 | 89 => some .sPartitionPlace
 | 90 => some .f
 | 91 => some .f
 | 92 => some (.sl .sDestPlace)
 | 94 => some .sChannelPlace
 | 95 => some .f
 | 97 => some .sChannel
 | 99 => some .sDestPlace
 | 100 => some .f
 | 101 => some (.p .sAuditFinder)
 | 103 => some .sAuditFinder
 | 104 => some .f
 | 105 => some .f
 | 107 => some .sWindow
 | 108 => some .f
 | 109 => some (.sl (.sl (.i .u32)))
 | 110 => some .f
 | 111 => some .f
 | 112 => some .f
 | 113 => some (.sl .sBulkheadref15Piece)
 | 114 => some .f
 | 116 => some .sBulkheadref15Piece
 | 118 => some .sRegion
 | 119 => some (.sl (.p .sMemMemory))
 | 120 => some .f
 | 121 => some .f
 | 122 => some .f
 | 123 => some .f
 | 124 => some (.sl .sLayoutPiece)
 | 125 => some .f
 | 127 => some .sLayoutPiece
 | 129 => some .f
 | 130 => some .f
 | 131 => some .f
 | 132 => some .f
 | 133 => some .f
 | 134 => some .f
 | 135 => some .f
 | 137 => some .f
 | 140 => some .sBulkheadref20Row
 | 142 => some .f
 | 144 => some .f
 | 145 => some (.p .sBulkheadref05Memory)
 | 147 => some .sBulkheadref05Memory
 | 149 => some .f
 | 150 => some .f
 | 151 => some .f
 | 152 => some (.sl .sLayoutEnd)
 | 154 => some .f
 | 155 => some .f
 | 157 => some .sLayoutEnd
 | 158 => some .f
 | 159 => some .f
 | 160 => some .f
 | 162 => some .f
 | 163 => some .f
 | 165 => some .f
 | 166 => some .f
 | 167 => some .f
 | 168 => some .f
 | 169 => some .f
 | 170 => some .f
 | 172 => some .f
 | 174 => some .sPort
 | 175 => some .f
 | 176 => some .f
 | 177 => some .f
 | 178 => some .f
 | 179 => some .f
 | 180 => some (.sl .f)
 | 181 => some .f
 | 182 => some .f
 | 184 => some .sAdmitFound
 | 185 => some .f
 | 186 => some (.sl .sLayoutAsked)
 | 187 => some .f
 | 189 => some .sLayoutAsked
 | 190 => some .f
 | 191 => some .f
 | 192 => some .f
 | 193 => some .f
 | 194 => some .f
 | 195 => some .f
 | 196 => some .f
 | 197 => some .f
 | 198 => some .f
 | 200 => some .f
 | 201 => some .f
 | 203 => some .f
 | 205 => some .sBulkheadref19Held
 | 207 => some .f
 | 208 => some .f
 | 211 => some .sQueueForm
 | 212 => some .f
 | 214 => some .sQueueRow
 | 216 => some .f
 | 218 => some .f
 | 219 => some .f
 | 220 => some .f
 | 222 => some .f
 | 223 => some .f
 | 224 => some .f
 | 225 => some .f
 | 226 => some .f
 | 227 => some .f
 | 228 => some .f
 | 229 => some (.i .u64)
 | 230 => some .f
 | 231 => some .f
 | 233 => some .sLayoutSize
 | 234 => some .f
 | 235 => some .f
 | 237 => some .f
 | 238 => some .f
 | 239 => some .f
 | 240 => some .f
 | 242 => some .f
 | 244 => some .f
 | 246 => some .f
 | 248 => some .f
 | 249 => some .f
 | 250 => some .f
 | 252 => some .f
 | 253 => some .f
 | 254 => some (.sl .sAdmitFound)
 | 255 => some .f
 | 256 => some .f
 | 262 => some (.i .u8)
 | 263 => some (.i .u8)
 | 264 => some .f
 | 266 => some (.i .i32)
 | 267 => some (.i .i32)
 | _ => none
def Ty.leaves : Ty -> List Ty
 | .i k => [.i k] | .b => [.b] | .s => [.s] | .f => [.f] | .sl t => [.sl t] | .p t => [.p t]
 | .sWindow => [.i .i64, .i .i64, .i .i64]
 | .sRegion => [.i .i64, .i .i64, .i .i64, .i .i64]
 | .sPort => [.i .i64, .b]
 | .sPartition => [.s, .i .i64, .i .i64, .i .i64, .i .i64, .i .i64, .sl .sRegion, .sl .sPort]
 | .sChannel => [.i .i64, .i .i64, .i .i64]
 | .sConfig => [.i .i64, .i .i64, .i .i64, .i .i64, .sl (.sl .sWindow), .sl .sPartition, .sl .sChannel]
 | .sOwner => [.i .i64, .i .i64, .i .i64]
 | .sBulkheadlaw28Turn => [.i .i64, .i .u32]
 | .sMemMemory => [.sl (.i .u32)]
 | .sWhere => [.i .i64, .i .i64]
 | .sPartitionPlace => [.i .i64, .i .i64, .i .i64, .i .i64, .sl (.i .i64)]
 | .sDestPlace => [.i .i64, .i .i64, .i .i64]
 | .sChannelPlace => [.i .i64, .i .i64, .i .i64, .i .i64, .sl .sDestPlace]
 | .sLayout => [.i .i64, .sl .sPartitionPlace, .sl .sChannelPlace, .i .i64]
 | .sProblem => [.i .i64, .i .i64, .i .i64]
 | .sAuditFinder => [.i .i64, .i .i64, .i .i64, .i .i64, .sl (.sl .sWindow), .sl .sPartition, .sl .sChannel, .i .i64, .sl .sPartitionPlace, .sl .sChannelPlace, .i .i64, .p .sMemMemory, .sl .sProblem]
 | .sBulkheadref15Piece => [.i .i64, .i .i64, .i .i64, .i .i64, .i .i64]
 | .sLayoutPiece => [.i .i64, .i .i64, .i .i64, .i .i64, .i .i64]
 | .sBulkheadref20Row => [.i .i64, .sl (.sl (.i .u32)), .i .u32]
 | .sBulkheadref05Memory => [.sl (.i .u32)]
 | .sLayoutEnd => [.i .i64, .i .i64]
 | .sAdmitFound => [.i .i64, .i .i64, .i .i64]
 | .sBulkheadref19Held => [.b, .b, .sl (.i .u32)]
 | .sQueueForm => [.i .i64, .i .i64]
 | .sQueueRow => [.i .u32, .i .u32, .sl (.sl (.i .u32))]
 | .sLayoutSize => [.i .i64, .i .i64, .i .i64]
 | .sLayoutAsked => [.f, .f]
def zyN : Nat := 271
def Ty.dat : Ty -> Bool
 | .i _ => true | .b => true | .s => true | .f => false | .sl t => t.dat | .p _ => false
 | .sWindow => true
 | .sRegion => true
 | .sPort => true
 | .sPartition => true
 | .sChannel => true
 | .sConfig => true
 | .sOwner => true
 | .sBulkheadlaw28Turn => true
 | .sMemMemory => true
 | .sWhere => true
 | .sPartitionPlace => true
 | .sDestPlace => true
 | .sChannelPlace => true
 | .sLayout => true
 | .sProblem => true
 | .sAuditFinder => false
 | .sBulkheadref15Piece => true
 | .sLayoutPiece => true
 | .sBulkheadref20Row => true
 | .sBulkheadref05Memory => true
 | .sLayoutEnd => true
 | .sAdmitFound => true
 | .sBulkheadref19Held => true
 | .sQueueForm => true
 | .sQueueRow => true
 | .sLayoutSize => true
 | .sLayoutAsked => false
abbrev Window.av (x : Window) : AV := .agg [.v (.int .i64 x.partition), .v (.int .i64 x.usable), .v (.int .i64 x.slack)]
abbrev Region.av (x : Region) : AV := .agg [.v (.int .i64 x.page), .v (.int .i64 x.pages), .v (.int .i64 x.frame), .v (.int .i64 x.rights)]
abbrev Port.av (x : Port) : AV := .agg [.v (.int .i64 x.channel), .v (.bool x.source)]
abbrev Partition.av (x : Partition) : AV := .agg [.v (.string x.name), .v (.int .i64 x.entry), .v (.int .i64 x.action), .v (.int .i64 x.restarts), .v (.int .i64 x.inputs), .v (.int .i64 x.outputs), .sl .sRegion x.regions, .sl .sPort x.ports]
abbrev Channel.av (x : Channel) : AV := .agg [.v (.int .i64 x.kind), .v (.int .i64 x.words), .v (.int .i64 x.depth)]
abbrev Config.av (x : Config) : AV := .agg [.v (.int .i64 x.frames), .v (.int .i64 x.major), .v (.int .i64 x.kernel), .v (.int .i64 x.room), .sl (.sl .sWindow) x.cores, .sl .sPartition x.partitions, .sl .sChannel x.channels]
abbrev Owner.av (x : Owner) : AV := .agg [.v (.int .i64 x.kind), .v (.int .i64 x.index), .v (.int .i64 x.port)]
abbrev Bulkheadlaw28Turn.av (x : Bulkheadlaw28Turn) : AV := .agg [.v (.int .i64 x.at_), .v (.int .u32 x.word)]
abbrev MemMemory.av (x : MemMemory) : AV := .agg [.sl (.i .u32) x.words]
abbrev Where.av (x : Where) : AV := .agg [.v (.int .i64 x.first), .v (.int .i64 x.second)]
abbrev PartitionPlace.av (x : PartitionPlace) : AV := .agg [.v (.int .i64 x.lock), .v (.int .i64 x.save), .v (.int .i64 x.state), .v (.int .i64 x.root), .sl (.i .i64) x.tables]
abbrev DestPlace.av (x : DestPlace) : AV := .agg [.v (.int .i64 x.partition), .v (.int .i64 x.port), .v (.int .i64 x.at_)]
abbrev ChannelPlace.av (x : ChannelPlace) : AV := .agg [.v (.int .i64 x.lock), .v (.int .i64 x.stage), .v (.int .i64 x.partition), .v (.int .i64 x.port), .sl .sDestPlace x.dests]
abbrev Layout.av (x : Layout) : AV := .agg [.v (.int .i64 x.barrier), .sl .sPartitionPlace x.partitions, .sl .sChannelPlace x.channels, .v (.int .i64 x.end_)]
abbrev Problem.av (x : Problem) : AV := .agg [.v (.int .i64 x.kind), .v (.int .i64 x.index), .v (.int .i64 x.at_)]
abbrev AuditFinder.av (x : AuditFinder) : AV := .agg [.v (.int .i64 x.c.frames), .v (.int .i64 x.c.major), .v (.int .i64 x.c.kernel), .v (.int .i64 x.c.room), .sl (.sl .sWindow) x.c.cores, .sl .sPartition x.c.partitions, .sl .sChannel x.c.channels, .v (.int .i64 x.l.barrier), .sl .sPartitionPlace x.l.partitions, .sl .sChannelPlace x.l.channels, .v (.int .i64 x.l.end_), .op .sMemMemory x.m, .sl .sProblem x.out]
abbrev Bulkheadref15Piece.av (x : Bulkheadref15Piece) : AV := .agg [.v (.int .i64 x.at_), .v (.int .i64 x.size), .v (.int .i64 x.owner.kind), .v (.int .i64 x.owner.index), .v (.int .i64 x.owner.port)]
abbrev LayoutPiece.av (x : LayoutPiece) : AV := .agg [.v (.int .i64 x.at_), .v (.int .i64 x.many), .v (.int .i64 x.owner.kind), .v (.int .i64 x.owner.index), .v (.int .i64 x.owner.port)]
abbrev Bulkheadref20Row.av (x : Bulkheadref20Row) : AV := .agg [.v (.int .i64 x.first), .sl (.sl (.i .u32)) x.messages, .v (.int .u32 x.lost)]
abbrev Bulkheadref05Memory.av (x : Bulkheadref05Memory) : AV := .agg [.sl (.i .u32) x.w]
abbrev LayoutEnd.av (x : LayoutEnd) : AV := .agg [.v (.int .i64 x.partition), .v (.int .i64 x.port)]
abbrev AdmitFound.av (x : AdmitFound) : AV := .agg [.v (.int .i64 x.e), .v (.int .i64 x.where_.first), .v (.int .i64 x.where_.second)]
abbrev Bulkheadref19Held.av (x : Bulkheadref19Held) : AV := .agg [.v (.bool x.there), .v (.bool x.fresh), .sl (.i .u32) x.message]
abbrev QueueForm.av (x : QueueForm) : AV := .agg [.v (.int .i64 x.words), .v (.int .i64 x.depth)]
abbrev QueueRow.av (x : QueueRow) : AV := .agg [.v (.int .u32 x.first), .v (.int .u32 x.lost), .sl (.sl (.i .u32)) x.messages]
abbrev LayoutSize.av (x : LayoutSize) : AV := .agg [.v (.int .i64 x.channel.kind), .v (.int .i64 x.channel.words), .v (.int .i64 x.channel.depth)]
abbrev LayoutAsked.av (x : LayoutAsked) : AV := .agg [.clo x.stage, .clo x.port]
theorem cnT.{u} {α : Sort u} (a b : α) : cond true a b = a := rfl
theorem cnF.{u} {α : Sort u} (a b : α) : cond false a b = b := rfl
theorem zW (n : Nat) : (n : Int).toNat = n := Int.toNat_natCast n
end Go.Proofs.YtgfifnadfmaolaaGreatDoor
end
