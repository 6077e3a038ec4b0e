/- The universe of this seat: the struct types as Lean structures, what slices may hold, abstract values. (Printed by gen_v.py off the types' table.) -/
import Derived.WalkKit
import Derived.Below
import Derived.RowKit3
namespace Go.Proofs.YtmgofekgjehegaaGreatDoor
set_option linter.unusedVariables false
@[ext] structure Window where
  partition : Int
  usable : Int
  slack : Int
  deriving Inhabited, DecidableEq

@[ext] structure Region where
  page : Int
  pages : Int
  frame : Int
  rights : Int
  deriving Inhabited, DecidableEq

@[ext] structure Port where
  channel : Int
  source : Bool
  deriving Inhabited, DecidableEq

@[ext] structure Partition where
  name : ByteArray
  entry : Int
  action : Int
  restarts : Int
  inputs : Int
  outputs : Int
  regions : (List Region)
  ports : (List Port)
  deriving Inhabited, DecidableEq

@[ext] structure Channel where
  kind : Int
  words : Int
  depth : Int
  deriving Inhabited, DecidableEq

@[ext] structure Config where
  frames : Int
  major : Int
  kernel : Int
  room : Int
  cores : (List (List Window))
  partitions : (List Partition)
  channels : (List Channel)
  deriving Inhabited, DecidableEq

@[ext] structure Feed where
  partition : Int
  epoch : Int
  words : (List Int)
  deriving Inhabited, DecidableEq

@[ext] structure Play where
  programs : (List (List Int))
  feeds : (List Feed)
  picks : (List Int)
  deriving Inhabited, DecidableEq

@[ext] structure Verdict where
  same : Bool
  at_ : Int
  one : Int
  another : Int
  deriving Inhabited, DecidableEq

@[ext] structure Where where
  first : Int
  second : Int
  deriving Inhabited, DecidableEq

@[ext] structure PartitionPlace where
  lock : Int
  save : Int
  state : Int
  root : Int
  tables : (List Int)
  deriving Inhabited, DecidableEq

@[ext] structure DestPlace where
  partition : Int
  port : Int
  at_ : Int
  deriving Inhabited, DecidableEq

@[ext] structure ChannelPlace where
  lock : Int
  stage : Int
  partition : Int
  port : Int
  dests : (List DestPlace)
  deriving Inhabited, DecidableEq

@[ext] structure Layout where
  barrier : Int
  partitions : (List PartitionPlace)
  channels : (List ChannelPlace)
  end_ : Int
  deriving Inhabited, DecidableEq

@[ext] structure Owner where
  kind : Int
  index : Int
  port : Int
  deriving Inhabited, DecidableEq

@[ext] structure Bulkheadref15Piece where
  at_ : Int
  size : Int
  owner : Owner
  deriving Inhabited, DecidableEq

@[ext] structure Span where
  core : Int
  window : Int
  from_ : Int
  to : Int
  deriving Inhabited, DecidableEq

@[ext] structure Arr16Intu32 where
  e0 : Int
  e1 : Int
  e2 : Int
  e3 : Int
  e4 : Int
  e5 : Int
  e6 : Int
  e7 : Int
  e8 : Int
  e9 : Int
  e10 : Int
  e11 : Int
  e12 : Int
  e13 : Int
  e14 : Int
  e15 : Int
  deriving Inhabited, DecidableEq

@[ext] structure Context where
  regs : Arr16Intu32
  pC : Int
  deriving Inhabited, DecidableEq

@[ext] structure Seen where
  partition : Int
  epoch : Int
  cycle : Int
  pC : Int
  word : Int
  trap : Int
  read : Bool
  addr : Int
  value : Int
  after : Context
  deriving Inhabited, DecidableEq

@[ext] structure Event where
  kind : Int
  partition : Int
  epoch : Int
  cycle : Int
  trap : Int
  deriving Inhabited, DecidableEq

@[ext] structure Out where
  partition : Int
  epoch : Int
  word : Int
  deriving Inhabited, DecidableEq

@[ext] structure Turn where
  core : Int
  kind : Int
  seen : (List Seen)
  events : (List Event)
  outs : (List Out)
  deriving Inhabited, DecidableEq

@[ext] structure DeviceWhen where
  partition : Int
  epoch : Int
  deriving Inhabited, DecidableEq

@[ext] structure LayoutEnd where
  partition : Int
  port : Int
  deriving Inhabited, DecidableEq

@[ext] structure TraceX where
  seen : (List Seen)
  events : (List Event)
  outs : (List Out)
  deriving Inhabited, DecidableEq

@[ext] structure ActX where
  cost : Int
  trap : Int
  call : Int
  pC : Int
  word : Int
  read : Bool
  addr : Int
  value : Int
  deriving Inhabited, DecidableEq

@[ext] structure KernelBuilt where
  config : Config
  deriving Inhabited, DecidableEq

@[ext] structure AdmitFound where
  e : Int
  where_ : Where
  deriving Inhabited, DecidableEq

@[ext] structure MemMemory where
  words : (List Int)
  deriving Inhabited, DecidableEq

@[ext] structure DuctDucts where
  c : Config
  lay : Layout
  deriving Inhabited, DecidableEq

@[ext] structure Status where
  state : Int
  restarts : Int
  trap : Int
  pC : Int
  outs : Int
  deriving Inhabited, DecidableEq

@[ext] structure CoreStands where
  context : Context
  deriving Inhabited, DecidableEq

@[ext] structure Ins where
  op : Int
  a : Int
  b : Int
  c : Int
  imm : Int
  deriving Inhabited, DecidableEq

@[ext] structure EdgeX where
  from_ : Int
  to : Int
  deriving Inhabited, DecidableEq

@[ext] structure IsaRow where
  name : ByteArray
  form : Int
  cost : Int
  deriving Inhabited, DecidableEq

@[ext] structure CallsTold where
  one : Int
  two : Int
  three : Int
  deriving Inhabited, DecidableEq

@[ext] structure DuctEnds where
  stage : Int
  words : Int
  ports : (List Int)
  deriving Inhabited, DecidableEq

@[ext] structure DuctRow where
  ends : DuctEnds
  depth : Int
  deriving Inhabited, DecidableEq

@[ext] structure DuctLast where
  ends : DuctEnds
  deriving Inhabited, DecidableEq

@[ext] structure Leaf where
  page : Int
  frame : Int
  rights : Int
  deriving Inhabited, DecidableEq

@[ext] structure LockChain where
  locks : (List Int)
  held : Int
  asked : Bool
  tickets : (List Int)
  deriving Inhabited, DecidableEq

@[ext] structure BarrierView where
  come : Int
  epoch : Int
  deriving Inhabited, DecidableEq

@[ext] structure QueueForm where
  words : Int
  depth : Int
  deriving Inhabited, DecidableEq

@[ext] structure QueueRow where
  first : Int
  lost : Int
  messages : (List (List Int))
  deriving Inhabited, DecidableEq

/-- Closures that rows hold: which function, what it holds. -/
inductive Clo where
  | none
  | c178 (x0 : Config)
  | c181 (x0 : Config)
  | c182 (x0 : Config)
  | c183 (x0 : Config)
  | c184 (x0 : Config)
  | c185 (x0 : Config) (x1 : Int)
  | c187 (x0 : Config) (x1 : Int)
  | c189 (x0 : Config) (x1 : Int)
  | c191 (x0 : Config)
  deriving Inhabited, DecidableEq

@[ext] structure HealthCare where
  again : Clo
  begin : Clo
  deriving Inhabited, DecidableEq

@[ext] structure HealthWard where
  place : PartitionPlace
  entry : Int
  most : Int
  outs : Int
  care : HealthCare
  deriving Inhabited, DecidableEq

@[ext] structure HealthWards where
  frames : Int
  wards : (List HealthWard)
  deriving Inhabited, DecidableEq

/-- The codes of what a slice may hold. -/
inductive Ty where
  | i (k : IntKind) | b | s | f | sl (t : Ty) | p (t : Ty)
  | sWindow
  | sRegion
  | sPort
  | sPartition
  | sChannel
  | sConfig
  | sFeed
  | sPlay
  | sVerdict
  | sWhere
  | sPartitionPlace
  | sDestPlace
  | sChannelPlace
  | sLayout
  | sOwner
  | sBulkheadref15Piece
  | sSpan
  | sArr16Intu32
  | sContext
  | sSeen
  | sEvent
  | sOut
  | sTurn
  | sDeviceWhen
  | sLayoutEnd
  | sTraceX
  | sActX
  | sKernelBuilt
  | sAdmitFound
  | sMemMemory
  | sDuctDucts
  | sStatus
  | sCoreStands
  | sIns
  | sEdgeX
  | sIsaRow
  | sCallsTold
  | sDuctEnds
  | sDuctRow
  | sDuctLast
  | sLeaf
  | sLockChain
  | sBarrierView
  | sQueueForm
  | sQueueRow
  | sHealthCare
  | sHealthWard
  | sHealthWards
  deriving DecidableEq

def Ty.T : Ty → Type
  | .i _ => Int | .b => Bool | .s => ByteArray | .f => Clo | .sl t => List t.T | .p t => Option t.T
  | .sWindow => Window
  | .sRegion => Region
  | .sPort => Port
  | .sPartition => Partition
  | .sChannel => Channel
  | .sConfig => Config
  | .sFeed => Feed
  | .sPlay => Play
  | .sVerdict => Verdict
  | .sWhere => Where
  | .sPartitionPlace => PartitionPlace
  | .sDestPlace => DestPlace
  | .sChannelPlace => ChannelPlace
  | .sLayout => Layout
  | .sOwner => Owner
  | .sBulkheadref15Piece => Bulkheadref15Piece
  | .sSpan => Span
  | .sArr16Intu32 => Arr16Intu32
  | .sContext => Context
  | .sSeen => Seen
  | .sEvent => Event
  | .sOut => Out
  | .sTurn => Turn
  | .sDeviceWhen => DeviceWhen
  | .sLayoutEnd => LayoutEnd
  | .sTraceX => TraceX
  | .sActX => ActX
  | .sKernelBuilt => KernelBuilt
  | .sAdmitFound => AdmitFound
  | .sMemMemory => MemMemory
  | .sDuctDucts => DuctDucts
  | .sStatus => Status
  | .sCoreStands => CoreStands
  | .sIns => Ins
  | .sEdgeX => EdgeX
  | .sIsaRow => IsaRow
  | .sCallsTold => CallsTold
  | .sDuctEnds => DuctEnds
  | .sDuctRow => DuctRow
  | .sDuctLast => DuctLast
  | .sLeaf => Leaf
  | .sLockChain => LockChain
  | .sBarrierView => BarrierView
  | .sQueueForm => QueueForm
  | .sQueueRow => QueueRow
  | .sHealthCare => HealthCare
  | .sHealthWard => HealthWard
  | .sHealthWards => HealthWards

instance : (t : Ty) → Inhabited t.T
  | .i _ => ⟨(0 : Int)⟩ | .b => ⟨false⟩ | .s => ⟨ByteArray.empty⟩ | .f => ⟨Clo.none⟩ | .sl t => ⟨([] : List t.T)⟩ | .p t => ⟨(none : Option t.T)⟩
  | .sWindow => ⟨(default : Window)⟩
  | .sRegion => ⟨(default : Region)⟩
  | .sPort => ⟨(default : Port)⟩
  | .sPartition => ⟨(default : Partition)⟩
  | .sChannel => ⟨(default : Channel)⟩
  | .sConfig => ⟨(default : Config)⟩
  | .sFeed => ⟨(default : Feed)⟩
  | .sPlay => ⟨(default : Play)⟩
  | .sVerdict => ⟨(default : Verdict)⟩
  | .sWhere => ⟨(default : Where)⟩
  | .sPartitionPlace => ⟨(default : PartitionPlace)⟩
  | .sDestPlace => ⟨(default : DestPlace)⟩
  | .sChannelPlace => ⟨(default : ChannelPlace)⟩
  | .sLayout => ⟨(default : Layout)⟩
  | .sOwner => ⟨(default : Owner)⟩
  | .sBulkheadref15Piece => ⟨(default : Bulkheadref15Piece)⟩
  | .sSpan => ⟨(default : Span)⟩
  | .sArr16Intu32 => ⟨(default : Arr16Intu32)⟩
  | .sContext => ⟨(default : Context)⟩
  | .sSeen => ⟨(default : Seen)⟩
  | .sEvent => ⟨(default : Event)⟩
  | .sOut => ⟨(default : Out)⟩
  | .sTurn => ⟨(default : Turn)⟩
  | .sDeviceWhen => ⟨(default : DeviceWhen)⟩
  | .sLayoutEnd => ⟨(default : LayoutEnd)⟩
  | .sTraceX => ⟨(default : TraceX)⟩
  | .sActX => ⟨(default : ActX)⟩
  | .sKernelBuilt => ⟨(default : KernelBuilt)⟩
  | .sAdmitFound => ⟨(default : AdmitFound)⟩
  | .sMemMemory => ⟨(default : MemMemory)⟩
  | .sDuctDucts => ⟨(default : DuctDucts)⟩
  | .sStatus => ⟨(default : Status)⟩
  | .sCoreStands => ⟨(default : CoreStands)⟩
  | .sIns => ⟨(default : Ins)⟩
  | .sEdgeX => ⟨(default : EdgeX)⟩
  | .sIsaRow => ⟨(default : IsaRow)⟩
  | .sCallsTold => ⟨(default : CallsTold)⟩
  | .sDuctEnds => ⟨(default : DuctEnds)⟩
  | .sDuctRow => ⟨(default : DuctRow)⟩
  | .sDuctLast => ⟨(default : DuctLast)⟩
  | .sLeaf => ⟨(default : Leaf)⟩
  | .sLockChain => ⟨(default : LockChain)⟩
  | .sBarrierView => ⟨(default : BarrierView)⟩
  | .sQueueForm => ⟨(default : QueueForm)⟩
  | .sQueueRow => ⟨(default : QueueRow)⟩
  | .sHealthCare => ⟨(default : HealthCare)⟩
  | .sHealthWard => ⟨(default : HealthWard)⟩
  | .sHealthWards => ⟨(default : HealthWards)⟩

/-- Abstract values. -/
inductive AV where
  | undef
  | v (x : Value)
  | agg (cs : List AV)
  | tup (vs : List AV)
  | sl (t : Ty) (xs : List t.T)
  | op (t : Ty) (x : Option t.T)
  | el (t : Ty) (xs : List t.T) (i off : Nat)
  | ref (b off : Nat)
  | own (b : Nat)
  | oel (b sz i off : Nat)
  | vw (b sz o n : Nat)
  | fn (f : Fn) (first cap : List AV)
  | clo (c : Clo)
  | ifc (t : TypeId) (x : AV)

/-- The cells of an element. -/
def Ty.enc : (t : Ty) → t.T → List AV
  | .i k, x => [.v (.int k x)] | .b, x => [.v (.bool x)] | .s, x => [.v (.string x)] | .f, x => [.clo x] | .sl t, x => [.sl t x] | .p t, x => [.op t x]
  | .sWindow, x => [.v (.int .i64 x.partition), .v (.int .i64 x.usable), .v (.int .i64 x.slack)]
  | .sRegion, x => [.v (.int .i64 x.page), .v (.int .i64 x.pages), .v (.int .i64 x.frame), .v (.int .i64 x.rights)]
  | .sPort, x => [.v (.int .i64 x.channel), .v (.bool x.source)]
  | .sPartition, x => [.v (.string x.name), .v (.int .i64 x.entry), .v (.int .i64 x.action), .v (.int .i64 x.restarts), .v (.int .i64 x.inputs), .v (.int .i64 x.outputs), .sl .sRegion x.regions, .sl .sPort x.ports]
  | .sChannel, x => [.v (.int .i64 x.kind), .v (.int .i64 x.words), .v (.int .i64 x.depth)]
  | .sConfig, x => [.v (.int .i64 x.frames), .v (.int .i64 x.major), .v (.int .i64 x.kernel), .v (.int .i64 x.room), .sl (.sl .sWindow) x.cores, .sl .sPartition x.partitions, .sl .sChannel x.channels]
  | .sFeed, x => [.v (.int .i64 x.partition), .v (.int .i64 x.epoch), .sl (.i .u32) x.words]
  | .sPlay, x => [.sl (.sl (.i .u32)) x.programs, .sl .sFeed x.feeds, .sl (.i .i64) x.picks]
  | .sVerdict, x => [.v (.bool x.same), .v (.int .i64 x.at_), .v (.int .i64 x.one), .v (.int .i64 x.another)]
  | .sWhere, x => [.v (.int .i64 x.first), .v (.int .i64 x.second)]
  | .sPartitionPlace, x => [.v (.int .i64 x.lock), .v (.int .i64 x.save), .v (.int .i64 x.state), .v (.int .i64 x.root), .sl (.i .i64) x.tables]
  | .sDestPlace, x => [.v (.int .i64 x.partition), .v (.int .i64 x.port), .v (.int .i64 x.at_)]
  | .sChannelPlace, x => [.v (.int .i64 x.lock), .v (.int .i64 x.stage), .v (.int .i64 x.partition), .v (.int .i64 x.port), .sl .sDestPlace x.dests]
  | .sLayout, x => [.v (.int .i64 x.barrier), .sl .sPartitionPlace x.partitions, .sl .sChannelPlace x.channels, .v (.int .i64 x.end_)]
  | .sOwner, x => [.v (.int .i64 x.kind), .v (.int .i64 x.index), .v (.int .i64 x.port)]
  | .sBulkheadref15Piece, x => [.v (.int .i64 x.at_), .v (.int .i64 x.size), .v (.int .i64 x.owner.kind), .v (.int .i64 x.owner.index), .v (.int .i64 x.owner.port)]
  | .sSpan, x => [.v (.int .i64 x.core), .v (.int .i64 x.window), .v (.int .i64 x.from_), .v (.int .i64 x.to)]
  | .sArr16Intu32, x => [.v (.int .u32 x.e0), .v (.int .u32 x.e1), .v (.int .u32 x.e2), .v (.int .u32 x.e3), .v (.int .u32 x.e4), .v (.int .u32 x.e5), .v (.int .u32 x.e6), .v (.int .u32 x.e7), .v (.int .u32 x.e8), .v (.int .u32 x.e9), .v (.int .u32 x.e10), .v (.int .u32 x.e11), .v (.int .u32 x.e12), .v (.int .u32 x.e13), .v (.int .u32 x.e14), .v (.int .u32 x.e15)]
  | .sContext, x => [.v (.int .u32 x.regs.e0), .v (.int .u32 x.regs.e1), .v (.int .u32 x.regs.e2), .v (.int .u32 x.regs.e3), .v (.int .u32 x.regs.e4), .v (.int .u32 x.regs.e5), .v (.int .u32 x.regs.e6), .v (.int .u32 x.regs.e7), .v (.int .u32 x.regs.e8), .v (.int .u32 x.regs.e9), .v (.int .u32 x.regs.e10), .v (.int .u32 x.regs.e11), .v (.int .u32 x.regs.e12), .v (.int .u32 x.regs.e13), .v (.int .u32 x.regs.e14), .v (.int .u32 x.regs.e15), .v (.int .u32 x.pC)]
  | .sSeen, x => [.v (.int .i64 x.partition), .v (.int .i64 x.epoch), .v (.int .i64 x.cycle), .v (.int .u32 x.pC), .v (.int .u32 x.word), .v (.int .i64 x.trap), .v (.bool x.read), .v (.int .u32 x.addr), .v (.int .u32 x.value), .v (.int .u32 x.after.regs.e0), .v (.int .u32 x.after.regs.e1), .v (.int .u32 x.after.regs.e2), .v (.int .u32 x.after.regs.e3), .v (.int .u32 x.after.regs.e4), .v (.int .u32 x.after.regs.e5), .v (.int .u32 x.after.regs.e6), .v (.int .u32 x.after.regs.e7), .v (.int .u32 x.after.regs.e8), .v (.int .u32 x.after.regs.e9), .v (.int .u32 x.after.regs.e10), .v (.int .u32 x.after.regs.e11), .v (.int .u32 x.after.regs.e12), .v (.int .u32 x.after.regs.e13), .v (.int .u32 x.after.regs.e14), .v (.int .u32 x.after.regs.e15), .v (.int .u32 x.after.pC)]
  | .sEvent, x => [.v (.int .i64 x.kind), .v (.int .i64 x.partition), .v (.int .i64 x.epoch), .v (.int .i64 x.cycle), .v (.int .i64 x.trap)]
  | .sOut, x => [.v (.int .i64 x.partition), .v (.int .i64 x.epoch), .v (.int .u32 x.word)]
  | .sTurn, x => [.v (.int .i64 x.core), .v (.int .i64 x.kind), .sl .sSeen x.seen, .sl .sEvent x.events, .sl .sOut x.outs]
  | .sDeviceWhen, x => [.v (.int .i64 x.partition), .v (.int .i64 x.epoch)]
  | .sLayoutEnd, x => [.v (.int .i64 x.partition), .v (.int .i64 x.port)]
  | .sTraceX, x => [.sl .sSeen x.seen, .sl .sEvent x.events, .sl .sOut x.outs]
  | .sActX, x => [.v (.int .i64 x.cost), .v (.int .i64 x.trap), .v (.int .i64 x.call), .v (.int .u32 x.pC), .v (.int .u32 x.word), .v (.bool x.read), .v (.int .u32 x.addr), .v (.int .u32 x.value)]
  | .sKernelBuilt, x => [.v (.int .i64 x.config.frames), .v (.int .i64 x.config.major), .v (.int .i64 x.config.kernel), .v (.int .i64 x.config.room), .sl (.sl .sWindow) x.config.cores, .sl .sPartition x.config.partitions, .sl .sChannel x.config.channels]
  | .sAdmitFound, x => [.v (.int .i64 x.e), .v (.int .i64 x.where_.first), .v (.int .i64 x.where_.second)]
  | .sMemMemory, x => [.sl (.i .u32) x.words]
  | .sDuctDucts, x => [.v (.int .i64 x.c.frames), .v (.int .i64 x.c.major), .v (.int .i64 x.c.kernel), .v (.int .i64 x.c.room), .sl (.sl .sWindow) x.c.cores, .sl .sPartition x.c.partitions, .sl .sChannel x.c.channels, .v (.int .i64 x.lay.barrier), .sl .sPartitionPlace x.lay.partitions, .sl .sChannelPlace x.lay.channels, .v (.int .i64 x.lay.end_)]
  | .sStatus, x => [.v (.int .i64 x.state), .v (.int .i64 x.restarts), .v (.int .i64 x.trap), .v (.int .u32 x.pC), .v (.int .i64 x.outs)]
  | .sCoreStands, x => [.v (.int .u32 x.context.regs.e0), .v (.int .u32 x.context.regs.e1), .v (.int .u32 x.context.regs.e2), .v (.int .u32 x.context.regs.e3), .v (.int .u32 x.context.regs.e4), .v (.int .u32 x.context.regs.e5), .v (.int .u32 x.context.regs.e6), .v (.int .u32 x.context.regs.e7), .v (.int .u32 x.context.regs.e8), .v (.int .u32 x.context.regs.e9), .v (.int .u32 x.context.regs.e10), .v (.int .u32 x.context.regs.e11), .v (.int .u32 x.context.regs.e12), .v (.int .u32 x.context.regs.e13), .v (.int .u32 x.context.regs.e14), .v (.int .u32 x.context.regs.e15), .v (.int .u32 x.context.pC)]
  | .sIns, x => [.v (.int .i64 x.op), .v (.int .i64 x.a), .v (.int .i64 x.b), .v (.int .i64 x.c), .v (.int .i64 x.imm)]
  | .sEdgeX, x => [.v (.int .i64 x.from_), .v (.int .i64 x.to)]
  | .sIsaRow, x => [.v (.string x.name), .v (.int .i64 x.form), .v (.int .i64 x.cost)]
  | .sCallsTold, x => [.v (.int .u32 x.one), .v (.int .u32 x.two), .v (.int .u32 x.three)]
  | .sDuctEnds, x => [.v (.int .i64 x.stage), .v (.int .i64 x.words), .sl (.i .i64) x.ports]
  | .sDuctRow, x => [.v (.int .i64 x.ends.stage), .v (.int .i64 x.ends.words), .sl (.i .i64) x.ends.ports, .v (.int .i64 x.depth)]
  | .sDuctLast, x => [.v (.int .i64 x.ends.stage), .v (.int .i64 x.ends.words), .sl (.i .i64) x.ends.ports]
  | .sLeaf, x => [.v (.int .i64 x.page), .v (.int .i64 x.frame), .v (.int .i64 x.rights)]
  | .sLockChain, x => [.sl (.i .i64) x.locks, .v (.int .i64 x.held), .v (.bool x.asked), .sl (.i .u32) x.tickets]
  | .sBarrierView, x => [.v (.int .i64 x.come), .v (.int .i64 x.epoch)]
  | .sQueueForm, x => [.v (.int .i64 x.words), .v (.int .i64 x.depth)]
  | .sQueueRow, x => [.v (.int .u32 x.first), .v (.int .u32 x.lost), .sl (.sl (.i .u32)) x.messages]
  | .sHealthCare, x => [.clo x.again, .clo x.begin]
  | .sHealthWard, x => [.v (.int .i64 x.place.lock), .v (.int .i64 x.place.save), .v (.int .i64 x.place.state), .v (.int .i64 x.place.root), .sl (.i .i64) x.place.tables, .v (.int .u32 x.entry), .v (.int .u32 x.most), .v (.int .u32 x.outs), .clo x.care.again, .clo x.care.begin]
  | .sHealthWards, x => [.v (.int .i64 x.frames), .sl .sHealthWard x.wards]

def Ty.sz : Ty → Nat
  | .i _ => 1 | .b => 1 | .s => 1 | .f => 1 | .sl _ => 1 | .p _ => 1
  | .sWindow => 3
  | .sRegion => 4
  | .sPort => 2
  | .sPartition => 8
  | .sChannel => 3
  | .sConfig => 7
  | .sFeed => 3
  | .sPlay => 3
  | .sVerdict => 4
  | .sWhere => 2
  | .sPartitionPlace => 5
  | .sDestPlace => 3
  | .sChannelPlace => 5
  | .sLayout => 4
  | .sOwner => 3
  | .sBulkheadref15Piece => 5
  | .sSpan => 4
  | .sArr16Intu32 => 16
  | .sContext => 17
  | .sSeen => 26
  | .sEvent => 5
  | .sOut => 3
  | .sTurn => 5
  | .sDeviceWhen => 2
  | .sLayoutEnd => 2
  | .sTraceX => 3
  | .sActX => 8
  | .sKernelBuilt => 7
  | .sAdmitFound => 3
  | .sMemMemory => 1
  | .sDuctDucts => 11
  | .sStatus => 5
  | .sCoreStands => 17
  | .sIns => 5
  | .sEdgeX => 2
  | .sIsaRow => 3
  | .sCallsTold => 3
  | .sDuctEnds => 3
  | .sDuctRow => 4
  | .sDuctLast => 3
  | .sLeaf => 3
  | .sLockChain => 4
  | .sBarrierView => 2
  | .sQueueForm => 2
  | .sQueueRow => 3
  | .sHealthCare => 2
  | .sHealthWard => 10
  | .sHealthWards => 2

/-- Does an element lead nowhere? -/
def Ty.flat : Ty → Bool
  | .i _ => true | .b => true | .s => true | .f => false | .sl _ => false | .p _ => false
  | .sWindow => true
  | .sRegion => true
  | .sPort => true
  | .sPartition => false
  | .sChannel => true
  | .sConfig => false
  | .sFeed => false
  | .sPlay => false
  | .sVerdict => true
  | .sWhere => true
  | .sPartitionPlace => false
  | .sDestPlace => true
  | .sChannelPlace => false
  | .sLayout => false
  | .sOwner => true
  | .sBulkheadref15Piece => true
  | .sSpan => true
  | .sArr16Intu32 => true
  | .sContext => true
  | .sSeen => true
  | .sEvent => true
  | .sOut => true
  | .sTurn => false
  | .sDeviceWhen => true
  | .sLayoutEnd => true
  | .sTraceX => false
  | .sActX => true
  | .sKernelBuilt => false
  | .sAdmitFound => true
  | .sMemMemory => false
  | .sDuctDucts => false
  | .sStatus => true
  | .sCoreStands => true
  | .sIns => true
  | .sEdgeX => true
  | .sIsaRow => true
  | .sCallsTold => true
  | .sDuctEnds => false
  | .sDuctRow => false
  | .sDuctLast => false
  | .sLeaf => true
  | .sLockChain => false
  | .sBarrierView => true
  | .sQueueForm => true
  | .sQueueRow => false
  | .sHealthCare => false
  | .sHealthWard => false
  | .sHealthWards => false

/-- What a closure of a row is. -/
def Clo.out : Clo → AV
  | .none => .v .nilFunc
  | .c178 x0 => .fn (.func 178) [] [.op .sConfig (some x0)]
  | .c181 x0 => .fn (.func 181) [] [.op .sConfig (some x0)]
  | .c182 x0 => .fn (.func 182) [] [.op .sConfig (some x0)]
  | .c183 x0 => .fn (.func 183) [] [.op .sConfig (some x0)]
  | .c184 x0 => .fn (.func 184) [] [.op .sConfig (some x0)]
  | .c185 x0 x1 => .fn (.func 185) [] [.op .sConfig (some x0), .op (.i .i64) (some x1)]
  | .c187 x0 x1 => .fn (.func 187) [] [.op .sConfig (some x0), .op (.i .i64) (some x1)]
  | .c189 x0 x1 => .fn (.func 189) [] [.op .sConfig (some x0), .op (.i .i64) (some x1)]
  | .c191 x0 => .fn (.func 191) [] [.op .sConfig (some x0)]

/-- A cell that is a slice of this type; the empty one of no address, too. -/
def slOf (t : Ty) : AV → Option (List t.T)
  | .sl t' xs => match decEq t' t with | isTrue h => some (h ▸ xs) | isFalse _ => none
  | .v (.slice _ n _) => match n with | 0 => some [] | _ + 1 => none
  | _ => none
def opOf (t : Ty) : AV → Option (Option t.T)
  | .op t' x => match decEq t' t with | isTrue h => some (h ▸ x) | isFalse _ => none
  | .el t' xs i 0 => match decEq t' t with | isTrue h => some (some (h ▸ (xs.getD i default))) | isFalse _ => none
  | .v (.pointer none) => some none
  | _ => none

def clo178 : List AV → Option Clo
  | [z0] => (match opOf .sConfig z0 with | some (some z0) => some (.c178 z0) | _ => none)
  | _ => none
def clo181 : List AV → Option Clo
  | [z0] => (match opOf .sConfig z0 with | some (some z0) => some (.c181 z0) | _ => none)
  | _ => none
def clo182 : List AV → Option Clo
  | [z0] => (match opOf .sConfig z0 with | some (some z0) => some (.c182 z0) | _ => none)
  | _ => none
def clo183 : List AV → Option Clo
  | [z0] => (match opOf .sConfig z0 with | some (some z0) => some (.c183 z0) | _ => none)
  | _ => none
def clo184 : List AV → Option Clo
  | [z0] => (match opOf .sConfig z0 with | some (some z0) => some (.c184 z0) | _ => none)
  | _ => none
def clo185 : List AV → Option Clo
  | [z0, z1] => (match opOf .sConfig z0, opOf (.i .i64) z1 with | some (some z0), some (some z1) => some (.c185 z0 z1) | _, _ => none)
  | _ => none
def clo187 : List AV → Option Clo
  | [z0, z1] => (match opOf .sConfig z0, opOf (.i .i64) z1 with | some (some z0), some (some z1) => some (.c187 z0 z1) | _, _ => none)
  | _ => none
def clo189 : List AV → Option Clo
  | [z0, z1] => (match opOf .sConfig z0, opOf (.i .i64) z1 with | some (some z0), some (some z1) => some (.c189 z0 z1) | _, _ => none)
  | _ => none
def clo191 : List AV → Option Clo
  | [z0] => (match opOf .sConfig z0 with | some (some z0) => some (.c191 z0) | _ => none)
  | _ => none
def cloOf : AV → Option Clo
  | .clo c => some c
  | .fn (.func f) [] cap => (match Nat.beq f 178 with | true => clo178 cap | false => (match Nat.beq f 181 with | true => clo181 cap | false => (match Nat.beq f 182 with | true => clo182 cap | false => (match Nat.beq f 183 with | true => clo183 cap | false => (match Nat.beq f 184 with | true => clo184 cap | false => (match Nat.beq f 185 with | true => clo185 cap | false => (match Nat.beq f 187 with | true => clo187 cap | false => (match Nat.beq f 189 with | true => clo189 cap | false => (match Nat.beq f 191 with | true => clo191 cap | false => none)))))))))
  | .v .nilFunc => some .none
  | _ => none
def Ty.dec : (t : Ty) → List AV → Option t.T
  | .i k, cs => (match cs with | [.v (.int k' x)] => (if k = k' then some x else none) | _ => none : Option Int)
  | .b, cs => (match cs with | [.v (.bool x)] => some x | _ => none : Option Bool)
  | .s, cs => (match cs with | [.v (.string x)] => some x | _ => none : Option ByteArray)
  | .f, cs => (match cs with | [x] => cloOf x | _ => none : Option Clo)
  | .sl t, cs => (match cs with | [x] => slOf t x | _ => none : Option (List t.T))
  | .p t, cs => (match cs with | [x] => opOf t x | _ => none : Option (Option t.T))
  | .sWindow, cs => (match cs with | [.v (.int .i64 y0), .v (.int .i64 y1), .v (.int .i64 y2)] => (some (⟨y0, y1, y2⟩ : Window)) | _ => none : Option Window)
  | .sRegion, cs => (match cs with | [.v (.int .i64 y0), .v (.int .i64 y1), .v (.int .i64 y2), .v (.int .i64 y3)] => (some (⟨y0, y1, y2, y3⟩ : Region)) | _ => none : Option Region)
  | .sPort, cs => (match cs with | [.v (.int .i64 y0), .v (.bool y1)] => (some (⟨y0, y1⟩ : Port)) | _ => none : Option Port)
  | .sPartition, cs => (match cs with | [.v (.string y0), .v (.int .i64 y1), .v (.int .i64 y2), .v (.int .i64 y3), .v (.int .i64 y4), .v (.int .i64 y5), y6, y7] => (match slOf .sRegion y6, slOf .sPort y7 with | some y6, some y7 => some (⟨y0, y1, y2, y3, y4, y5, y6, y7⟩ : Partition) | _, _ => none) | _ => none : Option Partition)
  | .sChannel, cs => (match cs with | [.v (.int .i64 y0), .v (.int .i64 y1), .v (.int .i64 y2)] => (some (⟨y0, y1, y2⟩ : Channel)) | _ => none : Option Channel)
  | .sConfig, cs => (match cs with | [.v (.int .i64 y0), .v (.int .i64 y1), .v (.int .i64 y2), .v (.int .i64 y3), y4, y5, y6] => (match slOf (.sl .sWindow) y4, slOf .sPartition y5, slOf .sChannel y6 with | some y4, some y5, some y6 => some (⟨y0, y1, y2, y3, y4, y5, y6⟩ : Config) | _, _, _ => none) | _ => none : Option Config)
  | .sFeed, cs => (match cs with | [.v (.int .i64 y0), .v (.int .i64 y1), y2] => (match slOf (.i .u32) y2 with | some y2 => some (⟨y0, y1, y2⟩ : Feed) | _ => none) | _ => none : Option Feed)
  | .sPlay, cs => (match cs with | [y0, y1, y2] => (match slOf (.sl (.i .u32)) y0, slOf .sFeed y1, slOf (.i .i64) y2 with | some y0, some y1, some y2 => some (⟨y0, y1, y2⟩ : Play) | _, _, _ => none) | _ => none : Option Play)
  | .sVerdict, cs => (match cs with | [.v (.bool y0), .v (.int .i64 y1), .v (.int .i64 y2), .v (.int .i64 y3)] => (some (⟨y0, y1, y2, y3⟩ : Verdict)) | _ => none : Option Verdict)
  | .sWhere, cs => (match cs with | [.v (.int .i64 y0), .v (.int .i64 y1)] => (some (⟨y0, y1⟩ : Where)) | _ => none : Option Where)
  | .sPartitionPlace, cs => (match cs with | [.v (.int .i64 y0), .v (.int .i64 y1), .v (.int .i64 y2), .v (.int .i64 y3), y4] => (match slOf (.i .i64) y4 with | some y4 => some (⟨y0, y1, y2, y3, y4⟩ : PartitionPlace) | _ => none) | _ => none : Option PartitionPlace)
  | .sDestPlace, cs => (match cs with | [.v (.int .i64 y0), .v (.int .i64 y1), .v (.int .i64 y2)] => (some (⟨y0, y1, y2⟩ : DestPlace)) | _ => none : Option DestPlace)
  | .sChannelPlace, cs => (match cs with | [.v (.int .i64 y0), .v (.int .i64 y1), .v (.int .i64 y2), .v (.int .i64 y3), y4] => (match slOf .sDestPlace y4 with | some y4 => some (⟨y0, y1, y2, y3, y4⟩ : ChannelPlace) | _ => none) | _ => none : Option ChannelPlace)
  | .sLayout, cs => (match cs with | [.v (.int .i64 y0), y1, y2, .v (.int .i64 y3)] => (match slOf .sPartitionPlace y1, slOf .sChannelPlace y2 with | some y1, some y2 => some (⟨y0, y1, y2, y3⟩ : Layout) | _, _ => none) | _ => none : Option Layout)
  | .sOwner, cs => (match cs with | [.v (.int .i64 y0), .v (.int .i64 y1), .v (.int .i64 y2)] => (some (⟨y0, y1, y2⟩ : Owner)) | _ => none : Option Owner)
  | .sBulkheadref15Piece, cs => (match cs with | [.v (.int .i64 y0), .v (.int .i64 y1), .v (.int .i64 y2), .v (.int .i64 y3), .v (.int .i64 y4)] => (some (⟨y0, y1, ⟨y2, y3, y4⟩⟩ : Bulkheadref15Piece)) | _ => none : Option Bulkheadref15Piece)
  | .sSpan, cs => (match cs with | [.v (.int .i64 y0), .v (.int .i64 y1), .v (.int .i64 y2), .v (.int .i64 y3)] => (some (⟨y0, y1, y2, y3⟩ : Span)) | _ => none : Option Span)
  | .sArr16Intu32, cs => (match cs with | [.v (.int .u32 y0), .v (.int .u32 y1), .v (.int .u32 y2), .v (.int .u32 y3), .v (.int .u32 y4), .v (.int .u32 y5), .v (.int .u32 y6), .v (.int .u32 y7), .v (.int .u32 y8), .v (.int .u32 y9), .v (.int .u32 y10), .v (.int .u32 y11), .v (.int .u32 y12), .v (.int .u32 y13), .v (.int .u32 y14), .v (.int .u32 y15)] => (some (⟨y0, y1, y2, y3, y4, y5, y6, y7, y8, y9, y10, y11, y12, y13, y14, y15⟩ : Arr16Intu32)) | _ => none : Option Arr16Intu32)
  | .sContext, cs => (match cs with | [.v (.int .u32 y0), .v (.int .u32 y1), .v (.int .u32 y2), .v (.int .u32 y3), .v (.int .u32 y4), .v (.int .u32 y5), .v (.int .u32 y6), .v (.int .u32 y7), .v (.int .u32 y8), .v (.int .u32 y9), .v (.int .u32 y10), .v (.int .u32 y11), .v (.int .u32 y12), .v (.int .u32 y13), .v (.int .u32 y14), .v (.int .u32 y15), .v (.int .u32 y16)] => (some (⟨⟨y0, y1, y2, y3, y4, y5, y6, y7, y8, y9, y10, y11, y12, y13, y14, y15⟩, y16⟩ : Context)) | _ => none : Option Context)
  | .sSeen, cs => (match cs with | [.v (.int .i64 y0), .v (.int .i64 y1), .v (.int .i64 y2), .v (.int .u32 y3), .v (.int .u32 y4), .v (.int .i64 y5), .v (.bool y6), .v (.int .u32 y7), .v (.int .u32 y8), .v (.int .u32 y9), .v (.int .u32 y10), .v (.int .u32 y11), .v (.int .u32 y12), .v (.int .u32 y13), .v (.int .u32 y14), .v (.int .u32 y15), .v (.int .u32 y16), .v (.int .u32 y17), .v (.int .u32 y18), .v (.int .u32 y19), .v (.int .u32 y20), .v (.int .u32 y21), .v (.int .u32 y22), .v (.int .u32 y23), .v (.int .u32 y24), .v (.int .u32 y25)] => (some (⟨y0, y1, y2, y3, y4, y5, y6, y7, y8, ⟨⟨y9, y10, y11, y12, y13, y14, y15, y16, y17, y18, y19, y20, y21, y22, y23, y24⟩, y25⟩⟩ : Seen)) | _ => none : Option Seen)
  | .sEvent, cs => (match cs with | [.v (.int .i64 y0), .v (.int .i64 y1), .v (.int .i64 y2), .v (.int .i64 y3), .v (.int .i64 y4)] => (some (⟨y0, y1, y2, y3, y4⟩ : Event)) | _ => none : Option Event)
  | .sOut, cs => (match cs with | [.v (.int .i64 y0), .v (.int .i64 y1), .v (.int .u32 y2)] => (some (⟨y0, y1, y2⟩ : Out)) | _ => none : Option Out)
  | .sTurn, cs => (match cs with | [.v (.int .i64 y0), .v (.int .i64 y1), y2, y3, y4] => (match slOf .sSeen y2, slOf .sEvent y3, slOf .sOut y4 with | some y2, some y3, some y4 => some (⟨y0, y1, y2, y3, y4⟩ : Turn) | _, _, _ => none) | _ => none : Option Turn)
  | .sDeviceWhen, cs => (match cs with | [.v (.int .i64 y0), .v (.int .i64 y1)] => (some (⟨y0, y1⟩ : DeviceWhen)) | _ => none : Option DeviceWhen)
  | .sLayoutEnd, cs => (match cs with | [.v (.int .i64 y0), .v (.int .i64 y1)] => (some (⟨y0, y1⟩ : LayoutEnd)) | _ => none : Option LayoutEnd)
  | .sTraceX, cs => (match cs with | [y0, y1, y2] => (match slOf .sSeen y0, slOf .sEvent y1, slOf .sOut y2 with | some y0, some y1, some y2 => some (⟨y0, y1, y2⟩ : TraceX) | _, _, _ => none) | _ => none : Option TraceX)
  | .sActX, cs => (match cs with | [.v (.int .i64 y0), .v (.int .i64 y1), .v (.int .i64 y2), .v (.int .u32 y3), .v (.int .u32 y4), .v (.bool y5), .v (.int .u32 y6), .v (.int .u32 y7)] => (some (⟨y0, y1, y2, y3, y4, y5, y6, y7⟩ : ActX)) | _ => none : Option ActX)
  | .sKernelBuilt, cs => (match cs with | [.v (.int .i64 y0), .v (.int .i64 y1), .v (.int .i64 y2), .v (.int .i64 y3), y4, y5, y6] => (match slOf (.sl .sWindow) y4, slOf .sPartition y5, slOf .sChannel y6 with | some y4, some y5, some y6 => some (⟨⟨y0, y1, y2, y3, y4, y5, y6⟩⟩ : KernelBuilt) | _, _, _ => none) | _ => none : Option KernelBuilt)
  | .sAdmitFound, cs => (match cs with | [.v (.int .i64 y0), .v (.int .i64 y1), .v (.int .i64 y2)] => (some (⟨y0, ⟨y1, y2⟩⟩ : AdmitFound)) | _ => none : Option AdmitFound)
  | .sMemMemory, cs => (match cs with | [y0] => (match slOf (.i .u32) y0 with | some y0 => some (⟨y0⟩ : MemMemory) | _ => none) | _ => none : Option MemMemory)
  | .sDuctDucts, cs => (match cs with | [.v (.int .i64 y0), .v (.int .i64 y1), .v (.int .i64 y2), .v (.int .i64 y3), y4, y5, y6, .v (.int .i64 y7), y8, y9, .v (.int .i64 y10)] => (match slOf (.sl .sWindow) y4, slOf .sPartition y5, slOf .sChannel y6, slOf .sPartitionPlace y8, slOf .sChannelPlace y9 with | some y4, some y5, some y6, some y8, some y9 => some (⟨⟨y0, y1, y2, y3, y4, y5, y6⟩, ⟨y7, y8, y9, y10⟩⟩ : DuctDucts) | _, _, _, _, _ => none) | _ => none : Option DuctDucts)
  | .sStatus, cs => (match cs with | [.v (.int .i64 y0), .v (.int .i64 y1), .v (.int .i64 y2), .v (.int .u32 y3), .v (.int .i64 y4)] => (some (⟨y0, y1, y2, y3, y4⟩ : Status)) | _ => none : Option Status)
  | .sCoreStands, cs => (match cs with | [.v (.int .u32 y0), .v (.int .u32 y1), .v (.int .u32 y2), .v (.int .u32 y3), .v (.int .u32 y4), .v (.int .u32 y5), .v (.int .u32 y6), .v (.int .u32 y7), .v (.int .u32 y8), .v (.int .u32 y9), .v (.int .u32 y10), .v (.int .u32 y11), .v (.int .u32 y12), .v (.int .u32 y13), .v (.int .u32 y14), .v (.int .u32 y15), .v (.int .u32 y16)] => (some (⟨⟨⟨y0, y1, y2, y3, y4, y5, y6, y7, y8, y9, y10, y11, y12, y13, y14, y15⟩, y16⟩⟩ : CoreStands)) | _ => none : Option CoreStands)
  | .sIns, cs => (match cs with | [.v (.int .i64 y0), .v (.int .i64 y1), .v (.int .i64 y2), .v (.int .i64 y3), .v (.int .i64 y4)] => (some (⟨y0, y1, y2, y3, y4⟩ : Ins)) | _ => none : Option Ins)
  | .sEdgeX, cs => (match cs with | [.v (.int .i64 y0), .v (.int .i64 y1)] => (some (⟨y0, y1⟩ : EdgeX)) | _ => none : Option EdgeX)
  | .sIsaRow, cs => (match cs with | [.v (.string y0), .v (.int .i64 y1), .v (.int .i64 y2)] => (some (⟨y0, y1, y2⟩ : IsaRow)) | _ => none : Option IsaRow)
  | .sCallsTold, cs => (match cs with | [.v (.int .u32 y0), .v (.int .u32 y1), .v (.int .u32 y2)] => (some (⟨y0, y1, y2⟩ : CallsTold)) | _ => none : Option CallsTold)
  | .sDuctEnds, cs => (match cs with | [.v (.int .i64 y0), .v (.int .i64 y1), y2] => (match slOf (.i .i64) y2 with | some y2 => some (⟨y0, y1, y2⟩ : DuctEnds) | _ => none) | _ => none : Option DuctEnds)
  | .sDuctRow, cs => (match cs with | [.v (.int .i64 y0), .v (.int .i64 y1), y2, .v (.int .i64 y3)] => (match slOf (.i .i64) y2 with | some y2 => some (⟨⟨y0, y1, y2⟩, y3⟩ : DuctRow) | _ => none) | _ => none : Option DuctRow)
  | .sDuctLast, cs => (match cs with | [.v (.int .i64 y0), .v (.int .i64 y1), y2] => (match slOf (.i .i64) y2 with | some y2 => some (⟨⟨y0, y1, y2⟩⟩ : DuctLast) | _ => none) | _ => none : Option DuctLast)
  | .sLeaf, cs => (match cs with | [.v (.int .i64 y0), .v (.int .i64 y1), .v (.int .i64 y2)] => (some (⟨y0, y1, y2⟩ : Leaf)) | _ => none : Option Leaf)
  | .sLockChain, cs => (match cs with | [y0, .v (.int .i64 y1), .v (.bool y2), y3] => (match slOf (.i .i64) y0, slOf (.i .u32) y3 with | some y0, some y3 => some (⟨y0, y1, y2, y3⟩ : LockChain) | _, _ => none) | _ => none : Option LockChain)
  | .sBarrierView, cs => (match cs with | [.v (.int .i64 y0), .v (.int .i64 y1)] => (some (⟨y0, y1⟩ : BarrierView)) | _ => none : Option BarrierView)
  | .sQueueForm, cs => (match cs with | [.v (.int .i64 y0), .v (.int .i64 y1)] => (some (⟨y0, y1⟩ : QueueForm)) | _ => none : Option QueueForm)
  | .sQueueRow, cs => (match cs with | [.v (.int .u32 y0), .v (.int .u32 y1), y2] => (match slOf (.sl (.i .u32)) y2 with | some y2 => some (⟨y0, y1, y2⟩ : QueueRow) | _ => none) | _ => none : Option QueueRow)
  | .sHealthCare, cs => (match cs with | [y0, y1] => (match cloOf y0, cloOf y1 with | some y0, some y1 => some (⟨y0, y1⟩ : HealthCare) | _, _ => none) | _ => none : Option HealthCare)
  | .sHealthWard, cs => (match cs with | [.v (.int .i64 y0), .v (.int .i64 y1), .v (.int .i64 y2), .v (.int .i64 y3), y4, .v (.int .u32 y5), .v (.int .u32 y6), .v (.int .u32 y7), y8, y9] => (match slOf (.i .i64) y4, cloOf y8, cloOf y9 with | some y4, some y8, some y9 => some (⟨⟨y0, y1, y2, y3, y4⟩, y5, y6, y7, ⟨y8, y9⟩⟩ : HealthWard) | _, _, _ => none) | _ => none : Option HealthWard)
  | .sHealthWards, cs => (match cs with | [.v (.int .i64 y0), y1] => (match slOf .sHealthWard y1 with | some y1 => some (⟨y0, y1⟩ : HealthWards) | _ => none) | _ => none : Option HealthWards)

/-- The codes of the seat's types. -/
def tyOf : TypeId → Option Ty
  | 1 => some .f
  | 2 => some (.i .i64)
  | 3 => some (.i .i64)
  | 4 => some .b
  | 5 => some (.i .u8)
  | 6 => some (.i .u8)
  | 9 => some .s
  | 10 => some .s
  | 11 => some .s
  | 12 => some (.i .u64)
  | 21 => some (.i .i32)
  | 22 => some (.sl (.sl .sWindow))
  | 23 => some (.sl .sPartition)
  | 24 => some (.sl .sChannel)
  | 26 => some .sConfig
  | 27 => some (.sl (.i .u32))
  | 28 => some (.i .i64)
  | 30 => some .f
  | 31 => some (.sl .sTraceX)
  | 33 => some .f
  | 34 => some .f
  | 36 => some .f
  | 37 => some (.sl (.sl (.i .u32)))
  | 38 => some (.sl .sFeed)
  | 39 => some (.sl (.i .i64))
  | 41 => some .sPlay
  | 43 => some .sVerdict
  | 45 => some .f
  | 47 => some .sWhere
  | 49 => some .f
  | 50 => some .f
  | 51 => some (.sl .sRegion)
  | 52 => some (.sl .sPort)
  | 54 => some .sPartition
  | 55 => some (.sl .sPartitionPlace)
  | 56 => some (.sl .sChannelPlace)
  | 58 => some .sLayout
  | 60 => some .f
  | 61 => some .f
  | 63 => some .sPartitionPlace
  | 64 => some (.i .u32)
  | 65 => some .f
  | 67 => some .f
  | 68 => some (.p .sMemMemory)
  | 70 => some (.p .sHealthWards)
  | 75 => some .f
  | 78 => some (.sl .sSeen)
  | 84 => some (.i .u64)
  | 89 => some .f
  | 90 => some .f
  | 91 => some .f
  | 92 => some .f
  | 93 => some .f
  | 94 => some .f
  | 95 => some .f
  | 96 => some .f
  | 97 => some .f
  | 98 => some .f
  | 100 => some .f
  | 101 => some (.sl .sDestPlace)
  | 103 => some .sChannelPlace
  | 104 => some (.sl .sBulkheadref15Piece)
  | 105 => some .f
  | 107 => some .sOwner
  | 109 => some .sBulkheadref15Piece
  | 111 => some .sDestPlace
  | 112 => some .f
  | 114 => some .f
  | 117 => some .f
  | 119 => some .f
  | 121 => some .f
  | 122 => some .f
  | 123 => some (.sl .sSpan)
  | 125 => some .f
  | 127 => some .sSpan
  | 128 => some .f
  | 129 => some .f
  | 130 => some .f
  | 132 => some .f
  | 133 => some .f
  | 134 => some .f
  | 135 => some .f
  | 137 => some .sFeed
  | 138 => some .f
  | 139 => some .f
  | 141 => some .f
  | 143 => some (.i .i64)
  | 144 => some .f
  | 145 => some .f
  | 146 => some .f
  | 147 => some (.i .u64)
  | 149 => some .f
  | 150 => some .f
  | 151 => some .f
  | 152 => some .f
  | 153 => some (.sl .sEvent)
  | 154 => some (.sl .sOut)
  | 156 => some .sTurn
  | 158 => some .f
  | 159 => some .sArr16Intu32
  | 161 => some .sContext
  | 163 => some .sSeen
  | 164 => some .f
  | 165 => some .f
  | 166 => some .f
  | 168 => some .f
  | 169 => some .f
  | 170 => some .f
  | 171 => some .f
  | 172 => some .f
  | 174 => some .sPort
  | 176 => some .sChannel
  | 177 => some (.sl .sWindow)
  | 179 => some .sWindow
  | 180 => some .f
  | 182 => some .sRegion
  | 183 => some .f
  | 185 => some .f
  | 186 => some .f
  | 187 => some .f
  | 188 => some .f
  | 190 => some .f
  | 191 => some .f
  | 192 => some .f
  | 193 => some .f
  | 198 => some .sDeviceWhen
  | 200 => some .f
  | 201 => some (.p .sDuctDucts)
  | 203 => some .f
  | 206 => some (.sl .sHealthWard)
  | 208 => some .sHealthWards
  | 209 => some .f
  | 210 => some .f
  | 212 => some .sHealthCare
  | 213 => some .f
  | 215 => some .sHealthWard
  | 216 => some .f
  | 217 => some .f
  | 218 => some (.sl .sLayoutEnd)
  | 220 => some .f
  | 222 => some .sLayoutEnd
  | 223 => some .f
  | 225 => some .f
  | 226 => some (.p .sTraceX)
  | 228 => some .sTraceX
  | 230 => some .sEvent
  | 231 => some .f
  | 234 => some .f
  | 235 => some .f
  | 237 => some .sActX
  | 239 => some .f
  | 240 => some .f
  | 242 => some .sOut
  | 243 => some .f
  | 244 => some .f
  | 245 => some .f
  | 246 => some .f
  | 248 => some .f
  | 249 => some .f
  | 250 => some .f
  | 251 => some (.sl (.sl .b))
  | 252 => some .f
  | 253 => some (.sl .b)
  | 254 => some .f
  | 255 => some .f
  | 256 => some .f
  | 258 => some .f
  | 260 => some .f
  | 261 => some .f
  | 263 => some .sKernelBuilt
  | 264 => some (.sl (.sl (.i .i64)))
  | 268 => some .f
  | 270 => some .f
  | 271 => some .f
  | 272 => some .f
  | 273 => some (.sl .f)
  | 274 => some .f
  | 275 => some .f
  | 277 => some .sAdmitFound
  | 278 => some .f
  | 279 => some .f
  | 280 => some .f
  | 282 => some .sMemMemory
  | 284 => some .f
  | 285 => some .f
  | 286 => some .f
  | 287 => some .f
  | 289 => some .f
  | 290 => some .f
  | 291 => some .f
  | 293 => some .f
  | 294 => some .f
  | 295 => some .f
  | 297 => some .sDuctDucts
  | 298 => some .f
  | 300 => some .f
  | 302 => some .f
  | 303 => some .f
  | 304 => some .f
  | 305 => some .f
  | 306 => some .f
  | 308 => some .sStatus
  | 310 => some .f
  | 313 => some .sCoreStands
  | 319 => some .sIns
  | 322 => some .f
  | 323 => some .f
  | 325 => some .f
  | 327 => some .f
  | 329 => some .f
  | 330 => some .f
  | 333 => some .f
  | 335 => some .f
  | 336 => some (.p .sLockChain)
  | 339 => some .f
  | 340 => some (.p .sTurn)
  | 341 => some .f
  | 342 => some (.sl .sEdgeX)
  | 343 => some .f
  | 345 => some .sEdgeX
  | 346 => some .f
  | 347 => some .f
  | 348 => some .f
  | 349 => some .f
  | 350 => some .f
  | 351 => some .f
  | 352 => some .f
  | 353 => some .f
  | 354 => some .f
  | 355 => some .f
  | 357 => some .f
  | 359 => some .f
  | 361 => some .f
  | 362 => some .f
  | 363 => some .f
  | 364 => some .f
  | 365 => some .f
  | 367 => some .f
  | 369 => some .sIsaRow
  | 370 => some .f
  | 375 => some .sCallsTold
  | 377 => some .f
  | 379 => some .f
  | 380 => some .f
  | 382 => some .sDuctEnds
  | 384 => some .sDuctRow
  | 386 => some .sDuctLast
  | 387 => some .f
  | 389 => some .f
  | 390 => some .f
  | 392 => some .f
  | 393 => some .f
  | 394 => some .f
  | 395 => some .f
  | 396 => some .f
  | 397 => some .f
  | 398 => some .f
  | 399 => some .f
  | 400 => some .f
  | 401 => some .f
  | 402 => some .f
  | 403 => some .f
  | 409 => some .f
  | 412 => some .f
  | 414 => some .sLeaf
  | 417 => some .f
  | 418 => some .f
  | 420 => some .f
  | 421 => some .f
  | 422 => some .f
  | 423 => some .f
  | 424 => some .f
  | 425 => some .f
  | 427 => some .f
  | 428 => some .f
  | 429 => some .f
  | 430 => some .f
  | 431 => some .f
  | 432 => some .f
  | 433 => some .f
  | 434 => some .f
  | 435 => some .f
  | 436 => some .f
  | 437 => some .f
  | 438 => some (.i .i64)
  | 440 => some .f
  | 441 => some .f
  | 442 => some .f
  | 443 => some .f
  | 444 => some .f
  | 445 => some .f
  | 446 => some .f
  | 447 => some .f
  | 448 => some .f
  | 450 => some .sLockChain
  | 451 => some .f
  | 452 => some .f
  | 453 => some .f
  | 455 => some .sBarrierView
  | 457 => some .f
  | 458 => some .f
  | 459 => some (.sl .sAdmitFound)
  | 469 => some .f
  | 471 => some .f
  | 472 => some .f
  | 473 => some .f
  | 475 => some .f
  | 476 => some .f
  | 477 => some .f
  | 479 => some .f
  | 480 => some .f
  | 481 => some .f
  | 483 => some .f
  | 484 => some .f
  | 486 => some .f
  | 488 => some .f
  | 490 => some .f
  | 491 => some .f
  | 492 => some .f
  | 493 => some .f
  | 494 => some .f
  | 495 => some .f
  | 496 => some .f
  | 497 => some (.i .u64)
  | 498 => some .f
  | 499 => some .f
  | 501 => some .f
  | 503 => some .f
  | 504 => some .f
  | 506 => some .f
  | 508 => some .f
  | 509 => some .f
  | 510 => some .f
  | 511 => some .f
  | 515 => some .f
  | 517 => some .f
  | 518 => some .f
  | 519 => some .f
  | 521 => some .f
  | 522 => some .f
  | 523 => some .f
  | 524 => some .f
  | 525 => some .f
  | 526 => some .f
  | 528 => some .f
  | 529 => some .f
  | 530 => some .f
  | 535 => some .sQueueForm
  | 537 => some .sQueueRow
  | 539 => some .f
  | 540 => some .f
  | 541 => some .f
  | 542 => some .f
  | 543 => some .f
  | 545 => some .f
  | 546 => some .f
  | 548 => some .f
  | 549 => some .f
  | 550 => some .f
  | 556 => some (.i .u8)
  | 557 => some (.i .u8)
  | 558 => some .f
  | 560 => some (.i .i32)
  | 561 => some (.i .i32)
  | 565 => some .f
  | 567 => some .f
  | 568 => some .f
  | 569 => some .f
  | 571 => some .f
  | 572 => some (.sl .sQueueRow)
  | 574 => some .f
  | 575 => some .f
  | 576 => some .f
  | 577 => some .f
  | 578 => some .f
  | 579 => some .f
  | 580 => some .f
  | _ => none
def Ty.leaves : Ty → List Ty
  | .i k => [.i k] | .b => [.b] | .s => [.s] | .f => [.f] | .sl t => [.sl t] | .p t => [.p t]
  | .sWindow => [.i .i64, .i .i64, .i .i64]
  | .sRegion => [.i .i64, .i .i64, .i .i64, .i .i64]
  | .sPort => [.i .i64, .b]
  | .sPartition => [.s, .i .i64, .i .i64, .i .i64, .i .i64, .i .i64, .sl .sRegion, .sl .sPort]
  | .sChannel => [.i .i64, .i .i64, .i .i64]
  | .sConfig => [.i .i64, .i .i64, .i .i64, .i .i64, .sl (.sl .sWindow), .sl .sPartition, .sl .sChannel]
  | .sFeed => [.i .i64, .i .i64, .sl (.i .u32)]
  | .sPlay => [.sl (.sl (.i .u32)), .sl .sFeed, .sl (.i .i64)]
  | .sVerdict => [.b, .i .i64, .i .i64, .i .i64]
  | .sWhere => [.i .i64, .i .i64]
  | .sPartitionPlace => [.i .i64, .i .i64, .i .i64, .i .i64, .sl (.i .i64)]
  | .sDestPlace => [.i .i64, .i .i64, .i .i64]
  | .sChannelPlace => [.i .i64, .i .i64, .i .i64, .i .i64, .sl .sDestPlace]
  | .sLayout => [.i .i64, .sl .sPartitionPlace, .sl .sChannelPlace, .i .i64]
  | .sOwner => [.i .i64, .i .i64, .i .i64]
  | .sBulkheadref15Piece => [.i .i64, .i .i64, .i .i64, .i .i64, .i .i64]
  | .sSpan => [.i .i64, .i .i64, .i .i64, .i .i64]
  | .sArr16Intu32 => [.i .u32, .i .u32, .i .u32, .i .u32, .i .u32, .i .u32, .i .u32, .i .u32, .i .u32, .i .u32, .i .u32, .i .u32, .i .u32, .i .u32, .i .u32, .i .u32]
  | .sContext => [.i .u32, .i .u32, .i .u32, .i .u32, .i .u32, .i .u32, .i .u32, .i .u32, .i .u32, .i .u32, .i .u32, .i .u32, .i .u32, .i .u32, .i .u32, .i .u32, .i .u32]
  | .sSeen => [.i .i64, .i .i64, .i .i64, .i .u32, .i .u32, .i .i64, .b, .i .u32, .i .u32, .i .u32, .i .u32, .i .u32, .i .u32, .i .u32, .i .u32, .i .u32, .i .u32, .i .u32, .i .u32, .i .u32, .i .u32, .i .u32, .i .u32, .i .u32, .i .u32, .i .u32]
  | .sEvent => [.i .i64, .i .i64, .i .i64, .i .i64, .i .i64]
  | .sOut => [.i .i64, .i .i64, .i .u32]
  | .sTurn => [.i .i64, .i .i64, .sl .sSeen, .sl .sEvent, .sl .sOut]
  | .sDeviceWhen => [.i .i64, .i .i64]
  | .sLayoutEnd => [.i .i64, .i .i64]
  | .sTraceX => [.sl .sSeen, .sl .sEvent, .sl .sOut]
  | .sActX => [.i .i64, .i .i64, .i .i64, .i .u32, .i .u32, .b, .i .u32, .i .u32]
  | .sKernelBuilt => [.i .i64, .i .i64, .i .i64, .i .i64, .sl (.sl .sWindow), .sl .sPartition, .sl .sChannel]
  | .sAdmitFound => [.i .i64, .i .i64, .i .i64]
  | .sMemMemory => [.sl (.i .u32)]
  | .sDuctDucts => [.i .i64, .i .i64, .i .i64, .i .i64, .sl (.sl .sWindow), .sl .sPartition, .sl .sChannel, .i .i64, .sl .sPartitionPlace, .sl .sChannelPlace, .i .i64]
  | .sStatus => [.i .i64, .i .i64, .i .i64, .i .u32, .i .i64]
  | .sCoreStands => [.i .u32, .i .u32, .i .u32, .i .u32, .i .u32, .i .u32, .i .u32, .i .u32, .i .u32, .i .u32, .i .u32, .i .u32, .i .u32, .i .u32, .i .u32, .i .u32, .i .u32]
  | .sIns => [.i .i64, .i .i64, .i .i64, .i .i64, .i .i64]
  | .sEdgeX => [.i .i64, .i .i64]
  | .sIsaRow => [.s, .i .i64, .i .i64]
  | .sCallsTold => [.i .u32, .i .u32, .i .u32]
  | .sDuctEnds => [.i .i64, .i .i64, .sl (.i .i64)]
  | .sDuctRow => [.i .i64, .i .i64, .sl (.i .i64), .i .i64]
  | .sDuctLast => [.i .i64, .i .i64, .sl (.i .i64)]
  | .sLeaf => [.i .i64, .i .i64, .i .i64]
  | .sLockChain => [.sl (.i .i64), .i .i64, .b, .sl (.i .u32)]
  | .sBarrierView => [.i .i64, .i .i64]
  | .sQueueForm => [.i .i64, .i .i64]
  | .sQueueRow => [.i .u32, .i .u32, .sl (.sl (.i .u32))]
  | .sHealthCare => [.f, .f]
  | .sHealthWard => [.i .i64, .i .i64, .i .i64, .i .i64, .sl (.i .i64), .i .u32, .i .u32, .i .u32, .f, .f]
  | .sHealthWards => [.i .i64, .sl .sHealthWard]

def tyMax : Nat := 581
/-- Is it data, without pointers and functions? -/
def Ty.dat : Ty → Bool
  | .i _ => true | .b => true | .s => true | .f => false | .sl t => t.dat | .p _ => false
  | .sWindow => true
  | .sRegion => true
  | .sPort => true
  | .sPartition => true
  | .sChannel => true
  | .sConfig => true
  | .sFeed => true
  | .sPlay => true
  | .sVerdict => true
  | .sWhere => true
  | .sPartitionPlace => true
  | .sDestPlace => true
  | .sChannelPlace => true
  | .sLayout => true
  | .sOwner => true
  | .sBulkheadref15Piece => true
  | .sSpan => true
  | .sArr16Intu32 => true
  | .sContext => true
  | .sSeen => true
  | .sEvent => true
  | .sOut => true
  | .sTurn => true
  | .sDeviceWhen => true
  | .sLayoutEnd => true
  | .sTraceX => true
  | .sActX => true
  | .sKernelBuilt => true
  | .sAdmitFound => true
  | .sMemMemory => true
  | .sDuctDucts => true
  | .sStatus => true
  | .sCoreStands => true
  | .sIns => true
  | .sEdgeX => true
  | .sIsaRow => true
  | .sCallsTold => true
  | .sDuctEnds => true
  | .sDuctRow => true
  | .sDuctLast => true
  | .sLeaf => true
  | .sLockChain => true
  | .sBarrierView => true
  | .sQueueForm => true
  | .sQueueRow => true
  | .sHealthCare => false
  | .sHealthWard => false
  | .sHealthWards => false

abbrev Window.av (x : Window) : AV := .agg [.v (.int .i64 x.partition), .v (.int .i64 x.usable), .v (.int .i64 x.slack)]
abbrev Region.av (x : Region) : AV := .agg [.v (.int .i64 x.page), .v (.int .i64 x.pages), .v (.int .i64 x.frame), .v (.int .i64 x.rights)]
abbrev Port.av (x : Port) : AV := .agg [.v (.int .i64 x.channel), .v (.bool x.source)]
abbrev Partition.av (x : Partition) : AV := .agg [.v (.string x.name), .v (.int .i64 x.entry), .v (.int .i64 x.action), .v (.int .i64 x.restarts), .v (.int .i64 x.inputs), .v (.int .i64 x.outputs), .sl .sRegion x.regions, .sl .sPort x.ports]
abbrev Channel.av (x : Channel) : AV := .agg [.v (.int .i64 x.kind), .v (.int .i64 x.words), .v (.int .i64 x.depth)]
abbrev Config.av (x : Config) : AV := .agg [.v (.int .i64 x.frames), .v (.int .i64 x.major), .v (.int .i64 x.kernel), .v (.int .i64 x.room), .sl (.sl .sWindow) x.cores, .sl .sPartition x.partitions, .sl .sChannel x.channels]
abbrev Feed.av (x : Feed) : AV := .agg [.v (.int .i64 x.partition), .v (.int .i64 x.epoch), .sl (.i .u32) x.words]
abbrev Play.av (x : Play) : AV := .agg [.sl (.sl (.i .u32)) x.programs, .sl .sFeed x.feeds, .sl (.i .i64) x.picks]
abbrev Verdict.av (x : Verdict) : AV := .agg [.v (.bool x.same), .v (.int .i64 x.at_), .v (.int .i64 x.one), .v (.int .i64 x.another)]
abbrev Where.av (x : Where) : AV := .agg [.v (.int .i64 x.first), .v (.int .i64 x.second)]
abbrev PartitionPlace.av (x : PartitionPlace) : AV := .agg [.v (.int .i64 x.lock), .v (.int .i64 x.save), .v (.int .i64 x.state), .v (.int .i64 x.root), .sl (.i .i64) x.tables]
abbrev DestPlace.av (x : DestPlace) : AV := .agg [.v (.int .i64 x.partition), .v (.int .i64 x.port), .v (.int .i64 x.at_)]
abbrev ChannelPlace.av (x : ChannelPlace) : AV := .agg [.v (.int .i64 x.lock), .v (.int .i64 x.stage), .v (.int .i64 x.partition), .v (.int .i64 x.port), .sl .sDestPlace x.dests]
abbrev Layout.av (x : Layout) : AV := .agg [.v (.int .i64 x.barrier), .sl .sPartitionPlace x.partitions, .sl .sChannelPlace x.channels, .v (.int .i64 x.end_)]
abbrev Owner.av (x : Owner) : AV := .agg [.v (.int .i64 x.kind), .v (.int .i64 x.index), .v (.int .i64 x.port)]
abbrev Bulkheadref15Piece.av (x : Bulkheadref15Piece) : AV := .agg [.v (.int .i64 x.at_), .v (.int .i64 x.size), .v (.int .i64 x.owner.kind), .v (.int .i64 x.owner.index), .v (.int .i64 x.owner.port)]
abbrev Span.av (x : Span) : AV := .agg [.v (.int .i64 x.core), .v (.int .i64 x.window), .v (.int .i64 x.from_), .v (.int .i64 x.to)]
abbrev Arr16Intu32.av (x : Arr16Intu32) : AV := .agg [.v (.int .u32 x.e0), .v (.int .u32 x.e1), .v (.int .u32 x.e2), .v (.int .u32 x.e3), .v (.int .u32 x.e4), .v (.int .u32 x.e5), .v (.int .u32 x.e6), .v (.int .u32 x.e7), .v (.int .u32 x.e8), .v (.int .u32 x.e9), .v (.int .u32 x.e10), .v (.int .u32 x.e11), .v (.int .u32 x.e12), .v (.int .u32 x.e13), .v (.int .u32 x.e14), .v (.int .u32 x.e15)]
abbrev Context.av (x : Context) : AV := .agg [.v (.int .u32 x.regs.e0), .v (.int .u32 x.regs.e1), .v (.int .u32 x.regs.e2), .v (.int .u32 x.regs.e3), .v (.int .u32 x.regs.e4), .v (.int .u32 x.regs.e5), .v (.int .u32 x.regs.e6), .v (.int .u32 x.regs.e7), .v (.int .u32 x.regs.e8), .v (.int .u32 x.regs.e9), .v (.int .u32 x.regs.e10), .v (.int .u32 x.regs.e11), .v (.int .u32 x.regs.e12), .v (.int .u32 x.regs.e13), .v (.int .u32 x.regs.e14), .v (.int .u32 x.regs.e15), .v (.int .u32 x.pC)]
abbrev Seen.av (x : Seen) : AV := .agg [.v (.int .i64 x.partition), .v (.int .i64 x.epoch), .v (.int .i64 x.cycle), .v (.int .u32 x.pC), .v (.int .u32 x.word), .v (.int .i64 x.trap), .v (.bool x.read), .v (.int .u32 x.addr), .v (.int .u32 x.value), .v (.int .u32 x.after.regs.e0), .v (.int .u32 x.after.regs.e1), .v (.int .u32 x.after.regs.e2), .v (.int .u32 x.after.regs.e3), .v (.int .u32 x.after.regs.e4), .v (.int .u32 x.after.regs.e5), .v (.int .u32 x.after.regs.e6), .v (.int .u32 x.after.regs.e7), .v (.int .u32 x.after.regs.e8), .v (.int .u32 x.after.regs.e9), .v (.int .u32 x.after.regs.e10), .v (.int .u32 x.after.regs.e11), .v (.int .u32 x.after.regs.e12), .v (.int .u32 x.after.regs.e13), .v (.int .u32 x.after.regs.e14), .v (.int .u32 x.after.regs.e15), .v (.int .u32 x.after.pC)]
abbrev Event.av (x : Event) : AV := .agg [.v (.int .i64 x.kind), .v (.int .i64 x.partition), .v (.int .i64 x.epoch), .v (.int .i64 x.cycle), .v (.int .i64 x.trap)]
abbrev Out.av (x : Out) : AV := .agg [.v (.int .i64 x.partition), .v (.int .i64 x.epoch), .v (.int .u32 x.word)]
abbrev Turn.av (x : Turn) : AV := .agg [.v (.int .i64 x.core), .v (.int .i64 x.kind), .sl .sSeen x.seen, .sl .sEvent x.events, .sl .sOut x.outs]
abbrev DeviceWhen.av (x : DeviceWhen) : AV := .agg [.v (.int .i64 x.partition), .v (.int .i64 x.epoch)]
abbrev LayoutEnd.av (x : LayoutEnd) : AV := .agg [.v (.int .i64 x.partition), .v (.int .i64 x.port)]
abbrev TraceX.av (x : TraceX) : AV := .agg [.sl .sSeen x.seen, .sl .sEvent x.events, .sl .sOut x.outs]
abbrev ActX.av (x : ActX) : AV := .agg [.v (.int .i64 x.cost), .v (.int .i64 x.trap), .v (.int .i64 x.call), .v (.int .u32 x.pC), .v (.int .u32 x.word), .v (.bool x.read), .v (.int .u32 x.addr), .v (.int .u32 x.value)]
abbrev KernelBuilt.av (x : KernelBuilt) : AV := .agg [.v (.int .i64 x.config.frames), .v (.int .i64 x.config.major), .v (.int .i64 x.config.kernel), .v (.int .i64 x.config.room), .sl (.sl .sWindow) x.config.cores, .sl .sPartition x.config.partitions, .sl .sChannel x.config.channels]
abbrev AdmitFound.av (x : AdmitFound) : AV := .agg [.v (.int .i64 x.e), .v (.int .i64 x.where_.first), .v (.int .i64 x.where_.second)]
abbrev MemMemory.av (x : MemMemory) : AV := .agg [.sl (.i .u32) x.words]
abbrev DuctDucts.av (x : DuctDucts) : AV := .agg [.v (.int .i64 x.c.frames), .v (.int .i64 x.c.major), .v (.int .i64 x.c.kernel), .v (.int .i64 x.c.room), .sl (.sl .sWindow) x.c.cores, .sl .sPartition x.c.partitions, .sl .sChannel x.c.channels, .v (.int .i64 x.lay.barrier), .sl .sPartitionPlace x.lay.partitions, .sl .sChannelPlace x.lay.channels, .v (.int .i64 x.lay.end_)]
abbrev Status.av (x : Status) : AV := .agg [.v (.int .i64 x.state), .v (.int .i64 x.restarts), .v (.int .i64 x.trap), .v (.int .u32 x.pC), .v (.int .i64 x.outs)]
abbrev CoreStands.av (x : CoreStands) : AV := .agg [.v (.int .u32 x.context.regs.e0), .v (.int .u32 x.context.regs.e1), .v (.int .u32 x.context.regs.e2), .v (.int .u32 x.context.regs.e3), .v (.int .u32 x.context.regs.e4), .v (.int .u32 x.context.regs.e5), .v (.int .u32 x.context.regs.e6), .v (.int .u32 x.context.regs.e7), .v (.int .u32 x.context.regs.e8), .v (.int .u32 x.context.regs.e9), .v (.int .u32 x.context.regs.e10), .v (.int .u32 x.context.regs.e11), .v (.int .u32 x.context.regs.e12), .v (.int .u32 x.context.regs.e13), .v (.int .u32 x.context.regs.e14), .v (.int .u32 x.context.regs.e15), .v (.int .u32 x.context.pC)]
abbrev Ins.av (x : Ins) : AV := .agg [.v (.int .i64 x.op), .v (.int .i64 x.a), .v (.int .i64 x.b), .v (.int .i64 x.c), .v (.int .i64 x.imm)]
abbrev EdgeX.av (x : EdgeX) : AV := .agg [.v (.int .i64 x.from_), .v (.int .i64 x.to)]
abbrev IsaRow.av (x : IsaRow) : AV := .agg [.v (.string x.name), .v (.int .i64 x.form), .v (.int .i64 x.cost)]
abbrev CallsTold.av (x : CallsTold) : AV := .agg [.v (.int .u32 x.one), .v (.int .u32 x.two), .v (.int .u32 x.three)]
abbrev DuctEnds.av (x : DuctEnds) : AV := .agg [.v (.int .i64 x.stage), .v (.int .i64 x.words), .sl (.i .i64) x.ports]
abbrev DuctRow.av (x : DuctRow) : AV := .agg [.v (.int .i64 x.ends.stage), .v (.int .i64 x.ends.words), .sl (.i .i64) x.ends.ports, .v (.int .i64 x.depth)]
abbrev DuctLast.av (x : DuctLast) : AV := .agg [.v (.int .i64 x.ends.stage), .v (.int .i64 x.ends.words), .sl (.i .i64) x.ends.ports]
abbrev Leaf.av (x : Leaf) : AV := .agg [.v (.int .i64 x.page), .v (.int .i64 x.frame), .v (.int .i64 x.rights)]
abbrev LockChain.av (x : LockChain) : AV := .agg [.sl (.i .i64) x.locks, .v (.int .i64 x.held), .v (.bool x.asked), .sl (.i .u32) x.tickets]
abbrev BarrierView.av (x : BarrierView) : AV := .agg [.v (.int .i64 x.come), .v (.int .i64 x.epoch)]
abbrev QueueForm.av (x : QueueForm) : AV := .agg [.v (.int .i64 x.words), .v (.int .i64 x.depth)]
abbrev QueueRow.av (x : QueueRow) : AV := .agg [.v (.int .u32 x.first), .v (.int .u32 x.lost), .sl (.sl (.i .u32)) x.messages]
abbrev HealthCare.av (x : HealthCare) : AV := .agg [.clo x.again, .clo x.begin]
abbrev HealthWard.av (x : HealthWard) : AV := .agg [.v (.int .i64 x.place.lock), .v (.int .i64 x.place.save), .v (.int .i64 x.place.state), .v (.int .i64 x.place.root), .sl (.i .i64) x.place.tables, .v (.int .u32 x.entry), .v (.int .u32 x.most), .v (.int .u32 x.outs), .clo x.care.again, .clo x.care.begin]
abbrev HealthWards.av (x : HealthWards) : AV := .agg [.v (.int .i64 x.frames), .sl .sHealthWard x.wards]

end Go.Proofs.YtmgofekgjehegaaGreatDoor
