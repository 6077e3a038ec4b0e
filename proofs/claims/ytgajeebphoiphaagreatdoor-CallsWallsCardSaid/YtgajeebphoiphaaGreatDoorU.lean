import Derived.WalkKit
import Derived.Below
import Derived.RowKit3
set_option linter.unusedVariables false
set_option linter.unusedSimpArgs false
noncomputable section
namespace Go.Proofs.YtgajeebphoiphaaGreatDoor
@[ext] structure zam where
 partition:Int
 usable:Int
 slack:Int
 deriving Inhabited,DecidableEq
@[ext] structure Region where
 page:Int
 pages:Int
 frame:Int
 rights:Int
 deriving Inhabited,DecidableEq
@[ext] structure zb9 where
 channel:Int
 source:Bool
 deriving Inhabited,DecidableEq
@[ext] structure zf where
 name:ByteArray
 entry:Int
 action:Int
 restarts:Int
 inputs:Int
 outputs:Int
 regions:(List Region)
 ports:(List zb9)
 deriving Inhabited,DecidableEq
@[ext] structure zI where
 kind:Int
 words:Int
 depth:Int
 deriving Inhabited,DecidableEq
@[ext] structure za where
 frames:Int
 major:Int
 kernel:Int
 room:Int
 cores:(List (List zam))
 partitions:(List zf)
 channels:(List zI)
 deriving Inhabited,DecidableEq
@[ext] structure z6 where
 partition:Int
 epoch:Int
 words:(List Int)
 deriving Inhabited,DecidableEq
@[ext] structure zo where
 config:za
 programs:(List (List Int))
 feeds:(List z6)
 deriving Inhabited,DecidableEq
@[ext] structure za6 where
 l:(List Int)
 want:(List Int)
 one:(List Int)
 many:(List Int)
 deriving Inhabited,DecidableEq
@[ext] structure zav where
 ints:(List za6)
 deriving Inhabited,DecidableEq
@[ext] structure zj where
 lock:Int
 save:Int
 state:Int
 root:Int
 tables:(List Int)
 deriving Inhabited,DecidableEq
@[ext] structure zaW where
 partition:Int
 port:Int
 at_:Int
 deriving Inhabited,DecidableEq
@[ext] structure zE where
 lock:Int
 stage:Int
 partition:Int
 port:Int
 dests:(List zaW)
 deriving Inhabited,DecidableEq
@[ext] structure zaQ where
 barrier:Int
 partitions:(List zj)
 channels:(List zE)
 end_ : Int
 deriving Inhabited,DecidableEq
@[ext] structure zH where
 c:za
 lay:zaQ
 deriving Inhabited,DecidableEq
@[ext] structure zR where
 partition:Int
 epoch:Int
 deriving Inhabited,DecidableEq
@[ext] structure zT where
 frames:Int
 outs:(List Int)
 at_:(List Int)
 feeds:(List (zR × (List Int)))
 deriving Inhabited,DecidableEq
@[ext] structure zay where
 again:Unit
 begin:Unit
 deriving Inhabited,DecidableEq
@[ext] structure zX where
 place:zj
 entry:Int
 most:Int
 outs:Int
 care:zay
 deriving Inhabited,DecidableEq
@[ext] structure zaf where
 frames:Int
 wards:(List zX)
 deriving Inhabited,DecidableEq
@[ext] structure zq where
 frames:Int
 lay:zaQ
 ducts:(Option zH)
 devices:(Option zT)
 wards:(Option zaf)
 deriving Inhabited,DecidableEq
@[ext] structure zaS where
 c:za
 l:zaQ
 deriving Inhabited,DecidableEq
@[ext] structure zaw where
 c:za
 l:zaQ
 f:(List z6)
 deriving Inhabited,DecidableEq
@[ext] structure zaT where
 c:za
 l:zaQ
 deriving Inhabited,DecidableEq
@[ext] structure zaU where
 c:za
 l:zaQ
 ducts:(Option zaS)
 devices:(Option zaw)
 wards:(Option zaT)
 deriving Inhabited,DecidableEq
@[ext] structure ze where
 words:(List Int)
 deriving Inhabited,DecidableEq
@[ext] structure zaD where
 w:(List Int)
 deriving Inhabited,DecidableEq
@[ext] structure zQ where
 c:za
 s:(Option zq)
 r:(Option zaU)
 m:(Option ze)
 n:(Option zaD)
 p:(Option ze)
 q:(Option zaD)
 kept:zav
 deriving Inhabited,DecidableEq
@[ext] structure zp where
 kind:Int
 p:Int
 epoch:Int
 call:Int
 a:Int
 r1:Int
 r2:Int
 r3:Int
 w:Int
 list:(List Int)
 deriving Inhabited,DecidableEq
@[ext] structure zZ where
 e0:Int
 e1:Int
 e2:Int
 e3:Int
 e4:Int
 e5:Int
 e6:Int
 e7:Int
 e8:Int
 e9:Int
 e10:Int
 e11:Int
 e12:Int
 e13:Int
 e14:Int
 e15:Int
 deriving Inhabited,DecidableEq
@[ext] structure zB where
 regs:zZ
 pC:Int
 deriving Inhabited,DecidableEq
@[ext] structure zah where
 calls:(Option zq)
 m:(Option ze)
 p:Int
 epoch:Int
 x:zB
 deriving Inhabited,DecidableEq
@[ext] structure zaM where
 one:Int
 two:Int
 three:Int
 deriving Inhabited,DecidableEq
@[ext] structure zbx where
 kind:Int
 index:Int
 port:Int
 deriving Inhabited,DecidableEq
@[ext] structure zb2 where
 staged:(List (List Int))
 held:(List (List Int))
 deriving Inhabited,DecidableEq
@[ext] structure zaY where
 first:Int
 second:Int
 deriving Inhabited,DecidableEq
@[ext] structure zk where
 at_:Int
 size:Int
 owner:zbx
 deriving Inhabited,DecidableEq
@[ext] structure zx where
 e:Int
 where_:zaY
 deriving Inhabited,DecidableEq
@[ext] structure LayoutEnd where
 partition:Int
 port:Int
 deriving Inhabited,DecidableEq
@[ext] structure zds where
 stage:Int
 words:Int
 ports:(List Int)
 deriving Inhabited,DecidableEq
@[ext] structure zbw where
 ends : zds
 depth:Int
 deriving Inhabited,DecidableEq
@[ext] structure zbb where
 ends : zds
 deriving Inhabited,DecidableEq
@[ext] structure zlh where
 page:Int
 frame:Int
 rights:Int
 deriving Inhabited,DecidableEq
@[ext] structure zy where
 words:Int
 depth:Int
 deriving Inhabited,DecidableEq
@[ext] structure zU where
 first:Int
 lost:Int
 messages:(List (List Int))
 deriving Inhabited,DecidableEq
inductive Clo where
 | none
 | c113 (x0:za)
 | c116 (x0:za)
 | c117 (x0:za)
 | c118 (x0:za)
 | c119 (x0:za)
 | c120 (x0:za) (x1:Int)
 | c122 (x0:za) (x1:Int)
 | c124 (x0:za) (x1:Int)
 | c126 (x0:za)
 deriving Inhabited,DecidableEq
inductive Ty where
 | i (k:IntKind) | b | s | f | sl (t:Ty) | p (t:Ty) | m (k v:Ty) | u
 | sWindow
 | sRegion
 | sPort
 | sPartition
 | sChannel
 | sConfig
 | sFeed
 | sBulkheadlaw25Start
 | sBulkheadlaw25KeptInts
 | sBulkheadlaw25Book
 | sPartitionPlace
 | sDestPlace
 | sChannelPlace
 | sLayout
 | sDuctDucts
 | sDeviceWhen
 | sDeviceDevices
 | sHealthCare
 | sHealthWard
 | sHealthWards
 | sCallsCalls
 | sBulkheadref21Ducts
 | sBulkheadref22Devices
 | sBulkheadref23Wards
 | sBulkheadref25Calls
 | sMemMemory
 | sBulkheadref05Memory
 | sBulkheadlaw25World
 | sBulkheadlaw25Op
 | sArr16Intu32
 | sContext
 | sCallsWork
 | sCallsTold
 | sOwner
 | sBulkheadlaw25Line
 | sWhere
 | sBulkheadref15Piece
 | sAdmitFound
 | sLayoutEnd
 | sDuctEnds
 | sDuctRow
 | sDuctLast
 | sLeaf
 | sQueueForm
 | sQueueRow
 deriving DecidableEq
def Ty.T:Ty->Type
 | .i _=>Int | .b=>Bool | .s=>ByteArray | .f=>Clo | .sl t=>List t.T | .p t=>Option t.T | .m k v=>List (k.T × v.T) | .u=>Unit
 | .sWindow=>zam
 | .sRegion=>Region
 | .sPort=>zb9
 | .sPartition=>zf
 | .sChannel=>zI
 | .sConfig=>za
 | .sFeed=>z6
 | .sBulkheadlaw25Start=>zo
 | .sBulkheadlaw25KeptInts=>za6
 | .sBulkheadlaw25Book=>zav
 | .sPartitionPlace=>zj
 | .sDestPlace=>zaW
 | .sChannelPlace=>zE
 | .sLayout=>zaQ
 | .sDuctDucts=>zH
 | .sDeviceWhen=>zR
 | .sDeviceDevices=>zT
 | .sHealthCare=>zay
 | .sHealthWard=>zX
 | .sHealthWards=>zaf
 | .sCallsCalls=>zq
 | .sBulkheadref21Ducts=>zaS
 | .sBulkheadref22Devices=>zaw
 | .sBulkheadref23Wards=>zaT
 | .sBulkheadref25Calls=>zaU
 | .sMemMemory=>ze
 | .sBulkheadref05Memory=>zaD
 | .sBulkheadlaw25World=>zQ
 | .sBulkheadlaw25Op=>zp
 | .sArr16Intu32=>zZ
 | .sContext=>zB
 | .sCallsWork=>zah
 | .sCallsTold=>zaM
 | .sOwner=>zbx
 | .sBulkheadlaw25Line=>zb2
 | .sWhere=>zaY
 | .sBulkheadref15Piece=>zk
 | .sAdmitFound=>zx
 | .sLayoutEnd=>LayoutEnd
 | .sDuctEnds=>zds
 | .sDuctRow=>zbw
 | .sDuctLast=>zbb
 | .sLeaf=>zlh
 | .sQueueForm=>zy
 | .sQueueRow=>zU
instance:(t:Ty)->Inhabited t.T
 | .i _=>⟨(0:Int)⟩ | .b=>⟨false⟩ | .s=>⟨ByteArray.empty⟩ | .f=>⟨Clo.none⟩ | .sl t=>⟨([]:List t.T)⟩ | .p t=>⟨(none:Option t.T)⟩ | .m k v=>⟨([]:List (k.T × v.T))⟩ | .u=>⟨()⟩
 | .sWindow=>⟨(default:zam)⟩
 | .sRegion=>⟨(default:Region)⟩
 | .sPort=>⟨(default:zb9)⟩
 | .sPartition=>⟨(default:zf)⟩
 | .sChannel=>⟨(default:zI)⟩
 | .sConfig=>⟨(default:za)⟩
 | .sFeed=>⟨(default:z6)⟩
 | .sBulkheadlaw25Start=>⟨(default:zo)⟩
 | .sBulkheadlaw25KeptInts=>⟨(default:za6)⟩
 | .sBulkheadlaw25Book=>⟨(default:zav)⟩
 | .sPartitionPlace=>⟨(default:zj)⟩
 | .sDestPlace=>⟨(default:zaW)⟩
 | .sChannelPlace=>⟨(default:zE)⟩
 | .sLayout=>⟨(default:zaQ)⟩
 | .sDuctDucts=>⟨(default:zH)⟩
 | .sDeviceWhen=>⟨(default:zR)⟩
 | .sDeviceDevices=>⟨(default:zT)⟩
 | .sHealthCare=>⟨(default:zay)⟩
 | .sHealthWard=>⟨(default:zX)⟩
 | .sHealthWards=>⟨(default:zaf)⟩
 | .sCallsCalls=>⟨(default:zq)⟩
 | .sBulkheadref21Ducts=>⟨(default:zaS)⟩
 | .sBulkheadref22Devices=>⟨(default:zaw)⟩
 | .sBulkheadref23Wards=>⟨(default:zaT)⟩
 | .sBulkheadref25Calls=>⟨(default:zaU)⟩
 | .sMemMemory=>⟨(default:ze)⟩
 | .sBulkheadref05Memory=>⟨(default:zaD)⟩
 | .sBulkheadlaw25World=>⟨(default:zQ)⟩
 | .sBulkheadlaw25Op=>⟨(default:zp)⟩
 | .sArr16Intu32=>⟨(default:zZ)⟩
 | .sContext=>⟨(default:zB)⟩
 | .sCallsWork=>⟨(default:zah)⟩
 | .sCallsTold=>⟨(default:zaM)⟩
 | .sOwner=>⟨(default:zbx)⟩
 | .sBulkheadlaw25Line=>⟨(default:zb2)⟩
 | .sWhere=>⟨(default:zaY)⟩
 | .sBulkheadref15Piece=>⟨(default:zk)⟩
 | .sAdmitFound=>⟨(default:zx)⟩
 | .sLayoutEnd=>⟨(default:LayoutEnd)⟩
 | .sDuctEnds=>⟨(default:zds)⟩
 | .sDuctRow=>⟨(default:zbw)⟩
 | .sDuctLast=>⟨(default:zbb)⟩
 | .sLeaf=>⟨(default:zlh)⟩
 | .sQueueForm=>⟨(default:zy)⟩
 | .sQueueRow=>⟨(default:zU)⟩
inductive AV where
 | undef
 | v (x:Value)
 | agg (cs:List AV)
 | tup (vs:List AV)
 | sl (t:Ty) (xs:List t.T)
 | op (t:Ty) (x:Option t.T)
 | el (t:Ty) (xs:List t.T) (i off:Nat)
 | ref (b off:Nat)
 | own (b:Nat)
 | oel (b sz i off:Nat)
 | rex (b o0:Nat) (t:Ty) (m i d:Nat)
 | vw (b sz o n:Nat)
 | fn (f:Fn) (first cap:List AV)
 | clo (c:Clo)
 | ifc (t:TypeId) (x:AV)
 | mp (k v:Ty) (es:List (k.T × v.T))
 | om (b:Nat)
 | any
def Ty.enc:(t:Ty)->t.T->List AV
 | .i k,x=>[.v (.int k x)] | .b,x=>[.v (.bool x)] | .s,x=>[.v (.string x)] | .f,x=>[.clo x] | .sl t,x=>[.sl t x] | .p t,x=>[.op t x] | .m k v,x=>[.mp k v x] | .u,_=>[.any]
 | .sWindow,x=>[.v (.int .i64 x.partition),.v (.int .i64 x.usable),.v (.int .i64 x.slack)]
 | .sRegion,x=>[.v (.int .i64 x.page),.v (.int .i64 x.pages),.v (.int .i64 x.frame),.v (.int .i64 x.rights)]
 | .sPort,x=>[.v (.int .i64 x.channel),.v (.bool x.source)]
 | .sPartition,x=>[.v (.string x.name),.v (.int .i64 x.entry),.v (.int .i64 x.action),.v (.int .i64 x.restarts),.v (.int .i64 x.inputs),.v (.int .i64 x.outputs),.sl .sRegion x.regions,.sl .sPort x.ports]
 | .sChannel,x=>[.v (.int .i64 x.kind),.v (.int .i64 x.words),.v (.int .i64 x.depth)]
 | .sConfig,x=>[.v (.int .i64 x.frames),.v (.int .i64 x.major),.v (.int .i64 x.kernel),.v (.int .i64 x.room),.sl (.sl .sWindow) x.cores,.sl .sPartition x.partitions,.sl .sChannel x.channels]
 | .sFeed,x=>[.v (.int .i64 x.partition),.v (.int .i64 x.epoch),.sl (.i .u32) x.words]
 | .sBulkheadlaw25Start,x=>[.v (.int .i64 x.config.frames),.v (.int .i64 x.config.major),.v (.int .i64 x.config.kernel),.v (.int .i64 x.config.room),.sl (.sl .sWindow) x.config.cores,.sl .sPartition x.config.partitions,.sl .sChannel x.config.channels,.sl (.sl (.i .u32)) x.programs,.sl .sFeed x.feeds]
 | .sBulkheadlaw25KeptInts,x=>[.sl (.i .i64) x.l,.sl (.i .i64) x.want,.sl (.i .i64) x.one,.sl (.i .i64) x.many]
 | .sBulkheadlaw25Book,x=>[.sl .sBulkheadlaw25KeptInts x.ints]
 | .sPartitionPlace,x=>[.v (.int .i64 x.lock),.v (.int .i64 x.save),.v (.int .i64 x.state),.v (.int .i64 x.root),.sl (.i .i64) x.tables]
 | .sDestPlace,x=>[.v (.int .i64 x.partition),.v (.int .i64 x.port),.v (.int .i64 x.at_)]
 | .sChannelPlace,x=>[.v (.int .i64 x.lock),.v (.int .i64 x.stage),.v (.int .i64 x.partition),.v (.int .i64 x.port),.sl .sDestPlace x.dests]
 | .sLayout,x=>[.v (.int .i64 x.barrier),.sl .sPartitionPlace x.partitions,.sl .sChannelPlace x.channels,.v (.int .i64 x.end_)]
 | .sDuctDucts,x=>[.v (.int .i64 x.c.frames),.v (.int .i64 x.c.major),.v (.int .i64 x.c.kernel),.v (.int .i64 x.c.room),.sl (.sl .sWindow) x.c.cores,.sl .sPartition x.c.partitions,.sl .sChannel x.c.channels,.v (.int .i64 x.lay.barrier),.sl .sPartitionPlace x.lay.partitions,.sl .sChannelPlace x.lay.channels,.v (.int .i64 x.lay.end_)]
 | .sDeviceWhen,x=>[.v (.int .i64 x.partition),.v (.int .i64 x.epoch)]
 | .sDeviceDevices,x=>[.v (.int .i64 x.frames),.sl (.i .i64) x.outs,.sl (.i .i64) x.at_,.mp .sDeviceWhen (.sl (.i .u32)) x.feeds]
 | .sHealthCare,x=>[.any,.any]
 | .sHealthWard,x=>[.v (.int .i64 x.place.lock),.v (.int .i64 x.place.save),.v (.int .i64 x.place.state),.v (.int .i64 x.place.root),.sl (.i .i64) x.place.tables,.v (.int .u32 x.entry),.v (.int .u32 x.most),.v (.int .u32 x.outs),.any,.any]
 | .sHealthWards,x=>[.v (.int .i64 x.frames),.sl .sHealthWard x.wards]
 | .sCallsCalls,x=>[.v (.int .i64 x.frames),.v (.int .i64 x.lay.barrier),.sl .sPartitionPlace x.lay.partitions,.sl .sChannelPlace x.lay.channels,.v (.int .i64 x.lay.end_),.op .sDuctDucts x.ducts,.op .sDeviceDevices x.devices,.op .sHealthWards x.wards]
 | .sBulkheadref21Ducts,x=>[.v (.int .i64 x.c.frames),.v (.int .i64 x.c.major),.v (.int .i64 x.c.kernel),.v (.int .i64 x.c.room),.sl (.sl .sWindow) x.c.cores,.sl .sPartition x.c.partitions,.sl .sChannel x.c.channels,.v (.int .i64 x.l.barrier),.sl .sPartitionPlace x.l.partitions,.sl .sChannelPlace x.l.channels,.v (.int .i64 x.l.end_)]
 | .sBulkheadref22Devices,x=>[.v (.int .i64 x.c.frames),.v (.int .i64 x.c.major),.v (.int .i64 x.c.kernel),.v (.int .i64 x.c.room),.sl (.sl .sWindow) x.c.cores,.sl .sPartition x.c.partitions,.sl .sChannel x.c.channels,.v (.int .i64 x.l.barrier),.sl .sPartitionPlace x.l.partitions,.sl .sChannelPlace x.l.channels,.v (.int .i64 x.l.end_),.sl .sFeed x.f]
 | .sBulkheadref23Wards,x=>[.v (.int .i64 x.c.frames),.v (.int .i64 x.c.major),.v (.int .i64 x.c.kernel),.v (.int .i64 x.c.room),.sl (.sl .sWindow) x.c.cores,.sl .sPartition x.c.partitions,.sl .sChannel x.c.channels,.v (.int .i64 x.l.barrier),.sl .sPartitionPlace x.l.partitions,.sl .sChannelPlace x.l.channels,.v (.int .i64 x.l.end_)]
 | .sBulkheadref25Calls,x=>[.v (.int .i64 x.c.frames),.v (.int .i64 x.c.major),.v (.int .i64 x.c.kernel),.v (.int .i64 x.c.room),.sl (.sl .sWindow) x.c.cores,.sl .sPartition x.c.partitions,.sl .sChannel x.c.channels,.v (.int .i64 x.l.barrier),.sl .sPartitionPlace x.l.partitions,.sl .sChannelPlace x.l.channels,.v (.int .i64 x.l.end_),.op .sBulkheadref21Ducts x.ducts,.op .sBulkheadref22Devices x.devices,.op .sBulkheadref23Wards x.wards]
 | .sMemMemory,x=>[.sl (.i .u32) x.words]
 | .sBulkheadref05Memory,x=>[.sl (.i .u32) x.w]
 | .sBulkheadlaw25World,x=>[.v (.int .i64 x.c.frames),.v (.int .i64 x.c.major),.v (.int .i64 x.c.kernel),.v (.int .i64 x.c.room),.sl (.sl .sWindow) x.c.cores,.sl .sPartition x.c.partitions,.sl .sChannel x.c.channels,.op .sCallsCalls x.s,.op .sBulkheadref25Calls x.r,.op .sMemMemory x.m,.op .sBulkheadref05Memory x.n,.op .sMemMemory x.p,.op .sBulkheadref05Memory x.q,.sl .sBulkheadlaw25KeptInts x.kept.ints]
 | .sBulkheadlaw25Op,x=>[.v (.int .i64 x.kind),.v (.int .i64 x.p),.v (.int .i64 x.epoch),.v (.int .i64 x.call),.v (.int .i64 x.a),.v (.int .u32 x.r1),.v (.int .u32 x.r2),.v (.int .u32 x.r3),.v (.int .u32 x.w),.sl (.i .i64) x.list]
 | .sArr16Intu32,x=>[.v (.int .u32 x.e0),.v (.int .u32 x.e1),.v (.int .u32 x.e2),.v (.int .u32 x.e3),.v (.int .u32 x.e4),.v (.int .u32 x.e5),.v (.int .u32 x.e6),.v (.int .u32 x.e7),.v (.int .u32 x.e8),.v (.int .u32 x.e9),.v (.int .u32 x.e10),.v (.int .u32 x.e11),.v (.int .u32 x.e12),.v (.int .u32 x.e13),.v (.int .u32 x.e14),.v (.int .u32 x.e15)]
 | .sContext,x=>[.v (.int .u32 x.regs.e0),.v (.int .u32 x.regs.e1),.v (.int .u32 x.regs.e2),.v (.int .u32 x.regs.e3),.v (.int .u32 x.regs.e4),.v (.int .u32 x.regs.e5),.v (.int .u32 x.regs.e6),.v (.int .u32 x.regs.e7),.v (.int .u32 x.regs.e8),.v (.int .u32 x.regs.e9),.v (.int .u32 x.regs.e10),.v (.int .u32 x.regs.e11),.v (.int .u32 x.regs.e12),.v (.int .u32 x.regs.e13),.v (.int .u32 x.regs.e14),.v (.int .u32 x.regs.e15),.v (.int .u32 x.pC)]
 | .sCallsWork,x=>[.op .sCallsCalls x.calls,.op .sMemMemory x.m,.v (.int .i64 x.p),.v (.int .i64 x.epoch),.v (.int .u32 x.x.regs.e0),.v (.int .u32 x.x.regs.e1),.v (.int .u32 x.x.regs.e2),.v (.int .u32 x.x.regs.e3),.v (.int .u32 x.x.regs.e4),.v (.int .u32 x.x.regs.e5),.v (.int .u32 x.x.regs.e6),.v (.int .u32 x.x.regs.e7),.v (.int .u32 x.x.regs.e8),.v (.int .u32 x.x.regs.e9),.v (.int .u32 x.x.regs.e10),.v (.int .u32 x.x.regs.e11),.v (.int .u32 x.x.regs.e12),.v (.int .u32 x.x.regs.e13),.v (.int .u32 x.x.regs.e14),.v (.int .u32 x.x.regs.e15),.v (.int .u32 x.x.pC)]
 | .sCallsTold,x=>[.v (.int .u32 x.one),.v (.int .u32 x.two),.v (.int .u32 x.three)]
 | .sOwner,x=>[.v (.int .i64 x.kind),.v (.int .i64 x.index),.v (.int .i64 x.port)]
 | .sBulkheadlaw25Line,x=>[.sl (.sl (.i .u32)) x.staged,.sl (.sl (.i .u32)) x.held]
 | .sWhere,x=>[.v (.int .i64 x.first),.v (.int .i64 x.second)]
 | .sBulkheadref15Piece,x=>[.v (.int .i64 x.at_),.v (.int .i64 x.size),.v (.int .i64 x.owner.kind),.v (.int .i64 x.owner.index),.v (.int .i64 x.owner.port)]
 | .sAdmitFound,x=>[.v (.int .i64 x.e),.v (.int .i64 x.where_.first),.v (.int .i64 x.where_.second)]
 | .sLayoutEnd,x=>[.v (.int .i64 x.partition),.v (.int .i64 x.port)]
 | .sDuctEnds,x=>[.v (.int .i64 x.stage),.v (.int .i64 x.words),.sl (.i .i64) x.ports]
 | .sDuctRow,x=>[.v (.int .i64 x.ends.stage),.v (.int .i64 x.ends.words),.sl (.i .i64) x.ends.ports,.v (.int .i64 x.depth)]
 | .sDuctLast,x=>[.v (.int .i64 x.ends.stage),.v (.int .i64 x.ends.words),.sl (.i .i64) x.ends.ports]
 | .sLeaf,x=>[.v (.int .i64 x.page),.v (.int .i64 x.frame),.v (.int .i64 x.rights)]
 | .sQueueForm,x=>[.v (.int .i64 x.words),.v (.int .i64 x.depth)]
 | .sQueueRow,x=>[.v (.int .u32 x.first),.v (.int .u32 x.lost),.sl (.sl (.i .u32)) x.messages]
def Ty.sz:Ty->Nat
 | .i _=>1 | .b=>1 | .s=>1 | .f=>1 | .sl _=>1 | .p _=>1 | .m _ _=>1 | .u=>1
 | .sWindow=>3
 | .sRegion=>4
 | .sPort=>2
 | .sPartition=>8
 | .sChannel=>3
 | .sConfig=>7
 | .sFeed=>3
 | .sBulkheadlaw25Start=>9
 | .sBulkheadlaw25KeptInts=>4
 | .sBulkheadlaw25Book=>1
 | .sPartitionPlace=>5
 | .sDestPlace=>3
 | .sChannelPlace=>5
 | .sLayout=>4
 | .sDuctDucts=>11
 | .sDeviceWhen=>2
 | .sDeviceDevices=>4
 | .sHealthCare=>2
 | .sHealthWard=>10
 | .sHealthWards=>2
 | .sCallsCalls=>8
 | .sBulkheadref21Ducts=>11
 | .sBulkheadref22Devices=>12
 | .sBulkheadref23Wards=>11
 | .sBulkheadref25Calls=>14
 | .sMemMemory=>1
 | .sBulkheadref05Memory=>1
 | .sBulkheadlaw25World=>14
 | .sBulkheadlaw25Op=>10
 | .sArr16Intu32=>16
 | .sContext=>17
 | .sCallsWork=>21
 | .sCallsTold=>3
 | .sOwner=>3
 | .sBulkheadlaw25Line=>2
 | .sWhere=>2
 | .sBulkheadref15Piece=>5
 | .sAdmitFound=>3
 | .sLayoutEnd=>2
 | .sDuctEnds=>3
 | .sDuctRow=>4
 | .sDuctLast=>3
 | .sLeaf=>3
 | .sQueueForm=>2
 | .sQueueRow=>3
def Ty.by:Ty->Nat
 | .i k=>(match k with | .i8=>1 | .u8=>1 | .i16=>2 | .u16=>2 | .i32=>4 | .u32=>4 | _=>8) | .b=>1 | .s=>16 | .f=>8 | .sl _=>24 | .p _=>8 | .m _ _=>8 | .u=>8
 | .sWindow=>24
 | .sRegion=>32
 | .sPort=>16
 | .sPartition=>104
 | .sChannel=>24
 | .sConfig=>104
 | .sFeed=>40
 | .sBulkheadlaw25Start=>152
 | .sBulkheadlaw25KeptInts=>96
 | .sBulkheadlaw25Book=>24
 | .sPartitionPlace=>56
 | .sDestPlace=>24
 | .sChannelPlace=>56
 | .sLayout=>64
 | .sDuctDucts=>168
 | .sDeviceWhen=>16
 | .sDeviceDevices=>64
 | .sHealthCare=>16
 | .sHealthWard=>88
 | .sHealthWards=>32
 | .sCallsCalls=>96
 | .sBulkheadref21Ducts=>168
 | .sBulkheadref22Devices=>192
 | .sBulkheadref23Wards=>168
 | .sBulkheadref25Calls=>192
 | .sMemMemory=>24
 | .sBulkheadref05Memory=>24
 | .sBulkheadlaw25World=>176
 | .sBulkheadlaw25Op=>80
 | .sArr16Intu32=>64
 | .sContext=>68
 | .sCallsWork=>104
 | .sCallsTold=>12
 | .sOwner=>24
 | .sBulkheadlaw25Line=>48
 | .sWhere=>16
 | .sBulkheadref15Piece=>40
 | .sAdmitFound=>24
 | .sLayoutEnd=>16
 | .sDuctEnds=>40
 | .sDuctRow=>48
 | .sDuctLast=>40
 | .sLeaf=>24
 | .sQueueForm=>16
 | .sQueueRow=>32
def Ty.flat:Ty->Bool
 | .i _=>true | .b=>true | .s=>true | .f=>false | .sl _=>false | .p _=>false | .m _ _=>false | .u=>false
 | .sWindow=>true
 | .sRegion=>true
 | .sPort=>true
 | .sPartition=>false
 | .sChannel=>true
 | .sConfig=>false
 | .sFeed=>false
 | .sBulkheadlaw25Start=>false
 | .sBulkheadlaw25KeptInts=>false
 | .sBulkheadlaw25Book=>false
 | .sPartitionPlace=>false
 | .sDestPlace=>true
 | .sChannelPlace=>false
 | .sLayout=>false
 | .sDuctDucts=>false
 | .sDeviceWhen=>true
 | .sDeviceDevices=>false
 | .sHealthCare=>false
 | .sHealthWard=>false
 | .sHealthWards=>false
 | .sCallsCalls=>false
 | .sBulkheadref21Ducts=>false
 | .sBulkheadref22Devices=>false
 | .sBulkheadref23Wards=>false
 | .sBulkheadref25Calls=>false
 | .sMemMemory=>false
 | .sBulkheadref05Memory=>false
 | .sBulkheadlaw25World=>false
 | .sBulkheadlaw25Op=>false
 | .sArr16Intu32=>true
 | .sContext=>true
 | .sCallsWork=>false
 | .sCallsTold=>true
 | .sOwner=>true
 | .sBulkheadlaw25Line=>false
 | .sWhere=>true
 | .sBulkheadref15Piece=>true
 | .sAdmitFound=>true
 | .sLayoutEnd=>true
 | .sDuctEnds=>false
 | .sDuctRow=>false
 | .sDuctLast=>false
 | .sLeaf=>true
 | .sQueueForm=>true
 | .sQueueRow=>false
def Clo.out:Clo->AV
 | .none=>.v .nilFunc
 | .c113 x0=>.fn (.func 113) [] [.op .sConfig (some x0)]
 | .c116 x0=>.fn (.func 116) [] [.op .sConfig (some x0)]
 | .c117 x0=>.fn (.func 117) [] [.op .sConfig (some x0)]
 | .c118 x0=>.fn (.func 118) [] [.op .sConfig (some x0)]
 | .c119 x0=>.fn (.func 119) [] [.op .sConfig (some x0)]
 | .c120 x0 x1=>.fn (.func 120) [] [.op .sConfig (some x0),.op (.i .i64) (some x1)]
 | .c122 x0 x1=>.fn (.func 122) [] [.op .sConfig (some x0),.op (.i .i64) (some x1)]
 | .c124 x0 x1=>.fn (.func 124) [] [.op .sConfig (some x0),.op (.i .i64) (some x1)]
 | .c126 x0=>.fn (.func 126) [] [.op .sConfig (some x0)]
def zaF(t:Ty):AV->Option (List t.T)
 | .sl t' xs=>match decEq t' t with | isTrue h=>some (h ▸ xs) | isFalse _=>none
 | .v (.slice _ n _)=>match n with | 0=>some [] | _+1=>none
 | _=>none
def zcs(t:Ty):AV->Option (Option t.T)
 | .op t' x=>match decEq t' t with | isTrue h=>some (h ▸ x) | isFalse _=>none
 | .el t' xs i 0=>match decEq t' t with | isTrue h=>some (some (h ▸ (xs.getD i default))) | isFalse _=>none
 | .v (.pointer none)=>some none
 | _=>none
def zgi(k v k' v':Ty)(es:List (k'.T × v'.T)):Option (List (k.T × v.T)):=match decEq k' k,decEq v' v with | isTrue h,isTrue h'=>some (h ▸ h' ▸ es) | _,_=>none
def zAK(k v:Ty):AV->Option (List (k.T × v.T))
 | .mp k' v' es=>zgi k v k' v' es
 | .v (.map none)=>some []
 | _=>none
def zq1:AV->Option Unit
 | .fn _ _ _=>some ()
 | .clo _=>some ()
 | .any=>some ()
 | .v .nilFunc=>some ()
 | _=>none
def Ty.isS:Ty->Bool
 | .i _=>false | .b=>false | .s=>false | .f=>false | .sl _=>false | .p _=>false | .m _ _=>false | .u=>false
 | _=>true
def ztv:List AV->Option Clo
 | [z0]=>(match zcs .sConfig z0 with | some (some z0)=>some (.c113 z0) | _=>none)
 | _=>none
def ztw:List AV->Option Clo
 | [z0]=>(match zcs .sConfig z0 with | some (some z0)=>some (.c116 z0) | _=>none)
 | _=>none
def ztx:List AV->Option Clo
 | [z0]=>(match zcs .sConfig z0 with | some (some z0)=>some (.c117 z0) | _=>none)
 | _=>none
def zty:List AV->Option Clo
 | [z0]=>(match zcs .sConfig z0 with | some (some z0)=>some (.c118 z0) | _=>none)
 | _=>none
def ztz:List AV->Option Clo
 | [z0]=>(match zcs .sConfig z0 with | some (some z0)=>some (.c119 z0) | _=>none)
 | _=>none
def ztA:List AV->Option Clo
 | [z0,z1]=>(match zcs .sConfig z0,zcs (.i .i64) z1 with | some (some z0),some (some z1)=>some (.c120 z0 z1) | _,_=>none)
 | _=>none
def ztB:List AV->Option Clo
 | [z0,z1]=>(match zcs .sConfig z0,zcs (.i .i64) z1 with | some (some z0),some (some z1)=>some (.c122 z0 z1) | _,_=>none)
 | _=>none
def ztC:List AV->Option Clo
 | [z0,z1]=>(match zcs .sConfig z0,zcs (.i .i64) z1 with | some (some z0),some (some z1)=>some (.c124 z0 z1) | _,_=>none)
 | _=>none
def ztD:List AV->Option Clo
 | [z0]=>(match zcs .sConfig z0 with | some (some z0)=>some (.c126 z0) | _=>none)
 | _=>none
def zro:AV->Option Clo
 | .clo c=>some c
 | .fn (.func f) [] cap=>(match Nat.beq f 113 with | true=>ztv cap | false=>(match Nat.beq f 116 with | true=>ztw cap | false=>(match Nat.beq f 117 with | true=>ztx cap | false=>(match Nat.beq f 118 with | true=>zty cap | false=>(match Nat.beq f 119 with | true=>ztz cap | false=>(match Nat.beq f 120 with | true=>ztA cap | false=>(match Nat.beq f 122 with | true=>ztB cap | false=>(match Nat.beq f 124 with | true=>ztC cap | false=>(match Nat.beq f 126 with | true=>ztD cap | false=>none)))))))))
 | .v .nilFunc=>some .none
 | _=>none
def Ty.dec:(t:Ty)->List AV->Option t.T
 | .i k,cs=>(match cs with | [.v (.int k' x)]=>(if k=k' then some x else none) | _=>none:Option Int)
 | .b,cs=>(match cs with | [.v (.bool x)]=>some x | _=>none:Option Bool)
 | .s,cs=>(match cs with | [.v (.string x)]=>some x | _=>none:Option ByteArray)
 | .f,cs=>(match cs with | [x]=>zro x | _=>none:Option Clo)
 | .sl t,cs=>(match cs with | [x]=>zaF t x | _=>none:Option (List t.T))
 | .p t,cs=>(match cs with | [x]=>zcs t x | _=>none:Option (Option t.T))
 | .m k v,cs=>(match cs with | [x]=>zAK k v x | _=>none:Option (List (k.T × v.T)))
 | .u,cs=>(match cs with | [x]=>zq1 x | _=>none:Option Unit)
 | .sWindow,cs=>(match cs with | [.v (.int .i64 y0),.v (.int .i64 y1),.v (.int .i64 y2)]=>(some (⟨y0,y1,y2⟩:zam)) | _=>none:Option zam)
 | .sRegion,cs=>(match cs with | [.v (.int .i64 y0),.v (.int .i64 y1),.v (.int .i64 y2),.v (.int .i64 y3)]=>(some (⟨y0,y1,y2,y3⟩:Region)) | _=>none:Option Region)
 | .sPort,cs=>(match cs with | [.v (.int .i64 y0),.v (.bool y1)]=>(some (⟨y0,y1⟩:zb9)) | _=>none:Option zb9)
 | .sPartition,cs=>(match cs with | [.v (.string y0),.v (.int .i64 y1),.v (.int .i64 y2),.v (.int .i64 y3),.v (.int .i64 y4),.v (.int .i64 y5),y6,y7]=>(match zaF .sRegion y6,zaF .sPort y7 with | some y6,some y7=>some (⟨y0,y1,y2,y3,y4,y5,y6,y7⟩:zf) | _,_=>none) | _=>none:Option zf)
 | .sChannel,cs=>(match cs with | [.v (.int .i64 y0),.v (.int .i64 y1),.v (.int .i64 y2)]=>(some (⟨y0,y1,y2⟩:zI)) | _=>none:Option zI)
 | .sConfig,cs=>(match cs with | [.v (.int .i64 y0),.v (.int .i64 y1),.v (.int .i64 y2),.v (.int .i64 y3),y4,y5,y6]=>(match zaF (.sl .sWindow) y4,zaF .sPartition y5,zaF .sChannel y6 with | some y4,some y5,some y6=>some (⟨y0,y1,y2,y3,y4,y5,y6⟩:za) | _,_,_=>none) | _=>none:Option za)
 | .sFeed,cs=>(match cs with | [.v (.int .i64 y0),.v (.int .i64 y1),y2]=>(match zaF (.i .u32) y2 with | some y2=>some (⟨y0,y1,y2⟩:z6) | _=>none) | _=>none:Option z6)
 | .sBulkheadlaw25Start,cs=>(match cs with | [.v (.int .i64 y0),.v (.int .i64 y1),.v (.int .i64 y2),.v (.int .i64 y3),y4,y5,y6,y7,y8]=>(match zaF (.sl .sWindow) y4,zaF .sPartition y5,zaF .sChannel y6,zaF (.sl (.i .u32)) y7,zaF .sFeed y8 with | some y4,some y5,some y6,some y7,some y8=>some (⟨⟨y0,y1,y2,y3,y4,y5,y6⟩,y7,y8⟩:zo) | _,_,_,_,_=>none) | _=>none:Option zo)
 | .sBulkheadlaw25KeptInts,cs=>(match cs with | [y0,y1,y2,y3]=>(match zaF (.i .i64) y0,zaF (.i .i64) y1,zaF (.i .i64) y2,zaF (.i .i64) y3 with | some y0,some y1,some y2,some y3=>some (⟨y0,y1,y2,y3⟩:za6) | _,_,_,_=>none) | _=>none:Option za6)
 | .sBulkheadlaw25Book,cs=>(match cs with | [y0]=>(match zaF .sBulkheadlaw25KeptInts y0 with | some y0=>some (⟨y0⟩:zav) | _=>none) | _=>none:Option zav)
 | .sPartitionPlace,cs=>(match cs with | [.v (.int .i64 y0),.v (.int .i64 y1),.v (.int .i64 y2),.v (.int .i64 y3),y4]=>(match zaF (.i .i64) y4 with | some y4=>some (⟨y0,y1,y2,y3,y4⟩:zj) | _=>none) | _=>none:Option zj)
 | .sDestPlace,cs=>(match cs with | [.v (.int .i64 y0),.v (.int .i64 y1),.v (.int .i64 y2)]=>(some (⟨y0,y1,y2⟩:zaW)) | _=>none:Option zaW)
 | .sChannelPlace,cs=>(match cs with | [.v (.int .i64 y0),.v (.int .i64 y1),.v (.int .i64 y2),.v (.int .i64 y3),y4]=>(match zaF .sDestPlace y4 with | some y4=>some (⟨y0,y1,y2,y3,y4⟩:zE) | _=>none) | _=>none:Option zE)
 | .sLayout,cs=>(match cs with | [.v (.int .i64 y0),y1,y2,.v (.int .i64 y3)]=>(match zaF .sPartitionPlace y1,zaF .sChannelPlace y2 with | some y1,some y2=>some (⟨y0,y1,y2,y3⟩:zaQ) | _,_=>none) | _=>none:Option zaQ)
 | .sDuctDucts,cs=>(match cs with | [.v (.int .i64 y0),.v (.int .i64 y1),.v (.int .i64 y2),.v (.int .i64 y3),y4,y5,y6,.v (.int .i64 y7),y8,y9,.v (.int .i64 y10)]=>(match zaF (.sl .sWindow) y4,zaF .sPartition y5,zaF .sChannel y6,zaF .sPartitionPlace y8,zaF .sChannelPlace y9 with | some y4,some y5,some y6,some y8,some y9=>some (⟨⟨y0,y1,y2,y3,y4,y5,y6⟩,⟨y7,y8,y9,y10⟩⟩:zH) | _,_,_,_,_=>none) | _=>none:Option zH)
 | .sDeviceWhen,cs=>(match cs with | [.v (.int .i64 y0),.v (.int .i64 y1)]=>(some (⟨y0,y1⟩:zR)) | _=>none:Option zR)
 | .sDeviceDevices,cs=>(match cs with | [.v (.int .i64 y0),y1,y2,y3]=>(match zaF (.i .i64) y1,zaF (.i .i64) y2,zAK .sDeviceWhen (.sl (.i .u32)) y3 with | some y1,some y2,some y3=>some (⟨y0,y1,y2,y3⟩:zT) | _,_,_=>none) | _=>none:Option zT)
 | .sHealthCare,cs=>(match cs with | [y0,y1]=>(match zq1 y0,zq1 y1 with | some y0,some y1=>some (⟨y0,y1⟩:zay) | _,_=>none) | _=>none:Option zay)
 | .sHealthWard,cs=>(match cs with | [.v (.int .i64 y0),.v (.int .i64 y1),.v (.int .i64 y2),.v (.int .i64 y3),y4,.v (.int .u32 y5),.v (.int .u32 y6),.v (.int .u32 y7),y8,y9]=>(match zaF (.i .i64) y4,zq1 y8,zq1 y9 with | some y4,some y8,some y9=>some (⟨⟨y0,y1,y2,y3,y4⟩,y5,y6,y7,⟨y8,y9⟩⟩:zX) | _,_,_=>none) | _=>none:Option zX)
 | .sHealthWards,cs=>(match cs with | [.v (.int .i64 y0),y1]=>(match zaF .sHealthWard y1 with | some y1=>some (⟨y0,y1⟩:zaf) | _=>none) | _=>none:Option zaf)
 | .sCallsCalls,cs=>(match cs with | [.v (.int .i64 y0),.v (.int .i64 y1),y2,y3,.v (.int .i64 y4),y5,y6,y7]=>(match zaF .sPartitionPlace y2,zaF .sChannelPlace y3,zcs .sDuctDucts y5,zcs .sDeviceDevices y6,zcs .sHealthWards y7 with | some y2,some y3,some y5,some y6,some y7=>some (⟨y0,⟨y1,y2,y3,y4⟩,y5,y6,y7⟩:zq) | _,_,_,_,_=>none) | _=>none:Option zq)
 | .sBulkheadref21Ducts,cs=>(match cs with | [.v (.int .i64 y0),.v (.int .i64 y1),.v (.int .i64 y2),.v (.int .i64 y3),y4,y5,y6,.v (.int .i64 y7),y8,y9,.v (.int .i64 y10)]=>(match zaF (.sl .sWindow) y4,zaF .sPartition y5,zaF .sChannel y6,zaF .sPartitionPlace y8,zaF .sChannelPlace y9 with | some y4,some y5,some y6,some y8,some y9=>some (⟨⟨y0,y1,y2,y3,y4,y5,y6⟩,⟨y7,y8,y9,y10⟩⟩:zaS) | _,_,_,_,_=>none) | _=>none:Option zaS)
 | .sBulkheadref22Devices,cs=>(match cs with | [.v (.int .i64 y0),.v (.int .i64 y1),.v (.int .i64 y2),.v (.int .i64 y3),y4,y5,y6,.v (.int .i64 y7),y8,y9,.v (.int .i64 y10),y11]=>(match zaF (.sl .sWindow) y4,zaF .sPartition y5,zaF .sChannel y6,zaF .sPartitionPlace y8,zaF .sChannelPlace y9,zaF .sFeed y11 with | some y4,some y5,some y6,some y8,some y9,some y11=>some (⟨⟨y0,y1,y2,y3,y4,y5,y6⟩,⟨y7,y8,y9,y10⟩,y11⟩:zaw) | _,_,_,_,_,_=>none) | _=>none:Option zaw)
 | .sBulkheadref23Wards,cs=>(match cs with | [.v (.int .i64 y0),.v (.int .i64 y1),.v (.int .i64 y2),.v (.int .i64 y3),y4,y5,y6,.v (.int .i64 y7),y8,y9,.v (.int .i64 y10)]=>(match zaF (.sl .sWindow) y4,zaF .sPartition y5,zaF .sChannel y6,zaF .sPartitionPlace y8,zaF .sChannelPlace y9 with | some y4,some y5,some y6,some y8,some y9=>some (⟨⟨y0,y1,y2,y3,y4,y5,y6⟩,⟨y7,y8,y9,y10⟩⟩:zaT) | _,_,_,_,_=>none) | _=>none:Option zaT)
 | .sBulkheadref25Calls,cs=>(match cs with | [.v (.int .i64 y0),.v (.int .i64 y1),.v (.int .i64 y2),.v (.int .i64 y3),y4,y5,y6,.v (.int .i64 y7),y8,y9,.v (.int .i64 y10),y11,y12,y13]=>(match zaF (.sl .sWindow) y4,zaF .sPartition y5,zaF .sChannel y6,zaF .sPartitionPlace y8,zaF .sChannelPlace y9,zcs .sBulkheadref21Ducts y11,zcs .sBulkheadref22Devices y12,zcs .sBulkheadref23Wards y13 with | some y4,some y5,some y6,some y8,some y9,some y11,some y12,some y13=>some (⟨⟨y0,y1,y2,y3,y4,y5,y6⟩,⟨y7,y8,y9,y10⟩,y11,y12,y13⟩:zaU) | _,_,_,_,_,_,_,_=>none) | _=>none:Option zaU)
 | .sMemMemory,cs=>(match cs with | [y0]=>(match zaF (.i .u32) y0 with | some y0=>some (⟨y0⟩:ze) | _=>none) | _=>none:Option ze)
 | .sBulkheadref05Memory,cs=>(match cs with | [y0]=>(match zaF (.i .u32) y0 with | some y0=>some (⟨y0⟩:zaD) | _=>none) | _=>none:Option zaD)
 | .sBulkheadlaw25World,cs=>(match cs with | [.v (.int .i64 y0),.v (.int .i64 y1),.v (.int .i64 y2),.v (.int .i64 y3),y4,y5,y6,y7,y8,y9,y10,y11,y12,y13]=>(match zaF (.sl .sWindow) y4,zaF .sPartition y5,zaF .sChannel y6,zcs .sCallsCalls y7,zcs .sBulkheadref25Calls y8,zcs .sMemMemory y9,zcs .sBulkheadref05Memory y10,zcs .sMemMemory y11,zcs .sBulkheadref05Memory y12,zaF .sBulkheadlaw25KeptInts y13 with | some y4,some y5,some y6,some y7,some y8,some y9,some y10,some y11,some y12,some y13=>some (⟨⟨y0,y1,y2,y3,y4,y5,y6⟩,y7,y8,y9,y10,y11,y12,⟨y13⟩⟩:zQ) | _,_,_,_,_,_,_,_,_,_=>none) | _=>none:Option zQ)
 | .sBulkheadlaw25Op,cs=>(match cs with | [.v (.int .i64 y0),.v (.int .i64 y1),.v (.int .i64 y2),.v (.int .i64 y3),.v (.int .i64 y4),.v (.int .u32 y5),.v (.int .u32 y6),.v (.int .u32 y7),.v (.int .u32 y8),y9]=>(match zaF (.i .i64) y9 with | some y9=>some (⟨y0,y1,y2,y3,y4,y5,y6,y7,y8,y9⟩:zp) | _=>none) | _=>none:Option zp)
 | .sArr16Intu32,cs=>(match cs with | [.v (.int .u32 y0),.v (.int .u32 y1),.v (.int .u32 y2),.v (.int .u32 y3),.v (.int .u32 y4),.v (.int .u32 y5),.v (.int .u32 y6),.v (.int .u32 y7),.v (.int .u32 y8),.v (.int .u32 y9),.v (.int .u32 y10),.v (.int .u32 y11),.v (.int .u32 y12),.v (.int .u32 y13),.v (.int .u32 y14),.v (.int .u32 y15)]=>(some (⟨y0,y1,y2,y3,y4,y5,y6,y7,y8,y9,y10,y11,y12,y13,y14,y15⟩:zZ)) | _=>none:Option zZ)
 | .sContext,cs=>(match cs with | [.v (.int .u32 y0),.v (.int .u32 y1),.v (.int .u32 y2),.v (.int .u32 y3),.v (.int .u32 y4),.v (.int .u32 y5),.v (.int .u32 y6),.v (.int .u32 y7),.v (.int .u32 y8),.v (.int .u32 y9),.v (.int .u32 y10),.v (.int .u32 y11),.v (.int .u32 y12),.v (.int .u32 y13),.v (.int .u32 y14),.v (.int .u32 y15),.v (.int .u32 y16)]=>(some (⟨⟨y0,y1,y2,y3,y4,y5,y6,y7,y8,y9,y10,y11,y12,y13,y14,y15⟩,y16⟩:zB)) | _=>none:Option zB)
 | .sCallsWork,cs=>(match cs with | [y0,y1,.v (.int .i64 y2),.v (.int .i64 y3),.v (.int .u32 y4),.v (.int .u32 y5),.v (.int .u32 y6),.v (.int .u32 y7),.v (.int .u32 y8),.v (.int .u32 y9),.v (.int .u32 y10),.v (.int .u32 y11),.v (.int .u32 y12),.v (.int .u32 y13),.v (.int .u32 y14),.v (.int .u32 y15),.v (.int .u32 y16),.v (.int .u32 y17),.v (.int .u32 y18),.v (.int .u32 y19),.v (.int .u32 y20)]=>(match zcs .sCallsCalls y0,zcs .sMemMemory y1 with | some y0,some y1=>some (⟨y0,y1,y2,y3,⟨⟨y4,y5,y6,y7,y8,y9,y10,y11,y12,y13,y14,y15,y16,y17,y18,y19⟩,y20⟩⟩:zah) | _,_=>none) | _=>none:Option zah)
 | .sCallsTold,cs=>(match cs with | [.v (.int .u32 y0),.v (.int .u32 y1),.v (.int .u32 y2)]=>(some (⟨y0,y1,y2⟩:zaM)) | _=>none:Option zaM)
 | .sOwner,cs=>(match cs with | [.v (.int .i64 y0),.v (.int .i64 y1),.v (.int .i64 y2)]=>(some (⟨y0,y1,y2⟩:zbx)) | _=>none:Option zbx)
 | .sBulkheadlaw25Line,cs=>(match cs with | [y0,y1]=>(match zaF (.sl (.i .u32)) y0,zaF (.sl (.i .u32)) y1 with | some y0,some y1=>some (⟨y0,y1⟩:zb2) | _,_=>none) | _=>none:Option zb2)
 | .sWhere,cs=>(match cs with | [.v (.int .i64 y0),.v (.int .i64 y1)]=>(some (⟨y0,y1⟩:zaY)) | _=>none:Option zaY)
 | .sBulkheadref15Piece,cs=>(match cs with | [.v (.int .i64 y0),.v (.int .i64 y1),.v (.int .i64 y2),.v (.int .i64 y3),.v (.int .i64 y4)]=>(some (⟨y0,y1,⟨y2,y3,y4⟩⟩:zk)) | _=>none:Option zk)
 | .sAdmitFound,cs=>(match cs with | [.v (.int .i64 y0),.v (.int .i64 y1),.v (.int .i64 y2)]=>(some (⟨y0,⟨y1,y2⟩⟩:zx)) | _=>none:Option zx)
 | .sLayoutEnd,cs=>(match cs with | [.v (.int .i64 y0),.v (.int .i64 y1)]=>(some (⟨y0,y1⟩:LayoutEnd)) | _=>none:Option LayoutEnd)
 | .sDuctEnds,cs=>(match cs with | [.v (.int .i64 y0),.v (.int .i64 y1),y2]=>(match zaF (.i .i64) y2 with | some y2=>some (⟨y0,y1,y2⟩:zds) | _=>none) | _=>none:Option zds)
 | .sDuctRow,cs=>(match cs with | [.v (.int .i64 y0),.v (.int .i64 y1),y2,.v (.int .i64 y3)]=>(match zaF (.i .i64) y2 with | some y2=>some (⟨⟨y0,y1,y2⟩,y3⟩:zbw) | _=>none) | _=>none:Option zbw)
 | .sDuctLast,cs=>(match cs with | [.v (.int .i64 y0),.v (.int .i64 y1),y2]=>(match zaF (.i .i64) y2 with | some y2=>some (⟨⟨y0,y1,y2⟩⟩:zbb) | _=>none) | _=>none:Option zbb)
 | .sLeaf,cs=>(match cs with | [.v (.int .i64 y0),.v (.int .i64 y1),.v (.int .i64 y2)]=>(some (⟨y0,y1,y2⟩:zlh)) | _=>none:Option zlh)
 | .sQueueForm,cs=>(match cs with | [.v (.int .i64 y0),.v (.int .i64 y1)]=>(some (⟨y0,y1⟩:zy)) | _=>none:Option zy)
 | .sQueueRow,cs=>(match cs with | [.v (.int .u32 y0),.v (.int .u32 y1),y2]=>(match zaF (.sl (.i .u32)) y2 with | some y2=>some (⟨y0,y1,y2⟩:zU) | _=>none) | _=>none:Option zU)
def zdO:TypeId->Option Ty
 | 1=>some .f
 | 2=>some (.i .i64)
 | 3=>some (.i .i64)
 | 4=>some .b
 | 5=>some (.i .u8)
 | 6=>some (.i .u8)
 | 9=>some .s
 | 10=>some .s
 | 11=>some .s
 | 12=>some (.i .u64)
 | 21=>some (.i .i32)
 | 22=>some (.sl (.sl .sWindow))
 | 23=>some (.sl .sPartition)
 | 24=>some (.sl .sChannel)
 | 26=>some .sConfig
 | 27=>some (.sl (.sl (.i .u32)))
 | 28=>some (.sl .sFeed)
 | 30=>some .sBulkheadlaw25Start
 | 31=>some (.sl .sBulkheadlaw25Op)
 | 32=>some .f
 | 33=>some .f
 | 34=>some (.p .sBulkheadlaw25World)
 | 36=>some .f
 | 37=>some (.p .sCallsCalls)
 | 38=>some (.p .sBulkheadref25Calls)
 | 39=>some (.p .sMemMemory)
 | 40=>some (.p .sBulkheadref05Memory)
 | 41=>some (.sl .sBulkheadlaw25KeptInts)
 | 43=>some .sBulkheadlaw25Book
 | 45=>some .sBulkheadlaw25World
 | 46=>some (.i .u32)
 | 47=>some (.sl (.i .i64))
 | 49=>some .sBulkheadlaw25Op
 | 50=>some (.i .i64)
 | 51=>some .f
 | 52=>some .f
 | 53=>some (.sl (.i .u32))
 | 54=>some .f
 | 55=>some .sArr16Intu32
 | 57=>some .sContext
 | 59=>some .f
 | 60=>some .f
 | 61=>some .f
 | 62=>some .f
 | 63=>some (.sl .sOwner)
 | 64=>some .f
 | 65=>some .f
 | 66=>some .f
 | 67=>some (.sl .sBulkheadlaw25Line)
 | 68=>some .f
 | 69=>some (.sl .sRegion)
 | 70=>some (.sl .sPort)
 | 72=>some .sPartition
 | 74=>some .sPort
 | 76=>some .sChannel
 | 77=>some .f
 | 78=>some .f
 | 80=>some .f
 | 82=>some .f
 | 83=>some .f
 | 85=>some .sFeed
 | 86=>some .f
 | 87=>some .f
 | 89=>some .f
 | 91=>some .f
 | 92=>some .f
 | 93=>some .f
 | 95=>some .f
 | 97=>some .f
 | 99=>some .f
 | 100=>some .u
 | 101=>some (.sl .sPartitionPlace)
 | 102=>some (.sl .sChannelPlace)
 | 104=>some .sLayout
 | 105=>some (.p .sDuctDucts)
 | 106=>some (.p .sDeviceDevices)
 | 107=>some (.p .sHealthWards)
 | 109=>some .sCallsCalls
 | 110=>some .f
 | 112=>some .sMemMemory
 | 113=>some .f
 | 114=>some (.p .sCallsWork)
 | 116=>some .sCallsWork
 | 118=>some .sCallsTold
 | 120=>some .f
 | 122=>some .f
 | 124=>some .sOwner
 | 126=>some .f
 | 127=>some .f
 | 128=>some .f
 | 130=>some .sBulkheadlaw25Line
 | 132=>some .f
 | 133=>some .f
 | 135=>some .sWindow
 | 136=>some (.sl .sWindow)
 | 138=>some .sRegion
 | 140=>some .sPartitionPlace
 | 142=>some .f
 | 144=>some .sWhere
 | 146=>some .f
 | 148=>some .f
 | 150=>some .f
 | 152=>some .f
 | 154=>some .f
 | 155=>some (.p .sBulkheadref21Ducts)
 | 156=>some (.p .sBulkheadref22Devices)
 | 157=>some (.p .sBulkheadref23Wards)
 | 159=>some .sBulkheadref25Calls
 | 161=>some .f
 | 163=>some .f
 | 165=>some .f
 | 166=>some .f
 | 167=>some .f
 | 168=>some .f
 | 169=>some .f
 | 171=>some .sBulkheadref05Memory
 | 172=>some .f
 | 174=>some .sDuctDucts
 | 177=>some .f
 | 178=>some .f
 | 179=>some (.sl .sBulkheadref15Piece)
 | 180=>some .f
 | 182=>some .sBulkheadref15Piece
 | 183=>some .f
 | 184=>some .f
 | 186=>some .f
 | 187=>some (.sl .sDestPlace)
 | 189=>some .sChannelPlace
 | 190=>some (.sl .f)
 | 191=>some .f
 | 192=>some .f
 | 194=>some .sAdmitFound
 | 195=>some (.m .sDeviceWhen (.sl (.i .u32)))
 | 197=>some .sDeviceDevices
 | 199=>some .sDeviceWhen
 | 200=>some .f
 | 201=>some .f
 | 202=>some (.sl .sLayoutEnd)
 | 204=>some .f
 | 205=>some .f
 | 207=>some .sLayoutEnd
 | 209=>some .sDestPlace
 | 210=>some .f
 | 211=>some (.sl .sHealthWard)
 | 213=>some .sHealthWards
 | 214=>some .u
 | 216=>some .sHealthCare
 | 217=>some .f
 | 219=>some .sHealthWard
 | 220=>some .f
 | 221=>some .f
 | 222=>some .f
 | 223=>some .f
 | 224=>some .f
 | 226=>some .f
 | 228=>some .sBulkheadref21Ducts
 | 229=>some .sBulkheadref23Wards
 | 230=>some .f
 | 232=>some .sBulkheadref22Devices
 | 233=>some .f
 | 234=>some .f
 | 235=>some .f
 | 237=>some .sDuctEnds
 | 239=>some .sDuctRow
 | 241=>some .sDuctLast
 | 242=>some .f
 | 243=>some .f
 | 244=>some .f
 | 246=>some .f
 | 248=>some .f
 | 250=>some .f
 | 251=>some .f
 | 252=>some .f
 | 254=>some .f
 | 256=>some .f
 | 257=>some .f
 | 258=>some .f
 | 259=>some .f
 | 260=>some .f
 | 261=>some .f
 | 262=>some .f
 | 263=>some .f
 | 265=>some .f
 | 266=>some .f
 | 267=>some .f
 | 268=>some .f
 | 269=>some .f
 | 270=>some .f
 | 271=>some .f
 | 272=>some (.i .u64)
 | 273=>some .f
 | 274=>some .f
 | 276=>some .f
 | 278=>some .f
 | 279=>some .f
 | 280=>some .f
 | 281=>some .f
 | 283=>some .f
 | 284=>some (.i .u64)
 | 285=>some .f
 | 286=>some .f
 | 287=>some .f
 | 288=>some .f
 | 289=>some .f
 | 290=>some .f
 | 292=>some .f
 | 293=>some .f
 | 295=>some .sLeaf
 | 297=>some .f
 | 299=>some .sQueueForm
 | 301=>some .sQueueRow
 | 303=>some .f
 | 304=>some .f
 | 305=>some (.sl .sAdmitFound)
 | 307=>some .f
 | 309=>some .f
 | 310=>some .f
 | 312=>some .f
 | 313=>some .f
 | 314=>some .f
 | 316=>some .f
 | 317=>some .f
 | 318=>some .f
 | 320=>some .f
 | 321=>some .f
 | 322=>some .f
 | 323=>some .f
 | 329=>some (.i .u8)
 | 330=>some (.i .u8)
 | 331=>some .f
 | 333=>some (.i .i32)
 | 334=>some (.i .i32)
 | 337=>some .f
 | 339=>some .sBulkheadlaw25KeptInts
 | 341=>some .f
 | 343=>some .f
 | 344=>some .f
 | 345=>some .f
 | 347=>some .f
 | 348=>some (.sl .sQueueRow)
 | 349=>some .f
 | 351=>some .f
 | 352=>some .f
 | 353=>some .f
 | 354=>some .f
 | 355=>some .f
 | 356=>some .f
 | 357=>some .f
 | 358=>some .f
 | _=>none
def Ty.leaves:Ty->List Ty
 | .i k=>[.i k] | .b=>[.b] | .s=>[.s] | .f=>[.f] | .sl t=>[.sl t] | .p t=>[.p t] | .m k v=>[.m k v] | .u=>[.u]
 | .sWindow=>[.i .i64,.i .i64,.i .i64]
 | .sRegion=>[.i .i64,.i .i64,.i .i64,.i .i64]
 | .sPort=>[.i .i64,.b]
 | .sPartition=>[.s,.i .i64,.i .i64,.i .i64,.i .i64,.i .i64,.sl .sRegion,.sl .sPort]
 | .sChannel=>[.i .i64,.i .i64,.i .i64]
 | .sConfig=>[.i .i64,.i .i64,.i .i64,.i .i64,.sl (.sl .sWindow),.sl .sPartition,.sl .sChannel]
 | .sFeed=>[.i .i64,.i .i64,.sl (.i .u32)]
 | .sBulkheadlaw25Start=>[.i .i64,.i .i64,.i .i64,.i .i64,.sl (.sl .sWindow),.sl .sPartition,.sl .sChannel,.sl (.sl (.i .u32)),.sl .sFeed]
 | .sBulkheadlaw25KeptInts=>[.sl (.i .i64),.sl (.i .i64),.sl (.i .i64),.sl (.i .i64)]
 | .sBulkheadlaw25Book=>[.sl .sBulkheadlaw25KeptInts]
 | .sPartitionPlace=>[.i .i64,.i .i64,.i .i64,.i .i64,.sl (.i .i64)]
 | .sDestPlace=>[.i .i64,.i .i64,.i .i64]
 | .sChannelPlace=>[.i .i64,.i .i64,.i .i64,.i .i64,.sl .sDestPlace]
 | .sLayout=>[.i .i64,.sl .sPartitionPlace,.sl .sChannelPlace,.i .i64]
 | .sDuctDucts=>[.i .i64,.i .i64,.i .i64,.i .i64,.sl (.sl .sWindow),.sl .sPartition,.sl .sChannel,.i .i64,.sl .sPartitionPlace,.sl .sChannelPlace,.i .i64]
 | .sDeviceWhen=>[.i .i64,.i .i64]
 | .sDeviceDevices=>[.i .i64,.sl (.i .i64),.sl (.i .i64),.m .sDeviceWhen (.sl (.i .u32))]
 | .sHealthCare=>[.u,.u]
 | .sHealthWard=>[.i .i64,.i .i64,.i .i64,.i .i64,.sl (.i .i64),.i .u32,.i .u32,.i .u32,.u,.u]
 | .sHealthWards=>[.i .i64,.sl .sHealthWard]
 | .sCallsCalls=>[.i .i64,.i .i64,.sl .sPartitionPlace,.sl .sChannelPlace,.i .i64,.p .sDuctDucts,.p .sDeviceDevices,.p .sHealthWards]
 | .sBulkheadref21Ducts=>[.i .i64,.i .i64,.i .i64,.i .i64,.sl (.sl .sWindow),.sl .sPartition,.sl .sChannel,.i .i64,.sl .sPartitionPlace,.sl .sChannelPlace,.i .i64]
 | .sBulkheadref22Devices=>[.i .i64,.i .i64,.i .i64,.i .i64,.sl (.sl .sWindow),.sl .sPartition,.sl .sChannel,.i .i64,.sl .sPartitionPlace,.sl .sChannelPlace,.i .i64,.sl .sFeed]
 | .sBulkheadref23Wards=>[.i .i64,.i .i64,.i .i64,.i .i64,.sl (.sl .sWindow),.sl .sPartition,.sl .sChannel,.i .i64,.sl .sPartitionPlace,.sl .sChannelPlace,.i .i64]
 | .sBulkheadref25Calls=>[.i .i64,.i .i64,.i .i64,.i .i64,.sl (.sl .sWindow),.sl .sPartition,.sl .sChannel,.i .i64,.sl .sPartitionPlace,.sl .sChannelPlace,.i .i64,.p .sBulkheadref21Ducts,.p .sBulkheadref22Devices,.p .sBulkheadref23Wards]
 | .sMemMemory=>[.sl (.i .u32)]
 | .sBulkheadref05Memory=>[.sl (.i .u32)]
 | .sBulkheadlaw25World=>[.i .i64,.i .i64,.i .i64,.i .i64,.sl (.sl .sWindow),.sl .sPartition,.sl .sChannel,.p .sCallsCalls,.p .sBulkheadref25Calls,.p .sMemMemory,.p .sBulkheadref05Memory,.p .sMemMemory,.p .sBulkheadref05Memory,.sl .sBulkheadlaw25KeptInts]
 | .sBulkheadlaw25Op=>[.i .i64,.i .i64,.i .i64,.i .i64,.i .i64,.i .u32,.i .u32,.i .u32,.i .u32,.sl (.i .i64)]
 | .sArr16Intu32=>[.i .u32,.i .u32,.i .u32,.i .u32,.i .u32,.i .u32,.i .u32,.i .u32,.i .u32,.i .u32,.i .u32,.i .u32,.i .u32,.i .u32,.i .u32,.i .u32]
 | .sContext=>[.i .u32,.i .u32,.i .u32,.i .u32,.i .u32,.i .u32,.i .u32,.i .u32,.i .u32,.i .u32,.i .u32,.i .u32,.i .u32,.i .u32,.i .u32,.i .u32,.i .u32]
 | .sCallsWork=>[.p .sCallsCalls,.p .sMemMemory,.i .i64,.i .i64,.i .u32,.i .u32,.i .u32,.i .u32,.i .u32,.i .u32,.i .u32,.i .u32,.i .u32,.i .u32,.i .u32,.i .u32,.i .u32,.i .u32,.i .u32,.i .u32,.i .u32]
 | .sCallsTold=>[.i .u32,.i .u32,.i .u32]
 | .sOwner=>[.i .i64,.i .i64,.i .i64]
 | .sBulkheadlaw25Line=>[.sl (.sl (.i .u32)),.sl (.sl (.i .u32))]
 | .sWhere=>[.i .i64,.i .i64]
 | .sBulkheadref15Piece=>[.i .i64,.i .i64,.i .i64,.i .i64,.i .i64]
 | .sAdmitFound=>[.i .i64,.i .i64,.i .i64]
 | .sLayoutEnd=>[.i .i64,.i .i64]
 | .sDuctEnds=>[.i .i64,.i .i64,.sl (.i .i64)]
 | .sDuctRow=>[.i .i64,.i .i64,.sl (.i .i64),.i .i64]
 | .sDuctLast=>[.i .i64,.i .i64,.sl (.i .i64)]
 | .sLeaf=>[.i .i64,.i .i64,.i .i64]
 | .sQueueForm=>[.i .i64,.i .i64]
 | .sQueueRow=>[.i .u32,.i .u32,.sl (.sl (.i .u32))]
def zGu:List Nat:=[8,48,26,46,49,61]
def zwc:Nat:=360
def Ty.dat:Ty->Bool
 | .i _=>true | .b=>true | .s=>true | .f=>false | .sl t=>t.dat | .p _=>false | .m _ _=>false | .u=>false
 | .sWindow=>true
 | .sRegion=>true
 | .sPort=>true
 | .sPartition=>true
 | .sChannel=>true
 | .sConfig=>true
 | .sFeed=>true
 | .sBulkheadlaw25Start=>true
 | .sBulkheadlaw25KeptInts=>true
 | .sBulkheadlaw25Book=>true
 | .sPartitionPlace=>true
 | .sDestPlace=>true
 | .sChannelPlace=>true
 | .sLayout=>true
 | .sDuctDucts=>true
 | .sDeviceWhen=>true
 | .sDeviceDevices=>false
 | .sHealthCare=>false
 | .sHealthWard=>false
 | .sHealthWards=>false
 | .sCallsCalls=>false
 | .sBulkheadref21Ducts=>true
 | .sBulkheadref22Devices=>true
 | .sBulkheadref23Wards=>true
 | .sBulkheadref25Calls=>false
 | .sMemMemory=>true
 | .sBulkheadref05Memory=>true
 | .sBulkheadlaw25World=>false
 | .sBulkheadlaw25Op=>true
 | .sArr16Intu32=>true
 | .sContext=>true
 | .sCallsWork=>false
 | .sCallsTold=>true
 | .sOwner=>true
 | .sBulkheadlaw25Line=>true
 | .sWhere=>true
 | .sBulkheadref15Piece=>true
 | .sAdmitFound=>true
 | .sLayoutEnd=>true
 | .sDuctEnds=>true
 | .sDuctRow=>true
 | .sDuctLast=>true
 | .sLeaf=>true
 | .sQueueForm=>true
 | .sQueueRow=>true
theorem cnT.{u}{α:Sort u}(a b:α):cond true a b=a:=rfl
theorem cnF.{u}{α:Sort u}(a b:α):cond false a b=b:=rfl
theorem tnC(n:Nat):(n:Int).toNat=n:=Int.toNat_natCast n
end Go.Proofs.YtgajeebphoiphaaGreatDoor
end
