import Derived.WalkKit
import Derived.Below
import Derived.RowKit3
set_option linter.unusedVariables false
set_option linter.unusedSimpArgs false
noncomputable section
namespace Go.Proofs.YtgajeebphoiphaaGreatDoor
@[ext] structure zan where
 qk:Int
 qm:Int
 qQ:Int
 deriving Inhabited,DecidableEq
@[ext] structure Region where
 page:Int
 qc:Int
 frame:Int
 qv:Int
 deriving Inhabited,DecidableEq
@[ext] structure zb9 where
 ql:Int
 qb:Bool
 deriving Inhabited,DecidableEq
@[ext] structure zf where
 name:ByteArray
 entry:Int
 action:Int
 qR:Int
 qE:Int
 qW:Int
 qe:(List Region)
 qt:(List zb9)
 deriving Inhabited,DecidableEq
@[ext] structure zI where
 kind:Int
 qx:Int
 qy:Int
 deriving Inhabited,DecidableEq
@[ext] structure za where
 qr:Int
 major:Int
 kernel:Int
 room:Int
 qp:(List (List zan))
 qq:(List zf)
 qw:(List zI)
 deriving Inhabited,DecidableEq
@[ext] structure z7 where
 qk:Int
 qu:Int
 qx:(List Int)
 deriving Inhabited,DecidableEq
@[ext] structure zp where
 qj:za
 qo:(List (List Int))
 qi:(List z7)
 deriving Inhabited,DecidableEq
@[ext] structure za8 where
 l:(List Int)
 want:(List Int)
 one:(List Int)
 many:(List Int)
 deriving Inhabited,DecidableEq
@[ext] structure zav where
 ints:(List za8)
 deriving Inhabited,DecidableEq
@[ext] structure zk where
 lock:Int
 save:Int
 state:Int
 root:Int
 qs:(List Int)
 deriving Inhabited,DecidableEq
@[ext] structure zaX where
 qk:Int
 port:Int
 at_:Int
 deriving Inhabited,DecidableEq
@[ext] structure zF where
 lock:Int
 qn:Int
 qk:Int
 port:Int
 qa:(List zaX)
 deriving Inhabited,DecidableEq
@[ext] structure zaR where
 barrier:Int
 qq:(List zk)
 qw:(List zF)
 end_ : Int
 deriving Inhabited,DecidableEq
@[ext] structure zG where
 c:za
 lay:zaR
 deriving Inhabited,DecidableEq
@[ext] structure zQ where
 qk:Int
 qu:Int
 deriving Inhabited,DecidableEq
@[ext] structure zR where
 qr:Int
 outs:(List Int)
 at_:(List Int)
 qi:(List (zQ × (List Int)))
 deriving Inhabited,DecidableEq
@[ext] structure zay where
 again:Unit
 begin:Unit
 deriving Inhabited,DecidableEq
@[ext] structure zX where
 place:zk
 entry:Int
 most:Int
 outs:Int
 care:zay
 deriving Inhabited,DecidableEq
@[ext] structure zae where
 qr:Int
 qh:(List zX)
 deriving Inhabited,DecidableEq
@[ext] structure zr where
 qr:Int
 lay:zaR
 qg:(Option zG)
 qf:(Option zR)
 qh:(Option zae)
 deriving Inhabited,DecidableEq
@[ext] structure zaT where
 c:za
 l:zaR
 deriving Inhabited,DecidableEq
@[ext] structure zaw where
 c:za
 l:zaR
 f:(List z7)
 deriving Inhabited,DecidableEq
@[ext] structure zaU where
 c:za
 l:zaR
 deriving Inhabited,DecidableEq
@[ext] structure zaV where
 c:za
 l:zaR
 qg:(Option zaT)
 qf:(Option zaw)
 qh:(Option zaU)
 deriving Inhabited,DecidableEq
@[ext] structure ze where
 qx:(List Int)
 deriving Inhabited,DecidableEq
@[ext] structure zaE where
 w:(List Int)
 deriving Inhabited,DecidableEq
@[ext] structure zS where
 c:za
 s:(Option zr)
 r:(Option zaV)
 m:(Option ze)
 n:(Option zaE)
 p:(Option ze)
 q:(Option zaE)
 kept:zav
 deriving Inhabited,DecidableEq
@[ext] structure zq where
 kind:Int
 p:Int
 qu:Int
 call:Int
 a:Int
 r1:Int
 r2:Int
 r3:Int
 w:Int
 list:(List Int)
 deriving Inhabited,DecidableEq
@[ext] structure z6 where
 e0:Int
 e1:Int
 e2:Int
 e3:Int
 e4:Int
 e5:Int
 e6:Int
 e7:Int
 e8:Int
 e9:Int
 e10:Int
 e11:Int
 e12:Int
 e13:Int
 e14:Int
 e15:Int
 deriving Inhabited,DecidableEq
@[ext] structure zB where
 qz:z6
 pC:Int
 deriving Inhabited,DecidableEq
@[ext] structure zah where
 calls:(Option zr)
 m:(Option ze)
 p:Int
 qu:Int
 x:zB
 deriving Inhabited,DecidableEq
@[ext] structure zaN where
 one:Int
 two:Int
 three:Int
 deriving Inhabited,DecidableEq
@[ext] structure zaF where
 kind:Int
 index:Int
 port:Int
 deriving Inhabited,DecidableEq
@[ext] structure zb2 where
 staged:(List (List Int))
 held:(List (List Int))
 deriving Inhabited,DecidableEq
@[ext] structure za0 where
 first:Int
 second:Int
 deriving Inhabited,DecidableEq
@[ext] structure zm where
 at_:Int
 size:Int
 qT:zaF
 deriving Inhabited,DecidableEq
@[ext] structure zx where
 e:Int
 where_:za0
 deriving Inhabited,DecidableEq
@[ext] structure LayoutEnd where
 qk:Int
 port:Int
 deriving Inhabited,DecidableEq
@[ext] structure zdv where
 qn:Int
 qx:Int
 qt:(List Int)
 deriving Inhabited,DecidableEq
@[ext] structure zbA where
 ends : zdv
 qy:Int
 deriving Inhabited,DecidableEq
@[ext] structure zbd where
 ends : zdv
 deriving Inhabited,DecidableEq
@[ext] structure zlo where
 page:Int
 frame:Int
 qv:Int
 deriving Inhabited,DecidableEq
@[ext] structure zy where
 qx:Int
 qy:Int
 deriving Inhabited,DecidableEq
@[ext] structure zU where
 first:Int
 lost:Int
 qd:(List (List Int))
 deriving Inhabited,DecidableEq
inductive Clo where
 | none
 | c113 (x0:za)
 | c116 (x0:za)
 | c117 (x0:za)
 | c118 (x0:za)
 | c119 (x0:za)
 | c120 (x0:za) (x1:Int)
 | c122 (x0:za) (x1:Int)
 | c124 (x0:za) (x1:Int)
 | c126 (x0:za)
 deriving Inhabited,DecidableEq
inductive Ty where
 | i (k:IntKind) | b | s | f | sl (t:Ty) | p (t:Ty) | m (k v:Ty) | u
 | sWindow
 | sRegion
 | sPort
 | sPartition
 | sChannel
 | sConfig
 | sFeed
 | sBulkheadlaw25Start
 | sBulkheadlaw25KeptInts
 | sBulkheadlaw25Book
 | sPartitionPlace
 | sDestPlace
 | sChannelPlace
 | sLayout
 | sDuctDucts
 | sDeviceWhen
 | sDeviceDevices
 | sHealthCare
 | sHealthWard
 | sHealthWards
 | sCallsCalls
 | sBulkheadref21Ducts
 | sBulkheadref22Devices
 | sBulkheadref23Wards
 | sBulkheadref25Calls
 | sMemMemory
 | sBulkheadref05Memory
 | sBulkheadlaw25World
 | sBulkheadlaw25Op
 | sArr16Intu32
 | sContext
 | sCallsWork
 | sCallsTold
 | sOwner
 | sBulkheadlaw25Line
 | sWhere
 | sBulkheadref15Piece
 | sAdmitFound
 | sLayoutEnd
 | sDuctEnds
 | sDuctRow
 | sDuctLast
 | sLeaf
 | sQueueForm
 | sQueueRow
 deriving DecidableEq
def Ty.T:Ty->Type
 | .i _=>Int | .b=>Bool | .s=>ByteArray | .f=>Clo | .sl t=>List t.T | .p t=>Option t.T | .m k v=>List (k.T × v.T) | .u=>Unit
 | .sWindow=>zan
 | .sRegion=>Region
 | .sPort=>zb9
 | .sPartition=>zf
 | .sChannel=>zI
 | .sConfig=>za
 | .sFeed=>z7
 | .sBulkheadlaw25Start=>zp
 | .sBulkheadlaw25KeptInts=>za8
 | .sBulkheadlaw25Book=>zav
 | .sPartitionPlace=>zk
 | .sDestPlace=>zaX
 | .sChannelPlace=>zF
 | .sLayout=>zaR
 | .sDuctDucts=>zG
 | .sDeviceWhen=>zQ
 | .sDeviceDevices=>zR
 | .sHealthCare=>zay
 | .sHealthWard=>zX
 | .sHealthWards=>zae
 | .sCallsCalls=>zr
 | .sBulkheadref21Ducts=>zaT
 | .sBulkheadref22Devices=>zaw
 | .sBulkheadref23Wards=>zaU
 | .sBulkheadref25Calls=>zaV
 | .sMemMemory=>ze
 | .sBulkheadref05Memory=>zaE
 | .sBulkheadlaw25World=>zS
 | .sBulkheadlaw25Op=>zq
 | .sArr16Intu32=>z6
 | .sContext=>zB
 | .sCallsWork=>zah
 | .sCallsTold=>zaN
 | .sOwner=>zaF
 | .sBulkheadlaw25Line=>zb2
 | .sWhere=>za0
 | .sBulkheadref15Piece=>zm
 | .sAdmitFound=>zx
 | .sLayoutEnd=>LayoutEnd
 | .sDuctEnds=>zdv
 | .sDuctRow=>zbA
 | .sDuctLast=>zbd
 | .sLeaf=>zlo
 | .sQueueForm=>zy
 | .sQueueRow=>zU
instance:(t:Ty)->Inhabited t.T
 | .i _=>⟨(0:Int)⟩ | .b=>⟨false⟩ | .s=>⟨ByteArray.empty⟩ | .f=>⟨Clo.none⟩ | .sl t=>⟨([]:List t.T)⟩ | .p t=>⟨(none:Option t.T)⟩ | .m k v=>⟨([]:List (k.T × v.T))⟩ | .u=>⟨()⟩
 | .sWindow=>⟨(default:zan)⟩
 | .sRegion=>⟨(default:Region)⟩
 | .sPort=>⟨(default:zb9)⟩
 | .sPartition=>⟨(default:zf)⟩
 | .sChannel=>⟨(default:zI)⟩
 | .sConfig=>⟨(default:za)⟩
 | .sFeed=>⟨(default:z7)⟩
 | .sBulkheadlaw25Start=>⟨(default:zp)⟩
 | .sBulkheadlaw25KeptInts=>⟨(default:za8)⟩
 | .sBulkheadlaw25Book=>⟨(default:zav)⟩
 | .sPartitionPlace=>⟨(default:zk)⟩
 | .sDestPlace=>⟨(default:zaX)⟩
 | .sChannelPlace=>⟨(default:zF)⟩
 | .sLayout=>⟨(default:zaR)⟩
 | .sDuctDucts=>⟨(default:zG)⟩
 | .sDeviceWhen=>⟨(default:zQ)⟩
 | .sDeviceDevices=>⟨(default:zR)⟩
 | .sHealthCare=>⟨(default:zay)⟩
 | .sHealthWard=>⟨(default:zX)⟩
 | .sHealthWards=>⟨(default:zae)⟩
 | .sCallsCalls=>⟨(default:zr)⟩
 | .sBulkheadref21Ducts=>⟨(default:zaT)⟩
 | .sBulkheadref22Devices=>⟨(default:zaw)⟩
 | .sBulkheadref23Wards=>⟨(default:zaU)⟩
 | .sBulkheadref25Calls=>⟨(default:zaV)⟩
 | .sMemMemory=>⟨(default:ze)⟩
 | .sBulkheadref05Memory=>⟨(default:zaE)⟩
 | .sBulkheadlaw25World=>⟨(default:zS)⟩
 | .sBulkheadlaw25Op=>⟨(default:zq)⟩
 | .sArr16Intu32=>⟨(default:z6)⟩
 | .sContext=>⟨(default:zB)⟩
 | .sCallsWork=>⟨(default:zah)⟩
 | .sCallsTold=>⟨(default:zaN)⟩
 | .sOwner=>⟨(default:zaF)⟩
 | .sBulkheadlaw25Line=>⟨(default:zb2)⟩
 | .sWhere=>⟨(default:za0)⟩
 | .sBulkheadref15Piece=>⟨(default:zm)⟩
 | .sAdmitFound=>⟨(default:zx)⟩
 | .sLayoutEnd=>⟨(default:LayoutEnd)⟩
 | .sDuctEnds=>⟨(default:zdv)⟩
 | .sDuctRow=>⟨(default:zbA)⟩
 | .sDuctLast=>⟨(default:zbd)⟩
 | .sLeaf=>⟨(default:zlo)⟩
 | .sQueueForm=>⟨(default:zy)⟩
 | .sQueueRow=>⟨(default:zU)⟩
inductive AV where
 | undef
 | v (x:Value)
 | agg (cs:List AV)
 | tup (vs:List AV)
 | sl (t:Ty) (xs:List t.T)
 | op (t:Ty) (x:Option t.T)
 | el (t:Ty) (xs:List t.T) (i off:Nat)
 | ref (b off:Nat)
 | own (b:Nat)
 | oel (b sz i off:Nat)
 | rex (b o0:Nat) (t:Ty) (m i d:Nat)
 | vw (b sz o n:Nat)
 | fn (f:Fn) (first cap:List AV)
 | clo (c:Clo)
 | ifc (t:TypeId) (x:AV)
 | mp (k v:Ty) (es:List (k.T × v.T))
 | om (b:Nat)
 | any
def Ty.enc:(t:Ty)->t.T->List AV
 | .i k,x=>[.v (.int k x)] | .b,x=>[.v (.bool x)] | .s,x=>[.v (.string x)] | .f,x=>[.clo x] | .sl t,x=>[.sl t x] | .p t,x=>[.op t x] | .m k v,x=>[.mp k v x] | .u,_=>[.any]
 | .sWindow,x=>[.v (.int .i64 x.qk),.v (.int .i64 x.qm),.v (.int .i64 x.qQ)]
 | .sRegion,x=>[.v (.int .i64 x.page),.v (.int .i64 x.qc),.v (.int .i64 x.frame),.v (.int .i64 x.qv)]
 | .sPort,x=>[.v (.int .i64 x.ql),.v (.bool x.qb)]
 | .sPartition,x=>[.v (.string x.name),.v (.int .i64 x.entry),.v (.int .i64 x.action),.v (.int .i64 x.qR),.v (.int .i64 x.qE),.v (.int .i64 x.qW),.sl .sRegion x.qe,.sl .sPort x.qt]
 | .sChannel,x=>[.v (.int .i64 x.kind),.v (.int .i64 x.qx),.v (.int .i64 x.qy)]
 | .sConfig,x=>[.v (.int .i64 x.qr),.v (.int .i64 x.major),.v (.int .i64 x.kernel),.v (.int .i64 x.room),.sl (.sl .sWindow) x.qp,.sl .sPartition x.qq,.sl .sChannel x.qw]
 | .sFeed,x=>[.v (.int .i64 x.qk),.v (.int .i64 x.qu),.sl (.i .u32) x.qx]
 | .sBulkheadlaw25Start,x=>[.v (.int .i64 x.qj.qr),.v (.int .i64 x.qj.major),.v (.int .i64 x.qj.kernel),.v (.int .i64 x.qj.room),.sl (.sl .sWindow) x.qj.qp,.sl .sPartition x.qj.qq,.sl .sChannel x.qj.qw,.sl (.sl (.i .u32)) x.qo,.sl .sFeed x.qi]
 | .sBulkheadlaw25KeptInts,x=>[.sl (.i .i64) x.l,.sl (.i .i64) x.want,.sl (.i .i64) x.one,.sl (.i .i64) x.many]
 | .sBulkheadlaw25Book,x=>[.sl .sBulkheadlaw25KeptInts x.ints]
 | .sPartitionPlace,x=>[.v (.int .i64 x.lock),.v (.int .i64 x.save),.v (.int .i64 x.state),.v (.int .i64 x.root),.sl (.i .i64) x.qs]
 | .sDestPlace,x=>[.v (.int .i64 x.qk),.v (.int .i64 x.port),.v (.int .i64 x.at_)]
 | .sChannelPlace,x=>[.v (.int .i64 x.lock),.v (.int .i64 x.qn),.v (.int .i64 x.qk),.v (.int .i64 x.port),.sl .sDestPlace x.qa]
 | .sLayout,x=>[.v (.int .i64 x.barrier),.sl .sPartitionPlace x.qq,.sl .sChannelPlace x.qw,.v (.int .i64 x.end_)]
 | .sDuctDucts,x=>[.v (.int .i64 x.c.qr),.v (.int .i64 x.c.major),.v (.int .i64 x.c.kernel),.v (.int .i64 x.c.room),.sl (.sl .sWindow) x.c.qp,.sl .sPartition x.c.qq,.sl .sChannel x.c.qw,.v (.int .i64 x.lay.barrier),.sl .sPartitionPlace x.lay.qq,.sl .sChannelPlace x.lay.qw,.v (.int .i64 x.lay.end_)]
 | .sDeviceWhen,x=>[.v (.int .i64 x.qk),.v (.int .i64 x.qu)]
 | .sDeviceDevices,x=>[.v (.int .i64 x.qr),.sl (.i .i64) x.outs,.sl (.i .i64) x.at_,.mp .sDeviceWhen (.sl (.i .u32)) x.qi]
 | .sHealthCare,x=>[.any,.any]
 | .sHealthWard,x=>[.v (.int .i64 x.place.lock),.v (.int .i64 x.place.save),.v (.int .i64 x.place.state),.v (.int .i64 x.place.root),.sl (.i .i64) x.place.qs,.v (.int .u32 x.entry),.v (.int .u32 x.most),.v (.int .u32 x.outs),.any,.any]
 | .sHealthWards,x=>[.v (.int .i64 x.qr),.sl .sHealthWard x.qh]
 | .sCallsCalls,x=>[.v (.int .i64 x.qr),.v (.int .i64 x.lay.barrier),.sl .sPartitionPlace x.lay.qq,.sl .sChannelPlace x.lay.qw,.v (.int .i64 x.lay.end_),.op .sDuctDucts x.qg,.op .sDeviceDevices x.qf,.op .sHealthWards x.qh]
 | .sBulkheadref21Ducts,x=>[.v (.int .i64 x.c.qr),.v (.int .i64 x.c.major),.v (.int .i64 x.c.kernel),.v (.int .i64 x.c.room),.sl (.sl .sWindow) x.c.qp,.sl .sPartition x.c.qq,.sl .sChannel x.c.qw,.v (.int .i64 x.l.barrier),.sl .sPartitionPlace x.l.qq,.sl .sChannelPlace x.l.qw,.v (.int .i64 x.l.end_)]
 | .sBulkheadref22Devices,x=>[.v (.int .i64 x.c.qr),.v (.int .i64 x.c.major),.v (.int .i64 x.c.kernel),.v (.int .i64 x.c.room),.sl (.sl .sWindow) x.c.qp,.sl .sPartition x.c.qq,.sl .sChannel x.c.qw,.v (.int .i64 x.l.barrier),.sl .sPartitionPlace x.l.qq,.sl .sChannelPlace x.l.qw,.v (.int .i64 x.l.end_),.sl .sFeed x.f]
 | .sBulkheadref23Wards,x=>[.v (.int .i64 x.c.qr),.v (.int .i64 x.c.major),.v (.int .i64 x.c.kernel),.v (.int .i64 x.c.room),.sl (.sl .sWindow) x.c.qp,.sl .sPartition x.c.qq,.sl .sChannel x.c.qw,.v (.int .i64 x.l.barrier),.sl .sPartitionPlace x.l.qq,.sl .sChannelPlace x.l.qw,.v (.int .i64 x.l.end_)]
 | .sBulkheadref25Calls,x=>[.v (.int .i64 x.c.qr),.v (.int .i64 x.c.major),.v (.int .i64 x.c.kernel),.v (.int .i64 x.c.room),.sl (.sl .sWindow) x.c.qp,.sl .sPartition x.c.qq,.sl .sChannel x.c.qw,.v (.int .i64 x.l.barrier),.sl .sPartitionPlace x.l.qq,.sl .sChannelPlace x.l.qw,.v (.int .i64 x.l.end_),.op .sBulkheadref21Ducts x.qg,.op .sBulkheadref22Devices x.qf,.op .sBulkheadref23Wards x.qh]
 | .sMemMemory,x=>[.sl (.i .u32) x.qx]
 | .sBulkheadref05Memory,x=>[.sl (.i .u32) x.w]
 | .sBulkheadlaw25World,x=>[.v (.int .i64 x.c.qr),.v (.int .i64 x.c.major),.v (.int .i64 x.c.kernel),.v (.int .i64 x.c.room),.sl (.sl .sWindow) x.c.qp,.sl .sPartition x.c.qq,.sl .sChannel x.c.qw,.op .sCallsCalls x.s,.op .sBulkheadref25Calls x.r,.op .sMemMemory x.m,.op .sBulkheadref05Memory x.n,.op .sMemMemory x.p,.op .sBulkheadref05Memory x.q,.sl .sBulkheadlaw25KeptInts x.kept.ints]
 | .sBulkheadlaw25Op,x=>[.v (.int .i64 x.kind),.v (.int .i64 x.p),.v (.int .i64 x.qu),.v (.int .i64 x.call),.v (.int .i64 x.a),.v (.int .u32 x.r1),.v (.int .u32 x.r2),.v (.int .u32 x.r3),.v (.int .u32 x.w),.sl (.i .i64) x.list]
 | .sArr16Intu32,x=>[.v (.int .u32 x.e0),.v (.int .u32 x.e1),.v (.int .u32 x.e2),.v (.int .u32 x.e3),.v (.int .u32 x.e4),.v (.int .u32 x.e5),.v (.int .u32 x.e6),.v (.int .u32 x.e7),.v (.int .u32 x.e8),.v (.int .u32 x.e9),.v (.int .u32 x.e10),.v (.int .u32 x.e11),.v (.int .u32 x.e12),.v (.int .u32 x.e13),.v (.int .u32 x.e14),.v (.int .u32 x.e15)]
 | .sContext,x=>[.v (.int .u32 x.qz.e0),.v (.int .u32 x.qz.e1),.v (.int .u32 x.qz.e2),.v (.int .u32 x.qz.e3),.v (.int .u32 x.qz.e4),.v (.int .u32 x.qz.e5),.v (.int .u32 x.qz.e6),.v (.int .u32 x.qz.e7),.v (.int .u32 x.qz.e8),.v (.int .u32 x.qz.e9),.v (.int .u32 x.qz.e10),.v (.int .u32 x.qz.e11),.v (.int .u32 x.qz.e12),.v (.int .u32 x.qz.e13),.v (.int .u32 x.qz.e14),.v (.int .u32 x.qz.e15),.v (.int .u32 x.pC)]
 | .sCallsWork,x=>[.op .sCallsCalls x.calls,.op .sMemMemory x.m,.v (.int .i64 x.p),.v (.int .i64 x.qu),.v (.int .u32 x.x.qz.e0),.v (.int .u32 x.x.qz.e1),.v (.int .u32 x.x.qz.e2),.v (.int .u32 x.x.qz.e3),.v (.int .u32 x.x.qz.e4),.v (.int .u32 x.x.qz.e5),.v (.int .u32 x.x.qz.e6),.v (.int .u32 x.x.qz.e7),.v (.int .u32 x.x.qz.e8),.v (.int .u32 x.x.qz.e9),.v (.int .u32 x.x.qz.e10),.v (.int .u32 x.x.qz.e11),.v (.int .u32 x.x.qz.e12),.v (.int .u32 x.x.qz.e13),.v (.int .u32 x.x.qz.e14),.v (.int .u32 x.x.qz.e15),.v (.int .u32 x.x.pC)]
 | .sCallsTold,x=>[.v (.int .u32 x.one),.v (.int .u32 x.two),.v (.int .u32 x.three)]
 | .sOwner,x=>[.v (.int .i64 x.kind),.v (.int .i64 x.index),.v (.int .i64 x.port)]
 | .sBulkheadlaw25Line,x=>[.sl (.sl (.i .u32)) x.staged,.sl (.sl (.i .u32)) x.held]
 | .sWhere,x=>[.v (.int .i64 x.first),.v (.int .i64 x.second)]
 | .sBulkheadref15Piece,x=>[.v (.int .i64 x.at_),.v (.int .i64 x.size),.v (.int .i64 x.qT.kind),.v (.int .i64 x.qT.index),.v (.int .i64 x.qT.port)]
 | .sAdmitFound,x=>[.v (.int .i64 x.e),.v (.int .i64 x.where_.first),.v (.int .i64 x.where_.second)]
 | .sLayoutEnd,x=>[.v (.int .i64 x.qk),.v (.int .i64 x.port)]
 | .sDuctEnds,x=>[.v (.int .i64 x.qn),.v (.int .i64 x.qx),.sl (.i .i64) x.qt]
 | .sDuctRow,x=>[.v (.int .i64 x.ends.qn),.v (.int .i64 x.ends.qx),.sl (.i .i64) x.ends.qt,.v (.int .i64 x.qy)]
 | .sDuctLast,x=>[.v (.int .i64 x.ends.qn),.v (.int .i64 x.ends.qx),.sl (.i .i64) x.ends.qt]
 | .sLeaf,x=>[.v (.int .i64 x.page),.v (.int .i64 x.frame),.v (.int .i64 x.qv)]
 | .sQueueForm,x=>[.v (.int .i64 x.qx),.v (.int .i64 x.qy)]
 | .sQueueRow,x=>[.v (.int .u32 x.first),.v (.int .u32 x.lost),.sl (.sl (.i .u32)) x.qd]
def Ty.sz:Ty->Nat
 | .i _=>1 | .b=>1 | .s=>1 | .f=>1 | .sl _=>1 | .p _=>1 | .m _ _=>1 | .u=>1
 | .sWindow=>3
 | .sRegion=>4
 | .sPort=>2
 | .sPartition=>8
 | .sChannel=>3
 | .sConfig=>7
 | .sFeed=>3
 | .sBulkheadlaw25Start=>9
 | .sBulkheadlaw25KeptInts=>4
 | .sBulkheadlaw25Book=>1
 | .sPartitionPlace=>5
 | .sDestPlace=>3
 | .sChannelPlace=>5
 | .sLayout=>4
 | .sDuctDucts=>11
 | .sDeviceWhen=>2
 | .sDeviceDevices=>4
 | .sHealthCare=>2
 | .sHealthWard=>10
 | .sHealthWards=>2
 | .sCallsCalls=>8
 | .sBulkheadref21Ducts=>11
 | .sBulkheadref22Devices=>12
 | .sBulkheadref23Wards=>11
 | .sBulkheadref25Calls=>14
 | .sMemMemory=>1
 | .sBulkheadref05Memory=>1
 | .sBulkheadlaw25World=>14
 | .sBulkheadlaw25Op=>10
 | .sArr16Intu32=>16
 | .sContext=>17
 | .sCallsWork=>21
 | .sCallsTold=>3
 | .sOwner=>3
 | .sBulkheadlaw25Line=>2
 | .sWhere=>2
 | .sBulkheadref15Piece=>5
 | .sAdmitFound=>3
 | .sLayoutEnd=>2
 | .sDuctEnds=>3
 | .sDuctRow=>4
 | .sDuctLast=>3
 | .sLeaf=>3
 | .sQueueForm=>2
 | .sQueueRow=>3
def Ty.by:Ty->Nat
 | .i k=>(match k with | .i8=>1 | .u8=>1 | .i16=>2 | .u16=>2 | .i32=>4 | .u32=>4 | _=>8) | .b=>1 | .s=>16 | .f=>8 | .sl _=>24 | .p _=>8 | .m _ _=>8 | .u=>8
 | .sWindow=>24
 | .sRegion=>32
 | .sPort=>16
 | .sPartition=>104
 | .sChannel=>24
 | .sConfig=>104
 | .sFeed=>40
 | .sBulkheadlaw25Start=>152
 | .sBulkheadlaw25KeptInts=>96
 | .sBulkheadlaw25Book=>24
 | .sPartitionPlace=>56
 | .sDestPlace=>24
 | .sChannelPlace=>56
 | .sLayout=>64
 | .sDuctDucts=>168
 | .sDeviceWhen=>16
 | .sDeviceDevices=>64
 | .sHealthCare=>16
 | .sHealthWard=>88
 | .sHealthWards=>32
 | .sCallsCalls=>96
 | .sBulkheadref21Ducts=>168
 | .sBulkheadref22Devices=>192
 | .sBulkheadref23Wards=>168
 | .sBulkheadref25Calls=>192
 | .sMemMemory=>24
 | .sBulkheadref05Memory=>24
 | .sBulkheadlaw25World=>176
 | .sBulkheadlaw25Op=>80
 | .sArr16Intu32=>64
 | .sContext=>68
 | .sCallsWork=>104
 | .sCallsTold=>12
 | .sOwner=>24
 | .sBulkheadlaw25Line=>48
 | .sWhere=>16
 | .sBulkheadref15Piece=>40
 | .sAdmitFound=>24
 | .sLayoutEnd=>16
 | .sDuctEnds=>40
 | .sDuctRow=>48
 | .sDuctLast=>40
 | .sLeaf=>24
 | .sQueueForm=>16
 | .sQueueRow=>32
def Ty.flat:Ty->Bool
 | .i _=>true | .b=>true | .s=>true | .f=>false | .sl _=>false | .p _=>false | .m _ _=>false | .u=>false
 | .sWindow=>true
 | .sRegion=>true
 | .sPort=>true
 | .sPartition=>false
 | .sChannel=>true
 | .sConfig=>false
 | .sFeed=>false
 | .sBulkheadlaw25Start=>false
 | .sBulkheadlaw25KeptInts=>false
 | .sBulkheadlaw25Book=>false
 | .sPartitionPlace=>false
 | .sDestPlace=>true
 | .sChannelPlace=>false
 | .sLayout=>false
 | .sDuctDucts=>false
 | .sDeviceWhen=>true
 | .sDeviceDevices=>false
 | .sHealthCare=>false
 | .sHealthWard=>false
 | .sHealthWards=>false
 | .sCallsCalls=>false
 | .sBulkheadref21Ducts=>false
 | .sBulkheadref22Devices=>false
 | .sBulkheadref23Wards=>false
 | .sBulkheadref25Calls=>false
 | .sMemMemory=>false
 | .sBulkheadref05Memory=>false
 | .sBulkheadlaw25World=>false
 | .sBulkheadlaw25Op=>false
 | .sArr16Intu32=>true
 | .sContext=>true
 | .sCallsWork=>false
 | .sCallsTold=>true
 | .sOwner=>true
 | .sBulkheadlaw25Line=>false
 | .sWhere=>true
 | .sBulkheadref15Piece=>true
 | .sAdmitFound=>true
 | .sLayoutEnd=>true
 | .sDuctEnds=>false
 | .sDuctRow=>false
 | .sDuctLast=>false
 | .sLeaf=>true
 | .sQueueForm=>true
 | .sQueueRow=>false
def Clo.out:Clo->AV
 | .none=>.v .nilFunc
 | .c113 x0=>.fn (.func 113) [] [.op .sConfig (some x0)]
 | .c116 x0=>.fn (.func 116) [] [.op .sConfig (some x0)]
 | .c117 x0=>.fn (.func 117) [] [.op .sConfig (some x0)]
 | .c118 x0=>.fn (.func 118) [] [.op .sConfig (some x0)]
 | .c119 x0=>.fn (.func 119) [] [.op .sConfig (some x0)]
 | .c120 x0 x1=>.fn (.func 120) [] [.op .sConfig (some x0),.op (.i .i64) (some x1)]
 | .c122 x0 x1=>.fn (.func 122) [] [.op .sConfig (some x0),.op (.i .i64) (some x1)]
 | .c124 x0 x1=>.fn (.func 124) [] [.op .sConfig (some x0),.op (.i .i64) (some x1)]
 | .c126 x0=>.fn (.func 126) [] [.op .sConfig (some x0)]
def zaH(t:Ty):AV->Option (List t.T)
 | .sl t' xs=>match decEq t' t with | isTrue h=>some (h ▸ xs) | isFalse _=>none
 | .v (.slice _ n _)=>match n with | 0=>some [] | _+1=>none
 | _=>none
def zcx(t:Ty):AV->Option (Option t.T)
 | .op t' x=>match decEq t' t with | isTrue h=>some (h ▸ x) | isFalse _=>none
 | .el t' xs i 0=>match decEq t' t with | isTrue h=>some (some (h ▸ (xs.getD i default))) | isFalse _=>none
 | .v (.pointer none)=>some none
 | _=>none
def zgo(k v k' v':Ty)(es:List (k'.T × v'.T)):Option (List (k.T × v.T)):=match decEq k' k,decEq v' v with | isTrue h,isTrue h'=>some (h ▸ h' ▸ es) | _,_=>none
def zBb(k v:Ty):AV->Option (List (k.T × v.T))
 | .mp k' v' es=>zgo k v k' v' es
 | .v (.map none)=>some []
 | _=>none
def zrp:AV->Option Unit
 | .fn _ _ _=>some ()
 | .clo _=>some ()
 | .any=>some ()
 | .v .nilFunc=>some ()
 | _=>none
def Ty.isS:Ty->Bool
 | .i _=>false | .b=>false | .s=>false | .f=>false | .sl _=>false | .p _=>false | .m _ _=>false | .u=>false
 | _=>true
def zt0:List AV->Option Clo
 | [z0]=>(match zcx .sConfig z0 with | some (some z0)=>some (.c113 z0) | _=>none)
 | _=>none
def zt1:List AV->Option Clo
 | [z0]=>(match zcx .sConfig z0 with | some (some z0)=>some (.c116 z0) | _=>none)
 | _=>none
def zt2:List AV->Option Clo
 | [z0]=>(match zcx .sConfig z0 with | some (some z0)=>some (.c117 z0) | _=>none)
 | _=>none
def zt3:List AV->Option Clo
 | [z0]=>(match zcx .sConfig z0 with | some (some z0)=>some (.c118 z0) | _=>none)
 | _=>none
def zt4:List AV->Option Clo
 | [z0]=>(match zcx .sConfig z0 with | some (some z0)=>some (.c119 z0) | _=>none)
 | _=>none
def zt5:List AV->Option Clo
 | [z0,z1]=>(match zcx .sConfig z0,zcx (.i .i64) z1 with | some (some z0),some (some z1)=>some (.c120 z0 z1) | _,_=>none)
 | _=>none
def zt6:List AV->Option Clo
 | [z0,z1]=>(match zcx .sConfig z0,zcx (.i .i64) z1 with | some (some z0),some (some z1)=>some (.c122 z0 z1) | _,_=>none)
 | _=>none
def zt7:List AV->Option Clo
 | [z0,z1]=>(match zcx .sConfig z0,zcx (.i .i64) z1 with | some (some z0),some (some z1)=>some (.c124 z0 z1) | _,_=>none)
 | _=>none
def zt8:List AV->Option Clo
 | [z0]=>(match zcx .sConfig z0 with | some (some z0)=>some (.c126 z0) | _=>none)
 | _=>none
def zrN:AV->Option Clo
 | .clo c=>some c
 | .fn (.func f) [] cap=>(match Nat.beq f 113 with | true=>zt0 cap | false=>(match Nat.beq f 116 with | true=>zt1 cap | false=>(match Nat.beq f 117 with | true=>zt2 cap | false=>(match Nat.beq f 118 with | true=>zt3 cap | false=>(match Nat.beq f 119 with | true=>zt4 cap | false=>(match Nat.beq f 120 with | true=>zt5 cap | false=>(match Nat.beq f 122 with | true=>zt6 cap | false=>(match Nat.beq f 124 with | true=>zt7 cap | false=>(match Nat.beq f 126 with | true=>zt8 cap | false=>none)))))))))
 | .v .nilFunc=>some .none
 | _=>none
def Ty.dec:(t:Ty)->List AV->Option t.T
 | .i k,cs=>(match cs with | [.v (.int k' x)]=>(if k=k' then some x else none) | _=>none:Option Int)
 | .b,cs=>(match cs with | [.v (.bool x)]=>some x | _=>none:Option Bool)
 | .s,cs=>(match cs with | [.v (.string x)]=>some x | _=>none:Option ByteArray)
 | .f,cs=>(match cs with | [x]=>zrN x | _=>none:Option Clo)
 | .sl t,cs=>(match cs with | [x]=>zaH t x | _=>none:Option (List t.T))
 | .p t,cs=>(match cs with | [x]=>zcx t x | _=>none:Option (Option t.T))
 | .m k v,cs=>(match cs with | [x]=>zBb k v x | _=>none:Option (List (k.T × v.T)))
 | .u,cs=>(match cs with | [x]=>zrp x | _=>none:Option Unit)
 | .sWindow,cs=>(match cs with | [.v (.int .i64 y0),.v (.int .i64 y1),.v (.int .i64 y2)]=>(some (⟨y0,y1,y2⟩:zan)) | _=>none:Option zan)
 | .sRegion,cs=>(match cs with | [.v (.int .i64 y0),.v (.int .i64 y1),.v (.int .i64 y2),.v (.int .i64 y3)]=>(some (⟨y0,y1,y2,y3⟩:Region)) | _=>none:Option Region)
 | .sPort,cs=>(match cs with | [.v (.int .i64 y0),.v (.bool y1)]=>(some (⟨y0,y1⟩:zb9)) | _=>none:Option zb9)
 | .sPartition,cs=>(match cs with | [.v (.string y0),.v (.int .i64 y1),.v (.int .i64 y2),.v (.int .i64 y3),.v (.int .i64 y4),.v (.int .i64 y5),y6,y7]=>(match zaH .sRegion y6,zaH .sPort y7 with | some y6,some y7=>some (⟨y0,y1,y2,y3,y4,y5,y6,y7⟩:zf) | _,_=>none) | _=>none:Option zf)
 | .sChannel,cs=>(match cs with | [.v (.int .i64 y0),.v (.int .i64 y1),.v (.int .i64 y2)]=>(some (⟨y0,y1,y2⟩:zI)) | _=>none:Option zI)
 | .sConfig,cs=>(match cs with | [.v (.int .i64 y0),.v (.int .i64 y1),.v (.int .i64 y2),.v (.int .i64 y3),y4,y5,y6]=>(match zaH (.sl .sWindow) y4,zaH .sPartition y5,zaH .sChannel y6 with | some y4,some y5,some y6=>some (⟨y0,y1,y2,y3,y4,y5,y6⟩:za) | _,_,_=>none) | _=>none:Option za)
 | .sFeed,cs=>(match cs with | [.v (.int .i64 y0),.v (.int .i64 y1),y2]=>(match zaH (.i .u32) y2 with | some y2=>some (⟨y0,y1,y2⟩:z7) | _=>none) | _=>none:Option z7)
 | .sBulkheadlaw25Start,cs=>(match cs with | [.v (.int .i64 y0),.v (.int .i64 y1),.v (.int .i64 y2),.v (.int .i64 y3),y4,y5,y6,y7,y8]=>(match zaH (.sl .sWindow) y4,zaH .sPartition y5,zaH .sChannel y6,zaH (.sl (.i .u32)) y7,zaH .sFeed y8 with | some y4,some y5,some y6,some y7,some y8=>some (⟨⟨y0,y1,y2,y3,y4,y5,y6⟩,y7,y8⟩:zp) | _,_,_,_,_=>none) | _=>none:Option zp)
 | .sBulkheadlaw25KeptInts,cs=>(match cs with | [y0,y1,y2,y3]=>(match zaH (.i .i64) y0,zaH (.i .i64) y1,zaH (.i .i64) y2,zaH (.i .i64) y3 with | some y0,some y1,some y2,some y3=>some (⟨y0,y1,y2,y3⟩:za8) | _,_,_,_=>none) | _=>none:Option za8)
 | .sBulkheadlaw25Book,cs=>(match cs with | [y0]=>(match zaH .sBulkheadlaw25KeptInts y0 with | some y0=>some (⟨y0⟩:zav) | _=>none) | _=>none:Option zav)
 | .sPartitionPlace,cs=>(match cs with | [.v (.int .i64 y0),.v (.int .i64 y1),.v (.int .i64 y2),.v (.int .i64 y3),y4]=>(match zaH (.i .i64) y4 with | some y4=>some (⟨y0,y1,y2,y3,y4⟩:zk) | _=>none) | _=>none:Option zk)
 | .sDestPlace,cs=>(match cs with | [.v (.int .i64 y0),.v (.int .i64 y1),.v (.int .i64 y2)]=>(some (⟨y0,y1,y2⟩:zaX)) | _=>none:Option zaX)
 | .sChannelPlace,cs=>(match cs with | [.v (.int .i64 y0),.v (.int .i64 y1),.v (.int .i64 y2),.v (.int .i64 y3),y4]=>(match zaH .sDestPlace y4 with | some y4=>some (⟨y0,y1,y2,y3,y4⟩:zF) | _=>none) | _=>none:Option zF)
 | .sLayout,cs=>(match cs with | [.v (.int .i64 y0),y1,y2,.v (.int .i64 y3)]=>(match zaH .sPartitionPlace y1,zaH .sChannelPlace y2 with | some y1,some y2=>some (⟨y0,y1,y2,y3⟩:zaR) | _,_=>none) | _=>none:Option zaR)
 | .sDuctDucts,cs=>(match cs with | [.v (.int .i64 y0),.v (.int .i64 y1),.v (.int .i64 y2),.v (.int .i64 y3),y4,y5,y6,.v (.int .i64 y7),y8,y9,.v (.int .i64 y10)]=>(match zaH (.sl .sWindow) y4,zaH .sPartition y5,zaH .sChannel y6,zaH .sPartitionPlace y8,zaH .sChannelPlace y9 with | some y4,some y5,some y6,some y8,some y9=>some (⟨⟨y0,y1,y2,y3,y4,y5,y6⟩,⟨y7,y8,y9,y10⟩⟩:zG) | _,_,_,_,_=>none) | _=>none:Option zG)
 | .sDeviceWhen,cs=>(match cs with | [.v (.int .i64 y0),.v (.int .i64 y1)]=>(some (⟨y0,y1⟩:zQ)) | _=>none:Option zQ)
 | .sDeviceDevices,cs=>(match cs with | [.v (.int .i64 y0),y1,y2,y3]=>(match zaH (.i .i64) y1,zaH (.i .i64) y2,zBb .sDeviceWhen (.sl (.i .u32)) y3 with | some y1,some y2,some y3=>some (⟨y0,y1,y2,y3⟩:zR) | _,_,_=>none) | _=>none:Option zR)
 | .sHealthCare,cs=>(match cs with | [y0,y1]=>(match zrp y0,zrp y1 with | some y0,some y1=>some (⟨y0,y1⟩:zay) | _,_=>none) | _=>none:Option zay)
 | .sHealthWard,cs=>(match cs with | [.v (.int .i64 y0),.v (.int .i64 y1),.v (.int .i64 y2),.v (.int .i64 y3),y4,.v (.int .u32 y5),.v (.int .u32 y6),.v (.int .u32 y7),y8,y9]=>(match zaH (.i .i64) y4,zrp y8,zrp y9 with | some y4,some y8,some y9=>some (⟨⟨y0,y1,y2,y3,y4⟩,y5,y6,y7,⟨y8,y9⟩⟩:zX) | _,_,_=>none) | _=>none:Option zX)
 | .sHealthWards,cs=>(match cs with | [.v (.int .i64 y0),y1]=>(match zaH .sHealthWard y1 with | some y1=>some (⟨y0,y1⟩:zae) | _=>none) | _=>none:Option zae)
 | .sCallsCalls,cs=>(match cs with | [.v (.int .i64 y0),.v (.int .i64 y1),y2,y3,.v (.int .i64 y4),y5,y6,y7]=>(match zaH .sPartitionPlace y2,zaH .sChannelPlace y3,zcx .sDuctDucts y5,zcx .sDeviceDevices y6,zcx .sHealthWards y7 with | some y2,some y3,some y5,some y6,some y7=>some (⟨y0,⟨y1,y2,y3,y4⟩,y5,y6,y7⟩:zr) | _,_,_,_,_=>none) | _=>none:Option zr)
 | .sBulkheadref21Ducts,cs=>(match cs with | [.v (.int .i64 y0),.v (.int .i64 y1),.v (.int .i64 y2),.v (.int .i64 y3),y4,y5,y6,.v (.int .i64 y7),y8,y9,.v (.int .i64 y10)]=>(match zaH (.sl .sWindow) y4,zaH .sPartition y5,zaH .sChannel y6,zaH .sPartitionPlace y8,zaH .sChannelPlace y9 with | some y4,some y5,some y6,some y8,some y9=>some (⟨⟨y0,y1,y2,y3,y4,y5,y6⟩,⟨y7,y8,y9,y10⟩⟩:zaT) | _,_,_,_,_=>none) | _=>none:Option zaT)
 | .sBulkheadref22Devices,cs=>(match cs with | [.v (.int .i64 y0),.v (.int .i64 y1),.v (.int .i64 y2),.v (.int .i64 y3),y4,y5,y6,.v (.int .i64 y7),y8,y9,.v (.int .i64 y10),y11]=>(match zaH (.sl .sWindow) y4,zaH .sPartition y5,zaH .sChannel y6,zaH .sPartitionPlace y8,zaH .sChannelPlace y9,zaH .sFeed y11 with | some y4,some y5,some y6,some y8,some y9,some y11=>some (⟨⟨y0,y1,y2,y3,y4,y5,y6⟩,⟨y7,y8,y9,y10⟩,y11⟩:zaw) | _,_,_,_,_,_=>none) | _=>none:Option zaw)
 | .sBulkheadref23Wards,cs=>(match cs with | [.v (.int .i64 y0),.v (.int .i64 y1),.v (.int .i64 y2),.v (.int .i64 y3),y4,y5,y6,.v (.int .i64 y7),y8,y9,.v (.int .i64 y10)]=>(match zaH (.sl .sWindow) y4,zaH .sPartition y5,zaH .sChannel y6,zaH .sPartitionPlace y8,zaH .sChannelPlace y9 with | some y4,some y5,some y6,some y8,some y9=>some (⟨⟨y0,y1,y2,y3,y4,y5,y6⟩,⟨y7,y8,y9,y10⟩⟩:zaU) | _,_,_,_,_=>none) | _=>none:Option zaU)
 | .sBulkheadref25Calls,cs=>(match cs with | [.v (.int .i64 y0),.v (.int .i64 y1),.v (.int .i64 y2),.v (.int .i64 y3),y4,y5,y6,.v (.int .i64 y7),y8,y9,.v (.int .i64 y10),y11,y12,y13]=>(match zaH (.sl .sWindow) y4,zaH .sPartition y5,zaH .sChannel y6,zaH .sPartitionPlace y8,zaH .sChannelPlace y9,zcx .sBulkheadref21Ducts y11,zcx .sBulkheadref22Devices y12,zcx .sBulkheadref23Wards y13 with | some y4,some y5,some y6,some y8,some y9,some y11,some y12,some y13=>some (⟨⟨y0,y1,y2,y3,y4,y5,y6⟩,⟨y7,y8,y9,y10⟩,y11,y12,y13⟩:zaV) | _,_,_,_,_,_,_,_=>none) | _=>none:Option zaV)
 | .sMemMemory,cs=>(match cs with | [y0]=>(match zaH (.i .u32) y0 with | some y0=>some (⟨y0⟩:ze) | _=>none) | _=>none:Option ze)
 | .sBulkheadref05Memory,cs=>(match cs with | [y0]=>(match zaH (.i .u32) y0 with | some y0=>some (⟨y0⟩:zaE) | _=>none) | _=>none:Option zaE)
 | .sBulkheadlaw25World,cs=>(match cs with | [.v (.int .i64 y0),.v (.int .i64 y1),.v (.int .i64 y2),.v (.int .i64 y3),y4,y5,y6,y7,y8,y9,y10,y11,y12,y13]=>(match zaH (.sl .sWindow) y4,zaH .sPartition y5,zaH .sChannel y6,zcx .sCallsCalls y7,zcx .sBulkheadref25Calls y8,zcx .sMemMemory y9,zcx .sBulkheadref05Memory y10,zcx .sMemMemory y11,zcx .sBulkheadref05Memory y12,zaH .sBulkheadlaw25KeptInts y13 with | some y4,some y5,some y6,some y7,some y8,some y9,some y10,some y11,some y12,some y13=>some (⟨⟨y0,y1,y2,y3,y4,y5,y6⟩,y7,y8,y9,y10,y11,y12,⟨y13⟩⟩:zS) | _,_,_,_,_,_,_,_,_,_=>none) | _=>none:Option zS)
 | .sBulkheadlaw25Op,cs=>(match cs with | [.v (.int .i64 y0),.v (.int .i64 y1),.v (.int .i64 y2),.v (.int .i64 y3),.v (.int .i64 y4),.v (.int .u32 y5),.v (.int .u32 y6),.v (.int .u32 y7),.v (.int .u32 y8),y9]=>(match zaH (.i .i64) y9 with | some y9=>some (⟨y0,y1,y2,y3,y4,y5,y6,y7,y8,y9⟩:zq) | _=>none) | _=>none:Option zq)
 | .sArr16Intu32,cs=>(match cs with | [.v (.int .u32 y0),.v (.int .u32 y1),.v (.int .u32 y2),.v (.int .u32 y3),.v (.int .u32 y4),.v (.int .u32 y5),.v (.int .u32 y6),.v (.int .u32 y7),.v (.int .u32 y8),.v (.int .u32 y9),.v (.int .u32 y10),.v (.int .u32 y11),.v (.int .u32 y12),.v (.int .u32 y13),.v (.int .u32 y14),.v (.int .u32 y15)]=>(some (⟨y0,y1,y2,y3,y4,y5,y6,y7,y8,y9,y10,y11,y12,y13,y14,y15⟩:z6)) | _=>none:Option z6)
 | .sContext,cs=>(match cs with | [.v (.int .u32 y0),.v (.int .u32 y1),.v (.int .u32 y2),.v (.int .u32 y3),.v (.int .u32 y4),.v (.int .u32 y5),.v (.int .u32 y6),.v (.int .u32 y7),.v (.int .u32 y8),.v (.int .u32 y9),.v (.int .u32 y10),.v (.int .u32 y11),.v (.int .u32 y12),.v (.int .u32 y13),.v (.int .u32 y14),.v (.int .u32 y15),.v (.int .u32 y16)]=>(some (⟨⟨y0,y1,y2,y3,y4,y5,y6,y7,y8,y9,y10,y11,y12,y13,y14,y15⟩,y16⟩:zB)) | _=>none:Option zB)
 | .sCallsWork,cs=>(match cs with | [y0,y1,.v (.int .i64 y2),.v (.int .i64 y3),.v (.int .u32 y4),.v (.int .u32 y5),.v (.int .u32 y6),.v (.int .u32 y7),.v (.int .u32 y8),.v (.int .u32 y9),.v (.int .u32 y10),.v (.int .u32 y11),.v (.int .u32 y12),.v (.int .u32 y13),.v (.int .u32 y14),.v (.int .u32 y15),.v (.int .u32 y16),.v (.int .u32 y17),.v (.int .u32 y18),.v (.int .u32 y19),.v (.int .u32 y20)]=>(match zcx .sCallsCalls y0,zcx .sMemMemory y1 with | some y0,some y1=>some (⟨y0,y1,y2,y3,⟨⟨y4,y5,y6,y7,y8,y9,y10,y11,y12,y13,y14,y15,y16,y17,y18,y19⟩,y20⟩⟩:zah) | _,_=>none) | _=>none:Option zah)
 | .sCallsTold,cs=>(match cs with | [.v (.int .u32 y0),.v (.int .u32 y1),.v (.int .u32 y2)]=>(some (⟨y0,y1,y2⟩:zaN)) | _=>none:Option zaN)
 | .sOwner,cs=>(match cs with | [.v (.int .i64 y0),.v (.int .i64 y1),.v (.int .i64 y2)]=>(some (⟨y0,y1,y2⟩:zaF)) | _=>none:Option zaF)
 | .sBulkheadlaw25Line,cs=>(match cs with | [y0,y1]=>(match zaH (.sl (.i .u32)) y0,zaH (.sl (.i .u32)) y1 with | some y0,some y1=>some (⟨y0,y1⟩:zb2) | _,_=>none) | _=>none:Option zb2)
 | .sWhere,cs=>(match cs with | [.v (.int .i64 y0),.v (.int .i64 y1)]=>(some (⟨y0,y1⟩:za0)) | _=>none:Option za0)
 | .sBulkheadref15Piece,cs=>(match cs with | [.v (.int .i64 y0),.v (.int .i64 y1),.v (.int .i64 y2),.v (.int .i64 y3),.v (.int .i64 y4)]=>(some (⟨y0,y1,⟨y2,y3,y4⟩⟩:zm)) | _=>none:Option zm)
 | .sAdmitFound,cs=>(match cs with | [.v (.int .i64 y0),.v (.int .i64 y1),.v (.int .i64 y2)]=>(some (⟨y0,⟨y1,y2⟩⟩:zx)) | _=>none:Option zx)
 | .sLayoutEnd,cs=>(match cs with | [.v (.int .i64 y0),.v (.int .i64 y1)]=>(some (⟨y0,y1⟩:LayoutEnd)) | _=>none:Option LayoutEnd)
 | .sDuctEnds,cs=>(match cs with | [.v (.int .i64 y0),.v (.int .i64 y1),y2]=>(match zaH (.i .i64) y2 with | some y2=>some (⟨y0,y1,y2⟩:zdv) | _=>none) | _=>none:Option zdv)
 | .sDuctRow,cs=>(match cs with | [.v (.int .i64 y0),.v (.int .i64 y1),y2,.v (.int .i64 y3)]=>(match zaH (.i .i64) y2 with | some y2=>some (⟨⟨y0,y1,y2⟩,y3⟩:zbA) | _=>none) | _=>none:Option zbA)
 | .sDuctLast,cs=>(match cs with | [.v (.int .i64 y0),.v (.int .i64 y1),y2]=>(match zaH (.i .i64) y2 with | some y2=>some (⟨⟨y0,y1,y2⟩⟩:zbd) | _=>none) | _=>none:Option zbd)
 | .sLeaf,cs=>(match cs with | [.v (.int .i64 y0),.v (.int .i64 y1),.v (.int .i64 y2)]=>(some (⟨y0,y1,y2⟩:zlo)) | _=>none:Option zlo)
 | .sQueueForm,cs=>(match cs with | [.v (.int .i64 y0),.v (.int .i64 y1)]=>(some (⟨y0,y1⟩:zy)) | _=>none:Option zy)
 | .sQueueRow,cs=>(match cs with | [.v (.int .u32 y0),.v (.int .u32 y1),y2]=>(match zaH (.sl (.i .u32)) y2 with | some y2=>some (⟨y0,y1,y2⟩:zU) | _=>none) | _=>none:Option zU)
def zdQ:TypeId->Option Ty
 | 1=>some .f
 | 2=>some (.i .i64)
 | 3=>some (.i .i64)
 | 4=>some .b
 | 5=>some (.i .u8)
 | 6=>some (.i .u8)
 | 9=>some .s
 | 10=>some .s
 | 11=>some .s
 | 12=>some (.i .u64)
 | 21=>some (.i .i32)
 | 22=>some (.sl (.sl .sWindow))
 | 23=>some (.sl .sPartition)
 | 24=>some (.sl .sChannel)
 | 26=>some .sConfig
 | 27=>some (.sl (.sl (.i .u32)))
 | 28=>some (.sl .sFeed)
 | 30=>some .sBulkheadlaw25Start
 | 31=>some (.sl .sBulkheadlaw25Op)
 | 32=>some .f
 | 33=>some .f
 | 34=>some (.p .sBulkheadlaw25World)
 | 36=>some .f
 | 37=>some (.p .sCallsCalls)
 | 38=>some (.p .sBulkheadref25Calls)
 | 39=>some (.p .sMemMemory)
 | 40=>some (.p .sBulkheadref05Memory)
 | 41=>some (.sl .sBulkheadlaw25KeptInts)
 | 43=>some .sBulkheadlaw25Book
 | 45=>some .sBulkheadlaw25World
 | 46=>some (.i .u32)
 | 47=>some (.sl (.i .i64))
 | 49=>some .sBulkheadlaw25Op
 | 50=>some (.i .i64)
 | 51=>some .f
 | 52=>some .f
 | 53=>some (.sl (.i .u32))
 | 54=>some .f
 | 55=>some .sArr16Intu32
 | 57=>some .sContext
 | 59=>some .f
 | 60=>some .f
 | 61=>some .f
 | 62=>some .f
 | 63=>some (.sl .sOwner)
 | 64=>some .f
 | 65=>some .f
 | 66=>some .f
 | 67=>some (.sl .sBulkheadlaw25Line)
 | 68=>some .f
 | 69=>some (.sl .sRegion)
 | 70=>some (.sl .sPort)
 | 72=>some .sPartition
 | 74=>some .sPort
 | 76=>some .sChannel
 | 77=>some .f
 | 78=>some .f
 | 80=>some .f
 | 82=>some .f
 | 83=>some .f
 | 85=>some .sFeed
 | 86=>some .f
 | 87=>some .f
 | 89=>some .f
 | 91=>some .f
 | 92=>some .f
 | 93=>some .f
 | 95=>some .f
 | 97=>some .f
 | 99=>some .f
 | 100=>some .u
 | 101=>some (.sl .sPartitionPlace)
 | 102=>some (.sl .sChannelPlace)
 | 104=>some .sLayout
 | 105=>some (.p .sDuctDucts)
 | 106=>some (.p .sDeviceDevices)
 | 107=>some (.p .sHealthWards)
 | 109=>some .sCallsCalls
 | 110=>some .f
 | 112=>some .sMemMemory
 | 113=>some .f
 | 114=>some (.p .sCallsWork)
 | 116=>some .sCallsWork
 | 118=>some .sCallsTold
 | 120=>some .f
 | 122=>some .f
 | 124=>some .sOwner
 | 126=>some .f
 | 127=>some .f
 | 128=>some .f
 | 130=>some .sBulkheadlaw25Line
 | 132=>some .f
 | 133=>some .f
 | 135=>some .sWindow
 | 136=>some (.sl .sWindow)
 | 138=>some .sRegion
 | 140=>some .sPartitionPlace
 | 142=>some .f
 | 144=>some .sWhere
 | 146=>some .f
 | 148=>some .f
 | 150=>some .f
 | 152=>some .f
 | 154=>some .f
 | 155=>some (.p .sBulkheadref21Ducts)
 | 156=>some (.p .sBulkheadref22Devices)
 | 157=>some (.p .sBulkheadref23Wards)
 | 159=>some .sBulkheadref25Calls
 | 161=>some .f
 | 163=>some .f
 | 165=>some .f
 | 166=>some .f
 | 167=>some .f
 | 168=>some .f
 | 169=>some .f
 | 171=>some .sBulkheadref05Memory
 | 172=>some .f
 | 174=>some .sDuctDucts
 | 177=>some .f
 | 178=>some .f
 | 179=>some (.sl .sBulkheadref15Piece)
 | 180=>some .f
 | 182=>some .sBulkheadref15Piece
 | 183=>some .f
 | 184=>some .f
 | 186=>some .f
 | 187=>some (.sl .sDestPlace)
 | 189=>some .sChannelPlace
 | 190=>some (.sl .f)
 | 191=>some .f
 | 192=>some .f
 | 194=>some .sAdmitFound
 | 195=>some (.m .sDeviceWhen (.sl (.i .u32)))
 | 197=>some .sDeviceDevices
 | 199=>some .sDeviceWhen
 | 200=>some .f
 | 201=>some .f
 | 202=>some (.sl .sLayoutEnd)
 | 204=>some .f
 | 205=>some .f
 | 207=>some .sLayoutEnd
 | 209=>some .sDestPlace
 | 210=>some .f
 | 211=>some (.sl .sHealthWard)
 | 213=>some .sHealthWards
 | 214=>some .u
 | 216=>some .sHealthCare
 | 217=>some .f
 | 219=>some .sHealthWard
 | 220=>some .f
 | 221=>some .f
 | 222=>some .f
 | 223=>some .f
 | 224=>some .f
 | 226=>some .f
 | 228=>some .sBulkheadref21Ducts
 | 229=>some .sBulkheadref23Wards
 | 230=>some .f
 | 232=>some .sBulkheadref22Devices
 | 233=>some .f
 | 234=>some .f
 | 235=>some .f
 | 237=>some .sDuctEnds
 | 239=>some .sDuctRow
 | 241=>some .sDuctLast
 | 242=>some .f
 | 243=>some .f
 | 244=>some .f
 | 246=>some .f
 | 248=>some .f
 | 250=>some .f
 | 251=>some .f
 | 252=>some .f
 | 254=>some .f
 | 256=>some .f
 | 257=>some .f
 | 258=>some .f
 | 259=>some .f
 | 260=>some .f
 | 261=>some .f
 | 262=>some .f
 | 263=>some .f
 | 265=>some .f
 | 266=>some .f
 | 267=>some .f
 | 268=>some .f
 | 269=>some .f
 | 270=>some .f
 | 271=>some .f
 | 272=>some (.i .u64)
 | 273=>some .f
 | 274=>some .f
 | 276=>some .f
 | 278=>some .f
 | 279=>some .f
 | 280=>some .f
 | 281=>some .f
 | 283=>some .f
 | 284=>some (.i .u64)
 | 285=>some .f
 | 286=>some .f
 | 287=>some .f
 | 288=>some .f
 | 289=>some .f
 | 290=>some .f
 | 292=>some .f
 | 293=>some .f
 | 295=>some .sLeaf
 | 297=>some .f
 | 299=>some .sQueueForm
 | 301=>some .sQueueRow
 | 303=>some .f
 | 304=>some .f
 | 305=>some (.sl .sAdmitFound)
 | 307=>some .f
 | 309=>some .f
 | 310=>some .f
 | 312=>some .f
 | 313=>some .f
 | 314=>some .f
 | 316=>some .f
 | 317=>some .f
 | 318=>some .f
 | 320=>some .f
 | 321=>some .f
 | 322=>some .f
 | 323=>some .f
 | 329=>some (.i .u8)
 | 330=>some (.i .u8)
 | 331=>some .f
 | 333=>some (.i .i32)
 | 334=>some (.i .i32)
 | 337=>some .f
 | 339=>some .sBulkheadlaw25KeptInts
 | 341=>some .f
 | 343=>some .f
 | 344=>some .f
 | 345=>some .f
 | 347=>some .f
 | 348=>some (.sl .sQueueRow)
 | 349=>some .f
 | 351=>some .f
 | 352=>some .f
 | 353=>some .f
 | 354=>some .f
 | 355=>some .f
 | 356=>some .f
 | 357=>some .f
 | 358=>some .f
 | _=>none
def Ty.leaves:Ty->List Ty
 | .i k=>[.i k] | .b=>[.b] | .s=>[.s] | .f=>[.f] | .sl t=>[.sl t] | .p t=>[.p t] | .m k v=>[.m k v] | .u=>[.u]
 | .sWindow=>[.i .i64,.i .i64,.i .i64]
 | .sRegion=>[.i .i64,.i .i64,.i .i64,.i .i64]
 | .sPort=>[.i .i64,.b]
 | .sPartition=>[.s,.i .i64,.i .i64,.i .i64,.i .i64,.i .i64,.sl .sRegion,.sl .sPort]
 | .sChannel=>[.i .i64,.i .i64,.i .i64]
 | .sConfig=>[.i .i64,.i .i64,.i .i64,.i .i64,.sl (.sl .sWindow),.sl .sPartition,.sl .sChannel]
 | .sFeed=>[.i .i64,.i .i64,.sl (.i .u32)]
 | .sBulkheadlaw25Start=>[.i .i64,.i .i64,.i .i64,.i .i64,.sl (.sl .sWindow),.sl .sPartition,.sl .sChannel,.sl (.sl (.i .u32)),.sl .sFeed]
 | .sBulkheadlaw25KeptInts=>[.sl (.i .i64),.sl (.i .i64),.sl (.i .i64),.sl (.i .i64)]
 | .sBulkheadlaw25Book=>[.sl .sBulkheadlaw25KeptInts]
 | .sPartitionPlace=>[.i .i64,.i .i64,.i .i64,.i .i64,.sl (.i .i64)]
 | .sDestPlace=>[.i .i64,.i .i64,.i .i64]
 | .sChannelPlace=>[.i .i64,.i .i64,.i .i64,.i .i64,.sl .sDestPlace]
 | .sLayout=>[.i .i64,.sl .sPartitionPlace,.sl .sChannelPlace,.i .i64]
 | .sDuctDucts=>[.i .i64,.i .i64,.i .i64,.i .i64,.sl (.sl .sWindow),.sl .sPartition,.sl .sChannel,.i .i64,.sl .sPartitionPlace,.sl .sChannelPlace,.i .i64]
 | .sDeviceWhen=>[.i .i64,.i .i64]
 | .sDeviceDevices=>[.i .i64,.sl (.i .i64),.sl (.i .i64),.m .sDeviceWhen (.sl (.i .u32))]
 | .sHealthCare=>[.u,.u]
 | .sHealthWard=>[.i .i64,.i .i64,.i .i64,.i .i64,.sl (.i .i64),.i .u32,.i .u32,.i .u32,.u,.u]
 | .sHealthWards=>[.i .i64,.sl .sHealthWard]
 | .sCallsCalls=>[.i .i64,.i .i64,.sl .sPartitionPlace,.sl .sChannelPlace,.i .i64,.p .sDuctDucts,.p .sDeviceDevices,.p .sHealthWards]
 | .sBulkheadref21Ducts=>[.i .i64,.i .i64,.i .i64,.i .i64,.sl (.sl .sWindow),.sl .sPartition,.sl .sChannel,.i .i64,.sl .sPartitionPlace,.sl .sChannelPlace,.i .i64]
 | .sBulkheadref22Devices=>[.i .i64,.i .i64,.i .i64,.i .i64,.sl (.sl .sWindow),.sl .sPartition,.sl .sChannel,.i .i64,.sl .sPartitionPlace,.sl .sChannelPlace,.i .i64,.sl .sFeed]
 | .sBulkheadref23Wards=>[.i .i64,.i .i64,.i .i64,.i .i64,.sl (.sl .sWindow),.sl .sPartition,.sl .sChannel,.i .i64,.sl .sPartitionPlace,.sl .sChannelPlace,.i .i64]
 | .sBulkheadref25Calls=>[.i .i64,.i .i64,.i .i64,.i .i64,.sl (.sl .sWindow),.sl .sPartition,.sl .sChannel,.i .i64,.sl .sPartitionPlace,.sl .sChannelPlace,.i .i64,.p .sBulkheadref21Ducts,.p .sBulkheadref22Devices,.p .sBulkheadref23Wards]
 | .sMemMemory=>[.sl (.i .u32)]
 | .sBulkheadref05Memory=>[.sl (.i .u32)]
 | .sBulkheadlaw25World=>[.i .i64,.i .i64,.i .i64,.i .i64,.sl (.sl .sWindow),.sl .sPartition,.sl .sChannel,.p .sCallsCalls,.p .sBulkheadref25Calls,.p .sMemMemory,.p .sBulkheadref05Memory,.p .sMemMemory,.p .sBulkheadref05Memory,.sl .sBulkheadlaw25KeptInts]
 | .sBulkheadlaw25Op=>[.i .i64,.i .i64,.i .i64,.i .i64,.i .i64,.i .u32,.i .u32,.i .u32,.i .u32,.sl (.i .i64)]
 | .sArr16Intu32=>[.i .u32,.i .u32,.i .u32,.i .u32,.i .u32,.i .u32,.i .u32,.i .u32,.i .u32,.i .u32,.i .u32,.i .u32,.i .u32,.i .u32,.i .u32,.i .u32]
 | .sContext=>[.i .u32,.i .u32,.i .u32,.i .u32,.i .u32,.i .u32,.i .u32,.i .u32,.i .u32,.i .u32,.i .u32,.i .u32,.i .u32,.i .u32,.i .u32,.i .u32,.i .u32]
 | .sCallsWork=>[.p .sCallsCalls,.p .sMemMemory,.i .i64,.i .i64,.i .u32,.i .u32,.i .u32,.i .u32,.i .u32,.i .u32,.i .u32,.i .u32,.i .u32,.i .u32,.i .u32,.i .u32,.i .u32,.i .u32,.i .u32,.i .u32,.i .u32]
 | .sCallsTold=>[.i .u32,.i .u32,.i .u32]
 | .sOwner=>[.i .i64,.i .i64,.i .i64]
 | .sBulkheadlaw25Line=>[.sl (.sl (.i .u32)),.sl (.sl (.i .u32))]
 | .sWhere=>[.i .i64,.i .i64]
 | .sBulkheadref15Piece=>[.i .i64,.i .i64,.i .i64,.i .i64,.i .i64]
 | .sAdmitFound=>[.i .i64,.i .i64,.i .i64]
 | .sLayoutEnd=>[.i .i64,.i .i64]
 | .sDuctEnds=>[.i .i64,.i .i64,.sl (.i .i64)]
 | .sDuctRow=>[.i .i64,.i .i64,.sl (.i .i64),.i .i64]
 | .sDuctLast=>[.i .i64,.i .i64,.sl (.i .i64)]
 | .sLeaf=>[.i .i64,.i .i64,.i .i64]
 | .sQueueForm=>[.i .i64,.i .i64]
 | .sQueueRow=>[.i .u32,.i .u32,.sl (.sl (.i .u32))]
def zGZ:List Nat:=[8,48,26,46,49,61]
def zwA:Nat:=360
def Ty.dat:Ty->Bool
 | .i _=>true | .b=>true | .s=>true | .f=>false | .sl t=>t.dat | .p _=>false | .m _ _=>false | .u=>false
 | .sWindow=>true
 | .sRegion=>true
 | .sPort=>true
 | .sPartition=>true
 | .sChannel=>true
 | .sConfig=>true
 | .sFeed=>true
 | .sBulkheadlaw25Start=>true
 | .sBulkheadlaw25KeptInts=>true
 | .sBulkheadlaw25Book=>true
 | .sPartitionPlace=>true
 | .sDestPlace=>true
 | .sChannelPlace=>true
 | .sLayout=>true
 | .sDuctDucts=>true
 | .sDeviceWhen=>true
 | .sDeviceDevices=>false
 | .sHealthCare=>false
 | .sHealthWard=>false
 | .sHealthWards=>false
 | .sCallsCalls=>false
 | .sBulkheadref21Ducts=>true
 | .sBulkheadref22Devices=>true
 | .sBulkheadref23Wards=>true
 | .sBulkheadref25Calls=>false
 | .sMemMemory=>true
 | .sBulkheadref05Memory=>true
 | .sBulkheadlaw25World=>false
 | .sBulkheadlaw25Op=>true
 | .sArr16Intu32=>true
 | .sContext=>true
 | .sCallsWork=>false
 | .sCallsTold=>true
 | .sOwner=>true
 | .sBulkheadlaw25Line=>true
 | .sWhere=>true
 | .sBulkheadref15Piece=>true
 | .sAdmitFound=>true
 | .sLayoutEnd=>true
 | .sDuctEnds=>true
 | .sDuctRow=>true
 | .sDuctLast=>true
 | .sLeaf=>true
 | .sQueueForm=>true
 | .sQueueRow=>true
theorem cnT.{u}{α:Sort u}(a b:α):cond true a b=a:=rfl
theorem cnF.{u}{α:Sort u}(a b:α):cond false a b=b:=rfl
theorem tnC(n:Nat):(n:Int).toNat=n:=Int.toNat_natCast n
theorem qY{α β:Type}(a:α)(f:α->Option β):(some a).bind f=f a:=rfl
theorem qU(n:Nat):(n:Int).toNat=n:=Int.toNat_natCast n
theorem qI{α:Type}[BEq α][ReflBEq α](a:α):(a==a)=true:=beq_self_eq_true a
theorem qO{α:Type}{a:α} : [a].length=1:=rfl
theorem qP{α:Type}{a b:α}:(some a).getD b=a:=rfl
theorem qA{α:Type}{a:α}:(some a).isSome=true:=rfl
theorem qS{α:Type}{a:α}:(some a).isNone=false:=rfl
theorem qD{n:Nat}:n<=n:=Nat.le_refl n
theorem qF{m n:Nat}:m ∈ List.range n ↔ m<n:=List.mem_range
theorem qG{p:Prop}[Decidable p]:(decide p=true)=p:=decide_eq_true_eq
theorem qH(a b:Bool):((a&&b)=true)=(a=true/\b=true):=Bool.and_eq_true a b
end Go.Proofs.YtgajeebphoiphaaGreatDoor
end
